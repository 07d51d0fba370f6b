/- The document's board: Send. Conditions: as before. -/
import Derived.Test.YtdcekgdihnlbpaaCRef5
namespace Go.Proofs.Ytdcekgdihnlbpaa
open Go Go.RowKit
set_option maxHeartbeats 400000
section
variable {w w' : World} {lo n k tc : Nat} {TA : Option Addr} {rows : List Rw} {S E L : Rw}

theorem RowIn.upd2 {X : List Nat} {k : IntKind} {r : Rw} (h : RowIn w lo k r) (u : Upd X w w') (hX : ∀ s, s ∈ X → ∀ a, r.A = some a → a.block ≠ s) : RowIn w' lo k r :=
  ⟨(h.l.upd2 u (Nat.le_refl _) (fun s hs _ a ha => hX s hs a ha)).more (Nat.le_refl _) u.size, h.nl, h.le, h.cm⟩
theorem RowIn.more {lo' : Nat} {k : IntKind} {r : Rw} (h : RowIn w lo k r) (hl : lo' ≤ lo) : RowIn w lo' k r := ⟨h.l.more hl (Nat.le_refl _), h.nl, h.le, h.cm⟩
theorem RowIn.of_own {N c : Nat} {A : Option Addr} {xs : List Int} {k : IntKind} {t : TypeId} (h : w.ownsRow N t 1 (.slice A xs.length c) xs.length (xs.map (Value.int k))) : RowIn w N k ⟨A, c, xs⟩ := by
  obtain ⟨A', c', hv, hc, _, hn⟩ := own_form h
  injection hv with e1 _ e3
  subst e1
  subst e3
  exact ⟨CellsIn.of_own h, hn, hc, own_cap h⟩

/-- what is sent to each, so far -/
structure SnAt (w wr : World) (T : Value) (S E L : Rw) (k : Nat) (rows : List Rw) (e0 : Int) (i : Nat) (va : Value) (rs : List Rw) : Prop where
  own : wr.ownsRow (w.heap.size + 1 + 1) 39 1 va i (rs.map encR)
  len : rs.length = i
  each : ∀ (q : Nat) (r' : Rw), rs[q]? = some r' → RowIn wr (w.heap.size + 1 + 1) .u64 r' ∧ ∃ r, rows[q]? = some r ∧ r'.xs = r.xs ++ [e0]
  ap : ∀ r', r' ∈ rs → ∀ a, r'.A = some a → va.ownBlock ≠ some a.block
  b0 : Blk wr w.heap.size 41 #[T, .slice S.A S.xs.length S.c, .slice E.A E.xs.length E.c, .slice L.A L.xs.length L.c, .int .i64 k]
  b1 : Blk wr (w.heap.size + 1) 41 #[.slice none 0 0, .slice none 0 0, .slice none 0 0, .slice none 0 0, .int .i64 0]
  bel : Below w.heap.size w wr
  size : w.heap.size + 1 + 1 ≤ wr.heap.size

theorem SnAt.step {wr w1 w2 w3 : World} {T v1 v2 va va' : Value} {rs : List Rw} {e0 : Int} {i : Nat} {o1 o2 : Obj} (h : SnAt w wr T S E L k rows e0 i va rs) (r : Rw) (hr : rows[i]? = some r)
    (hown1 : w1.ownsRow wr.heap.size 30 1 v1 r.xs.length (r.xs.map (Value.int .u64))) (hg1 : wr.grownBy w1 (Value.slice none 0 0).ownBlock)
    (hown2 : w2.ownsRow wr.heap.size 30 1 v2 (r.xs.length + 1) (r.xs.map (Value.int .u64) ++ [.int .u64 e0])) (hg2 : (w1.alloc o1).grownBy w2 v1.ownBlock)
    (hown3 : w3.ownsRow (w.heap.size + 1 + 1) 39 1 va' (i + 1) (rs.map encR ++ [v2])) (hg3 : (w2.alloc o2).grownBy w3 va.ownBlock) (hat3 : va'.ownBlock = va.ownBlock ∨ va'.ownBlock = some (w2.alloc o2).heap.size) :
    ∃ r', SnAt w w3 T S E L k rows e0 (i + 1) va' (rs ++ [r']) := by
  obtain ⟨A2, c2, hv2, hcap2, hA2, hn2⟩ := own_form hown2
  subst hv2
  have hl : (r.xs ++ [e0]).length = r.xs.length + 1 := by simp
  rw [show (r.xs.map (Value.int .u64) ++ [.int .u64 e0]) = (r.xs ++ [e0]).map (Value.int .u64) by simp, ← hl] at hown2
  have hrow2 := RowIn.of_own hown2
  have hb1 := grown_upd (World.ownsRow_nil _ _ 30 1) hg1 (N := wr.heap.size) (Nat.le_refl _)
  have hb2 := grown_upd (hown1.alloc o1) hg2 (N := wr.heap.size) (Nat.le_trans hb1.size (by simp))
  have hb12 : Below wr.heap.size wr w2 := (hb1.alloc hb1.size o1).trans hb2
  have hsz2 := hb12.size
  have hown0 := (ownsRow_upd h.own (Upd.of_below (S := []) hb12) (by simp)).alloc o2
  have hu3 : Upd va.ownBlock.toList (w2.alloc o2) w3 := Upd.of_grown hg3
  have hb3 := grown_upd hown0 hg3 (N := w.heap.size + 1 + 1) (Nat.le_trans h.size (Nat.le_trans hsz2 (by simp)))
  have hva : ∀ s, s ∈ va.ownBlock.toList → s < wr.heap.size := fun s hs => (own_block_lt h.own (g := s) (by simpa using hs)).2
  have hr2 : RowIn w3 wr.heap.size .u64 ⟨A2, c2, r.xs ++ [e0]⟩ := (hrow2.upd ((Upd.refl [] w2).alloc o2) (by simp)).upd hu3 hva
  refine ⟨⟨A2, c2, r.xs ++ [e0]⟩, ?_, by rw [List.length_append, h.len]; rfl, fun q r' hq => ?_, fun r' hm a ha he => ?_, ?_, ?_, ?_, Nat.le_trans h.size (Nat.le_trans hsz2 (Nat.le_trans (by simp) hb3.size))⟩
  · rw [List.map_append]
    have : encR ⟨A2, c2, r.xs ++ [e0]⟩ = .slice A2 (r.xs.length + 1) c2 := by unfold encR; dsimp only; rw [hl]
    rw [List.map_cons, List.map_nil, this]
    exact hown3
  · by_cases hq' : q < rs.length
    · rw [List.getElem?_append_left hq'] at hq
      obtain ⟨h1, h2⟩ := h.each q r' hq
      refine ⟨((h1.below hb12).upd ((Upd.refl [] w2).alloc o2) (by simp)).upd2 hu3 (fun s hs a ha e => ?_), h2⟩
      exact h.ap r' (List.mem_of_getElem? hq) a ha (by rw [e]; simpa using hs)
    · rw [List.getElem?_append_right (by omega)] at hq
      have hq0 : q - rs.length = 0 := by
        have := (List.getElem?_eq_some_iff.1 hq).1
        simp at this; omega
      rw [hq0] at hq
      obtain rfl : _ = r' := Option.some.inj hq
      exact ⟨hr2.more h.size, r, by rw [show q = i by have := h.len; omega]; exact hr, rfl⟩
  · rcases List.mem_append.1 hm with hm | hm
    · rcases hat3 with e | e
      · rw [e] at he; exact h.ap r' hm a ha he
      · rw [e] at he
        obtain ⟨q, hq⟩ := List.getElem?_of_mem hm
        obtain ⟨h1, r0, _, hx⟩ := h.each q r' hq
        obtain ⟨b, off, hA, _, hlt, _⟩ := h1.at (by rw [hx]; simp)
        rw [ha] at hA
        injection hA with hA
        subst hA
        injection he with he
        simp at he
        omega
    · rw [List.mem_singleton] at hm
      subst hm
      dsimp only at ha
      obtain ⟨g2, hg2', hlo2, hlt2⟩ := hA2 (by omega)
      rw [ha] at hg2'
      injection hg2' with hg2'
      subst hg2'
      dsimp only at he
      rcases hat3 with e | e
      · rw [e] at he
        have := hva g2 (by rw [he]; simp)
        omega
      · rw [e] at he
        injection he with he
        simp at he
        omega
  · exact ((h.b0.below hb12 h.b0.lt).alloc o2).below hb3 (by omega)
  · exact ((h.b1.below hb12 h.b1.lt).alloc o2).below hb3 (by omega)
  · have h1 : Below w.heap.size w w2 := h.bel.trans (hb12.mono (Nat.le_trans (by omega) h.size))
    exact (h1.alloc h1.size o2).trans (hb3.mono (by omega))

theorem SnAt.map {wr : World} {T va : Value} {rs : List Rw} {e0 : Int} {i : Nat} (h : SnAt w wr T S E L k rows e0 i va rs) (hl : rows.length = i) : rs.map (·.xs) = rows.map (fun r => r.xs ++ [e0]) := by
  apply List.ext_getElem?
  intro q
  rw [List.getElem?_map, List.getElem?_map]
  by_cases hq : q < rs.length
  · obtain ⟨r', hr'⟩ : ∃ r', rs[q]? = some r' := ⟨_, List.getElem?_eq_getElem hq⟩
    obtain ⟨_, r, h1, h2⟩ := h.each q r' hr'
    rw [hr', h1, Option.map_some, Option.map_some, h2]
  · rw [List.getElem?_eq_none (by omega), List.getElem?_eq_none (by have := h.len; omega)]
    rfl

set_option maxRecDepth 100000 in
set_option maxHeartbeats 2000000 in
theorem rsend_full (h : RB w lo n k TA tc rows S E L) (e0 : Int) (hr : rroom k rows = false) :
    Calls Try.prog 14 #[.agg (bcells n k TA tc S E L), .int .u64 e0] w fun e w' => e = .returned (.tuple #[.agg (bcells n k TA tc S E L), .int .i64 20]) ∧ Below w.heap.size w w' := by
  obtain ⟨D0, D1, hsz0⟩ := two_blk w (bcells n k TA tc S E L) bzero 41 41
  have hu0 : Upd [] w ((w.alloc (.cells (bcells n k TA tc S E L) 41)).alloc (.cells bzero 41)) := ((Upd.refl _ _).alloc _).alloc _
  have hc := rroom_any (h.upd hu0 (by simp))
  rw [hr] at hc
  have HC := Lib.hid hc
  have HD0 := Lib.hid D0
  have HD1 := Lib.hid D1
  have HU0 := Lib.hid hu0
  have HSZ := Lib.hid hsz0
  clear h hr hc D0 D1 hu0 hsz0
  unfold bcells bzero at HC HD0 HD1 HU0 HSZ
  unfold bcells
  go_enter Try.func14, Try.ntmps14
  go_wp2_with fail
  refine HC.out.mono ?_
  rintro e w1 ⟨rfl, hu⟩
  have B0 := HD0.out.upd hu (by simp)
  have B1 := HD1.out.upd hu (by simp)
  have c00 := B0.cell 0
  have c01 := B0.cell 1
  have c02 := B0.cell 2
  have c03 := B0.cell 3
  have c04 := B0.cell 4
  have c10 := B1.cell 0
  have c11 := B1.cell 1
  have c12 := B1.cell 2
  have c13 := B1.cell 3
  have c14 := B1.cell 4
  have g10 := B1.frozen 0
  have g11 := B1.frozen 1
  have g12 := B1.frozen 2
  have g13 := B1.frozen 3
  have g14 := B1.frozen 4
  have hs1 := HU0.out.next hu
  have HS1 := Lib.hid hs1
  have hl0 := B0.lt
  have hl1 := B1.lt
  simp only [List.getElem?_toArray, List.getElem?_cons_zero, List.getElem?_cons_succ] at c00 c01 c02 c03 c04 c10 c11 c12 c13 c14
  clear B0 B1 hu hs1
  go_wp2
  refine bodyPost_res (v := .tuple #[.agg #[.slice TA n tc, .slice S.A S.xs.length S.c, .slice E.A E.xs.length E.c, .slice L.A L.xs.length L.c, .int .i64 k], .int .i64 20]) (by simp [results, Try.results14, go_sem, c00, c01, c02, c03, c04, c10, c11, c12, c13, c14]) rfl ⟨rfl, ?_⟩
  have hX : w.heap.size ≤ w.heap.size + 1 := Nat.le_succ _
  exact (((((HS1.out.below (Nat.le_refl _) (by simp)).setCell hX _).setCell hX _).setCell hX _).setCell hX _).setCell hX _

set_option maxRecDepth 100000 in
set_option maxHeartbeats 4000000 in
theorem rsend_yes (h : RB w lo n k TA tc rows S E L) (e0 : Int) (hr : rroom k rows = true) :
    Calls Try.prog 14 #[.agg (bcells n k TA tc S E L), .int .u64 e0] w fun e w' => ∃ TA' tc' rows', e = .returned (.tuple #[.agg (bcells n k TA' tc' S E L), .int .i64 0]) ∧ rows'.map (·.xs) = rows.map (fun r => r.xs ++ [e0]) ∧
      RB w' lo n k TA' tc' rows' S E L ∧ Below w.heap.size w w' ∧ Fr w TA' ∧ (∀ r, r ∈ rows' → Fr w r.A) := by
  obtain ⟨i0, hi0, hz0, hz1, hz2⟩ := info_parts infoS
  obtain ⟨j0, hj0, hy0, hy1, hy2⟩ := info_parts infoV
  have hn1 := h.n1
  have hn4 := h.n4
  have hk5 := h.k5
  have H := Lib.hid h
  have HLK : Hid (∀ r, r ∈ rows → r.xs.length < k) := fun r hm => by
    have := List.all_eq_true.1 hr r hm
    simpa using this
  obtain ⟨D0, D1, hsz0⟩ := two_blk w (bcells n k TA tc S E L) bzero 41 41
  have hu0 : Upd [] w ((w.alloc (.cells (bcells n k TA tc S E L) 41)).alloc (.cells bzero 41)) := ((Upd.refl _ _).alloc _).alloc _
  have hc := rroom_any (h.upd hu0 (by simp))
  rw [hr] at hc
  have HC := Lib.hid hc
  have HD0 := Lib.hid D0
  have HD1 := Lib.hid D1
  have HU0 := Lib.hid hu0
  have HSZ := Lib.hid hsz0
  clear h hr hc D0 D1 hu0 hsz0
  unfold bcells bzero at HC HD0 HD1 HU0 HSZ
  unfold bcells
  go_enter Try.func14, Try.ntmps14
  go_wp2_with fail
  refine HC.out.mono ?_
  rintro e w1 ⟨rfl, hu⟩
  have HSn : Hid (SnAt w w1 (.slice TA n tc) S E L k rows e0 0 (.slice none 0 0) []) :=
    ⟨World.ownsRow_nil _ _ _ _, rfl, by simp, by simp, HD0.out.upd hu (by simp), HD1.out.upd hu (by simp), (HU0.out.next hu).below (Nat.le_refl _) (by simp), by have := hu.size; rw [HSZ.out] at this; exact this⟩
  clear HC HD0 HD1 HU0 HSZ hu
  go_wp2
  go_loopg [7, 8] n (fun gk x7 x8 wr => ∃ (i : Nat) (rs : List Rw), i ≤ n ∧ n ≤ i + gk ∧ x8 = .int .i64 i ∧ SnAt w wr (.slice TA n tc) S E L k rows e0 i x7 rs)
  case atStart => exact ⟨0, [], Nat.zero_le _, by omega, rfl, HSn.out⟩
  case round =>
    obtain ⟨i, rs, hi, hgi, rfl, hs⟩ := hrel
    obtain ⟨Av, cv, hve, hcap, hAv, _⟩ := own_form hs.own
    subst hve
    have HAv := Lib.hid hAv
    have hcm := own_cap hs.own
    clear hAv
    have c00 := hs.b0.cell 0
    have c01 := hs.b0.cell 1
    have c02 := hs.b0.cell 2
    have c03 := hs.b0.cell 3
    have c04 := hs.b0.cell 4
    simp only [List.getElem?_toArray, List.getElem?_cons_zero, List.getElem?_cons_succ] at c00 c01 c02 c03 c04
    by_cases hlt : i < n
    · obtain ⟨r, hr⟩ : ∃ r, rows[i]? = some r := ⟨_, List.getElem?_eq_getElem (by rw [H.out.tl]; exact hlt)⟩
      obtain ⟨hrow, hrk⟩ := H.out.r r (List.mem_of_getElem? hr)
      obtain ⟨bt, ot, rfl, ht1, ht2, htc⟩ := H.out.at
      have t0 := (hs.bel.cell (p := ⟨bt, ot + i, none⟩) ht2).trans (htc i r hr)
      obtain ⟨ys, hys⟩ : ∃ ys, ys = r.xs.map (Value.int .u64) := ⟨_, rfl⟩
      obtain ⟨zs, hzs⟩ : ∃ zs, zs = rs.map encR := ⟨_, rfl⟩
      have CR : Hid (CellsIn wr lo w.heap.size 1 r.A r.xs.length ys) := by
        rw [hys]; exact Lib.hid (hrow.l.below hs.bel (Nat.le_refl _))
      have O1 : Hid (∀ u ∈ ys, u.oneCell' = true) := fun u hu => by rw [hys] at hu; obtain ⟨x, _, rfl⟩ := List.mem_map.1 hu; rfl
      have NR := Lib.hid hrow.nl
      have LR : Hid (ys.length = r.xs.length * 1) := CR.out.1
      have hown := hs.own
      rw [← hzs] at hown
      have HOW := Lib.hid hown
      have HYS := Lib.hid hys
      have HZS := Lib.hid hzs
      have HSN := Lib.hid hs
      have HR := Lib.hid hr
      have hwsz := hs.size
      clear hs hr hrow htc hys hzs hown
      go_wp2_with (at_builtin; refine wpList_append_src _ rfl (.tmp 22) (.tmp 27) 39 rfl wr.heap.size 30 j0 _ 1 8 Try.underlying39 hj0 hy0 hy1 hy2 rfl (by decide) (.slice none 0 0) 0 [] rfl (World.ownsRow_nil _ _ _ _) r.A r.xs.length r.c ys rfl NR.out LR.out ?s1 O1.out ?s3 ?s4 ?s5 ?_)
      case s1 => exact CR.out.src
      case s3 => unfold maxLen; omega
      case s4 => omega
      case s5 => exact Nat.le_refl _
      intro v1 w1 hown1 hg1 hat1
      have HO1 := Lib.hid hown1
      have HG1 := Lib.hid hg1
      have hs1 := hg1.size
      clear hown1 hg1 hat1 c00 c01 c02 c03 c04 t0
      go_wp2_with (at_builtin; refine wpList_append_own_at _ rfl (.tmp 30) (.tmp 32) 39 rfl wr.heap.size 30 j0 _ 1 8 Try.underlying39 hj0 hy0 hy1 hy2 rfl (by decide) _ r.xs.length ys rfl (HO1.out.alloc _) ⟨w1.heap.size, 0, none⟩ 1 1 [.int .u64 e0] rfl rfl ?u1 ?u2 ?u3 ?u4 ?u5 ?_)
      case u1 =>
        intro j u hj
        match j, hj with
        | 0, hj => simp at hj; subst hj; exact (Blk.new w1 30 #[.int .u64 e0]).cell 0
      case u2 => intro u hu; simp at hu; subst hu; rfl
      case u3 => unfold maxLen; omega
      case u4 => omega
      case u5 => simp; omega
      intro v2 w2 hown2 hg2 _ hat2
      obtain ⟨A2, c2, hv2, _⟩ := own_form hown2
      subst hv2
      have hb1 := grown_upd (World.ownsRow_nil _ _ 30 1) HG1.out (N := wr.heap.size) (Nat.le_refl _)
      have hb2 := grown_upd (HO1.out.alloc _) hg2 (N := wr.heap.size) (Nat.le_trans hb1.size (by simp))
      have hb12 : Below wr.heap.size wr w2 := (hb1.alloc hb1.size _).trans hb2
      have hs2 := hb12.size
      have HO2 := Lib.hid hown2
      have HG2 := Lib.hid hg2
      have HOW2 := Lib.hid (ownsRow_upd HOW.out (Upd.of_below (S := []) hb12) (by simp))
      have hzl : zs.length = i * 1 := by rw [HZS.out, List.length_map, HSN.out.len, Nat.mul_one]
      clear hown2 hg2 hat2 hb1 hb2 hb12
      go_wp2_with (at_builtin; refine wpList_append_own_at _ rfl (.tmp 29) (.tmp 34) 38 rfl (w.heap.size + 1 + 1) 39 i0 _ 1 24 Try.underlying38 hi0 hz0 hz1 hz2 rfl (by decide) _ i zs rfl (HOW2.out.alloc _) ⟨w2.heap.size, 0, none⟩ 1 1 [.slice A2 (r.xs.length + 1) c2] rfl rfl ?y1 ?y2 ?y3 ?y4 ?y5 ?_)
      case y1 =>
        intro j u hj
        match j, hj with
        | 0, hj => simp at hj; subst hj; exact (Blk.new w2 39 #[.slice A2 (r.xs.length + 1) c2]).cell 0
      case y2 => intro u hu; simp at hu; subst hu; rfl
      case y3 => unfold maxLen; omega
      case y4 => omega
      case y5 => simp; omega
      intro v3 w3 hown3 hg3 _ hat3
      obtain ⟨r', hsn⟩ := HSN.out.step r HR.out (by rw [← HYS.out]; exact HO1.out) HG1.out (by rw [← HYS.out]; exact HO2.out) HG2.out (by rw [← HZS.out]; exact hown3) hg3 (by rw [World.size_alloc]; exact hat3)
      obtain ⟨A3, c3, hv3, _⟩ := own_form hown3
      subst hv3
      have HS3 := Lib.hid hsn
      clear hown3 hg3 hat3 hsn HOW HOW2 HO1 HO2 HG1 HG2
      go_wp2
      go_roundg (gk - 1)
      case measure => omega
      case rel => exact ⟨i + 1, rs ++ [r'], by omega, by omega, by go_num, HS3.out⟩
    · obtain rfl : i = n := by omega
      obtain ⟨g, hg, hgN, hgl⟩ := HAv.out (by omega)
      subst hg
      have g00 := hs.b0.frozen 0
      have c10 := hs.b1.cell 0
      have c11 := hs.b1.cell 1
      have c12 := hs.b1.cell 2
      have c13 := hs.b1.cell 3
      have c14 := hs.b1.cell 4
      have g10 := hs.b1.frozen 0
      have g11 := hs.b1.frozen 1
      have g12 := hs.b1.frozen 2
      have g13 := hs.b1.frozen 3
      have g14 := hs.b1.frozen 4
      have HSN := Lib.hid hs
      have hl0 := hs.b0.lt
      have hl1 := hs.b1.lt
      simp only [List.getElem?_toArray, List.getElem?_cons_zero, List.getElem?_cons_succ] at c10 c11 c12 c13 c14
      clear hs hlt
      go_wp2
      have hu : Upd [w.heap.size, w.heap.size + 1] wr ((((((wr.setCell ⟨w.heap.size, 0, none⟩ (.slice (some ⟨g, 0, none⟩) i cv)).setCell ⟨w.heap.size + 1, 0, none⟩ (.slice (some ⟨g, 0, none⟩) i cv)).setCell ⟨w.heap.size + 1, 1, none⟩ (.slice S.A S.xs.length S.c)).setCell ⟨w.heap.size + 1, 2, none⟩ (.slice E.A E.xs.length E.c)).setCell ⟨w.heap.size + 1, 3, none⟩ (.slice L.A L.xs.length L.c)).setCell ⟨w.heap.size + 1, 4, none⟩ (.int .i64 k)) :=
        ((((((Upd.refl _ _).setCell (by simp) _).setCell (by simp) _).setCell (by simp) _).setCell (by simp) _).setCell (by simp) _).setCell (by simp) _
      have hbf := HSN.out.bel.trans (hu.below HSN.out.bel.size (by simp))
      have HU := Lib.hid hu
      have HBF := Lib.hid hbf
      clear hu hbf
      refine bodyPost_res (v := .tuple #[.agg #[.slice (some ⟨g, 0, none⟩) i cv, .slice S.A S.xs.length S.c, .slice E.A E.xs.length E.c, .slice L.A L.xs.length L.c, .int .i64 k], .int .i64 0]) (by simp [results, Try.results14, go_sem, c00, c01, c02, c03, c04, c10, c11, c12, c13, c14]) rfl ⟨_, cv, rs, rfl, HSN.out.map H.out.tl, ?_, HBF.out, Fr.some (by omega), fun r hr a ha => ?_⟩
      rotate_left
      · obtain ⟨q, hq⟩ := List.getElem?_of_mem hr
        obtain ⟨h1, r0, h2, h3⟩ := HSN.out.each q r hq
        obtain ⟨b, off, hA, hb, _⟩ := h1.at (by rw [h3]; simp)
        rw [ha] at hA
        injection hA with hA
        subst hA
        show _ ≤ b
        omega
      refine H.out.turned HBF.out (by omega) (((CellsIn.of_own HSN.out.own).upd HU.out (Nat.le_refl _) (fun s hs => .inl (by simp at hs; omega))).more (by omega) HU.out.size) HSN.out.len hcap hcm (fun r hr => ?_)
      obtain ⟨q, hq⟩ := List.getElem?_of_mem hr
      obtain ⟨h1, r0, h2, h3⟩ := HSN.out.each q r hq
      exact ⟨(h1.upd HU.out (by simp; omega)).more (by have := H.out.low; omega), by have := HLK.out r0 (List.mem_of_getElem? h2); rw [h3]; simp; omega⟩
end
end Go.Proofs.Ytdcekgdihnlbpaa
