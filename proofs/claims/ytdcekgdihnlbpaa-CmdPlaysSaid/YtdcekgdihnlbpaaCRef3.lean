/- The document's board: Take. Conditions: as before. -/
import Derived.Test.YtdcekgdihnlbpaaCRef2
namespace Go.Proofs.Ytdcekgdihnlbpaa
open Go Go.RowKit
set_option maxHeartbeats 400000

/-- box and result -/
theorem two_blk (w : World) (a b : Array Value) (s t : TypeId) :
    Blk ((w.alloc (.cells a s)).alloc (.cells b t)) w.heap.size s a ∧ Blk ((w.alloc (.cells a s)).alloc (.cells b t)) (w.heap.size + 1) t b ∧ ((w.alloc (.cells a s)).alloc (.cells b t)).heap.size = w.heap.size + 1 + 1 := by
  refine ⟨(Blk.new w s a).alloc _, ?_, by simp⟩
  have := Blk.new (w.alloc (.cells a s)) t b
  rwa [World.size_alloc] at this
def bzero : Array Value := #[.slice none 0 0, .slice none 0 0, .slice none 0 0, .slice none 0 0, .int .i64 0]
theorem RowIn.tail {w : World} {lo : Nat} {k : IntKind} {b off c : Nat} {x : Int} {xs : List Int} (h : RowIn w lo k ⟨some ⟨b, off, none⟩, c, x :: xs⟩) : RowIn w lo k ⟨some ⟨b, off + 1, none⟩, c - 1, xs⟩ := by
  have hl := h.le
  have hm := h.cm
  dsimp only [List.length_cons] at hl hm
  refine ⟨⟨by simp, fun hn => ?_⟩, (fun e => by cases e), by dsimp only; omega, by dsimp only; omega⟩
  obtain ⟨b', off', e, h1, h2, hc⟩ := h.l.2 (by simp)
  injection e with e
  injection e with e1 e2
  subst e1
  subst e2
  exact ⟨b, off + 1, rfl, h1, h2, fun j u hu => by
    have := hc (j + 1) u (by simpa using hu)
    rwa [show off + (j + 1) = off + 1 + j by omega] at this⟩

section
variable {w w' : World} {lo n k tc : Nat} {TA : Option Addr} {rows : List Rw} {S E L : Rw}
/-- the rows lie in a new block, and one of them may be another -/
theorem RB.turned (h : RB w lo n k TA tc rows S E L) (hb : Below w.heap.size w w') {g c' : Nat} {rows' : List Rw} (hg : w.heap.size ≤ g) (hc : CellsIn w' w.heap.size w'.heap.size 1 (some ⟨g, 0, none⟩) n (rows'.map encR)) (hl : rows'.length = n) (hnc : n ≤ c') (hcm : c' ≤ 9223372036854775807)
    (hr : ∀ r, r ∈ rows' → RowIn w' lo .u64 r ∧ r.xs.length ≤ k) : RB w' lo n k (some ⟨g, 0, none⟩) c' rows' S E L :=
  ⟨hc.more h.low (Nat.le_refl _), hl, hr, h.s.below hb, h.e.below hb, h.l.below hb, h.se, h.sm, h.ll, hnc, hcm, h.n1, h.n4, h.k1, h.k5, Nat.le_trans h.low hb.size⟩

theorem oneR (rows : List Rw) : ∀ u ∈ rows.map encR, u.oneCell' = true := by
  intro u hu
  obtain ⟨r, _, rfl⟩ := List.mem_map.1 hu
  rfl

set_option maxRecDepth 100000 in
set_option maxHeartbeats 2000000 in
theorem rtake_yes (h : RB w lo n k TA tc rows S E L) (i : Nat) (r : Rw) (x : Int) (xs : List Int) (hr : rows[i]? = some r) (hx : r.xs = x :: xs) :
    Calls Try.prog 15 #[.agg (bcells n k TA tc S E L), .int .i64 i] w fun e w' => ∃ TA' tc' r', e = .returned (.tuple #[.agg (bcells n k TA' tc' S E L), .int .u64 x, .bool true]) ∧ r'.xs = xs ∧
      RB w' lo n k TA' tc' (rows.set i r') S E L ∧ Below w.heap.size w w' ∧ Fr w TA' ∧ Kp r.A r'.A := by
  obtain ⟨i0, hi0, hz0, hz1, hz2⟩ := info_parts infoS
  have hil : i < n := by rw [← h.tl]; exact (List.getElem?_eq_some_iff.1 hr).1
  have hn4 := h.n4
  have hrow := (h.r r (List.mem_of_getElem? hr)).1
  obtain ⟨b, off, hA, hb1, hb2, hc⟩ := hrow.at (by rw [hx]; simp)
  obtain ⟨rA, rc, rxs⟩ := r
  dsimp only at hA hx hc
  subst hA
  subst hx
  have e0 := hc 0 x rfl
  rw [Nat.add_zero] at e0
  have hrc := hrow.le
  have hrm := hrow.cm
  dsimp only [List.length_cons] at hrc hrm
  obtain ⟨bt, ot, rfl, ht1, ht2, htc⟩ := h.at
  have t0 := htc i _ hr
  dsimp only [List.length_cons] at t0
  obtain ⟨ys, hys⟩ : ∃ ys, ys = rows.map encR := ⟨_, rfl⟩
  have HYS := Lib.hid hys
  have HC : Hid (CellsIn w lo w.heap.size 1 (some ⟨bt, ot, none⟩) n ys) := by rw [hys]; exact Lib.hid h.t
  have H1 : Hid (∀ u ∈ ys, u.oneCell' = true) := by rw [hys]; exact Lib.hid (oneR rows)
  have hlen : ys.length = n * 1 := HC.out.1
  have H := Lib.hid h
  have HR := Lib.hid hr
  have HROW := Lib.hid hrow
  have ht0 : ¬ (i : Int) < 0 := by omega
  have ht1' : ¬ (n : Int) ≤ (i : Int) := by omega
  have hnz : ¬ (((xs.length + 1 : Nat) : Int) = 0) := by omega
  clear h hr hrow hc htc hys
  unfold bcells
  go_enter Try.func15, Try.ntmps15
  go_upto_region 4 with fail
  go_wp2_with (at_builtin; refine wpList_append_src _ rfl (.tmp 28) (.tmp 30) 38 rfl (w.heap.size + 1 + 1) 39 i0 _ 1 24 Try.underlying38 hi0 hz0 hz1 hz2 rfl (by decide) (.slice none 0 0) 0 [] rfl (World.ownsRow_nil _ _ _ _) (some ⟨bt, ot, none⟩) n tc ys rfl (fun e => by cases e) hlen ?s1 H1.out ?s3 ?s4 ?s5 ?_)
  case s1 =>
    obtain ⟨b', o', e, _, _, hc'⟩ := HC.out.2 (by omega)
    injection e with e
    injection e with e1 e2
    subst e1
    subst e2
    exact hc'
  case s3 => unfold maxLen; omega
  case s4 => omega
  · intro v1 w1 hown1 hg1 hat1
    have hbW := grown_upd (World.ownsRow_nil _ _ 39 1) hg1 (N := w.heap.size + 1 + 1) (by simp)
    obtain ⟨D0, D1, hsz0⟩ := two_blk w #[.slice (some ⟨bt, ot, none⟩) n tc, .slice S.A S.xs.length S.c, .slice E.A E.xs.length E.c, .slice L.A L.xs.length L.c, .int .i64 k] #[.slice none 0 0, .slice none 0 0, .slice none 0 0, .slice none 0 0, .int .i64 0] 41 41
    have B0 := D0.below hbW (by omega)
    have B1 := D1.below hbW (by omega)
    have hs1 : w.heap.size + 1 + 1 ≤ w1.heap.size := by have := hbW.size; simpa using this
    have hb1w : Below w.heap.size w w1 := (((Below.refl _ _).alloc (Nat.le_refl _) _).alloc (by simp) _).trans (hbW.mono (by omega))
    obtain ⟨A', c', hv1, hcap, hA, hAn⟩ := own_form hown1
    obtain ⟨g, hg, hgN, hgl⟩ := hA (by omega)
    subst hg
    subst hv1
    have hcm := own_cap hown1
    have r0 := hown1.cellAt i (by omega)
    have f0 := hown1.frozenAt i
    have hri : ys[i]? = some (.slice (some ⟨b, off, none⟩) (xs.length + 1) rc) := by rw [HYS.out, List.getElem?_map, HR.out]; rfl
    rw [hri] at r0
    have x0 := (hb1w.cell (p := ⟨b, off, none⟩) hb2).trans e0
    have c00 := B0.cell 0
    have c01 := B0.cell 1
    have c02 := B0.cell 2
    have c03 := B0.cell 3
    have c04 := B0.cell 4
    have g00 := B0.frozen 0
    have g10 := B1.frozen 0
    have g11 := B1.frozen 1
    have g12 := B1.frozen 2
    have g13 := B1.frozen 3
    have g14 := B1.frozen 4
    have c10 := B1.cell 0
    have c11 := B1.cell 1
    have c12 := B1.cell 2
    have c13 := B1.cell 3
    have c14 := B1.cell 4
    simp only [List.getElem?_toArray, List.getElem?_cons_zero, List.getElem?_cons_succ] at c00 c01 c02 c03 c04 c10 c11 c12 c13 c14
    have n0 : g ≠ w.heap.size := by omega
    have n1 : g ≠ w.heap.size + 1 := by omega
    have n2 : b ≠ g := by omega
    have HO := Lib.hid hown1
    have HB := Lib.hid hb1w
    have hgl0 : w.heap.size < w1.heap.size := by omega
    have hgl1 : w.heap.size + 1 < w1.heap.size := by omega
    clear hown1 hg1 hat1 hbW hb1w D0 D1 B0 B1 hA hAn hri t0 e0
    by_cases hc1 : rc = 1
    · have hx0 : xs = [] := by cases xs with
        | nil => rfl
        | cons a l => simp at hrc; omega
      subst hx0
      subst hc1
      go_wp2
      have s1 := (HO.out.stored i (.slice (some ⟨b, off, none⟩) 0 0)).1
      have hu : Upd [w.heap.size, w.heap.size + 1] (w1.setCell ⟨g, i, none⟩ (.slice (some ⟨b, off, none⟩) 0 0)) (((((((w1.setCell ⟨g, i, none⟩ (.slice (some ⟨b, off, none⟩) 0 0)).setCell ⟨w.heap.size, 0, none⟩ (.slice (some ⟨g, 0, none⟩) n c')).setCell ⟨w.heap.size + 1, 0, none⟩ (.slice (some ⟨g, 0, none⟩) n c')).setCell ⟨w.heap.size + 1, 1, none⟩ (.slice S.A S.xs.length S.c)).setCell ⟨w.heap.size + 1, 2, none⟩ (.slice E.A E.xs.length E.c)).setCell ⟨w.heap.size + 1, 3, none⟩ (.slice L.A L.xs.length L.c)).setCell ⟨w.heap.size + 1, 4, none⟩ (.int .i64 k)) :=
        ((((((Upd.refl _ _).setCell (by simp) _).setCell (by simp) _).setCell (by simp) _).setCell (by simp) _).setCell (by simp) _).setCell (by simp) _
      have hbf : Below w.heap.size w (((((((w1.setCell ⟨g, i, none⟩ (.slice (some ⟨b, off, none⟩) 0 0)).setCell ⟨w.heap.size, 0, none⟩ (.slice (some ⟨g, 0, none⟩) n c')).setCell ⟨w.heap.size + 1, 0, none⟩ (.slice (some ⟨g, 0, none⟩) n c')).setCell ⟨w.heap.size + 1, 1, none⟩ (.slice S.A S.xs.length S.c)).setCell ⟨w.heap.size + 1, 2, none⟩ (.slice E.A E.xs.length E.c)).setCell ⟨w.heap.size + 1, 3, none⟩ (.slice L.A L.xs.length L.c)).setCell ⟨w.heap.size + 1, 4, none⟩ (.int .i64 k)) :=
        (HB.out.setCell (p := ⟨g, i, none⟩) (by show _ ≤ g; omega) _).trans (hu.below (by have := HB.out.size; simpa [World.setCell] using this) (by simp))
      have hrow : RowIn w lo .u64 ⟨some ⟨b, off, none⟩, 0, []⟩ := ⟨CellsIn.nil _ _ _ _ _, (fun e => by cases e), Nat.le_refl _, by simp⟩
      have hek : (rows.set i ⟨some ⟨b, off, none⟩, 0, []⟩).map encR = ys.set i (.slice (some ⟨b, off, none⟩) 0 0) := by rw [HYS.out, List.map_set]; rfl
      rw [← hek] at s1
      have hk := (H.out.r _ (List.mem_of_getElem? HR.out)).2
      refine bodyPost_res (v := .tuple #[.agg #[.slice (some ⟨g, 0, none⟩) n c', .slice S.A S.xs.length S.c, .slice E.A E.xs.length E.c, .slice L.A L.xs.length L.c, .int .i64 k], .int .u64 x, .bool true]) (by simp [results, Try.results15, go_sem, c00, c01, c02, c03, c04, c10, c11, c12, c13, c14, n0, n1]) rfl ⟨_, c', ⟨some ⟨b, off, none⟩, 0, []⟩, rfl, rfl, ?_, hbf, Fr.some (by omega), Kp.some⟩
      refine H.out.turned hbf (by omega) (((CellsIn.of_own s1).upd hu (Nat.le_refl _) (fun s hs => .inl (by simp at hs; omega))).more (by omega) hu.size) (by rw [List.length_set]; exact H.out.tl) hcap hcm (fun r hr => ?_)
      rcases List.mem_or_eq_of_mem_set hr with h1 | rfl
      · exact ⟨(H.out.r r h1).1.below hbf, (H.out.r r h1).2⟩
      · exact ⟨hrow.below hbf, Nat.zero_le _⟩
    · have hc2 : 1 < rc := by omega
      go_wp2
      have s1 := (HO.out.stored i (.slice (some ⟨b, off + 1, none⟩) xs.length (rc - 1))).1
      have hu : Upd [w.heap.size, w.heap.size + 1] (w1.setCell ⟨g, i, none⟩ (.slice (some ⟨b, off + 1, none⟩) xs.length (rc - 1))) (((((((w1.setCell ⟨g, i, none⟩ (.slice (some ⟨b, off + 1, none⟩) xs.length (rc - 1))).setCell ⟨w.heap.size, 0, none⟩ (.slice (some ⟨g, 0, none⟩) n c')).setCell ⟨w.heap.size + 1, 0, none⟩ (.slice (some ⟨g, 0, none⟩) n c')).setCell ⟨w.heap.size + 1, 1, none⟩ (.slice S.A S.xs.length S.c)).setCell ⟨w.heap.size + 1, 2, none⟩ (.slice E.A E.xs.length E.c)).setCell ⟨w.heap.size + 1, 3, none⟩ (.slice L.A L.xs.length L.c)).setCell ⟨w.heap.size + 1, 4, none⟩ (.int .i64 k)) :=
        ((((((Upd.refl _ _).setCell (by simp) _).setCell (by simp) _).setCell (by simp) _).setCell (by simp) _).setCell (by simp) _).setCell (by simp) _
      have hbf : Below w.heap.size w (((((((w1.setCell ⟨g, i, none⟩ (.slice (some ⟨b, off + 1, none⟩) xs.length (rc - 1))).setCell ⟨w.heap.size, 0, none⟩ (.slice (some ⟨g, 0, none⟩) n c')).setCell ⟨w.heap.size + 1, 0, none⟩ (.slice (some ⟨g, 0, none⟩) n c')).setCell ⟨w.heap.size + 1, 1, none⟩ (.slice S.A S.xs.length S.c)).setCell ⟨w.heap.size + 1, 2, none⟩ (.slice E.A E.xs.length E.c)).setCell ⟨w.heap.size + 1, 3, none⟩ (.slice L.A L.xs.length L.c)).setCell ⟨w.heap.size + 1, 4, none⟩ (.int .i64 k)) :=
        (HB.out.setCell (p := ⟨g, i, none⟩) (by show _ ≤ g; omega) _).trans (hu.below (by have := HB.out.size; simpa [World.setCell] using this) (by simp))
      have hrow : RowIn w lo .u64 ⟨(some ⟨b, off + 1, none⟩), (rc - 1), xs⟩ := HROW.out.tail
      have hek : (rows.set i ⟨(some ⟨b, off + 1, none⟩), (rc - 1), xs⟩).map encR = ys.set i (.slice (some ⟨b, off + 1, none⟩) xs.length (rc - 1)) := by rw [HYS.out, List.map_set]; rfl
      rw [← hek] at s1
      have hk := (H.out.r _ (List.mem_of_getElem? HR.out)).2
      dsimp only [List.length_cons] at hk
      refine bodyPost_res (v := .tuple #[.agg #[.slice (some ⟨g, 0, none⟩) n c', .slice S.A S.xs.length S.c, .slice E.A E.xs.length E.c, .slice L.A L.xs.length L.c, .int .i64 k], .int .u64 x, .bool true]) (by simp [results, Try.results15, go_sem, c00, c01, c02, c03, c04, c10, c11, c12, c13, c14, n0, n1]) rfl ⟨_, c', ⟨(some ⟨b, off + 1, none⟩), (rc - 1), xs⟩, rfl, rfl, ?_, hbf, Fr.some (by omega), Kp.some⟩
      refine H.out.turned hbf (by omega) (((CellsIn.of_own s1).upd hu (Nat.le_refl _) (fun s hs => .inl (by simp at hs; omega))).more (by omega) hu.size) (by rw [List.length_set]; exact H.out.tl) hcap hcm (fun r hr => ?_)
      rcases List.mem_or_eq_of_mem_set hr with h1 | rfl
      · exact ⟨(H.out.r r h1).1.below hbf, (H.out.r r h1).2⟩
      · exact ⟨hrow.below hbf, by dsimp only; omega⟩

set_option maxRecDepth 100000 in
set_option maxHeartbeats 2000000 in
theorem rtake_no (h : RB w lo n k TA tc rows S E L) (i : Int) (hi : i < 0 ∨ (n : Int) ≤ i ∨ ∃ r, 0 ≤ i ∧ rows[i.toNat]? = some r ∧ r.xs = []) :
    Calls Try.prog 15 #[.agg (bcells n k TA tc S E L), .int .i64 i] w fun e w' => e = .returned (.tuple #[.agg (bcells n k TA tc S E L), .int .u64 0, .bool false]) ∧ Upd [] w w' := by
  have hn4 := h.n4
  obtain ⟨bt, ot, rfl, ht1, ht2, htc⟩ := h.at
  have H := Lib.hid h
  have HT := Lib.hid htc
  clear h htc
  unfold bcells
  by_cases h0 : i < 0
  · clear hi
    go_enter Try.func15, Try.ntmps15
    go_wp2
    exact bodyPost_res (v := .tuple #[.agg #[.slice (some ⟨bt, ot, none⟩) n tc, .slice S.A S.xs.length S.c, .slice E.A E.xs.length E.c, .slice L.A L.xs.length L.c, .int .i64 k], .int .u64 0, .bool false]) (by simp [results, Try.results15, go_sem]) rfl ⟨rfl, ((Upd.refl _ _).alloc _).alloc _⟩
  · by_cases h1 : (n : Int) ≤ i
    · clear hi
      go_enter Try.func15, Try.ntmps15
      go_wp2
      exact bodyPost_res (v := .tuple #[.agg #[.slice (some ⟨bt, ot, none⟩) n tc, .slice S.A S.xs.length S.c, .slice E.A E.xs.length E.c, .slice L.A L.xs.length L.c, .int .i64 k], .int .u64 0, .bool false]) (by simp [results, Try.results15, go_sem]) rfl ⟨rfl, ((Upd.refl _ _).alloc _).alloc _⟩
    · obtain ⟨r, _, hr, hx⟩ := (hi.resolve_left h0).resolve_left h1
      obtain ⟨j, rfl⟩ : ∃ j : Nat, i = j := ⟨i.toNat, by omega⟩
      rw [Int.toNat_natCast] at hr
      have t0 := HT.out j r hr
      rw [hx] at t0
      clear hi hr
      go_enter Try.func15, Try.ntmps15
      go_wp2
      exact bodyPost_res (v := .tuple #[.agg #[.slice (some ⟨bt, ot, none⟩) n tc, .slice S.A S.xs.length S.c, .slice E.A E.xs.length E.c, .slice L.A L.xs.length L.c, .int .i64 k], .int .u64 0, .bool false]) (by simp [results, Try.results15, go_sem]) rfl ⟨rfl, ((Upd.refl _ _).alloc _).alloc _⟩
end
end Go.Proofs.Ytdcekgdihnlbpaa
