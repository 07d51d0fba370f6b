/- CmdPlays: the walk. -/
import Derived.Test.YtdcekgdihnlbpaaCPlay
import Derived.Deep.DeepCutAuto
namespace Go.Proofs.Ytdcekgdihnlbpaa
open Go Go.RowKit
set_option maxHeartbeats 400000

set_option maxHeartbeats 8000000 in
set_option maxRecDepth 100000 in
theorem plays_any (a0 a1 : Int) (A : Option Addr) (len cap : Nat) (l : List CAct) (w : World) (h0 : 0 ≤ a0) (h1 : a0 ≤ 255) (h2 : 0 ≤ a1) (h3 : a1 ≤ 255) (hlen : len ≤ 9223372036854775807) (hll : l.length = len) (hl : Cells w w.heap.size 3 A len (l.flatMap encC)) :
    Calls Try.prog 4 #[.int .u8 a0, .int .u8 a1, .slice A len cap] w fun e w' => e = .returned (.bool true) ∧ Below w.heap.size w w' := by
  have HL := Lib.hid hl
  have HLL := Lib.hid hll
  clear hl hll
  by_cases hbig : 200 < (len : Int)
  · go_enter Try.func4, Try.ntmps4
    go_wp2_with fail
    refine (awake_any w).mono ?_
    rintro e w1 ⟨rfl, hu1⟩
    go_wp2
    go_ret
    exact ⟨rfl, hu1.below (Nat.le_refl _) (by simp)⟩
  · obtain ⟨m, hm⟩ : ∃ m : Nat, (m : Int) = a0 % 4 := ⟨(a0 % 4).toNat, by omega⟩
    obtain ⟨r, hr⟩ : ∃ r : Nat, (r : Int) = a1 % 5 := ⟨(a1 % 5).toNat, by omega⟩
    have hm4 : m < 4 := by omega
    have hr5 : r < 5 := by omega
    have hmod : a0 % 4 = (m : Int) := hm.symm
    have hrod : a1 % 5 = (r : Int) := hr.symm
    clear hm hr
    go_enter Try.func4, Try.ntmps4
    go_wp2_with fail
    refine (awake_any w).mono ?_
    rintro e w1 ⟨rfl, hu1⟩
    have hb1 := hu1.below (Nat.le_refl _) (by simp)
    go_wp2_with fail
    have hn := new_yes (m + 1) (r + 1) w1 (by omega) (by omega) (by omega) (by omega)
    rw [show ((m + 1 : Nat) : Int) = (m : Int) + 1 by omega, show ((r + 1 : Nat) : Int) = (r : Int) + 1 by omega] at hn
    refine hn.mono ?_
    clear hn
    rintro e w2 ⟨B, rfl, hb2, hnn, hnew, hu2⟩
    go_wp2_with fail
    have hn := rnew_any (m + 1) (r + 1) w2 (by omega) (by omega) (by omega) (by omega)
    rw [show ((m + 1 : Nat) : Int) = (m : Int) + 1 by omega, show ((r + 1 : Nat) : Int) = (r : Int) + 1 by omega] at hn
    refine hn.mono ?_
    clear hn hmod hrod
    rintro e w3 ⟨TA, LA, rfl, hr3, hu3⟩
    obtain ⟨n, hn⟩ : ∃ n, n = m + 1 := ⟨_, rfl⟩
    obtain ⟨k, hk⟩ : ∃ k, k = r + 1 := ⟨_, rfl⟩
    have en : (m : Int) + 1 = (n : Int) := by omega
    have ek : (r : Int) + 1 = (k : Int) := by omega
    have hn1 : 1 ≤ n := by omega
    have hn4 : n ≤ 4 := by omega
    have hk1 : 1 ≤ k := by omega
    have hk5 : k ≤ 5 := by omega
    simp only [bcells, List.length_replicate, List.length_nil]
    rw [en, ek, ← hn, ← hk]
    rw [← hn] at hr3 hb2 hnn
    rw [← hk] at hr3 hb2
    clear hn hk en ek hm4 hr5
    have hp3 : PlayAt w (w3.alloc (.cells (bcells n k TA n ⟨none, 0, []⟩ ⟨none, 0, []⟩ ⟨LA, n, List.replicate n 0⟩) 41)) w2.heap.size B w3.heap.size n k (List.replicate n []) [] (List.replicate n 0) TA n (List.replicate n ⟨none, 0, []⟩) ⟨none, 0, []⟩ ⟨none, 0, []⟩ ⟨LA, n, List.replicate n 0⟩ := by
      have hu := (hu3.alloc (.cells (bcells n k TA n ⟨none, 0, []⟩ ⟨none, 0, []⟩ ⟨LA, n, List.replicate n 0⟩) 41))
      have hbb := hb1.trans (hu2.below hb1.size (by simp))
      have hnb : ∀ {A : Option Addr}, (∀ a, A = some a → a.block < w3.heap.size) → Nb w3.heap.size A := fun h a ha => by have := h a ha; omega
      refine ⟨⟨?_, hnn, fun l hl x hx => ?_, fun s hs => hb2.footlt s hs⟩, ⟨hr3.upd ((Upd.refl [] w3).alloc _) (by simp), Blk.new _ _ _, ⟨hnb fun a ha => ?_, fun r hr => ?_, Nb.none, Nb.none, hnb fun a ha => ?_⟩, hu3.size⟩, ?_, rfl, rfl, rfl, fun s hs => Nat.le_trans hb1.size (hnew s hs), Nat.le_trans hb1.size hu2.size, hbb.trans (hu.below hbb.size (by simp))⟩
      · rw [List.map_replicate]; exact hb2.more hu
      · obtain rfl := List.eq_of_mem_replicate hl; cases hx
      · obtain ⟨b, off, e, h1, h2, _⟩ := hr3.at
        rw [e] at ha; injection ha with ha; subst ha; exact h2
      · obtain rfl := List.eq_of_mem_replicate hr; exact Nb.none
      · obtain ⟨b, off, e, h1, h2, _⟩ := hr3.l.at (by rw [hr3.ll]; exact hn1)
        dsimp only at e
        rw [e] at ha; injection ha with ha; subst ha; exact h2
      · rw [List.map_replicate, List.map_replicate]; rfl
    have HS0 := Lib.hid hp3
    clear hp3 hr3 hu3 hb2 hnn hnew hu2 hu1 hb1
    simp only [bcells, List.length_replicate, List.length_nil] at HS0
    go_upto_region 10 with fail
    obtain ⟨W0, hW0⟩ : ∃ W0, W0 = w3.alloc (.cells #[.slice TA n n, .slice none 0 0, .slice none 0 0, .slice LA n n, .int .i64 k] 41) := ⟨_, rfl⟩
    rw [← hW0] at HS0 ⊢
    obtain ⟨gw, hgw⟩ : ∃ gw, gw = w3.heap.size := ⟨_, rfl⟩
    rw [← hgw] at HS0 ⊢
    obtain ⟨N, hN⟩ : ∃ N, N = w2.heap.size := ⟨_, rfl⟩
    rw [← hN] at HS0
    clear hW0 hgw hN
    go_wp2
    go_loopg [12] len (fun gk x12 wr => ∃ (j : Nat) (pp : List (List (Nat × Int))) (acks : List (Int × Int)) (last : List Int) (TA : Option Addr) (tc : Nat) (rows : List Rw) (S E L : Rw), j ≤ len ∧ len ≤ j + gk ∧ x12 = .int .i64 j ∧ PlayAt w wr N B gw n k pp acks last TA tc rows S E L)
    case atStart => exact ⟨0, _, _, _, _, _, _, _, _, _, Nat.zero_le _, by omega, rfl, HS0.out⟩
    case round =>
      obtain ⟨gA, rfl⟩ : ∃ gA : Nat, gA = gk := ⟨gk, rfl⟩
      obtain ⟨j, pp, acks, last, TA, tc, rows, S, E, L, hj, hgj, rfl, hs⟩ := hrel
      clear HS0
      by_cases hlt : j < len
      · obtain ⟨b, off, x, rfl, hbB, hx, c0, c1, c2⟩ := act_at HL.out HLL.out j hlt
        have e0 := (hs.bel.cell (p := ⟨b, off + j * 3, none⟩) hbB).trans c0
        have e1 := (hs.bel.cell (p := ⟨b, off + j * 3 + 1, none⟩) hbB).trans c1
        have e2 := (hs.bel.cell (p := ⟨b, off + j * 3 + 2, none⟩) hbB).trans c2
        clear c0 c1 c2 hx
        obtain ⟨kind, shard, epoch⟩ := x
        dsimp only at e0 e1 e2
        have HS := Lib.hid hs
        clear hs
        go_upto_region 14 with fail
        obtain ⟨W1, hW1⟩ : ∃ W1, W1 = wr.alloc (.cells #[.int .i64 kind, .int .i64 shard, .int .u64 epoch] 44) := ⟨_, rfl⟩
        obtain ⟨X, hXe⟩ : ∃ X, X = wr.heap.size := ⟨_, rfl⟩
        have HS1 : Hid (PlayAt w W1 N B gw n k pp acks last TA tc rows S E L) := by show PlayAt _ _ _ _ _ _ _ _ _ _ _ _ _ _ _ _; rw [hW1]; exact HS.out.more ((Upd.refl _ _).alloc _)
        have hX : Blk W1 X 44 #[.int .i64 kind, .int .i64 shard, .int .u64 epoch] := by rw [hW1, hXe]; exact Blk.new wr _ _
        rw [← hW1, ← hXe]
        have hgX : gw ≠ X := HS1.out.doc.bg.ne hX (by decide)
        have hXl : X < W1.heap.size := hX.lt
        have x0 : W1.cell? ⟨X, 0, none⟩ = some (.int .i64 kind) := hX.cell 0
        have x1 : W1.cell? ⟨X, 1, none⟩ = some (.int .i64 shard) := hX.cell 1
        have x2 : W1.cell? ⟨X, 2, none⟩ = some (.int .u64 epoch) := hX.cell 2
        have q0 : W1.cell? ⟨gw, 0, none⟩ = some (.slice TA n tc) := HS1.out.doc.bg.cell 0
        have q1 : W1.cell? ⟨gw, 1, none⟩ = some (.slice S.A S.xs.length S.c) := HS1.out.doc.bg.cell 1
        have q2 : W1.cell? ⟨gw, 2, none⟩ = some (.slice E.A E.xs.length E.c) := HS1.out.doc.bg.cell 2
        have q3 : W1.cell? ⟨gw, 3, none⟩ = some (.slice L.A L.xs.length L.c) := HS1.out.doc.bg.cell 3
        have q4 : W1.cell? ⟨gw, 4, none⟩ = some (.int .i64 k) := HS1.out.doc.bg.cell 4
        clear hW1 hXe HS e0 e1 e2 hX
        go_cut [62] (fun s62 wd => s62 = .int .i64 kind ∧ wd = W1)
        case first =>
          go_wp2
          go_meet
          case rel => exact ⟨rfl, rfl⟩
        obtain ⟨rfl, rfl⟩ := hcut
        apply_assumption
        obtain ⟨W1, rfl⟩ : ∃ W1 : World, W1 = wc := ⟨_, rfl⟩
        go_cut [] (fun wd => ∃ (pp : List (List (Nat × Int))) (acks : List (Int × Int)) (last : List Int) (TA : Option Addr) (tc : Nat) (rows : List Rw) (S E L : Rw), PlayAt w wd N B gw n k pp acks last TA tc rows S E L)
        case rest =>
         as_aux_lemma =>
          obtain ⟨pp, acks, last, TA, tc, rows, S, E, L, hs⟩ := hcut
          have HS2 := Lib.hid hs
          clear HS1 x0 x1 x2 q0 q1 q2 q3 q4 hXl hgX hs
          go_wp2
          go_loopg [30] n (fun gq x30 wx => ∃ q : Nat, q ≤ n ∧ n ≤ q + gq ∧ x30 = .int .i64 q ∧ PlayAt w wx N B gw n k pp acks last TA tc rows S E L)
          case atStart => exact ⟨0, Nat.zero_le _, by omega, rfl, HS2.out⟩
          case round =>
            obtain ⟨q, hq, hgq, rfl, hs⟩ := hrel
            have hgl := hs.doc.bg.lt
            have u0 : wr.cell? ⟨gw, 0, none⟩ = some (.slice TA n tc) := hs.doc.bg.cell 0
            by_cases hql : q < n
            · obtain ⟨rw, hrw⟩ : ∃ rw, rows[q]? = some rw := ⟨_, List.getElem?_eq_getElem (by rw [hs.doc.rb.tl]; exact hql)⟩
              have HQ : Hid (∀ nq, Calls Try.prog 12 #[.pointer (some ⟨B.b, 0, none⟩), .int .i64 q] (wr.drewN nq) fun e w' => e = .returned (.int .i64 rw.xs.length) ∧ wr.drewN nq = w') := fun nq => (hs.more ((Upd.refl [] wr).drewN nq)).cqueued q rw hrw
              obtain ⟨bt, ot, rfl, ht1, ht2, htc⟩ := hs.doc.rb.at
              have t0 := htc q rw hrw
              have HSx := Lib.hid hs
              clear hs htc hrw ht1 ht2
              go_upto_region 41 with fail
              go_quiet ((go_at_call 12; exact quiet_one (HQ.out _)))
              go_wp2
              go_roundg (gk - 1)
              case measure => omega
              case rel => exact ⟨q + 1, by omega, by omega, by go_num, HSx.out.more ((Upd.refl [] wr).drewN _)⟩
            · obtain rfl : q = n := by omega
              have u1 : wr.cell? ⟨gw, 1, none⟩ = some (.slice S.A S.xs.length S.c) := hs.doc.bg.cell 1
              have u2 : wr.cell? ⟨gw, 2, none⟩ = some (.slice E.A E.xs.length E.c) := hs.doc.bg.cell 2
              have u3 : wr.cell? ⟨gw, 3, none⟩ = some (.slice L.A L.xs.length L.c) := hs.doc.bg.cell 3
              have u4 : wr.cell? ⟨gw, 4, none⟩ = some (.int .i64 k) := hs.doc.bg.cell 4
              have HSx := Lib.hid hs
              have hU0 : Upd [] wr wr.drew := (Upd.refl [] wr).drewN 1
              clear hs HS2
              go_upto_region 43 with fail
              go_cut [207] (fun s wd => s = .bool false ∧ Upd [] wr wd)
              case first =>
                go_region_held3 (fun w' => w'.cell? ⟨gw, 0, none⟩ = some (.slice TA q tc) ∧ w'.cell? ⟨gw, 1, none⟩ = some (.slice S.A S.xs.length S.c) ∧ w'.cell? ⟨gw, 2, none⟩ = some (.slice E.A E.xs.length E.c) ∧ w'.cell? ⟨gw, 3, none⟩ = some (.slice L.A L.xs.length L.c) ∧ w'.cell? ⟨gw, 4, none⟩ = some (.int .i64 k))
                  (first | go_keep | exact ⟨(hU1.cell (p := ⟨gw, 0, none⟩) hgl (by simp)).trans u0, (hU1.cell (p := ⟨gw, 1, none⟩) hgl (by simp)).trans u1, (hU1.cell (p := ⟨gw, 2, none⟩) hgl (by simp)).trans u2, (hU1.cell (p := ⟨gw, 3, none⟩) hgl (by simp)).trans u3, (hU1.cell (p := ⟨gw, 4, none⟩) hgl (by simp)).trans u4⟩)
                  (first
                    | (go_at_call 21; refine ((HSx.out.more (by first | exact hU1 | exact hU0)).cacked).mono ?_; rintro e w5 ⟨rfl, hu5⟩; have hU1 : Upd [] wr w5 := (by first | exact hU1.next hu5 | exact hU0.next hu5); clear hu5)
                    | (go_at_call 22; refine (racked_any ((HSx.out.more (by first | exact hU1 | exact hU0)).doc.rb)).mono ?_; rintro e w5 ⟨rfl, hu5⟩; have hU1 : Upd [] wr w5 := (by first | exact hU1.next hu5 | exact hU0.next hu5); clear hu5)
                    | (go_at_call 23; refine ((HSx.out.more (by first | exact hU1 | exact hU0)).cacks).mono ?_; rintro e w5 ⟨rfl, hu5⟩; have hU1 : Upd [] wr w5 := (by first | exact hU1.next hu5 | exact hU0.next hu5); clear hu5)
                    | (go_at_call 24; refine ((HSx.out.more (by first | exact hU1 | exact hU0)).croom).mono ?_; rintro e w5 ⟨rfl, hu5⟩; have hU1 : Upd [] wr w5 := (by first | exact hU1.next hu5 | exact hU0.next hu5); clear hu5)
                    | (go_at_call 25; refine (rroom_any ((HSx.out.more (by first | exact hU1 | exact hU0)).doc.rb)).mono ?_; rintro e w5 ⟨rfl, hu5⟩; have hU1 : Upd [] wr w5 := (by first | exact hU1.next hu5 | exact hU0.next hu5); clear hu5)
                    | (go_at_call 12; refine ((HSx.out.more (by first | exact hU1 | exact hU0)).cnone _ (by omega)).mono ?_; rintro e w5 ⟨rfl, hu5⟩; have hU1 : Upd [] wr w5 := (by first | exact hU1.next hu5 | exact hU0.next hu5); clear hu5))
                all_goals
                  go_wp2
                  go_meet
                  case rel => exact ⟨rfl, hU1⟩
              obtain ⟨rfl, hU⟩ := hcut
              have HU := Lib.hid hU
              clear hU hU0 u0 u1 u2 u3 u4
              go_wp2
              go_roundg (gA - 1)
              case measure => omega
              case rel => exact ⟨j + 1, pp, acks, last, TA, tc, rows, S, E, L, by omega, by omega, by go_num, HSx.out.more HU.out⟩
        case first =>
          by_cases hk0 : kind = 0 ∨ kind = 1
          · rcases hk0 with rfl | rfl <;>
            · as_aux_lemma =>
              cases hr : rroom k rows
              · as_aux_lemma =>
                have HC := Lib.hid (rsend_full HS1.out.doc.rb epoch hr)
                simp only [bcells] at HC
                go_wp2_with fail
                refine HC.out.mono ?_
                rintro e w3 ⟨rfl, hb3⟩
                clear q0 q1 q2 q3 q4 HC
                go_upto_region 23 with fail
                obtain ⟨WV, hWV⟩ : ∃ WV, WV = w3.alloc (.cells #[.slice TA n tc, .slice S.A S.xs.length S.c, .slice E.A E.xs.length E.c, .slice L.A L.xs.length L.c, .int .i64 k] 41) := ⟨_, rfl⟩
                obtain ⟨V, hV⟩ : ∃ V, V = w3.heap.size := ⟨_, rfl⟩
                rw [← hWV, ← hV]
                have hG : Blk WV gw 41 (bcells n k TA tc S E L) := by rw [hWV]; exact (HS1.out.doc.bg.below hb3 HS1.out.doc.bg.lt).alloc _
                have hvb : Blk WV V 41 #[.slice TA n tc, .slice S.A S.xs.length S.c, .slice E.A E.xs.length E.c, .slice L.A L.xs.length L.c, .int .i64 k] := by rw [hWV, hV]; exact Blk.new _ _ _
                have hgV : gw ≠ V := by rw [hV]; exact Nat.ne_of_lt (Nat.lt_of_lt_of_le HS1.out.doc.bg.lt hb3.size)
                have huV : Upd [] w3 WV := by rw [hWV]; exact (Upd.refl _ _).alloc _
                have HBK := Lib.hid (doc_stored (b0 := .slice TA n tc) (b1 := .slice S.A S.xs.length S.c) (b2 := .slice E.A E.xs.length E.c) (b3 := .slice L.A L.xs.length L.c) (b4 := .int .i64 k) hG)
                have HM := Lib.hid (HS1.out.mid hb3 (HS1.out.doc.rb.below hb3) HS1.out.doc.av ((huV.more (by simp)).next HBK.out.1) HBK.out.2)
                have hgl3 : gw < WV.heap.size := hG.lt
                have hVl3 : V < WV.heap.size := hvb.lt
                have hXl3 : X < WV.heap.size := Nat.lt_of_lt_of_le (Nat.lt_of_lt_of_le hXl hb3.size) huV.size
                have y2 := (huV.cell (p := ⟨X, 2, none⟩) (Nat.lt_of_lt_of_le hXl hb3.size) (by simp)).trans ((hb3.cell (p := ⟨X, 2, none⟩) hXl).trans x2)
                have f0 := hG.frozen 0
                have f1 := hG.frozen 1
                have f2 := hG.frozen 2
                have f3 := hG.frozen 3
                have f4 := hG.frozen 4
                have d0 : WV.cell? ⟨gw, 0, none⟩ = some (.slice TA n tc) := hG.cell 0
                have d1 : WV.cell? ⟨gw, 1, none⟩ = some (.slice S.A S.xs.length S.c) := hG.cell 1
                have d2 : WV.cell? ⟨gw, 2, none⟩ = some (.slice E.A E.xs.length E.c) := hG.cell 2
                have d3 : WV.cell? ⟨gw, 3, none⟩ = some (.slice L.A L.xs.length L.c) := hG.cell 3
                have d4 : WV.cell? ⟨gw, 4, none⟩ = some (.int .i64 k) := hG.cell 4
                have v0 : WV.cell? ⟨V, 0, none⟩ = some (.slice TA n tc) := hvb.cell 0
                have v1 : WV.cell? ⟨V, 1, none⟩ = some (.slice S.A S.xs.length S.c) := hvb.cell 1
                have v2 : WV.cell? ⟨V, 2, none⟩ = some (.slice E.A E.xs.length E.c) := hvb.cell 2
                have v3 : WV.cell? ⟨V, 3, none⟩ = some (.slice L.A L.xs.length L.c) := hvb.cell 3
                have v4 : WV.cell? ⟨V, 4, none⟩ = some (.int .i64 k) := hvb.cell 4
                clear hb3
                clear hG hvb huV x0 x1 x2 hWV hV
                go_upto_region 24 with fail
                obtain ⟨WS, hWS⟩ : ∃ WS, WS = (((((WV.setCell ⟨gw, 0, none⟩ (.slice TA n tc)).setCell ⟨gw, 1, none⟩ (.slice S.A S.xs.length S.c)).setCell ⟨gw, 2, none⟩ (.slice E.A E.xs.length E.c)).setCell ⟨gw, 3, none⟩ (.slice L.A L.xs.length L.c)).setCell ⟨gw, 4, none⟩ (.int .i64 k)) := ⟨_, rfl⟩
                rw [← hWS]
                rw [← hWS] at HBK HM
                have z2 := (HBK.out.1.cell (p := ⟨X, 2, none⟩) hXl3 (by simpa using Ne.symm hgX)).trans y2
                clear hWS f0 f1 f2 f3 f4 d0 d1 d2 d3 d4 v0 v1 v2 v3 v4 hgV hVl3 HBK y2
                go_wp2_with fail
                refine (of_any epoch _).mono ?_
                rintro e w4 ⟨g1, m1, m1', rfl, ht1, hg1, hu4⟩
                have HM4 := Lib.hid (HM.out.more hu4)
                have HC := Lib.hid (send_full HM4.out.br.is ⟨g1, 0, none⟩ (by rw [HS1.out.room]; exact hr))
                clear ht1 hg1 hu4
                go_wp2_with fail
                refine HC.out.mono ?_
                rintro e w5 ⟨rfl, hu5⟩
                have HP := Lib.hid (HM4.out.stay hu5 HS1.out.rx HS1.out.sx HS1.out.ex HS1.out.lx)
                clear hu5 HC

                go_wp2
                go_meet
                case rel => exact ⟨_, _, _, _, _, _, _, _, _, HP.out⟩
              · as_aux_lemma =>
                have HC := Lib.hid (rsend_yes HS1.out.doc.rb epoch hr)
                simp only [bcells] at HC
                go_wp2_with fail
                refine HC.out.mono ?_
                rintro e w3 ⟨TA', tc', rows', rfl, hx3, hr3, hb3, hf3, hfr3⟩
                clear q0 q1 q2 q3 q4 HC
                go_upto_region 23 with fail
                obtain ⟨WV, hWV⟩ : ∃ WV, WV = w3.alloc (.cells #[.slice TA' n tc', .slice S.A S.xs.length S.c, .slice E.A E.xs.length E.c, .slice L.A L.xs.length L.c, .int .i64 k] 41) := ⟨_, rfl⟩
                obtain ⟨V, hV⟩ : ∃ V, V = w3.heap.size := ⟨_, rfl⟩
                rw [← hWV, ← hV]
                have hG : Blk WV gw 41 (bcells n k TA tc S E L) := by rw [hWV]; exact (HS1.out.doc.bg.below hb3 HS1.out.doc.bg.lt).alloc _
                have hvb : Blk WV V 41 #[.slice TA' n tc', .slice S.A S.xs.length S.c, .slice E.A E.xs.length E.c, .slice L.A L.xs.length L.c, .int .i64 k] := by rw [hWV, hV]; exact Blk.new _ _ _
                have hgV : gw ≠ V := by rw [hV]; exact Nat.ne_of_lt (Nat.lt_of_lt_of_le HS1.out.doc.bg.lt hb3.size)
                have huV : Upd [] w3 WV := by rw [hWV]; exact (Upd.refl _ _).alloc _
                have HBK := Lib.hid (doc_stored (b0 := .slice TA' n tc') (b1 := .slice S.A S.xs.length S.c) (b2 := .slice E.A E.xs.length E.c) (b3 := .slice L.A L.xs.length L.c) (b4 := .int .i64 k) hG)
                have HM := Lib.hid (HS1.out.mid hb3 hr3 ⟨Nb.fr hf3 HS1.out.doc.bg.lt, fun r hr => Nb.fr (hfr3 r hr) HS1.out.doc.bg.lt, HS1.out.doc.av.s, HS1.out.doc.av.e, HS1.out.doc.av.l⟩ ((huV.more (by simp)).next HBK.out.1) HBK.out.2)
                have hgl3 : gw < WV.heap.size := hG.lt
                have hVl3 : V < WV.heap.size := hvb.lt
                have hXl3 : X < WV.heap.size := Nat.lt_of_lt_of_le (Nat.lt_of_lt_of_le hXl hb3.size) huV.size
                have y2 := (huV.cell (p := ⟨X, 2, none⟩) (Nat.lt_of_lt_of_le hXl hb3.size) (by simp)).trans ((hb3.cell (p := ⟨X, 2, none⟩) hXl).trans x2)
                have f0 := hG.frozen 0
                have f1 := hG.frozen 1
                have f2 := hG.frozen 2
                have f3 := hG.frozen 3
                have f4 := hG.frozen 4
                have d0 : WV.cell? ⟨gw, 0, none⟩ = some (.slice TA n tc) := hG.cell 0
                have d1 : WV.cell? ⟨gw, 1, none⟩ = some (.slice S.A S.xs.length S.c) := hG.cell 1
                have d2 : WV.cell? ⟨gw, 2, none⟩ = some (.slice E.A E.xs.length E.c) := hG.cell 2
                have d3 : WV.cell? ⟨gw, 3, none⟩ = some (.slice L.A L.xs.length L.c) := hG.cell 3
                have d4 : WV.cell? ⟨gw, 4, none⟩ = some (.int .i64 k) := hG.cell 4
                have v0 : WV.cell? ⟨V, 0, none⟩ = some (.slice TA' n tc') := hvb.cell 0
                have v1 : WV.cell? ⟨V, 1, none⟩ = some (.slice S.A S.xs.length S.c) := hvb.cell 1
                have v2 : WV.cell? ⟨V, 2, none⟩ = some (.slice E.A E.xs.length E.c) := hvb.cell 2
                have v3 : WV.cell? ⟨V, 3, none⟩ = some (.slice L.A L.xs.length L.c) := hvb.cell 3
                have v4 : WV.cell? ⟨V, 4, none⟩ = some (.int .i64 k) := hvb.cell 4
                have HX3 := Lib.hid hx3
                clear hx3 hr3 hb3 hf3 hfr3
                clear hG hvb huV x0 x1 x2 hWV hV
                go_upto_region 24 with fail
                obtain ⟨WS, hWS⟩ : ∃ WS, WS = (((((WV.setCell ⟨gw, 0, none⟩ (.slice TA' n tc')).setCell ⟨gw, 1, none⟩ (.slice S.A S.xs.length S.c)).setCell ⟨gw, 2, none⟩ (.slice E.A E.xs.length E.c)).setCell ⟨gw, 3, none⟩ (.slice L.A L.xs.length L.c)).setCell ⟨gw, 4, none⟩ (.int .i64 k)) := ⟨_, rfl⟩
                rw [← hWS]
                rw [← hWS] at HBK HM
                have z2 := (HBK.out.1.cell (p := ⟨X, 2, none⟩) hXl3 (by simpa using Ne.symm hgX)).trans y2
                clear hWS f0 f1 f2 f3 f4 d0 d1 d2 d3 d4 v0 v1 v2 v3 v4 hgV hVl3 HBK y2
                go_wp2_with fail
                refine (of_any epoch _).mono ?_
                rintro e w4 ⟨g1, m1, m1', rfl, ht1, hg1, hu4⟩
                have HM4 := Lib.hid (HM.out.more hu4)
                have HT1 := Lib.hid ht1
                have HC := Lib.hid (send_yes HM4.out.br.is ⟨g1, 0, none⟩ (by rw [HS1.out.room]; exact hr))
                clear ht1 hg1 hu4
                go_wp2_with fail
                refine HC.out.mono ?_
                rintro e w5 ⟨rfl, hb5, hu5⟩
                have HP := Lib.hid (HM4.out.play (pp' := pp.map (· ++ [(g1, epoch)])) (by rw [List.map_map] at hb5 ⊢; simpa [Function.comp_def, pt] using hb5) hu5
                  (fun l hl x hx => by
                    obtain ⟨l0, hl0, rfl⟩ := List.mem_map.1 hl
                    rcases List.mem_append.1 hx with h1 | h1
                    · exact .inl ⟨l0, hl0, h1⟩
                    · rw [List.mem_singleton] at h1; subst h1; exact .inr ⟨m1, m1', HT1.out⟩)
                  (by
                    rw [HX3.out, List.map_map]
                    have := congrArg (List.map (· ++ [epoch])) HS1.out.rx
                    rw [List.map_map, List.map_map] at this
                    simpa [Function.comp_def] using this)
                  HS1.out.sx HS1.out.ex HS1.out.lx)
                clear hb5 hu5 HC

                go_wp2
                go_meet
                case rel => exact ⟨_, _, _, _, _, _, _, _, _, HP.out⟩
          by_cases hk2 : kind = 2 ∨ kind = 3
          · rcases hk2 with rfl | rfl <;>
            · as_aux_lemma =>
              rcases HS1.out.takes shard with ⟨q, rr, x, xs, gt, lt, rfl, hrr, hx, hpq, hxl⟩ | ⟨hno, hmt⟩
              · as_aux_lemma =>
                have HC := Lib.hid (rtake_yes HS1.out.doc.rb q rr x xs hrr hx)
                simp only [bcells] at HC
                go_wp2_with fail
                refine HC.out.mono ?_
                rintro e w3 ⟨TA', tc', r', rfl, hx3, hr3, hb3, hf3, hk3⟩
                clear q0 q1 q2 q3 q4 HC
                go_upto_region 29 with fail
                obtain ⟨WV, hWV⟩ : ∃ WV, WV = w3.alloc (.cells #[.slice TA' n tc', .slice S.A S.xs.length S.c, .slice E.A E.xs.length E.c, .slice L.A L.xs.length L.c, .int .i64 k] 41) := ⟨_, rfl⟩
                obtain ⟨V, hV⟩ : ∃ V, V = w3.heap.size := ⟨_, rfl⟩
                rw [← hWV, ← hV]
                have hG : Blk WV gw 41 (bcells n k TA tc S E L) := by rw [hWV]; exact (HS1.out.doc.bg.below hb3 HS1.out.doc.bg.lt).alloc _
                have hvb : Blk WV V 41 #[.slice TA' n tc', .slice S.A S.xs.length S.c, .slice E.A E.xs.length E.c, .slice L.A L.xs.length L.c, .int .i64 k] := by rw [hWV, hV]; exact Blk.new _ _ _
                have hgV : gw ≠ V := by rw [hV]; exact Nat.ne_of_lt (Nat.lt_of_lt_of_le HS1.out.doc.bg.lt hb3.size)
                have huV : Upd [] w3 WV := by rw [hWV]; exact (Upd.refl _ _).alloc _
                have HBK := Lib.hid (doc_stored (b0 := .slice TA' n tc') (b1 := .slice S.A S.xs.length S.c) (b2 := .slice E.A E.xs.length E.c) (b3 := .slice L.A L.xs.length L.c) (b4 := .int .i64 k) hG)
                have HM := Lib.hid (HS1.out.mid hb3 hr3 ⟨Nb.fr hf3 HS1.out.doc.bg.lt, fun r0 hr0 => (List.mem_or_eq_of_mem_set hr0).elim (fun h1 => HS1.out.doc.av.r r0 h1) (fun h1 => by rw [h1]; exact Nb.kp (HS1.out.doc.av.r rr (List.mem_of_getElem? hrr)) hk3), HS1.out.doc.av.s, HS1.out.doc.av.e, HS1.out.doc.av.l⟩ ((huV.more (by simp)).next HBK.out.1) HBK.out.2)
                have hgl3 : gw < WV.heap.size := hG.lt
                have hVl3 : V < WV.heap.size := hvb.lt
                have hXl3 : X < WV.heap.size := Nat.lt_of_lt_of_le (Nat.lt_of_lt_of_le hXl hb3.size) huV.size
                have y1 := (huV.cell (p := ⟨X, 1, none⟩) (Nat.lt_of_lt_of_le hXl hb3.size) (by simp)).trans ((hb3.cell (p := ⟨X, 1, none⟩) hXl).trans x1)
                have f0 := hG.frozen 0
                have f1 := hG.frozen 1
                have f2 := hG.frozen 2
                have f3 := hG.frozen 3
                have f4 := hG.frozen 4
                have d0 : WV.cell? ⟨gw, 0, none⟩ = some (.slice TA n tc) := hG.cell 0
                have d1 : WV.cell? ⟨gw, 1, none⟩ = some (.slice S.A S.xs.length S.c) := hG.cell 1
                have d2 : WV.cell? ⟨gw, 2, none⟩ = some (.slice E.A E.xs.length E.c) := hG.cell 2
                have d3 : WV.cell? ⟨gw, 3, none⟩ = some (.slice L.A L.xs.length L.c) := hG.cell 3
                have d4 : WV.cell? ⟨gw, 4, none⟩ = some (.int .i64 k) := hG.cell 4
                have v0 : WV.cell? ⟨V, 0, none⟩ = some (.slice TA' n tc') := hvb.cell 0
                have v1 : WV.cell? ⟨V, 1, none⟩ = some (.slice S.A S.xs.length S.c) := hvb.cell 1
                have v2 : WV.cell? ⟨V, 2, none⟩ = some (.slice E.A E.xs.length E.c) := hvb.cell 2
                have v3 : WV.cell? ⟨V, 3, none⟩ = some (.slice L.A L.xs.length L.c) := hvb.cell 3
                have v4 : WV.cell? ⟨V, 4, none⟩ = some (.int .i64 k) := hvb.cell 4
                have HX3 := Lib.hid hx3
                have HPQ := Lib.hid hpq
                have HRR := Lib.hid hrr
                have HXL := Lib.hid hxl
                clear hx3 hr3 hb3 hf3 hk3 hpq hrr hxl hx
                clear hG hvb huV x0 x1 x2 hWV hV
                go_upto_region 30 with fail
                obtain ⟨WS, hWS⟩ : ∃ WS, WS = (((((WV.setCell ⟨gw, 0, none⟩ (.slice TA' n tc')).setCell ⟨gw, 1, none⟩ (.slice S.A S.xs.length S.c)).setCell ⟨gw, 2, none⟩ (.slice E.A E.xs.length E.c)).setCell ⟨gw, 3, none⟩ (.slice L.A L.xs.length L.c)).setCell ⟨gw, 4, none⟩ (.int .i64 k)) := ⟨_, rfl⟩
                rw [← hWS]
                rw [← hWS] at HBK HM
                have z1 := (HBK.out.1.cell (p := ⟨X, 1, none⟩) hXl3 (by simpa using Ne.symm hgX)).trans y1
                clear hWS f0 f1 f2 f3 f4 d0 d1 d2 d3 d4 v0 v1 v2 v3 v4 hgV hVl3 HBK y1
                go_wp2_with fail
                have HC := Lib.hid (take_yes HM.out.br.is q (pt (gt, x)) (lt.map pt) (by rw [List.getElem?_map, HPQ.out]; rfl))
                dsimp only [pt] at HC
                refine HC.out.mono ?_
                rintro e w5 ⟨rfl, hb5, hu5⟩
                obtain ⟨m1, m2, ht⟩ := HM.out.br.tb _ (List.mem_of_getElem? HPQ.out) (gt, x) (by simp)
                have HT5 := Lib.hid (ht.upd hu5 (HM.out.br.is.tab ht))
                have HP := Lib.hid (HM.out.play (pp' := pp.set q lt) (by rw [List.map_set]; exact hb5) hu5 (fun l hl y hy => .inl (mem_set_of HPQ.out hl hy))
                  (by
                    rw [List.map_set, List.map_set, HS1.out.rx, HX3.out, HXL.out])
                  HS1.out.sx HS1.out.ex HS1.out.lx)
                clear hb5 hu5 HC ht
                go_wp2_with fail
                refine (epoch_any HT5.out).mono ?_
                rintro e w6 ⟨rfl, rfl⟩

                go_wp2
                go_meet
                case rel => exact ⟨_, _, _, _, _, _, _, _, _, HP.out⟩
              · as_aux_lemma =>
                have HC := Lib.hid (rtake_no HS1.out.doc.rb shard hno)
                simp only [bcells] at HC
                go_wp2_with fail
                refine HC.out.mono ?_
                rintro e w3 ⟨rfl, hu3⟩
                have hb3 : Below W1.heap.size W1 w3 := hu3.below (Nat.le_refl _) (by simp)
                clear q0 q1 q2 q3 q4 HC
                go_upto_region 29 with fail
                obtain ⟨WV, hWV⟩ : ∃ WV, WV = w3.alloc (.cells #[.slice TA n tc, .slice S.A S.xs.length S.c, .slice E.A E.xs.length E.c, .slice L.A L.xs.length L.c, .int .i64 k] 41) := ⟨_, rfl⟩
                obtain ⟨V, hV⟩ : ∃ V, V = w3.heap.size := ⟨_, rfl⟩
                rw [← hWV, ← hV]
                have hG : Blk WV gw 41 (bcells n k TA tc S E L) := by rw [hWV]; exact (HS1.out.doc.bg.below hb3 HS1.out.doc.bg.lt).alloc _
                have hvb : Blk WV V 41 #[.slice TA n tc, .slice S.A S.xs.length S.c, .slice E.A E.xs.length E.c, .slice L.A L.xs.length L.c, .int .i64 k] := by rw [hWV, hV]; exact Blk.new _ _ _
                have hgV : gw ≠ V := by rw [hV]; exact Nat.ne_of_lt (Nat.lt_of_lt_of_le HS1.out.doc.bg.lt hb3.size)
                have huV : Upd [] w3 WV := by rw [hWV]; exact (Upd.refl _ _).alloc _
                have HBK := Lib.hid (doc_stored (b0 := .slice TA n tc) (b1 := .slice S.A S.xs.length S.c) (b2 := .slice E.A E.xs.length E.c) (b3 := .slice L.A L.xs.length L.c) (b4 := .int .i64 k) hG)
                have HM := Lib.hid (HS1.out.mid hb3 (HS1.out.doc.rb.below hb3) HS1.out.doc.av ((huV.more (by simp)).next HBK.out.1) HBK.out.2)
                have hgl3 : gw < WV.heap.size := hG.lt
                have hVl3 : V < WV.heap.size := hvb.lt
                have hXl3 : X < WV.heap.size := Nat.lt_of_lt_of_le (Nat.lt_of_lt_of_le hXl hb3.size) huV.size
                have y1 := (huV.cell (p := ⟨X, 1, none⟩) (Nat.lt_of_lt_of_le hXl hb3.size) (by simp)).trans ((hb3.cell (p := ⟨X, 1, none⟩) hXl).trans x1)
                have f0 := hG.frozen 0
                have f1 := hG.frozen 1
                have f2 := hG.frozen 2
                have f3 := hG.frozen 3
                have f4 := hG.frozen 4
                have d0 : WV.cell? ⟨gw, 0, none⟩ = some (.slice TA n tc) := hG.cell 0
                have d1 : WV.cell? ⟨gw, 1, none⟩ = some (.slice S.A S.xs.length S.c) := hG.cell 1
                have d2 : WV.cell? ⟨gw, 2, none⟩ = some (.slice E.A E.xs.length E.c) := hG.cell 2
                have d3 : WV.cell? ⟨gw, 3, none⟩ = some (.slice L.A L.xs.length L.c) := hG.cell 3
                have d4 : WV.cell? ⟨gw, 4, none⟩ = some (.int .i64 k) := hG.cell 4
                have v0 : WV.cell? ⟨V, 0, none⟩ = some (.slice TA n tc) := hvb.cell 0
                have v1 : WV.cell? ⟨V, 1, none⟩ = some (.slice S.A S.xs.length S.c) := hvb.cell 1
                have v2 : WV.cell? ⟨V, 2, none⟩ = some (.slice E.A E.xs.length E.c) := hvb.cell 2
                have v3 : WV.cell? ⟨V, 3, none⟩ = some (.slice L.A L.xs.length L.c) := hvb.cell 3
                have v4 : WV.cell? ⟨V, 4, none⟩ = some (.int .i64 k) := hvb.cell 4
                have HMT := Lib.hid hmt
                clear hb3 hu3 hno hmt
                clear hG hvb huV x0 x1 x2 hWV hV
                go_upto_region 30 with fail
                obtain ⟨WS, hWS⟩ : ∃ WS, WS = (((((WV.setCell ⟨gw, 0, none⟩ (.slice TA n tc)).setCell ⟨gw, 1, none⟩ (.slice S.A S.xs.length S.c)).setCell ⟨gw, 2, none⟩ (.slice E.A E.xs.length E.c)).setCell ⟨gw, 3, none⟩ (.slice L.A L.xs.length L.c)).setCell ⟨gw, 4, none⟩ (.int .i64 k)) := ⟨_, rfl⟩
                rw [← hWS]
                rw [← hWS] at HBK HM
                have z1 := (HBK.out.1.cell (p := ⟨X, 1, none⟩) hXl3 (by simpa using Ne.symm hgX)).trans y1
                clear hWS f0 f1 f2 f3 f4 d0 d1 d2 d3 d4 v0 v1 v2 v3 v4 hgV hVl3 HBK y1
                go_wp2_with fail
                have hc := HM.out.br.is.take shard
                rw [HMT.out] at hc
                dsimp only at hc
                have HC := Lib.hid hc
                clear hc
                refine HC.out.mono ?_
                rintro e w5 ⟨rfl, hb5, hu5⟩
                have HP := Lib.hid (HM.out.play hb5 hu5 (fun l hl x hx => .inl ⟨l, hl, hx⟩) HS1.out.rx HS1.out.sx HS1.out.ex HS1.out.lx)
                clear hb5 hu5 HC
                go_wp2_with fail
                refine (epoch_nil _).mono ?_
                rintro e w6 ⟨rfl, rfl⟩

                go_wp2
                go_meet
                case rel => exact ⟨_, _, _, _, _, _, _, _, _, HP.out⟩
          have n0 : ¬ kind = 0 := by omega
          have n1 : ¬ kind = 1 := by omega
          have n2 : ¬ kind = 2 := by omega
          have n3 : ¬ kind = 3 := by omega
          clear hk0 hk2
          by_cases hk4 : kind = 4
          · subst hk4
            by_cases hno : shard < 0 ∨ (n : Int) ≤ shard
            · as_aux_lemma =>
              have HC := Lib.hid (rack_no HS1.out.doc.rb shard epoch hno)
              simp only [bcells] at HC
              go_wp2_with fail
              refine HC.out.mono ?_
              rintro e w3 ⟨rfl, hu3⟩
              have hb3 : Below W1.heap.size W1 w3 := hu3.below (Nat.le_refl _) (by simp)
              clear q0 q1 q2 q3 q4 HC
              go_upto_region 35 with fail
              obtain ⟨WV, hWV⟩ : ∃ WV, WV = w3.alloc (.cells #[.slice TA n tc, .slice S.A S.xs.length S.c, .slice E.A E.xs.length E.c, .slice L.A L.xs.length L.c, .int .i64 k] 41) := ⟨_, rfl⟩
              obtain ⟨V, hV⟩ : ∃ V, V = w3.heap.size := ⟨_, rfl⟩
              rw [← hWV, ← hV]
              have hG : Blk WV gw 41 (bcells n k TA tc S E L) := by rw [hWV]; exact (HS1.out.doc.bg.below hb3 HS1.out.doc.bg.lt).alloc _
              have hvb : Blk WV V 41 #[.slice TA n tc, .slice S.A S.xs.length S.c, .slice E.A E.xs.length E.c, .slice L.A L.xs.length L.c, .int .i64 k] := by rw [hWV, hV]; exact Blk.new _ _ _
              have hgV : gw ≠ V := by rw [hV]; exact Nat.ne_of_lt (Nat.lt_of_lt_of_le HS1.out.doc.bg.lt hb3.size)
              have huV : Upd [] w3 WV := by rw [hWV]; exact (Upd.refl _ _).alloc _
              have HBK := Lib.hid (doc_stored (b0 := .slice TA n tc) (b1 := .slice S.A S.xs.length S.c) (b2 := .slice E.A E.xs.length E.c) (b3 := .slice L.A L.xs.length L.c) (b4 := .int .i64 k) hG)
              have HM := Lib.hid (HS1.out.mid hb3 (HS1.out.doc.rb.below hb3) HS1.out.doc.av ((huV.more (by simp)).next HBK.out.1) HBK.out.2)
              have hgl3 : gw < WV.heap.size := hG.lt
              have hVl3 : V < WV.heap.size := hvb.lt
              have hXl3 : X < WV.heap.size := Nat.lt_of_lt_of_le (Nat.lt_of_lt_of_le hXl hb3.size) huV.size
              have y1 := (huV.cell (p := ⟨X, 1, none⟩) (Nat.lt_of_lt_of_le hXl hb3.size) (by simp)).trans ((hb3.cell (p := ⟨X, 1, none⟩) hXl).trans x1)
              have y2 := (huV.cell (p := ⟨X, 2, none⟩) (Nat.lt_of_lt_of_le hXl hb3.size) (by simp)).trans ((hb3.cell (p := ⟨X, 2, none⟩) hXl).trans x2)
              have f0 := hG.frozen 0
              have f1 := hG.frozen 1
              have f2 := hG.frozen 2
              have f3 := hG.frozen 3
              have f4 := hG.frozen 4
              have d0 : WV.cell? ⟨gw, 0, none⟩ = some (.slice TA n tc) := hG.cell 0
              have d1 : WV.cell? ⟨gw, 1, none⟩ = some (.slice S.A S.xs.length S.c) := hG.cell 1
              have d2 : WV.cell? ⟨gw, 2, none⟩ = some (.slice E.A E.xs.length E.c) := hG.cell 2
              have d3 : WV.cell? ⟨gw, 3, none⟩ = some (.slice L.A L.xs.length L.c) := hG.cell 3
              have d4 : WV.cell? ⟨gw, 4, none⟩ = some (.int .i64 k) := hG.cell 4
              have v0 : WV.cell? ⟨V, 0, none⟩ = some (.slice TA n tc) := hvb.cell 0
              have v1 : WV.cell? ⟨V, 1, none⟩ = some (.slice S.A S.xs.length S.c) := hvb.cell 1
              have v2 : WV.cell? ⟨V, 2, none⟩ = some (.slice E.A E.xs.length E.c) := hvb.cell 2
              have v3 : WV.cell? ⟨V, 3, none⟩ = some (.slice L.A L.xs.length L.c) := hvb.cell 3
              have v4 : WV.cell? ⟨V, 4, none⟩ = some (.int .i64 k) := hvb.cell 4
              have HNO := Lib.hid hno
              clear hb3 hu3 hno
              clear hG hvb huV x0 x1 x2 hWV hV
              go_upto_region 36 with fail
              obtain ⟨WS, hWS⟩ : ∃ WS, WS = (((((WV.setCell ⟨gw, 0, none⟩ (.slice TA n tc)).setCell ⟨gw, 1, none⟩ (.slice S.A S.xs.length S.c)).setCell ⟨gw, 2, none⟩ (.slice E.A E.xs.length E.c)).setCell ⟨gw, 3, none⟩ (.slice L.A L.xs.length L.c)).setCell ⟨gw, 4, none⟩ (.int .i64 k)) := ⟨_, rfl⟩
              rw [← hWS]
              rw [← hWS] at HBK HM
              have z1 := (HBK.out.1.cell (p := ⟨X, 1, none⟩) hXl3 (by simpa using Ne.symm hgX)).trans y1
              have z2 := (HBK.out.1.cell (p := ⟨X, 2, none⟩) hXl3 (by simpa using Ne.symm hgX)).trans y2
              clear hWS f0 f1 f2 f3 f4 d0 d1 d2 d3 d4 v0 v1 v2 v3 v4 hgV hVl3 HBK y1 y2
              go_wp2_with fail
              have HC := Lib.hid (ack_no HM.out.br.is shard epoch (by rw [HM.out.br.nn]; exact HNO.out))
              refine HC.out.mono ?_
              rintro e w5 ⟨rfl, rfl⟩
              have HP := Lib.hid (HM.out.stay (Upd.refl _ _) HS1.out.rx HS1.out.sx HS1.out.ex HS1.out.lx)
              clear HC

              go_wp2
              go_meet
              case rel => exact ⟨_, _, _, _, _, _, _, _, _, HP.out⟩
            · obtain ⟨q, rfl⟩ : ∃ q : Nat, shard = q := ⟨shard.toNat, by omega⟩
              have hqn : q < n := by omega
              clear hno
              by_cases hf : S.xs.length < n * k
              · as_aux_lemma =>
                have HC := Lib.hid (rack_yes HS1.out.doc.rb q epoch hqn hf)
                simp only [bcells] at HC
                go_wp2_with fail
                refine HC.out.mono ?_
                rintro e w3 ⟨S', E', rfl, hs3, he3, hr3, hb3, hf3, hfe3⟩
                have HS3 := Lib.hid hs3
                have HE3 := Lib.hid he3
                clear hs3 he3
                clear q0 q1 q2 q3 q4 HC
                go_upto_region 35 with fail
                obtain ⟨WV, hWV⟩ : ∃ WV, WV = w3.alloc (.cells #[.slice TA n tc, .slice S'.A S'.xs.length S'.c, .slice E'.A E'.xs.length E'.c, .slice L.A L.xs.length L.c, .int .i64 k] 41) := ⟨_, rfl⟩
                obtain ⟨V, hV⟩ : ∃ V, V = w3.heap.size := ⟨_, rfl⟩
                rw [← hWV, ← hV]
                have hG : Blk WV gw 41 (bcells n k TA tc S E L) := by rw [hWV]; exact (HS1.out.doc.bg.below hb3 HS1.out.doc.bg.lt).alloc _
                have hvb : Blk WV V 41 #[.slice TA n tc, .slice S'.A S'.xs.length S'.c, .slice E'.A E'.xs.length E'.c, .slice L.A L.xs.length L.c, .int .i64 k] := by rw [hWV, hV]; exact Blk.new _ _ _
                have hgV : gw ≠ V := by rw [hV]; exact Nat.ne_of_lt (Nat.lt_of_lt_of_le HS1.out.doc.bg.lt hb3.size)
                have huV : Upd [] w3 WV := by rw [hWV]; exact (Upd.refl _ _).alloc _
                have HBK := Lib.hid (doc_stored (b0 := .slice TA n tc) (b1 := .slice S'.A S'.xs.length S'.c) (b2 := .slice E'.A E'.xs.length E'.c) (b3 := .slice L.A L.xs.length L.c) (b4 := .int .i64 k) hG)
                have HM := Lib.hid (HS1.out.mid hb3 hr3 ⟨HS1.out.doc.av.t, HS1.out.doc.av.r, Nb.fr hf3 HS1.out.doc.bg.lt, Nb.fr hfe3 HS1.out.doc.bg.lt, HS1.out.doc.av.l⟩ ((huV.more (by simp)).next HBK.out.1) HBK.out.2)
                have hgl3 : gw < WV.heap.size := hG.lt
                have hVl3 : V < WV.heap.size := hvb.lt
                have hXl3 : X < WV.heap.size := Nat.lt_of_lt_of_le (Nat.lt_of_lt_of_le hXl hb3.size) huV.size
                have y1 := (huV.cell (p := ⟨X, 1, none⟩) (Nat.lt_of_lt_of_le hXl hb3.size) (by simp)).trans ((hb3.cell (p := ⟨X, 1, none⟩) hXl).trans x1)
                have y2 := (huV.cell (p := ⟨X, 2, none⟩) (Nat.lt_of_lt_of_le hXl hb3.size) (by simp)).trans ((hb3.cell (p := ⟨X, 2, none⟩) hXl).trans x2)
                have f0 := hG.frozen 0
                have f1 := hG.frozen 1
                have f2 := hG.frozen 2
                have f3 := hG.frozen 3
                have f4 := hG.frozen 4
                have d0 : WV.cell? ⟨gw, 0, none⟩ = some (.slice TA n tc) := hG.cell 0
                have d1 : WV.cell? ⟨gw, 1, none⟩ = some (.slice S.A S.xs.length S.c) := hG.cell 1
                have d2 : WV.cell? ⟨gw, 2, none⟩ = some (.slice E.A E.xs.length E.c) := hG.cell 2
                have d3 : WV.cell? ⟨gw, 3, none⟩ = some (.slice L.A L.xs.length L.c) := hG.cell 3
                have d4 : WV.cell? ⟨gw, 4, none⟩ = some (.int .i64 k) := hG.cell 4
                have v0 : WV.cell? ⟨V, 0, none⟩ = some (.slice TA n tc) := hvb.cell 0
                have v1 : WV.cell? ⟨V, 1, none⟩ = some (.slice S'.A S'.xs.length S'.c) := hvb.cell 1
                have v2 : WV.cell? ⟨V, 2, none⟩ = some (.slice E'.A E'.xs.length E'.c) := hvb.cell 2
                have v3 : WV.cell? ⟨V, 3, none⟩ = some (.slice L.A L.xs.length L.c) := hvb.cell 3
                have v4 : WV.cell? ⟨V, 4, none⟩ = some (.int .i64 k) := hvb.cell 4
                have HQN := Lib.hid hqn
                have HF := Lib.hid hf
                clear hr3 hb3 hf3 hfe3 hqn hf
                clear hG hvb huV x0 x1 x2 hWV hV
                go_upto_region 36 with fail
                obtain ⟨WS, hWS⟩ : ∃ WS, WS = (((((WV.setCell ⟨gw, 0, none⟩ (.slice TA n tc)).setCell ⟨gw, 1, none⟩ (.slice S'.A S'.xs.length S'.c)).setCell ⟨gw, 2, none⟩ (.slice E'.A E'.xs.length E'.c)).setCell ⟨gw, 3, none⟩ (.slice L.A L.xs.length L.c)).setCell ⟨gw, 4, none⟩ (.int .i64 k)) := ⟨_, rfl⟩
                rw [← hWS]
                rw [← hWS] at HBK HM
                have z1 := (HBK.out.1.cell (p := ⟨X, 1, none⟩) hXl3 (by simpa using Ne.symm hgX)).trans y1
                have z2 := (HBK.out.1.cell (p := ⟨X, 2, none⟩) hXl3 (by simpa using Ne.symm hgX)).trans y2
                clear hWS f0 f1 f2 f3 f4 d0 d1 d2 d3 d4 v0 v1 v2 v3 v4 hgV hVl3 HBK y1 y2
                go_wp2_with fail
                have HC := Lib.hid (ack_yes HM.out.br.is q epoch (by rw [HM.out.br.nn]; exact HQN.out) (by rw [HM.out.br.nn, HS1.out.alen]; exact HF.out))
                refine HC.out.mono ?_
                rintro e w5 ⟨rfl, hb5, hu5⟩
                have HP := Lib.hid (HM.out.play hb5 hu5 (fun l hl x hx => .inl ⟨l, hl, hx⟩) HS1.out.rx (by rw [List.map_append, HS1.out.sx, HS3.out]; rfl) (by rw [List.map_append, HS1.out.ex, HE3.out]; rfl) HS1.out.lx)
                clear hb5 hu5 HC

                go_wp2
                go_meet
                case rel => exact ⟨_, _, _, _, _, _, _, _, _, HP.out⟩
              · as_aux_lemma =>
                have HC := Lib.hid (rack_full HS1.out.doc.rb q epoch hqn (by omega))
                simp only [bcells] at HC
                go_wp2_with fail
                refine HC.out.mono ?_
                rintro e w3 ⟨rfl, hu3⟩
                have hb3 : Below W1.heap.size W1 w3 := hu3.below (Nat.le_refl _) (by simp)
                clear q0 q1 q2 q3 q4 HC
                go_upto_region 35 with fail
                obtain ⟨WV, hWV⟩ : ∃ WV, WV = w3.alloc (.cells #[.slice TA n tc, .slice S.A S.xs.length S.c, .slice E.A E.xs.length E.c, .slice L.A L.xs.length L.c, .int .i64 k] 41) := ⟨_, rfl⟩
                obtain ⟨V, hV⟩ : ∃ V, V = w3.heap.size := ⟨_, rfl⟩
                rw [← hWV, ← hV]
                have hG : Blk WV gw 41 (bcells n k TA tc S E L) := by rw [hWV]; exact (HS1.out.doc.bg.below hb3 HS1.out.doc.bg.lt).alloc _
                have hvb : Blk WV V 41 #[.slice TA n tc, .slice S.A S.xs.length S.c, .slice E.A E.xs.length E.c, .slice L.A L.xs.length L.c, .int .i64 k] := by rw [hWV, hV]; exact Blk.new _ _ _
                have hgV : gw ≠ V := by rw [hV]; exact Nat.ne_of_lt (Nat.lt_of_lt_of_le HS1.out.doc.bg.lt hb3.size)
                have huV : Upd [] w3 WV := by rw [hWV]; exact (Upd.refl _ _).alloc _
                have HBK := Lib.hid (doc_stored (b0 := .slice TA n tc) (b1 := .slice S.A S.xs.length S.c) (b2 := .slice E.A E.xs.length E.c) (b3 := .slice L.A L.xs.length L.c) (b4 := .int .i64 k) hG)
                have HM := Lib.hid (HS1.out.mid hb3 (HS1.out.doc.rb.below hb3) HS1.out.doc.av ((huV.more (by simp)).next HBK.out.1) HBK.out.2)
                have hgl3 : gw < WV.heap.size := hG.lt
                have hVl3 : V < WV.heap.size := hvb.lt
                have hXl3 : X < WV.heap.size := Nat.lt_of_lt_of_le (Nat.lt_of_lt_of_le hXl hb3.size) huV.size
                have y1 := (huV.cell (p := ⟨X, 1, none⟩) (Nat.lt_of_lt_of_le hXl hb3.size) (by simp)).trans ((hb3.cell (p := ⟨X, 1, none⟩) hXl).trans x1)
                have y2 := (huV.cell (p := ⟨X, 2, none⟩) (Nat.lt_of_lt_of_le hXl hb3.size) (by simp)).trans ((hb3.cell (p := ⟨X, 2, none⟩) hXl).trans x2)
                have f0 := hG.frozen 0
                have f1 := hG.frozen 1
                have f2 := hG.frozen 2
                have f3 := hG.frozen 3
                have f4 := hG.frozen 4
                have d0 : WV.cell? ⟨gw, 0, none⟩ = some (.slice TA n tc) := hG.cell 0
                have d1 : WV.cell? ⟨gw, 1, none⟩ = some (.slice S.A S.xs.length S.c) := hG.cell 1
                have d2 : WV.cell? ⟨gw, 2, none⟩ = some (.slice E.A E.xs.length E.c) := hG.cell 2
                have d3 : WV.cell? ⟨gw, 3, none⟩ = some (.slice L.A L.xs.length L.c) := hG.cell 3
                have d4 : WV.cell? ⟨gw, 4, none⟩ = some (.int .i64 k) := hG.cell 4
                have v0 : WV.cell? ⟨V, 0, none⟩ = some (.slice TA n tc) := hvb.cell 0
                have v1 : WV.cell? ⟨V, 1, none⟩ = some (.slice S.A S.xs.length S.c) := hvb.cell 1
                have v2 : WV.cell? ⟨V, 2, none⟩ = some (.slice E.A E.xs.length E.c) := hvb.cell 2
                have v3 : WV.cell? ⟨V, 3, none⟩ = some (.slice L.A L.xs.length L.c) := hvb.cell 3
                have v4 : WV.cell? ⟨V, 4, none⟩ = some (.int .i64 k) := hvb.cell 4
                have HQN := Lib.hid hqn
                have HF := Lib.hid hf
                clear hb3 hu3 hqn hf
                clear hG hvb huV x0 x1 x2 hWV hV
                go_upto_region 36 with fail
                obtain ⟨WS, hWS⟩ : ∃ WS, WS = (((((WV.setCell ⟨gw, 0, none⟩ (.slice TA n tc)).setCell ⟨gw, 1, none⟩ (.slice S.A S.xs.length S.c)).setCell ⟨gw, 2, none⟩ (.slice E.A E.xs.length E.c)).setCell ⟨gw, 3, none⟩ (.slice L.A L.xs.length L.c)).setCell ⟨gw, 4, none⟩ (.int .i64 k)) := ⟨_, rfl⟩
                rw [← hWS]
                rw [← hWS] at HBK HM
                have z1 := (HBK.out.1.cell (p := ⟨X, 1, none⟩) hXl3 (by simpa using Ne.symm hgX)).trans y1
                have z2 := (HBK.out.1.cell (p := ⟨X, 2, none⟩) hXl3 (by simpa using Ne.symm hgX)).trans y2
                clear hWS f0 f1 f2 f3 f4 d0 d1 d2 d3 d4 v0 v1 v2 v3 v4 hgV hVl3 HBK y1 y2
                go_wp2_with fail
                have HC := Lib.hid (ack_full HM.out.br.is q epoch (by rw [HM.out.br.nn]; exact HQN.out) (by rw [HM.out.br.nn, HS1.out.alen]; have := HS1.out.doc.rb.sm; have := HF.out; omega))
                refine HC.out.mono ?_
                rintro e w5 ⟨rfl, hb5, hu5⟩
                have HP := Lib.hid (HM.out.play hb5 hu5 (fun l hl x hx => .inl ⟨l, hl, hx⟩) HS1.out.rx HS1.out.sx HS1.out.ex HS1.out.lx)
                clear hb5 hu5 HC

                go_wp2
                go_meet
                case rel => exact ⟨_, _, _, _, _, _, _, _, _, HP.out⟩
          cases acks with
          | nil =>
            have hlen0 : S.xs.length = 0 := by rw [← HS1.out.alen]; rfl
            as_aux_lemma =>
            have HC := Lib.hid (rcollect_no HS1.out.doc.rb hlen0)
            simp only [bcells] at HC
            clear hlen0
            go_wp2_with fail
            refine HC.out.mono ?_
            rintro e w3 ⟨rfl, hu3⟩
            have hb3 : Below W1.heap.size W1 w3 := hu3.below (Nat.le_refl _) (by simp)
            clear q0 q1 q2 q3 q4 HC
            go_upto_region 16 with fail
            obtain ⟨WV, hWV⟩ : ∃ WV, WV = w3.alloc (.cells #[.slice TA n tc, .slice S.A S.xs.length S.c, .slice E.A E.xs.length E.c, .slice L.A L.xs.length L.c, .int .i64 k] 41) := ⟨_, rfl⟩
            obtain ⟨V, hV⟩ : ∃ V, V = w3.heap.size := ⟨_, rfl⟩
            rw [← hWV, ← hV]
            have hG : Blk WV gw 41 (bcells n k TA tc S E L) := by rw [hWV]; exact (HS1.out.doc.bg.below hb3 HS1.out.doc.bg.lt).alloc _
            have hvb : Blk WV V 41 #[.slice TA n tc, .slice S.A S.xs.length S.c, .slice E.A E.xs.length E.c, .slice L.A L.xs.length L.c, .int .i64 k] := by rw [hWV, hV]; exact Blk.new _ _ _
            have hgV : gw ≠ V := by rw [hV]; exact Nat.ne_of_lt (Nat.lt_of_lt_of_le HS1.out.doc.bg.lt hb3.size)
            have huV : Upd [] w3 WV := by rw [hWV]; exact (Upd.refl _ _).alloc _
            have HBK := Lib.hid (doc_stored (b0 := .slice TA n tc) (b1 := .slice S.A S.xs.length S.c) (b2 := .slice E.A E.xs.length E.c) (b3 := .slice L.A L.xs.length L.c) (b4 := .int .i64 k) hG)
            have HM := Lib.hid (HS1.out.mid hb3 (HS1.out.doc.rb.below hb3) HS1.out.doc.av ((huV.more (by simp)).next HBK.out.1) HBK.out.2)
            have hgl3 : gw < WV.heap.size := hG.lt
            have hVl3 : V < WV.heap.size := hvb.lt
            have hXl3 : X < WV.heap.size := Nat.lt_of_lt_of_le (Nat.lt_of_lt_of_le hXl hb3.size) huV.size
            have f0 := hG.frozen 0
            have f1 := hG.frozen 1
            have f2 := hG.frozen 2
            have f3 := hG.frozen 3
            have f4 := hG.frozen 4
            have d0 : WV.cell? ⟨gw, 0, none⟩ = some (.slice TA n tc) := hG.cell 0
            have d1 : WV.cell? ⟨gw, 1, none⟩ = some (.slice S.A S.xs.length S.c) := hG.cell 1
            have d2 : WV.cell? ⟨gw, 2, none⟩ = some (.slice E.A E.xs.length E.c) := hG.cell 2
            have d3 : WV.cell? ⟨gw, 3, none⟩ = some (.slice L.A L.xs.length L.c) := hG.cell 3
            have d4 : WV.cell? ⟨gw, 4, none⟩ = some (.int .i64 k) := hG.cell 4
            have v0 : WV.cell? ⟨V, 0, none⟩ = some (.slice TA n tc) := hvb.cell 0
            have v1 : WV.cell? ⟨V, 1, none⟩ = some (.slice S.A S.xs.length S.c) := hvb.cell 1
            have v2 : WV.cell? ⟨V, 2, none⟩ = some (.slice E.A E.xs.length E.c) := hvb.cell 2
            have v3 : WV.cell? ⟨V, 3, none⟩ = some (.slice L.A L.xs.length L.c) := hvb.cell 3
            have v4 : WV.cell? ⟨V, 4, none⟩ = some (.int .i64 k) := hvb.cell 4
            clear hb3 hu3
            clear hG hvb huV x0 x1 x2 hWV hV
            go_upto_region 17 with fail
            obtain ⟨WS, hWS⟩ : ∃ WS, WS = (((((WV.setCell ⟨gw, 0, none⟩ (.slice TA n tc)).setCell ⟨gw, 1, none⟩ (.slice S.A S.xs.length S.c)).setCell ⟨gw, 2, none⟩ (.slice E.A E.xs.length E.c)).setCell ⟨gw, 3, none⟩ (.slice L.A L.xs.length L.c)).setCell ⟨gw, 4, none⟩ (.int .i64 k)) := ⟨_, rfl⟩
            rw [← hWS]
            rw [← hWS] at HBK HM
            clear hWS f0 f1 f2 f3 f4 d0 d1 d2 d3 d4 v0 v1 v2 v3 v4 hgV hVl3 HBK 
            go_wp2_with fail
            have HC := Lib.hid (collect_no HM.out.br.is)
            refine HC.out.mono ?_
            rintro e w5 ⟨rfl, hb5, hu5⟩
            have HP := Lib.hid (HM.out.play hb5 hu5 (fun l hl x hx => .inl ⟨l, hl, hx⟩) HS1.out.rx HS1.out.sx HS1.out.ex HS1.out.lx)
            clear hb5 hu5 HC

            go_wp2
            go_meet
            case rel => exact ⟨_, _, _, _, _, _, _, _, _, HP.out⟩
          | cons a aq =>
            obtain ⟨i, hi, hil⟩ := HS1.out.br.is.ok a (by simp)
            obtain ⟨a1, x⟩ := a
            dsimp only at hi
            subst hi
            obtain ⟨q, rfl⟩ : ∃ q : Nat, q = i := ⟨i, rfl⟩
            have hqn : q < n := by rw [← HS1.out.br.nn]; exact hil
            have hS : S.xs = (q : Int) :: aq.map (·.1) := by rw [← HS1.out.sx]; rfl
            have hE : E.xs = x :: aq.map (·.2) := by rw [← HS1.out.ex]; rfl
            clear hil
            as_aux_lemma =>
            have HC := Lib.hid (rcollect_yes HS1.out.doc.rb q (aq.map (·.1)) x (aq.map (·.2)) hS hE hqn)
            simp only [bcells] at HC
            clear hS hE hqn
            go_wp2_with fail
            refine HC.out.mono ?_
            rintro e w3 ⟨S', E', L', rfl, hs3, he3, hl3, hr3, hb3, hk3, hke3, hf3⟩
            have HS3 := Lib.hid hs3
            have HE3 := Lib.hid he3
            have HL3 := Lib.hid hl3
            clear hs3 he3 hl3
            clear q0 q1 q2 q3 q4 HC
            go_upto_region 16 with fail
            obtain ⟨WV, hWV⟩ : ∃ WV, WV = w3.alloc (.cells #[.slice TA n tc, .slice S'.A S'.xs.length S'.c, .slice E'.A E'.xs.length E'.c, .slice L'.A L'.xs.length L'.c, .int .i64 k] 41) := ⟨_, rfl⟩
            obtain ⟨V, hV⟩ : ∃ V, V = w3.heap.size := ⟨_, rfl⟩
            rw [← hWV, ← hV]
            have hG : Blk WV gw 41 (bcells n k TA tc S E L) := by rw [hWV]; exact (HS1.out.doc.bg.below hb3 HS1.out.doc.bg.lt).alloc _
            have hvb : Blk WV V 41 #[.slice TA n tc, .slice S'.A S'.xs.length S'.c, .slice E'.A E'.xs.length E'.c, .slice L'.A L'.xs.length L'.c, .int .i64 k] := by rw [hWV, hV]; exact Blk.new _ _ _
            have hgV : gw ≠ V := by rw [hV]; exact Nat.ne_of_lt (Nat.lt_of_lt_of_le HS1.out.doc.bg.lt hb3.size)
            have huV : Upd [] w3 WV := by rw [hWV]; exact (Upd.refl _ _).alloc _
            have HBK := Lib.hid (doc_stored (b0 := .slice TA n tc) (b1 := .slice S'.A S'.xs.length S'.c) (b2 := .slice E'.A E'.xs.length E'.c) (b3 := .slice L'.A L'.xs.length L'.c) (b4 := .int .i64 k) hG)
            have HM := Lib.hid (HS1.out.mid hb3 hr3 ⟨HS1.out.doc.av.t, HS1.out.doc.av.r, Nb.kp HS1.out.doc.av.s hk3, Nb.kp HS1.out.doc.av.e hke3, Nb.fr hf3 HS1.out.doc.bg.lt⟩ ((huV.more (by simp)).next HBK.out.1) HBK.out.2)
            have hgl3 : gw < WV.heap.size := hG.lt
            have hVl3 : V < WV.heap.size := hvb.lt
            have hXl3 : X < WV.heap.size := Nat.lt_of_lt_of_le (Nat.lt_of_lt_of_le hXl hb3.size) huV.size
            have f0 := hG.frozen 0
            have f1 := hG.frozen 1
            have f2 := hG.frozen 2
            have f3 := hG.frozen 3
            have f4 := hG.frozen 4
            have d0 : WV.cell? ⟨gw, 0, none⟩ = some (.slice TA n tc) := hG.cell 0
            have d1 : WV.cell? ⟨gw, 1, none⟩ = some (.slice S.A S.xs.length S.c) := hG.cell 1
            have d2 : WV.cell? ⟨gw, 2, none⟩ = some (.slice E.A E.xs.length E.c) := hG.cell 2
            have d3 : WV.cell? ⟨gw, 3, none⟩ = some (.slice L.A L.xs.length L.c) := hG.cell 3
            have d4 : WV.cell? ⟨gw, 4, none⟩ = some (.int .i64 k) := hG.cell 4
            have v0 : WV.cell? ⟨V, 0, none⟩ = some (.slice TA n tc) := hvb.cell 0
            have v1 : WV.cell? ⟨V, 1, none⟩ = some (.slice S'.A S'.xs.length S'.c) := hvb.cell 1
            have v2 : WV.cell? ⟨V, 2, none⟩ = some (.slice E'.A E'.xs.length E'.c) := hvb.cell 2
            have v3 : WV.cell? ⟨V, 3, none⟩ = some (.slice L'.A L'.xs.length L'.c) := hvb.cell 3
            have v4 : WV.cell? ⟨V, 4, none⟩ = some (.int .i64 k) := hvb.cell 4
            clear hr3 hb3 hk3 hke3 hf3
            clear hG hvb huV x0 x1 x2 hWV hV
            go_upto_region 17 with fail
            obtain ⟨WS, hWS⟩ : ∃ WS, WS = (((((WV.setCell ⟨gw, 0, none⟩ (.slice TA n tc)).setCell ⟨gw, 1, none⟩ (.slice S'.A S'.xs.length S'.c)).setCell ⟨gw, 2, none⟩ (.slice E'.A E'.xs.length E'.c)).setCell ⟨gw, 3, none⟩ (.slice L'.A L'.xs.length L'.c)).setCell ⟨gw, 4, none⟩ (.int .i64 k)) := ⟨_, rfl⟩
            rw [← hWS]
            rw [← hWS] at HBK HM
            clear hWS f0 f1 f2 f3 f4 d0 d1 d2 d3 d4 v0 v1 v2 v3 v4 hgV hVl3 HBK 
            go_wp2_with fail
            have HC := Lib.hid (collect_yes ((q : Int), x) aq HM.out.br.is q rfl)
            dsimp only at HC
            refine HC.out.mono ?_
            rintro e w5 ⟨rfl, hb5, hu5⟩
            have HP := Lib.hid (HM.out.play hb5 hu5 (fun l hl x hx => .inl ⟨l, hl, hx⟩) HS1.out.rx HS3.out.symm HE3.out.symm (by rw [HL3.out, HS1.out.lx]))
            clear hb5 hu5 HC

            go_wp2
            go_meet
            case rel => exact ⟨_, _, _, _, _, _, _, _, _, HP.out⟩
      · have HB := Lib.hid hs.bel
        clear hs
        go_wp2_with fail
        refine (send_none _ _).mono ?_
        rintro e w4 ⟨rfl, hu4⟩
        go_wp2
        go_ret
        exact ⟨rfl, HB.out.trans (hu4.below HB.out.size (by simp))⟩
end Go.Proofs.Ytdcekgdihnlbpaa
