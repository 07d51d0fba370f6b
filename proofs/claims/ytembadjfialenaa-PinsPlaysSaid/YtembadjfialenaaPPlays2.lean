/- PinsPlays: the walk. -/
import Derived.Test.YtembadjfialenaaPPlays
namespace Go.Proofs.Ytembadjfialenaa
open Go Go.RowKit
set_option maxHeartbeats 400000

set_option maxHeartbeats 8000000 in
set_option maxRecDepth 100000 in
theorem plays_any (a0 : Int) (A : Option Addr) (len cap : Nat) (l : List PAct) (w : World) (h0 : 0 ≤ a0) (h1 : a0 ≤ 255) (hlen : len ≤ 9223372036854775807) (hll : l.length = len) (hl : Cells w w.heap.size 5 A len (l.flatMap encA)) (hwf : ∀ x ∈ l, 0 ≤ x.epoch ∧ x.epoch ≤ 18446744073709551615) :
    Calls Try.prog 3 #[.int .u8 a0, .slice A len cap] w fun e w' => e = .returned (.bool true) ∧ Below w.heap.size w w' := by
  have HL := Lib.hid hl
  have HLL := Lib.hid hll
  clear hl hll hwf
  by_cases hbig : 200 < (len : Int)
  · go_enter Try.func3, Try.ntmps3
    go_wp2_with fail
    refine (awake_any w).mono ?_
    rintro e w1 ⟨rfl, hu1⟩
    go_wp2
    go_ret
    exact ⟨rfl, hu1⟩
  · obtain ⟨m, hm⟩ : ∃ m : Nat, (m : Int) = a0 % 4 := ⟨(a0 % 4).toNat, by omega⟩
    have hm4 : m < 4 := by omega
    have hmod : a0 % 4 = (m : Int) := hm.symm
    clear hm
    have hmk := fun W : World => run_mkN (P := Try.prog) 26 65 [.int .u64 0, .int .u64 0, .bool false] 3 24 Try.underlying26 infoRW rfl (by omega) (m + 1) (by omega) (by omega) W
    have e : ((List.replicate (m + 1) ()).flatMap fun _ => [Value.int .u64 0, .int .u64 0, .bool false]) = (List.replicate (m + 1) (⟨0, 0, false⟩ : Wk)).flatMap encW := by
      clear hmk h1 h0 hmod hm4
      generalize m + 1 = n
      induction n with
      | zero => rfl
      | succ n ih => rw [List.replicate_succ, List.replicate_succ, List.flatMap_cons, List.flatMap_cons, ih]; rfl
    rw [e, show ((m + 1 : Nat) : Int) = (m : Int) + 1 by omega] at hmk
    generalize hrz : ((List.replicate (m + 1) (⟨0, 0, false⟩ : Wk)).flatMap encW).toArray = rz at hmk
    have HRZ := Lib.hid hrz
    clear hrz e
    go_enter Try.func3, Try.ntmps3
    go_wp2_with fail
    refine (awake_any w).mono ?_
    rintro e w1 ⟨rfl, hb1⟩
    go_wp2_with fail
    have hn := PA.new hb1 (m + 1) (by omega) (by omega)
    rw [show ((m + 1 : Nat) : Int) = (m : Int) + 1 by omega] at hn
    refine hn.mono ?_
    clear hn
    rintro e w2 ⟨g, lw, rfl, hp2, hu2⟩
    have HS0 : Hid (PPlayAt w ((w2.alloc (.cells rz 65)).alloc (.cells #[.slice (some ⟨w2.heap.size, 0, none⟩) (m + 1) (m + 1), .slice none 0 0] 29)) (w2.heap.size + 2) g lw (w2.heap.size + 1) (List.replicate (m + 1) ⟨0, 0, false⟩) [] (.slice none 0 0) (some ⟨w2.heap.size, 0, none⟩) (m + 1) (m + 1) none 0 0) := by
      have hu : Upd [] w2 ((w2.alloc (.cells rz 65)).alloc (.cells #[.slice (some ⟨w2.heap.size, 0, none⟩) (m + 1) (m + 1), .slice none 0 0] 29)) := ((Upd.refl [] w2).alloc _).alloc _
      have hp3 := (hp2.upd hu).base (w2.heap.size + 2) (by omega) (by simp)
      have ha := (Blk.new w2 65 rz).alloc (.cells #[.slice (some ⟨w2.heap.size, 0, none⟩) (m + 1) (m + 1), .slice none 0 0] 29)
      have hb := Blk.new (w2.alloc (.cells rz 65)) 29 #[.slice (some ⟨w2.heap.size, 0, none⟩) (m + 1) (m + 1), .slice none 0 0]
      rw [World.size_alloc] at hb
      have hg := hp2.is.gN
      have hl := hp2.is.lN
      have hbs := hp2.below.size
      have hnr : (List.replicate (m + 1) (⟨0, 0, false⟩ : Wk)).map nrm = List.replicate (m + 1) ⟨0, 0, false⟩ := by rw [List.map_replicate]; rfl
      refine ⟨hp3, ⟨⟨?_, fun _ => ⟨w2.heap.size, 0, rfl, Nat.zero_le _, by simp; omega, fun j v hv => ?_⟩⟩, CellsIn.nil _ _ _ _ _, fun h => (by cases h), fun _ => ⟨rfl, rfl⟩, by omega, by omega, by omega, Nat.zero_le _⟩, hb, fun s hs => ⟨fun a ha => ?_, fun h => absurd h (Nat.lt_irrefl 0)⟩, by omega, by omega, by omega, by omega⟩
      · rw [hnr, flat_length encW_len]; simp
      · rw [hnr] at hv
        rw [Nat.zero_add, ha.cell, ← HRZ.out]
        simpa using hv
      · obtain rfl := Option.some.inj ha
        simp [Value.ownBlock] at hs
        show w2.heap.size ≠ s
        omega
    clear hu2 hb1 hp2
    go_wp2
    obtain ⟨W3, hW3⟩ : ∃ W3, W3 = (w2.alloc (.cells rz 65)).alloc (.cells #[.slice (some ⟨w2.heap.size, 0, none⟩) (m + 1) (m + 1), .slice none 0 0] 29) := ⟨_, rfl⟩
    obtain ⟨gr, hgr⟩ : ∃ gr, gr = w2.heap.size + 1 := ⟨_, rfl⟩
    obtain ⟨ba, hba⟩ : ∃ ba, ba = w2.heap.size := ⟨_, rfl⟩
    obtain ⟨N, hN⟩ : ∃ N, N = w2.heap.size + 2 := ⟨_, rfl⟩
    have HS1 : Hid (PPlayAt w W3 N g lw gr (List.replicate (m + 1) ⟨0, 0, false⟩) [] (.slice none 0 0) (some ⟨ba, 0, none⟩) (m + 1) (m + 1) none 0 0) := by show PPlayAt _ _ _ _ _ _ _ _ _ _ _ _ _ _ _; rw [hW3, hgr, hba, hN]; exact HS0.out
    rw [← hW3, ← hgr, ← hba]
    clear hW3 hgr hba hN HS0 hmk HRZ hmod
    go_loopg [9] len (fun gk x9 wr => ∃ (k : Nat) (ws : List Wk) (wts : List Wt) (wv : Value) (A : Option Addr) (c : Nat) (B : Option Addr) (q d : Nat), k ≤ len ∧ len ≤ k + gk ∧ x9 = .int .i64 k ∧ PPlayAt w wr N g lw gr ws wts wv A (m + 1) c B q d)
    case atStart => exact ⟨0, _, _, _, _, _, _, _, _, Nat.zero_le _, by omega, rfl, HS1.out⟩
    case round =>
      obtain ⟨k, ws, wts, wv, A1, c, B, q, d, hk, hgk, rfl, hs⟩ := hrel
      by_cases hlt : k < len
      · obtain ⟨b, off, x, rfl, hbB, hx, c0, c1, c2, c3, c4⟩ := act_at HL.out HLL.out k hlt
        have e0 := (hs.pa.below.cell (p := ⟨b, off + k * 5, none⟩) hbB).trans c0
        have e1 := (hs.pa.below.cell (p := ⟨b, off + k * 5 + 1, none⟩) hbB).trans c1
        have e2 := (hs.pa.below.cell (p := ⟨b, off + k * 5 + 2, none⟩) hbB).trans c2
        have e3 := (hs.pa.below.cell (p := ⟨b, off + k * 5 + 3, none⟩) hbB).trans c3
        have e4 := (hs.pa.below.cell (p := ⟨b, off + k * 5 + 4, none⟩) hbB).trans c4
        clear c0 c1 c2 c3 c4 hx
        obtain ⟨kind, worker, epoch, slot, turn⟩ := x
        dsimp only at e0 e1 e2 e3 e4
        have HS := Lib.hid hs
        clear hs
        go_upto_region 13 with fail
        obtain ⟨W1, hW1⟩ : ∃ W1, W1 = wr.alloc (.cells #[.int .i64 kind, .int .i64 worker, .int .u64 epoch, .int .i64 slot, .int .u32 turn] 35) := ⟨_, rfl⟩
        obtain ⟨X, hXe⟩ : ∃ X, X = wr.heap.size := ⟨_, rfl⟩
        have HS1 : Hid (PPlayAt w W1 N g lw gr ws wts wv A1 (m + 1) c B q d) := by show PPlayAt _ _ _ _ _ _ _ _ _ _ _ _ _ _ _; rw [hW1]; exact HS.out.upd ((Upd.refl _ _).alloc _)
        have hX : Blk W1 X 35 #[.int .i64 kind, .int .i64 worker, .int .u64 epoch, .int .i64 slot, .int .u32 turn] := by rw [hW1, hXe]; exact Blk.new wr _ _
        have hgX : gr < X := by rw [hXe]; exact HS.out.blk.lt
        have hgX' : gr ≠ X := by omega
        have hXl : X < W1.heap.size := hX.lt
        rw [← hW1, ← hXe]
        have x0 : W1.cell? ⟨X, 0, none⟩ = some (.int .i64 kind) := hX.cell 0
        have x1 : W1.cell? ⟨X, 1, none⟩ = some (.int .i64 worker) := hX.cell 1
        have x2 : W1.cell? ⟨X, 2, none⟩ = some (.int .u64 epoch) := hX.cell 2
        have x3 : W1.cell? ⟨X, 3, none⟩ = some (.int .i64 slot) := hX.cell 3
        have x4 : W1.cell? ⟨X, 4, none⟩ = some (.int .u32 turn) := hX.cell 4
        have q0 : W1.cell? ⟨gr, 0, none⟩ = some (.slice A1 (m + 1) c) := HS1.out.blk.cell 0
        have q1 : W1.cell? ⟨gr, 1, none⟩ = some (.slice B q d) := HS1.out.blk.cell 1
        clear hW1 hXe HS e0 e1 e2 e3 e4 hX
        go_cut [52] (fun s52 wd => s52 = .int .i64 kind ∧ wd = W1)
        case first =>
          go_wp2
          go_meet
          case rel => exact ⟨rfl, rfl⟩
        obtain ⟨rfl, rfl⟩ := hcut
        apply_assumption
        obtain ⟨W1, rfl⟩ : ∃ W1 : World, W1 = wc := ⟨_, rfl⟩
        go_cut [] (fun wd => ∃ (ws : List Wk) (wts : List Wt) (wv : Value) (A : Option Addr) (c : Nat) (B : Option Addr) (q d : Nat), PPlayAt w wd N g lw gr ws wts wv A (m + 1) c B q d)
        case rest =>
         as_aux_lemma =>
          obtain ⟨ws2, wts2, wv2, A2, c2, B2, q2, d2, hs2⟩ := hcut
          obtain rfl : q2 = wts2.length := hs2.rp.len.2.symm
          have HS2 := Lib.hid hs2
          have u0 : wc.cell? ⟨gr, 0, none⟩ = some (.slice A2 (m + 1) c2) := hs2.blk.cell 0
          have u1 : wc.cell? ⟨gr, 1, none⟩ = some (.slice B2 wts2.length d2) := hs2.blk.cell 1
          have hgl : gr < wc.heap.size := hs2.blk.lt
          have hU0 : Upd [] wc wc.drew := (Upd.refl [] wc).drewN 1
          clear HS1 x0 x1 x2 x3 x4 q0 q1 hs2
          go_upto_region 47 with fail
          go_cut [177] (fun s wd => s = .bool false ∧ Upd [] wc wd)
          case first =>
            go_region_held3 (fun w' => w'.cell? ⟨gr, 0, none⟩ = some (.slice A2 (m + 1) c2) ∧ w'.cell? ⟨gr, 1, none⟩ = some (.slice B2 wts2.length d2))
              (first | go_keep | exact ⟨(hU1.cell (p := ⟨gr, 0, none⟩) hgl (by simp)).trans u0, (hU1.cell (p := ⟨gr, 1, none⟩) hgl (by simp)).trans u1⟩)
              (first
                | (go_at_call 20; refine ((HS2.out.upd (by first | exact hU1 | exact hU0)).pa.oldest).mono ?_; rintro e w5 ⟨rfl, _, hu5⟩; have hU1 : Upd [] wc w5 := (by first | exact hU1.next hu5 | exact hU0.next hu5); clear hu5)
                | (go_at_call 21; refine (roldest_nrm ((HS2.out.upd (by first | exact hU1 | exact hU0)).rp)).mono ?_; rintro e w5 ⟨rfl, hw5⟩; have hU1 : Upd [] wc w5 := (by rw [hw5]; first | exact hU1.alloc _ | exact hU0.alloc _); clear hw5)
                | (go_at_call 22; refine ((HS2.out.upd hU1).pa.waiting).mono ?_; rintro e w5 ⟨rfl, rfl⟩))
            all_goals
              go_wp2
              go_meet
              case rel => exact ⟨rfl, hU1⟩
          obtain ⟨rfl, hU⟩ := hcut
          have HU := Lib.hid hU
          clear hU hU0 u0 u1
          go_wp2
          go_roundg (gk - 1)
          case measure => omega
          case rel => exact ⟨k + 1, ws2, wts2, wv2, A2, c2, B2, wts2.length, d2, by omega, by omega, by go_num, HS2.out.upd HU.out⟩
        case first =>
          by_cases hk0 : kind = 0
          · as_aux_lemma =>
            subst hk0
            have hc := rinstall HS1.out.rp worker epoch
            have hc2 := fun (W : World) (h : PA w W N g lw ws wts wv) => h.install worker epoch
            rw [nrm_install] at hc; generalize mInstall ws worker epoch = mi at hc hc2; obtain ⟨ws4, er⟩ := mi; dsimp only at hc hc2
            have HC := Lib.hid hc
            have HC2 := Lib.hid hc2
            clear hc hc2
            go_wp2_with fail
            refine HC.out.mono ?_
            rintro e w3 ⟨A', c', rfl, hr3, hb3, hf3⟩
            have hG := HS1.out.blk.below hb3 HS1.out.blk.lt
            have d0 : w3.cell? ⟨gr, 0, none⟩ = some (.slice A1 (m + 1) c) := hG.cell 0
            have d1 : w3.cell? ⟨gr, 1, none⟩ = some (.slice B q d) := hG.cell 1
            have f0 := hG.frozen 0
            have f1 := hG.frozen 1
            have hgl3 : gr < w3.heap.size := hG.lt
            have hXl3 : X < w3.heap.size := Nat.lt_of_lt_of_le hXl hb3.size
            have y1 := (hb3.cell (p := ⟨X, 1, none⟩) hXl).trans x1
            have y2 := (hb3.cell (p := ⟨X, 2, none⟩) hXl).trans x2
            have y3 := (hb3.cell (p := ⟨X, 3, none⟩) hXl).trans x3
            have y4 := (hb3.cell (p := ⟨X, 4, none⟩) hXl).trans x4
            have hu1 : Upd [gr] w3 (((w3.setCell ⟨gr, 0, none⟩ (.slice A' (m + 1) c')).setCell ⟨gr, 1, none⟩ (.slice B q d)).alloc (.cells #[.slice A' (m + 1) c', .slice B q d] 29)) := (((Upd.refl _ _).setCell (by simp) _).setCell (by simp) _).alloc _
            have hp5 := HS1.out.pins hb3 hu1
            have HBK := Lib.hid (((hG.store 0 (.slice A' (m + 1) c')).store 1 (.slice B q d)).alloc (.cells #[.slice A' (m + 1) c', .slice B q d] 29))
            have HC5 := Lib.hid (HC2.out _ hp5)
            have HU1 := Lib.hid hu1
            have HR3 := Lib.hid hr3
            have HB3 := Lib.hid hb3
            have HF3 := Lib.hid hf3
            clear hu1 hp5 hG hr3 hb3 hf3 x0 x1 x2 x3 x4 q0 q1 HC HC2
            go_wp2_with fail
            refine HC5.out.mono ?_
            rintro e w6 ⟨rfl, hp6, hu6⟩
            have HPP := Lib.hid (HS1.out.turn HB3.out HR3.out HF3.out (fun h a _ => .inl ⟨h, rfl⟩) HU1.out HBK.out hp6 hu6 (by simp) (fun b hb => .inl hb))
            clear hp6 hu6 HC5
            go_wp2
            go_meet
            case rel => exact ⟨_, _, _, _, _, _, _, _, HPP.out⟩
          by_cases hk1 : kind = 1
          · as_aux_lemma =>
            subst hk1
            have hc := rinstall HS1.out.rp worker epoch
            have hc2 := fun (W : World) (h : PA w W N g lw ws wts wv) => h.install worker epoch
            rw [nrm_install] at hc; generalize mInstall ws worker epoch = mi at hc hc2; obtain ⟨ws4, er⟩ := mi; dsimp only at hc hc2
            have HC := Lib.hid hc
            have HC2 := Lib.hid hc2
            clear hc hc2
            go_wp2_with fail
            refine HC.out.mono ?_
            rintro e w3 ⟨A', c', rfl, hr3, hb3, hf3⟩
            have hG := HS1.out.blk.below hb3 HS1.out.blk.lt
            have d0 : w3.cell? ⟨gr, 0, none⟩ = some (.slice A1 (m + 1) c) := hG.cell 0
            have d1 : w3.cell? ⟨gr, 1, none⟩ = some (.slice B q d) := hG.cell 1
            have f0 := hG.frozen 0
            have f1 := hG.frozen 1
            have hgl3 : gr < w3.heap.size := hG.lt
            have hXl3 : X < w3.heap.size := Nat.lt_of_lt_of_le hXl hb3.size
            have y1 := (hb3.cell (p := ⟨X, 1, none⟩) hXl).trans x1
            have y2 := (hb3.cell (p := ⟨X, 2, none⟩) hXl).trans x2
            have y3 := (hb3.cell (p := ⟨X, 3, none⟩) hXl).trans x3
            have y4 := (hb3.cell (p := ⟨X, 4, none⟩) hXl).trans x4
            have hu1 : Upd [gr] w3 (((w3.setCell ⟨gr, 0, none⟩ (.slice A' (m + 1) c')).setCell ⟨gr, 1, none⟩ (.slice B q d)).alloc (.cells #[.slice A' (m + 1) c', .slice B q d] 29)) := (((Upd.refl _ _).setCell (by simp) _).setCell (by simp) _).alloc _
            have hp5 := HS1.out.pins hb3 hu1
            have HBK := Lib.hid (((hG.store 0 (.slice A' (m + 1) c')).store 1 (.slice B q d)).alloc (.cells #[.slice A' (m + 1) c', .slice B q d] 29))
            have HC5 := Lib.hid (HC2.out _ hp5)
            have HU1 := Lib.hid hu1
            have HR3 := Lib.hid hr3
            have HB3 := Lib.hid hb3
            have HF3 := Lib.hid hf3
            clear hu1 hp5 hG hr3 hb3 hf3 x0 x1 x2 x3 x4 q0 q1 HC HC2
            go_wp2_with fail
            refine HC5.out.mono ?_
            rintro e w6 ⟨rfl, hp6, hu6⟩
            have HPP := Lib.hid (HS1.out.turn HB3.out HR3.out HF3.out (fun h a _ => .inl ⟨h, rfl⟩) HU1.out HBK.out hp6 hu6 (by simp) (fun b hb => .inl hb))
            clear hp6 hu6 HC5
            go_wp2
            go_meet
            case rel => exact ⟨_, _, _, _, _, _, _, _, HPP.out⟩
          by_cases hk2 : kind = 2
          · as_aux_lemma =>
            subst hk2
            have hc := rpin HS1.out.rp worker
            have hc2 := fun (W : World) (h : PA w W N g lw ws wts wv) => h.pin worker
            rw [nrm_pin] at hc; generalize mPin ws worker = mi at hc hc2; obtain ⟨ws4, at4, er⟩ := mi; dsimp only at hc hc2
            have HC := Lib.hid hc
            have HC2 := Lib.hid hc2
            clear hc hc2
            go_wp2_with fail
            refine HC.out.mono ?_
            rintro e w3 ⟨A', c', rfl, hr3, hb3, hf3⟩
            have hG := HS1.out.blk.below hb3 HS1.out.blk.lt
            have d0 : w3.cell? ⟨gr, 0, none⟩ = some (.slice A1 (m + 1) c) := hG.cell 0
            have d1 : w3.cell? ⟨gr, 1, none⟩ = some (.slice B q d) := hG.cell 1
            have f0 := hG.frozen 0
            have f1 := hG.frozen 1
            have hgl3 : gr < w3.heap.size := hG.lt
            have hXl3 : X < w3.heap.size := Nat.lt_of_lt_of_le hXl hb3.size
            have y1 := (hb3.cell (p := ⟨X, 1, none⟩) hXl).trans x1
            have y2 := (hb3.cell (p := ⟨X, 2, none⟩) hXl).trans x2
            have y3 := (hb3.cell (p := ⟨X, 3, none⟩) hXl).trans x3
            have y4 := (hb3.cell (p := ⟨X, 4, none⟩) hXl).trans x4
            have hu1 : Upd [gr] w3 (((w3.setCell ⟨gr, 0, none⟩ (.slice A' (m + 1) c')).setCell ⟨gr, 1, none⟩ (.slice B q d)).alloc (.cells #[.slice A' (m + 1) c', .slice B q d] 29)) := (((Upd.refl _ _).setCell (by simp) _).setCell (by simp) _).alloc _
            have hp5 := HS1.out.pins hb3 hu1
            have HBK := Lib.hid (((hG.store 0 (.slice A' (m + 1) c')).store 1 (.slice B q d)).alloc (.cells #[.slice A' (m + 1) c', .slice B q d] 29))
            have HC5 := Lib.hid (HC2.out _ hp5)
            have HU1 := Lib.hid hu1
            have HR3 := Lib.hid hr3
            have HB3 := Lib.hid hb3
            have HF3 := Lib.hid hf3
            clear hu1 hp5 hG hr3 hb3 hf3 x0 x1 x2 x3 x4 q0 q1 HC HC2
            go_wp2_with fail
            refine HC5.out.mono ?_
            rintro e w6 ⟨rfl, hp6, hu6⟩
            have HPP := Lib.hid (HS1.out.turn HB3.out HR3.out HF3.out (fun h a _ => .inl ⟨h, rfl⟩) HU1.out HBK.out hp6 hu6 (by simp) (fun b hb => .inl hb))
            clear hp6 hu6 HC5
            go_wp2
            go_meet
            case rel => exact ⟨_, _, _, _, _, _, _, _, HPP.out⟩
          by_cases hk3 : kind = 3
          · as_aux_lemma =>
            subst hk3
            have hc := runpin HS1.out.rp worker
            have hc2 := fun (W : World) (h : PA w W N g lw ws wts wv) => h.unpin worker
            rw [nrm_unpin] at hc; generalize mUnpin ws worker = mi at hc hc2; obtain ⟨ws4, er⟩ := mi; dsimp only at hc hc2
            have HC := Lib.hid hc
            have HC2 := Lib.hid hc2
            clear hc hc2
            go_wp2_with fail
            refine HC.out.mono ?_
            rintro e w3 ⟨A', c', rfl, hr3, hb3, hf3⟩
            have hG := HS1.out.blk.below hb3 HS1.out.blk.lt
            have d0 : w3.cell? ⟨gr, 0, none⟩ = some (.slice A1 (m + 1) c) := hG.cell 0
            have d1 : w3.cell? ⟨gr, 1, none⟩ = some (.slice B q d) := hG.cell 1
            have f0 := hG.frozen 0
            have f1 := hG.frozen 1
            have hgl3 : gr < w3.heap.size := hG.lt
            have hXl3 : X < w3.heap.size := Nat.lt_of_lt_of_le hXl hb3.size
            have y1 := (hb3.cell (p := ⟨X, 1, none⟩) hXl).trans x1
            have y2 := (hb3.cell (p := ⟨X, 2, none⟩) hXl).trans x2
            have y3 := (hb3.cell (p := ⟨X, 3, none⟩) hXl).trans x3
            have y4 := (hb3.cell (p := ⟨X, 4, none⟩) hXl).trans x4
            have hu1 : Upd [gr] w3 (((w3.setCell ⟨gr, 0, none⟩ (.slice A' (m + 1) c')).setCell ⟨gr, 1, none⟩ (.slice B q d)).alloc (.cells #[.slice A' (m + 1) c', .slice B q d] 29)) := (((Upd.refl _ _).setCell (by simp) _).setCell (by simp) _).alloc _
            have hp5 := HS1.out.pins hb3 hu1
            have HBK := Lib.hid (((hG.store 0 (.slice A' (m + 1) c')).store 1 (.slice B q d)).alloc (.cells #[.slice A' (m + 1) c', .slice B q d] 29))
            have HC5 := Lib.hid (HC2.out _ hp5)
            have HU1 := Lib.hid hu1
            have HR3 := Lib.hid hr3
            have HB3 := Lib.hid hb3
            have HF3 := Lib.hid hf3
            clear hu1 hp5 hG hr3 hb3 hf3 x0 x1 x2 x3 x4 q0 q1 HC HC2
            go_wp2_with fail
            refine HC5.out.mono ?_
            rintro e w6 ⟨rfl, hp6, hu6⟩
            have HPP := Lib.hid (HS1.out.turn HB3.out HR3.out HF3.out (fun h a _ => .inl ⟨h, rfl⟩) HU1.out HBK.out hp6 hu6 (by simp) (fun b hb => .inl hb))
            clear hp6 hu6 HC5
            go_wp2
            go_meet
            case rel => exact ⟨_, _, _, _, _, _, _, _, HPP.out⟩
          by_cases hk4 : kind = 4
          · as_aux_lemma =>
            subst hk4
            have hc := rretire HS1.out.rp slot turn epoch
            have hc2 := fun (W : World) (h : PA w W N g lw ws wts wv) => h.retire slot turn epoch
            generalize mRetire wts ⟨slot, turn, epoch⟩ = mi at hc hc2; obtain ⟨wts4, er⟩ := mi; dsimp only at hc hc2
            have HC := Lib.hid hc
            have HC2 := Lib.hid hc2
            clear hc hc2
            go_wp2_with fail
            refine HC.out.mono ?_
            rintro e w3 ⟨B', q', d', rfl, hr3, hb3, hf3⟩
            have hG := HS1.out.blk.below hb3 HS1.out.blk.lt
            have d0 : w3.cell? ⟨gr, 0, none⟩ = some (.slice A1 (m + 1) c) := hG.cell 0
            have d1 : w3.cell? ⟨gr, 1, none⟩ = some (.slice B q d) := hG.cell 1
            have f0 := hG.frozen 0
            have f1 := hG.frozen 1
            have hgl3 : gr < w3.heap.size := hG.lt
            have hXl3 : X < w3.heap.size := Nat.lt_of_lt_of_le hXl hb3.size
            have y1 := (hb3.cell (p := ⟨X, 1, none⟩) hXl).trans x1
            have y2 := (hb3.cell (p := ⟨X, 2, none⟩) hXl).trans x2
            have y3 := (hb3.cell (p := ⟨X, 3, none⟩) hXl).trans x3
            have y4 := (hb3.cell (p := ⟨X, 4, none⟩) hXl).trans x4
            have hu1 : Upd [gr] w3 (((w3.setCell ⟨gr, 0, none⟩ (.slice A1 (m + 1) c)).setCell ⟨gr, 1, none⟩ (.slice B' q' d')).alloc (.cells #[.slice A1 (m + 1) c, .slice B' q' d'] 29)) := (((Upd.refl _ _).setCell (by simp) _).setCell (by simp) _).alloc _
            have hp5 := HS1.out.pins hb3 hu1
            have HBK := Lib.hid (((hG.store 0 (.slice A1 (m + 1) c)).store 1 (.slice B' q' d')).alloc (.cells #[.slice A1 (m + 1) c, .slice B' q' d'] 29))
            have HC5 := Lib.hid (HC2.out _ hp5)
            have HU1 := Lib.hid hu1
            have HR3 := Lib.hid hr3
            have HB3 := Lib.hid hb3
            have HF3 := Lib.hid hf3
            clear hu1 hp5 hG hr3 hb3 hf3 x0 x1 x2 x3 x4 q0 q1 HC HC2
            go_wp2_with fail
            refine HC5.out.mono ?_
            rintro e w6 ⟨rfl, wv6, hp6, hu6, hv6⟩
            have HPP := Lib.hid (HS1.out.turn HB3.out HR3.out (fun _ a _ => .inl rfl) HF3.out HU1.out HBK.out hp6 hu6 (fun _ hs => sub_own hs) hv6)
            clear hp6 hu6 hv6 HC5
            go_wp2
            go_meet
            case rel => exact ⟨_, _, _, _, _, _, _, _, HPP.out⟩
          by_cases hk5 : kind = 5
          · as_aux_lemma =>
            subst hk5
            have hc := rretire HS1.out.rp slot turn epoch
            have hc2 := fun (W : World) (h : PA w W N g lw ws wts wv) => h.retire slot turn epoch
            generalize mRetire wts ⟨slot, turn, epoch⟩ = mi at hc hc2; obtain ⟨wts4, er⟩ := mi; dsimp only at hc hc2
            have HC := Lib.hid hc
            have HC2 := Lib.hid hc2
            clear hc hc2
            go_wp2_with fail
            refine HC.out.mono ?_
            rintro e w3 ⟨B', q', d', rfl, hr3, hb3, hf3⟩
            have hG := HS1.out.blk.below hb3 HS1.out.blk.lt
            have d0 : w3.cell? ⟨gr, 0, none⟩ = some (.slice A1 (m + 1) c) := hG.cell 0
            have d1 : w3.cell? ⟨gr, 1, none⟩ = some (.slice B q d) := hG.cell 1
            have f0 := hG.frozen 0
            have f1 := hG.frozen 1
            have hgl3 : gr < w3.heap.size := hG.lt
            have hXl3 : X < w3.heap.size := Nat.lt_of_lt_of_le hXl hb3.size
            have y1 := (hb3.cell (p := ⟨X, 1, none⟩) hXl).trans x1
            have y2 := (hb3.cell (p := ⟨X, 2, none⟩) hXl).trans x2
            have y3 := (hb3.cell (p := ⟨X, 3, none⟩) hXl).trans x3
            have y4 := (hb3.cell (p := ⟨X, 4, none⟩) hXl).trans x4
            have hu1 : Upd [gr] w3 (((w3.setCell ⟨gr, 0, none⟩ (.slice A1 (m + 1) c)).setCell ⟨gr, 1, none⟩ (.slice B' q' d')).alloc (.cells #[.slice A1 (m + 1) c, .slice B' q' d'] 29)) := (((Upd.refl _ _).setCell (by simp) _).setCell (by simp) _).alloc _
            have hp5 := HS1.out.pins hb3 hu1
            have HBK := Lib.hid (((hG.store 0 (.slice A1 (m + 1) c)).store 1 (.slice B' q' d')).alloc (.cells #[.slice A1 (m + 1) c, .slice B' q' d'] 29))
            have HC5 := Lib.hid (HC2.out _ hp5)
            have HU1 := Lib.hid hu1
            have HR3 := Lib.hid hr3
            have HB3 := Lib.hid hb3
            have HF3 := Lib.hid hf3
            clear hu1 hp5 hG hr3 hb3 hf3 x0 x1 x2 x3 x4 q0 q1 HC HC2
            go_wp2_with fail
            refine HC5.out.mono ?_
            rintro e w6 ⟨rfl, wv6, hp6, hu6, hv6⟩
            have HPP := Lib.hid (HS1.out.turn HB3.out HR3.out (fun _ a _ => .inl rfl) HF3.out HU1.out HBK.out hp6 hu6 (fun _ hs => sub_own hs) hv6)
            clear hp6 hu6 hv6 HC5
            go_wp2
            go_meet
            case rel => exact ⟨_, _, _, _, _, _, _, _, HPP.out⟩
          as_aux_lemma =>
          have hc := rsweep_nrm HS1.out.rp
          have hc2 := fun (W : World) (h : PA w W N g lw ws wts wv) => h.sweep
          generalize oldest ws = o at hc hc2
          have HC := Lib.hid hc
          have HC2 := Lib.hid hc2
          clear hc hc2
          go_wp2_with fail
          refine HC.out.mono ?_
          rintro e w3 ⟨B', q', d', rv3, rfl, hr3, hw3, hb3, hf3⟩
          have HW3 := Lib.hid hw3
          clear hw3
          have hG := HS1.out.blk.below hb3 HS1.out.blk.lt
          have d0 : w3.cell? ⟨gr, 0, none⟩ = some (.slice A1 (m + 1) c) := hG.cell 0
          have d1 : w3.cell? ⟨gr, 1, none⟩ = some (.slice B q d) := hG.cell 1
          have f0 := hG.frozen 0
          have f1 := hG.frozen 1
          have hgl3 : gr < w3.heap.size := hG.lt
          have hXl3 : X < w3.heap.size := Nat.lt_of_lt_of_le hXl hb3.size
          have y1 := (hb3.cell (p := ⟨X, 1, none⟩) hXl).trans x1
          have y2 := (hb3.cell (p := ⟨X, 2, none⟩) hXl).trans x2
          have y3 := (hb3.cell (p := ⟨X, 3, none⟩) hXl).trans x3
          have y4 := (hb3.cell (p := ⟨X, 4, none⟩) hXl).trans x4
          have hu1 : Upd [gr] w3 (((w3.setCell ⟨gr, 0, none⟩ (.slice A1 (m + 1) c)).setCell ⟨gr, 1, none⟩ (.slice B' q' d')).alloc (.cells #[.slice A1 (m + 1) c, .slice B' q' d'] 29)) := (((Upd.refl _ _).setCell (by simp) _).setCell (by simp) _).alloc _
          have hp5 := HS1.out.pins hb3 hu1
          have HBK := Lib.hid (((hG.store 0 (.slice A1 (m + 1) c)).store 1 (.slice B' q' d')).alloc (.cells #[.slice A1 (m + 1) c, .slice B' q' d'] 29))
          have HC5 := Lib.hid (HC2.out _ hp5)
          have HU1 := Lib.hid hu1
          have HR3 := Lib.hid hr3
          have HB3 := Lib.hid hb3
          have HF3 := Lib.hid hf3
          clear hu1 hp5 hG hr3 hb3 hf3 x0 x1 x2 x3 x4 q0 q1 HC HC2
          go_wp2_with fail
          refine HC5.out.mono ?_
          rintro e w6 ⟨rv6, wv6, rfl, hp6, hv6, hr6, hu6⟩
          have HPP := Lib.hid (HS1.out.turn HB3.out HR3.out (fun _ a _ => .inl rfl) HF3.out HU1.out HBK.out hp6 hu6 (fun _ hs => sub_own hs) (fun b hb => .inl (by rw [← hv6]; exact hb)))
          have hwo := fun b (hb : wv.ownBlock = some b) => (HS1.out.pa.is.foot hb).2
          have hgl := HS1.out.pa.is.blk.lt
          have hw6 : w6.ownsRow W1.heap.size 33 2 rv3 (wts.flatMap (take1 o)).length ((wts.flatMap (take1 o)).flatMap encR) := by
            have h5 := ownsRow_upd HW3.out HU1.out (fun s hs he => by have := (own_block_lt HW3.out he).1; have := HS1.out.blk.lt; simp at hs; omega)
            refine ownsRow_upd h5 hu6 (fun s hs he => ?_)
            have h6 := (own_block_lt h5 he).1
            rcases List.mem_cons.1 hs with rfl | hs
            · omega
            · have := hwo s (by simpa using hs); omega
          obtain ⟨Ar, cr, hrv, hra⟩ := ref_at hr6
          obtain ⟨Aw, cw, hrw, hwa⟩ := ref_at hw6
          subst hrv
          subst hrw
          generalize hR : wts.flatMap (take1 o) = R at hra hwa ⊢
          have hRl : R.length ≤ 64 := by have := count_swept o wts; rw [hR] at this; have := HS1.out.pa.is.few; omega
          have HRA := Lib.hid hra
          have HWA := Lib.hid hwa
          clear hp6 hv6 hr6 hu6 hwo hgl hw6 hra hwa hR HC5 HW3
          go_wp2
          obtain ⟨gA, rfl⟩ : ∃ gA : Nat, gA = gk := ⟨gk, rfl⟩
          go_loopg [25] R.length (fun gj x25 wx => ∃ (t z : Nat), t ≤ R.length ∧ R.length ≤ t + gj ∧ x25 = .int .i64 t ∧ w6.drewN z = wx)
          case atStart => exact ⟨0, 0, Nat.zero_le _, by omega, rfl, rfl⟩
          case round =>
            obtain ⟨t, z, ht, hgt, rfl, rfl⟩ := hrel
            by_cases hlt2 : t < R.length
            · obtain ⟨br, y, rfl, _, _, hy, r0, r1⟩ := HRA.out t hlt2
              obtain ⟨bw, y', rfl, _, _, hy', s0, s1⟩ := HWA.out t hlt2
              rw [hy] at hy'
              obtain rfl := Option.some.inj hy'
              obtain ⟨ya, yb⟩ := y
              dsimp only at r0 r1 s0 s1
              have hi0 : (0 : Int) ≤ (t : Int) := by omega
              have hi1 : (t : Int) < (R.length : Int) := by omega
              clear hy hy'
              go_wp2_with fail
              go_quiet (fail)
              go_wp2
              go_roundg (gk - 1)
              case measure => omega
              case rel => exact ⟨t + 1, z + nq, by omega, by omega, by go_num, by simp⟩
            · go_wp2
              go_meet
              case rel => exact ⟨_, _, _, _, _, _, _, _, HPP.out.upd ((Upd.refl _ _).drewN _)⟩
      · have HB := Lib.hid hs.pa.below
        clear hs
        go_wp2
        go_ret
        exact ⟨rfl, HB.out⟩
end Go.Proofs.Ytembadjfialenaa
