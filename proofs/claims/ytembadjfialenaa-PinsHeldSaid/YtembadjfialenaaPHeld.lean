/- PinsHeld: the walk. -/
import Derived.Test.YtembadjfialenaaPBounds
import Derived.Test.YtembadjfialenaaPPlain
namespace Go.Proofs.Ytembadjfialenaa
open Go Go.RowKit
set_option maxHeartbeats 400000

theorem take1_snoc (o : Int) (wts : List Wt) (x : Wt) (h : x.ep ≤ o) : (wts ++ [x]).flatMap (take1 o) = wts.flatMap (take1 o) ++ [(x.slot, x.turn)] := by
  rw [List.flatMap_append]; simp [take1, h]

theorem held_install {x0 x1 x2 : Wk} {i ep : Int} (hi : ¬ i = 0) : ∃ y1 y2, (mInstall [x0, x1, x2] i ep).1 = [x0, y1, y2] := by
  unfold mInstall
  split
  · exact ⟨x1, x2, rfl⟩
  · rename_i h
    obtain rfl | rfl : i = 1 ∨ i = 2 := by simp at h; omega
    · simp only [show Int.toNat 1 = 1 from rfl, List.getElem?_cons_succ, List.getElem?_cons_zero]
      split
      · exact ⟨x1, x2, rfl⟩
      · exact ⟨_, _, rfl⟩
    · simp only [show Int.toNat 2 = 2 from rfl, List.getElem?_cons_succ, List.getElem?_cons_zero]
      split
      · exact ⟨x1, x2, rfl⟩
      · exact ⟨_, _, rfl⟩
theorem held_pin {x0 x1 x2 : Wk} {i : Int} (hi : ¬ i = 0) : ∃ y1 y2, (mPin [x0, x1, x2] i).1 = [x0, y1, y2] := by
  unfold mPin
  split
  · exact ⟨x1, x2, rfl⟩
  · rename_i h
    obtain rfl | rfl : i = 1 ∨ i = 2 := by simp at h; omega
    · simp only [show Int.toNat 1 = 1 from rfl, List.getElem?_cons_succ, List.getElem?_cons_zero]
      split
      · exact ⟨x1, x2, rfl⟩
      · exact ⟨_, _, rfl⟩
    · simp only [show Int.toNat 2 = 2 from rfl, List.getElem?_cons_succ, List.getElem?_cons_zero]
      split
      · exact ⟨x1, x2, rfl⟩
      · exact ⟨_, _, rfl⟩
theorem held_unpin {x0 x1 x2 : Wk} {i : Int} (hi : ¬ i = 0) : ∃ y1 y2, (mUnpin [x0, x1, x2] i).1 = [x0, y1, y2] := by
  unfold mUnpin
  split
  · exact ⟨x1, x2, rfl⟩
  · rename_i h
    obtain rfl | rfl : i = 1 ∨ i = 2 := by simp at h; omega
    · simp only [show Int.toNat 1 = 1 from rfl, List.getElem?_cons_succ, List.getElem?_cons_zero]
      split
      · exact ⟨_, _, rfl⟩
      · exact ⟨x1, x2, rfl⟩
    · simp only [show Int.toNat 2 = 2 from rfl, List.getElem?_cons_succ, List.getElem?_cons_zero]
      split
      · exact ⟨_, _, rfl⟩
      · exact ⟨x1, x2, rfl⟩

section
variable {w0 w : World} {N g lw : Nat} {x0 x1 x2 : Wk} {wts : List Wt} {wv : Value}
theorem PA.held_install (h : PA w0 w N g lw [x0, x1, x2] wts wv) {i : Int} (hi : ¬ i = 0) (ep : Int) :
    Hid (Calls Try.prog 11 #[.pointer (some ⟨g, 0, none⟩), .int .i64 i, .int .u64 ep] w fun e w' => ∃ y1 y2 er, e = .returned (.int .i64 er) ∧ PA w0 w' N g lw [x0, y1, y2] wts wv ∧ Upd [lw] w w') := by
  obtain ⟨y1, y2, hy⟩ := Proofs.Ytembadjfialenaa.held_install (x0 := x0) (x1 := x1) (x2 := x2) (ep := ep) hi
  refine (h.install i ep).mono ?_
  rintro e w' ⟨rfl, h1, h2⟩
  exact ⟨y1, y2, _, rfl, by rwa [hy] at h1, h2⟩
theorem PA.held_pin (h : PA w0 w N g lw [x0, x1, x2] wts wv) {i : Int} (hi : ¬ i = 0) :
    Hid (Calls Try.prog 13 #[.pointer (some ⟨g, 0, none⟩), .int .i64 i] w fun e w' => ∃ y1 y2, ∃ er : Int × Int, e = .returned (.tuple #[.int .u64 er.1, .int .i64 er.2]) ∧ PA w0 w' N g lw [x0, y1, y2] wts wv ∧ Upd [lw] w w') := by
  obtain ⟨y1, y2, hy⟩ := Proofs.Ytembadjfialenaa.held_pin (x0 := x0) (x1 := x1) (x2 := x2) hi
  refine (h.pin i).mono ?_
  rintro e w' ⟨rfl, h1, h2⟩
  exact ⟨y1, y2, _, rfl, by rwa [hy] at h1, h2⟩
theorem PA.held_unpin (h : PA w0 w N g lw [x0, x1, x2] wts wv) {i : Int} (hi : ¬ i = 0) :
    Hid (Calls Try.prog 15 #[.pointer (some ⟨g, 0, none⟩), .int .i64 i] w fun e w' => ∃ y1 y2 er, e = .returned (.int .i64 er) ∧ PA w0 w' N g lw [x0, y1, y2] wts wv ∧ Upd [lw] w w') := by
  obtain ⟨y1, y2, hy⟩ := Proofs.Ytembadjfialenaa.held_unpin (x0 := x0) (x1 := x1) (x2 := x2) hi
  refine (h.unpin i).mono ?_
  rintro e w' ⟨rfl, h1, h2⟩
  exact ⟨y1, y2, _, rfl, by rwa [hy] at h1, h2⟩
end

/-- what looks at an epoch holds back all behind it -/
theorem held_old {a e : Int} {x1 x2 : Wk} : oldest [⟨a, e, true⟩, x1, x2] ≤ e := (low_oldest [⟨a, e, true⟩, x1, x2] ⟨a, e, true⟩ (by simp)).2 rfl

/-- the first j are free, and at that epoch, or beyond -/
def Free (E : Int) (j : Nat) (ws : List Wk) : Prop := ws.length = 3 ∧ ∀ q x, q < j → ws[q]? = some x → x.looks = false ∧ E ≤ x.at_
theorem free_step {E : Int} {j : Nat} {ws : List Wk} (h : Free E j ws) (hj : j < 3) : Free E (j + 1) (mInstall (mUnpin ws j).1 j E).1 := by
  have hl := h.1
  have hx : ws[j]? = some ws[j] := List.getElem?_eq_getElem (by omega)
  generalize ws[j] = x at hx
  -- unpinned
  have hu : ∃ y : Wk, y.looks = false ∧ (mUnpin ws j).1 = ws.set j y := by
    unfold mUnpin
    rw [if_neg (by omega), Int.toNat_natCast]
    simp only [hx]
    split
    · exact ⟨_, rfl, rfl⟩
    · rename_i hf
      refine ⟨x, by simpa using hf, ?_⟩
      apply List.ext_getElem?
      intro q
      rw [List.getElem?_set]
      split
      · rename_i e; subst e; rw [if_pos (by omega)]; exact hx
      · rfl
  obtain ⟨y, hy, hu⟩ := hu
  rw [hu]
  have hz : ∃ z : Wk, z.looks = false ∧ E ≤ z.at_ ∧ (mInstall (ws.set j y) j E).1 = ws.set j z := by
    unfold mInstall
    rw [if_neg (by rw [List.length_set]; omega), Int.toNat_natCast]
    simp only [List.getElem?_set_self (show j < ws.length by omega)]
    by_cases hlt : E < y.at_
    · rw [if_pos hlt]; exact ⟨y, hy, by omega, rfl⟩
    · rw [if_neg hlt]; exact ⟨{ y with at_ := E }, hy, Int.le_refl _, by rw [List.set_set]⟩
  obtain ⟨z, hz1, hz2, hz⟩ := hz
  rw [hz]
  refine ⟨by simpa using hl, fun q x hq hqx => ?_⟩
  rw [List.getElem?_set] at hqx
  split at hqx
  · rw [if_pos (by omega)] at hqx
    cases hqx
    exact ⟨hz1, hz2⟩
  · exact h.2 q x (by omega) hqx
theorem free_low {E : Int} {ws : List Wk} (h : Free E 3 ws) : E ≤ oldest ws := by
  refine le_oldest (by rw [h.1]; omega) (fun x hx => ?_)
  obtain ⟨q, hq, rfl⟩ := List.getElem_of_mem hx
  have := h.2 q ws[q] (by rw [h.1] at hq; omega) (List.getElem?_eq_getElem hq)
  exact ⟨this.2, fun e => by rw [this.1] at e; cases e⟩

/-- the first j installed -/
def WS (e : Int) (j : Nat) : List Wk := (List.range 3).map fun q => if q < j then ⟨e, 0, false⟩ else ⟨0, 0, false⟩
theorem ws_step {e : Int} (he : 0 ≤ e) {j : Nat} (hj : j < 3) : mInstall (WS e j) j e = (WS e (j + 1), 0) := by
  have h : ¬ e < 0 := by omega
  obtain rfl | rfl | rfl : j = 0 ∨ j = 1 ∨ j = 2 := by omega
  · simp [mInstall, WS, List.range, List.range.loop, h]
  · simp [mInstall, WS, List.range, List.range.loop, h]
  · simp [mInstall, WS, List.range, List.range.loop, h]

set_option maxRecDepth 100000 in
theorem held_any (a0 a1 : Int) (A : Option Addr) (len cap : Nat) (l : List PAct) (w : World) (h0 : 0 ≤ a0) (h1 : 0 ≤ a1) (hlen : len ≤ 9223372036854775807) (hll : l.length = len) (hl : Cells w w.heap.size 5 A len (l.flatMap encA)) :
    Calls Try.prog 7 #[.int .u64 a0, .int .u64 a1, .slice A len cap] w fun e w' => e = .returned (.bool true) ∧ Below w.heap.size w w' := by
  have HL := Lib.hid hl
  have HLL := Lib.hid hll
  clear hl hll
  by_cases hbig : 100 < (len : Int)
  · go_enter Try.func7, Try.ntmps7
    go_wp2_with fail
    refine (awake_any w).mono ?_
    rintro e w1 ⟨rfl, hu1⟩
    go_wp2
    go_ret
    exact ⟨rfl, hu1⟩
  by_cases hb0 : 1152921504606846976 < a0
  · go_enter Try.func7, Try.ntmps7
    go_wp2_with fail
    refine (awake_any w).mono ?_
    rintro e w1 ⟨rfl, hu1⟩
    go_wp2
    go_ret
    exact ⟨rfl, hu1⟩
  by_cases hb1 : 1152921504606846976 < a1
  · go_enter Try.func7, Try.ntmps7
    go_wp2_with fail
    refine (awake_any w).mono ?_
    rintro e w1 ⟨rfl, hu1⟩
    go_wp2
    go_ret
    exact ⟨rfl, hu1⟩
  go_enter Try.func7, Try.ntmps7
  go_wp2_with fail
  refine (awake_any w).mono ?_
  rintro e w1 ⟨rfl, hbw⟩
  go_wp2_with fail
  refine (PA.new hbw 3 (by omega) (by omega)).mono ?_
  rintro e w2 ⟨g, lw, rfl, hp2, hu2⟩
  generalize hN : w2.heap.size = N at hp2
  have HP2 := Lib.hid (show PA w w2 N g lw (WS a0 0) [] (.slice none 0 0) from hp2)
  clear hu2 hbw hp2 hN
  have H0 := Lib.hid h0
  have H1 := Lib.hid h1
  have h2 : ¬ a0 + a1 + 1 < a0 := by omega
  have h3 : a0 + a1 + 1 ≤ 18446744073709551615 := by omega
  have h4 : 0 ≤ a0 + a1 := by omega
  go_wp2
  go_loopw [9] (fun x9 wr => ∃ j : Nat, j ≤ 3 ∧ x9 = .int .i64 j ∧ PA w wr N g lw (WS a0 j) [] (.slice none 0 0)) (fun x9 _ => 3 - (intOf x9).toNat)
  case atStart => exact ⟨0, by omega, rfl, HP2.out⟩
  case round =>
    obtain ⟨j, hj, rfl, hp⟩ := hrel
    by_cases hlt : j < 3
    · have hlt' : (j : Int) < 3 := by omega
      have hc := hp.install j a0
      rw [ws_step h0 hlt] at hc
      have hc := Lib.hid hc
      clear hp
      go_wp2_with fail
      refine hc.out.mono ?_
      rintro e w3 ⟨rfl, hp3, hu3⟩
      have HP3 := Lib.hid hp3
      clear hc hp3 hu3
      go_wp2
      go_roundw
      case rel => exact ⟨j + 1, by omega, by simp, HP3.out⟩
      case measure => simp [intOf]; omega
    · obtain rfl : j = 3 := by omega
      rw [show WS a0 3 = [⟨a0, 0, false⟩, ⟨a0, 0, false⟩, ⟨a0, 0, false⟩] from rfl] at hp
      have hc := hp.pin 0
      rw [show mPin [⟨a0, 0, false⟩, ⟨a0, 0, false⟩, ⟨a0, 0, false⟩] 0 = ([⟨a0, a0, true⟩, ⟨a0, 0, false⟩, ⟨a0, 0, false⟩], a0, 0) from rfl] at hc
      have hc := Lib.hid hc
      clear hp
      go_wp2_with fail
      refine hc.out.mono ?_
      rintro e w3 ⟨rfl, hp3, hu3⟩
      clear hc hu3
      dsimp only at hp3 ⊢
      have hpb := (hp3.upd ((Upd.refl [] w3).alloc (.cells #[.int .i64 5, .int .u32 77] 33))).base (w3.heap.size + 1) (by have := hp3.N; omega) (by simp)
      have hB := Blk.new w3 33 #[.int .i64 5, .int .u32 77]
      obtain ⟨R, hR⟩ : ∃ R, R = w3.heap.size := ⟨_, rfl⟩
      have hgR : g < R := by have := hp3.is.gN; have := hp3.N; omega
      have hlR : lw < R := by have := hp3.is.lN; have := hp3.N; omega
      rw [← hR] at hB
      have hpb' : PA w (w3.alloc (.cells #[.int .i64 5, .int .u32 77] 33)) (R + 1) g lw [⟨a0, a0, true⟩, ⟨a0, 0, false⟩, ⟨a0, 0, false⟩] [] (.slice none 0 0) := by rw [hR]; exact hpb
      have hc := hpb'.install 0 (a0 + a1 + 1)
      rw [show mInstall [⟨a0, a0, true⟩, ⟨a0, 0, false⟩, ⟨a0, 0, false⟩] 0 (a0 + a1 + 1) = ([⟨a0 + a1 + 1, a0, true⟩, ⟨a0, 0, false⟩, ⟨a0, 0, false⟩], 0) by simp [mInstall, h2]] at hc
      have hc := Lib.hid hc
      have HR := Lib.hid hR
      clear hp3 hpb hpb' hR
      go_wp2_with fail
      rw [← HR.out]
      refine hc.out.mono ?_
      rintro e w4 ⟨rfl, hp4, hu4⟩
      have hB4 := hB.upd hu4 (by simp; omega)
      clear hc hu4 hB
      dsimp only at hp4 ⊢
      have d0 := hB4.cell 0
      have d1 := hB4.cell 1
      simp only [List.getElem?_toArray, List.getElem?_cons_zero, List.getElem?_cons_succ] at d0 d1
      have hc := hp4.retire 5 77 (a0 + 1)
      rw [show mRetire [] ⟨5, 77, a0 + 1⟩ = ([⟨5, 77, a0 + 1⟩], 0) from rfl] at hc
      have hc := Lib.hid hc
      clear hp4
      go_wp2_with fail
      refine hc.out.mono ?_
      rintro e w5 ⟨rfl, wv5, hp5, hu5, _⟩
      have hB5 := hB4.upd hu5 (by simp [Value.ownBlock]; omega)
      clear hc hu5 hB4 d0 d1
      dsimp only at hp5 ⊢
      have HP5 := Lib.hid hp5
      have HB5 := Lib.hid hB5
      clear hp5 hB5
      go_wp2
      go_loopw [11] (fun x11 wr => ∃ (k : Nat) (x1 x2 : Wk) (wv : Value), k ≤ len ∧ x11 = .int .i64 k ∧ PA w wr (R + 1) g lw [⟨a0 + a1 + 1, a0, true⟩, x1, x2] [⟨5, 77, a0 + 1⟩] wv ∧ Blk wr R 33 #[.int .i64 5, .int .u32 77]) (fun x11 _ => len - (intOf x11).toNat)
      case atStart => exact ⟨0, _, _, _, Nat.zero_le _, rfl, HP5.out, HB5.out⟩
      case round =>
        obtain ⟨k, x1, x2, wv, hk, rfl, hp, hBR⟩ := hrel
        by_cases hlt : k < len
        · obtain ⟨b, off, x, rfl, hbB, hx, c0, c1, c2, c3, c4⟩ := act_at HL.out HLL.out k hlt
          have e0 := (hp.below.cell (p := ⟨b, off + k * 5, none⟩) hbB).trans c0
          have e1 := (hp.below.cell (p := ⟨b, off + k * 5 + 1, none⟩) hbB).trans c1
          have e2 := (hp.below.cell (p := ⟨b, off + k * 5 + 2, none⟩) hbB).trans c2
          have e3 := (hp.below.cell (p := ⟨b, off + k * 5 + 3, none⟩) hbB).trans c3
          have e4 := (hp.below.cell (p := ⟨b, off + k * 5 + 4, none⟩) hbB).trans c4
          clear c0 c1 c2 c3 c4 hx
          obtain ⟨kind, worker, epoch, slot, turn⟩ := x
          dsimp only at e0 e1 e2 e3 e4
          have hB := Blk.new wr 35 #[.int .i64 kind, .int .i64 worker, .int .u64 epoch, .int .i64 slot, .int .u32 turn]
          have hpb := hp.upd ((Upd.refl [] wr).alloc (.cells #[.int .i64 kind, .int .i64 worker, .int .u64 epoch, .int .i64 slot, .int .u32 turn] 35))
          have HBR := Lib.hid (hBR.alloc (.cells #[.int .i64 kind, .int .i64 worker, .int .u64 epoch, .int .i64 slot, .int .u32 turn] 35))
          clear hp hBR
          have d0 := hB.cell 0
          have d1 := hB.cell 1
          have d2 := hB.cell 2
          simp only [List.getElem?_toArray, List.getElem?_cons_zero, List.getElem?_cons_succ] at d0 d1 d2
          by_cases hw0 : worker = 0
          · subst hw0
            have HP6 := Lib.hid hpb
            clear hpb hB
            go_wp2
            go_roundw
            case rel => exact ⟨k + 1, x1, x2, wv, by omega, by simp, HP6.out, HBR.out⟩
            case measure => simp [intOf]; omega
          by_cases hk0 : kind = 0
          · subst hk0
            have hc := hpb.held_install hw0
            clear hpb hB
            go_wp2_with fail
            refine (hc _).out.mono ?_
            rintro e w6 ⟨y1, y2, er, rfl, hp6, hu6⟩
            have HP6 := Lib.hid hp6
            have HB6 := Lib.hid (HBR.out.upd hu6 (by simp; omega))
            clear hc hp6 hu6 d0 d1 d2
            go_wp2
            go_roundw
            case rel => exact ⟨k + 1, y1, y2, _, by omega, by simp, HP6.out, HB6.out⟩
            case measure => simp [intOf]; omega
          by_cases hk1 : kind = 1
          · subst hk1
            have hc := hpb.held_install hw0
            clear hpb hB
            go_wp2_with fail
            refine (hc _).out.mono ?_
            rintro e w6 ⟨y1, y2, er, rfl, hp6, hu6⟩
            have HP6 := Lib.hid hp6
            have HB6 := Lib.hid (HBR.out.upd hu6 (by simp; omega))
            clear hc hp6 hu6 d0 d1 d2
            go_wp2
            go_roundw
            case rel => exact ⟨k + 1, y1, y2, _, by omega, by simp, HP6.out, HB6.out⟩
            case measure => simp [intOf]; omega
          by_cases hk2 : kind = 2
          · subst hk2
            have hc := hpb.held_pin hw0
            clear hpb hB
            go_wp2_with fail
            refine (hc).out.mono ?_
            rintro e w6 ⟨y1, y2, er, rfl, hp6, hu6⟩
            have HP6 := Lib.hid hp6
            have HB6 := Lib.hid (HBR.out.upd hu6 (by simp; omega))
            clear hc hp6 hu6 d0 d1 d2
            go_wp2
            go_roundw
            case rel => exact ⟨k + 1, y1, y2, _, by omega, by simp, HP6.out, HB6.out⟩
            case measure => simp [intOf]; omega
          by_cases hk3 : kind = 3
          · subst hk3
            have hc := hpb.held_unpin hw0
            clear hpb hB
            go_wp2_with fail
            refine (hc).out.mono ?_
            rintro e w6 ⟨y1, y2, er, rfl, hp6, hu6⟩
            have HP6 := Lib.hid hp6
            have HB6 := Lib.hid (HBR.out.upd hu6 (by simp; omega))
            clear hc hp6 hu6 d0 d1 d2
            go_wp2
            go_roundw
            case rel => exact ⟨k + 1, y1, y2, _, by omega, by simp, HP6.out, HB6.out⟩
            case measure => simp [intOf]; omega
          have hc := hpb.sweep
          have hold := held_old (a := a0 + a1 + 1) (e := a0) (x1 := x1) (x2 := x2)
          generalize oldest [⟨a0 + a1 + 1, a0, true⟩, x1, x2] = o at hc hold
          rw [show [(⟨5, 77, a0 + 1⟩ : Wt)].filter (stay o) = [⟨5, 77, a0 + 1⟩] by simp [stay]; omega, show [(⟨5, 77, a0 + 1⟩ : Wt)].flatMap (take1 o) = [] by simp [take1]; omega] at hc
          have hfo := fun b => hpb.is.foot (b := b)
          have hc := Lib.hid hc
          clear hpb hB hold
          go_wp2_with fail
          refine hc.out.mono ?_
          rintro e w6 ⟨rv, wv6, rfl, hp6, _, hr6, hu6⟩
          have HB6 := Lib.hid (HBR.out.upd hu6 (fun hm => by
            rcases List.mem_cons.1 hm with e | e
            · omega
            · have := (hfo R (by simpa using e)).1; omega))
          obtain ⟨A6, c6, rfl, _⟩ := ref_at hr6
          have hcw := Lib.hid hp6.waiting
          have HP6 := Lib.hid hp6
          clear hc hp6 hu6 hr6 d0 d1 d2 hfo
          dsimp only [List.length_nil, List.length_cons] at hcw ⊢
          go_wp2_with fail
          refine hcw.out.mono ?_
          rintro e w7 ⟨rfl, rfl⟩
          go_wp2
          go_roundw
          case rel => exact ⟨k + 1, x1, x2, wv6, by omega, by simp, HP6.out, HB6.out⟩
          case measure => simp [intOf]; omega
        · obtain rfl : k = len := by omega
          have HP6 := Lib.hid hp
          have HB6 := Lib.hid hBR
          clear hp hBR
          go_wp2
          go_loopw [13] (fun x13 wr => ∃ (j : Nat) (ws : List Wk) (wv : Value), j ≤ 3 ∧ x13 = .int .i64 j ∧ Free 4611686018427387904 j ws ∧ PA w wr (R + 1) g lw ws [⟨5, 77, a0 + 1⟩] wv ∧ Blk wr R 33 #[.int .i64 5, .int .u32 77]) (fun x13 _ => 3 - (intOf x13).toNat)
          case atStart => exact ⟨0, _, _, by omega, rfl, ⟨rfl, fun q _ hq => absurd hq (Nat.not_lt_zero q)⟩, HP6.out, HB6.out⟩
          case round =>
            obtain ⟨j, ws, wv, hj, rfl, hf, hp, hB⟩ := hrel
            have HF := Lib.hid hf
            have HB := Lib.hid hB
            clear hf hB
            by_cases hlt : j < 3
            · have hlt' : (j : Int) < 3 := by omega
              have hc := Lib.hid (hp.unpin j)
              clear hp
              go_wp2_with fail
              refine hc.out.mono ?_
              rintro e w7 ⟨rfl, hp7, hu7⟩
              have HB7 := Lib.hid (HB.out.upd hu7 (by simp; omega))
              have hc2 := Lib.hid (hp7.install j 4611686018427387904)
              clear hc hp7 hu7
              go_wp2_with fail
              refine hc2.out.mono ?_
              rintro e w8 ⟨rfl, hp8, hu8⟩
              have HB8 := Lib.hid (HB7.out.upd hu8 (by simp; omega))
              have HP8 := Lib.hid hp8
              clear hc2 hp8 hu8
              go_wp2
              go_roundw
              case rel => exact ⟨j + 1, _, wv, by omega, by simp, free_step HF.out hlt, HP8.out, HB8.out⟩
              case measure => simp [intOf]; omega
            · obtain rfl : j = 3 := by omega
              have hlo := free_low HF.out
              have hc := hp.sweep
              generalize oldest ws = o at hc hlo
              rw [show [(⟨5, 77, a0 + 1⟩ : Wt)].flatMap (take1 o) = [(5, 77)] by simp [take1]; omega] at hc
              have hfo := fun b => hp.is.foot (b := b)
              have hc := Lib.hid hc
              clear hp hlo
              go_wp2_with fail
              refine hc.out.mono ?_
              rintro e w7 ⟨rv, wv7, rfl, hp7, _, hr7, hu7⟩
              have HB7 := HB.out.upd hu7 (fun hm => by
                rcases List.mem_cons.1 hm with e | e
                · omega
                · have := (hfo R (by simpa using e)).1; omega)
              obtain ⟨A8, c8, rfl, h8⟩ := ref_at hr7
              obtain ⟨b, x, rfl, _, hb8, hx, r0, r1⟩ := h8 0 (by simp)
              obtain rfl : ((5 : Int), (77 : Int)) = x := by simpa using hx
              have d0 := HB7.cell 0
              have d1 := HB7.cell 1
              simp only [List.getElem?_toArray, List.getElem?_cons_zero, List.getElem?_cons_succ] at d0 d1
              simp only [Nat.zero_mul, Nat.zero_add] at r0 r1
              have HBL := Lib.hid hp7.below
              clear hc hp7 hu7 hr7 h8 hx HB7 hfo
              dsimp only [List.length_nil, List.length_cons]
              go_wp2_with fail
              go_quiet (fail)
              go_wp2
              go_ret
              exact ⟨rfl, HBL.out.trans (((Upd.refl [] w7).drewN nq).below HBL.out.size (by simp))⟩
end Go.Proofs.Ytembadjfialenaa
