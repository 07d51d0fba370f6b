/- PinsBounds: the walk; what the pins of nothing answer. -/
import Derived.Test.YtembadjfialenaaPAwake
import Derived.Test.YtembadjfialenaaTail2
namespace Go.Proofs.Ytembadjfialenaa
open Go Go.RowKit
set_option maxHeartbeats 400000

theorem nil_of (i : Int) (w : World) : Calls Try.prog 24 #[.pointer none, .int .i64 i] w fun e w' => e = .returned (.tuple #[.pointer none, .int .i64 1]) ∧ w = w' := by
  go_enter Try.func24, Try.ntmps24
  go_wp2
  go_ret2
  exact ⟨rfl, rfl⟩
theorem nil_pin (i : Int) (w : World) : Calls Try.prog 13 #[.pointer none, .int .i64 i] w fun e w' => e = .returned (.tuple #[.int .u64 0, .int .i64 1]) ∧ w = w' := by
  go_enter Try.func13, Try.ntmps13
  go_wp2_with fail
  refine (nil_of _ _).mono ?_
  rintro e w' ⟨rfl, rfl⟩
  go_wp2
  go_ret2
  exact ⟨rfl, rfl⟩
theorem nil_install (i ep : Int) (w : World) : Calls Try.prog 11 #[.pointer none, .int .i64 i, .int .u64 ep] w fun e w' => e = .returned (.int .i64 1) ∧ w = w' := by
  go_enter Try.func11, Try.ntmps11
  go_wp2_with fail
  refine (nil_of _ _).mono ?_
  rintro e w' ⟨rfl, rfl⟩
  go_wp2
  go_ret
  exact ⟨rfl, rfl⟩
theorem nil_unpin (i : Int) (w : World) : Calls Try.prog 15 #[.pointer none, .int .i64 i] w fun e w' => e = .returned (.int .i64 1) ∧ w = w' := by
  go_enter Try.func15, Try.ntmps15
  go_wp2_with fail
  refine (nil_of _ _).mono ?_
  rintro e w' ⟨rfl, rfl⟩
  go_wp2
  go_ret
  exact ⟨rfl, rfl⟩
theorem nil_retire (slot turn ep : Int) (w : World) : Calls Try.prog 17 #[.pointer none, .agg #[.int .i64 slot, .int .u32 turn], .int .u64 ep] w fun e w' => e = .returned (.int .i64 1) ∧ Upd [] w w' := by
  go_enter Try.func17, Try.ntmps17
  go_wp2
  go_ret
  exact ⟨rfl, (Upd.refl _ _).alloc _⟩
theorem nil_oldest (w : World) : Calls Try.prog 20 #[.pointer none] w fun e w' => e = .returned (.int .u64 0) ∧ w = w' := by
  go_enter Try.func20, Try.ntmps20
  go_wp2
  go_ret
  exact ⟨rfl, rfl⟩
theorem nil_waiting (w : World) : Calls Try.prog 22 #[.pointer none] w fun e w' => e = .returned (.int .i64 0) ∧ w = w' := by
  go_enter Try.func22, Try.ntmps22
  go_wp2
  go_ret
  exact ⟨rfl, rfl⟩

theorem bounds_any (n k : Int) (w : World) : Calls Try.prog 5 #[.int .i64 n, .int .i64 k] w fun e w' => e = .returned (.bool true) ∧ Below w.heap.size w w' := by
  by_cases hn : n < 1 ∨ 4 < n
  · go_enter Try.func5, Try.ntmps5
    go_wp2_with fail
    refine (awake_any w).mono ?_
    rintro e w1 ⟨rfl, hb1⟩
    go_wp2_with fail
    refine (pnew_no w1 n hn).mono ?_
    rintro e w2 ⟨rfl, rfl⟩
    have hb : Hid (Below w.heap.size w w1) := Lib.hid hb1
    clear hb1
    rcases hn with hn | hn
    · go_wp2_with fail
      refine (nil_pin 0 w1).mono ?_
      rintro e w2 ⟨rfl, rfl⟩
      go_wp2_with fail
      refine (nil_install 0 1 w1).mono ?_
      rintro e w2 ⟨rfl, rfl⟩
      go_wp2_with fail
      refine (nil_unpin 0 w1).mono ?_
      rintro e w2 ⟨rfl, rfl⟩
      go_wp2_with fail
      refine (nil_retire 0 0 1 w1).mono ?_
      rintro e w2 ⟨rfl, hu2⟩
      have hb2 : Hid (Below w.heap.size w w2) := Lib.hid (hb.out.trans (hu2.below hb.out.size (by simp)))
      clear hu2
      go_wp2_with fail
      refine (nil_oldest w2).mono ?_
      rintro e w3 ⟨rfl, rfl⟩
      go_wp2_with fail
      refine (sweep_none w2).mono ?_
      rintro e w3 ⟨rfl, rfl⟩
      go_wp2_with fail
      refine (nil_waiting w2).mono ?_
      rintro e w3 ⟨rfl, rfl⟩
      go_wp2
      go_ret
      exact ⟨rfl, hb2.out⟩
    · have hn' : ¬ n < 1 := by omega
      go_wp2_with fail
      refine (nil_pin 0 w1).mono ?_
      rintro e w2 ⟨rfl, rfl⟩
      go_wp2_with fail
      refine (nil_install 0 1 w1).mono ?_
      rintro e w2 ⟨rfl, rfl⟩
      go_wp2_with fail
      refine (nil_unpin 0 w1).mono ?_
      rintro e w2 ⟨rfl, rfl⟩
      go_wp2_with fail
      refine (nil_retire 0 0 1 w1).mono ?_
      rintro e w2 ⟨rfl, hu2⟩
      have hb2 : Hid (Below w.heap.size w w2) := Lib.hid (hb.out.trans (hu2.below hb.out.size (by simp)))
      clear hu2
      go_wp2_with fail
      refine (nil_oldest w2).mono ?_
      rintro e w3 ⟨rfl, rfl⟩
      go_wp2_with fail
      refine (sweep_none w2).mono ?_
      rintro e w3 ⟨rfl, rfl⟩
      go_wp2_with fail
      refine (nil_waiting w2).mono ?_
      rintro e w3 ⟨rfl, rfl⟩
      go_wp2
      go_ret
      exact ⟨rfl, hb2.out⟩
  · obtain ⟨m, rfl⟩ : ∃ m : Nat, n = m := ⟨n.toNat, by omega⟩
    have h1 : ¬ (m : Int) < 1 := by omega
    have h2 : ¬ 4 < (m : Int) := by omega
    go_enter Try.func5, Try.ntmps5
    go_wp2_with fail
    refine (awake_any w).mono ?_
    rintro e w1 ⟨rfl, hb1⟩
    go_wp2_with fail
    refine (PA.new hb1 m (by omega) (by omega)).mono ?_
    rintro e w2 ⟨g, lw, rfl, hp2, hu2⟩
    clear hu2 hb1
    generalize hN : w2.heap.size = N at hp2
    clear hN
    have hpin := hp2.pin k
    by_cases hk0 : k < 0
    · have hW : ∃ WS, WS = List.replicate m (⟨0, 0, false⟩ : Wk) := ⟨_, rfl⟩
      obtain ⟨WS, hW⟩ := hW
      rw [show mPin (List.replicate m ⟨0, 0, false⟩) k = (WS, 0, 1) by simp [mPin, hk0, hW]] at hpin
      have hpin := Lib.hid hpin
      clear hW
      clear hp2
      go_wp2_with fail
      refine hpin.out.mono ?_
      rintro e w3 ⟨rfl, hp3, hu3⟩
      clear hpin hu3
      dsimp only at hp3 ⊢
      have HP3 := Lib.hid hp3
      clear hp3
      go_wp2
      go_loopw [12] (fun i wr => ∃ j : Nat, j ≤ 64 ∧ i = .int .i64 j ∧ ∃ wts wv, wts.length = j ∧ PA w wr N g lw WS wts wv) (fun i _ => 64 - (intOf i).toNat)
      case atStart => exact ⟨0, by omega, rfl, [], _, rfl, HP3.out⟩
      case round =>
        obtain ⟨j, hj, rfl, wts, wv, hwl, hp⟩ := hrel
        by_cases hlt : j < 64
        · have hlt' : (j : Int) < 64 := by omega
          have hc := hp.retire j 0 1
          rw [show mRetire wts ⟨j, 0, 1⟩ = (wts ++ [⟨j, 0, 1⟩], 0) by simp [mRetire]; omega] at hc
          have hc := Lib.hid hc
          clear hp
          go_wp2_with fail
          refine hc.out.mono ?_
          rintro e w4 ⟨rfl, wv4, hp4, hu4, _⟩
          dsimp only at hp4 ⊢
          have HP4 := Lib.hid hp4
          clear hc hp4 hu4
          go_wp2
          go_roundw
          case rel => exact ⟨j + 1, by omega, by simp, _, wv4, by simp [hwl], HP4.out⟩
          case measure => simp [intOf]; omega
        · obtain rfl : j = 64 := by omega
          have hc := hp.retire 0 0 1
          rw [show mRetire wts ⟨0, 0, 1⟩ = (wts, 20) by simp [mRetire, hwl]] at hc
          have hc := Lib.hid hc
          clear hp
          go_wp2_with fail
          refine hc.out.mono ?_
          rintro e w4 ⟨rfl, wv4, hp4, hu4, _⟩
          dsimp only at hp4 ⊢
          have hcw := Lib.hid hp4.waiting
          have HP4 := Lib.hid hp4
          clear hc hp4 hu4
          go_wp2_with fail
          refine hcw.out.mono ?_
          rintro e w5 ⟨rfl, rfl⟩
          rw [hwl]
          have HB := Lib.hid HP4.out.below
          go_wp2
          go_ret
          exact ⟨rfl, HB.out⟩
    by_cases hkm : (m : Int) ≤ k
    · have hW : ∃ WS, WS = List.replicate m (⟨0, 0, false⟩ : Wk) := ⟨_, rfl⟩
      obtain ⟨WS, hW⟩ := hW
      have hk1 : ¬ k < (m : Int) := by omega
      rw [show mPin (List.replicate m ⟨0, 0, false⟩) k = (WS, 0, 1) by simp [mPin, hkm, hW]] at hpin
      have hpin := Lib.hid hpin
      clear hW
      clear hp2
      go_wp2_with fail
      refine hpin.out.mono ?_
      rintro e w3 ⟨rfl, hp3, hu3⟩
      clear hpin hu3
      dsimp only at hp3 ⊢
      have HP3 := Lib.hid hp3
      clear hp3
      go_wp2
      go_loopw [12] (fun i wr => ∃ j : Nat, j ≤ 64 ∧ i = .int .i64 j ∧ ∃ wts wv, wts.length = j ∧ PA w wr N g lw WS wts wv) (fun i _ => 64 - (intOf i).toNat)
      case atStart => exact ⟨0, by omega, rfl, [], _, rfl, HP3.out⟩
      case round =>
        obtain ⟨j, hj, rfl, wts, wv, hwl, hp⟩ := hrel
        by_cases hlt : j < 64
        · have hlt' : (j : Int) < 64 := by omega
          have hc := hp.retire j 0 1
          rw [show mRetire wts ⟨j, 0, 1⟩ = (wts ++ [⟨j, 0, 1⟩], 0) by simp [mRetire]; omega] at hc
          have hc := Lib.hid hc
          clear hp
          go_wp2_with fail
          refine hc.out.mono ?_
          rintro e w4 ⟨rfl, wv4, hp4, hu4, _⟩
          dsimp only at hp4 ⊢
          have HP4 := Lib.hid hp4
          clear hc hp4 hu4
          go_wp2
          go_roundw
          case rel => exact ⟨j + 1, by omega, by simp, _, wv4, by simp [hwl], HP4.out⟩
          case measure => simp [intOf]; omega
        · obtain rfl : j = 64 := by omega
          have hc := hp.retire 0 0 1
          rw [show mRetire wts ⟨0, 0, 1⟩ = (wts, 20) by simp [mRetire, hwl]] at hc
          have hc := Lib.hid hc
          clear hp
          go_wp2_with fail
          refine hc.out.mono ?_
          rintro e w4 ⟨rfl, wv4, hp4, hu4, _⟩
          dsimp only at hp4 ⊢
          have hcw := Lib.hid hp4.waiting
          have HP4 := Lib.hid hp4
          clear hc hp4 hu4
          go_wp2_with fail
          refine hcw.out.mono ?_
          rintro e w5 ⟨rfl, rfl⟩
          rw [hwl]
          have HB := Lib.hid HP4.out.below
          go_wp2
          go_ret
          exact ⟨rfl, HB.out⟩
    · have hW : ∃ WS, WS = (List.replicate m (⟨0, 0, false⟩ : Wk)).set k.toNat ⟨0, 0, true⟩ := ⟨_, rfl⟩
      obtain ⟨WS, hW⟩ := hW
      have hk1 : k < (m : Int) := by omega
      have hk2 : 0 ≤ k := by omega
      rw [show mPin (List.replicate m ⟨0, 0, false⟩) k = (WS, 0, 0) by simp [mPin, hk0, hkm, hW]; rw [List.getElem?_replicate, if_pos (by omega)]; rfl] at hpin
      have hpin := Lib.hid hpin
      clear hW
      clear hp2
      go_wp2_with fail
      refine hpin.out.mono ?_
      rintro e w3 ⟨rfl, hp3, hu3⟩
      clear hpin hu3
      dsimp only at hp3 ⊢
      have HP3 := Lib.hid hp3
      clear hp3
      go_wp2
      go_loopw [12] (fun i wr => ∃ j : Nat, j ≤ 64 ∧ i = .int .i64 j ∧ ∃ wts wv, wts.length = j ∧ PA w wr N g lw WS wts wv) (fun i _ => 64 - (intOf i).toNat)
      case atStart => exact ⟨0, by omega, rfl, [], _, rfl, HP3.out⟩
      case round =>
        obtain ⟨j, hj, rfl, wts, wv, hwl, hp⟩ := hrel
        by_cases hlt : j < 64
        · have hlt' : (j : Int) < 64 := by omega
          have hc := hp.retire j 0 1
          rw [show mRetire wts ⟨j, 0, 1⟩ = (wts ++ [⟨j, 0, 1⟩], 0) by simp [mRetire]; omega] at hc
          have hc := Lib.hid hc
          clear hp
          go_wp2_with fail
          refine hc.out.mono ?_
          rintro e w4 ⟨rfl, wv4, hp4, hu4, _⟩
          dsimp only at hp4 ⊢
          have HP4 := Lib.hid hp4
          clear hc hp4 hu4
          go_wp2
          go_roundw
          case rel => exact ⟨j + 1, by omega, by simp, _, wv4, by simp [hwl], HP4.out⟩
          case measure => simp [intOf]; omega
        · obtain rfl : j = 64 := by omega
          have hc := hp.retire 0 0 1
          rw [show mRetire wts ⟨0, 0, 1⟩ = (wts, 20) by simp [mRetire, hwl]] at hc
          have hc := Lib.hid hc
          clear hp
          go_wp2_with fail
          refine hc.out.mono ?_
          rintro e w4 ⟨rfl, wv4, hp4, hu4, _⟩
          dsimp only at hp4 ⊢
          have hcw := Lib.hid hp4.waiting
          have HP4 := Lib.hid hp4
          clear hc hp4 hu4
          go_wp2_with fail
          refine hcw.out.mono ?_
          rintro e w5 ⟨rfl, rfl⟩
          rw [hwl]
          have HB := Lib.hid HP4.out.below
          go_wp2
          go_ret
          exact ⟨rfl, HB.out⟩
end Go.Proofs.Ytembadjfialenaa
