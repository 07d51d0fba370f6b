/- The statements' own example: it answers true, and leaves what was there as it was. No condition. -/
import Derived.Test.YtembadjfialenaaPinsM
import Derived.Test.YtembadjfialenaaTail
namespace Go.Proofs.Ytembadjfialenaa
open Go Go.RowKit


set_option maxHeartbeats 400000 in
theorem awake_any (w : World) : Calls Try.prog 8 #[] w fun e w' => e = .returned (.bool true) ∧ Below w.heap.size w w' := by
  go_enter Try.func8, Try.ntmps8
  go_wp2_with fail
  refine (PA.new (Below.refl _ w) 1 (by omega) (by omega)).mono ?_
  rintro e w1 ⟨g, lw, rfl, hp1, hu1⟩
  have hp2 := (hp1.upd ((Upd.refl [] w1).alloc (.cells #[.int .i64 3, .int .u32 2] 33))).base (w1.heap.size + 1) (by omega) (by simp)
  have hB2 := Blk.new w1 33 #[.int .i64 3, .int .u32 2]
  obtain ⟨R, hR⟩ : ∃ R, R = w1.heap.size := ⟨_, rfl⟩
  have hRN : R < w1.heap.size + 1 := by omega
  have hgR : g < R := by rw [hR]; exact hp1.is.gN
  have hlR : lw < R := by rw [hR]; exact hp1.is.lN
  generalize w1.heap.size + 1 = N at hp2 hRN
  go_wp2_with fail
  rw [← hR] at hB2 ⊢
  clear hR hp1 hu1
  have hc := hp2.pin 0
  rw [show mPin (List.replicate 1 ⟨0, 0, false⟩) 0 = ([⟨0, 0, true⟩], 0, 0) from rfl] at hc
  refine hc.mono ?_
  clear hc
  rintro e w3 ⟨rfl, hp3, hu3⟩
  have hB3 := hB2.upd hu3 (by simp; omega)
  clear hp2 hB2 hu3
  dsimp only at hp3 ⊢
  go_wp2_with fail
  have hc := hp3.install 0 1
  rw [show mInstall [⟨0, 0, true⟩] 0 1 = ([⟨1, 0, true⟩], 0) from rfl] at hc
  refine hc.mono ?_
  clear hc
  rintro e w4 ⟨rfl, hp4, hu4⟩
  have hB4 := hB3.upd hu4 (by simp; omega)
  have d0 := hB4.cell 0
  have d1 := hB4.cell 1
  simp only [List.getElem?_toArray, List.getElem?_cons_zero, List.getElem?_cons_succ] at d0 d1
  clear hp3 hB3 hu4
  dsimp only at hp4 ⊢
  go_wp2_with fail
  have hc := hp4.retire 3 2 1
  rw [show mRetire [] ⟨3, 2, 1⟩ = ([⟨3, 2, 1⟩], 0) from rfl] at hc
  refine hc.mono ?_
  clear hc
  rintro e w5 ⟨rfl, wv5, hp5, hu5, _⟩
  have hB5 := hB4.upd hu5 (by simp [Value.ownBlock]; omega)
  clear hp4 hB4 hu5 d0 d1
  dsimp only at hp5 ⊢
  go_wp2_with fail
  have hc := hp5.sweep
  rw [show oldest [⟨1, 0, true⟩] = 0 from rfl, show [(⟨3, 2, 1⟩ : Wt)].filter (stay 0) = [⟨3, 2, 1⟩] from rfl, show [(⟨3, 2, 1⟩ : Wt)].flatMap (take1 0) = [] from rfl] at hc
  refine hc.mono ?_
  clear hc
  rintro e w6 ⟨rv, wv6, rfl, hp6, hob6, hr6, hu6⟩
  have hB6 := hB5.upd hu6 (fun hm => by
    rcases List.mem_cons.1 hm with e | e
    · omega
    · have := (hp5.is.foot (b := R) (by simpa using e)).1; omega)
  obtain ⟨A6, c6, rfl, _⟩ := ref_at hr6
  clear hp5 hB5 hu6 hr6 hob6
  go_wp2_with fail
  have hc := hp6.unpin 0
  rw [show mUnpin [⟨1, 0, true⟩] 0 = ([⟨1, 0, false⟩], 0) from rfl] at hc
  refine hc.mono ?_
  clear hc
  rintro e w7 ⟨rfl, hp7, hu7⟩
  have hB7 := hB6.upd hu7 (by simp; omega)
  clear hp6 hB6 hu7
  dsimp only at hp7 ⊢
  go_wp2_with fail
  have hc := hp7.sweep
  rw [show oldest [⟨1, 0, false⟩] = 1 from rfl, show [(⟨3, 2, 1⟩ : Wt)].filter (stay 1) = [] from rfl, show [(⟨3, 2, 1⟩ : Wt)].flatMap (take1 1) = [(3, 2)] from rfl] at hc
  refine hc.mono ?_
  clear hc
  rintro e w8 ⟨rv, wv8, rfl, hp8, hob8, hr8, hu8⟩
  have hB8 := hB7.upd hu8 (fun hm => by
    rcases List.mem_cons.1 hm with e | e
    · omega
    · have := (hp7.is.foot (b := R) (by simpa using e)).1; omega)
  obtain ⟨A8, c8, rfl, h8⟩ := ref_at hr8
  obtain ⟨b, x, rfl, _, hb8, hx, r0, r1⟩ := h8 0 (by simp)
  obtain rfl : ((3 : Int), (2 : Int)) = x := by simpa using hx
  have d0 := hB8.cell 0
  have d1 := hB8.cell 1
  simp only [List.getElem?_toArray, List.getElem?_cons_zero, List.getElem?_cons_succ] at d0 d1
  simp only [Nat.zero_mul, Nat.zero_add] at r0 r1
  have hc := fun q : Nat => Lib.hid ((hp8.drewN q).waiting)
  have hc2 := fun q : Nat => Lib.hid ((hp8.drewN q).oldest)
  clear hp7 hB7 hu8 hr8 hob8 hx h8 hB8 hp8
  dsimp only [List.length_cons, List.length_nil] at hc ⊢
  go_wp2_with fail
  refine wp_quiet_tail 42 (by kernel_rfl) (by kernel_rfl) (fun _ _ _ _ h => h) ?_
  simp only [List.take_succ_cons, List.take_zero, List.drop_succ_cons, List.drop_zero]
  repeat (go_big_quiet_step ((go_at_call 22; exact quiet_one ((hc _).out))))
  refine wpQuiet_nil ?_
  rintro _ ⟨nq, rfl⟩
  go_wp2_with fail
  refine (hc2 nq).out.mono ?_
  rintro e w9 ⟨rfl, hp9, _⟩
  rw [show oldest [⟨1, 0, false⟩] = 1 from rfl]
  have HB := Lib.hid hp9.below
  clear hp9
  go_wp2
  go_ret
  exact ⟨rfl, HB.out⟩
end Go.Proofs.Ytembadjfialenaa
