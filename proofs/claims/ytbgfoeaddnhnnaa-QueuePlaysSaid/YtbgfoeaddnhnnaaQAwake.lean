/- The statements' own example: it answers true, and leaves what was there as it was. No condition. -/
import Derived.Test.YtbgfoeaddnhnnaaQueueInt
namespace Go.Proofs.Ytbgfoeaddnhnnaa
open Go Go.RowKit

set_option maxHeartbeats 400000 in
theorem awake_any (w : World) : Calls Try.prog 8 #[] w fun e w' => e = .returned (.bool true) ∧ Upd [] w w' := by
  go_enter Try.func8, Try.ntmps8
  go_wp2_with fail
  refine (QI.new_yes w 2 2 rfl (by omega) (by omega)).mono ?_
  rintro e w1 ⟨rfl, hq1, hu1⟩
  go_wp2_with fail
  refine (QI.push_yes hq1 1 (by simp)).mono ?_
  rintro e w2 ⟨rfl, hq2, hu2⟩
  go_wp2_with fail
  refine (QI.push_yes hq2 2 (by simp)).mono ?_
  rintro e w3 ⟨rfl, hq3, hu3⟩
  go_wp2_with fail
  refine (QI.push_no hq3 3 (by simp)).mono ?_
  rintro e w4 ⟨rfl, hq4, hu4⟩
  go_wp2_with fail
  refine (QI.pop_yes (x := 1) (xs := [2]) hq4).mono ?_
  rintro e w5 ⟨rfl, hq5, hu5⟩
  go_wp2_with fail
  refine (QI.len hq5).mono ?_
  rintro e w6 ⟨rfl, rfl⟩
  go_wp2_with fail
  refine (QI.room hq5).mono ?_
  rintro e w6 ⟨rfl, q, rfl⟩
  go_wp2
  go_ret
  refine ⟨rfl, ?_⟩
  refine Upd.drewN ?_ q
  have h := hu2.next (hu3.next (hu4.next hu5))
  exact hu1.trans h (by simp)
end Go.Proofs.Ytbgfoeaddnhnnaa
