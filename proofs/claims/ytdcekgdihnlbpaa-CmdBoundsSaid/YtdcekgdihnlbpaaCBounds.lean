/- CmdBounds: the walk. -/
import Derived.Test.YtdcekgdihnlbpaaTable1
namespace Go.Proofs.Ytdcekgdihnlbpaa
open Go Go.RowKit
set_option maxHeartbeats 400000

set_option maxRecDepth 100000 in
set_option maxHeartbeats 2000000 in
theorem bounds_any (s r : Int) (w : World) :
    Calls Try.prog 5 #[.int .i64 s, .int .i64 r] w fun e w' => e = .returned (.bool true) ∧ Below w.heap.size w w' := by
  by_cases may : 1 ≤ s ∧ s ≤ 4 ∧ 1 ≤ r ∧ r ≤ 1000
  · obtain ⟨a1, a2, a3, a4⟩ := may
    obtain ⟨n, rfl⟩ : ∃ n : Nat, s = n := ⟨s.toNat, by omega⟩
    obtain ⟨k, rfl⟩ : ∃ k : Nat, r = k := ⟨r.toNat, by omega⟩
    have d1 : decide (1 ≤ (n : Int)) = true := by simpa using a1
    have d2 : decide ((n : Int) ≤ 4) = true := by simpa using a2
    have d3 : decide (1 ≤ (k : Int)) = true := by simpa using a3
    have d4 : decide ((k : Int) ≤ 1000) = true := by simpa using a4
    have n1 : 1 ≤ n := by omega
    have n4 : n ≤ 4 := by omega
    have k1 : 1 ≤ k := by omega
    have k4 : k ≤ 1000 := by omega
    go_enter Try.func5, Try.ntmps5
    go_wp2_with fail
    refine (awake_any w).mono ?_
    rintro e w1 ⟨rfl, hu1⟩
    go_wp2_with fail
    refine (new_yes n k w1 n1 n4 k1 k4).mono ?_
    rintro e w2 ⟨B, rfl, hb2, hn, hnew, hu2⟩
    go_wp2_with fail
    refine (room_any hb2).mono ?_
    rintro e w3 ⟨he, hu3⟩
    have hroom : hasRoom k (List.replicate n []) = true := hasRoom_yes (fun i xs h => by
      rw [List.getElem?_replicate] at h
      split at h
      · obtain rfl := Option.some.inj h; exact k1
      · cases h)
    rw [hroom] at he
    subst he
    have hb3 := hb2.more hu3
    go_wp2_with fail
    refine (acked_any hb3).mono ?_
    rintro e w4 ⟨he, rfl⟩
    have hmin : minL (List.replicate n 0) = 0 := by
      obtain rfl | rfl | rfl | rfl : n = 1 ∨ n = 2 ∨ n = 3 ∨ n = 4 := by omega
      all_goals rfl
    rw [hmin] at he
    subst he
    go_wp2_with fail
    refine (acks_any hb3).mono ?_
    rintro e w4 ⟨he, rfl⟩
    obtain rfl : e = .returned (.int .i64 0) := he
    go_wp2
    go_ret
    exact ⟨rfl, ((hu1.next hu2).next hu3).below (Nat.le_refl _) (by simp)⟩
  · have hno : s < 1 ∨ 4 < s ∨ r < 1 ∨ 1000 < r := by omega
    obtain h | ⟨h, h'⟩ | ⟨h, h', h''⟩ | ⟨h, h', h'', h3⟩ : (decide (1 ≤ s) = false) ∨ (decide (1 ≤ s) = true ∧ decide (s ≤ 4) = false) ∨ (decide (1 ≤ s) = true ∧ decide (s ≤ 4) = true ∧ decide (1 ≤ r) = false) ∨ (decide (1 ≤ s) = true ∧ decide (s ≤ 4) = true ∧ decide (1 ≤ r) = true ∧ decide (r ≤ 1000) = false) := by
      simp only [decide_eq_false_iff_not, decide_eq_true_eq]; omega
    all_goals
      clear may
      go_enter Try.func5, Try.ntmps5
      go_wp2_with fail
      refine (awake_any w).mono ?_
      rintro e w1 ⟨rfl, hu1⟩
      go_wp2_with fail
      refine (new_no s r w1 hno).mono ?_
      rintro e w2 ⟨rfl, rfl⟩
      clear hno
      go_wp2_with fail
      refine (take_nil 0 w1).mono ?_
      rintro e w2 ⟨rfl, rfl⟩
      go_wp2_with fail
      refine (collect_nil w1).mono ?_
      rintro e w2 ⟨rfl, rfl⟩
      go_wp2_with fail
      refine (of_any 1 w1).mono ?_
      rintro e w2 ⟨g, m1, m2, rfl, _, _, hu2⟩
      go_wp2_with fail
      refine (send_nil _ w2).mono ?_
      rintro e w3 ⟨rfl, hu3⟩
      go_wp2_with fail
      refine (ack_nil 0 1 w3).mono ?_
      rintro e w4 ⟨rfl, rfl⟩
      go_wp2_with fail
      refine (room_nil w3).mono ?_
      rintro e w4 ⟨rfl, hu4⟩
      go_wp2_with fail
      refine (acked_nil w4).mono ?_
      rintro e w5 ⟨rfl, rfl⟩
      go_wp2_with fail
      refine (acks_nil w4).mono ?_
      rintro e w5 ⟨rfl, rfl⟩
      go_wp2_with fail
      refine (queued_nil 0 w4).mono ?_
      rintro e w5 ⟨rfl, rfl⟩
      go_wp2
      go_ret
      exact ⟨rfl, (((hu1.next hu2).next hu3).next hu4).below (Nat.le_refl _) (by simp)⟩
end Go.Proofs.Ytdcekgdihnlbpaa
