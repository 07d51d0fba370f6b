/- QueueBounds: the walk; what the queue of nothing answers. -/
import Derived.Test.YtbgfoeaddnhnnaaQOwn
import Derived.Test.YtbgfoeaddnhnnaaQueueStr
namespace Go.Proofs.Ytbgfoeaddnhnnaa
open Go Go.RowKit
set_option maxHeartbeats 400000

theorem nil_room_i (w : World) : Calls Try.prog 12 #[.pointer none] w fun e w' => e = .returned (.int .i64 0) ∧ w = w' := by
  go_enter Try.func12, Try.ntmps12
  go_wp2
  go_ret
  exact ⟨rfl, rfl⟩
theorem nil_len_i (w : World) : Calls Try.prog 13 #[.pointer none] w fun e w' => e = .returned (.int .i64 0) ∧ w = w' := by
  go_enter Try.func13, Try.ntmps13
  go_wp2
  go_ret
  exact ⟨rfl, rfl⟩
theorem nil_push_i (x : Int) (w : World) : Calls Try.prog 10 #[.pointer none, .int .i64 x] w fun e w' => e = .returned (.bool false) ∧ w = w' := by
  go_enter Try.func10, Try.ntmps10
  go_wp2_with (go_at_call 12; refine (nil_room_i _).mono ?_; rintro e w' ⟨rfl, rfl⟩)
  go_ret
  exact ⟨rfl, rfl⟩
theorem nil_room_s (w : World) : Calls Try.prog 22 #[.pointer none] w fun e w' => e = .returned (.int .i64 0) ∧ w = w' := by
  go_enter Try.func22, Try.ntmps22
  go_wp2
  go_ret
  exact ⟨rfl, rfl⟩
theorem nil_len_s (w : World) : Calls Try.prog 21 #[.pointer none] w fun e w' => e = .returned (.int .i64 0) ∧ w = w' := by
  go_enter Try.func21, Try.ntmps21
  go_wp2
  go_ret
  exact ⟨rfl, rfl⟩
theorem nil_push_s (x : ByteArray) (w : World) : Calls Try.prog 20 #[.pointer none, .string x] w fun e w' => e = .returned (.bool false) ∧ w = w' := by
  go_enter Try.func20, Try.ntmps20
  go_wp2_with (go_at_call 22; refine (nil_room_s _).mono ?_; rintro e w' ⟨rfl, rfl⟩)
  go_ret
  exact ⟨rfl, rfl⟩
theorem nil_peek_s (w : World) : Calls Try.prog 19 #[.pointer none] w fun e w' => e = .returned (.tuple #[.string ByteArray.empty, .bool false]) ∧ w = w' := by
  go_enter Try.func19, Try.ntmps19
  go_wp2_with (go_at_call 21; refine (nil_len_s _).mono ?_; rintro e w' ⟨rfl, rfl⟩)
  go_ret2
  exact ⟨rfl, rfl⟩
theorem nil_pop_s (w : World) : Calls Try.prog 18 #[.pointer none] w fun e w' => e = .returned (.tuple #[.string ByteArray.empty, .bool false]) ∧ w = w' := by
  go_enter Try.func18, Try.ntmps18
  go_wp2_with (go_at_call 19; refine (nil_peek_s _).mono ?_; rintro e w' ⟨rfl, rfl⟩)
  go_ret2
  exact ⟨rfl, rfl⟩
theorem nil_all_s (w : World) : Calls Try.prog 23 #[.pointer none] w fun e w' => e = .returned (.slice none 0 0) ∧ w = w' := by
  go_enter Try.func23, Try.ntmps23
  go_wp2_with (go_at_call 21; refine (nil_len_s _).mono ?_; rintro e w' ⟨rfl, rfl⟩)
  refine wp_loop_rounds 1 ?_
  rw [rounds_succ]
  go_wp2
  go_ret
  exact ⟨rfl, rfl⟩

set_option maxHeartbeats 1000000 in
theorem bounds_any (room : Int) (A : Option Addr) (len cap : Nat) (l : List Int) (w : World) (hlen : len ≤ 9223372036854775807) (hll : l.length = len) (hl : Cells w w.heap.size 1 A len (l.map (Value.int .i64))) :
    Calls Try.prog 5 #[.int .i64 room, .slice A len cap] w fun e w' => e = .returned (.bool true) ∧ Below w.heap.size w w' := by
  have HL := Lib.hid hl
  have HLL := Lib.hid hll
  clear hl hll
  by_cases hbig : 100 < (len : Int)
  · go_enter Try.func5, Try.ntmps5
    go_wp2_with fail
    refine (awake_any w).mono ?_
    rintro e w1 ⟨rfl, hu1⟩
    go_wp2
    go_ret
    exact ⟨rfl, hu1.below (Nat.le_refl _) (by simp)⟩
  · by_cases hmay : 1 ≤ room ∧ room ≤ 4096
    · obtain ⟨m1, m2⟩ := hmay
      obtain ⟨m, rfl⟩ : ∃ m : Nat, room = m := ⟨room.toNat, by omega⟩
      go_enter Try.func5, Try.ntmps5
      go_wp2_with fail
      refine (awake_any w).mono ?_
      rintro e w1 ⟨rfl, hu1⟩
      go_wp2_with fail
      refine (QI.new_yes w1 m _ (by show _ = _; rfl) (by omega) (by omega)).mono ?_
      rintro e w2 ⟨rfl, hq2, hu2⟩
      obtain ⟨p, hp⟩ : ∃ p, p = w1.heap.size + 1 := ⟨_, rfl⟩
      obtain ⟨r, hr⟩ : ∃ r, r = w1.heap.size := ⟨_, rfl⟩
      rw [← hp, ← hr] at hq2
      rw [← hp]
      have hpB : w.heap.size ≤ p := by have := hu1.size; omega
      have hrB : w.heap.size ≤ r := by have := hu1.size; omega
      have hb2 : Below w.heap.size w w2 := (hu1.next hu2).below (Nat.le_refl _) (by simp)
      have HQ2 := Lib.hid hq2
      clear hp hr hq2 hu2 hu1
      go_wp2
      go_loopw [8, 9] (fun n i wr => ∃ k : Nat, k ≤ len ∧ i = .int .i64 k ∧ (∃ j : Nat, n = .int .i64 j ∧ j ≤ m ∧ j ≤ k ∧ (j < m → j = k) ∧ QI.Q wr p r m (l.take j)) ∧ Below w.heap.size w wr) (fun _ i _ => len - (intOf i).toNat)
      case atStart => exact ⟨0, Nat.zero_le _, rfl, ⟨0, rfl, Nat.zero_le _, Nat.zero_le _, fun _ => rfl, HQ2.out⟩, hb2⟩
      case round =>
        obtain ⟨k, hk, rfl, ⟨j, rfl, hjm, hjk, hj, hq⟩, hb⟩ := hrel
        have HJ := Lib.hid hj
        clear hj
        by_cases hlt : k < len
        · obtain ⟨b, off, rfl, hbB, hc⟩ := int_at HL.out k hlt
          have hkl : k < l.length := by rw [HLL.out]; exact hlt
          obtain ⟨x, hx⟩ : ∃ x, x = l[k] := ⟨_, rfl⟩
          have hcx := hc k hkl
          rw [← hx] at hcx
          have hcx' := (hb.cell (p := ⟨b, off + k, none⟩) hbB).trans hcx
          have HX := Lib.hid hx
          clear hc hcx hx
          by_cases hkm : k < m
          · have hjk' : j = k := by
              rcases Nat.lt_or_ge j m with h | h
              · exact HJ.out h
              · omega
            subst hjk'
            have hkm' : (j : Int) < (m : Int) := by omega
            have T1 : Hid (l.take j ++ [x] = l.take (j + 1)) := by show _ = _; rw [HX.out]; exact take_snoc l j hkl
            have L1 : (l.take j).length < m := by rw [List.length_take]; omega
            go_wp2_with fail
            refine (QI.push_yes hq x L1).mono ?_
            rintro e w4 ⟨rfl, hq4, hu4⟩
            have hb4 := hb.trans (hu4.below (B := w.heap.size) hb.size (by simp; omega))
            rw [T1.out] at hq4
            clear hcx'
            go_wp2
            go_roundw
            case rel => exact ⟨j + 1, by omega, by go_num, ⟨j + 1, by go_num, by omega, by omega, fun _ => rfl, hq4⟩, hb4⟩
            case measure => simp [intOf]; omega
          · have hjm' : j = m := by
              rcases Nat.lt_or_ge j m with h | h
              · have := HJ.out h; omega
              · omega
            subst hjm'
            have hkm' : ¬ (k : Int) < (j : Int) := by omega
            have L1 : Hid ((l.take j).length = j) := by show _ = _; rw [List.length_take]; omega
            go_wp2_with fail
            refine (QI.push_no hq x L1.out).mono ?_
            rintro e w4 ⟨rfl, hq4, hu4⟩
            have hb4 := hb.trans (hu4.below (B := w.heap.size) hb.size (by simp; omega))
            clear hcx'
            go_wp2
            go_roundw
            case rel => exact ⟨k + 1, by omega, by go_num, ⟨j, rfl, by omega, by omega, fun h => by omega, hq4⟩, hb4⟩
            case measure => simp [intOf]; omega
        · have L1 : Hid ((l.take j).length = j) := by show _ = _; rw [List.length_take, HLL.out]; omega
          have hlen1 := QI.len hq
          have hroom1 := QI.room hq
          rw [L1.out] at hlen1 hroom1
          have HLEN := Lib.hid hlen1
          have HROOM := Lib.hid hroom1
          clear hlen1 hroom1
          go_wp2_with fail
          refine HLEN.out.mono ?_
          rintro e w4 ⟨rfl, rfl⟩
          go_wp2_with fail
          refine HROOM.out.mono ?_
          rintro e w4 ⟨rfl, q4, rfl⟩
          go_wp2_with fail
          refine (nil_pop_s _).mono ?_
          rintro e w5 ⟨rfl, rfl⟩
          go_wp2_with fail
          refine (nil_peek_s _).mono ?_
          rintro e w5 ⟨rfl, rfl⟩
          go_wp2_with fail
          refine (nil_push_s _ _).mono ?_
          rintro e w5 ⟨rfl, rfl⟩
          go_wp2_with fail
          refine (nil_len_s _).mono ?_
          rintro e w5 ⟨rfl, rfl⟩
          go_wp2_with fail
          refine (nil_room_s _).mono ?_
          rintro e w5 ⟨rfl, rfl⟩
          go_wp2_with fail
          refine (nil_all_s _).mono ?_
          rintro e w5 ⟨rfl, rfl⟩
          go_wp2
          go_ret
          exact ⟨ret_bool (by simp), ⟨hb.os, hb.tape, hb.output, hb.size, hb.block⟩⟩
    · have hno : room < 1 ∨ 4096 < room := by omega
      go_enter Try.func5, Try.ntmps5
      go_wp2_with fail
      refine (awake_any w).mono ?_
      rintro e w1 ⟨rfl, hu1⟩
      have hb1 := hu1.below (Nat.le_refl _) (by simp)
      go_wp2_with fail
      refine (QI.new_no w1 _ hno).mono ?_
      rintro e w2 ⟨rfl, rfl⟩
      have hpick : (if 1 ≤ room then decide (room ≤ 4096) else false) = false := by
        split
        · simp; omega
        · rfl
      have hmB : (decide (1 ≤ room) && decide (room ≤ 4096)) = false := by
        rw [Bool.and_eq_false_iff]; simp; omega
      clear hpick
      obtain ⟨h1, h1', h2⟩ | ⟨h1, h1', h2⟩ : ((¬ 1 ≤ room) ∧ decide (1 ≤ room) = false ∧ True) ∨ ((1 ≤ room) ∧ decide (1 ≤ room) = true ∧ decide (room ≤ 4096) = false) := by
        rcases hno with hn | hn
        · exact .inl ⟨by omega, by simp; omega, trivial⟩
        · exact .inr ⟨by omega, by simp; omega, by simp; omega⟩
      all_goals
        clear hmB hno
        go_wp2
        go_loopw [8, 9] (fun n i wr => ∃ k : Nat, k ≤ len ∧ i = .int .i64 k ∧ n = .int .i64 0 ∧ w1 = wr) (fun _ i _ => len - (intOf i).toNat)
        case atStart => exact ⟨0, Nat.zero_le _, rfl, rfl, rfl⟩
        case round =>
          obtain ⟨k, hk, rfl, rfl, rfl⟩ := hrel
          by_cases hlt : k < len
          · obtain ⟨b, off, rfl, hbB, hc⟩ := int_at HL.out k hlt
            have hkl : k < l.length := by rw [HLL.out]; exact hlt
            have hcx' := (hb1.cell (p := ⟨b, off + k, none⟩) hbB).trans (hc k hkl)
            clear hc
            go_wp2_with fail
            refine (nil_push_i _ _).mono ?_
            rintro e w5 ⟨rfl, rfl⟩
            go_wp2
            go_roundw
            case rel =>
              refine ⟨k + 1, by omega, ?_, ?_, ?_⟩
              · go_num
              · rfl
              · first | rfl | trivial
            case measure => simp [intOf]; omega
          · go_wp2_with fail
            refine (nil_len_i _).mono ?_
            rintro e w5 ⟨rfl, rfl⟩
            go_wp2_with fail
            refine (nil_room_i _).mono ?_
            rintro e w5 ⟨rfl, rfl⟩
            go_wp2_with fail
            refine (nil_pop_s _).mono ?_
            rintro e w5 ⟨rfl, rfl⟩
            go_wp2_with fail
            refine (nil_peek_s _).mono ?_
            rintro e w5 ⟨rfl, rfl⟩
            go_wp2_with fail
            refine (nil_push_s _ _).mono ?_
            rintro e w5 ⟨rfl, rfl⟩
            go_wp2_with fail
            refine (nil_len_s _).mono ?_
            rintro e w5 ⟨rfl, rfl⟩
            go_wp2_with fail
            refine (nil_room_s _).mono ?_
            rintro e w5 ⟨rfl, rfl⟩
            go_wp2_with fail
            refine (nil_all_s _).mono ?_
            rintro e w5 ⟨rfl, rfl⟩
            go_wp2
            go_ret
            exact ⟨ret_bool (by simp), hb1⟩
end Go.Proofs.Ytbgfoeaddnhnnaa
