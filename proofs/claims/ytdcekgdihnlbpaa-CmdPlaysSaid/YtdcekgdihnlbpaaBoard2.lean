/- cmd's functions on a board: has, Queued, Take, Ack, Collect, Acks. Conditions: as before; and of no board. -/
import Derived.Test.YtdcekgdihnlbpaaBoard
namespace Go.Proofs.Ytdcekgdihnlbpaa
open Go Go.RowKit
set_option maxHeartbeats 400000

section
variable {w : World} {B : Bd} {room : Nat} {tabs : List (List (Option Addr))} {acks : List (Int × Int)} {last : List Int}
theorem has_nil (i : Int) (w : World) : Calls Try.prog 31 #[.pointer none, .int .i64 i] w fun e w' => e = .returned (.bool false) ∧ w = w' := by
  go_enter Try.func31, Try.ntmps31
  go_wp2
  go_ret
  exact ⟨rfl, rfl⟩
theorem has_no (h : IsB w B room tabs acks last) (i : Int) (hi : i < 0 ∨ (B.prs.length : Int) ≤ i) :
    Calls Try.prog 31 #[.pointer (some ⟨B.b, 0, none⟩), .int .i64 i] w fun e w' => e = .returned (.bool false) ∧ w = w' := by
  have c0 := h.cells.1
  have hn4 := h.n4
  clear h
  rcases hi with hi | hi
  · have hd : decide (0 ≤ i) = false := by simp; omega
    go_enter Try.func31, Try.ntmps31
    go_wp2
    go_ret
    exact ⟨rfl, rfl⟩
  · by_cases h0 : 0 ≤ i
    · have hd : decide (i < (B.prs.length : Int)) = false := by simp; omega
      go_enter Try.func31, Try.ntmps31
      go_wp2
      go_ret
      exact ⟨rfl, rfl⟩
    · omega
theorem has_yes (h : IsB w B room tabs acks last) (i : Nat) (hi : i < B.prs.length) :
    Calls Try.prog 31 #[.pointer (some ⟨B.b, 0, none⟩), .int .i64 i] w fun e w' => e = .returned (.bool true) ∧ w = w' := by
  have c0 := h.cells.1
  have hn4 := h.n4
  have h0 : (0 : Int) ≤ (i : Int) := by omega
  have h1 : (i : Int) < (B.prs.length : Int) := by omega
  clear h
  go_enter Try.func31, Try.ntmps31
  go_wp2
  go_ret
  exact ⟨by first | rfl | simp, rfl⟩

theorem queued_nil (i : Int) (w : World) : Calls Try.prog 12 #[.pointer none, .int .i64 i] w fun e w' => e = .returned (.int .i64 0) ∧ w = w' := by
  go_enter Try.func12, Try.ntmps12
  go_wp2_with fail
  refine (has_nil _ _).mono ?_
  rintro e w' ⟨rfl, rfl⟩
  go_wp2
  go_ret
  exact ⟨rfl, rfl⟩
theorem queued_no (h : IsB w B room tabs acks last) (i : Int) (hi : i < 0 ∨ (B.prs.length : Int) ≤ i) :
    Calls Try.prog 12 #[.pointer (some ⟨B.b, 0, none⟩), .int .i64 i] w fun e w' => e = .returned (.int .i64 0) ∧ w = w' := by
  have hh := Lib.hid (has_no h i hi)
  clear h hi
  go_enter Try.func12, Try.ntmps12
  go_wp2_with fail
  refine hh.out.mono ?_
  rintro e w' ⟨rfl, rfl⟩
  go_wp2
  go_ret
  exact ⟨rfl, rfl⟩
theorem queued_yes (h : IsB w B room tabs acks last) (i : Nat) (xs : List (Option Addr)) (hx : tabs[i]? = some xs) :
    Calls Try.prog 12 #[.pointer (some ⟨B.b, 0, none⟩), .int .i64 i] w fun e w' => e = .returned (.int .i64 xs.length) ∧ w = w' := by
  have hi : i < B.prs.length := by have := (List.getElem?_eq_some_iff.1 hx).1; have := h.lt; omega
  obtain ⟨pr, hp⟩ : ∃ pr, B.prs[i]? = some pr := ⟨_, List.getElem?_eq_getElem hi⟩
  have hh := Lib.hid (has_yes h i hi)
  have hq := Lib.hid (QT.len (h.q i pr xs hp hx))
  have c0 := h.cells.1
  have ca := h.at hp
  have hn4 := h.n4
  have h0 : (0 : Int) ≤ (i : Int) := by omega
  have h1 : (i : Int) < (B.prs.length : Int) := by omega
  clear h hx hp
  go_enter Try.func12, Try.ntmps12
  go_wp2_with fail
  refine hh.out.mono ?_
  rintro e w' ⟨rfl, rfl⟩
  go_wp2_with fail
  refine hq.out.mono ?_
  rintro e w' ⟨rfl, rfl⟩
  go_wp2
  go_ret
  exact ⟨rfl, rfl⟩

theorem take_nil (i : Int) (w : World) : Calls Try.prog 11 #[.pointer none, .int .i64 i] w fun e w' => e = .returned (.tuple #[.pointer none, .bool false]) ∧ w = w' := by
  go_enter Try.func11, Try.ntmps11
  go_wp2_with fail
  refine (has_nil _ _).mono ?_
  rintro e w' ⟨rfl, rfl⟩
  go_wp2
  go_ret2
  exact ⟨rfl, rfl⟩
theorem take_no (h : IsB w B room tabs acks last) (i : Int) (hi : i < 0 ∨ (B.prs.length : Int) ≤ i) :
    Calls Try.prog 11 #[.pointer (some ⟨B.b, 0, none⟩), .int .i64 i] w fun e w' => e = .returned (.tuple #[.pointer none, .bool false]) ∧ w = w' := by
  have hh := Lib.hid (has_no h i hi)
  clear h hi
  go_enter Try.func11, Try.ntmps11
  go_wp2_with fail
  refine hh.out.mono ?_
  rintro e w' ⟨rfl, rfl⟩
  go_wp2
  go_ret2
  exact ⟨rfl, rfl⟩
theorem take_none (h : IsB w B room tabs acks last) (i : Nat) (hx : tabs[i]? = some []) :
    Calls Try.prog 11 #[.pointer (some ⟨B.b, 0, none⟩), .int .i64 i] w fun e w' => e = .returned (.tuple #[.pointer none, .bool false]) ∧ w = w' := by
  have hi : i < B.prs.length := by have := (List.getElem?_eq_some_iff.1 hx).1; have := h.lt; omega
  obtain ⟨pr, hp⟩ : ∃ pr, B.prs[i]? = some pr := ⟨_, List.getElem?_eq_getElem hi⟩
  have hh := Lib.hid (has_yes h i hi)
  have hq := Lib.hid (QT.pop_no (h.q i pr [] hp hx))
  have c0 := h.cells.1
  have ca := h.at hp
  have hn4 := h.n4
  have h0 : (0 : Int) ≤ (i : Int) := by omega
  have h1 : (i : Int) < (B.prs.length : Int) := by omega
  clear h hx hp
  go_enter Try.func11, Try.ntmps11
  go_wp2_with fail
  refine hh.out.mono ?_
  rintro e w' ⟨rfl, rfl⟩
  go_wp2_with fail
  refine hq.out.mono ?_
  rintro e w' ⟨rfl, rfl⟩
  go_wp2
  go_ret2
  exact ⟨rfl, rfl⟩
theorem take_yes (h : IsB w B room tabs acks last) (i : Nat) (x : Option Addr) (xs : List (Option Addr)) (hx : tabs[i]? = some (x :: xs)) :
    Calls Try.prog 11 #[.pointer (some ⟨B.b, 0, none⟩), .int .i64 i] w fun e w' => e = .returned (.tuple #[.pointer x, .bool true]) ∧ IsB w' B room (tabs.set i xs) acks last ∧ Upd B.foot w w' := by
  have hi : i < B.prs.length := by have := (List.getElem?_eq_some_iff.1 hx).1; have := h.lt; omega
  obtain ⟨pr, hp⟩ : ∃ pr, B.prs[i]? = some pr := ⟨_, List.getElem?_eq_getElem hi⟩
  have hh := Lib.hid (has_yes h i hi)
  have hq := Lib.hid (QT.pop_yes (h.q i pr (x :: xs) hp hx))
  have c0 := h.cells.1
  have ca := h.at hp
  have hn4 := h.n4
  have h0 : (0 : Int) ≤ (i : Int) := by omega
  have h1 : (i : Int) < (B.prs.length : Int) := by omega
  have HB := Lib.hid h
  have HP := Lib.hid hp
  clear h hx hp
  go_enter Try.func11, Try.ntmps11
  go_wp2_with fail
  refine hh.out.mono ?_
  rintro e w' ⟨rfl, rfl⟩
  go_wp2_with fail
  refine hq.out.mono ?_
  rintro e w' ⟨rfl, hq1, hu⟩
  have HT := Lib.hid (HB.out.turn HP.out hq1 hu)
  have HU := Lib.hid (hu.more (T := B.foot) (fun s hs => by
    have hm := List.mem_of_getElem? HP.out
    simp only [List.mem_cons, List.not_mem_nil, or_false] at hs
    simp only [Bd.foot, List.mem_cons, List.mem_append, List.mem_map]
    rcases hs with rfl | rfl
    · exact .inr (.inr (.inr (.inr (.inr (.inl ⟨pr, hm, rfl⟩)))))
    · exact .inr (.inr (.inr (.inr (.inr (.inr ⟨pr, hm, rfl⟩)))))))
  clear hq1 hu
  go_wp2
  go_ret2
  exact ⟨rfl, HT.out, HU.out⟩

theorem ack_nil (i e0 : Int) (w : World) : Calls Try.prog 18 #[.pointer none, .int .i64 i, .int .u64 e0] w fun e w' => e = .returned (.int .i64 1) ∧ w = w' := by
  go_enter Try.func18, Try.ntmps18
  go_wp2_with fail
  refine (has_nil _ _).mono ?_
  rintro e w' ⟨rfl, rfl⟩
  go_wp2
  go_ret
  exact ⟨rfl, rfl⟩
theorem ack_no (h : IsB w B room tabs acks last) (i e0 : Int) (hi : i < 0 ∨ (B.prs.length : Int) ≤ i) :
    Calls Try.prog 18 #[.pointer (some ⟨B.b, 0, none⟩), .int .i64 i, .int .u64 e0] w fun e w' => e = .returned (.int .i64 1) ∧ w = w' := by
  have hh := Lib.hid (has_no h i hi)
  clear h hi
  go_enter Try.func18, Try.ntmps18
  go_wp2_with fail
  refine hh.out.mono ?_
  rintro e w' ⟨rfl, rfl⟩
  go_wp2
  go_ret
  exact ⟨rfl, rfl⟩
theorem foot_a : ∀ s, s ∈ [B.pa, B.ra] → s ∈ B.foot := by
  intro s hs
  simp only [List.mem_cons, List.not_mem_nil, or_false] at hs
  simp only [Bd.foot, List.mem_cons]
  rcases hs with rfl | rfl
  · exact .inr (.inr (.inr (.inl rfl)))
  · exact .inr (.inr (.inr (.inr (.inl rfl))))
theorem ack_full (h : IsB w B room tabs acks last) (i : Nat) (e0 : Int) (hi : i < B.prs.length) (hf : acks.length = B.prs.length * room) :
    Calls Try.prog 18 #[.pointer (some ⟨B.b, 0, none⟩), .int .i64 i, .int .u64 e0] w fun e w' => e = .returned (.int .i64 20) ∧ IsB w' B room tabs acks last ∧ Upd B.foot w w' := by
  have hh := Lib.hid (has_yes h i hi)
  have hq := Lib.hid (QA.push_no h.a (i, e0) hf)
  have c1 := h.cells.2.1
  have HB := Lib.hid h
  clear h hf
  go_enter Try.func18, Try.ntmps18
  go_wp2_with fail
  refine hh.out.mono ?_
  rintro e w' ⟨rfl, rfl⟩
  go_wp2_with fail
  refine hq.out.mono ?_
  rintro e w' ⟨rfl, hq1, hu⟩
  have HT := Lib.hid (HB.out.acked hq1 hu HB.out.ok)
  have HU := Lib.hid (hu.more foot_a)
  clear hq1 hu
  go_wp2
  go_ret
  exact ⟨rfl, HT.out, HU.out⟩
theorem ack_yes (h : IsB w B room tabs acks last) (i : Nat) (e0 : Int) (hi : i < B.prs.length) (hf : acks.length < B.prs.length * room) :
    Calls Try.prog 18 #[.pointer (some ⟨B.b, 0, none⟩), .int .i64 i, .int .u64 e0] w fun e w' => e = .returned (.int .i64 0) ∧ IsB w' B room tabs (acks ++ [((i : Int), e0)]) last ∧ Upd B.foot w w' := by
  have hh := Lib.hid (has_yes h i hi)
  have hq := Lib.hid (QA.push_yes h.a (i, e0) hf)
  have c1 := h.cells.2.1
  have HB := Lib.hid h
  clear h hf
  go_enter Try.func18, Try.ntmps18
  go_wp2_with fail
  refine hh.out.mono ?_
  rintro e w' ⟨rfl, rfl⟩
  go_wp2_with fail
  refine hq.out.mono ?_
  rintro e w' ⟨rfl, hq1, hu⟩
  have HT := Lib.hid (HB.out.acked hq1 hu (fun x hx => by
    rcases List.mem_append.1 hx with h1 | h1
    · exact HB.out.ok x h1
    · obtain rfl : x = ((i : Int), e0) := by simpa using h1
      exact ⟨i, rfl, hi⟩))
  have HU := Lib.hid (hu.more foot_a)
  clear hq1 hu
  go_wp2
  go_ret
  exact ⟨rfl, HT.out, HU.out⟩

theorem acks_nil (w : World) : Calls Try.prog 23 #[.pointer none] w fun e w' => e = .returned (.int .i64 0) ∧ w = w' := by
  go_enter Try.func23, Try.ntmps23
  go_wp2
  go_ret
  exact ⟨rfl, rfl⟩
theorem acks_any (h : IsB w B room tabs acks last) :
    Calls Try.prog 23 #[.pointer (some ⟨B.b, 0, none⟩)] w fun e w' => e = .returned (.int .i64 acks.length) ∧ w = w' := by
  have hq := Lib.hid (QA.len h.a)
  have c1 := h.cells.2.1
  clear h
  go_enter Try.func23, Try.ntmps23
  go_wp2_with fail
  refine hq.out.mono ?_
  rintro e w' ⟨rfl, rfl⟩
  go_wp2
  go_ret
  exact ⟨rfl, rfl⟩

theorem collect_nil (w : World) : Calls Try.prog 20 #[.pointer none] w fun e w' => e = .returned (.tuple #[.int .i64 0, .int .u64 0, .bool false]) ∧ w = w' := by
  go_enter Try.func20, Try.ntmps20
  go_wp2
  go_ret3
  exact ⟨rfl, rfl⟩
theorem collect_no (h : IsB w B room tabs [] last) :
    Calls Try.prog 20 #[.pointer (some ⟨B.b, 0, none⟩)] w fun e w' => e = .returned (.tuple #[.int .i64 0, .int .u64 0, .bool false]) ∧ IsB w' B room tabs [] last ∧ Upd B.foot w w' := by
  have hq := Lib.hid (QA.pop_no h.a)
  have c1 := h.cells.2.1
  have HB := Lib.hid h
  clear h
  go_enter Try.func20, Try.ntmps20
  go_wp2_with fail
  refine hq.out.mono ?_
  rintro e w1 ⟨rfl, hq1, hu⟩
  have HT := Lib.hid (HB.out.acked hq1 hu (by simp))
  have HU := Lib.hid (hu.more foot_a)
  clear hq1 hu
  go_wp2_with fail
  go_quiet (fail)
  go_wp2
  go_ret3
  exact ⟨rfl, HT.out.more (((Upd.refl [] w1).alloc _).drewN _), (HU.out.alloc _).drewN _⟩
theorem collect_yes (x : Int × Int) (xs : List (Int × Int)) (h : IsB w B room tabs (x :: xs) last) (i : Nat) (hxi : x.1 = i) :
    Calls Try.prog 20 #[.pointer (some ⟨B.b, 0, none⟩)] w fun e w' => e = .returned (.tuple #[.int .i64 i, .int .u64 x.2, .bool true]) ∧ IsB w' B room tabs xs (last.set i x.2) ∧ Upd B.foot w w' := by
  obtain ⟨x1, x2⟩ := x
  dsimp only at hxi ⊢
  subst hxi
  obtain ⟨j, hj, hil⟩ := h.ok _ (List.mem_cons.2 (.inl rfl))
  obtain rfl : i = j := by dsimp only at hj; omega
  have hq := Lib.hid (QA.pop_yes h.a)
  have c1 := h.cells.2.1
  have HB := Lib.hid h
  have hbl := h.blk.lt
  have h0 : (0 : Int) ≤ (i : Int) := by omega
  have h1 : (i : Int) < (B.prs.length : Int) := by omega
  clear h hj
  go_enter Try.func20, Try.ntmps20
  go_wp2_with fail
  refine hq.out.mono ?_
  rintro e w1 ⟨rfl, hq1, hu⟩
  have ht := HB.out.acked hq1 hu (fun y hy => HB.out.ok y (List.mem_cons.2 (.inr hy)))
  have d2 := ht.cells.2.2
  have hbw := ht.blk.lt
  have hlw := ht.l.lt
  have hfz := ht.l.frozen i
  have hlc : w1.cell? ⟨B.la, i, none⟩ = some (.int .u64 (last[i]?.getD 0)) := by
    have hil2 : i < last.length := by rw [ht.ll]; exact hil
    rw [ht.l.cell]; simp [List.getElem?_eq_getElem hil2]
  have hne1 : B.b ≠ w1.heap.size := by omega
  have hne2 : B.la ≠ w1.heap.size := by omega
  have HT := Lib.hid ht
  have HU := Lib.hid (hu.more foot_a)
  clear hq1 hu ht
  go_wp2_with fail
  refine wp_quiet_tail 9 (by kernel_rfl) (by kernel_rfl) (fun _ _ _ _ h => h) ?_
  simp only [List.take_succ_cons, List.take_zero, List.drop_succ_cons, List.drop_zero]
  repeat (go_big_quiet_step (fail))
  refine wpQuiet_nil ?_
  rintro _ ⟨nq, rfl⟩
  go_wp2_with fail
  go_quiet (fail)
  go_wp2
  go_ret3
  exact ⟨rfl, ((HT.out.more (((Upd.refl [] w1).alloc _).drewN _)).lasted i x2).more ((Upd.refl [] _).drewN _), (((HU.out.alloc _).drewN _).setCell (.inl (by simp [Bd.foot])) _).drewN _⟩
end
end Go.Proofs.Ytdcekgdihnlbpaa
