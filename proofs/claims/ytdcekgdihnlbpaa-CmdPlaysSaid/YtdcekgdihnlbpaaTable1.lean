/- The laws' 'of', a table's Epoch, and the laws' own example. No condition. -/
import Derived.Test.YtdcekgdihnlbpaaTable0
import Derived.Test.YtdcekgdihnlbpaaBoard5
namespace Go.Proofs.Ytdcekgdihnlbpaa
open Go Go.RowKit
set_option maxHeartbeats 400000

theorem of_any (ep : Int) (w : World) :
    Calls Try.prog 9 #[.int .u64 ep] w fun e w' => ∃ g m1 m2, e = .returned (.pointer (some ⟨g, 0, none⟩)) ∧ Blk w' g 81 #[.int .u64 ep, m1, m2] ∧ w.heap.size ≤ g ∧ Upd [] w w' := by
  go_enter Try.func9, Try.ntmps9
  go_wp2_with fail
  refine (make_nil ep w).mono ?_
  rintro e w1 ⟨g, m1, m2, rfl, hb, hg, hu⟩
  have HB := Lib.hid hb
  have HU := Lib.hid hu
  clear hb hu
  go_wp2
  go_ret
  exact ⟨g, m1, m2, rfl, HB.out, hg, HU.out⟩
theorem epoch_nil (w : World) : Calls Try.prog 16 #[.pointer none] w fun e w' => e = .returned (.int .u64 0) ∧ w = w' := by
  go_enter Try.func16, Try.ntmps16
  go_wp2
  go_ret
  exact ⟨rfl, rfl⟩
theorem epoch_any {w : World} {g : Nat} {ep : Int} {m1 m2 : Value} (hb : Blk w g 81 #[.int .u64 ep, m1, m2]) : Calls Try.prog 16 #[.pointer (some ⟨g, 0, none⟩)] w fun e w' => e = .returned (.int .u64 ep) ∧ w = w' := by
  have c0 : w.cell? ⟨g, 0, none⟩ = some (.int .u64 ep) := hb.cell 0
  clear hb
  go_enter Try.func16, Try.ntmps16
  go_wp2
  go_ret
  exact ⟨rfl, rfl⟩
/-- a table is not among a board's blocks -/
theorem IsB.apart {w : World} {B : Bd} {room : Nat} {tabs : List (List (Option Addr))} {acks : List (Int × Int)} {last : List Int} (h : IsB w B room tabs acks last) {g : Nat} {t : TypeId} {cs : Array Value} (hb : Blk w g t cs)
    (n1 : t ≠ 67) (n2 : t ≠ 68) (n3 : t ≠ 30) (n4 : t ≠ QA.tS) (n5 : t ≠ QA.tE) (n6 : t ≠ QT.tS) (n7 : t ≠ QT.tE) : g ∉ B.foot := by
  intro hs
  obtain ⟨⟨c3, t3⟩, ⟨c4, t4⟩⟩ := QA.tyS h.a
  obtain ⟨cur, htb⟩ := h.tbl.2
  have htb' : Blk w B.tb 68 cur := htb
  have hq : ∀ pr, pr ∈ B.prs → (∃ cs, Blk w pr.1 QT.tS cs) ∧ (∃ cs, Blk w pr.2 QT.tE cs) := fun pr hm => by
    obtain ⟨i, hi⟩ := List.getElem?_of_mem hm
    have hil := (List.getElem?_eq_some_iff.1 hi).1
    exact IsQ.tyS (h.q i pr _ hi (List.getElem?_eq_getElem (by rw [h.lt]; exact hil)))
  simp only [Bd.foot, List.mem_cons, List.mem_append] at hs
  rcases hs with rfl | rfl | rfl | rfl | rfl | hs | hs
  · exact hb.ne h.blk n1 rfl
  · exact hb.ne htb' n2 rfl
  · exact hb.ne h.l n3 rfl
  · exact hb.ne t3 n4 rfl
  · exact hb.ne t4 n5 rfl
  · obtain ⟨pr, hm, rfl⟩ := List.mem_map.1 hs
    obtain ⟨⟨c, hc⟩, _⟩ := hq pr hm
    exact hb.ne hc n6 rfl
  · obtain ⟨pr, hm, rfl⟩ := List.mem_map.1 hs
    obtain ⟨_, ⟨c, hc⟩⟩ := hq pr hm
    exact hb.ne hc n7 rfl
theorem IsB.tab {w : World} {B : Bd} {room : Nat} {tabs : List (List (Option Addr))} {acks : List (Int × Int)} {last : List Int} (h : IsB w B room tabs acks last) {g : Nat} {cs : Array Value} (hb : Blk w g 81 cs) : g ∉ B.foot :=
  h.apart hb (by decide) (by decide) (by decide) (by decide) (by decide) (by decide) (by decide)

set_option maxRecDepth 100000 in
set_option maxHeartbeats 2000000 in
theorem awake_any (w : World) : Calls Try.prog 7 #[] w fun e w' => e = .returned (.bool true) ∧ Upd [] w w' := by
  go_enter Try.func7, Try.ntmps7
  go_wp2_with fail
  refine (new_yes 2 1 w (by omega) (by omega) (by omega) (by omega)).mono ?_
  rintro e w1 ⟨B, rfl, hb1, hn, hnew, hu1⟩
  go_wp2_with fail
  refine (of_any 1 _).mono ?_
  rintro e w2 ⟨g1, m1, m1', rfl, ht1, hg1, hu2⟩
  have hb2 := hb1.more hu2
  go_wp2_with fail
  refine (send_yes hb2 ⟨g1, 0, none⟩ (by rfl)).mono ?_
  rintro e w3 ⟨rfl, hb3, hu3⟩
  have ht1 := ht1.upd hu3 (hb2.tab ht1)
  go_wp2_with fail
  refine (of_any 2 _).mono ?_
  rintro e w4 ⟨g2, m2, m2', rfl, ht2, hg2, hu4⟩
  have ht1 := ht1.upd hu4 (by simp)
  have hb4 := hb3.more hu4
  go_wp2_with fail
  refine (send_full hb4 ⟨g2, 0, none⟩ (by rfl)).mono ?_
  rintro e w5 ⟨rfl, hu5⟩
  have ht1 := ht1.upd hu5 (by simp)
  have hb5 := hb4.more hu5
  go_wp2_with fail
  refine (take_yes hb5 0 (some ⟨g1, 0, none⟩) [] (by rfl)).mono ?_
  rintro e w6 ⟨rfl, hb6, hu6⟩
  have ht1 := ht1.upd hu6 (hb5.tab ht1)
  go_wp2_with fail
  refine (take_yes hb6 1 (some ⟨g1, 0, none⟩) [] (by rfl)).mono ?_
  rintro e w7 ⟨rfl, hb7, hu7⟩
  have ht1 := ht1.upd hu7 (hb6.tab ht1)
  go_wp2_with fail
  refine (ack_yes hb7 0 1 (by omega) (by simp; omega)).mono ?_
  rintro e w8 ⟨rfl, hb8, hu8⟩
  have ht1 := ht1.upd hu8 (hb7.tab ht1)
  go_wp2_with fail
  refine (ack_yes hb8 1 1 (by omega) (by simp; omega)).mono ?_
  rintro e w9 ⟨rfl, hb9, hu9⟩
  have ht1 := ht1.upd hu9 (hb8.tab ht1)
  go_wp2_with fail
  refine (collect_yes _ _ hb9 0 rfl).mono ?_
  rintro e w10 ⟨rfl, hb10, hu10⟩
  have ht1 := ht1.upd hu10 (hb9.tab ht1)
  go_wp2_with fail
  refine (acked_any hb10).mono ?_
  rintro e w11 ⟨he, rfl⟩
  obtain rfl : e = .returned (.int .u64 0) := he
  go_wp2_with fail
  refine (collect_yes _ _ hb10 1 rfl).mono ?_
  rintro e w11 ⟨rfl, hb11, hu11⟩
  have ht1 := ht1.upd hu11 (hb10.tab ht1)
  have hu := hu3.next ((hu4.more (by simp)).next ((hu5.more (by simp)).next (hu6.next (hu7.next (hu8.next (hu9.next (hu10.next hu11)))))))
  have HU : Upd [] w w11 := by
    refine (hu1.next hu2).trans hu (fun t ht => .inr ?_)
    exact hnew t ht
  go_wp2_with fail
  refine (epoch_any ht1).mono ?_
  rintro e w12 ⟨rfl, rfl⟩
  go_wp2_with fail
  refine (acked_any hb11).mono ?_
  rintro e w12 ⟨he, rfl⟩
  obtain rfl : e = .returned (.int .u64 1) := he
  go_wp2
  go_ret
  exact ⟨rfl, HU⟩
end Go.Proofs.Ytdcekgdihnlbpaa
