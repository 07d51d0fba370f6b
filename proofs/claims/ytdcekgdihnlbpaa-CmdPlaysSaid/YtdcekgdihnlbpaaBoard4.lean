/- cmd's Send on a board. Conditions: as before; and of no board, or no table. -/
import Derived.Test.YtdcekgdihnlbpaaBoard3
namespace Go.Proofs.Ytdcekgdihnlbpaa
open Go Go.RowKit Go.Shelf
attribute [local go_sem] Oper.semAt_some
set_option maxHeartbeats 400000

section
variable {w : World} {B : Bd} {room : Nat} {tabs : List (List (Option Addr))} {acks : List (Int × Int)} {last : List Int}
theorem send_nil (t : Option Addr) (w : World) : Calls Try.prog 10 #[.pointer none, .pointer t] w fun e w' => e = .returned (.int .i64 1) ∧ Upd [] w w' := by
  go_enter Try.func10, Try.ntmps10
  go_wp2
  go_ret
  exact ⟨rfl, (Upd.refl _ _).alloc _⟩
theorem send_none (b : Nat) (w : World) : Calls Try.prog 10 #[.pointer (some ⟨b, 0, none⟩), .pointer none] w fun e w' => e = .returned (.int .i64 1) ∧ Upd [] w w' := by
  go_enter Try.func10, Try.ntmps10
  go_wp2
  go_ret
  exact ⟨rfl, (Upd.refl _ _).alloc _⟩
theorem send_full (h : IsB w B room tabs acks last) (a : Addr) (hr : hasRoom room tabs = false) :
    Calls Try.prog 10 #[.pointer (some ⟨B.b, 0, none⟩), .pointer (some a)] w fun e w' => e = .returned (.int .i64 20) ∧ Upd [] w w' := by
  have hc := room_any (h.more ((Upd.refl [] w).alloc (.cells #[.pointer (some a)] 28)))
  rw [hr] at hc
  have HC := Lib.hid hc
  clear h hc hr
  go_enter Try.func10, Try.ntmps10
  go_wp2_with fail
  refine HC.out.mono ?_
  rintro e w1 ⟨rfl, hu⟩
  have HU := Lib.hid hu
  clear hu
  go_wp2
  go_ret
  exact ⟨rfl, ((Upd.refl [] w).alloc _).next HU.out⟩

theorem IsB.footcells (h : IsB w B room tabs acks last) : ∀ s, s ∈ B.foot → ∃ cs t f, w.heap[s]? = some (.cells cs t f) := by
  intro s hs
  simp only [Bd.foot, List.mem_cons, List.mem_append] at hs
  obtain ⟨⟨c3, t3⟩, ⟨c4, t4⟩⟩ := QA.tyS h.a
  obtain ⟨cur, htb⟩ := h.tbl.2
  have hq : ∀ pr, pr ∈ B.prs → (∃ cs, Blk w pr.1 QT.tS cs) ∧ ∃ cs, Blk w pr.2 QT.tE cs := fun pr hm => by
    obtain ⟨i, hi⟩ := List.getElem?_of_mem hm
    have hil := (List.getElem?_eq_some_iff.1 hi).1
    exact IsQ.tyS (h.q i pr _ hi (List.getElem?_eq_getElem (by rw [h.lt]; exact hil)))
  rcases hs with rfl | rfl | rfl | rfl | rfl | hs | hs
  · exact ⟨_, _, _, h.blk⟩
  · exact ⟨_, _, _, htb⟩
  · exact ⟨_, _, _, h.l⟩
  · exact ⟨_, _, _, t3⟩
  · exact ⟨_, _, _, t4⟩
  · obtain ⟨pr, hm, rfl⟩ := List.mem_map.1 hs
    obtain ⟨⟨c, hc⟩, _⟩ := hq pr hm
    exact ⟨_, _, _, hc⟩
  · obtain ⟨pr, hm, rfl⟩ := List.mem_map.1 hs
    obtain ⟨_, ⟨c, hc⟩⟩ := hq pr hm
    exact ⟨_, _, _, hc⟩
theorem IsB.grown {w' : World} {row : Option Nat} (h : IsB w B room tabs acks last) (hg : w.grownBy w' row) (hr : ∀ r, row = some r → ∃ o : Obj, w.heap[r]? = some o ∧ o.isCells = false) : IsB w' B room tabs acks last :=
  h.upd (Upd.of_grown hg) (fun s hs hf => by
    obtain ⟨o, ho, hc⟩ := hr s (by simpa using hs)
    obtain ⟨cs, t, f, e⟩ := h.footcells s hf
    rw [ho] at e
    obtain rfl := Option.some.inj e
    cases hc)
theorem ownFrom_upd {β : Type} {S : List Nat} {B : Nat} {w₀ : World} (hB : w₀.heap.size ≤ B) : OwnFrom B (fun (_ : β) W => Upd S w₀ W) :=
  fun _ W W' row hs hg hr => ⟨hg.os.trans hs.os, hg.tape.trans hs.tape, hg.output.trans hs.output, Nat.le_trans hs.size hg.size, fun k hk hn =>
    (hg.block k (Nat.lt_of_lt_of_le hk hs.size) (fun e => by have := (hr k e.symm).1; omega)).trans (hs.block k hk hn)⟩

def pushed (tabs : List (List (Option Addr))) (k : Nat) (t : Option Addr) : List (List (Option Addr)) := (tabs.take k).map (· ++ [t]) ++ tabs.drop k
theorem pushed_zero (t : Option Addr) : pushed tabs 0 t = tabs := by simp [pushed]
theorem pushed_all (t : Option Addr) (k : Nat) (hk : tabs.length ≤ k) : pushed tabs k t = tabs.map (· ++ [t]) := by
  unfold pushed
  rw [List.take_of_length_le hk, List.drop_eq_nil_of_le hk, List.append_nil]
theorem pushed_at (t : Option Addr) (k : Nat) : (pushed tabs k t)[k]? = tabs[k]? := by
  unfold pushed
  by_cases hk : k < tabs.length
  · rw [List.getElem?_append_right (by simp; omega), List.length_map, List.length_take, Nat.min_eq_left (Nat.le_of_lt hk), Nat.sub_self, List.getElem?_drop, Nat.add_zero]
  · rw [List.drop_eq_nil_of_le (by omega), List.append_nil, List.getElem?_eq_none (by simp; omega), List.getElem?_eq_none (by omega)]
theorem pushed_step (t : Option Addr) (k : Nat) (xs : List (Option Addr)) (hx : tabs[k]? = some xs) : (pushed tabs k t).set k (xs ++ [t]) = pushed tabs (k + 1) t := by
  have hk := (List.getElem?_eq_some_iff.1 hx).1
  unfold pushed
  rw [List.take_add_one, hx, Option.toList_some, List.map_append, List.append_assoc, List.set_append_right _ _ (by simp; omega)]
  congr 1
  rw [List.length_map, List.length_take, Nat.min_eq_left (Nat.le_of_lt hk), Nat.sub_self, List.drop_eq_getElem_cons hk, List.set_cons_zero]
  rfl

/-- what has come when a prefix has come, and one more -/
theorem prefix_snoc {n : Nat} {pre : List (Fin n)} {x : Fin n} (h : pre ++ [x] <+: List.finRange n) : pre <+: List.finRange n ∧ x.1 = pre.length := by
  obtain ⟨r, hr⟩ := h
  refine ⟨⟨x :: r, by rw [← hr]; simp⟩, ?_⟩
  have h1 : (List.finRange n)[pre.length]? = some x := by rw [← hr]; simp
  have hl : pre.length < n := by have := (List.getElem?_eq_some_iff.1 h1).1; simpa using this
  rw [List.getElem?_eq_getElem (by simpa using hl), List.getElem_finRange] at h1
  have := Option.some.inj h1
  rw [← this]; rfl

set_option maxRecDepth 100000 in
set_option maxHeartbeats 2000000 in
theorem send_yes (h : IsB w B room tabs acks last) (a : Addr) (hr : hasRoom room tabs = true) :
    Calls Try.prog 10 #[.pointer (some ⟨B.b, 0, none⟩), .pointer (some a)] w fun e w' => e = .returned (.int .i64 0) ∧ IsB w' B room (tabs.map (· ++ [some a])) acks last ∧ Upd B.foot w w' := by
  have hc := room_any (h.more ((Upd.refl [] w).alloc (.cells #[.pointer (some a)] 28)))
  rw [hr] at hc
  have HC := Lib.hid hc
  have HH := Lib.hid h
  have HR := Lib.hid hr
  clear h hc hr
  refine (callsIn_wide (n := 5)).1 ?_
  refine callsIn_of_wp_marks Try.func10 rfl trivial ?_ rfl
  simp only [Try.ntmps10, List.size_toArray, List.length_cons, List.length_nil, Nat.reduceAdd, Nat.reduceSub, Array.replicate_succ, Array.replicate_zero, List.push_toArray, List.append_toArray, List.nil_append, List.cons_append]
  gi_wp2_with (refine ⟨trivial, ?_⟩; gi_at_call 24; refine (callsIn_wide.2 HC.out).mono ?_; rintro e w1 ⟨rfl, hu1⟩; have HU1 := Lib.hid hu1; clear hu1)
  gi_wp2_with (refine ⟨trivial, ?_⟩; gi_at_call 29; refine (all_in Fence.wide 4 trivial rfl B.b _).mono ?_; rintro e w' ⟨rfl, rfl⟩)
  have h := HH.out
  have hu1 : Upd [] w w1 := ((Upd.refl [] w).alloc _).next HU1.out
  have hu2 : Upd [] w (w1.alloc (.cells #[.pointer (some ⟨B.b, 0, none⟩)] 24)) := hu1.alloc _
  have h2 := h.more hu2
  have hlen := h.n4
  have hb := cell_new_b w1 (.pointer (some ⟨B.b, 0, none⟩)) 24
  have hs0 := (cell_new_b w (.pointer (some a)) 28).1
  have hs1 : w1.cell? ⟨w.heap.size, 0, none⟩ = some (.pointer (some a)) := (HU1.out.cell (p := ⟨w.heap.size, 0, none⟩) (by simp) (by simp)).trans hs0
  have hsz1 : w.heap.size + 1 ≤ w1.heap.size := by have := HU1.out.size; simpa using this
  have hrow : ∀ j : Fin B.prs.length, (w1.alloc (.cells #[.pointer (some ⟨B.b, 0, none⟩)] 24)).cell? ⟨B.tb, j.1, none⟩ = some (.pointer (some ⟨(B.prs[j.1]).1, 0, none⟩)) := fun j => h2.at (List.getElem?_eq_getElem j.2)
  have htl : tabs.length = B.prs.length := h.lt
  have hroom : ∀ (i : Nat) (xs : List (Option Addr)), tabs[i]? = some xs → xs.length < room := fun i xs hx => by
    have := List.all_eq_true.1 HR.out xs (List.mem_of_getElem? hx)
    simpa using this
  refine wpIn_rangeFunc_ownF rfl (by omega : 1 ≤ 5) (gf := 39) (lb := #[.pointer (some ⟨w1.heap.size, 0, none⟩)]) rfl trivial (enters_of Try.func39 (by kernel_rfl) rfl)
    (all_stops Fence.wide (5 - 1) trivial rfl (by omega) w1.heap.size B.b B.tb B.tc B.prs.length (fun j => (B.prs[j.1]).1) (by omega) _ hb.1 h2.cells.1 hrow (by simp) h2.blk.lt h2.tbl.1) kpT_t (kpT_b h2.tbl.1) (Below.refl _ _) (fun _ => rfl)
    (fun pre W => ((∃ tabs', IsB W B room tabs' acks last ∧ (pre <+: List.finRange B.prs.length → tabs' = pushed tabs pre.length (some a))) ∧ W.cell? ⟨w.heap.size, 0, none⟩ = some (.pointer (some a))) ∧ Upd B.foot w W)
    (fun _ _ _ => False)
    (OwnFrom.and (Own.from (fun s A' B' row hs hg hr => ⟨by obtain ⟨tabs', h1, h2⟩ := hs.1; exact ⟨tabs', h1.grown hg hr, h2⟩, cell_kept hs.2 hg hr⟩) _) (ownFrom_upd (by simp; omega)))
    (fun _ _ _ _ _ hs _ _ => hs)
    ⟨⟨⟨tabs, h2, fun _ => (pushed_zero _).symm⟩, cell_alloc_b _ hs1⟩, hu2.more (by simp)⟩
    (fun x => { tmps := #[.pointer (some ⟨B.b, 0, none⟩), .pointer (some a), undef, .pointer (some ⟨w.heap.size, 0, none⟩), .int .i64 0, .pointer (some ⟨(B.prs[x.1]).1, 0, none⟩), .bool false, .pointer (some ⟨B.b, 0, none⟩), .bool false, .bool false, .pointer (some a), .bool false, .bool false, .bool false, .pointer (some ⟨B.b, 0, none⟩), .bool true, .bool false, .pointer (some ⟨B.b, 0, none⟩), .func (.func 39) #[] #[.pointer (some ⟨w1.heap.size, 0, none⟩)], .pointer (some ⟨(B.prs[x.1]).1, 0, none⟩), undef, undef, undef], defers := [] }) ?assign ?body ?done ?stop
  case assign =>
    intro l x W K hK
    gi_wp2
    exact hK
  case body =>
    rintro l pre x W ⟨⟨⟨tabs', hI, hT⟩, hcw⟩, hU⟩ _
    have hp : B.prs[x.1]? = some B.prs[x.1] := List.getElem?_eq_getElem x.2
    obtain ⟨xs, hx⟩ : ∃ xs, tabs'[x.1]? = some xs := ⟨_, List.getElem?_eq_getElem (by rw [hI.lt]; exact x.2)⟩
    have hq := hI.q x.1 _ xs hp hx
    have HI := Lib.hid hI
    have HT := Lib.hid hT
    have HX := Lib.hid hx
    have HP := Lib.hid hp
    have HU := Lib.hid hU
    have HW := Lib.hid hcw
    have HRM := Lib.hid hroom
    have hwl : w.heap.size < W.heap.size := by have := hU.size; have := (cells_of_cell hcw); obtain ⟨o, ho, _⟩ := this; exact (Array.getElem?_eq_some_iff.1 ho).1
    have hnf : w.heap.size ∉ B.foot := fun hm => by have := h.footlt _ hm; omega
    have HNF := Lib.hid hnf
    obtain ⟨p, hpe⟩ : ∃ p, p = (B.prs[x.1]).1 := ⟨_, rfl⟩
    obtain ⟨r, hre⟩ : ∃ r, r = (B.prs[x.1]).2 := ⟨_, rfl⟩
    have HPE := Lib.hid hpe
    have HRE := Lib.hid hre
    rw [← hpe, ← hre] at hq
    rw [← hpe]
    have HQ := Lib.hid hq
    have hmem : ∀ s, s ∈ [p, r] → s ∈ B.foot := fun s hs => by
      have hm := List.mem_of_getElem? hp
      simp only [List.mem_cons, List.not_mem_nil, or_false] at hs
      simp only [Bd.foot, List.mem_cons, List.mem_append, List.mem_map]
      rcases hs with rfl | rfl
      · exact .inr (.inr (.inr (.inr (.inr (.inl ⟨_, hm, hpe.symm⟩)))))
      · exact .inr (.inr (.inr (.inr (.inr (.inr ⟨_, hm, hre.symm⟩)))))
    have HM := Lib.hid hmem
    have hKP : ∀ {W' : World}, Upd [p, r] W W' → KeepsOthers W W' ∧ KpT B.tb W W' := fun u => by
      refine ⟨keeps_upd u (fun s hs => hI.footcells s (hmem s hs)), ?_⟩
      obtain ⟨cur, htb⟩ := hI.tbl.2
      have htb' : Blk W B.tb 68 cur := htb
      obtain ⟨⟨c1, t1⟩, ⟨c2, t2⟩⟩ := IsQ.tyS hq
      exact u.block _ htb'.lt (by simp only [List.mem_cons, List.not_mem_nil, or_false, not_or]; exact ⟨htb'.ne t1 (by decide), htb'.ne t2 (by decide)⟩)
    have HKP : Hid (∀ {W' : World}, Upd [p, r] W W' → KeepsOthers W W' ∧ KpT B.tb W W') := hKP
    have hbd := IsQ.bound hq
    clear hI hT hx hp hU hroom hpe hre hq hmem hKP hnf hrow h h2 hu1 hu2 hs0 hs1
    by_cases hl : xs.length < room
    · have hc := Lib.hid (QT.push_yes HQ.out (some a) hl)
      gi_wp2_with (refine ⟨trivial, ?_⟩; gi_at_call 30; refine (CallsIn.inRound l (callsIn_wide.2 hc.out)).mono ?_; rintro e w' ⟨rfl, hq1, hu1⟩)
      have hk := HKP.out hu1
      refine ⟨hk.1, hk.2, ⟨⟨tabs'.set x.1 (xs ++ [some a]), HI.out.turn HP.out (by rw [← HPE.out, ← HRE.out]; exact hq1) (by rw [← HPE.out, ← HRE.out]; exact hu1), fun hpre => ?_⟩, (hu1.cell (p := ⟨w.heap.size, 0, none⟩) hwl (fun hm => HNF.out (HM.out _ hm))).trans HW.out⟩, HU.out.trans hu1 (fun t ht => .inl (HM.out t ht))⟩
      obtain ⟨h1, h2⟩ := prefix_snoc hpre
      have e1 := HT.out h1
      have hx2 := HX.out
      rw [e1, h2, pushed_at] at hx2
      rw [e1, h2, pushed_step (some a) _ _ hx2, List.length_append]; rfl
    · have hc := Lib.hid (QT.push_no HQ.out (some a) (by omega))
      gi_wp2_with (refine ⟨trivial, ?_⟩; gi_at_call 30; refine (CallsIn.inRound l (callsIn_wide.2 hc.out)).mono ?_; rintro e w' ⟨rfl, hq1, hu1⟩)
      have hk := HKP.out hu1
      refine ⟨hk.1, hk.2, ⟨⟨tabs'.set x.1 xs, HI.out.turn HP.out (by rw [← HPE.out, ← HRE.out]; exact hq1) (by rw [← HPE.out, ← HRE.out]; exact hu1), fun hpre => ?_⟩, (hu1.cell (p := ⟨w.heap.size, 0, none⟩) hwl (fun hm => HNF.out (HM.out _ hm))).trans HW.out⟩, HU.out.trans hu1 (fun t ht => .inl (HM.out t ht))⟩
      obtain ⟨h1, h2⟩ := prefix_snoc hpre
      have hx2 := HX.out
      rw [HT.out h1, h2, pushed_at] at hx2
      exact absurd (HRM.out _ _ hx2) hl
  case done =>
    rintro D ys W hD rfl ⟨⟨⟨tabs', hI, hT⟩, hcw⟩, hU⟩ hK
    gi_wp2
    refine ⟨by simp, .inl ⟨_, _, rfl, run_takeDeferred hK, ?_⟩⟩
    have e1 := hT (List.prefix_refl _)
    rw [List.length_finRange, pushed_all _ _ (by rw [htl]; exact Nat.le_refl _)] at e1
    subst e1
    have hg := grownBy_putObj' W D (.deferred none)
    have hr : ∀ r, some D = some r → ∃ o : Obj, W.heap[r]? = some o ∧ o.isCells = false := fun r e => by cases e; exact ⟨_, hK, rfl⟩
    refine ⟨_, results_tmp rfl _ _ _, rfl, hI.grown hg hr, ?_⟩
    exact ⟨hg.os.trans hU.os, hg.tape.trans hU.tape, hg.output.trans hU.output, Nat.le_trans hU.size hg.size, fun k hk hn => (hg.block k (Nat.lt_of_lt_of_le hk hU.size) (fun e => by cases e; simp at hD; omega)).trans (hU.block k hk hn)⟩
  case stop =>
    rintro D c pre W _ _ h _
    exact h.elim
end
end Go.Proofs.Ytdcekgdihnlbpaa
