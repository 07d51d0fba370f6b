/- cmd's iterator over the shards' queues: its contract, for every loop body that keeps the row of the queues. Condition: the board holds a row of queues. -/
import Derived.RangeFuncNested
import Derived.RangeFuncBound
import Derived.RangeFuncCalls
import Derived.RangeFuncLeaves
import Derived.RangeFuncFrom
import Derived.RangeFuncBox
import Derived.Shelf.Abstract
import Derived.Shelf.RegionOpen
import Derived.OwnWalkIn
import Derived.TacticsInMore
import Derived.LoopNIn
import Derived.LoopIn
import Derived.Test.YtdcekgdihnlbpaaQueueTab
import Derived.Test.YtdcekgdihnlbpaaQueueA
namespace Go.Proofs.Ytdcekgdihnlbpaa
open Go Go.RowKit Go.Shelf
attribute [local go_sem] Oper.semAt_some
set_option maxHeartbeats 400000

theorem cell_new_b (W : World) (v : Value) (t : TypeId) : (W.alloc (.cells #[v] t)).cell? ⟨W.heap.size, 0, none⟩ = some v ∧ (W.alloc (.cells #[v] t)).frozen? ⟨W.heap.size, 0, none⟩ = false :=
  ⟨(Blk.new W t #[v]).cell 0, (Blk.new W t #[v]).frozen 0⟩
theorem cell_alloc_b {W : World} {a : Addr} {v : Value} (o : Obj) (h : W.cell? a = some v) : (W.alloc o).cell? a = some v := cell_kept h (World.grownBy_alloc W o none) (fun r e => by cases e)
theorem frozen_alloc_b {W : World} {a : Addr} {v : Value} (o : Obj) (h : W.cell? a = some v) (hf : W.frozen? a = false) : (W.alloc o).frozen? a = false := (frozen_kept h (World.grownBy_alloc W o none) (fun r e => by cases e)).trans hf

/-- what a round must keep: the row of the queues -/
def KpT (tb : Nat) (W W' : World) : Prop := W'.heap[tb]? = W.heap[tb]?
theorem kpT_t {tb : Nat} {A B C : World} (h : KpT tb A B) (k : KpT tb B C) : KpT tb A C := k.trans h
theorem kpT_b {tb : Nat} {w : World} (hn : tb < w.heap.size) (W : World) (l : Nat) (o o' : Obj) (hl : w.heap.size ≤ l) (_ : W.heap[l]? = some o) (_ : o.isCells = false) (_ : o.isWalk = false) : KpT tb W (W.putObj l o') :=
  World.putObj_heap_other (by omega)

theorem keeps_upd {S : List Nat} {W W' : World} (u : Upd S W W') (hS : ∀ s, s ∈ S → ∃ cs t f, W.heap[s]? = some (.cells cs t f)) : KeepsOthers W W' :=
  ⟨u.size, fun k o hk ho => by
    by_cases hs : k ∈ S
    · obtain ⟨cs, t, f, e⟩ := hS k hs
      rw [hk] at e
      obtain rfl := Option.some.inj e
      cases ho
    · exact (u.block k (Array.getElem?_eq_some_iff.1 hk).1 hs).trans hk⟩

set_option maxHeartbeats 1000000 in
theorem all_in (F : Fence) (n : Nat) (hf : F.fn 29) (hro : F.round = none) (b : Nat) (w : World) :
    CallsIn F n Try.prog 29 #[.pointer (some ⟨b, 0, none⟩)] w fun e w' => e = .returned (.func (.func 39) #[] #[.pointer (some ⟨w.heap.size, 0, none⟩)]) ∧ w' = w.alloc (.cells #[.pointer (some ⟨b, 0, none⟩)] 24) := by
  refine callsIn_of_wp Try.func29 rfl hf ?_ hro
  simp only [Try.ntmps29, List.size_toArray, List.length_cons, List.length_nil, Nat.reduceAdd, Nat.reduceSub, Array.replicate_succ, Array.replicate_zero, List.push_toArray, List.append_toArray, List.nil_append, List.cons_append]
  gi_wp2
  go_ret
  exact ⟨rfl, rfl⟩

set_option maxRecDepth 100000 in
set_option maxHeartbeats 2000000 in
theorem all1_in (F : Fence) (n : Nat) (hf : F.fn 39) (hro : F.round = none) (hn : 1 ≤ n) (l Bs b tb cap len : Nat) (f : Fin len → Nat) (J Jx : List (Fin len) → World → Prop)
    (hY : ∀ pre x W, J pre W → pre.length < len → YieldAt F (n - 1) Try.prog l #[.pointer (some ⟨f x, 0, none⟩)] W fun e W' =>
      (e = .returned (.bool true) ∧ J (pre ++ [x]) W' ∧ KpT tb W W') ∨ (e = .returned (.bool false) ∧ Jx (pre ++ [x]) W'))
    (hlen : len ≤ 1000)
    (W : World) (hBs : W.cell? ⟨Bs, 0, none⟩ = some (.pointer (some ⟨b, 0, none⟩))) (hb : W.cell? ⟨b, 0, none⟩ = some (.slice (some ⟨tb, 0, none⟩) len cap))
    (hc : ∀ j : Fin len, W.cell? ⟨tb, j.1, none⟩ = some (.pointer (some ⟨f j, 0, none⟩))) (h0 : J [] W) :
    CallsIn F n Try.prog 39 #[.func (.yield l) #[] #[], .pointer (some ⟨Bs, 0, none⟩)] W fun e W' => (∃ v, e = .returned v) ∧
      ((∃ ys, ys = List.finRange len ∧ J ys W') ∨ (∃ pre, pre <+: List.finRange len ∧ Jx pre W')) := by
  refine callsIn_of_wp Try.func39 rfl hf ?_ hro
  simp only [Try.ntmps39, List.size_toArray, List.length_cons, List.length_nil, Nat.reduceAdd, Nat.reduceSub, Array.replicate_succ, Array.replicate_zero, List.push_toArray, List.append_toArray, List.nil_append, List.cons_append]
  gi_wp2
  gi_loopw [10] (fun i wr => ∃ k : Nat, k ≤ len ∧ i = .int .i64 k ∧ J ((List.finRange len).take k) wr ∧ KpT tb W wr)
    (fun i _ => len - (intOf i).toNat)
  case atStart => exact ⟨0, Nat.zero_le _, rfl, h0, rfl⟩
  case round =>
    obtain ⟨k, hk, rfl, hJs, hkp⟩ := hrel
    by_cases hlt : k < len
    · obtain ⟨x, hxk⟩ : ∃ x : Fin len, x.1 = k := ⟨⟨k, hlt⟩, rfl⟩
      have hcx' : wr.cell? ⟨tb, k, none⟩ = some (.pointer (some ⟨f x, 0, none⟩)) := by
        have := hc x
        rw [hxk] at this
        exact (World.cell?_of_block (w := W) (show wr.heap[(⟨tb, k, none⟩ : Addr).block]? = W.heap[(⟨tb, k, none⟩ : Addr).block]? from hkp)).trans this
      obtain ⟨fn, tmps, assign, body, hy, hR⟩ := hY _ x wr hJs (by rw [List.length_take, List.length_finRange]; omega)
      have HT : Hid ((List.finRange len).take (k + 1) = (List.finRange len).take k ++ [x]) := by
        show _ = _
        have : k < (List.finRange len).length := by rw [List.length_finRange]; exact hlt
        rw [List.take_add_one, List.getElem?_eq_getElem this]
        have : (List.finRange len)[k] = x := by rw [List.getElem_finRange]; exact Fin.ext hxk.symm
        rw [this]; rfl
      have HK := Lib.hid hkp
      clear hkp hxk
      gi_wp2
      refine hR.mono ?_
      rintro e W3 (⟨rfl, hJ3, hk3⟩ | ⟨rfl, hJx3⟩)
      · gi_wp2
        go_roundw
        case rel => exact ⟨k + 1, by omega, by simp, by rw [HT.out]; exact hJ3, kpT_t HK.out hk3⟩
        case measure => simp [intOf]; omega
      · gi_wp2
        refine bodyPost_ret (results_none rfl _ _ _) rfl ?_
        exact ⟨⟨_, rfl⟩, .inr ⟨_, by rw [← HT.out]; exact List.take_prefix _ _, hJx3⟩⟩
    · obtain rfl : k = len := by omega
      gi_wp2
      go_end0
      exact ⟨⟨_, rfl⟩, .inl ⟨_, List.take_of_length_le (by rw [List.length_finRange]; exact Nat.le_refl _), hJs⟩⟩

/-- the iterator's contract -/
theorem all_stops (F : Fence) (n : Nat) (hf : F.fn 39) (hro : F.round = none) (hn : 1 ≤ n) (Bs b tb cap len : Nat) (f : Fin len → Nat) (hlen : len ≤ 1000) (w : World)
    (hBs : w.cell? ⟨Bs, 0, none⟩ = some (.pointer (some ⟨b, 0, none⟩))) (hb : w.cell? ⟨b, 0, none⟩ = some (.slice (some ⟨tb, 0, none⟩) len cap))
    (hc : ∀ j : Fin len, w.cell? ⟨tb, j.1, none⟩ = some (.pointer (some ⟨f j, 0, none⟩))) (l1 : Bs < w.heap.size) (l2 : b < w.heap.size) (l3 : tb < w.heap.size) :
    SeqStopsK F n Try.prog 39 #[.pointer (some ⟨Bs, 0, none⟩)] (fun x : Fin len => #[Value.pointer (some ⟨f x, 0, none⟩)]) (KpT tb) (fun ys => ys = List.finRange len) (fun pre => pre <+: List.finRange len) len w := fun l J Jx W hW _ _ hY h0 =>
  all1_in F n hf hro hn l Bs b tb cap len f J Jx hY hlen W ((hW.cell (p := ⟨Bs, 0, none⟩) l1).trans hBs) ((hW.cell (p := ⟨b, 0, none⟩) l2).trans hb) (fun j => (hW.cell (p := ⟨tb, j.1, none⟩) l3).trans (hc j)) h0
end Go.Proofs.Ytdcekgdihnlbpaa
