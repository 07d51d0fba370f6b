/- table.Make of nothing, and the law's 'of'. No condition. -/
import Derived.Test.YtdcekgdihnlbpaaWords
import Derived.Test.YtdcekgdihnlbpaaRows
import Derived.Maps.OwnOps
import Derived.Deep.LoopGhost
namespace Go.Proofs.Ytdcekgdihnlbpaa
open Go Go.RowKit
set_option maxHeartbeats 400000

theorem run_len_m {P : Program} {t k e ty : TypeId} (ht : P.underlying t = some (.map k e)) {b : Nat} {es : Array MapEntry} {clock : Nat} {w : World} (hb : w.heap[b]? = some (.map es clock)) :
    (Builtin.len_ #[t] ty #[.map (some b)]).run P w = .ok (.int .i64 es.size) w := by
  simp [Builtin.len_, run_underlying ht, MapKept.run_getObj_map hb, goInt]
theorem obj_new (w : World) (o : Obj) : (w.alloc o).heap[w.heap.size]? = some o := heap_alloc_new w o
theorem obj_keep {w : World} {g : Nat} {o : Obj} (h : w.heap[g]? = some o) (o' : Obj) : (w.alloc o').heap[g]? = some o := (Below.heap_alloc w o' g (Array.getElem?_eq_some_iff.1 h).1).trans h

set_option maxRecDepth 100000 in
set_option maxHeartbeats 1000000 in
theorem make_nil (ep : Int) (w : World) :
    Calls Try.prog 28 #[.int .u64 ep, .slice none 0 0, .slice none 0 0] w fun e w' => ∃ g m1 m2, e = .returned (.tuple #[.pointer (some ⟨g, 0, none⟩), .int .i64 0]) ∧ Blk w' g 81 #[.int .u64 ep, m1, m2] ∧ w.heap.size ≤ g ∧ Upd [] w w' := by
  have hmm := @run_makeMap Try.prog
  obtain ⟨W, hW⟩ : ∃ W, W = (((((w.alloc (.map #[] 0)).alloc (.map #[] 0)).alloc (.cells #[.int .u64 ep, .map (some w.heap.size), .map (some (w.heap.size + 1))] 81)).alloc (.map #[] 0)).alloc (.map #[] 0)).alloc (.map #[] 0) := ⟨_, rfl⟩
  have m0 : W.heap[w.heap.size]? = some (.map #[] 0) := by rw [hW]; exact obj_keep (obj_keep (obj_keep (obj_keep (obj_keep (obj_new w _) _) _) _) _) _
  have m1 : W.heap[w.heap.size + 1]? = some (.map #[] 0) := by
    have := obj_new (w.alloc (.map #[] 0)) (.map #[] 0)
    rw [World.size_alloc] at this
    rw [hW]; exact obj_keep (obj_keep (obj_keep (obj_keep this _) _) _) _
  have m2 : Blk W (w.heap.size + 1 + 1) 81 #[.int .u64 ep, .map (some w.heap.size), .map (some (w.heap.size + 1))] := by
    have := obj_new ((w.alloc (.map #[] 0)).alloc (.map #[] 0)) (.cells #[.int .u64 ep, .map (some w.heap.size), .map (some (w.heap.size + 1))] 81)
    simp only [World.size_alloc] at this
    rw [hW]; exact obj_keep (obj_keep (obj_keep this _) _) _
  have m3 : W.heap[w.heap.size + 1 + 1 + 1]? = some (.map #[] 0) := by
    have := obj_new (((w.alloc (.map #[] 0)).alloc (.map #[] 0)).alloc (.cells #[.int .u64 ep, .map (some w.heap.size), .map (some (w.heap.size + 1))] 81)) (.map #[] 0)
    simp only [World.size_alloc] at this
    rw [hW]; exact obj_keep (obj_keep this _) _
  have m4 : W.heap[w.heap.size + 1 + 1 + 1 + 1]? = some (.map #[] 0) := by
    have := obj_new ((((w.alloc (.map #[] 0)).alloc (.map #[] 0)).alloc (.cells #[.int .u64 ep, .map (some w.heap.size), .map (some (w.heap.size + 1))] 81)).alloc (.map #[] 0)) (.map #[] 0)
    simp only [World.size_alloc] at this
    rw [hW]; exact obj_keep this _
  have m5 : W.heap[w.heap.size + 1 + 1 + 1 + 1 + 1]? = some (.map #[] 0) := by
    have := obj_new (((((w.alloc (.map #[] 0)).alloc (.map #[] 0)).alloc (.cells #[.int .u64 ep, .map (some w.heap.size), .map (some (w.heap.size + 1))] 81)).alloc (.map #[] 0)).alloc (.map #[] 0)) (.map #[] 0)
    simp only [World.size_alloc] at this
    rw [hW]; exact this
  have l0 := run_len_m (ty := 3) Try.underlying78 m0
  have l1 := run_len_m (ty := 3) Try.underlying79 m1
  have l3 := run_len_m (ty := 3) Try.underlying93 m3
  have l4 := run_len_m (ty := 3) Try.underlying93 m4
  have l5 := run_len_m (ty := 3) Try.underlying99 m5
  have hu : Upd [] w W := by rw [hW]; exact ((((((Upd.refl [] w).alloc _).alloc _).alloc _).alloc _).alloc _).alloc _
  have c1 := m2.cell 1
  have c2 := m2.cell 2
  simp only [List.getElem?_toArray, List.getElem?_cons_zero, List.getElem?_cons_succ, List.size_toArray, List.length_nil] at c1 c2 l0 l1 l3 l4 l5
  have HW := Lib.hid hW
  have HB := Lib.hid m2
  have HU := Lib.hid hu
  clear m0 m1 m2 m3 m4 m5 hW hu
  go_enter Try.func28, Try.ntmps28
  go_wp2
  refine wp_loop_rounds 1 ?_
  rw [rounds_succ]
  go_wp2
  rw [← HW.out]
  refine wp_loop_rounds 1 ?_
  rw [rounds_succ]
  go_wp2
  go_ret2
  exact ⟨_, _, _, rfl, HB.out, by omega, HU.out⟩
end Go.Proofs.Ytdcekgdihnlbpaa
