/- The document's board: New. Conditions: as before. -/
import Derived.Test.YtdcekgdihnlbpaaCRef
import Derived.Deep.RegionHeld3
import Derived.Deep.DrawnRows
namespace Go.Proofs.Ytdcekgdihnlbpaa
open Go Go.RowKit
set_option maxHeartbeats 400000

theorem infoS : (Try.prog.info? 39).map (fun i => (i.zero, i.size, i.bytes)) = some (some (.slice none 0 0), 1, 24) := by kernel_rfl
theorem infoV : (Try.prog.info? 30).map (fun i => (i.zero, i.size, i.bytes)) = some (some (.int .u64 0), 1, 8) := by kernel_rfl
theorem RowIn.nil (w : World) (lo : Nat) (k : IntKind) : RowIn w lo k ⟨none, 0, []⟩ := ⟨CellsIn.nil _ _ _ _ _, fun _ => ⟨rfl, rfl⟩, Nat.le_refl _, by simp⟩
theorem CellsIn.of_blk {w : World} {lo g n : Nat} {t : TypeId} {xs : List Value} (h : Blk w g t xs.toArray) (hl : lo ≤ g) (hx : xs.length = n) : CellsIn w lo w.heap.size 1 (some ⟨g, 0, none⟩) n xs :=
  ⟨by omega, fun _ => ⟨g, 0, rfl, hl, h.lt, fun j u hj => by rw [Nat.zero_add, h.cell j, List.getElem?_toArray]; exact hj⟩⟩

theorem rnew_fin {n k : Nat} {w W : World} {g1 g2 : Nat} (h1 : 1 ≤ n) (h4 : n ≤ 4) (hk1 : 1 ≤ k) (hk5 : k ≤ 5) (b1 : Blk W g1 39 (List.replicate n (Value.slice none 0 0)).toArray) (b2 : Blk W g2 30 (List.replicate n (Value.int .u64 0)).toArray)
    (l1 : w.heap.size ≤ g1) (l2 : w.heap.size ≤ g2) (u : Upd [] w W) : RB W w.heap.size n k (some ⟨g1, 0, none⟩) n (List.replicate n ⟨none, 0, []⟩) ⟨none, 0, []⟩ ⟨none, 0, []⟩ ⟨some ⟨g2, 0, none⟩, n, List.replicate n 0⟩ := by
  refine ⟨?_, List.length_replicate, fun r hr => ?_, RowIn.nil _ _ _, RowIn.nil _ _ _, ⟨?_, (fun h => by cases h), (by simp), (by dsimp only; omega)⟩, rfl, Nat.zero_le _, List.length_replicate, Nat.le_refl _, by omega, h1, h4, hk1, hk5, u.size⟩
  · rw [List.map_replicate]; exact CellsIn.of_blk b1 l1 List.length_replicate
  · obtain rfl := List.eq_of_mem_replicate hr; exact ⟨RowIn.nil _ _ _, Nat.zero_le _⟩
  · rw [List.map_replicate, List.length_replicate]; exact CellsIn.of_blk b2 l2 List.length_replicate
theorem three_blk (w : World) (a b c : Array Value) (s t u : TypeId) :
    Blk (((w.alloc (.cells a s)).alloc (.cells b t)).alloc (.cells c u)) w.heap.size s a ∧ Blk (((w.alloc (.cells a s)).alloc (.cells b t)).alloc (.cells c u)) (w.heap.size + 1) t b ∧
      Blk (((w.alloc (.cells a s)).alloc (.cells b t)).alloc (.cells c u)) (w.heap.size + 1 + 1) u c := by
  refine ⟨((Blk.new w s a).alloc _).alloc _, ?_, ?_⟩
  · have := (Blk.new (w.alloc (.cells a s)) t b).alloc (.cells c u)
    rwa [World.size_alloc] at this
  · have := Blk.new ((w.alloc (.cells a s)).alloc (.cells b t)) u c
    simpa only [World.size_alloc] using this

set_option maxHeartbeats 1000000 in
theorem rnew_any (n k : Nat) (w : World) (h1 : 1 ≤ n) (h4 : n ≤ 4) (hk1 : 1 ≤ k) (hk5 : k ≤ 5) :
    Calls Try.prog 13 #[.int .i64 n, .int .i64 k] w fun e w' => ∃ TA LA, e = .returned (.agg (bcells n k TA n ⟨none, 0, []⟩ ⟨none, 0, []⟩ ⟨LA, n, List.replicate n 0⟩)) ∧
      RB w' w.heap.size n k TA n (List.replicate n ⟨none, 0, []⟩) ⟨none, 0, []⟩ ⟨none, 0, []⟩ ⟨LA, n, List.replicate n 0⟩ ∧ Upd [] w w' := by
  have hmS := fun W : World => run_mk (P := Try.prog) 38 39 (.slice none 0 0) 24 Try.underlying38 infoS rfl n (by omega) (by omega) W
  have hmV := fun W : World => run_mk (P := Try.prog) 39 30 (.int .u64 0) 8 Try.underlying39 infoV rfl n (by omega) (by omega) W
  obtain ⟨zs, hzs⟩ : ∃ zs, zs = List.replicate n (Value.slice none 0 0) := ⟨_, rfl⟩
  obtain ⟨zv, hzv⟩ : ∃ zv, zv = List.replicate n (Value.int .u64 0) := ⟨_, rfl⟩
  rw [← hzs] at hmS
  rw [← hzv] at hmV
  have HZS := Lib.hid hzs
  have HZV := Lib.hid hzv
  clear hzs hzv
  go_enter Try.func13, Try.ntmps13
  go_upto_region 1 with fail
  go_region_held3 (fun _ => True) (trivial) (fail)
  all_goals go_wp2
  · obtain ⟨b0, b1, b2⟩ := three_blk w #[.slice (some ⟨w.heap.size + 1, 0, none⟩) n n, .slice none 0 0, .slice none 0 0, .slice (some ⟨w.heap.size + 1 + 1, 0, none⟩) n n, .int .i64 k] zs.toArray zv.toArray 41 39 30
    have c0 := (b0.drewN 1).cell 0
    have c1 := (b0.drewN 1).cell 1
    have c2 := (b0.drewN 1).cell 2
    have c3 := (b0.drewN 1).cell 3
    have c4 := (b0.drewN 1).cell 4
    simp only [List.getElem?_toArray, List.getElem?_cons_zero, List.getElem?_cons_succ] at c0 c1 c2 c3 c4
    rw [HZS.out, HZV.out] at b1 b2
    have hu := (((((Upd.refl [] w).alloc (.cells #[.slice (some ⟨w.heap.size + 1, 0, none⟩) n n, .slice none 0 0, .slice none 0 0, .slice (some ⟨w.heap.size + 1 + 1, 0, none⟩) n n, .int .i64 k] 41)).alloc (.cells zs.toArray 39)).alloc (.cells zv.toArray 30)).drewN 1)
    refine bodyPost_res (v := .agg #[.slice (some ⟨w.heap.size + 1, 0, none⟩) n n, .slice none 0 0, .slice none 0 0, .slice (some ⟨w.heap.size + 1 + 1, 0, none⟩) n n, .int .i64 k]) ?_ rfl ⟨some ⟨w.heap.size + 1, 0, none⟩, some ⟨w.heap.size + 1 + 1, 0, none⟩, ?_, ?_, hu⟩
    · simp [results, Try.results13, go_sem, c0, c1, c2, c3, c4]
    · simp only [bcells, List.length_replicate, List.length_nil]
    · rw [HZS.out, HZV.out] at hu ⊢
      exact rnew_fin h1 h4 hk1 hk5 (b1.drewN 1) (b2.drewN 1) (by omega) (by omega) hu
  · obtain ⟨b0, b1, b2⟩ := three_blk w #[.slice (some ⟨w.heap.size + 1 + 1, 0, none⟩) n n, .slice none 0 0, .slice none 0 0, .slice (some ⟨w.heap.size + 1, 0, none⟩) n n, .int .i64 k] zv.toArray zs.toArray 41 30 39
    have c0 := (b0.drewN 1).cell 0
    have c1 := (b0.drewN 1).cell 1
    have c2 := (b0.drewN 1).cell 2
    have c3 := (b0.drewN 1).cell 3
    have c4 := (b0.drewN 1).cell 4
    simp only [List.getElem?_toArray, List.getElem?_cons_zero, List.getElem?_cons_succ] at c0 c1 c2 c3 c4
    rw [HZV.out, HZS.out] at b1 b2
    have hu := (((((Upd.refl [] w).alloc (.cells #[.slice (some ⟨w.heap.size + 1 + 1, 0, none⟩) n n, .slice none 0 0, .slice none 0 0, .slice (some ⟨w.heap.size + 1, 0, none⟩) n n, .int .i64 k] 41)).alloc (.cells zv.toArray 30)).alloc (.cells zs.toArray 39)).drewN 1)
    refine bodyPost_res (v := .agg #[.slice (some ⟨w.heap.size + 1 + 1, 0, none⟩) n n, .slice none 0 0, .slice none 0 0, .slice (some ⟨w.heap.size + 1, 0, none⟩) n n, .int .i64 k]) ?_ rfl ⟨some ⟨w.heap.size + 1 + 1, 0, none⟩, some ⟨w.heap.size + 1, 0, none⟩, ?_, ?_, hu⟩
    · simp [results, Try.results13, go_sem, c0, c1, c2, c3, c4]
    · simp only [bcells, List.length_replicate, List.length_nil]
    · rw [HZV.out, HZS.out] at hu ⊢
      exact rnew_fin h1 h4 hk1 hk5 (b2.drewN 1) (b1.drewN 1) (by omega) (by omega) hu
end Go.Proofs.Ytdcekgdihnlbpaa
