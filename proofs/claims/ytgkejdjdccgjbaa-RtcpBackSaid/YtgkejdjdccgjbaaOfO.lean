/- The laws' 'of', and 'Same', of a message of nothing but its type. No condition. (Written by wip/gen/rtcpofo.py.) -/
import Derived.Test.YtgkejdjdccgjbaaRAwake
namespace Go.Proofs.Ytgkejdjdccgjbaa
open Go Go.RowKit
set_option maxHeartbeats 400000

theorem upd12 {S : List Nat} {a w : World} (g : Nat) (v0 v1 v2 v3 v4 v5 v6 v7 v8 v9 v10 v11 : Value) (h : Upd S a w) (hg : g ∈ S ∨ a.heap.size ≤ g) : Upd S a ((((((((((((w.setCell ⟨g, 0, none⟩ v0).setCell ⟨g, 1, none⟩ v1).setCell ⟨g, 2, none⟩ v2).setCell ⟨g, 3, none⟩ v3).setCell ⟨g, 4, none⟩ v4).setCell ⟨g, 5, none⟩ v5).setCell ⟨g, 6, none⟩ v6).setCell ⟨g, 7, none⟩ v7).setCell ⟨g, 8, none⟩ v8).setCell ⟨g, 9, none⟩ v9).setCell ⟨g, 10, none⟩ v10).setCell ⟨g, 11, none⟩ v11) :=
  set12_upd g _ _ _ _ _ _ _ _ _ _ _ _ h hg
set_option maxRecDepth 100000 in
set_option maxHeartbeats 2000000 in
theorem of_other (w : World) (t : Int) : Calls Try.prog 20 #[.agg #[.int .i64 6, .int .u32 0, .int .u32 0, .int .u64 0, .int .u32 0, .int .u32 0, .int .u32 0, .slice none 0 0, .slice none 0 0, .slice none 0 0, .slice none 0 0, .int .u8 t]] w fun e w' => e = .returned (.agg #[.int .i64 6, .int .u32 0, .int .u32 0, .int .u64 0, .int .u32 0, .int .u32 0, .int .u32 0, .slice none 0 0, .slice none 0 0, .slice none 0 0, .slice none 0 0, .int .u8 t]) ∧ Upd [] w w' := by
  obtain ⟨W, hW⟩ : ∃ W, W = ((w.alloc (.cells #[.int .i64 6, .int .u32 0, .int .u32 0, .int .u64 0, .int .u32 0, .int .u32 0, .int .u32 0, .slice none 0 0, .slice none 0 0, .slice none 0 0, .slice none 0 0, .int .u8 t] 59)).alloc (.cells #[.int .i64 0, .int .u32 0, .int .u32 0, .int .u64 0, .int .u32 0, .int .u32 0, .int .u32 0, .slice none 0 0, .slice none 0 0, .slice none 0 0, .slice none 0 0, .int .u8 0] 50)).alloc (.cells #[.int .i64 6, .int .u32 0, .int .u32 0, .int .u64 0, .int .u32 0, .int .u32 0, .int .u32 0, .slice none 0 0, .slice none 0 0, .slice none 0 0, .slice none 0 0, .int .u8 t] 50) := ⟨_, rfl⟩
  have hU : Upd [] w W := by rw [hW]; exact (((Upd.refl [] w).alloc _).alloc _).alloc _
  have hM : Blk W w.heap.size 59 #[.int .i64 6, .int .u32 0, .int .u32 0, .int .u64 0, .int .u32 0, .int .u32 0, .int .u32 0, .slice none 0 0, .slice none 0 0, .slice none 0 0, .slice none 0 0, .int .u8 t] := by rw [hW]; exact ((Blk.new _ _ _).alloc _).alloc _
  have hR : Blk W (w.heap.size + 1) 50 #[.int .i64 0, .int .u32 0, .int .u32 0, .int .u64 0, .int .u32 0, .int .u32 0, .int .u32 0, .slice none 0 0, .slice none 0 0, .slice none 0 0, .slice none 0 0, .int .u8 0] := by
    have := Blk.new (w.alloc (.cells #[.int .i64 6, .int .u32 0, .int .u32 0, .int .u64 0, .int .u32 0, .int .u32 0, .int .u32 0, .slice none 0 0, .slice none 0 0, .slice none 0 0, .slice none 0 0, .int .u8 t] 59)) 50 #[.int .i64 0, .int .u32 0, .int .u32 0, .int .u64 0, .int .u32 0, .int .u32 0, .int .u32 0, .slice none 0 0, .slice none 0 0, .slice none 0 0, .slice none 0 0, .int .u8 0]
    rw [World.size_alloc] at this
    rw [hW]; exact this.alloc _
  have hG : Blk W (w.heap.size + 1 + 1) 50 #[.int .i64 6, .int .u32 0, .int .u32 0, .int .u64 0, .int .u32 0, .int .u32 0, .int .u32 0, .slice none 0 0, .slice none 0 0, .slice none 0 0, .slice none 0 0, .int .u8 t] := by
    have := Blk.new ((w.alloc (.cells #[.int .i64 6, .int .u32 0, .int .u32 0, .int .u64 0, .int .u32 0, .int .u32 0, .int .u32 0, .slice none 0 0, .slice none 0 0, .slice none 0 0, .slice none 0 0, .int .u8 t] 59)).alloc (.cells #[.int .i64 0, .int .u32 0, .int .u32 0, .int .u64 0, .int .u32 0, .int .u32 0, .int .u32 0, .slice none 0 0, .slice none 0 0, .slice none 0 0, .slice none 0 0, .int .u8 0] 50)) 50 #[.int .i64 6, .int .u32 0, .int .u32 0, .int .u64 0, .int .u32 0, .int .u32 0, .int .u32 0, .slice none 0 0, .slice none 0 0, .slice none 0 0, .slice none 0 0, .int .u8 t]
    rw [World.size_alloc, World.size_alloc] at this
    rw [hW]; exact this
  have hle : w.heap.size ≤ w.heap.size + 1 := Nat.le_succ _
  have HU := Lib.hid hU
  have HLE := Lib.hid hle
  go_enter Try.func20, Try.ntmps20
  go_upto_region 2 with fail
  rw [← hW]
  clear hW hU hle
  obtain ⟨G, hGe⟩ : ∃ G, G = w.heap.size + 1 + 1 := ⟨_, rfl⟩
  obtain ⟨R, hRe⟩ : ∃ R, R = w.heap.size + 1 := ⟨_, rfl⟩
  have hRG : R ≠ G := by omega
  rw [← hGe] at hG
  rw [← hRe] at hR
  rw [← hRe] at HLE
  try rw [← hGe]
  try rw [← hRe]
  clear hGe hRe
  obtain ⟨M, hMe⟩ : ∃ M, M = w.heap.size := ⟨_, rfl⟩
  rw [← hMe] at hM
  try rw [← hMe]
  clear hMe
  have m7 : W.cell? ⟨M, 7, none⟩ = some (.slice none 0 0) := hM.cell 7
  have m9 : W.cell? ⟨M, 9, none⟩ = some (.slice none 0 0) := hM.cell 9
  have m10 : W.cell? ⟨M, 10, none⟩ = some (.slice none 0 0) := hM.cell 10
  have g0 : W.cell? ⟨G, 0, none⟩ = some (.int .i64 6) := hG.cell 0
  have r0 : W.cell? ⟨R, 0, none⟩ = some (.int .i64 0) := hR.cell 0
  have f0 := hR.frozen 0
  have g1 : W.cell? ⟨G, 1, none⟩ = some (.int .u32 0) := hG.cell 1
  have r1 : W.cell? ⟨R, 1, none⟩ = some (.int .u32 0) := hR.cell 1
  have f1 := hR.frozen 1
  have g2 : W.cell? ⟨G, 2, none⟩ = some (.int .u32 0) := hG.cell 2
  have r2 : W.cell? ⟨R, 2, none⟩ = some (.int .u32 0) := hR.cell 2
  have f2 := hR.frozen 2
  have g3 : W.cell? ⟨G, 3, none⟩ = some (.int .u64 0) := hG.cell 3
  have r3 : W.cell? ⟨R, 3, none⟩ = some (.int .u64 0) := hR.cell 3
  have f3 := hR.frozen 3
  have g4 : W.cell? ⟨G, 4, none⟩ = some (.int .u32 0) := hG.cell 4
  have r4 : W.cell? ⟨R, 4, none⟩ = some (.int .u32 0) := hR.cell 4
  have f4 := hR.frozen 4
  have g5 : W.cell? ⟨G, 5, none⟩ = some (.int .u32 0) := hG.cell 5
  have r5 : W.cell? ⟨R, 5, none⟩ = some (.int .u32 0) := hR.cell 5
  have f5 := hR.frozen 5
  have g6 : W.cell? ⟨G, 6, none⟩ = some (.int .u32 0) := hG.cell 6
  have r6 : W.cell? ⟨R, 6, none⟩ = some (.int .u32 0) := hR.cell 6
  have f6 := hR.frozen 6
  have g7 : W.cell? ⟨G, 7, none⟩ = some (.slice none 0 0) := hG.cell 7
  have r7 : W.cell? ⟨R, 7, none⟩ = some (.slice none 0 0) := hR.cell 7
  have f7 := hR.frozen 7
  have g8 : W.cell? ⟨G, 8, none⟩ = some (.slice none 0 0) := hG.cell 8
  have r8 : W.cell? ⟨R, 8, none⟩ = some (.slice none 0 0) := hR.cell 8
  have f8 := hR.frozen 8
  have g9 : W.cell? ⟨G, 9, none⟩ = some (.slice none 0 0) := hG.cell 9
  have r9 : W.cell? ⟨R, 9, none⟩ = some (.slice none 0 0) := hR.cell 9
  have f9 := hR.frozen 9
  have g10 : W.cell? ⟨G, 10, none⟩ = some (.slice none 0 0) := hG.cell 10
  have r10 : W.cell? ⟨R, 10, none⟩ = some (.slice none 0 0) := hR.cell 10
  have f10 := hR.frozen 10
  have g11 : W.cell? ⟨G, 11, none⟩ = some (.int .u8 t) := hG.cell 11
  have r11 : W.cell? ⟨R, 11, none⟩ = some (.int .u8 0) := hR.cell 11
  have f11 := hR.frozen 11
  clear hM hR hG
  go_wp2
  go_loopg [4] 1 (fun gk x4 wr => x4 = .int .i64 0 ∧ wr = W)
  case atStart => exact ⟨rfl, rfl⟩
  case round =>
    obtain ⟨rfl, rfl⟩ := hrel
    go_wp2
    go_loopg [6] 1 (fun gk x4 wx => x4 = .int .i64 0 ∧ wx = wr)
    case atStart => exact ⟨rfl, rfl⟩
    case round =>
      obtain ⟨rfl, rfl⟩ := hrel
      go_wp2
      go_loopg [7] 1 (fun gk x4 wy => x4 = .int .i64 0 ∧ wy = wr)
      case atStart => exact ⟨rfl, rfl⟩
      case round =>
        obtain ⟨rfl, rfl⟩ := hrel
        go_wp2
        refine bodyPost_res (v := .agg #[.int .i64 6, .int .u32 0, .int .u32 0, .int .u64 0, .int .u32 0, .int .u32 0, .int .u32 0, .slice none 0 0, .slice none 0 0, .slice none 0 0, .slice none 0 0, .int .u8 t]) (by simp [results, Try.results20, go_sem, r0, f0, r1, f1, r2, f2, r3, f3, r4, f4, r5, f5, r6, f6, r7, f7, r8, f8, r9, f9, r10, f10, r11, f11]) rfl ⟨rfl, ?_⟩
        first
          | exact (upd12 R _ _ _ _ _ _ _ _ _ _ _ _ HU.out (.inr HLE.out))
          | trace_state
end Go.Proofs.Ytgkejdjdccgjbaa
