/- The document's 'Same', of a message of nothing but its type, with itself. No condition. (Written by wip/gen/rtcpsameo.py.) -/
import Derived.Test.YtgkejdjdccgjbaaOfO
namespace Go.Proofs.Ytgkejdjdccgjbaa
open Go Go.RowKit
set_option maxHeartbeats 400000

set_option maxRecDepth 100000 in
set_option maxHeartbeats 2000000 in
theorem same_other (w : World) (t : Int) : Calls Try.prog 21 #[.agg #[.int .i64 6, .int .u32 0, .int .u32 0, .int .u64 0, .int .u32 0, .int .u32 0, .int .u32 0, .slice none 0 0, .slice none 0 0, .slice none 0 0, .slice none 0 0, .int .u8 t], .agg #[.int .i64 6, .int .u32 0, .int .u32 0, .int .u64 0, .int .u32 0, .int .u32 0, .int .u32 0, .slice none 0 0, .slice none 0 0, .slice none 0 0, .slice none 0 0, .int .u8 t]] w fun e w' => e = .returned (.bool true) ∧ Upd [] w w' := by
  obtain ⟨W, hW⟩ : ∃ W, W = (w.alloc (.cells #[.int .i64 6, .int .u32 0, .int .u32 0, .int .u64 0, .int .u32 0, .int .u32 0, .int .u32 0, .slice none 0 0, .slice none 0 0, .slice none 0 0, .slice none 0 0, .int .u8 t] 50)).alloc (.cells #[.int .i64 6, .int .u32 0, .int .u32 0, .int .u64 0, .int .u32 0, .int .u32 0, .int .u32 0, .slice none 0 0, .slice none 0 0, .slice none 0 0, .slice none 0 0, .int .u8 t] 50) := ⟨_, rfl⟩
  have hU : Upd [] w W := by rw [hW]; exact ((Upd.refl [] w).alloc _).alloc _
  have hM : Blk W w.heap.size 50 #[.int .i64 6, .int .u32 0, .int .u32 0, .int .u64 0, .int .u32 0, .int .u32 0, .int .u32 0, .slice none 0 0, .slice none 0 0, .slice none 0 0, .slice none 0 0, .int .u8 t] := by rw [hW]; exact (Blk.new _ _ _).alloc _
  have hR : Blk W (w.heap.size + 1) 50 #[.int .i64 6, .int .u32 0, .int .u32 0, .int .u64 0, .int .u32 0, .int .u32 0, .int .u32 0, .slice none 0 0, .slice none 0 0, .slice none 0 0, .slice none 0 0, .int .u8 t] := by
    have := Blk.new (w.alloc (.cells #[.int .i64 6, .int .u32 0, .int .u32 0, .int .u64 0, .int .u32 0, .int .u32 0, .int .u32 0, .slice none 0 0, .slice none 0 0, .slice none 0 0, .slice none 0 0, .int .u8 t] 50)) 50 #[.int .i64 6, .int .u32 0, .int .u32 0, .int .u64 0, .int .u32 0, .int .u32 0, .int .u32 0, .slice none 0 0, .slice none 0 0, .slice none 0 0, .slice none 0 0, .int .u8 t]
    rw [World.size_alloc] at this
    rw [hW]; exact this
  have HU := Lib.hid hU
  go_enter Try.func21, Try.ntmps21
  go_upto_region 1 with fail
  rw [← hW]
  clear hW hU
  obtain ⟨R, hRe⟩ : ∃ R, R = w.heap.size + 1 := ⟨_, rfl⟩
  rw [← hRe] at hR
  try rw [← hRe]
  clear hRe
  obtain ⟨M, hMe⟩ : ∃ M, M = w.heap.size := ⟨_, rfl⟩
  rw [← hMe] at hM
  try rw [← hMe]
  clear hMe
  have g0 : W.cell? ⟨M, 0, none⟩ = some (.int .i64 6) := hM.cell 0
  have r0 : W.cell? ⟨R, 0, none⟩ = some (.int .i64 6) := hR.cell 0
  have g1 : W.cell? ⟨M, 1, none⟩ = some (.int .u32 0) := hM.cell 1
  have r1 : W.cell? ⟨R, 1, none⟩ = some (.int .u32 0) := hR.cell 1
  have g2 : W.cell? ⟨M, 2, none⟩ = some (.int .u32 0) := hM.cell 2
  have r2 : W.cell? ⟨R, 2, none⟩ = some (.int .u32 0) := hR.cell 2
  have g3 : W.cell? ⟨M, 3, none⟩ = some (.int .u64 0) := hM.cell 3
  have r3 : W.cell? ⟨R, 3, none⟩ = some (.int .u64 0) := hR.cell 3
  have g4 : W.cell? ⟨M, 4, none⟩ = some (.int .u32 0) := hM.cell 4
  have r4 : W.cell? ⟨R, 4, none⟩ = some (.int .u32 0) := hR.cell 4
  have g5 : W.cell? ⟨M, 5, none⟩ = some (.int .u32 0) := hM.cell 5
  have r5 : W.cell? ⟨R, 5, none⟩ = some (.int .u32 0) := hR.cell 5
  have g6 : W.cell? ⟨M, 6, none⟩ = some (.int .u32 0) := hM.cell 6
  have r6 : W.cell? ⟨R, 6, none⟩ = some (.int .u32 0) := hR.cell 6
  have g7 : W.cell? ⟨M, 7, none⟩ = some (.slice none 0 0) := hM.cell 7
  have r7 : W.cell? ⟨R, 7, none⟩ = some (.slice none 0 0) := hR.cell 7
  have g8 : W.cell? ⟨M, 8, none⟩ = some (.slice none 0 0) := hM.cell 8
  have r8 : W.cell? ⟨R, 8, none⟩ = some (.slice none 0 0) := hR.cell 8
  have g9 : W.cell? ⟨M, 9, none⟩ = some (.slice none 0 0) := hM.cell 9
  have r9 : W.cell? ⟨R, 9, none⟩ = some (.slice none 0 0) := hR.cell 9
  have g10 : W.cell? ⟨M, 10, none⟩ = some (.slice none 0 0) := hM.cell 10
  have r10 : W.cell? ⟨R, 10, none⟩ = some (.slice none 0 0) := hR.cell 10
  have g11 : W.cell? ⟨M, 11, none⟩ = some (.int .u8 t) := hM.cell 11
  have r11 : W.cell? ⟨R, 11, none⟩ = some (.int .u8 t) := hR.cell 11
  clear hM hR
  go_wp2
  go_loopg [5] 1 (fun gk x4 wr => x4 = .int .i64 0 ∧ wr = W)
  case atStart => exact ⟨rfl, rfl⟩
  case round =>
    obtain ⟨rfl, rfl⟩ := hrel
    go_wp2
    go_loopg [6] 1 (fun gk x4 wx => x4 = .int .i64 0 ∧ wx = wr)
    case atStart => exact ⟨rfl, rfl⟩
    case round =>
      obtain ⟨rfl, rfl⟩ := hrel
      go_wp2
      go_loopg [7] 1 (fun gk x4 wy => x4 = .int .i64 0 ∧ wy = wr)
      case atStart => exact ⟨rfl, rfl⟩
      case round =>
        obtain ⟨rfl, rfl⟩ := hrel
        go_wp2
        go_loopg [8] 1 (fun gk x4 wy => x4 = .int .i64 0 ∧ wy = wr)
        case atStart => exact ⟨rfl, rfl⟩
        case round =>
          obtain ⟨rfl, rfl⟩ := hrel
          go_wp2
          exact bodyPost_res (v := .bool true) (by simp [results, Try.results21, go_sem]) rfl ⟨rfl, HU.out⟩
end Go.Proofs.Ytgkejdjdccgjbaa
