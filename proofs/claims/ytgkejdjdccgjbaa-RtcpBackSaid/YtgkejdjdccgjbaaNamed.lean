/- The laws' 'named': a message without what its kind does not name. No condition. (Written by wip/gen/rtcpnamed.py.) -/
import Derived.Test.YtgkejdjdccgjbaaRAwake
namespace Go.Proofs.Ytgkejdjdccgjbaa
open Go Go.RowKit
set_option maxHeartbeats 400000

set_option maxRecDepth 100000 in
set_option maxHeartbeats 2000000 in
theorem named_0 (w : World) (m1 m2 m3 m4 m5 m6 ty : Int) (rA wA pA aA : Option Addr) (rn rc wn wc pn pc an ac : Nat) : Calls Try.prog 19 #[.agg #[.int .i64 0, .int .u32 m1, .int .u32 m2, .int .u64 m3, .int .u32 m4, .int .u32 m5, .int .u32 m6, .slice rA rn rc, .slice wA wn wc, .slice pA pn pc, .slice aA an ac, .int .u8 ty]] w fun e w' => e = .returned (.agg #[.int .i64 0, .int .u32 m1, .int .u32 0, .int .u64 m3, .int .u32 m4, .int .u32 m5, .int .u32 m6, .slice rA rn rc, .slice none 0 0, .slice none 0 0, .slice none 0 0, .int .u8 0]) ∧ Upd [] w w' := by
  obtain ⟨W, hW⟩ : ∃ W, W = ((w.alloc (.cells #[.int .i64 0, .int .u32 m1, .int .u32 m2, .int .u64 m3, .int .u32 m4, .int .u32 m5, .int .u32 m6, .slice rA rn rc, .slice wA wn wc, .slice pA pn pc, .slice aA an ac, .int .u8 ty] 50)).alloc (.cells #[.int .i64 0, .int .u32 0, .int .u32 0, .int .u64 0, .int .u32 0, .int .u32 0, .int .u32 0, .slice none 0 0, .slice none 0 0, .slice none 0 0, .slice none 0 0, .int .u8 0] 50)).alloc (.cells #[.int .i64 0, .int .u32 0, .int .u32 0, .int .u64 0, .int .u32 0, .int .u32 0, .int .u32 0, .slice none 0 0, .slice none 0 0, .slice none 0 0, .slice none 0 0, .int .u8 0] 50) := ⟨_, rfl⟩
  have hU : Upd [] w W := by rw [hW]; exact (((Upd.refl [] w).alloc _).alloc _).alloc _
  have hM : Blk W w.heap.size 50 #[.int .i64 0, .int .u32 m1, .int .u32 m2, .int .u64 m3, .int .u32 m4, .int .u32 m5, .int .u32 m6, .slice rA rn rc, .slice wA wn wc, .slice pA pn pc, .slice aA an ac, .int .u8 ty] := by rw [hW]; exact ((Blk.new _ _ _).alloc _).alloc _
  have hR : Blk W (w.heap.size + 1) 50 #[.int .i64 0, .int .u32 0, .int .u32 0, .int .u64 0, .int .u32 0, .int .u32 0, .int .u32 0, .slice none 0 0, .slice none 0 0, .slice none 0 0, .slice none 0 0, .int .u8 0] := by
    have := Blk.new (w.alloc (.cells #[.int .i64 0, .int .u32 m1, .int .u32 m2, .int .u64 m3, .int .u32 m4, .int .u32 m5, .int .u32 m6, .slice rA rn rc, .slice wA wn wc, .slice pA pn pc, .slice aA an ac, .int .u8 ty] 50)) 50 #[.int .i64 0, .int .u32 0, .int .u32 0, .int .u64 0, .int .u32 0, .int .u32 0, .int .u32 0, .slice none 0 0, .slice none 0 0, .slice none 0 0, .slice none 0 0, .int .u8 0]
    rw [World.size_alloc] at this
    rw [hW]; exact this.alloc _
  have hG : Blk W (w.heap.size + 1 + 1) 50 #[.int .i64 0, .int .u32 0, .int .u32 0, .int .u64 0, .int .u32 0, .int .u32 0, .int .u32 0, .slice none 0 0, .slice none 0 0, .slice none 0 0, .slice none 0 0, .int .u8 0] := by
    have := Blk.new ((w.alloc (.cells #[.int .i64 0, .int .u32 m1, .int .u32 m2, .int .u64 m3, .int .u32 m4, .int .u32 m5, .int .u32 m6, .slice rA rn rc, .slice wA wn wc, .slice pA pn pc, .slice aA an ac, .int .u8 ty] 50)).alloc (.cells #[.int .i64 0, .int .u32 0, .int .u32 0, .int .u64 0, .int .u32 0, .int .u32 0, .int .u32 0, .slice none 0 0, .slice none 0 0, .slice none 0 0, .slice none 0 0, .int .u8 0] 50)) 50 #[.int .i64 0, .int .u32 0, .int .u32 0, .int .u64 0, .int .u32 0, .int .u32 0, .int .u32 0, .slice none 0 0, .slice none 0 0, .slice none 0 0, .slice none 0 0, .int .u8 0]
    rw [World.size_alloc, World.size_alloc] at this
    rw [hW]; exact this
  have HU := Lib.hid hU
  have HLE : Hid (w.heap.size ≤ w.heap.size + 1 ∧ w.heap.size ≤ w.heap.size + 1 + 1) := Lib.hid (by omega)
  go_enter Try.func19, Try.ntmps19
  go_upto_region 2 with fail
  rw [← hW]
  clear hW hU
  obtain ⟨G, hGe⟩ : ∃ G, G = w.heap.size + 1 + 1 := ⟨_, rfl⟩
  obtain ⟨R, hRe⟩ : ∃ R, R = w.heap.size + 1 := ⟨_, rfl⟩
  obtain ⟨M, hMe⟩ : ∃ M, M = w.heap.size := ⟨_, rfl⟩
  have hRG : R ≠ G := by omega
  have hGR : G ≠ R := by omega
  have hMG : M ≠ G := by omega
  have hGM : G ≠ M := by omega
  rw [← hGe] at hG
  rw [← hRe] at hR
  rw [← hMe] at hM
  have HGW : Hid (w.heap.size ≤ G) := Lib.hid (by omega)
  have HRW : Hid (w.heap.size ≤ R) := Lib.hid (by omega)
  try rw [← hGe]
  try rw [← hRe]
  try rw [← hMe]
  clear hGe hRe hMe HLE
  have v0 : W.cell? ⟨M, 0, none⟩ = some (.int .i64 0) := hM.cell 0
  have g0 : W.cell? ⟨G, 0, none⟩ = some (.int .i64 0) := hG.cell 0
  have e0 := hG.frozen 0
  have r0 : W.cell? ⟨R, 0, none⟩ = some (.int .i64 0) := hR.cell 0
  have f0 := hR.frozen 0
  have v1 : W.cell? ⟨M, 1, none⟩ = some (.int .u32 m1) := hM.cell 1
  have g1 : W.cell? ⟨G, 1, none⟩ = some (.int .u32 0) := hG.cell 1
  have e1 := hG.frozen 1
  have r1 : W.cell? ⟨R, 1, none⟩ = some (.int .u32 0) := hR.cell 1
  have f1 := hR.frozen 1
  have v2 : W.cell? ⟨M, 2, none⟩ = some (.int .u32 m2) := hM.cell 2
  have g2 : W.cell? ⟨G, 2, none⟩ = some (.int .u32 0) := hG.cell 2
  have e2 := hG.frozen 2
  have r2 : W.cell? ⟨R, 2, none⟩ = some (.int .u32 0) := hR.cell 2
  have f2 := hR.frozen 2
  have v3 : W.cell? ⟨M, 3, none⟩ = some (.int .u64 m3) := hM.cell 3
  have g3 : W.cell? ⟨G, 3, none⟩ = some (.int .u64 0) := hG.cell 3
  have e3 := hG.frozen 3
  have r3 : W.cell? ⟨R, 3, none⟩ = some (.int .u64 0) := hR.cell 3
  have f3 := hR.frozen 3
  have v4 : W.cell? ⟨M, 4, none⟩ = some (.int .u32 m4) := hM.cell 4
  have g4 : W.cell? ⟨G, 4, none⟩ = some (.int .u32 0) := hG.cell 4
  have e4 := hG.frozen 4
  have r4 : W.cell? ⟨R, 4, none⟩ = some (.int .u32 0) := hR.cell 4
  have f4 := hR.frozen 4
  have v5 : W.cell? ⟨M, 5, none⟩ = some (.int .u32 m5) := hM.cell 5
  have g5 : W.cell? ⟨G, 5, none⟩ = some (.int .u32 0) := hG.cell 5
  have e5 := hG.frozen 5
  have r5 : W.cell? ⟨R, 5, none⟩ = some (.int .u32 0) := hR.cell 5
  have f5 := hR.frozen 5
  have v6 : W.cell? ⟨M, 6, none⟩ = some (.int .u32 m6) := hM.cell 6
  have g6 : W.cell? ⟨G, 6, none⟩ = some (.int .u32 0) := hG.cell 6
  have e6 := hG.frozen 6
  have r6 : W.cell? ⟨R, 6, none⟩ = some (.int .u32 0) := hR.cell 6
  have f6 := hR.frozen 6
  have v7 : W.cell? ⟨M, 7, none⟩ = some (.slice rA rn rc) := hM.cell 7
  have g7 : W.cell? ⟨G, 7, none⟩ = some (.slice none 0 0) := hG.cell 7
  have e7 := hG.frozen 7
  have r7 : W.cell? ⟨R, 7, none⟩ = some (.slice none 0 0) := hR.cell 7
  have f7 := hR.frozen 7
  have v8 : W.cell? ⟨M, 8, none⟩ = some (.slice wA wn wc) := hM.cell 8
  have g8 : W.cell? ⟨G, 8, none⟩ = some (.slice none 0 0) := hG.cell 8
  have e8 := hG.frozen 8
  have r8 : W.cell? ⟨R, 8, none⟩ = some (.slice none 0 0) := hR.cell 8
  have f8 := hR.frozen 8
  have v9 : W.cell? ⟨M, 9, none⟩ = some (.slice pA pn pc) := hM.cell 9
  have g9 : W.cell? ⟨G, 9, none⟩ = some (.slice none 0 0) := hG.cell 9
  have e9 := hG.frozen 9
  have r9 : W.cell? ⟨R, 9, none⟩ = some (.slice none 0 0) := hR.cell 9
  have f9 := hR.frozen 9
  have v10 : W.cell? ⟨M, 10, none⟩ = some (.slice aA an ac) := hM.cell 10
  have g10 : W.cell? ⟨G, 10, none⟩ = some (.slice none 0 0) := hG.cell 10
  have e10 := hG.frozen 10
  have r10 : W.cell? ⟨R, 10, none⟩ = some (.slice none 0 0) := hR.cell 10
  have f10 := hR.frozen 10
  have v11 : W.cell? ⟨M, 11, none⟩ = some (.int .u8 ty) := hM.cell 11
  have g11 : W.cell? ⟨G, 11, none⟩ = some (.int .u8 0) := hG.cell 11
  have e11 := hG.frozen 11
  have r11 : W.cell? ⟨R, 11, none⟩ = some (.int .u8 0) := hR.cell 11
  have f11 := hR.frozen 11
  clear hM hR hG
  go_wp2
  refine bodyPost_res (v := .agg #[.int .i64 0, .int .u32 m1, .int .u32 0, .int .u64 m3, .int .u32 m4, .int .u32 m5, .int .u32 m6, .slice rA rn rc, .slice none 0 0, .slice none 0 0, .slice none 0 0, .int .u8 0]) (by simp [results, Try.results19, go_sem, r0, f0, r1, f1, r2, f2, r3, f3, r4, f4, r5, f5, r6, f6, r7, f7, r8, f8, r9, f9, r10, f10, r11, f11, hRG, hGR]) rfl ⟨rfl, ?_⟩
  exact set12_upd _ _ _ _ _ _ _ _ _ _ _ _ _ (((((((HU.out.setCell (p := ⟨G, 1, none⟩) (.inr HGW.out) _).setCell (p := ⟨G, 3, none⟩) (.inr HGW.out) _).setCell (p := ⟨G, 4, none⟩) (.inr HGW.out) _).setCell (p := ⟨G, 5, none⟩) (.inr HGW.out) _).setCell (p := ⟨G, 6, none⟩) (.inr HGW.out) _).setCell (p := ⟨G, 7, none⟩) (.inr HGW.out) _)) (.inr HRW.out)
set_option maxRecDepth 100000 in
set_option maxHeartbeats 2000000 in
theorem named_1 (w : World) (m1 m2 m3 m4 m5 m6 ty : Int) (rA wA pA aA : Option Addr) (rn rc wn wc pn pc an ac : Nat) : Calls Try.prog 19 #[.agg #[.int .i64 1, .int .u32 m1, .int .u32 m2, .int .u64 m3, .int .u32 m4, .int .u32 m5, .int .u32 m6, .slice rA rn rc, .slice wA wn wc, .slice pA pn pc, .slice aA an ac, .int .u8 ty]] w fun e w' => e = .returned (.agg #[.int .i64 1, .int .u32 m1, .int .u32 0, .int .u64 0, .int .u32 0, .int .u32 0, .int .u32 0, .slice rA rn rc, .slice none 0 0, .slice none 0 0, .slice none 0 0, .int .u8 0]) ∧ Upd [] w w' := by
  obtain ⟨W, hW⟩ : ∃ W, W = ((w.alloc (.cells #[.int .i64 1, .int .u32 m1, .int .u32 m2, .int .u64 m3, .int .u32 m4, .int .u32 m5, .int .u32 m6, .slice rA rn rc, .slice wA wn wc, .slice pA pn pc, .slice aA an ac, .int .u8 ty] 50)).alloc (.cells #[.int .i64 0, .int .u32 0, .int .u32 0, .int .u64 0, .int .u32 0, .int .u32 0, .int .u32 0, .slice none 0 0, .slice none 0 0, .slice none 0 0, .slice none 0 0, .int .u8 0] 50)).alloc (.cells #[.int .i64 1, .int .u32 0, .int .u32 0, .int .u64 0, .int .u32 0, .int .u32 0, .int .u32 0, .slice none 0 0, .slice none 0 0, .slice none 0 0, .slice none 0 0, .int .u8 0] 50) := ⟨_, rfl⟩
  have hU : Upd [] w W := by rw [hW]; exact (((Upd.refl [] w).alloc _).alloc _).alloc _
  have hM : Blk W w.heap.size 50 #[.int .i64 1, .int .u32 m1, .int .u32 m2, .int .u64 m3, .int .u32 m4, .int .u32 m5, .int .u32 m6, .slice rA rn rc, .slice wA wn wc, .slice pA pn pc, .slice aA an ac, .int .u8 ty] := by rw [hW]; exact ((Blk.new _ _ _).alloc _).alloc _
  have hR : Blk W (w.heap.size + 1) 50 #[.int .i64 0, .int .u32 0, .int .u32 0, .int .u64 0, .int .u32 0, .int .u32 0, .int .u32 0, .slice none 0 0, .slice none 0 0, .slice none 0 0, .slice none 0 0, .int .u8 0] := by
    have := Blk.new (w.alloc (.cells #[.int .i64 1, .int .u32 m1, .int .u32 m2, .int .u64 m3, .int .u32 m4, .int .u32 m5, .int .u32 m6, .slice rA rn rc, .slice wA wn wc, .slice pA pn pc, .slice aA an ac, .int .u8 ty] 50)) 50 #[.int .i64 0, .int .u32 0, .int .u32 0, .int .u64 0, .int .u32 0, .int .u32 0, .int .u32 0, .slice none 0 0, .slice none 0 0, .slice none 0 0, .slice none 0 0, .int .u8 0]
    rw [World.size_alloc] at this
    rw [hW]; exact this.alloc _
  have hG : Blk W (w.heap.size + 1 + 1) 50 #[.int .i64 1, .int .u32 0, .int .u32 0, .int .u64 0, .int .u32 0, .int .u32 0, .int .u32 0, .slice none 0 0, .slice none 0 0, .slice none 0 0, .slice none 0 0, .int .u8 0] := by
    have := Blk.new ((w.alloc (.cells #[.int .i64 1, .int .u32 m1, .int .u32 m2, .int .u64 m3, .int .u32 m4, .int .u32 m5, .int .u32 m6, .slice rA rn rc, .slice wA wn wc, .slice pA pn pc, .slice aA an ac, .int .u8 ty] 50)).alloc (.cells #[.int .i64 0, .int .u32 0, .int .u32 0, .int .u64 0, .int .u32 0, .int .u32 0, .int .u32 0, .slice none 0 0, .slice none 0 0, .slice none 0 0, .slice none 0 0, .int .u8 0] 50)) 50 #[.int .i64 1, .int .u32 0, .int .u32 0, .int .u64 0, .int .u32 0, .int .u32 0, .int .u32 0, .slice none 0 0, .slice none 0 0, .slice none 0 0, .slice none 0 0, .int .u8 0]
    rw [World.size_alloc, World.size_alloc] at this
    rw [hW]; exact this
  have HU := Lib.hid hU
  have HLE : Hid (w.heap.size ≤ w.heap.size + 1 ∧ w.heap.size ≤ w.heap.size + 1 + 1) := Lib.hid (by omega)
  go_enter Try.func19, Try.ntmps19
  go_upto_region 2 with fail
  rw [← hW]
  clear hW hU
  obtain ⟨G, hGe⟩ : ∃ G, G = w.heap.size + 1 + 1 := ⟨_, rfl⟩
  obtain ⟨R, hRe⟩ : ∃ R, R = w.heap.size + 1 := ⟨_, rfl⟩
  obtain ⟨M, hMe⟩ : ∃ M, M = w.heap.size := ⟨_, rfl⟩
  have hRG : R ≠ G := by omega
  have hGR : G ≠ R := by omega
  have hMG : M ≠ G := by omega
  have hGM : G ≠ M := by omega
  rw [← hGe] at hG
  rw [← hRe] at hR
  rw [← hMe] at hM
  have HGW : Hid (w.heap.size ≤ G) := Lib.hid (by omega)
  have HRW : Hid (w.heap.size ≤ R) := Lib.hid (by omega)
  try rw [← hGe]
  try rw [← hRe]
  try rw [← hMe]
  clear hGe hRe hMe HLE
  have v0 : W.cell? ⟨M, 0, none⟩ = some (.int .i64 1) := hM.cell 0
  have g0 : W.cell? ⟨G, 0, none⟩ = some (.int .i64 1) := hG.cell 0
  have e0 := hG.frozen 0
  have r0 : W.cell? ⟨R, 0, none⟩ = some (.int .i64 0) := hR.cell 0
  have f0 := hR.frozen 0
  have v1 : W.cell? ⟨M, 1, none⟩ = some (.int .u32 m1) := hM.cell 1
  have g1 : W.cell? ⟨G, 1, none⟩ = some (.int .u32 0) := hG.cell 1
  have e1 := hG.frozen 1
  have r1 : W.cell? ⟨R, 1, none⟩ = some (.int .u32 0) := hR.cell 1
  have f1 := hR.frozen 1
  have v2 : W.cell? ⟨M, 2, none⟩ = some (.int .u32 m2) := hM.cell 2
  have g2 : W.cell? ⟨G, 2, none⟩ = some (.int .u32 0) := hG.cell 2
  have e2 := hG.frozen 2
  have r2 : W.cell? ⟨R, 2, none⟩ = some (.int .u32 0) := hR.cell 2
  have f2 := hR.frozen 2
  have v3 : W.cell? ⟨M, 3, none⟩ = some (.int .u64 m3) := hM.cell 3
  have g3 : W.cell? ⟨G, 3, none⟩ = some (.int .u64 0) := hG.cell 3
  have e3 := hG.frozen 3
  have r3 : W.cell? ⟨R, 3, none⟩ = some (.int .u64 0) := hR.cell 3
  have f3 := hR.frozen 3
  have v4 : W.cell? ⟨M, 4, none⟩ = some (.int .u32 m4) := hM.cell 4
  have g4 : W.cell? ⟨G, 4, none⟩ = some (.int .u32 0) := hG.cell 4
  have e4 := hG.frozen 4
  have r4 : W.cell? ⟨R, 4, none⟩ = some (.int .u32 0) := hR.cell 4
  have f4 := hR.frozen 4
  have v5 : W.cell? ⟨M, 5, none⟩ = some (.int .u32 m5) := hM.cell 5
  have g5 : W.cell? ⟨G, 5, none⟩ = some (.int .u32 0) := hG.cell 5
  have e5 := hG.frozen 5
  have r5 : W.cell? ⟨R, 5, none⟩ = some (.int .u32 0) := hR.cell 5
  have f5 := hR.frozen 5
  have v6 : W.cell? ⟨M, 6, none⟩ = some (.int .u32 m6) := hM.cell 6
  have g6 : W.cell? ⟨G, 6, none⟩ = some (.int .u32 0) := hG.cell 6
  have e6 := hG.frozen 6
  have r6 : W.cell? ⟨R, 6, none⟩ = some (.int .u32 0) := hR.cell 6
  have f6 := hR.frozen 6
  have v7 : W.cell? ⟨M, 7, none⟩ = some (.slice rA rn rc) := hM.cell 7
  have g7 : W.cell? ⟨G, 7, none⟩ = some (.slice none 0 0) := hG.cell 7
  have e7 := hG.frozen 7
  have r7 : W.cell? ⟨R, 7, none⟩ = some (.slice none 0 0) := hR.cell 7
  have f7 := hR.frozen 7
  have v8 : W.cell? ⟨M, 8, none⟩ = some (.slice wA wn wc) := hM.cell 8
  have g8 : W.cell? ⟨G, 8, none⟩ = some (.slice none 0 0) := hG.cell 8
  have e8 := hG.frozen 8
  have r8 : W.cell? ⟨R, 8, none⟩ = some (.slice none 0 0) := hR.cell 8
  have f8 := hR.frozen 8
  have v9 : W.cell? ⟨M, 9, none⟩ = some (.slice pA pn pc) := hM.cell 9
  have g9 : W.cell? ⟨G, 9, none⟩ = some (.slice none 0 0) := hG.cell 9
  have e9 := hG.frozen 9
  have r9 : W.cell? ⟨R, 9, none⟩ = some (.slice none 0 0) := hR.cell 9
  have f9 := hR.frozen 9
  have v10 : W.cell? ⟨M, 10, none⟩ = some (.slice aA an ac) := hM.cell 10
  have g10 : W.cell? ⟨G, 10, none⟩ = some (.slice none 0 0) := hG.cell 10
  have e10 := hG.frozen 10
  have r10 : W.cell? ⟨R, 10, none⟩ = some (.slice none 0 0) := hR.cell 10
  have f10 := hR.frozen 10
  have v11 : W.cell? ⟨M, 11, none⟩ = some (.int .u8 ty) := hM.cell 11
  have g11 : W.cell? ⟨G, 11, none⟩ = some (.int .u8 0) := hG.cell 11
  have e11 := hG.frozen 11
  have r11 : W.cell? ⟨R, 11, none⟩ = some (.int .u8 0) := hR.cell 11
  have f11 := hR.frozen 11
  clear hM hR hG
  go_wp2
  refine bodyPost_res (v := .agg #[.int .i64 1, .int .u32 m1, .int .u32 0, .int .u64 0, .int .u32 0, .int .u32 0, .int .u32 0, .slice rA rn rc, .slice none 0 0, .slice none 0 0, .slice none 0 0, .int .u8 0]) (by simp [results, Try.results19, go_sem, r0, f0, r1, f1, r2, f2, r3, f3, r4, f4, r5, f5, r6, f6, r7, f7, r8, f8, r9, f9, r10, f10, r11, f11, hRG, hGR]) rfl ⟨rfl, ?_⟩
  exact set12_upd _ _ _ _ _ _ _ _ _ _ _ _ _ (((HU.out.setCell (p := ⟨G, 1, none⟩) (.inr HGW.out) _).setCell (p := ⟨G, 7, none⟩) (.inr HGW.out) _)) (.inr HRW.out)
set_option maxRecDepth 100000 in
set_option maxHeartbeats 2000000 in
theorem named_2 (w : World) (m1 m2 m3 m4 m5 m6 ty : Int) (rA wA pA aA : Option Addr) (rn rc wn wc pn pc an ac : Nat) : Calls Try.prog 19 #[.agg #[.int .i64 2, .int .u32 m1, .int .u32 m2, .int .u64 m3, .int .u32 m4, .int .u32 m5, .int .u32 m6, .slice rA rn rc, .slice wA wn wc, .slice pA pn pc, .slice aA an ac, .int .u8 ty]] w fun e w' => e = .returned (.agg #[.int .i64 2, .int .u32 0, .int .u32 0, .int .u64 0, .int .u32 0, .int .u32 0, .int .u32 0, .slice none 0 0, .slice wA wn wc, .slice none 0 0, .slice none 0 0, .int .u8 0]) ∧ Upd [] w w' := by
  obtain ⟨W, hW⟩ : ∃ W, W = ((w.alloc (.cells #[.int .i64 2, .int .u32 m1, .int .u32 m2, .int .u64 m3, .int .u32 m4, .int .u32 m5, .int .u32 m6, .slice rA rn rc, .slice wA wn wc, .slice pA pn pc, .slice aA an ac, .int .u8 ty] 50)).alloc (.cells #[.int .i64 0, .int .u32 0, .int .u32 0, .int .u64 0, .int .u32 0, .int .u32 0, .int .u32 0, .slice none 0 0, .slice none 0 0, .slice none 0 0, .slice none 0 0, .int .u8 0] 50)).alloc (.cells #[.int .i64 2, .int .u32 0, .int .u32 0, .int .u64 0, .int .u32 0, .int .u32 0, .int .u32 0, .slice none 0 0, .slice none 0 0, .slice none 0 0, .slice none 0 0, .int .u8 0] 50) := ⟨_, rfl⟩
  have hU : Upd [] w W := by rw [hW]; exact (((Upd.refl [] w).alloc _).alloc _).alloc _
  have hM : Blk W w.heap.size 50 #[.int .i64 2, .int .u32 m1, .int .u32 m2, .int .u64 m3, .int .u32 m4, .int .u32 m5, .int .u32 m6, .slice rA rn rc, .slice wA wn wc, .slice pA pn pc, .slice aA an ac, .int .u8 ty] := by rw [hW]; exact ((Blk.new _ _ _).alloc _).alloc _
  have hR : Blk W (w.heap.size + 1) 50 #[.int .i64 0, .int .u32 0, .int .u32 0, .int .u64 0, .int .u32 0, .int .u32 0, .int .u32 0, .slice none 0 0, .slice none 0 0, .slice none 0 0, .slice none 0 0, .int .u8 0] := by
    have := Blk.new (w.alloc (.cells #[.int .i64 2, .int .u32 m1, .int .u32 m2, .int .u64 m3, .int .u32 m4, .int .u32 m5, .int .u32 m6, .slice rA rn rc, .slice wA wn wc, .slice pA pn pc, .slice aA an ac, .int .u8 ty] 50)) 50 #[.int .i64 0, .int .u32 0, .int .u32 0, .int .u64 0, .int .u32 0, .int .u32 0, .int .u32 0, .slice none 0 0, .slice none 0 0, .slice none 0 0, .slice none 0 0, .int .u8 0]
    rw [World.size_alloc] at this
    rw [hW]; exact this.alloc _
  have hG : Blk W (w.heap.size + 1 + 1) 50 #[.int .i64 2, .int .u32 0, .int .u32 0, .int .u64 0, .int .u32 0, .int .u32 0, .int .u32 0, .slice none 0 0, .slice none 0 0, .slice none 0 0, .slice none 0 0, .int .u8 0] := by
    have := Blk.new ((w.alloc (.cells #[.int .i64 2, .int .u32 m1, .int .u32 m2, .int .u64 m3, .int .u32 m4, .int .u32 m5, .int .u32 m6, .slice rA rn rc, .slice wA wn wc, .slice pA pn pc, .slice aA an ac, .int .u8 ty] 50)).alloc (.cells #[.int .i64 0, .int .u32 0, .int .u32 0, .int .u64 0, .int .u32 0, .int .u32 0, .int .u32 0, .slice none 0 0, .slice none 0 0, .slice none 0 0, .slice none 0 0, .int .u8 0] 50)) 50 #[.int .i64 2, .int .u32 0, .int .u32 0, .int .u64 0, .int .u32 0, .int .u32 0, .int .u32 0, .slice none 0 0, .slice none 0 0, .slice none 0 0, .slice none 0 0, .int .u8 0]
    rw [World.size_alloc, World.size_alloc] at this
    rw [hW]; exact this
  have HU := Lib.hid hU
  have HLE : Hid (w.heap.size ≤ w.heap.size + 1 ∧ w.heap.size ≤ w.heap.size + 1 + 1) := Lib.hid (by omega)
  go_enter Try.func19, Try.ntmps19
  go_upto_region 2 with fail
  rw [← hW]
  clear hW hU
  obtain ⟨G, hGe⟩ : ∃ G, G = w.heap.size + 1 + 1 := ⟨_, rfl⟩
  obtain ⟨R, hRe⟩ : ∃ R, R = w.heap.size + 1 := ⟨_, rfl⟩
  obtain ⟨M, hMe⟩ : ∃ M, M = w.heap.size := ⟨_, rfl⟩
  have hRG : R ≠ G := by omega
  have hGR : G ≠ R := by omega
  have hMG : M ≠ G := by omega
  have hGM : G ≠ M := by omega
  rw [← hGe] at hG
  rw [← hRe] at hR
  rw [← hMe] at hM
  have HGW : Hid (w.heap.size ≤ G) := Lib.hid (by omega)
  have HRW : Hid (w.heap.size ≤ R) := Lib.hid (by omega)
  try rw [← hGe]
  try rw [← hRe]
  try rw [← hMe]
  clear hGe hRe hMe HLE
  have v0 : W.cell? ⟨M, 0, none⟩ = some (.int .i64 2) := hM.cell 0
  have g0 : W.cell? ⟨G, 0, none⟩ = some (.int .i64 2) := hG.cell 0
  have e0 := hG.frozen 0
  have r0 : W.cell? ⟨R, 0, none⟩ = some (.int .i64 0) := hR.cell 0
  have f0 := hR.frozen 0
  have v1 : W.cell? ⟨M, 1, none⟩ = some (.int .u32 m1) := hM.cell 1
  have g1 : W.cell? ⟨G, 1, none⟩ = some (.int .u32 0) := hG.cell 1
  have e1 := hG.frozen 1
  have r1 : W.cell? ⟨R, 1, none⟩ = some (.int .u32 0) := hR.cell 1
  have f1 := hR.frozen 1
  have v2 : W.cell? ⟨M, 2, none⟩ = some (.int .u32 m2) := hM.cell 2
  have g2 : W.cell? ⟨G, 2, none⟩ = some (.int .u32 0) := hG.cell 2
  have e2 := hG.frozen 2
  have r2 : W.cell? ⟨R, 2, none⟩ = some (.int .u32 0) := hR.cell 2
  have f2 := hR.frozen 2
  have v3 : W.cell? ⟨M, 3, none⟩ = some (.int .u64 m3) := hM.cell 3
  have g3 : W.cell? ⟨G, 3, none⟩ = some (.int .u64 0) := hG.cell 3
  have e3 := hG.frozen 3
  have r3 : W.cell? ⟨R, 3, none⟩ = some (.int .u64 0) := hR.cell 3
  have f3 := hR.frozen 3
  have v4 : W.cell? ⟨M, 4, none⟩ = some (.int .u32 m4) := hM.cell 4
  have g4 : W.cell? ⟨G, 4, none⟩ = some (.int .u32 0) := hG.cell 4
  have e4 := hG.frozen 4
  have r4 : W.cell? ⟨R, 4, none⟩ = some (.int .u32 0) := hR.cell 4
  have f4 := hR.frozen 4
  have v5 : W.cell? ⟨M, 5, none⟩ = some (.int .u32 m5) := hM.cell 5
  have g5 : W.cell? ⟨G, 5, none⟩ = some (.int .u32 0) := hG.cell 5
  have e5 := hG.frozen 5
  have r5 : W.cell? ⟨R, 5, none⟩ = some (.int .u32 0) := hR.cell 5
  have f5 := hR.frozen 5
  have v6 : W.cell? ⟨M, 6, none⟩ = some (.int .u32 m6) := hM.cell 6
  have g6 : W.cell? ⟨G, 6, none⟩ = some (.int .u32 0) := hG.cell 6
  have e6 := hG.frozen 6
  have r6 : W.cell? ⟨R, 6, none⟩ = some (.int .u32 0) := hR.cell 6
  have f6 := hR.frozen 6
  have v7 : W.cell? ⟨M, 7, none⟩ = some (.slice rA rn rc) := hM.cell 7
  have g7 : W.cell? ⟨G, 7, none⟩ = some (.slice none 0 0) := hG.cell 7
  have e7 := hG.frozen 7
  have r7 : W.cell? ⟨R, 7, none⟩ = some (.slice none 0 0) := hR.cell 7
  have f7 := hR.frozen 7
  have v8 : W.cell? ⟨M, 8, none⟩ = some (.slice wA wn wc) := hM.cell 8
  have g8 : W.cell? ⟨G, 8, none⟩ = some (.slice none 0 0) := hG.cell 8
  have e8 := hG.frozen 8
  have r8 : W.cell? ⟨R, 8, none⟩ = some (.slice none 0 0) := hR.cell 8
  have f8 := hR.frozen 8
  have v9 : W.cell? ⟨M, 9, none⟩ = some (.slice pA pn pc) := hM.cell 9
  have g9 : W.cell? ⟨G, 9, none⟩ = some (.slice none 0 0) := hG.cell 9
  have e9 := hG.frozen 9
  have r9 : W.cell? ⟨R, 9, none⟩ = some (.slice none 0 0) := hR.cell 9
  have f9 := hR.frozen 9
  have v10 : W.cell? ⟨M, 10, none⟩ = some (.slice aA an ac) := hM.cell 10
  have g10 : W.cell? ⟨G, 10, none⟩ = some (.slice none 0 0) := hG.cell 10
  have e10 := hG.frozen 10
  have r10 : W.cell? ⟨R, 10, none⟩ = some (.slice none 0 0) := hR.cell 10
  have f10 := hR.frozen 10
  have v11 : W.cell? ⟨M, 11, none⟩ = some (.int .u8 ty) := hM.cell 11
  have g11 : W.cell? ⟨G, 11, none⟩ = some (.int .u8 0) := hG.cell 11
  have e11 := hG.frozen 11
  have r11 : W.cell? ⟨R, 11, none⟩ = some (.int .u8 0) := hR.cell 11
  have f11 := hR.frozen 11
  clear hM hR hG
  go_wp2
  refine bodyPost_res (v := .agg #[.int .i64 2, .int .u32 0, .int .u32 0, .int .u64 0, .int .u32 0, .int .u32 0, .int .u32 0, .slice none 0 0, .slice wA wn wc, .slice none 0 0, .slice none 0 0, .int .u8 0]) (by simp [results, Try.results19, go_sem, r0, f0, r1, f1, r2, f2, r3, f3, r4, f4, r5, f5, r6, f6, r7, f7, r8, f8, r9, f9, r10, f10, r11, f11, hRG, hGR]) rfl ⟨rfl, ?_⟩
  exact set12_upd _ _ _ _ _ _ _ _ _ _ _ _ _ ((HU.out.setCell (p := ⟨G, 8, none⟩) (.inr HGW.out) _)) (.inr HRW.out)
set_option maxRecDepth 100000 in
set_option maxHeartbeats 2000000 in
theorem named_3 (w : World) (m1 m2 m3 m4 m5 m6 ty : Int) (rA wA pA aA : Option Addr) (rn rc wn wc pn pc an ac : Nat) : Calls Try.prog 19 #[.agg #[.int .i64 3, .int .u32 m1, .int .u32 m2, .int .u64 m3, .int .u32 m4, .int .u32 m5, .int .u32 m6, .slice rA rn rc, .slice wA wn wc, .slice pA pn pc, .slice aA an ac, .int .u8 ty]] w fun e w' => e = .returned (.agg #[.int .i64 3, .int .u32 m1, .int .u32 m2, .int .u64 0, .int .u32 0, .int .u32 0, .int .u32 0, .slice none 0 0, .slice none 0 0, .slice pA pn pc, .slice none 0 0, .int .u8 0]) ∧ Upd [] w w' := by
  obtain ⟨W, hW⟩ : ∃ W, W = ((w.alloc (.cells #[.int .i64 3, .int .u32 m1, .int .u32 m2, .int .u64 m3, .int .u32 m4, .int .u32 m5, .int .u32 m6, .slice rA rn rc, .slice wA wn wc, .slice pA pn pc, .slice aA an ac, .int .u8 ty] 50)).alloc (.cells #[.int .i64 0, .int .u32 0, .int .u32 0, .int .u64 0, .int .u32 0, .int .u32 0, .int .u32 0, .slice none 0 0, .slice none 0 0, .slice none 0 0, .slice none 0 0, .int .u8 0] 50)).alloc (.cells #[.int .i64 3, .int .u32 0, .int .u32 0, .int .u64 0, .int .u32 0, .int .u32 0, .int .u32 0, .slice none 0 0, .slice none 0 0, .slice none 0 0, .slice none 0 0, .int .u8 0] 50) := ⟨_, rfl⟩
  have hU : Upd [] w W := by rw [hW]; exact (((Upd.refl [] w).alloc _).alloc _).alloc _
  have hM : Blk W w.heap.size 50 #[.int .i64 3, .int .u32 m1, .int .u32 m2, .int .u64 m3, .int .u32 m4, .int .u32 m5, .int .u32 m6, .slice rA rn rc, .slice wA wn wc, .slice pA pn pc, .slice aA an ac, .int .u8 ty] := by rw [hW]; exact ((Blk.new _ _ _).alloc _).alloc _
  have hR : Blk W (w.heap.size + 1) 50 #[.int .i64 0, .int .u32 0, .int .u32 0, .int .u64 0, .int .u32 0, .int .u32 0, .int .u32 0, .slice none 0 0, .slice none 0 0, .slice none 0 0, .slice none 0 0, .int .u8 0] := by
    have := Blk.new (w.alloc (.cells #[.int .i64 3, .int .u32 m1, .int .u32 m2, .int .u64 m3, .int .u32 m4, .int .u32 m5, .int .u32 m6, .slice rA rn rc, .slice wA wn wc, .slice pA pn pc, .slice aA an ac, .int .u8 ty] 50)) 50 #[.int .i64 0, .int .u32 0, .int .u32 0, .int .u64 0, .int .u32 0, .int .u32 0, .int .u32 0, .slice none 0 0, .slice none 0 0, .slice none 0 0, .slice none 0 0, .int .u8 0]
    rw [World.size_alloc] at this
    rw [hW]; exact this.alloc _
  have hG : Blk W (w.heap.size + 1 + 1) 50 #[.int .i64 3, .int .u32 0, .int .u32 0, .int .u64 0, .int .u32 0, .int .u32 0, .int .u32 0, .slice none 0 0, .slice none 0 0, .slice none 0 0, .slice none 0 0, .int .u8 0] := by
    have := Blk.new ((w.alloc (.cells #[.int .i64 3, .int .u32 m1, .int .u32 m2, .int .u64 m3, .int .u32 m4, .int .u32 m5, .int .u32 m6, .slice rA rn rc, .slice wA wn wc, .slice pA pn pc, .slice aA an ac, .int .u8 ty] 50)).alloc (.cells #[.int .i64 0, .int .u32 0, .int .u32 0, .int .u64 0, .int .u32 0, .int .u32 0, .int .u32 0, .slice none 0 0, .slice none 0 0, .slice none 0 0, .slice none 0 0, .int .u8 0] 50)) 50 #[.int .i64 3, .int .u32 0, .int .u32 0, .int .u64 0, .int .u32 0, .int .u32 0, .int .u32 0, .slice none 0 0, .slice none 0 0, .slice none 0 0, .slice none 0 0, .int .u8 0]
    rw [World.size_alloc, World.size_alloc] at this
    rw [hW]; exact this
  have HU := Lib.hid hU
  have HLE : Hid (w.heap.size ≤ w.heap.size + 1 ∧ w.heap.size ≤ w.heap.size + 1 + 1) := Lib.hid (by omega)
  go_enter Try.func19, Try.ntmps19
  go_upto_region 2 with fail
  rw [← hW]
  clear hW hU
  obtain ⟨G, hGe⟩ : ∃ G, G = w.heap.size + 1 + 1 := ⟨_, rfl⟩
  obtain ⟨R, hRe⟩ : ∃ R, R = w.heap.size + 1 := ⟨_, rfl⟩
  obtain ⟨M, hMe⟩ : ∃ M, M = w.heap.size := ⟨_, rfl⟩
  have hRG : R ≠ G := by omega
  have hGR : G ≠ R := by omega
  have hMG : M ≠ G := by omega
  have hGM : G ≠ M := by omega
  rw [← hGe] at hG
  rw [← hRe] at hR
  rw [← hMe] at hM
  have HGW : Hid (w.heap.size ≤ G) := Lib.hid (by omega)
  have HRW : Hid (w.heap.size ≤ R) := Lib.hid (by omega)
  try rw [← hGe]
  try rw [← hRe]
  try rw [← hMe]
  clear hGe hRe hMe HLE
  have v0 : W.cell? ⟨M, 0, none⟩ = some (.int .i64 3) := hM.cell 0
  have g0 : W.cell? ⟨G, 0, none⟩ = some (.int .i64 3) := hG.cell 0
  have e0 := hG.frozen 0
  have r0 : W.cell? ⟨R, 0, none⟩ = some (.int .i64 0) := hR.cell 0
  have f0 := hR.frozen 0
  have v1 : W.cell? ⟨M, 1, none⟩ = some (.int .u32 m1) := hM.cell 1
  have g1 : W.cell? ⟨G, 1, none⟩ = some (.int .u32 0) := hG.cell 1
  have e1 := hG.frozen 1
  have r1 : W.cell? ⟨R, 1, none⟩ = some (.int .u32 0) := hR.cell 1
  have f1 := hR.frozen 1
  have v2 : W.cell? ⟨M, 2, none⟩ = some (.int .u32 m2) := hM.cell 2
  have g2 : W.cell? ⟨G, 2, none⟩ = some (.int .u32 0) := hG.cell 2
  have e2 := hG.frozen 2
  have r2 : W.cell? ⟨R, 2, none⟩ = some (.int .u32 0) := hR.cell 2
  have f2 := hR.frozen 2
  have v3 : W.cell? ⟨M, 3, none⟩ = some (.int .u64 m3) := hM.cell 3
  have g3 : W.cell? ⟨G, 3, none⟩ = some (.int .u64 0) := hG.cell 3
  have e3 := hG.frozen 3
  have r3 : W.cell? ⟨R, 3, none⟩ = some (.int .u64 0) := hR.cell 3
  have f3 := hR.frozen 3
  have v4 : W.cell? ⟨M, 4, none⟩ = some (.int .u32 m4) := hM.cell 4
  have g4 : W.cell? ⟨G, 4, none⟩ = some (.int .u32 0) := hG.cell 4
  have e4 := hG.frozen 4
  have r4 : W.cell? ⟨R, 4, none⟩ = some (.int .u32 0) := hR.cell 4
  have f4 := hR.frozen 4
  have v5 : W.cell? ⟨M, 5, none⟩ = some (.int .u32 m5) := hM.cell 5
  have g5 : W.cell? ⟨G, 5, none⟩ = some (.int .u32 0) := hG.cell 5
  have e5 := hG.frozen 5
  have r5 : W.cell? ⟨R, 5, none⟩ = some (.int .u32 0) := hR.cell 5
  have f5 := hR.frozen 5
  have v6 : W.cell? ⟨M, 6, none⟩ = some (.int .u32 m6) := hM.cell 6
  have g6 : W.cell? ⟨G, 6, none⟩ = some (.int .u32 0) := hG.cell 6
  have e6 := hG.frozen 6
  have r6 : W.cell? ⟨R, 6, none⟩ = some (.int .u32 0) := hR.cell 6
  have f6 := hR.frozen 6
  have v7 : W.cell? ⟨M, 7, none⟩ = some (.slice rA rn rc) := hM.cell 7
  have g7 : W.cell? ⟨G, 7, none⟩ = some (.slice none 0 0) := hG.cell 7
  have e7 := hG.frozen 7
  have r7 : W.cell? ⟨R, 7, none⟩ = some (.slice none 0 0) := hR.cell 7
  have f7 := hR.frozen 7
  have v8 : W.cell? ⟨M, 8, none⟩ = some (.slice wA wn wc) := hM.cell 8
  have g8 : W.cell? ⟨G, 8, none⟩ = some (.slice none 0 0) := hG.cell 8
  have e8 := hG.frozen 8
  have r8 : W.cell? ⟨R, 8, none⟩ = some (.slice none 0 0) := hR.cell 8
  have f8 := hR.frozen 8
  have v9 : W.cell? ⟨M, 9, none⟩ = some (.slice pA pn pc) := hM.cell 9
  have g9 : W.cell? ⟨G, 9, none⟩ = some (.slice none 0 0) := hG.cell 9
  have e9 := hG.frozen 9
  have r9 : W.cell? ⟨R, 9, none⟩ = some (.slice none 0 0) := hR.cell 9
  have f9 := hR.frozen 9
  have v10 : W.cell? ⟨M, 10, none⟩ = some (.slice aA an ac) := hM.cell 10
  have g10 : W.cell? ⟨G, 10, none⟩ = some (.slice none 0 0) := hG.cell 10
  have e10 := hG.frozen 10
  have r10 : W.cell? ⟨R, 10, none⟩ = some (.slice none 0 0) := hR.cell 10
  have f10 := hR.frozen 10
  have v11 : W.cell? ⟨M, 11, none⟩ = some (.int .u8 ty) := hM.cell 11
  have g11 : W.cell? ⟨G, 11, none⟩ = some (.int .u8 0) := hG.cell 11
  have e11 := hG.frozen 11
  have r11 : W.cell? ⟨R, 11, none⟩ = some (.int .u8 0) := hR.cell 11
  have f11 := hR.frozen 11
  clear hM hR hG
  go_wp2
  refine bodyPost_res (v := .agg #[.int .i64 3, .int .u32 m1, .int .u32 m2, .int .u64 0, .int .u32 0, .int .u32 0, .int .u32 0, .slice none 0 0, .slice none 0 0, .slice pA pn pc, .slice none 0 0, .int .u8 0]) (by simp [results, Try.results19, go_sem, r0, f0, r1, f1, r2, f2, r3, f3, r4, f4, r5, f5, r6, f6, r7, f7, r8, f8, r9, f9, r10, f10, r11, f11, hRG, hGR]) rfl ⟨rfl, ?_⟩
  exact set12_upd _ _ _ _ _ _ _ _ _ _ _ _ _ ((((HU.out.setCell (p := ⟨G, 1, none⟩) (.inr HGW.out) _).setCell (p := ⟨G, 2, none⟩) (.inr HGW.out) _).setCell (p := ⟨G, 9, none⟩) (.inr HGW.out) _)) (.inr HRW.out)
set_option maxRecDepth 100000 in
set_option maxHeartbeats 2000000 in
theorem named_4 (w : World) (m1 m2 m3 m4 m5 m6 ty : Int) (rA wA pA aA : Option Addr) (rn rc wn wc pn pc an ac : Nat) : Calls Try.prog 19 #[.agg #[.int .i64 4, .int .u32 m1, .int .u32 m2, .int .u64 m3, .int .u32 m4, .int .u32 m5, .int .u32 m6, .slice rA rn rc, .slice wA wn wc, .slice pA pn pc, .slice aA an ac, .int .u8 ty]] w fun e w' => e = .returned (.agg #[.int .i64 4, .int .u32 m1, .int .u32 m2, .int .u64 0, .int .u32 0, .int .u32 0, .int .u32 0, .slice none 0 0, .slice none 0 0, .slice none 0 0, .slice none 0 0, .int .u8 0]) ∧ Upd [] w w' := by
  obtain ⟨W, hW⟩ : ∃ W, W = ((w.alloc (.cells #[.int .i64 4, .int .u32 m1, .int .u32 m2, .int .u64 m3, .int .u32 m4, .int .u32 m5, .int .u32 m6, .slice rA rn rc, .slice wA wn wc, .slice pA pn pc, .slice aA an ac, .int .u8 ty] 50)).alloc (.cells #[.int .i64 0, .int .u32 0, .int .u32 0, .int .u64 0, .int .u32 0, .int .u32 0, .int .u32 0, .slice none 0 0, .slice none 0 0, .slice none 0 0, .slice none 0 0, .int .u8 0] 50)).alloc (.cells #[.int .i64 4, .int .u32 0, .int .u32 0, .int .u64 0, .int .u32 0, .int .u32 0, .int .u32 0, .slice none 0 0, .slice none 0 0, .slice none 0 0, .slice none 0 0, .int .u8 0] 50) := ⟨_, rfl⟩
  have hU : Upd [] w W := by rw [hW]; exact (((Upd.refl [] w).alloc _).alloc _).alloc _
  have hM : Blk W w.heap.size 50 #[.int .i64 4, .int .u32 m1, .int .u32 m2, .int .u64 m3, .int .u32 m4, .int .u32 m5, .int .u32 m6, .slice rA rn rc, .slice wA wn wc, .slice pA pn pc, .slice aA an ac, .int .u8 ty] := by rw [hW]; exact ((Blk.new _ _ _).alloc _).alloc _
  have hR : Blk W (w.heap.size + 1) 50 #[.int .i64 0, .int .u32 0, .int .u32 0, .int .u64 0, .int .u32 0, .int .u32 0, .int .u32 0, .slice none 0 0, .slice none 0 0, .slice none 0 0, .slice none 0 0, .int .u8 0] := by
    have := Blk.new (w.alloc (.cells #[.int .i64 4, .int .u32 m1, .int .u32 m2, .int .u64 m3, .int .u32 m4, .int .u32 m5, .int .u32 m6, .slice rA rn rc, .slice wA wn wc, .slice pA pn pc, .slice aA an ac, .int .u8 ty] 50)) 50 #[.int .i64 0, .int .u32 0, .int .u32 0, .int .u64 0, .int .u32 0, .int .u32 0, .int .u32 0, .slice none 0 0, .slice none 0 0, .slice none 0 0, .slice none 0 0, .int .u8 0]
    rw [World.size_alloc] at this
    rw [hW]; exact this.alloc _
  have hG : Blk W (w.heap.size + 1 + 1) 50 #[.int .i64 4, .int .u32 0, .int .u32 0, .int .u64 0, .int .u32 0, .int .u32 0, .int .u32 0, .slice none 0 0, .slice none 0 0, .slice none 0 0, .slice none 0 0, .int .u8 0] := by
    have := Blk.new ((w.alloc (.cells #[.int .i64 4, .int .u32 m1, .int .u32 m2, .int .u64 m3, .int .u32 m4, .int .u32 m5, .int .u32 m6, .slice rA rn rc, .slice wA wn wc, .slice pA pn pc, .slice aA an ac, .int .u8 ty] 50)).alloc (.cells #[.int .i64 0, .int .u32 0, .int .u32 0, .int .u64 0, .int .u32 0, .int .u32 0, .int .u32 0, .slice none 0 0, .slice none 0 0, .slice none 0 0, .slice none 0 0, .int .u8 0] 50)) 50 #[.int .i64 4, .int .u32 0, .int .u32 0, .int .u64 0, .int .u32 0, .int .u32 0, .int .u32 0, .slice none 0 0, .slice none 0 0, .slice none 0 0, .slice none 0 0, .int .u8 0]
    rw [World.size_alloc, World.size_alloc] at this
    rw [hW]; exact this
  have HU := Lib.hid hU
  have HLE : Hid (w.heap.size ≤ w.heap.size + 1 ∧ w.heap.size ≤ w.heap.size + 1 + 1) := Lib.hid (by omega)
  go_enter Try.func19, Try.ntmps19
  go_upto_region 2 with fail
  rw [← hW]
  clear hW hU
  obtain ⟨G, hGe⟩ : ∃ G, G = w.heap.size + 1 + 1 := ⟨_, rfl⟩
  obtain ⟨R, hRe⟩ : ∃ R, R = w.heap.size + 1 := ⟨_, rfl⟩
  obtain ⟨M, hMe⟩ : ∃ M, M = w.heap.size := ⟨_, rfl⟩
  have hRG : R ≠ G := by omega
  have hGR : G ≠ R := by omega
  have hMG : M ≠ G := by omega
  have hGM : G ≠ M := by omega
  rw [← hGe] at hG
  rw [← hRe] at hR
  rw [← hMe] at hM
  have HGW : Hid (w.heap.size ≤ G) := Lib.hid (by omega)
  have HRW : Hid (w.heap.size ≤ R) := Lib.hid (by omega)
  try rw [← hGe]
  try rw [← hRe]
  try rw [← hMe]
  clear hGe hRe hMe HLE
  have v0 : W.cell? ⟨M, 0, none⟩ = some (.int .i64 4) := hM.cell 0
  have g0 : W.cell? ⟨G, 0, none⟩ = some (.int .i64 4) := hG.cell 0
  have e0 := hG.frozen 0
  have r0 : W.cell? ⟨R, 0, none⟩ = some (.int .i64 0) := hR.cell 0
  have f0 := hR.frozen 0
  have v1 : W.cell? ⟨M, 1, none⟩ = some (.int .u32 m1) := hM.cell 1
  have g1 : W.cell? ⟨G, 1, none⟩ = some (.int .u32 0) := hG.cell 1
  have e1 := hG.frozen 1
  have r1 : W.cell? ⟨R, 1, none⟩ = some (.int .u32 0) := hR.cell 1
  have f1 := hR.frozen 1
  have v2 : W.cell? ⟨M, 2, none⟩ = some (.int .u32 m2) := hM.cell 2
  have g2 : W.cell? ⟨G, 2, none⟩ = some (.int .u32 0) := hG.cell 2
  have e2 := hG.frozen 2
  have r2 : W.cell? ⟨R, 2, none⟩ = some (.int .u32 0) := hR.cell 2
  have f2 := hR.frozen 2
  have v3 : W.cell? ⟨M, 3, none⟩ = some (.int .u64 m3) := hM.cell 3
  have g3 : W.cell? ⟨G, 3, none⟩ = some (.int .u64 0) := hG.cell 3
  have e3 := hG.frozen 3
  have r3 : W.cell? ⟨R, 3, none⟩ = some (.int .u64 0) := hR.cell 3
  have f3 := hR.frozen 3
  have v4 : W.cell? ⟨M, 4, none⟩ = some (.int .u32 m4) := hM.cell 4
  have g4 : W.cell? ⟨G, 4, none⟩ = some (.int .u32 0) := hG.cell 4
  have e4 := hG.frozen 4
  have r4 : W.cell? ⟨R, 4, none⟩ = some (.int .u32 0) := hR.cell 4
  have f4 := hR.frozen 4
  have v5 : W.cell? ⟨M, 5, none⟩ = some (.int .u32 m5) := hM.cell 5
  have g5 : W.cell? ⟨G, 5, none⟩ = some (.int .u32 0) := hG.cell 5
  have e5 := hG.frozen 5
  have r5 : W.cell? ⟨R, 5, none⟩ = some (.int .u32 0) := hR.cell 5
  have f5 := hR.frozen 5
  have v6 : W.cell? ⟨M, 6, none⟩ = some (.int .u32 m6) := hM.cell 6
  have g6 : W.cell? ⟨G, 6, none⟩ = some (.int .u32 0) := hG.cell 6
  have e6 := hG.frozen 6
  have r6 : W.cell? ⟨R, 6, none⟩ = some (.int .u32 0) := hR.cell 6
  have f6 := hR.frozen 6
  have v7 : W.cell? ⟨M, 7, none⟩ = some (.slice rA rn rc) := hM.cell 7
  have g7 : W.cell? ⟨G, 7, none⟩ = some (.slice none 0 0) := hG.cell 7
  have e7 := hG.frozen 7
  have r7 : W.cell? ⟨R, 7, none⟩ = some (.slice none 0 0) := hR.cell 7
  have f7 := hR.frozen 7
  have v8 : W.cell? ⟨M, 8, none⟩ = some (.slice wA wn wc) := hM.cell 8
  have g8 : W.cell? ⟨G, 8, none⟩ = some (.slice none 0 0) := hG.cell 8
  have e8 := hG.frozen 8
  have r8 : W.cell? ⟨R, 8, none⟩ = some (.slice none 0 0) := hR.cell 8
  have f8 := hR.frozen 8
  have v9 : W.cell? ⟨M, 9, none⟩ = some (.slice pA pn pc) := hM.cell 9
  have g9 : W.cell? ⟨G, 9, none⟩ = some (.slice none 0 0) := hG.cell 9
  have e9 := hG.frozen 9
  have r9 : W.cell? ⟨R, 9, none⟩ = some (.slice none 0 0) := hR.cell 9
  have f9 := hR.frozen 9
  have v10 : W.cell? ⟨M, 10, none⟩ = some (.slice aA an ac) := hM.cell 10
  have g10 : W.cell? ⟨G, 10, none⟩ = some (.slice none 0 0) := hG.cell 10
  have e10 := hG.frozen 10
  have r10 : W.cell? ⟨R, 10, none⟩ = some (.slice none 0 0) := hR.cell 10
  have f10 := hR.frozen 10
  have v11 : W.cell? ⟨M, 11, none⟩ = some (.int .u8 ty) := hM.cell 11
  have g11 : W.cell? ⟨G, 11, none⟩ = some (.int .u8 0) := hG.cell 11
  have e11 := hG.frozen 11
  have r11 : W.cell? ⟨R, 11, none⟩ = some (.int .u8 0) := hR.cell 11
  have f11 := hR.frozen 11
  clear hM hR hG
  go_wp2
  refine bodyPost_res (v := .agg #[.int .i64 4, .int .u32 m1, .int .u32 m2, .int .u64 0, .int .u32 0, .int .u32 0, .int .u32 0, .slice none 0 0, .slice none 0 0, .slice none 0 0, .slice none 0 0, .int .u8 0]) (by simp [results, Try.results19, go_sem, r0, f0, r1, f1, r2, f2, r3, f3, r4, f4, r5, f5, r6, f6, r7, f7, r8, f8, r9, f9, r10, f10, r11, f11, hRG, hGR]) rfl ⟨rfl, ?_⟩
  exact set12_upd _ _ _ _ _ _ _ _ _ _ _ _ _ (((HU.out.setCell (p := ⟨G, 1, none⟩) (.inr HGW.out) _).setCell (p := ⟨G, 2, none⟩) (.inr HGW.out) _)) (.inr HRW.out)
set_option maxRecDepth 100000 in
set_option maxHeartbeats 2000000 in
theorem named_5 (w : World) (m1 m2 m3 m4 m5 m6 ty : Int) (rA wA pA aA : Option Addr) (rn rc wn wc pn pc an ac : Nat) : Calls Try.prog 19 #[.agg #[.int .i64 5, .int .u32 m1, .int .u32 m2, .int .u64 m3, .int .u32 m4, .int .u32 m5, .int .u32 m6, .slice rA rn rc, .slice wA wn wc, .slice pA pn pc, .slice aA an ac, .int .u8 ty]] w fun e w' => e = .returned (.agg #[.int .i64 5, .int .u32 m1, .int .u32 m2, .int .u64 0, .int .u32 0, .int .u32 0, .int .u32 0, .slice none 0 0, .slice none 0 0, .slice none 0 0, .slice aA an ac, .int .u8 0]) ∧ Upd [] w w' := by
  obtain ⟨W, hW⟩ : ∃ W, W = ((w.alloc (.cells #[.int .i64 5, .int .u32 m1, .int .u32 m2, .int .u64 m3, .int .u32 m4, .int .u32 m5, .int .u32 m6, .slice rA rn rc, .slice wA wn wc, .slice pA pn pc, .slice aA an ac, .int .u8 ty] 50)).alloc (.cells #[.int .i64 0, .int .u32 0, .int .u32 0, .int .u64 0, .int .u32 0, .int .u32 0, .int .u32 0, .slice none 0 0, .slice none 0 0, .slice none 0 0, .slice none 0 0, .int .u8 0] 50)).alloc (.cells #[.int .i64 5, .int .u32 0, .int .u32 0, .int .u64 0, .int .u32 0, .int .u32 0, .int .u32 0, .slice none 0 0, .slice none 0 0, .slice none 0 0, .slice none 0 0, .int .u8 0] 50) := ⟨_, rfl⟩
  have hU : Upd [] w W := by rw [hW]; exact (((Upd.refl [] w).alloc _).alloc _).alloc _
  have hM : Blk W w.heap.size 50 #[.int .i64 5, .int .u32 m1, .int .u32 m2, .int .u64 m3, .int .u32 m4, .int .u32 m5, .int .u32 m6, .slice rA rn rc, .slice wA wn wc, .slice pA pn pc, .slice aA an ac, .int .u8 ty] := by rw [hW]; exact ((Blk.new _ _ _).alloc _).alloc _
  have hR : Blk W (w.heap.size + 1) 50 #[.int .i64 0, .int .u32 0, .int .u32 0, .int .u64 0, .int .u32 0, .int .u32 0, .int .u32 0, .slice none 0 0, .slice none 0 0, .slice none 0 0, .slice none 0 0, .int .u8 0] := by
    have := Blk.new (w.alloc (.cells #[.int .i64 5, .int .u32 m1, .int .u32 m2, .int .u64 m3, .int .u32 m4, .int .u32 m5, .int .u32 m6, .slice rA rn rc, .slice wA wn wc, .slice pA pn pc, .slice aA an ac, .int .u8 ty] 50)) 50 #[.int .i64 0, .int .u32 0, .int .u32 0, .int .u64 0, .int .u32 0, .int .u32 0, .int .u32 0, .slice none 0 0, .slice none 0 0, .slice none 0 0, .slice none 0 0, .int .u8 0]
    rw [World.size_alloc] at this
    rw [hW]; exact this.alloc _
  have hG : Blk W (w.heap.size + 1 + 1) 50 #[.int .i64 5, .int .u32 0, .int .u32 0, .int .u64 0, .int .u32 0, .int .u32 0, .int .u32 0, .slice none 0 0, .slice none 0 0, .slice none 0 0, .slice none 0 0, .int .u8 0] := by
    have := Blk.new ((w.alloc (.cells #[.int .i64 5, .int .u32 m1, .int .u32 m2, .int .u64 m3, .int .u32 m4, .int .u32 m5, .int .u32 m6, .slice rA rn rc, .slice wA wn wc, .slice pA pn pc, .slice aA an ac, .int .u8 ty] 50)).alloc (.cells #[.int .i64 0, .int .u32 0, .int .u32 0, .int .u64 0, .int .u32 0, .int .u32 0, .int .u32 0, .slice none 0 0, .slice none 0 0, .slice none 0 0, .slice none 0 0, .int .u8 0] 50)) 50 #[.int .i64 5, .int .u32 0, .int .u32 0, .int .u64 0, .int .u32 0, .int .u32 0, .int .u32 0, .slice none 0 0, .slice none 0 0, .slice none 0 0, .slice none 0 0, .int .u8 0]
    rw [World.size_alloc, World.size_alloc] at this
    rw [hW]; exact this
  have HU := Lib.hid hU
  have HLE : Hid (w.heap.size ≤ w.heap.size + 1 ∧ w.heap.size ≤ w.heap.size + 1 + 1) := Lib.hid (by omega)
  go_enter Try.func19, Try.ntmps19
  go_upto_region 2 with fail
  rw [← hW]
  clear hW hU
  obtain ⟨G, hGe⟩ : ∃ G, G = w.heap.size + 1 + 1 := ⟨_, rfl⟩
  obtain ⟨R, hRe⟩ : ∃ R, R = w.heap.size + 1 := ⟨_, rfl⟩
  obtain ⟨M, hMe⟩ : ∃ M, M = w.heap.size := ⟨_, rfl⟩
  have hRG : R ≠ G := by omega
  have hGR : G ≠ R := by omega
  have hMG : M ≠ G := by omega
  have hGM : G ≠ M := by omega
  rw [← hGe] at hG
  rw [← hRe] at hR
  rw [← hMe] at hM
  have HGW : Hid (w.heap.size ≤ G) := Lib.hid (by omega)
  have HRW : Hid (w.heap.size ≤ R) := Lib.hid (by omega)
  try rw [← hGe]
  try rw [← hRe]
  try rw [← hMe]
  clear hGe hRe hMe HLE
  have v0 : W.cell? ⟨M, 0, none⟩ = some (.int .i64 5) := hM.cell 0
  have g0 : W.cell? ⟨G, 0, none⟩ = some (.int .i64 5) := hG.cell 0
  have e0 := hG.frozen 0
  have r0 : W.cell? ⟨R, 0, none⟩ = some (.int .i64 0) := hR.cell 0
  have f0 := hR.frozen 0
  have v1 : W.cell? ⟨M, 1, none⟩ = some (.int .u32 m1) := hM.cell 1
  have g1 : W.cell? ⟨G, 1, none⟩ = some (.int .u32 0) := hG.cell 1
  have e1 := hG.frozen 1
  have r1 : W.cell? ⟨R, 1, none⟩ = some (.int .u32 0) := hR.cell 1
  have f1 := hR.frozen 1
  have v2 : W.cell? ⟨M, 2, none⟩ = some (.int .u32 m2) := hM.cell 2
  have g2 : W.cell? ⟨G, 2, none⟩ = some (.int .u32 0) := hG.cell 2
  have e2 := hG.frozen 2
  have r2 : W.cell? ⟨R, 2, none⟩ = some (.int .u32 0) := hR.cell 2
  have f2 := hR.frozen 2
  have v3 : W.cell? ⟨M, 3, none⟩ = some (.int .u64 m3) := hM.cell 3
  have g3 : W.cell? ⟨G, 3, none⟩ = some (.int .u64 0) := hG.cell 3
  have e3 := hG.frozen 3
  have r3 : W.cell? ⟨R, 3, none⟩ = some (.int .u64 0) := hR.cell 3
  have f3 := hR.frozen 3
  have v4 : W.cell? ⟨M, 4, none⟩ = some (.int .u32 m4) := hM.cell 4
  have g4 : W.cell? ⟨G, 4, none⟩ = some (.int .u32 0) := hG.cell 4
  have e4 := hG.frozen 4
  have r4 : W.cell? ⟨R, 4, none⟩ = some (.int .u32 0) := hR.cell 4
  have f4 := hR.frozen 4
  have v5 : W.cell? ⟨M, 5, none⟩ = some (.int .u32 m5) := hM.cell 5
  have g5 : W.cell? ⟨G, 5, none⟩ = some (.int .u32 0) := hG.cell 5
  have e5 := hG.frozen 5
  have r5 : W.cell? ⟨R, 5, none⟩ = some (.int .u32 0) := hR.cell 5
  have f5 := hR.frozen 5
  have v6 : W.cell? ⟨M, 6, none⟩ = some (.int .u32 m6) := hM.cell 6
  have g6 : W.cell? ⟨G, 6, none⟩ = some (.int .u32 0) := hG.cell 6
  have e6 := hG.frozen 6
  have r6 : W.cell? ⟨R, 6, none⟩ = some (.int .u32 0) := hR.cell 6
  have f6 := hR.frozen 6
  have v7 : W.cell? ⟨M, 7, none⟩ = some (.slice rA rn rc) := hM.cell 7
  have g7 : W.cell? ⟨G, 7, none⟩ = some (.slice none 0 0) := hG.cell 7
  have e7 := hG.frozen 7
  have r7 : W.cell? ⟨R, 7, none⟩ = some (.slice none 0 0) := hR.cell 7
  have f7 := hR.frozen 7
  have v8 : W.cell? ⟨M, 8, none⟩ = some (.slice wA wn wc) := hM.cell 8
  have g8 : W.cell? ⟨G, 8, none⟩ = some (.slice none 0 0) := hG.cell 8
  have e8 := hG.frozen 8
  have r8 : W.cell? ⟨R, 8, none⟩ = some (.slice none 0 0) := hR.cell 8
  have f8 := hR.frozen 8
  have v9 : W.cell? ⟨M, 9, none⟩ = some (.slice pA pn pc) := hM.cell 9
  have g9 : W.cell? ⟨G, 9, none⟩ = some (.slice none 0 0) := hG.cell 9
  have e9 := hG.frozen 9
  have r9 : W.cell? ⟨R, 9, none⟩ = some (.slice none 0 0) := hR.cell 9
  have f9 := hR.frozen 9
  have v10 : W.cell? ⟨M, 10, none⟩ = some (.slice aA an ac) := hM.cell 10
  have g10 : W.cell? ⟨G, 10, none⟩ = some (.slice none 0 0) := hG.cell 10
  have e10 := hG.frozen 10
  have r10 : W.cell? ⟨R, 10, none⟩ = some (.slice none 0 0) := hR.cell 10
  have f10 := hR.frozen 10
  have v11 : W.cell? ⟨M, 11, none⟩ = some (.int .u8 ty) := hM.cell 11
  have g11 : W.cell? ⟨G, 11, none⟩ = some (.int .u8 0) := hG.cell 11
  have e11 := hG.frozen 11
  have r11 : W.cell? ⟨R, 11, none⟩ = some (.int .u8 0) := hR.cell 11
  have f11 := hR.frozen 11
  clear hM hR hG
  go_wp2
  refine bodyPost_res (v := .agg #[.int .i64 5, .int .u32 m1, .int .u32 m2, .int .u64 0, .int .u32 0, .int .u32 0, .int .u32 0, .slice none 0 0, .slice none 0 0, .slice none 0 0, .slice aA an ac, .int .u8 0]) (by simp [results, Try.results19, go_sem, r0, f0, r1, f1, r2, f2, r3, f3, r4, f4, r5, f5, r6, f6, r7, f7, r8, f8, r9, f9, r10, f10, r11, f11, hRG, hGR]) rfl ⟨rfl, ?_⟩
  exact set12_upd _ _ _ _ _ _ _ _ _ _ _ _ _ ((((HU.out.setCell (p := ⟨G, 1, none⟩) (.inr HGW.out) _).setCell (p := ⟨G, 2, none⟩) (.inr HGW.out) _).setCell (p := ⟨G, 10, none⟩) (.inr HGW.out) _)) (.inr HRW.out)
set_option maxRecDepth 100000 in
set_option maxHeartbeats 2000000 in
theorem named_6 (w : World) (kk m1 m2 m3 m4 m5 m6 ty : Int) (rA wA pA aA : Option Addr) (rn rc wn wc pn pc an ac : Nat) (k0 : kk ≠ 0) (k1 : kk ≠ 1) (k2 : kk ≠ 2) (k3 : kk ≠ 3) (k4 : kk ≠ 4) (k5 : kk ≠ 5) : Calls Try.prog 19 #[.agg #[.int .i64 kk, .int .u32 m1, .int .u32 m2, .int .u64 m3, .int .u32 m4, .int .u32 m5, .int .u32 m6, .slice rA rn rc, .slice wA wn wc, .slice pA pn pc, .slice aA an ac, .int .u8 ty]] w fun e w' => e = .returned (.agg #[.int .i64 kk, .int .u32 m1, .int .u32 0, .int .u64 0, .int .u32 0, .int .u32 0, .int .u32 0, .slice none 0 0, .slice none 0 0, .slice none 0 0, .slice none 0 0, .int .u8 0]) ∧ Upd [] w w' := by
  have b0 : (kk == 0) = false := beq_eq_false_iff_ne.2 k0
  have b1 : (kk == 1) = false := beq_eq_false_iff_ne.2 k1
  have b2 : (kk == 2) = false := beq_eq_false_iff_ne.2 k2
  have b3 : (kk == 3) = false := beq_eq_false_iff_ne.2 k3
  have b4 : (kk == 4) = false := beq_eq_false_iff_ne.2 k4
  have b5 : (kk == 5) = false := beq_eq_false_iff_ne.2 k5
  obtain ⟨W, hW⟩ : ∃ W, W = ((w.alloc (.cells #[.int .i64 kk, .int .u32 m1, .int .u32 m2, .int .u64 m3, .int .u32 m4, .int .u32 m5, .int .u32 m6, .slice rA rn rc, .slice wA wn wc, .slice pA pn pc, .slice aA an ac, .int .u8 ty] 50)).alloc (.cells #[.int .i64 0, .int .u32 0, .int .u32 0, .int .u64 0, .int .u32 0, .int .u32 0, .int .u32 0, .slice none 0 0, .slice none 0 0, .slice none 0 0, .slice none 0 0, .int .u8 0] 50)).alloc (.cells #[.int .i64 kk, .int .u32 0, .int .u32 0, .int .u64 0, .int .u32 0, .int .u32 0, .int .u32 0, .slice none 0 0, .slice none 0 0, .slice none 0 0, .slice none 0 0, .int .u8 0] 50) := ⟨_, rfl⟩
  have hU : Upd [] w W := by rw [hW]; exact (((Upd.refl [] w).alloc _).alloc _).alloc _
  have hM : Blk W w.heap.size 50 #[.int .i64 kk, .int .u32 m1, .int .u32 m2, .int .u64 m3, .int .u32 m4, .int .u32 m5, .int .u32 m6, .slice rA rn rc, .slice wA wn wc, .slice pA pn pc, .slice aA an ac, .int .u8 ty] := by rw [hW]; exact ((Blk.new _ _ _).alloc _).alloc _
  have hR : Blk W (w.heap.size + 1) 50 #[.int .i64 0, .int .u32 0, .int .u32 0, .int .u64 0, .int .u32 0, .int .u32 0, .int .u32 0, .slice none 0 0, .slice none 0 0, .slice none 0 0, .slice none 0 0, .int .u8 0] := by
    have := Blk.new (w.alloc (.cells #[.int .i64 kk, .int .u32 m1, .int .u32 m2, .int .u64 m3, .int .u32 m4, .int .u32 m5, .int .u32 m6, .slice rA rn rc, .slice wA wn wc, .slice pA pn pc, .slice aA an ac, .int .u8 ty] 50)) 50 #[.int .i64 0, .int .u32 0, .int .u32 0, .int .u64 0, .int .u32 0, .int .u32 0, .int .u32 0, .slice none 0 0, .slice none 0 0, .slice none 0 0, .slice none 0 0, .int .u8 0]
    rw [World.size_alloc] at this
    rw [hW]; exact this.alloc _
  have hG : Blk W (w.heap.size + 1 + 1) 50 #[.int .i64 kk, .int .u32 0, .int .u32 0, .int .u64 0, .int .u32 0, .int .u32 0, .int .u32 0, .slice none 0 0, .slice none 0 0, .slice none 0 0, .slice none 0 0, .int .u8 0] := by
    have := Blk.new ((w.alloc (.cells #[.int .i64 kk, .int .u32 m1, .int .u32 m2, .int .u64 m3, .int .u32 m4, .int .u32 m5, .int .u32 m6, .slice rA rn rc, .slice wA wn wc, .slice pA pn pc, .slice aA an ac, .int .u8 ty] 50)).alloc (.cells #[.int .i64 0, .int .u32 0, .int .u32 0, .int .u64 0, .int .u32 0, .int .u32 0, .int .u32 0, .slice none 0 0, .slice none 0 0, .slice none 0 0, .slice none 0 0, .int .u8 0] 50)) 50 #[.int .i64 kk, .int .u32 0, .int .u32 0, .int .u64 0, .int .u32 0, .int .u32 0, .int .u32 0, .slice none 0 0, .slice none 0 0, .slice none 0 0, .slice none 0 0, .int .u8 0]
    rw [World.size_alloc, World.size_alloc] at this
    rw [hW]; exact this
  have HU := Lib.hid hU
  have HLE : Hid (w.heap.size ≤ w.heap.size + 1 ∧ w.heap.size ≤ w.heap.size + 1 + 1) := Lib.hid (by omega)
  go_enter Try.func19, Try.ntmps19
  go_upto_region 2 with fail
  rw [← hW]
  clear hW hU
  obtain ⟨G, hGe⟩ : ∃ G, G = w.heap.size + 1 + 1 := ⟨_, rfl⟩
  obtain ⟨R, hRe⟩ : ∃ R, R = w.heap.size + 1 := ⟨_, rfl⟩
  obtain ⟨M, hMe⟩ : ∃ M, M = w.heap.size := ⟨_, rfl⟩
  have hRG : R ≠ G := by omega
  have hGR : G ≠ R := by omega
  have hMG : M ≠ G := by omega
  have hGM : G ≠ M := by omega
  rw [← hGe] at hG
  rw [← hRe] at hR
  rw [← hMe] at hM
  have HGW : Hid (w.heap.size ≤ G) := Lib.hid (by omega)
  have HRW : Hid (w.heap.size ≤ R) := Lib.hid (by omega)
  try rw [← hGe]
  try rw [← hRe]
  try rw [← hMe]
  clear hGe hRe hMe HLE
  have v0 : W.cell? ⟨M, 0, none⟩ = some (.int .i64 kk) := hM.cell 0
  have g0 : W.cell? ⟨G, 0, none⟩ = some (.int .i64 kk) := hG.cell 0
  have e0 := hG.frozen 0
  have r0 : W.cell? ⟨R, 0, none⟩ = some (.int .i64 0) := hR.cell 0
  have f0 := hR.frozen 0
  have v1 : W.cell? ⟨M, 1, none⟩ = some (.int .u32 m1) := hM.cell 1
  have g1 : W.cell? ⟨G, 1, none⟩ = some (.int .u32 0) := hG.cell 1
  have e1 := hG.frozen 1
  have r1 : W.cell? ⟨R, 1, none⟩ = some (.int .u32 0) := hR.cell 1
  have f1 := hR.frozen 1
  have v2 : W.cell? ⟨M, 2, none⟩ = some (.int .u32 m2) := hM.cell 2
  have g2 : W.cell? ⟨G, 2, none⟩ = some (.int .u32 0) := hG.cell 2
  have e2 := hG.frozen 2
  have r2 : W.cell? ⟨R, 2, none⟩ = some (.int .u32 0) := hR.cell 2
  have f2 := hR.frozen 2
  have v3 : W.cell? ⟨M, 3, none⟩ = some (.int .u64 m3) := hM.cell 3
  have g3 : W.cell? ⟨G, 3, none⟩ = some (.int .u64 0) := hG.cell 3
  have e3 := hG.frozen 3
  have r3 : W.cell? ⟨R, 3, none⟩ = some (.int .u64 0) := hR.cell 3
  have f3 := hR.frozen 3
  have v4 : W.cell? ⟨M, 4, none⟩ = some (.int .u32 m4) := hM.cell 4
  have g4 : W.cell? ⟨G, 4, none⟩ = some (.int .u32 0) := hG.cell 4
  have e4 := hG.frozen 4
  have r4 : W.cell? ⟨R, 4, none⟩ = some (.int .u32 0) := hR.cell 4
  have f4 := hR.frozen 4
  have v5 : W.cell? ⟨M, 5, none⟩ = some (.int .u32 m5) := hM.cell 5
  have g5 : W.cell? ⟨G, 5, none⟩ = some (.int .u32 0) := hG.cell 5
  have e5 := hG.frozen 5
  have r5 : W.cell? ⟨R, 5, none⟩ = some (.int .u32 0) := hR.cell 5
  have f5 := hR.frozen 5
  have v6 : W.cell? ⟨M, 6, none⟩ = some (.int .u32 m6) := hM.cell 6
  have g6 : W.cell? ⟨G, 6, none⟩ = some (.int .u32 0) := hG.cell 6
  have e6 := hG.frozen 6
  have r6 : W.cell? ⟨R, 6, none⟩ = some (.int .u32 0) := hR.cell 6
  have f6 := hR.frozen 6
  have v7 : W.cell? ⟨M, 7, none⟩ = some (.slice rA rn rc) := hM.cell 7
  have g7 : W.cell? ⟨G, 7, none⟩ = some (.slice none 0 0) := hG.cell 7
  have e7 := hG.frozen 7
  have r7 : W.cell? ⟨R, 7, none⟩ = some (.slice none 0 0) := hR.cell 7
  have f7 := hR.frozen 7
  have v8 : W.cell? ⟨M, 8, none⟩ = some (.slice wA wn wc) := hM.cell 8
  have g8 : W.cell? ⟨G, 8, none⟩ = some (.slice none 0 0) := hG.cell 8
  have e8 := hG.frozen 8
  have r8 : W.cell? ⟨R, 8, none⟩ = some (.slice none 0 0) := hR.cell 8
  have f8 := hR.frozen 8
  have v9 : W.cell? ⟨M, 9, none⟩ = some (.slice pA pn pc) := hM.cell 9
  have g9 : W.cell? ⟨G, 9, none⟩ = some (.slice none 0 0) := hG.cell 9
  have e9 := hG.frozen 9
  have r9 : W.cell? ⟨R, 9, none⟩ = some (.slice none 0 0) := hR.cell 9
  have f9 := hR.frozen 9
  have v10 : W.cell? ⟨M, 10, none⟩ = some (.slice aA an ac) := hM.cell 10
  have g10 : W.cell? ⟨G, 10, none⟩ = some (.slice none 0 0) := hG.cell 10
  have e10 := hG.frozen 10
  have r10 : W.cell? ⟨R, 10, none⟩ = some (.slice none 0 0) := hR.cell 10
  have f10 := hR.frozen 10
  have v11 : W.cell? ⟨M, 11, none⟩ = some (.int .u8 ty) := hM.cell 11
  have g11 : W.cell? ⟨G, 11, none⟩ = some (.int .u8 0) := hG.cell 11
  have e11 := hG.frozen 11
  have r11 : W.cell? ⟨R, 11, none⟩ = some (.int .u8 0) := hR.cell 11
  have f11 := hR.frozen 11
  clear hM hR hG
  go_wp2
  refine bodyPost_res (v := .agg #[.int .i64 kk, .int .u32 m1, .int .u32 0, .int .u64 0, .int .u32 0, .int .u32 0, .int .u32 0, .slice none 0 0, .slice none 0 0, .slice none 0 0, .slice none 0 0, .int .u8 0]) (by simp [results, Try.results19, go_sem, r0, f0, r1, f1, r2, f2, r3, f3, r4, f4, r5, f5, r6, f6, r7, f7, r8, f8, r9, f9, r10, f10, r11, f11, hRG, hGR]) rfl ⟨rfl, ?_⟩
  exact set12_upd _ _ _ _ _ _ _ _ _ _ _ _ _ ((HU.out.setCell (p := ⟨G, 1, none⟩) (.inr HGW.out) _)) (.inr HRW.out)
end Go.Proofs.Ytgkejdjdccgjbaa
