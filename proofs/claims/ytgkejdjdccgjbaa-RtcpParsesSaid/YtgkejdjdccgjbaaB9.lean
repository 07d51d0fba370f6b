/- Parts of the proof, one behind the other: SReadO5, SReadOx, SRead, SIs, All, ParseN, SParse, ParseG. No condition of their own. -/
import Derived.Test.YtgkejdjdccgjbaaB6
import Derived.Test.YtgkejdjdccgjbaaB7
import Derived.Test.YtgkejdjdccgjbaaB8
import Derived.Test.YtgkejdjdccgjbaaB2
import Derived.Test.YtgkejdjdccgjbaaB3
import Derived.Test.YtgkejdjdccgjbaaB5
import Derived.Laws.Closers25
/- A body's message by the document (louverref09.read), arm 'o5'. Conditions: bytes, and which arm. -/
namespace Go.Proofs.Ytgkejdjdccgjbaa
open Go Go.RowKit
set_option maxHeartbeats 400000
set_option maxRecDepth 100000 in
set_option maxHeartbeats 16000000 in
theorem rread_o5 (w : World) (kd : Int) (n : Nat) (xs : List Int) (hk : 0 ≤ kd ∧ kd ≤ 255) (_hn : n ≤ 31) (hb : Byt xs) (hl : xs.length ≤ 100000) (k0 : ¬ kd = 200) (k1 : ¬ kd = 201) (k2 : ¬ kd = 203) (k3 : ¬ kd = 206) (k5 : kd = 205) (kn : ¬ n = 1) :
    Calls Try.prog 32 #[.int .i64 kd, .int .i64 n, .string (strOfNums xs)] w fun e w' => ∃ hd, e = .returned (.tuple #[.agg (mcells (readM kd n xs).1 hd).toArray, .int .i64 (readM kd n xs).2]) ∧ RfIn w' w.heap.size (readM kd n xs).1 hd ∧ WhoNew w.heap.size (readM kd n xs).1 hd ∧ Upd [] w w' := by
  have Hk0 := Lib.hid k0
  have Hk1 := Lib.hid k1
  have Hk2 := Lib.hid k2
  have Hk3 := Lib.hid k3
  have Hk5 := Lib.hid k5
  have Hkn := Lib.hid kn
  clear k0 k1 k2 k3 k5 kn
  rw [read_direct]
  obtain ⟨r, hr⟩ : ∃ r, r = readD kd n xs := ⟨_, rfl⟩
  rw [← hr]
  have HR := Lib.hid hr
  have HBY := Lib.hid hb
  obtain ⟨G, hG⟩ : ∃ G, G = w.heap.size := ⟨_, rfl⟩
  obtain ⟨W1, hW1⟩ : ∃ W, W = w.alloc (.cells #[.int .i64 0, .int .u32 0, .int .u32 0, .int .u64 0, .int .u32 0, .int .u32 0, .int .u32 0, .slice none 0 0, .slice none 0 0, .slice none 0 0, .slice none 0 0, .int .u8 0] 50) := ⟨_, rfl⟩
  obtain ⟨W, hW⟩ : ∃ W, W = W1.alloc (.cells #[.int .i64 6, .int .u32 0, .int .u32 0, .int .u64 0, .int .u32 0, .int .u32 0, .int .u32 0, .slice none 0 0, .slice none 0 0, .slice none 0 0, .slice none 0 0, .int .u8 kd] 50) := ⟨_, rfl⟩
  have u1 : Upd [] w W1 := by rw [hW1]; exact (Upd.refl [] w).alloc _
  have u2 : Upd [] W1 W := by rw [hW]; exact (Upd.refl [] W1).alloc _
  have s1 : W1.heap.size = G + 1 := by rw [hW1, World.size_alloc, hG]
  have HGW : Hid (Blk W G 50 #[.int .i64 0, .int .u32 0, .int .u32 0, .int .u64 0, .int .u32 0, .int .u32 0, .int .u32 0, .slice none 0 0, .slice none 0 0, .slice none 0 0, .slice none 0 0, .int .u8 0]) := Lib.hid (by
    have : Blk W1 G 50 #[.int .i64 0, .int .u32 0, .int .u32 0, .int .u64 0, .int .u32 0, .int .u32 0, .int .u32 0, .slice none 0 0, .slice none 0 0, .slice none 0 0, .slice none 0 0, .int .u8 0] := by rw [hW1, hG]; exact Blk.new _ _ _
    exact this.upd u2 (by simp))
  have HTW : Hid (Blk W (G + 1) 50 #[.int .i64 6, .int .u32 0, .int .u32 0, .int .u64 0, .int .u32 0, .int .u32 0, .int .u32 0, .slice none 0 0, .slice none 0 0, .slice none 0 0, .slice none 0 0, .int .u8 kd]) := Lib.hid (by rw [hW, ← s1]; exact Blk.new _ _ _)
  have HUW := Lib.hid (u1.next u2)
  have HGX := Lib.hid hG
  have hcv : IntKind.u8.wrap kd = kd := by unfold IntKind.wrap; simp [IntKind.bits, IntKind.signed]; omega
  have hsz : (strOfNums xs).size = xs.length := strOfNums_size xs
  clear hr hb u1 u2
  go_enter Try.func32, Try.ntmps32
  go_upto_region 1 with fail
  rw [← hW1, ← hG]
  clear hW1 hG
  go_upto_region 2 with fail
  rw [← hW]
  clear hW hcv
  have k0 := Hk0.out
  have k1 := Hk1.out
  have k2 := Hk2.out
  have k3 := Hk3.out
  have k5 := Hk5.out
  have kn := Hkn.out
  clear Hk0 Hk1 Hk2 Hk3 Hk5 Hkn
  have k' : (205 : Int) = kd := k5.symm
  subst k'
  clear k0 k1 k2 k3 k5
  have HRD : Hid (r = (⟨6, 0, 0, 0, 0, 0, 0, [], [], [], [], 205⟩, 0)) := Lib.hid (by rw [HR.out]; unfold readD; rw [show kindM 205 n = 6 from by unfold kindM; simp; omega]; simp)
  have hn1 : ((n : Int) == 1) = false := beq_eq_false_iff_ne.2 (by omega)
  clear kn
  have hsi : ¬ ((xs.length : Int) < 0) := by omega
  obtain ⟨kx, ux⟩ := blk12g HGW.out (.int .i64 6) (.int .u32 0) (.int .u32 0) (.int .u64 0) (.int .u32 0) (.int .u32 0) (.int .u32 0) (.slice none 0 0) (.slice none 0 0) (.slice none 0 0) (.slice none 0 0) (.int .u8 205)
  obtain ⟨wx, hwx⟩ : ∃ z, z = ((((((((((((W.setCell ⟨G, 0, none⟩ (.int .i64 6)).setCell ⟨G, 1, none⟩ (.int .u32 0)).setCell ⟨G, 2, none⟩ (.int .u32 0)).setCell ⟨G, 3, none⟩ (.int .u64 0)).setCell ⟨G, 4, none⟩ (.int .u32 0)).setCell ⟨G, 5, none⟩ (.int .u32 0)).setCell ⟨G, 6, none⟩ (.int .u32 0)).setCell ⟨G, 7, none⟩ (.slice none 0 0)).setCell ⟨G, 8, none⟩ (.slice none 0 0)).setCell ⟨G, 9, none⟩ (.slice none 0 0)).setCell ⟨G, 10, none⟩ (.slice none 0 0)).setCell ⟨G, 11, none⟩ (.int .u8 205)) := ⟨_, rfl⟩
  rw [← hwx] at kx ux
  have HKX := Lib.hid kx
  have HUX : Hid (Upd [G] W wx) := Lib.hid ux
  have HFX : Hid (Upd [] w wx) := Lib.hid (HUW.out.box' ux (by rw [HGX.out]; exact Nat.le_refl _))
  have HWX := Lib.hid hwx
  clear kx ux hwx
  have t0 : W.cell? ⟨G + 1, 0, none⟩ = some (.int .i64 6) := HTW.out.cell 0
  have t1 : W.cell? ⟨G + 1, 1, none⟩ = some (.int .u32 0) := HTW.out.cell 1
  have t2 : W.cell? ⟨G + 1, 2, none⟩ = some (.int .u32 0) := HTW.out.cell 2
  have t3 : W.cell? ⟨G + 1, 3, none⟩ = some (.int .u64 0) := HTW.out.cell 3
  have t4 : W.cell? ⟨G + 1, 4, none⟩ = some (.int .u32 0) := HTW.out.cell 4
  have t5 : W.cell? ⟨G + 1, 5, none⟩ = some (.int .u32 0) := HTW.out.cell 5
  have t6 : W.cell? ⟨G + 1, 6, none⟩ = some (.int .u32 0) := HTW.out.cell 6
  have t7 : W.cell? ⟨G + 1, 7, none⟩ = some (.slice none 0 0) := HTW.out.cell 7
  have t8 : W.cell? ⟨G + 1, 8, none⟩ = some (.slice none 0 0) := HTW.out.cell 8
  have t9 : W.cell? ⟨G + 1, 9, none⟩ = some (.slice none 0 0) := HTW.out.cell 9
  have t10 : W.cell? ⟨G + 1, 10, none⟩ = some (.slice none 0 0) := HTW.out.cell 10
  have t11 : W.cell? ⟨G + 1, 11, none⟩ = some (.int .u8 205) := HTW.out.cell 11
  have z0 : W.cell? ⟨G, 0, none⟩ = some (.int .i64 0) := HGW.out.cell 0
  have z1 : W.cell? ⟨G, 1, none⟩ = some (.int .u32 0) := HGW.out.cell 1
  have z2 : W.cell? ⟨G, 2, none⟩ = some (.int .u32 0) := HGW.out.cell 2
  have z3 : W.cell? ⟨G, 3, none⟩ = some (.int .u64 0) := HGW.out.cell 3
  have z4 : W.cell? ⟨G, 4, none⟩ = some (.int .u32 0) := HGW.out.cell 4
  have z5 : W.cell? ⟨G, 5, none⟩ = some (.int .u32 0) := HGW.out.cell 5
  have z6 : W.cell? ⟨G, 6, none⟩ = some (.int .u32 0) := HGW.out.cell 6
  have z7 : W.cell? ⟨G, 7, none⟩ = some (.slice none 0 0) := HGW.out.cell 7
  have z8 : W.cell? ⟨G, 8, none⟩ = some (.slice none 0 0) := HGW.out.cell 8
  have z9 : W.cell? ⟨G, 9, none⟩ = some (.slice none 0 0) := HGW.out.cell 9
  have z10 : W.cell? ⟨G, 10, none⟩ = some (.slice none 0 0) := HGW.out.cell 10
  have z11 : W.cell? ⟨G, 11, none⟩ = some (.int .u8 0) := HGW.out.cell 11
  have f0 := HGW.out.frozen 0
  have f1 := HGW.out.frozen 1
  have f2 := HGW.out.frozen 2
  have f3 := HGW.out.frozen 3
  have f4 := HGW.out.frozen 4
  have f5 := HGW.out.frozen 5
  have f6 := HGW.out.frozen 6
  have f7 := HGW.out.frozen 7
  have f8 := HGW.out.frozen 8
  have f9 := HGW.out.frozen 9
  have f10 := HGW.out.frozen 10
  have f11 := HGW.out.frozen 11
  go_wp2
  rw [← HWX.out]
  have g0 : wx.cell? ⟨G, 0, none⟩ = some (.int .i64 6) := HKX.out.cell 0
  have g1 : wx.cell? ⟨G, 1, none⟩ = some (.int .u32 0) := HKX.out.cell 1
  have g2 : wx.cell? ⟨G, 2, none⟩ = some (.int .u32 0) := HKX.out.cell 2
  have g3 : wx.cell? ⟨G, 3, none⟩ = some (.int .u64 0) := HKX.out.cell 3
  have g4 : wx.cell? ⟨G, 4, none⟩ = some (.int .u32 0) := HKX.out.cell 4
  have g5 : wx.cell? ⟨G, 5, none⟩ = some (.int .u32 0) := HKX.out.cell 5
  have g6 : wx.cell? ⟨G, 6, none⟩ = some (.int .u32 0) := HKX.out.cell 6
  have g7 : wx.cell? ⟨G, 7, none⟩ = some (.slice none 0 0) := HKX.out.cell 7
  have g8 : wx.cell? ⟨G, 8, none⟩ = some (.slice none 0 0) := HKX.out.cell 8
  have g9 : wx.cell? ⟨G, 9, none⟩ = some (.slice none 0 0) := HKX.out.cell 9
  have g10 : wx.cell? ⟨G, 10, none⟩ = some (.slice none 0 0) := HKX.out.cell 10
  have g11 : wx.cell? ⟨G, 11, none⟩ = some (.int .u8 205) := HKX.out.cell 11
  refine bodyPost_res (v := .tuple #[.agg #[.int .i64 6, .int .u32 0, .int .u32 0, .int .u64 0, .int .u32 0, .int .u32 0, .int .u32 0, .slice none 0 0, .slice none 0 0, .slice none 0 0, .slice none 0 0, .int .u8 205], .int .i64 0]) (by simp [results, Try.results32, go_sem, Addr.add, g0, g1, g2, g3, g4, g5, g6, g7, g8, g9, g10, g11]) rfl ?_
  exact ⟨hZ, by rw [HRD.out]; rfl, by rw [HRD.out]; exact ⟨CellsIn.nil _ _ _ _ _, CellsIn.nil _ _ _ _ _, CellsIn.nil _ _ _ _ _, CellsIn.nil _ _ _ _ _⟩, by rw [HRD.out]; exact whoNew_nil rfl, HFX.out⟩
end Go.Proofs.Ytgkejdjdccgjbaa
/- A body's message by the document (louverref09.read), arm 'ox'. Conditions: bytes, and which arm. -/
namespace Go.Proofs.Ytgkejdjdccgjbaa
open Go Go.RowKit
set_option maxHeartbeats 400000
set_option maxRecDepth 100000 in
set_option maxHeartbeats 16000000 in
theorem rread_ox (w : World) (kd : Int) (n : Nat) (xs : List Int) (hk : 0 ≤ kd ∧ kd ≤ 255) (_hn : n ≤ 31) (hb : Byt xs) (hl : xs.length ≤ 100000) (k0 : ¬ kd = 200) (k1 : ¬ kd = 201) (k2 : ¬ kd = 203) (k3 : ¬ kd = 206) (k5 : ¬ kd = 205) :
    Calls Try.prog 32 #[.int .i64 kd, .int .i64 n, .string (strOfNums xs)] w fun e w' => ∃ hd, e = .returned (.tuple #[.agg (mcells (readM kd n xs).1 hd).toArray, .int .i64 (readM kd n xs).2]) ∧ RfIn w' w.heap.size (readM kd n xs).1 hd ∧ WhoNew w.heap.size (readM kd n xs).1 hd ∧ Upd [] w w' := by
  have Hk0 := Lib.hid k0
  have Hk1 := Lib.hid k1
  have Hk2 := Lib.hid k2
  have Hk3 := Lib.hid k3
  have Hk5 := Lib.hid k5
  clear k0 k1 k2 k3 k5
  rw [read_direct]
  obtain ⟨r, hr⟩ : ∃ r, r = readD kd n xs := ⟨_, rfl⟩
  rw [← hr]
  have HR := Lib.hid hr
  have HBY := Lib.hid hb
  obtain ⟨G, hG⟩ : ∃ G, G = w.heap.size := ⟨_, rfl⟩
  obtain ⟨W1, hW1⟩ : ∃ W, W = w.alloc (.cells #[.int .i64 0, .int .u32 0, .int .u32 0, .int .u64 0, .int .u32 0, .int .u32 0, .int .u32 0, .slice none 0 0, .slice none 0 0, .slice none 0 0, .slice none 0 0, .int .u8 0] 50) := ⟨_, rfl⟩
  obtain ⟨W, hW⟩ : ∃ W, W = W1.alloc (.cells #[.int .i64 6, .int .u32 0, .int .u32 0, .int .u64 0, .int .u32 0, .int .u32 0, .int .u32 0, .slice none 0 0, .slice none 0 0, .slice none 0 0, .slice none 0 0, .int .u8 kd] 50) := ⟨_, rfl⟩
  have u1 : Upd [] w W1 := by rw [hW1]; exact (Upd.refl [] w).alloc _
  have u2 : Upd [] W1 W := by rw [hW]; exact (Upd.refl [] W1).alloc _
  have s1 : W1.heap.size = G + 1 := by rw [hW1, World.size_alloc, hG]
  have HGW : Hid (Blk W G 50 #[.int .i64 0, .int .u32 0, .int .u32 0, .int .u64 0, .int .u32 0, .int .u32 0, .int .u32 0, .slice none 0 0, .slice none 0 0, .slice none 0 0, .slice none 0 0, .int .u8 0]) := Lib.hid (by
    have : Blk W1 G 50 #[.int .i64 0, .int .u32 0, .int .u32 0, .int .u64 0, .int .u32 0, .int .u32 0, .int .u32 0, .slice none 0 0, .slice none 0 0, .slice none 0 0, .slice none 0 0, .int .u8 0] := by rw [hW1, hG]; exact Blk.new _ _ _
    exact this.upd u2 (by simp))
  have HTW : Hid (Blk W (G + 1) 50 #[.int .i64 6, .int .u32 0, .int .u32 0, .int .u64 0, .int .u32 0, .int .u32 0, .int .u32 0, .slice none 0 0, .slice none 0 0, .slice none 0 0, .slice none 0 0, .int .u8 kd]) := Lib.hid (by rw [hW, ← s1]; exact Blk.new _ _ _)
  have HUW := Lib.hid (u1.next u2)
  have HGX := Lib.hid hG
  have hcv : IntKind.u8.wrap kd = kd := by unfold IntKind.wrap; simp [IntKind.bits, IntKind.signed]; omega
  have hsz : (strOfNums xs).size = xs.length := strOfNums_size xs
  clear hr hb u1 u2
  go_enter Try.func32, Try.ntmps32
  go_upto_region 1 with fail
  rw [← hW1, ← hG]
  clear hW1 hG
  go_upto_region 2 with fail
  rw [← hW]
  clear hW hcv
  have k0 := Hk0.out
  have k1 := Hk1.out
  have k2 := Hk2.out
  have k3 := Hk3.out
  have k5 := Hk5.out
  clear Hk0 Hk1 Hk2 Hk3 Hk5
  have HRD : Hid (r = (⟨6, 0, 0, 0, 0, 0, 0, [], [], [], [], kd⟩, 0)) := Lib.hid (by rw [HR.out]; unfold readD; rw [show kindM kd n = 6 from by unfold kindM; rw [if_neg k0, if_neg k1, if_neg k2, if_neg (fun h => k5 h.1), if_neg (fun h => k3 h.1), if_neg (fun h => k3 h.1)]]; simp)
  have hk0 : (kd == 200) = false := beq_eq_false_iff_ne.2 k0
  have hk1 : (kd == 201) = false := beq_eq_false_iff_ne.2 k1
  have hk2 : (kd == 203) = false := beq_eq_false_iff_ne.2 k2
  have hk3 : (kd == 206) = false := beq_eq_false_iff_ne.2 k3
  have hk5 : (kd == 205) = false := beq_eq_false_iff_ne.2 k5
  clear k0 k1 k2 k3 k5
  have hsi : ¬ ((xs.length : Int) < 0) := by omega
  obtain ⟨kx, ux⟩ := blk12g HGW.out (.int .i64 6) (.int .u32 0) (.int .u32 0) (.int .u64 0) (.int .u32 0) (.int .u32 0) (.int .u32 0) (.slice none 0 0) (.slice none 0 0) (.slice none 0 0) (.slice none 0 0) (.int .u8 kd)
  obtain ⟨wx, hwx⟩ : ∃ z, z = ((((((((((((W.setCell ⟨G, 0, none⟩ (.int .i64 6)).setCell ⟨G, 1, none⟩ (.int .u32 0)).setCell ⟨G, 2, none⟩ (.int .u32 0)).setCell ⟨G, 3, none⟩ (.int .u64 0)).setCell ⟨G, 4, none⟩ (.int .u32 0)).setCell ⟨G, 5, none⟩ (.int .u32 0)).setCell ⟨G, 6, none⟩ (.int .u32 0)).setCell ⟨G, 7, none⟩ (.slice none 0 0)).setCell ⟨G, 8, none⟩ (.slice none 0 0)).setCell ⟨G, 9, none⟩ (.slice none 0 0)).setCell ⟨G, 10, none⟩ (.slice none 0 0)).setCell ⟨G, 11, none⟩ (.int .u8 kd)) := ⟨_, rfl⟩
  rw [← hwx] at kx ux
  have HKX := Lib.hid kx
  have HUX : Hid (Upd [G] W wx) := Lib.hid ux
  have HFX : Hid (Upd [] w wx) := Lib.hid (HUW.out.box' ux (by rw [HGX.out]; exact Nat.le_refl _))
  have HWX := Lib.hid hwx
  clear kx ux hwx
  have t0 : W.cell? ⟨G + 1, 0, none⟩ = some (.int .i64 6) := HTW.out.cell 0
  have t1 : W.cell? ⟨G + 1, 1, none⟩ = some (.int .u32 0) := HTW.out.cell 1
  have t2 : W.cell? ⟨G + 1, 2, none⟩ = some (.int .u32 0) := HTW.out.cell 2
  have t3 : W.cell? ⟨G + 1, 3, none⟩ = some (.int .u64 0) := HTW.out.cell 3
  have t4 : W.cell? ⟨G + 1, 4, none⟩ = some (.int .u32 0) := HTW.out.cell 4
  have t5 : W.cell? ⟨G + 1, 5, none⟩ = some (.int .u32 0) := HTW.out.cell 5
  have t6 : W.cell? ⟨G + 1, 6, none⟩ = some (.int .u32 0) := HTW.out.cell 6
  have t7 : W.cell? ⟨G + 1, 7, none⟩ = some (.slice none 0 0) := HTW.out.cell 7
  have t8 : W.cell? ⟨G + 1, 8, none⟩ = some (.slice none 0 0) := HTW.out.cell 8
  have t9 : W.cell? ⟨G + 1, 9, none⟩ = some (.slice none 0 0) := HTW.out.cell 9
  have t10 : W.cell? ⟨G + 1, 10, none⟩ = some (.slice none 0 0) := HTW.out.cell 10
  have t11 : W.cell? ⟨G + 1, 11, none⟩ = some (.int .u8 kd) := HTW.out.cell 11
  have z0 : W.cell? ⟨G, 0, none⟩ = some (.int .i64 0) := HGW.out.cell 0
  have z1 : W.cell? ⟨G, 1, none⟩ = some (.int .u32 0) := HGW.out.cell 1
  have z2 : W.cell? ⟨G, 2, none⟩ = some (.int .u32 0) := HGW.out.cell 2
  have z3 : W.cell? ⟨G, 3, none⟩ = some (.int .u64 0) := HGW.out.cell 3
  have z4 : W.cell? ⟨G, 4, none⟩ = some (.int .u32 0) := HGW.out.cell 4
  have z5 : W.cell? ⟨G, 5, none⟩ = some (.int .u32 0) := HGW.out.cell 5
  have z6 : W.cell? ⟨G, 6, none⟩ = some (.int .u32 0) := HGW.out.cell 6
  have z7 : W.cell? ⟨G, 7, none⟩ = some (.slice none 0 0) := HGW.out.cell 7
  have z8 : W.cell? ⟨G, 8, none⟩ = some (.slice none 0 0) := HGW.out.cell 8
  have z9 : W.cell? ⟨G, 9, none⟩ = some (.slice none 0 0) := HGW.out.cell 9
  have z10 : W.cell? ⟨G, 10, none⟩ = some (.slice none 0 0) := HGW.out.cell 10
  have z11 : W.cell? ⟨G, 11, none⟩ = some (.int .u8 0) := HGW.out.cell 11
  have f0 := HGW.out.frozen 0
  have f1 := HGW.out.frozen 1
  have f2 := HGW.out.frozen 2
  have f3 := HGW.out.frozen 3
  have f4 := HGW.out.frozen 4
  have f5 := HGW.out.frozen 5
  have f6 := HGW.out.frozen 6
  have f7 := HGW.out.frozen 7
  have f8 := HGW.out.frozen 8
  have f9 := HGW.out.frozen 9
  have f10 := HGW.out.frozen 10
  have f11 := HGW.out.frozen 11
  go_wp2
  rw [← HWX.out]
  have g0 : wx.cell? ⟨G, 0, none⟩ = some (.int .i64 6) := HKX.out.cell 0
  have g1 : wx.cell? ⟨G, 1, none⟩ = some (.int .u32 0) := HKX.out.cell 1
  have g2 : wx.cell? ⟨G, 2, none⟩ = some (.int .u32 0) := HKX.out.cell 2
  have g3 : wx.cell? ⟨G, 3, none⟩ = some (.int .u64 0) := HKX.out.cell 3
  have g4 : wx.cell? ⟨G, 4, none⟩ = some (.int .u32 0) := HKX.out.cell 4
  have g5 : wx.cell? ⟨G, 5, none⟩ = some (.int .u32 0) := HKX.out.cell 5
  have g6 : wx.cell? ⟨G, 6, none⟩ = some (.int .u32 0) := HKX.out.cell 6
  have g7 : wx.cell? ⟨G, 7, none⟩ = some (.slice none 0 0) := HKX.out.cell 7
  have g8 : wx.cell? ⟨G, 8, none⟩ = some (.slice none 0 0) := HKX.out.cell 8
  have g9 : wx.cell? ⟨G, 9, none⟩ = some (.slice none 0 0) := HKX.out.cell 9
  have g10 : wx.cell? ⟨G, 10, none⟩ = some (.slice none 0 0) := HKX.out.cell 10
  have g11 : wx.cell? ⟨G, 11, none⟩ = some (.int .u8 kd) := HKX.out.cell 11
  refine bodyPost_res (v := .tuple #[.agg #[.int .i64 6, .int .u32 0, .int .u32 0, .int .u64 0, .int .u32 0, .int .u32 0, .int .u32 0, .slice none 0 0, .slice none 0 0, .slice none 0 0, .slice none 0 0, .int .u8 kd], .int .i64 0]) (by simp [results, Try.results32, go_sem, Addr.add, g0, g1, g2, g3, g4, g5, g6, g7, g8, g9, g10, g11]) rfl ?_
  exact ⟨hZ, by rw [HRD.out]; rfl, by rw [HRD.out]; exact ⟨CellsIn.nil _ _ _ _ _, CellsIn.nil _ _ _ _ _, CellsIn.nil _ _ _ _ _, CellsIn.nil _ _ _ _ _⟩, by rw [HRD.out]; exact whoNew_nil rfl, HFX.out⟩
end Go.Proofs.Ytgkejdjdccgjbaa
/- A body's message by the document (louverref09.read). Conditions: bytes. -/
namespace Go.Proofs.Ytgkejdjdccgjbaa
open Go Go.RowKit
theorem rread_any (w : World) (kd : Int) (n : Nat) (xs : List Int) (hk : 0 ≤ kd ∧ kd ≤ 255) (hn : n ≤ 31) (hb : Byt xs) (hl : xs.length ≤ 100000) :
    Calls Try.prog 32 #[.int .i64 kd, .int .i64 n, .string (strOfNums xs)] w fun e w' => ∃ hd, e = .returned (.tuple #[.agg (mcells (readM kd n xs).1 hd).toArray, .int .i64 (readM kd n xs).2]) ∧ RfIn w' w.heap.size (readM kd n xs).1 hd ∧ WhoNew w.heap.size (readM kd n xs).1 hd ∧ Upd [] w w' := by
  by_cases k0 : kd = 200
  · exact rread_sender w kd n xs hk hn hb hl k0
  by_cases k1 : kd = 201
  · exact rread_receiver w kd n xs hk hn hb hl k0 k1
  by_cases k2 : kd = 203
  · exact rread_who w kd n xs hk hn hb hl k0 k1 k2
  by_cases k3 : kd = 206
  · by_cases kn : n = 1
    · exact rread_pli w kd n xs hk hn hb hl k0 k1 k2 k3 kn
    by_cases kn4 : n = 4
    · exact rread_fir w kd n xs hk hn hb hl k0 k1 k2 k3 kn kn4
    · exact rread_o6 w kd n xs hk hn hb hl k0 k1 k2 k3 kn kn4
  by_cases k5 : kd = 205
  · by_cases kn : n = 1
    · exact rread_nack w kd n xs hk hn hb hl k0 k1 k2 k3 k5 kn
    · exact rread_o5 w kd n xs hk hn hb hl k0 k1 k2 k3 k5 kn
  · exact rread_ox w kd n xs hk hn hb hl k0 k1 k2 k3 k5
end Go.Proofs.Ytgkejdjdccgjbaa
/- Is by the document (louverref09.Is), on bytes. No condition but bytes. -/
namespace Go.Proofs.Ytgkejdjdccgjbaa
open Go Go.RowKit
set_option maxHeartbeats 400000
set_option maxRecDepth 100000 in
theorem ris_any (w : World) (xs : List Int) (hb : Byt xs) :
    Calls Try.prog 18 #[.string (strOfNums xs)] w fun e w' => e = .returned (.bool (isM xs)) ∧ w = w' := by
  have hsz : (strOfNums xs).size = xs.length := strOfNums_size xs
  obtain ⟨b, hbb⟩ : ∃ b, b = isM xs := ⟨_, rfl⟩
  rw [← hbb]
  have HB := Lib.hid hbb
  clear hbb
  by_cases hl : 1 < xs.length
  · obtain ⟨x0, hx0⟩ : ∃ x, xs[0]? = some x := ⟨_, List.getElem?_eq_getElem (by omega)⟩
    obtain ⟨x1, hx1⟩ : ∃ x, xs[1]? = some x := ⟨_, List.getElem?_eq_getElem (by omega)⟩
    have h0 := hb x0 (List.mem_of_getElem? hx0)
    have h1 := hb x1 (List.mem_of_getElem? hx1)
    have hz0 : 0 < (strOfNums xs).size := by omega
    have hz1 : 1 < (strOfNums xs).size := by omega
    have g0 := strOf_get hz0 hx0 h0
    have g1 := strOf_get hz1 hx1 h1
    have HV : Hid (b = (decide (128 ≤ x0) && decide (x0 < 192) && decide (192 ≤ x1) && decide (x1 < 224))) := Lib.hid (by
      rw [HB.out]
      unfold isM
      have e0 : xs.headD 0 = x0 := by cases xs <;> simp_all
      have e1 : (xs.drop 1).headD 0 = x1 := by
        rcases xs with _ | ⟨a, _ | ⟨c, l⟩⟩ <;> simp_all
      rw [e0, e1, Bool.eq_iff_iff]
      simp
      omega)
    have hli : (1 : Int) < (xs.length : Int) := by omega
    clear hx0 hx1 hl
    go_enter Try.func18, Try.ntmps18
    by_cases k0 : 128 ≤ x0
    · have d0 : decide (128 ≤ x0) = true := decide_eq_true k0
      by_cases k1 : x0 < 192
      · have d1 : decide (x0 < 192) = true := decide_eq_true k1
        by_cases k2 : 192 ≤ x1
        · have d2 : decide (192 ≤ x1) = true := decide_eq_true k2
          have HW : Hid (b = decide (x1 < 224)) := Lib.hid (by rw [HV.out, d0, d1, d2]; rfl)
          go_wp2
          go_ret
          exact ⟨by rw [HW.out]; rfl, rfl⟩
        · have d2 : decide (192 ≤ x1) = false := decide_eq_false k2
          have HW : Hid (b = false) := Lib.hid (by rw [HV.out, d0, d1, d2]; rfl)
          go_wp2
          go_ret
          exact ⟨by rw [HW.out]; rfl, rfl⟩
      · have d1 : decide (x0 < 192) = false := decide_eq_false k1
        have HW : Hid (b = false) := Lib.hid (by rw [HV.out, d0, d1]; rfl)
        go_wp2
        go_ret
        exact ⟨by rw [HW.out]; rfl, rfl⟩
    · have d0 : decide (128 ≤ x0) = false := decide_eq_false k0
      have HW : Hid (b = false) := Lib.hid (by rw [HV.out, d0]; rfl)
      go_wp2
      go_ret
      exact ⟨by rw [HW.out]; rfl, rfl⟩
  · have HW : Hid (b = false) := Lib.hid (by rw [HB.out]; unfold isM; have : decide (2 ≤ xs.length) = false := decide_eq_false (by omega); rw [this]; rfl)
    have hli : ¬ ((1 : Int) < (xs.length : Int)) := by omega
    have dl : decide ((1 : Int) < (xs.length : Int)) = false := decide_eq_false hli
    go_enter Try.func18, Try.ntmps18
    go_wp2
    go_ret
    exact ⟨by rw [HW.out]; rfl, rfl⟩
end Go.Proofs.Ytgkejdjdccgjbaa
/- The laws' 'all': messages as the document has them. Conditions: no more than 1000 messages, their rows no longer than 100000; their numbers of their types. -/
namespace Go.Proofs.Ytgkejdjdccgjbaa
open Go Go.RowKit
set_option maxHeartbeats 400000

theorem infoRM : (Try.prog.info? 50).map (fun i => (i.zero, i.size, i.bytes)) = some (some (.agg (zcells 0).toArray), 12, 144) := by kernel_rfl
theorem RfIn.upd {w w' : World} {lo lo' : Nat} {S : List Nat} {m : Mg} {h : Hd} (k : RfIn w lo m h) (u : Upd S w w') (hS : ∀ s, s ∈ S → 0 < m.reports.length → ∀ a, h.rA = some a → a.block ≠ s) (hS2 : ∀ s, s ∈ S → 0 < m.who.length → ∀ a, h.wA = some a → a.block ≠ s)
    (hS3 : ∀ s, s ∈ S → 0 < m.pairs.length → ∀ a, h.pA = some a → a.block ≠ s) (hS4 : ∀ s, s ∈ S → 0 < m.asks.length → ∀ a, h.aA = some a → a.block ≠ s) (hl : lo' ≤ lo) : RfIn w' lo' m h :=
  ⟨(k.cr.upd2 u (Nat.le_refl _) hS).more hl u.size, (k.cw.upd2 u (Nat.le_refl _) hS2).more (Nat.le_refl _) u.size, (k.cp.upd2 u (Nat.le_refl _) hS3).more hl u.size, (k.ca.upd2 u (Nat.le_refl _) hS4).more hl u.size⟩
theorem RfIn.same {w w' : World} {lo lo' : Nat} {m : Mg} {h : Hd} (k : RfIn w lo m h) (u : Upd [] w w') (hl : lo' ≤ lo) : RfIn w' lo' m h :=
  k.upd u (by simp) (by simp) (by simp) (by simp) hl
theorem RfIn.grown {w w' : World} {lo : Nat} {m : Mg} {h : Hd} {v : Value} (k : RfIn w lo m h) (f : Off v m h) (g : w.grownBy w' v.ownBlock) : RfIn w' lo m h :=
  k.upd (Upd.of_grown g) (fun s hs => f.r s (by simpa using hs)) (fun s hs => f.w s (by simpa using hs)) (fun s hs => f.p s (by simpa using hs)) (fun s hs => f.a s (by simpa using hs)) (Nat.le_refl _)
theorem RfIn.off_new {w : World} {lo : Nat} {m : Mg} {h : Hd} (k : RfIn w lo m h) (u : Value) (hu : ∀ s, u.ownBlock = some s → w.heap.size ≤ s) : Off u m h :=
  ⟨fun s hs hn a ha e => by have := k.cr.below_hi hn a ha; have := hu s hs; omega, fun s hs hn a ha e => by have := k.cw.below_hi hn a ha; have := hu s hs; omega,
   fun s hs hn a ha e => by have := k.cp.below_hi hn a ha; have := hu s hs; omega, fun s hs hn a ha e => by have := k.ca.below_hi hn a ha; have := hu s hs; omega⟩
/-- the rows of a message that was made new, but for one that lies below a block -/
theorem RfIn.off_old {w : World} {lo N : Nat} {m : Mg} {h : Hd} (k : RfIn w lo m h) (u : Value) (hu : ∀ s, u.ownBlock = some s → N ≤ s ∧ s < lo) (hw : ∀ a, h.wA = some a → 0 < m.who.length → a.block < N) : Off u m h :=
  ⟨fun s hs hn a ha e => by have := k.cr.fresh hn a ha; have := hu s hs; omega, fun s hs hn a ha e => by have := hw a ha hn; have := hu s hs; omega,
   fun s hs hn a ha e => by have := k.cp.fresh hn a ha; have := hu s hs; omega, fun s hs hn a ha e => by have := k.ca.fresh hn a ha; have := hu s hs; omega⟩
theorem all_rel {w W w8 : World} {Av : Option Addr} {i cv : Nat} {out : List (Mg × Hd)} {v8 : Value} {m : Mg} {hd : Hd} (hu : Upd [] w W) (ho : W.ownsRow w.heap.size 50 12 (.slice Av i cv) i (out.flatMap encM)) (hi : i = out.length)
    (hin : ∀ x, x ∈ out → RfIn W 0 x.1 x.2 ∧ Off (.slice Av i cv) x.1 x.2) (hn : RfIn W 0 m hd ∧ Off (.slice Av i cv) m hd) (hown8 : w8.ownsRow w.heap.size 50 12 v8 (i + 1) (out.flatMap encM ++ encM (m, hd)))
    (hg8 : W.grownBy w8 (Value.slice Av i cv).ownBlock) (hat8 : v8.ownBlock = (Value.slice Av i cv).ownBlock ∨ v8.ownBlock = some W.heap.size) :
    w8.ownsRow w.heap.size 50 12 v8 (out ++ [(m, hd)]).length ((out ++ [(m, hd)]).flatMap encM) ∧ (∀ x, x ∈ out ++ [(m, hd)] → RfIn w8 0 x.1 x.2 ∧ Off v8 x.1 x.2) ∧ Upd [] w w8 := by
  have hfl : (out ++ [(m, hd)]).flatMap encM = out.flatMap encM ++ encM (m, hd) := by simp
  have hlen' : (out ++ [(m, hd)]).length = i + 1 := by rw [List.length_append, hi]; rfl
  refine ⟨by rw [hfl, hlen']; exact hown8, fun x hx => ?_, app_upd hu ho hg8 (Nat.le_refl _)⟩
  have hk : RfIn W 0 x.1 x.2 ∧ Off (.slice Av i cv) x.1 x.2 := by
    rcases List.mem_append.1 hx with hx | hx
    · exact hin x hx
    · rw [List.mem_singleton] at hx
      subst hx
      exact hn
  refine ⟨hk.1.grown hk.2 hg8, ?_⟩
  rcases hat8 with e | e
  · exact ⟨fun s hs => hk.2.r s (by rw [← e]; exact hs), fun s hs => hk.2.w s (by rw [← e]; exact hs), fun s hs => hk.2.p s (by rw [← e]; exact hs), fun s hs => hk.2.a s (by rw [← e]; exact hs)⟩
  · exact hk.1.off_new _ (fun s hs => by rw [e] at hs; exact Nat.le_of_eq (Option.some.inj hs))
set_option maxRecDepth 100000 in
set_option maxHeartbeats 4000000 in
theorem all_any {w : World} {lo : Nat} {A : Option Addr} {cap : Nat} {ms : List (Mg × Hd)} (hc : CellsIn w lo w.heap.size 12 A ms.length (ms.flatMap encM)) (hm : ∀ x, x ∈ ms → MgIn w lo x.1 x.2 ∧ x.1.Num ∧ x.1.reports.length ≤ 100000 ∧ x.1.pairs.length ≤ 100000 ∧ x.1.asks.length ≤ 100000) (hl : ms.length ≤ 1000) :
    Calls Try.prog 13 #[.slice A ms.length cap] w fun e w' => ∃ (v : Value) (out : List (Mg × Hd)), e = .returned v ∧ out.map (·.1) = ms.map (·.1) ∧ w'.ownsRow w.heap.size 50 12 v out.length (out.flatMap encM) ∧
      (∀ x, x ∈ out → RfIn w' 0 x.1 x.2) ∧ Upd [] w w' := by
  obtain ⟨j0, hj0, hy0, hy1, hy2⟩ := info_parts infoRM
  have HC := Lib.hid hc
  have HM := Lib.hid hm
  clear hc hm
  go_enter Try.func13, Try.ntmps13
  go_wp2
  go_loopg [3, 4] ms.length (fun gk x3 x4 wr => ∃ (out : List (Mg × Hd)), out.length ≤ ms.length ∧ ms.length ≤ out.length + gk ∧ x4 = .int .i64 out.length ∧ out.map (·.1) = (ms.take out.length).map (·.1) ∧ wr.ownsRow w.heap.size 50 12 x3 out.length (out.flatMap encM) ∧
      (∀ x, x ∈ out → RfIn wr 0 x.1 x.2 ∧ Off x3 x.1 x.2) ∧ Upd [] w wr)
  case atStart => exact ⟨[], Nat.zero_le _, by simp, rfl, rfl, World.ownsRow_nil _ _ _ _, by simp, Upd.refl _ _⟩
  case round =>
    obtain ⟨out, hi, hgi, rfl, hmap, hown, hin, hu⟩ := hrel
    obtain ⟨Av, cv, hve, _⟩ := own_form hown
    subst hve
    obtain ⟨i, hie⟩ : ∃ i, i = out.length := ⟨_, rfl⟩
    rw [← hie] at hi hgi hmap hown hin ⊢
    have HIE := Lib.hid hie
    clear hie
    by_cases hlt : i < ms.length
    · obtain ⟨x, hxi⟩ : ∃ p, ms[i]? = some p := ⟨_, List.getElem?_eq_getElem hlt⟩
      obtain ⟨hmi, hnum, hl1, hl2, hl3⟩ := HM.out x (List.mem_of_getElem? hxi)
      obtain ⟨b, off, rfl, hb1, hb2, hcc⟩ := HC.out.2 (by omega)
      have c0 := (hu.cell (p := ⟨b, off + (i * 12 + 0), none⟩) hb2 (by simp)).trans (hcc (i * 12 + 0) _ (flat_get encM_len ms i 0 x hxi (by omega)))
      have c1 := (hu.cell (p := ⟨b, off + (i * 12 + 1), none⟩) hb2 (by simp)).trans (hcc (i * 12 + 1) _ (flat_get encM_len ms i 1 x hxi (by omega)))
      have c2 := (hu.cell (p := ⟨b, off + (i * 12 + 2), none⟩) hb2 (by simp)).trans (hcc (i * 12 + 2) _ (flat_get encM_len ms i 2 x hxi (by omega)))
      have c3 := (hu.cell (p := ⟨b, off + (i * 12 + 3), none⟩) hb2 (by simp)).trans (hcc (i * 12 + 3) _ (flat_get encM_len ms i 3 x hxi (by omega)))
      have c4 := (hu.cell (p := ⟨b, off + (i * 12 + 4), none⟩) hb2 (by simp)).trans (hcc (i * 12 + 4) _ (flat_get encM_len ms i 4 x hxi (by omega)))
      have c5 := (hu.cell (p := ⟨b, off + (i * 12 + 5), none⟩) hb2 (by simp)).trans (hcc (i * 12 + 5) _ (flat_get encM_len ms i 5 x hxi (by omega)))
      have c6 := (hu.cell (p := ⟨b, off + (i * 12 + 6), none⟩) hb2 (by simp)).trans (hcc (i * 12 + 6) _ (flat_get encM_len ms i 6 x hxi (by omega)))
      have c7 := (hu.cell (p := ⟨b, off + (i * 12 + 7), none⟩) hb2 (by simp)).trans (hcc (i * 12 + 7) _ (flat_get encM_len ms i 7 x hxi (by omega)))
      have c8 := (hu.cell (p := ⟨b, off + (i * 12 + 8), none⟩) hb2 (by simp)).trans (hcc (i * 12 + 8) _ (flat_get encM_len ms i 8 x hxi (by omega)))
      have c9 := (hu.cell (p := ⟨b, off + (i * 12 + 9), none⟩) hb2 (by simp)).trans (hcc (i * 12 + 9) _ (flat_get encM_len ms i 9 x hxi (by omega)))
      have c10 := (hu.cell (p := ⟨b, off + (i * 12 + 10), none⟩) hb2 (by simp)).trans (hcc (i * 12 + 10) _ (flat_get encM_len ms i 10 x hxi (by omega)))
      have c11 := (hu.cell (p := ⟨b, off + (i * 12 + 11), none⟩) hb2 (by simp)).trans (hcc (i * 12 + 11) _ (flat_get encM_len ms i 11 x hxi (by omega)))
      obtain ⟨⟨kk, m1, m2, m3, m4, m5, m6, rs, wh, ps, qs, ty⟩, ⟨rA, rc, wA, wc, pA, pc, aA, ac⟩⟩ := x
      dsimp only at hl1 hl2 hl3
      simp only [← Nat.add_assoc, Nat.add_zero] at c0 c1 c2 c3 c4 c5 c6 c7 c8 c9 c10 c11
      have HOF := Lib.hid (of_any (hmi.same hu (Nat.zero_le _)) hnum hl1 hl2 hl3)
      simp only [mcells] at HOF
      have hlti : (i : Int) < (ms.length : Int) := by omega
      have hw : IntKind.i64.wrap ((i : Int) + 1) = (i : Int) + 1 := IntWalk.i64_in _ (by omega)
      have HWL : Hid (∀ a, wA = some a → 0 < wh.length → a.block < w.heap.size) := Lib.hid (fun a ha hn => hmi.cw.below_hi hn a ha)
      have HOW := Lib.hid hown
      have HINR := Lib.hid hin
      have HU := Lib.hid hu
      have HXI := Lib.hid hxi
      have HMAP := Lib.hid hmap
      have HNB : Hid (∀ s, (Value.slice Av i cv).ownBlock = some s → w.heap.size ≤ s ∧ s < wr.heap.size) := Lib.hid (fun s hs => own_block_lt hown hs)
      clear hcc hown hin hu hxi hmap hmi hnum hl1 hl2 hl3
      go_wp2_with fail
      refine HOF.out.mono ?_
      rintro e w2 ⟨⟨dR, cR, dW, cW, dP, cP, dA, cA⟩, rfl, hrf, hwa, hu2⟩
      dsimp only at hwa
      have hoff := hrf.off_old (.slice Av i cv) (N := w.heap.size) HNB.out (fun a ha hn => HWL.out a (by rw [← hwa]; exact ha) hn)
      have HOA := Lib.hid ((ownsRow_upd HOW.out hu2 (by simp)).alloc (.cells #[.int .i64 kk, .int .u32 m1, .int .u32 m2, .int .u64 m3, .int .u32 m4, .int .u32 m5, .int .u32 m6, .slice dR rs.length cR, .slice dW wh.length cW, .slice dP ps.length cP, .slice dA qs.length cA, .int .u8 ty] 50))
      have HRF := Lib.hid (And.intro (hrf.same ((Upd.refl [] w2).alloc (.cells #[.int .i64 kk, .int .u32 m1, .int .u32 m2, .int .u64 m3, .int .u32 m4, .int .u32 m5, .int .u32 m6, .slice dR rs.length cR, .slice dW wh.length cW, .slice dP ps.length cP, .slice dA qs.length cA, .int .u8 ty] 50)) (Nat.zero_le _)) hoff)
      have HI2 := Lib.hid (fun x hx => (⟨(HINR.out x hx).1.same (hu2.alloc (.cells #[.int .i64 kk, .int .u32 m1, .int .u32 m2, .int .u64 m3, .int .u32 m4, .int .u32 m5, .int .u32 m6, .slice dR rs.length cR, .slice dW wh.length cW, .slice dP ps.length cP, .slice dA qs.length cA, .int .u8 ty] 50)) (Nat.le_refl _), (HINR.out x hx).2⟩ : RfIn (w2.alloc (.cells #[.int .i64 kk, .int .u32 m1, .int .u32 m2, .int .u64 m3, .int .u32 m4, .int .u32 m5, .int .u32 m6, .slice dR rs.length cR, .slice dW wh.length cW, .slice dP ps.length cP, .slice dA qs.length cA, .int .u8 ty] 50)) 0 x.1 x.2 ∧ Off (.slice Av i cv) x.1 x.2))
      have HU2 := Lib.hid ((HU.out.next hu2).alloc (.cells #[.int .i64 kk, .int .u32 m1, .int .u32 m2, .int .u64 m3, .int .u32 m4, .int .u32 m5, .int .u32 m6, .slice dR rs.length cR, .slice dW wh.length cW, .slice dP ps.length cP, .slice dA qs.length cA, .int .u8 ty] 50))
      have HNEW := Lib.hid (blk_src (Blk.new w2 50 #[.int .i64 kk, .int .u32 m1, .int .u32 m2, .int .u64 m3, .int .u32 m4, .int .u32 m5, .int .u32 m6, .slice dR rs.length cR, .slice dW wh.length cW, .slice dP ps.length cP, .slice dA qs.length cA, .int .u8 ty]))
      have HONE : Hid (∀ u ∈ ([.int .i64 kk, .int .u32 m1, .int .u32 m2, .int .u64 m3, .int .u32 m4, .int .u32 m5, .int .u32 m6, .slice dR rs.length cR, .slice dW wh.length cW, .slice dP ps.length cP, .slice dA qs.length cA, .int .u8 ty] : List Value), u.oneCell' = true) := Lib.hid (by intro u hu; repeat (first | (rcases List.mem_cons.1 hu with rfl | hu; · rfl) | cases hu))
      clear hrf hwa hu2 hoff HOF HOW HINR HU c0 c1 c2 c3 c4 c5 c6 c7 c8 c9 c10 c11
      go_wp2_with (at_builtin; refine wpList_append_own_at _ rfl (.tmp 11) (.tmp 17) 31 rfl w.heap.size 50 j0 _ 12 144 Try.underlying31 hj0 hy0 hy1 hy2 rfl (by decide) (.slice Av i cv) i (out.flatMap encM) rfl HOA.out ⟨w2.heap.size, 0, none⟩ 1 1 [.int .i64 kk, .int .u32 m1, .int .u32 m2, .int .u64 m3, .int .u32 m4, .int .u32 m5, .int .u32 m6, .slice dR rs.length cR, .slice dW wh.length cW, .slice dP ps.length cP, .slice dA qs.length cA, .int .u8 ty] rfl rfl HNEW.out HONE.out (by unfold maxLen; omega) (by omega) HU2.out.size ?_)
      intro v8 w8 hown8 hg8 _ hat8
      have HREL := Lib.hid (all_rel HU2.out HOA.out HIE.out HI2.out HRF.out hown8 hg8 (by rw [World.size_alloc]; exact hat8))
      obtain ⟨A8, c8, hv8, _⟩ := own_form hown8
      subst hv8
      clear hown8 hg8 hat8 HOA HI2 HRF HNEW HONE HU2
      go_wp2
      go_roundg (gk - 1)
      case measure => omega
      case rel =>
        refine ⟨_, ?_, ?_, ?_, ?_, HREL.out⟩
        · rw [List.length_append, ← HIE.out]; simp; omega
        · rw [List.length_append, ← HIE.out]; simp; omega
        · rw [List.length_append, ← HIE.out]; go_num
        · rw [List.length_append, ← HIE.out, List.map_append, HMAP.out]
          show _ = (ms.take (i + 1)).map (·.1)
          rw [List.take_add_one, HXI.out, List.map_append]
          rfl
    · obtain rfl : i = ms.length := by omega
      rw [List.take_length] at hmap
      have HF := Lib.hid (And.intro hmap (And.intro hown (And.intro (fun x hx => (hin x hx).1) hu)))
      clear hmap hown hin hu hgi hi hlt
      go_wp2
      have HG : Hid (w.heap.size ≤ wr.heap.size ∧ wr.ownsRow w.heap.size 50 12 (.slice Av ms.length cv) out.length (out.flatMap encM)) := by
        rw [← HIE.out]
        exact Lib.hid ⟨HF.out.2.2.2.size, HF.out.2.1⟩
      refine bodyPost_res (v := .slice Av ms.length cv) (by simp [results, Try.results13, go_sem]) rfl ?_
      first
        | exact ⟨_, out, rfl, HF.out.1, HG.out.2, HF.out.2.2⟩
        | exact ⟨_, rfl, out, HF.out.1, HG.out.2, HF.out.2.2⟩
        | exact ⟨_, rfl, out, HF.out.1, HG.out.2, fun a b hab => HF.out.2.2.1 (a, b) hab, HF.out.2.2.2⟩
        | exact ⟨_, out, rfl, HF.out.1, HG.out.2, fun a b hab => HF.out.2.2.1 (a, b) hab, HF.out.2.2.2⟩
end Go.Proofs.Ytgkejdjdccgjbaa
/- The messages that Parse tells have numbers of their types and rows no longer than the bytes. Plain laws, no program in sight. -/
namespace Go.Proofs.Ytgkejdjdccgjbaa
open Go
set_option maxHeartbeats 400000
theorem nAt_le {xs : List Int} (h : Byt xs) (k n : Nat) (b : Int) (hb : (256 : Int) ^ n ≤ b + 1) : 0 ≤ nAt xs k n ∧ nAt xs k n ≤ b := by
  have h1 := numOf_lt ((xs.drop k).take n) (fun y hy => h y (List.mem_of_mem_drop (List.mem_of_mem_take hy)))
  have h2 : (256 : Int) ^ ((xs.drop k).take n).length ≤ 256 ^ n := pow256 (by rw [List.length_take]; omega)
  unfold nAt
  omega
theorem nAt_u32 {xs : List Int} (h : Byt xs) (k : Nat) : U32 (nAt xs k 4) := nAt_le h k 4 4294967295 (by decide)
theorem nAt_u24 {xs : List Int} (h : Byt xs) (k : Nat) : U32 (nAt xs k 3) := by
  have := nAt_le h k 3 16777215 (by decide)
  exact ⟨this.1, by omega⟩
theorem nAt_u16 {xs : List Int} (h : Byt xs) (k : Nat) : U16 (nAt xs k 2) := nAt_le h k 2 65535 (by decide)
theorem nAt_u8 {xs : List Int} (h : Byt xs) (k : Nat) : U8 (nAt xs k 1) := nAt_le h k 1 255 (by decide)
theorem nAt_u64 {xs : List Int} (h : Byt xs) (k : Nat) : U64 (nAt xs k 8) := nAt_le h k 8 18446744073709551615 (by decide)
theorem repAt_ok {xs : List Int} (h : Byt xs) (k : Nat) : (repAt xs k).Ok :=
  ⟨nAt_u32 h _, nAt_u8 h _, nAt_u24 h _, nAt_u32 h _, nAt_u32 h _, nAt_u32 h _, nAt_u32 h _⟩
/-- numbers of their types, and rows no longer than n -/
def NumL (n : Nat) (m : Mg) : Prop := m.Num ∧ m.reports.length ≤ n ∧ m.who.length ≤ n ∧ m.pairs.length ≤ n ∧ m.asks.length ≤ n
theorem z32 : U32 0 := ⟨by decide, by decide⟩
theorem z64 : U64 0 := ⟨by decide, by decide⟩
theorem z8 : U8 0 := ⟨by decide, by decide⟩
theorem no_mem {α : Type} {p : α → Prop} : ∀ x, x ∈ ([] : List α) → p x := fun _ h => by cases h
theorem numl_z (n : Nat) : NumL n mZ := ⟨⟨z32, z32, z64, z32, z32, z32, no_mem, no_mem, no_mem, no_mem, z8⟩, Nat.zero_le _, Nat.zero_le _, Nat.zero_le _, Nat.zero_le _⟩
theorem map_ok {α : Type} {p : α → Prop} {f : Nat → α} (h : ∀ i, p (f i)) (n : Nat) : ∀ x, x ∈ (List.range n).map f → p x := fun x hx => by
  obtain ⟨i, _, rfl⟩ := List.mem_map.1 hx
  exact h i
theorem map_le {α : Type} {f : Nat → α} {n k : Nat} (h : n ≤ k) : ((List.range n).map f).length ≤ k := by rw [List.length_map, List.length_range]; exact h
theorem read_num {t : Int} {n : Nat} {xs : List Int} (h : Byt xs) (ht : 0 ≤ t ∧ t ≤ 255) (N : Nat) (hn : xs.length ≤ N) : NumL N (readM t n xs).1 := by
  rw [read_direct]
  unfold readD
  by_cases h0 : kindM t n = 0
  · rw [if_pos h0]
    by_cases hs : xs.length < 24 + 24 * n
    · rw [if_pos hs]; exact numl_z N
    · rw [if_neg hs]
      exact ⟨⟨nAt_u32 h _, z32, nAt_u64 h _, nAt_u32 h _, nAt_u32 h _, nAt_u32 h _, map_ok (fun i => repAt_ok h _) n, no_mem, no_mem, no_mem, z8⟩, map_le (by omega), Nat.zero_le _, Nat.zero_le _, Nat.zero_le _⟩
  rw [if_neg h0]
  by_cases h1 : kindM t n = 1
  · rw [if_pos h1]
    by_cases hs : xs.length < 4 + 24 * n
    · rw [if_pos hs]; exact numl_z N
    · rw [if_neg hs]
      exact ⟨⟨nAt_u32 h _, z32, z64, z32, z32, z32, map_ok (fun i => repAt_ok h _) n, no_mem, no_mem, no_mem, z8⟩, map_le (by omega), Nat.zero_le _, Nat.zero_le _, Nat.zero_le _⟩
  rw [if_neg h1]
  by_cases h2 : kindM t n = 2
  · rw [if_pos h2]
    by_cases hs : xs.length < 4 * n
    · rw [if_pos hs]; exact numl_z N
    · rw [if_neg hs]
      exact ⟨⟨z32, z32, z64, z32, z32, z32, no_mem, map_ok (fun i => nAt_u32 h _) n, no_mem, no_mem, z8⟩, Nat.zero_le _, map_le (by omega), Nat.zero_le _, Nat.zero_le _⟩
  rw [if_neg h2]
  by_cases h3 : kindM t n = 3
  · rw [if_pos h3]
    by_cases hs : xs.length < 8
    · rw [if_pos hs]; exact numl_z N
    rw [if_neg hs]
    by_cases hz : (xs.length - 8) / 4 = 0
    · rw [if_pos hz]; exact numl_z N
    · rw [if_neg hz]
      exact ⟨⟨nAt_u32 h _, nAt_u32 h _, z64, z32, z32, z32, no_mem, no_mem, map_ok (fun i => ⟨nAt_u16 h _, nAt_u16 h _⟩) _, no_mem, z8⟩, Nat.zero_le _, Nat.zero_le _, map_le (by omega), Nat.zero_le _⟩
  rw [if_neg h3]
  by_cases h4 : kindM t n = 4
  · rw [if_pos h4]
    by_cases hs : xs.length < 8
    · rw [if_pos hs]; exact numl_z N
    · rw [if_neg hs]
      exact ⟨⟨nAt_u32 h _, nAt_u32 h _, z64, z32, z32, z32, no_mem, no_mem, no_mem, no_mem, z8⟩, Nat.zero_le _, Nat.zero_le _, Nat.zero_le _, Nat.zero_le _⟩
  rw [if_neg h4]
  by_cases h5 : kindM t n = 5
  · rw [if_pos h5]
    by_cases hs : xs.length < 8
    · rw [if_pos hs]; exact numl_z N
    rw [if_neg hs]
    by_cases hz : (xs.length - 8) / 8 = 0
    · rw [if_pos hz]; exact numl_z N
    · rw [if_neg hz]
      exact ⟨⟨nAt_u32 h _, nAt_u32 h _, z64, z32, z32, z32, no_mem, no_mem, no_mem, map_ok (fun i => ⟨nAt_u32 h _, nAt_u8 h _⟩) _, z8⟩, Nat.zero_le _, Nat.zero_le _, Nat.zero_le _, map_le (by omega)⟩
  rw [if_neg h5]
  exact ⟨⟨z32, z32, z64, z32, z32, z32, no_mem, no_mem, no_mem, no_mem, ht⟩, Nat.zero_le _, Nat.zero_le _, Nat.zero_le _, Nat.zero_le _⟩
theorem bodyOf_sub {x0 : Int} {xs b : List Int} {l : Bool} (h : bodyOf x0 xs l = some b) : (∀ z, z ∈ b → z ∈ xs) ∧ b.length ≤ xs.length := by
  unfold bodyOf at h
  split at h
  · obtain ⟨_, k, rfl⟩ := cutM_sub h
    exact ⟨fun z hz => List.mem_of_mem_take hz, by rw [List.length_take]; omega⟩
  · obtain rfl := Option.some.inj h
    exact ⟨fun _ hz => hz, Nat.le_refl _⟩
theorem step_num {xs rest : List Int} {m : Mg} (h : Byt xs) (N : Nat) (hn : xs.length ≤ N) (hs : stepM xs = .ok (m, rest)) : NumL N m ∧ Byt rest ∧ rest.length + 4 ≤ xs.length := by
  match xs, hs with
  | [], hs => cases hs
  | [_], hs => cases hs
  | [_, _], hs => cases hs
  | [_, _, _], hs => cases hs
  | x0 :: x1 :: x2 :: x3 :: body, hs =>
    have hb : Byt body := fun z hz => h z (by simp [hz])
    have h1 := h x1 (by simp)
    simp only [List.length_cons] at hn
    by_cases hi : isM [x0, x1, x2, x3] = true
    · by_cases hc : body.length < 4 * (x2.toNat * 256 + x3.toNat)
      · rw [stepM_cut hi hc] at hs; cases hs
      rcases hbo : bodyOf x0 (body.take (4 * (x2.toNat * 256 + x3.toNat))) (decide ((body.drop (4 * (x2.toNat * 256 + x3.toNat))).length = 0)) with _ | b
      · rw [stepM_pad hi hc hbo] at hs; cases hs
      rw [stepM_read hi hc hbo] at hs
      split at hs
      · injection hs with hs
        injection hs with e1 e2
        subst e1 e2
        obtain ⟨k1, k2⟩ := bodyOf_sub hbo
        rw [List.length_take] at k2
        refine ⟨read_num (fun z hz => hb z (List.mem_of_mem_take (k1 z hz))) h1 N (by omega), fun z hz => hb z (List.mem_of_mem_drop hz), ?_⟩
        rw [List.length_drop]
        simp only [List.length_cons]
        omega
      · cases hs
    · rw [stepM_form (by simpa using hi)] at hs; cases hs
theorem parseA_num (N : Nat) : ∀ (f : Nat) (out : List Mg) (xs : List Int), Byt xs → xs.length ≤ N → (∀ m, m ∈ out → NumL N m) → ∀ m, m ∈ (parseA f out xs).1 → NumL N m
  | 0, _, _, _, _, _ => fun m hm => by cases hm
  | f + 1, out, xs, hb, hn, ho => by
    rcases hs : stepM xs with e | ⟨m, rest⟩
    · rw [parseA_err hs]; intro m hm; cases hm
    · obtain ⟨k1, k2, k3⟩ := step_num hb N hn hs
      have ho' : ∀ x, x ∈ out ++ [m] → NumL N x := fun x hx => by
        rcases List.mem_append.1 hx with hx | hx
        · exact ho x hx
        · rw [List.mem_singleton] at hx; subst hx; exact k1
      rw [parseA_ok hs]
      split
      · exact ho'
      · exact parseA_num N f _ rest k2 (by omega) ho'
theorem parseA_len : ∀ (f : Nat) (out : List Mg) (xs : List Int) (K : Nat), Byt xs → 4 * out.length + xs.length ≤ K → 4 * (parseA f out xs).1.length ≤ K
  | 0, _, _, _, _, _ => Nat.zero_le _
  | f + 1, out, xs, K, hb, hn => by
    rcases hs : stepM xs with e | ⟨m, rest⟩
    · rw [parseA_err hs]; exact Nat.zero_le _
    · obtain ⟨k1, k2, k3⟩ := step_num hb xs.length (Nat.le_refl _) hs
      rw [parseA_ok hs]
      split
      · rw [List.length_append, List.length_singleton]; omega
      · exact parseA_len f _ rest K k2 (by rw [List.length_append, List.length_singleton]; omega)
/-- what Parse tells of bytes -/
theorem parse_num {xs : List Int} (h : Byt xs) : (∀ m, m ∈ (parseM xs).1 → NumL 1500 m) ∧ (parseM xs).1.length ≤ 375 := by
  unfold parseM
  by_cases hl : 1500 < xs.length
  · rw [if_pos hl]; exact ⟨no_mem, Nat.zero_le _⟩
  · rw [if_neg hl]
    exact ⟨parseA_num 1500 _ _ _ h (by omega) no_mem, (by have := parseA_len (xs.length + 1) [] xs 1500 h (by simp; omega); omega)⟩
end Go.Proofs.Ytgkejdjdccgjbaa
/- The document's Parse (louverref09.Parse): what it answers is parseM's answer. Conditions: bytes, no more than 100000. (Written by wip/gen/rtcpsparse.py.) -/
namespace Go.Proofs.Ytgkejdjdccgjbaa
open Go Go.RowKit
set_option maxHeartbeats 400000
theorem isM_four (x0 x1 x2 x3 : Int) (l : List Int) : isM (x0 :: x1 :: x2 :: x3 :: l) = isM [x0, x1, x2, x3] := by simp [isM]
theorem strOf_empty {xs : List Int} (h : xs = []) : (strOfNums xs).toList.isEmpty = true :=
  (decide_eq_emptyBytes (strOfNums xs) (inst := Classical.propDecidable _)).symm.trans (by
    subst h
    exact @decide_eq_true _ (Classical.propDecidable _) rfl)
theorem strOf_ne {xs : List Int} (h : 0 < xs.length) : (strOfNums xs).toList.isEmpty = false :=
  (decide_eq_emptyBytes (strOfNums xs) (inst := Classical.propDecidable _)).symm.trans (@decide_eq_false _ (Classical.propDecidable _) fun e => by
    have := strOfNums_size xs
    rw [e] at this
    have h0 : ByteArray.empty.size = 0 := rfl
    omega)
theorem strOf_from {xs : List Int} (a n : Nat) (h : n = xs.length) : (strOfNums xs).extract a n = strOfNums (xs.drop a) := by
  rw [strOf_extract, List.take_of_length_le (by rw [List.length_drop]; omega)]
theorem strOf_upto (xs : List Int) (n : Nat) : (strOfNums xs).extract 0 n = strOfNums (xs.take n) := by
  rw [strOf_extract, List.drop_zero, Nat.sub_zero]
theorem RfIn.off_fresh {w : World} {lo : Nat} {m : Mg} {h : Hd} (k : RfIn w lo m h) (hw : WhoNew lo m h) (u : Value) (hu : ∀ s, u.ownBlock = some s → s < lo) : Off u m h :=
  ⟨fun s hs hn a ha e => by have := k.cr.fresh hn a ha; have := hu s hs; omega, fun s hs hn a ha e => by have := hw a ha hn; have := hu s hs; omega,
   fun s hs hn a ha e => by have := k.cp.fresh hn a ha; have := hu s hs; omega, fun s hs hn a ha e => by have := k.ca.fresh hn a ha; have := hu s hs; omega⟩
theorem cutM_nl (xs : List Int) : cutM xs false = none := by unfold cutM; rw [if_pos (.inl rfl)]
theorem cutM_nil {xs : List Int} (l : Bool) (h : xs.length = 0) : cutM xs l = none := by unfold cutM; rw [if_pos (.inr h)]
theorem last_at {xs : List Int} {k : Nat} {x : Int} (hl : xs.length = k + 1) (hx : xs[k]? = some x) : xs.getLastD 0 = x := by
  rw [List.getLastD_eq_getLast?, List.getLast?_eq_getElem?, hl, Nat.add_sub_cancel, hx]; rfl
theorem cutM_bad {xs : List Int} {k : Nat} {x : Int} (hl : xs.length = k + 1) (hx : xs[k]? = some x) (h : x = 0 ∨ x % 4 ≠ 0 ∨ (k : Int) + 1 < x) : cutM xs true = none := by
  unfold cutM
  rw [if_neg (by rintro (h | h); cases h; omega)]
  dsimp only
  rw [last_at hl hx, if_pos (by rw [hl]; omega)]
theorem cutM_good {xs : List Int} {k n : Nat} (hl : xs.length = k + 1) (hx : xs[k]? = some (n : Int)) (h1 : ¬ (n : Int) = 0) (h2 : (n : Int) % 4 = 0) (h3 : n ≤ k + 1) : cutM xs true = some (xs.take (k + 1 - n)) := by
  unfold cutM
  rw [if_neg (by rintro (h | h); cases h; omega)]
  dsimp only
  rw [last_at hl hx, if_neg (by rw [hl]; omega), hl, Int.toNat_natCast]
set_option maxRecDepth 100000 in
set_option maxHeartbeats 4000000 in
theorem rparse_any (w : World) (xs : List Int) (hl : xs.length ≤ 100000) (hb : Byt xs) :
    Calls Try.prog 15 #[.string (strOfNums xs)] w fun e w' => ∃ (v : Value) (out : List (Mg × Hd)), e = .returned (.tuple #[v, .int .i64 (parseM xs).2]) ∧ out.map (·.1) = (parseM xs).1 ∧ w'.ownsRow w.heap.size 50 12 v out.length (out.flatMap encM) ∧
      (∀ x, x ∈ out → RfIn w' 0 x.1 x.2) ∧ Upd [] w w' := by
  obtain ⟨j0, hj0, hy0, hy1, hy2⟩ := info_parts infoRM
  obtain ⟨R, hR⟩ : ∃ R, R = parseM xs := ⟨_, rfl⟩
  rw [← hR]
  have hsz : (strOfNums xs).size = xs.length := strOfNums_size xs
  obtain ⟨L, hL⟩ : ∃ L, L = xs.length := ⟨_, rfl⟩
  rw [← hL] at hl hsz
  have HRR := Lib.hid hR
  have HLL := Lib.hid hL
  have HBY := Lib.hid hb
  clear hb hR hL
  by_cases hbig : (1500 : Int) < (L : Int)
  · have HRE : Hid (R = ([], 13)) := Lib.hid (by rw [HRR.out]; unfold parseM; rw [if_pos (by rw [← HLL.out]; omega)])
    go_enter Try.func15, Try.ntmps15
    go_wp2
    refine bodyPost_res (v := .tuple #[.slice none 0 0, .int .i64 13]) (by simp [results, Try.results15, go_sem]) rfl ?_
    first
      | exact ⟨_, [], by rw [HRE.out], by rw [HRE.out]; rfl, World.ownsRow_nil _ _ _ _, by simp, Upd.refl _ _⟩
      | exact ⟨_, by rw [HRE.out], [], by rw [HRE.out]; rfl, World.ownsRow_nil _ _ _ _, by simp, Upd.refl _ _⟩
  have HR0 : Hid (R = parseA (L + 1) [] xs) := Lib.hid (by rw [HRR.out]; unfold parseM; rw [if_neg (by rw [← HLL.out]; omega), HLL.out])
  clear HRR
  by_cases hz : L = 0
  · have hx0 : xs = [] := List.eq_nil_of_length_eq_zero (by rw [← HLL.out]; exact hz)
    have HRE : Hid (R = ([], 10)) := Lib.hid (by rw [HR0.out, hx0]; rfl)
    have hse := strOf_empty hx0
    clear hx0
    go_enter Try.func15, Try.ntmps15
    go_wp2
    refine bodyPost_res (v := .tuple #[.slice none 0 0, .int .i64 10]) (by simp [results, Try.results15, go_sem]) rfl ?_
    first
      | exact ⟨_, [], by rw [HRE.out], by rw [HRE.out]; rfl, World.ownsRow_nil _ _ _ _, by simp, Upd.refl _ _⟩
      | exact ⟨_, by rw [HRE.out], [], by rw [HRE.out]; rfl, World.ownsRow_nil _ _ _ _, by simp, Upd.refl _ _⟩
  have hne := strOf_ne (xs := xs) (by rw [← HLL.out]; omega)
  go_enter Try.func15, Try.ntmps15
  go_wp2
  go_loopg [0, 4] L (fun gk x0 x4 wr => ∃ (ys : List Int) (out : List (Mg × Hd)) (f : Nat), x0 = .string (strOfNums ys) ∧ Byt ys ∧ ys.length ≤ gk ∧ ys.length < f ∧ 4 * out.length + ys.length ≤ L ∧ (if ys.length = 0 then (out.map (·.1), (0 : Int)) else parseA f (out.map (·.1)) ys) = R ∧
      wr.ownsRow w.heap.size 50 12 x4 out.length (out.flatMap encM) ∧ (∀ x, x ∈ out → RfIn wr 0 x.1 x.2 ∧ Off x4 x.1 x.2) ∧ Upd [] w wr)
  case atStart => exact ⟨xs, [], L + 1, rfl, HBY.out, by rw [HLL.out]; exact Nat.le_refl _, by rw [HLL.out]; exact Nat.lt_succ_self _, by rw [HLL.out]; simp, by rw [if_neg (by rw [← HLL.out]; exact hz)]; exact HR0.out.symm, World.ownsRow_nil _ _ _ _, by simp, Upd.refl _ _⟩
  case round =>
    obtain ⟨ys, out, f, rfl, hby, hgk, hf, hlo, hpa, hown, hin, hu⟩ := hrel
    obtain ⟨Av, cv, hve, _⟩ := own_form hown
    subst hve
    clear HR0 HBY HLL hne hsz hz
    have hsz : (strOfNums ys).size = ys.length := strOfNums_size ys
    have HOW := Lib.hid hown
    have HIN := Lib.hid hin
    have HU := Lib.hid hu
    have HB := Lib.hid hby
    have HGK := Lib.hid (And.intro hgk (And.intro hf hlo))
    clear hown hin hu hby hgk hf
    by_cases hz : ys.length = 0
    · rw [if_pos hz] at hpa
      have HRE : Hid (R = (out.map (·.1), 0)) := Lib.hid hpa.symm
      have hse := strOf_empty (List.eq_nil_of_length_eq_zero hz)
      clear hpa
      go_wp2
      refine bodyPost_res (v := .tuple #[.slice Av out.length cv, .int .i64 0]) (by simp [results, Try.results15, go_sem]) rfl ?_
      first
        | exact ⟨_, out, by rw [HRE.out], by rw [HRE.out], HOW.out, fun x hx => (HIN.out x hx).1, HU.out⟩
        | exact ⟨_, by rw [HRE.out], out, by rw [HRE.out], HOW.out, fun x hx => (HIN.out x hx).1, HU.out⟩
        | exact ⟨_, by rw [HRE.out], out, by rw [HRE.out], HOW.out, fun a b hab => (HIN.out (a, b) hab).1, HU.out⟩
    rw [if_neg hz] at hpa
    obtain ⟨f, rfl⟩ : ∃ g, f = g + 1 := ⟨f - 1, by have := HGK.out.2.1; omega⟩
    have HPA := Lib.hid hpa
    have hne := strOf_ne (xs := ys) (by omega)
    clear hpa
    by_cases hlt4 : ys.length < 4
    · have HRE : Hid (R = ([], 10)) := Lib.hid (by rw [← HPA.out, parseA_err (stepM_short hlt4)])
      have hsi : (ys.length : Int) < 4 := by omega
      go_wp2
      refine bodyPost_res (v := .tuple #[.slice none 0 0, .int .i64 10]) (by simp [results, Try.results15, go_sem]) rfl ?_
      first
        | exact ⟨_, [], by rw [HRE.out], by rw [HRE.out]; rfl, World.ownsRow_nil _ _ _ _, by simp, HU.out⟩
        | exact ⟨_, by rw [HRE.out], [], by rw [HRE.out]; rfl, World.ownsRow_nil _ _ _ _, by simp, HU.out⟩
    obtain ⟨x0, x1, x2, x3, body, hr⟩ : ∃ x0 x1 x2 x3 body, ys = x0 :: x1 :: x2 :: x3 :: body := by
      match hq : ys, hlt4 with
      | x0 :: x1 :: x2 :: x3 :: body, _ => exact ⟨x0, x1, x2, x3, body, rfl⟩
      | [], h4 => exact absurd (by simp) h4
      | [_], h4 => exact absurd (by simp) h4
      | [_, _], h4 => exact absurd (by simp) h4
      | [_, _, _], h4 => exact absurd (by simp) h4
    have hbx0 := HB.out x0 (by rw [hr]; simp)
    have hbx1 := HB.out x1 (by rw [hr]; simp)
    have hbx2 := HB.out x2 (by rw [hr]; simp)
    have hbx3 := HB.out x3 (by rw [hr]; simp)
    have hlr : ys.length = body.length + 4 := by rw [hr]; simp
    have HBD : Hid (Byt body) := Lib.hid (fun z hz => HB.out z (by rw [hr]; simp [hz]))
    have HIS := Lib.hid (fun W => ris_any W ys HB.out)
    rw [hr, isM_four, ← hr] at HIS
    obtain ⟨q, hq⟩ : ∃ q : Nat, q = x2.toNat * 256 + x3.toNat := ⟨_, rfl⟩
    have HQ := Lib.hid hq
    have hqb : q ≤ 65535 := by omega
    have HNUM : Hid (∀ W : World, Calls Try.prog 31 #[.string (strOfNums ys), .int .i64 2, .int .i64 2] W fun e w' => e = .returned (.int .u64 (q : Int)) ∧ Upd [] W w') := Lib.hid (fun W => by
      have h := dnumat_any W ys 2 2 (by decide) (by decide) (by omega) HB.out (by omega)
      rwa [show numOf ((ys.drop 2).take 2) = (q : Int) from by rw [hr]; simp [numOf]; omega] at h)
    have hp0 : 0 < (strOfNums ys).size := by omega
    have hp1 : 1 < (strOfNums ys).size := by omega
    have hget0 := strOf_get (xs := ys) (i := 0) hp0 (by rw [hr]; rfl) hbx0
    have hget1 := strOf_get (xs := ys) (i := 1) hp1 (by rw [hr]; rfl) hbx1
    have hex1 : (strOfNums ys).extract 4 (4 + 4 * q) = strOfNums (body.take (4 * q)) := by rw [strOf_extract, hr, Nat.add_sub_cancel_left]; rfl
    have hex2 : (strOfNums ys).extract (4 + 4 * q) (body.length + 4) = strOfNums (body.drop (4 * q)) := by rw [strOf_from _ _ hlr.symm, hr, ← List.drop_drop]; rfl
    obtain ⟨is, his⟩ : ∃ is, is = isM [x0, x1, x2, x3] := ⟨_, rfl⟩
    rw [← his] at HIS
    rw [hlr] at hsz hlt4 hlo
    have HR := Lib.hid (And.intro hr hlr)
    rw [hr] at HPA
    clear hr hlr hq hz
    have hsi : ¬ ((body.length : Int) + 4 < 4) := by omega
    cases is with
    | false =>
      have HRE : Hid (R = ([], 11)) := Lib.hid (by rw [← HPA.out, parseA_err (stepM_form his.symm)])
      clear his
      go_wp2_with fail
      refine (HIS.out _).mono ?_
      rintro _ w2 ⟨rfl, rfl⟩
      go_wp2
      refine bodyPost_res (v := .tuple #[.slice none 0 0, .int .i64 11]) (by simp [results, Try.results15, go_sem]) rfl ?_
      first
        | exact ⟨_, [], by rw [HRE.out], by rw [HRE.out]; rfl, World.ownsRow_nil _ _ _ _, by simp, HU.out⟩
        | exact ⟨_, by rw [HRE.out], [], by rw [HRE.out]; rfl, World.ownsRow_nil _ _ _ _, by simp, HU.out⟩
    | true =>
    have hh01 : (128 ≤ x0 ∧ x0 < 192) ∧ (192 ≤ x1 ∧ x1 ≤ 223) := by simp [isM] at his; omega
    have HISM := Lib.hid his.symm
    clear his
    go_wp2_with fail
    refine (HIS.out _).mono ?_
    rintro _ w2 ⟨rfl, rfl⟩
    have hwa : IntKind.i64.wrap (q : Int) = (q : Int) := IntWalk.i64_in _ (by omega)
    have hwb : IntKind.i64.wrap (4 * (q : Int)) = 4 * (q : Int) := IntWalk.i64_in _ (by omega)
    have hwc : IntKind.i64.wrap (4 + 4 * (q : Int)) = 4 + 4 * (q : Int) := IntWalk.i64_in _ (by omega)
    have hti : ((4 : Int) + 4 * (q : Int)).toNat = 4 + 4 * q := by omega
    clear HIS
    go_wp2_with fail
    refine (HNUM.out _).mono ?_
    rintro _ w2 ⟨rfl, hu2⟩
    have HU2 := Lib.hid (HU.out.next hu2)
    have HOW2 := Lib.hid (ownsRow_upd HOW.out hu2 (by simp))
    have HIN2 := Lib.hid (fun x hx => (⟨(HIN.out x hx).1.same hu2 (Nat.le_refl _), (HIN.out x hx).2⟩ : RfIn w2 0 x.1 x.2 ∧ Off (.slice Av out.length cv) x.1 x.2))
    clear HNUM hu2 HU HOW HIN
    by_cases hsh : body.length < 4 * q
    · have HRE : Hid (R = ([], 10)) := Lib.hid (by rw [← HPA.out, parseA_err (stepM_cut HISM.out (by rw [← HQ.out]; exact hsh))])
      have hsj : (body.length : Int) + 4 < 4 + 4 * (q : Int) := by omega
      go_wp2
      refine bodyPost_res (v := .tuple #[.slice none 0 0, .int .i64 10]) (by simp [results, Try.results15, go_sem]) rfl ?_
      first
        | exact ⟨_, [], by rw [HRE.out], by rw [HRE.out]; rfl, World.ownsRow_nil _ _ _ _, by simp, HU2.out⟩
        | exact ⟨_, by rw [HRE.out], [], by rw [HRE.out]; rfl, World.ownsRow_nil _ _ _ _, by simp, HU2.out⟩
    have hsj : ¬ ((body.length : Int) + 4 < 4 + 4 * (q : Int)) := by omega
    have hle1 : (4 : Int) + 4 * (q : Int) ≤ (body.length : Int) + 4 := by omega
    obtain ⟨d, hd⟩ : ∃ d, d = x0 / 32 := ⟨_, rfl⟩
    have htd : x0.tdiv 32 = d := by rw [Int.tdiv_eq_ediv_of_nonneg hbx0.1, hd]
    have hdb : 0 ≤ d ∧ d ≤ 7 := by omega
    obtain ⟨m, hm⟩ : ∃ m, m = d % 2 := ⟨_, rfl⟩
    have htm : d.tmod 2 = m := by rw [Int.tmod_eq_emod_of_nonneg hdb.1, hm]
    have HM : Hid (m = x0 / 32 % 2) := Lib.hid (by rw [hm, hd])
    obtain ⟨nn, hnn⟩ : ∃ nn : Nat, nn = (x0 % 32).toNat := ⟨_, rfl⟩
    have htn : x0.tmod 32 = (nn : Int) := by rw [Int.tmod_eq_emod_of_nonneg hbx0.1]; omega
    have hnb : nn ≤ 31 := by omega
    have HNN := Lib.hid hnn
    have hwd : IntKind.i64.wrap d = d := IntWalk.i64_in _ (by omega)
    have hwx : IntKind.i64.wrap x0 = x0 := IntWalk.i64_in _ (by omega)
    clear hd hm hnn
    go_upto_if 53 with fail
    obtain ⟨B, hB⟩ : ∃ B, B = body.take (4 * q) := ⟨_, rfl⟩
    obtain ⟨S, hS⟩ : ∃ S, S = body.drop (4 * q) := ⟨_, rfl⟩
    rw [← hB, ← hS]
    have hszB : (strOfNums B).size = B.length := strOfNums_size B
    have HBB : Hid (Byt B) := Lib.hid (by rw [hB]; exact fun z hz => HBD.out z (List.mem_of_mem_take hz))
    have hlB : B.length ≤ 100000 := by rw [hB, List.length_take]; omega
    have HSB := Lib.hid (And.intro hB hS)
    obtain ⟨bl, hbl⟩ : ∃ n, n = B.length := ⟨_, rfl⟩
    rw [← hbl] at hszB hlB
    have HBL := Lib.hid hbl
    have HSH := Lib.hid hsh
    have HH := Lib.hid (And.intro hh01 (And.intro hbx1 (And.intro hlo hl)))
    clear hB hS hbl hsh hsj hle1 hti hwa hwb hwc hex1 hex2 hget0 hget1 hp0 hp1 hlt4 hsi hqb hbx0 hbx1 hbx2 hbx3 hh01 hsz hne hlo hl
    go_cut [7] (fun s7 wd => wd = w2 ∧ ∃ b : List Int, s7 = .string (strOfNums b) ∧ bodyOf x0 B (decide (S.length = 0)) = some b)
    case first =>
      by_cases hp : m = 1
      · have HP : Hid (x0 / 32 % 2 = 1) := Lib.hid (by rw [← HM.out, hp])
        have HPAD : Hid (cutM B (decide (S.length = 0)) = none → R = ([], 11)) := Lib.hid (fun hc => by
          rw [← HPA.out, parseA_err (stepM_pad HISM.out (by rw [← HQ.out]; exact HSH.out) (by rw [← HQ.out, ← HSB.out.1, ← HSB.out.2, bodyOf, if_pos HP.out]; exact hc))])
        subst hp
        by_cases hs : 0 < S.length
        · have hsne := strOf_ne hs
          have HRE : Hid (R = ([], 11)) := Lib.hid (HPAD.out (by rw [decide_eq_false (by omega)]; exact cutM_nl _))
          clear HPAD
          go_wp2
          refine bodyPost_res (v := .tuple #[.slice none 0 0, .int .i64 11]) (by simp [results, Try.results15, go_sem]) rfl ?_
          first
            | exact ⟨_, [], by rw [HRE.out], by rw [HRE.out]; rfl, World.ownsRow_nil _ _ _ _, by simp, HU2.out⟩
            | exact ⟨_, by rw [HRE.out], [], by rw [HRE.out]; rfl, World.ownsRow_nil _ _ _ _, by simp, HU2.out⟩
        have hs0 : S = [] := List.eq_nil_of_length_eq_zero (by omega)
        have hse := strOf_empty hs0
        by_cases hb0 : bl = 0
        · have HRE : Hid (R = ([], 11)) := Lib.hid (HPAD.out (cutM_nil _ (by rw [← HBL.out]; exact hb0)))
          have hbe := strOf_empty (List.eq_nil_of_length_eq_zero (by rw [← HBL.out]; exact hb0))
          clear HPAD hs0 hs
          go_wp2
          refine bodyPost_res (v := .tuple #[.slice none 0 0, .int .i64 11]) (by simp [results, Try.results15, go_sem]) rfl ?_
          first
            | exact ⟨_, [], by rw [HRE.out], by rw [HRE.out]; rfl, World.ownsRow_nil _ _ _ _, by simp, HU2.out⟩
            | exact ⟨_, by rw [HRE.out], [], by rw [HRE.out]; rfl, World.ownsRow_nil _ _ _ _, by simp, HU2.out⟩
        have hbne := strOf_ne (xs := B) (by rw [← HBL.out]; omega)
        obtain ⟨k, hk⟩ : ∃ k, bl = k + 1 := ⟨bl - 1, by omega⟩
        have hlk : B.length = k + 1 := by rw [← HBL.out, hk]
        obtain ⟨x, hxk⟩ : ∃ x, B[k]? = some x := ⟨_, List.getElem?_eq_getElem (by omega)⟩
        have hxb := HBB.out x (List.mem_of_getElem? hxk)
        have hpk : k < (strOfNums B).size := by rw [hszB, hk]; omega
        have hgk := strOf_get (xs := B) (i := k) hpk hxk hxb
        have HX := Lib.hid (And.intro hlk hxk)
        have HSE : Hid (decide (S.length = 0) = true) := Lib.hid (decide_eq_true (by rw [hs0]; rfl))
        have hwk : IntKind.i64.wrap x = x := IntWalk.i64_in _ (by omega)
        rw [hk] at hszB hlB
        have hkk : (((k + 1 : Nat) : Int) - 1) = (k : Int) := by omega
        have hkw : IntKind.i64.wrap (k : Int) = (k : Int) := IntWalk.i64_in _ (by omega)
        clear hs0 hs hb0 hk hlk hxk
        by_cases k1 : x = 0
        · have HRE : Hid (R = ([], 11)) := Lib.hid (HPAD.out (by rw [HSE.out]; exact cutM_bad HX.out.1 HX.out.2 (.inl k1)))
          subst k1
          clear HPAD
          go_wp2
          refine bodyPost_res (v := .tuple #[.slice none 0 0, .int .i64 11]) (by simp [results, Try.results15, go_sem]) rfl ?_
          first
            | exact ⟨_, [], by rw [HRE.out], by rw [HRE.out]; rfl, World.ownsRow_nil _ _ _ _, by simp, HU2.out⟩
            | exact ⟨_, by rw [HRE.out], [], by rw [HRE.out]; rfl, World.ownsRow_nil _ _ _ _, by simp, HU2.out⟩
        obtain ⟨r4, hr4⟩ : ∃ r, r = x % 4 := ⟨_, rfl⟩
        have htr : x.tmod 4 = r4 := by rw [Int.tmod_eq_emod_of_nonneg hxb.1, hr4]
        have HR4 := Lib.hid hr4
        clear hr4
        by_cases k2 : r4 = 0
        rotate_left
        · have HRE : Hid (R = ([], 11)) := Lib.hid (HPAD.out (by rw [HSE.out]; exact cutM_bad HX.out.1 HX.out.2 (.inr (.inl (by rw [← HR4.out]; exact k2)))))
          clear HPAD
          go_wp2
          refine bodyPost_res (v := .tuple #[.slice none 0 0, .int .i64 11]) (by simp [results, Try.results15, go_sem]) rfl ?_
          first
            | exact ⟨_, [], by rw [HRE.out], by rw [HRE.out]; rfl, World.ownsRow_nil _ _ _ _, by simp, HU2.out⟩
            | exact ⟨_, by rw [HRE.out], [], by rw [HRE.out]; rfl, World.ownsRow_nil _ _ _ _, by simp, HU2.out⟩
        subst k2
        by_cases k3 : (k : Int) + 1 < x
        · have HRE : Hid (R = ([], 11)) := Lib.hid (HPAD.out (by rw [HSE.out]; exact cutM_bad HX.out.1 HX.out.2 (.inr (.inr k3))))
          clear HPAD
          go_wp2
          refine bodyPost_res (v := .tuple #[.slice none 0 0, .int .i64 11]) (by simp [results, Try.results15, go_sem]) rfl ?_
          first
            | exact ⟨_, [], by rw [HRE.out], by rw [HRE.out]; rfl, World.ownsRow_nil _ _ _ _, by simp, HU2.out⟩
            | exact ⟨_, by rw [HRE.out], [], by rw [HRE.out]; rfl, World.ownsRow_nil _ _ _ _, by simp, HU2.out⟩
        obtain ⟨n, rfl⟩ : ∃ n : Nat, x = n := ⟨x.toNat, by omega⟩
        have HBO : Hid (bodyOf x0 B (decide (S.length = 0)) = some (B.take (k + 1 - n))) := Lib.hid (by
          rw [bodyOf, if_pos HP.out, HSE.out]
          exact cutM_good HX.out.1 HX.out.2 k1 HR4.out.symm (by omega))
        have hte : ((k : Int) + 1 - (n : Int)).toNat = k + 1 - n := by omega
        have hex := strOf_upto B (k + 1 - n)
        have hle0 : (0 : Int) ≤ (k : Int) + 1 - (n : Int) := by omega
        have hle1 : (k : Int) + 1 - (n : Int) ≤ (k : Int) + 1 := by omega
        have hwn : IntKind.i64.wrap ((k : Int) + 1 - (n : Int)) = (k : Int) + 1 - (n : Int) := IntWalk.i64_in _ (by omega)
        clear HPAD
        go_wp2
        go_meet
        case rel => exact ⟨rfl, _, rfl, HBO.out⟩
      · have HBO : Hid (bodyOf x0 B (decide (S.length = 0)) = some B) := Lib.hid (by rw [bodyOf, if_neg (by rw [← HM.out]; exact hp)])
        have hmb : (m == 1) = false := beq_eq_false_iff_ne.2 hp
        go_wp2
        go_meet
        case rel => exact ⟨rfl, _, rfl, HBO.out⟩
    obtain ⟨hwd, b, rfl, hbo⟩ := hcut
    obtain rfl := hwd.symm
    have hbb : Byt b ∧ b.length ≤ 100000 := by
      obtain ⟨s1, s2⟩ := bodyOf_sub hbo
      exact ⟨fun z hz => HBB.out z (s1 z hz), by rw [← HBL.out] at s2; omega⟩
    obtain ⟨⟨⟨mk, m1, m2, m3, m4, m5, m6, mR, mW, mP, mA, mT⟩, ee⟩, hrm⟩ : ∃ z, z = readM x1 nn b := ⟨_, rfl⟩
    have hstep := stepM_read (rest := body) HISM.out (by rw [← HQ.out]; exact HSH.out) (by rw [← HQ.out, ← HSB.out.1, ← HSB.out.2]; exact hbo)
    rw [← HNN.out, ← hrm, ← HQ.out, ← HSB.out.2] at hstep
    dsimp only at hstep
    have hread := rread_any w2 x1 nn b HH.out.2.1 hnb hbb.1 hbb.2
    rw [← hrm] at hread
    simp only [mcells] at hread
    have HREAD := Lib.hid hread
    have HSTEP := Lib.hid hstep
    have hwr : IntKind.i64.wrap (nn : Int) = (nn : Int) := IntWalk.i64_in _ (by omega)
    clear hstep hbo hrm hread hbb
    go_wp2_with fail
    refine HREAD.out.mono ?_
    rintro _ w3 ⟨⟨dR, cR, dW, cW, dP, cP, dA, cA⟩, rfl, hrf, hwn, hu3⟩
    dsimp only
    clear HREAD
    have HRF3 := Lib.hid (And.intro hrf hwn)
    have HU3 := Lib.hid hu3
    clear hrf hwn hu3
    go_upto_region 27 with fail
    obtain ⟨W, hW⟩ : ∃ z, z = w3.alloc (.cells #[.int .i64 mk, .int .u32 m1, .int .u32 m2, .int .u64 m3, .int .u32 m4, .int .u32 m5, .int .u32 m6, .slice dR mR.length cR, .slice dW mW.length cW, .slice dP mP.length cP, .slice dA mA.length cA, .int .u8 mT] 50) := ⟨_, rfl⟩
    obtain ⟨G, hG⟩ : ∃ g, g = w3.heap.size := ⟨_, rfl⟩
    rw [← hW, ← hG]
    have hu : Upd [] w3 W := by rw [hW]; exact (Upd.refl [] w3).alloc _
    have hbk : Blk W G 50 #[.int .i64 mk, .int .u32 m1, .int .u32 m2, .int .u64 m3, .int .u32 m4, .int .u32 m5, .int .u32 m6, .slice dR mR.length cR, .slice dW mW.length cW, .slice dP mP.length cP, .slice dA mA.length cA, .int .u8 mT] := by rw [hW, hG]; exact Blk.new _ _ _
    have HU4 := Lib.hid (HU3.out.next hu)
    have HUW := Lib.hid (HU2.out.next HU4.out)
    have HOW4 := Lib.hid (ownsRow_upd HOW2.out HU4.out (by simp))
    have HIN4 := Lib.hid (fun x hx => (⟨(HIN2.out x hx).1.same HU4.out (Nat.le_refl _), (HIN2.out x hx).2⟩ : RfIn W 0 x.1 x.2 ∧ Off (.slice Av out.length cv) x.1 x.2))
    have HRF4 := Lib.hid (And.intro (HRF3.out.1.same (lo' := 0) hu (Nat.zero_le _)) (HRF3.out.1.off_fresh HRF3.out.2 (.slice Av out.length cv) (fun s hs => (own_block_lt HOW2.out hs).2)))
    have HBK := Lib.hid hbk
    clear hu hbk hW hG HIN2 HOW2 HRF3 HU3
    by_cases he : ee = 0
    rotate_left
    · have HRE : Hid (R = ([], ee)) := Lib.hid (by
        rw [← HPA.out]
        refine parseA_err ?_
        rw [HSTEP.out, if_neg he])
      have heb : (ee == 0) = false := beq_eq_false_iff_ne.2 he
      go_wp2
      refine bodyPost_res (v := .tuple #[.slice none 0 0, .int .i64 ee]) (by simp [results, Try.results15, go_sem]) rfl ?_
      first
        | exact ⟨_, [], by rw [HRE.out], by rw [HRE.out]; rfl, World.ownsRow_nil _ _ _ _, by simp, HUW.out⟩
        | exact ⟨_, by rw [HRE.out], [], by rw [HRE.out]; rfl, World.ownsRow_nil _ _ _ _, by simp, HUW.out⟩
    subst he
    have hok := HSTEP.out
    rw [if_pos rfl] at hok
    have HPO := Lib.hid (HPA.out.symm.trans (parseA_ok hok))
    have z0 : W.cell? ⟨G, 0, none⟩ = some (.int .i64 mk) := HBK.out.cell 0
    have z1 : W.cell? ⟨G, 1, none⟩ = some (.int .u32 m1) := HBK.out.cell 1
    have z2 : W.cell? ⟨G, 2, none⟩ = some (.int .u32 m2) := HBK.out.cell 2
    have z3 : W.cell? ⟨G, 3, none⟩ = some (.int .u64 m3) := HBK.out.cell 3
    have z4 : W.cell? ⟨G, 4, none⟩ = some (.int .u32 m4) := HBK.out.cell 4
    have z5 : W.cell? ⟨G, 5, none⟩ = some (.int .u32 m5) := HBK.out.cell 5
    have z6 : W.cell? ⟨G, 6, none⟩ = some (.int .u32 m6) := HBK.out.cell 6
    have z7 : W.cell? ⟨G, 7, none⟩ = some (.slice dR mR.length cR) := HBK.out.cell 7
    have z8 : W.cell? ⟨G, 8, none⟩ = some (.slice dW mW.length cW) := HBK.out.cell 8
    have z9 : W.cell? ⟨G, 9, none⟩ = some (.slice dP mP.length cP) := HBK.out.cell 9
    have z10 : W.cell? ⟨G, 10, none⟩ = some (.slice dA mA.length cA) := HBK.out.cell 10
    have z11 : W.cell? ⟨G, 11, none⟩ = some (.int .u8 mT) := HBK.out.cell 11
    have HIE := Lib.hid (rfl : out.length = out.length)
    obtain ⟨W', hW'⟩ : ∃ z, z = W.alloc (.cells #[.int .i64 mk, .int .u32 m1, .int .u32 m2, .int .u64 m3, .int .u32 m4, .int .u32 m5, .int .u32 m6, .slice dR mR.length cR, .slice dW mW.length cW, .slice dP mP.length cP, .slice dA mA.length cA, .int .u8 mT] 50) := ⟨_, rfl⟩
    have hu : Upd [] W W' := by rw [hW']; exact (Upd.refl [] W).alloc _
    have HOA : Hid ((W.alloc (.cells #[.int .i64 mk, .int .u32 m1, .int .u32 m2, .int .u64 m3, .int .u32 m4, .int .u32 m5, .int .u32 m6, .slice dR mR.length cR, .slice dW mW.length cW, .slice dP mP.length cP, .slice dA mA.length cA, .int .u8 mT] 50)).ownsRow w.heap.size 50 12 (.slice Av out.length cv) out.length (out.flatMap encM)) := Lib.hid (HOW4.out.alloc _)
    have HU5 : Hid (Upd [] w (W.alloc (.cells #[.int .i64 mk, .int .u32 m1, .int .u32 m2, .int .u64 m3, .int .u32 m4, .int .u32 m5, .int .u32 m6, .slice dR mR.length cR, .slice dW mW.length cW, .slice dP mP.length cP, .slice dA mA.length cA, .int .u8 mT] 50))) := Lib.hid (HUW.out.alloc _)
    have HI5 : Hid (∀ x, x ∈ out → RfIn (W.alloc (.cells #[.int .i64 mk, .int .u32 m1, .int .u32 m2, .int .u64 m3, .int .u32 m4, .int .u32 m5, .int .u32 m6, .slice dR mR.length cR, .slice dW mW.length cW, .slice dP mP.length cP, .slice dA mA.length cA, .int .u8 mT] 50)) 0 x.1 x.2 ∧ Off (.slice Av out.length cv) x.1 x.2) := Lib.hid (by rw [← hW']; exact fun x hx => ⟨(HIN4.out x hx).1.same hu (Nat.le_refl _), (HIN4.out x hx).2⟩)
    have HRF5 : Hid (RfIn (W.alloc (.cells #[.int .i64 mk, .int .u32 m1, .int .u32 m2, .int .u64 m3, .int .u32 m4, .int .u32 m5, .int .u32 m6, .slice dR mR.length cR, .slice dW mW.length cW, .slice dP mP.length cP, .slice dA mA.length cA, .int .u8 mT] 50)) 0 ⟨mk, m1, m2, m3, m4, m5, m6, mR, mW, mP, mA, mT⟩ ⟨dR, cR, dW, cW, dP, cP, dA, cA⟩ ∧ Off (.slice Av out.length cv) ⟨mk, m1, m2, m3, m4, m5, m6, mR, mW, mP, mA, mT⟩ ⟨dR, cR, dW, cW, dP, cP, dA, cA⟩) := Lib.hid (by rw [← hW']; exact ⟨HRF4.out.1.same hu (Nat.le_refl _), HRF4.out.2⟩)
    have HNEW := Lib.hid (blk_src (Blk.new W 50 #[.int .i64 mk, .int .u32 m1, .int .u32 m2, .int .u64 m3, .int .u32 m4, .int .u32 m5, .int .u32 m6, .slice dR mR.length cR, .slice dW mW.length cW, .slice dP mP.length cP, .slice dA mA.length cA, .int .u8 mT]))
    have HONE : Hid (∀ u ∈ ([.int .i64 mk, .int .u32 m1, .int .u32 m2, .int .u64 m3, .int .u32 m4, .int .u32 m5, .int .u32 m6, .slice dR mR.length cR, .slice dW mW.length cW, .slice dP mP.length cP, .slice dA mA.length cA, .int .u8 mT] : List Value), u.oneCell' = true) := Lib.hid (by intro u hu; repeat (first | (rcases List.mem_cons.1 hu with rfl | hu; · rfl) | cases hu))
    have hol : out.length ≤ 100000 := by have := HGK.out.2.2; have := HH.out.2.2.2; omega
    clear hu hW' hok HSTEP HPA HOW4 HIN4 HRF4 HBK HU4 HUW
    go_wp2_with (at_builtin; refine wpList_append_own_at _ rfl (.tmp 96) (.tmp 98) 31 rfl w.heap.size 50 j0 _ 12 144 Try.underlying31 hj0 hy0 hy1 hy2 rfl (by decide) (.slice Av out.length cv) out.length (out.flatMap encM) rfl HOA.out ⟨W.heap.size, 0, none⟩ 1 1 [.int .i64 mk, .int .u32 m1, .int .u32 m2, .int .u64 m3, .int .u32 m4, .int .u32 m5, .int .u32 m6, .slice dR mR.length cR, .slice dW mW.length cW, .slice dP mP.length cP, .slice dA mA.length cA, .int .u8 mT] rfl rfl HNEW.out HONE.out (by unfold maxLen; omega) (by omega) HU5.out.size ?_)
    intro v8 w8 hown8 hg8 _ hat8
    have HREL := Lib.hid (all_rel HU5.out HOA.out rfl HI5.out HRF5.out hown8 hg8 (by rw [World.size_alloc]; exact hat8))
    obtain ⟨A8, c8, hv8, _⟩ := own_form hown8
    subst hv8
    clear hown8 hg8 hat8 HOA HI5 HRF5 HNEW HONE HU5
    go_wp2
    have HSL : Hid (S.length = body.length - 4 * q ∧ Byt S) := Lib.hid (by rw [HSB.out.2, List.length_drop]; exact ⟨rfl, fun z hz => HBD.out z (List.mem_of_mem_drop hz)⟩)
    go_roundg (gk - 1)
    case measure => have := HGK.out; have := HR.out.2; omega
    case rel =>
      have h1 := HGK.out
      have h2 := HR.out.2
      have h3 := HSL.out.1
      refine ⟨S, _, f, rfl, HSL.out.2, by omega, by omega, ?_, ?_, HREL.out⟩
      · rw [List.length_append, List.length_singleton]; omega
      · rw [List.map_append]; exact HPO.out.symm
end Go.Proofs.Ytgkejdjdccgjbaa
/- rtcp's Parse, whole: what it answers is parseM's answer. Conditions: bytes, no more than 100000. (Written by wip/gen/rtcpparseg.py.) -/
namespace Go.Proofs.Ytgkejdjdccgjbaa
open Go Go.RowKit
set_option maxHeartbeats 400000

set_option maxRecDepth 100000 in
set_option maxHeartbeats 3000000 in
theorem parse_any {w : World} {lo : Nat} {r : Rw} (h : RowIn w lo .u8 r) (hl : r.xs.length ≤ 100000) (hb : Byt r.xs) :
    Calls Try.prog 14 #[encR r] w fun e w' => ∃ (v : Value) (out : List (Mg × Hd)), e = .returned (.tuple #[v, .int .i64 (parseM r.xs).2]) ∧ out.map (·.1) = (parseM r.xs).1 ∧ w'.ownsRow w.heap.size 59 12 v out.length (out.flatMap encM) ∧
      (∀ x, x ∈ out → MgIn w' w.heap.size x.1 x.2) ∧ Upd [] w w' := by
  obtain ⟨j0, hj0, hy0, hy1, hy2⟩ := info_parts infoM
  have HN := Lib.hid (cut_new h hl)
  unfold encR at HN ⊢
  obtain ⟨L, hL⟩ : ∃ L, L = r.xs.length := ⟨_, rfl⟩
  have HLL := Lib.hid hL
  rw [← hL] at HN hl ⊢
  have HBY := Lib.hid hb
  obtain ⟨R, hR⟩ : ∃ R, R = parseM r.xs := ⟨_, rfl⟩
  rw [← hR]
  have HRR := Lib.hid hR
  clear h hb hL hR
  by_cases hbig : (1500 : Int) < (L : Int)
  · have hRe : R = ([], 13) := by rw [HRR.out]; unfold parseM; rw [if_pos (by rw [← HLL.out]; omega)]
    have HRE := Lib.hid hRe
    clear hRe HN
    go_enter Try.func14, Try.ntmps14
    go_wp2
    exact bodyPost_res (v := .tuple #[.slice none 0 0, .int .i64 13]) (by simp [results, Try.results14, go_sem]) rfl ⟨_, [], by rw [HRE.out], by rw [HRE.out]; rfl, World.ownsRow_nil _ _ _ _, by simp, Upd.refl _ _⟩
  have HR0 : Hid (R = parseA (L + 1) [] r.xs) := by
    rw [HRR.out]; unfold parseM; rw [if_neg (by rw [← HLL.out]; omega), HLL.out]; exact Lib.hid rfl
  clear HRR
  go_enter Try.func14, Try.ntmps14
  go_wp2_with fail
  refine HN.out.mono ?_
  rintro e w1 ⟨c, ra, rfl, hx, hcut, hc0, hra, hu⟩
  have HC := Lib.hid hcut
  have HU := Lib.hid hu
  have HX := Lib.hid hx
  have HC0 := Lib.hid hc0
  obtain ⟨N1, hN1⟩ : ∃ N1, N1 = w1.heap.size := ⟨_, rfl⟩
  have HCN : Hid (c < N1) := by rw [hN1]; exact Lib.hid hcut.bl.lt
  have HWN : Hid (w.heap.size ≤ N1) := by rw [hN1]; exact Lib.hid hu.size
  have HRA0 : Hid (∀ a, ra.A = some a → a.block < N1) := Lib.hid (fun a ha => Nat.lt_trans (hra a ha).2 HCN.out)
  have HN1 : Hid (N1 ≤ w1.heap.size) := by rw [hN1]; exact Lib.hid (Nat.le_refl _)
  clear hx hcut hc0 hu HN hra hN1
  go_wp2
  go_loopg [5] L (fun gk x5 wr => (∃ (re : Rw) (out : List (Mg × Hd)) (f : Nat), CutIs wr c w.heap.size re 0 ∧ Byt re.xs ∧ 4 * out.length + re.xs.length ≤ L ∧ re.xs.length ≤ gk ∧ (re.xs.length = 0 → L = 0) ∧ re.xs.length < f ∧ parseA f (out.map (·.1)) re.xs = R ∧
      wr.ownsRow N1 59 12 x5 out.length (out.flatMap encM) ∧ (∀ x, x ∈ out → MgIn wr N1 x.1 x.2 ∧ Off x5 x.1 x.2) ∧ (∀ a, re.A = some a → a.block < N1) ∧ N1 ≤ wr.heap.size ∧ Upd [] w wr) ∨
    (∃ (re : Rw) (out : List (Mg × Hd)), CutIs wr c w.heap.size re 0 ∧ re.xs = [] ∧ 0 < L ∧ R = (out.map (·.1), 0) ∧ wr.ownsRow w.heap.size 59 12 x5 out.length (out.flatMap encM) ∧ (∀ x, x ∈ out → MgIn wr w.heap.size x.1 x.2) ∧ Upd [] w wr))
  case atStart =>
    refine .inl ⟨ra, [], L + 1, HC.out, by rw [HX.out]; exact HBY.out, ?_, ?_, ?_, ?_, ?_, World.ownsRow_nil _ _ _ _, by simp, HRA0.out, HN1.out, HU.out⟩
    · rw [HX.out, ← HLL.out]; simp
    · rw [HX.out, ← HLL.out]; exact Nat.le_refl _
    · rw [HX.out, ← HLL.out]; exact id
    · rw [HX.out, ← HLL.out]; omega
    · rw [HR0.out, HX.out]; rfl
  case round =>
    clear HC HU HX HR0 HBY HLL HN1 HRA0
    rcases hrel with ⟨re, out, f, hcut, hby, hlo, hgk, hz, hf, hpa, hown, hmi, hrow, hn1, hu⟩ | ⟨re, out, hcut, hre, hL0, hRe, hown, hmi, hu⟩
    rotate_left
    · have HL := Lib.hid (left_any hcut)
      rw [hre] at HL
      dsimp only [List.length_nil] at HL
      have HFN := Lib.hid (And.intro hown (And.intro hmi hu))
      have HRE := Lib.hid hRe
      have hL0' : ¬ (L : Int) = 0 := by omega
      have hL0b : ((L : Int) == 0) = false := beq_eq_false_iff_ne.2 hL0'
      clear hown hmi hu hcut hre hRe
      go_wp2_with fail
      refine HL.out.mono ?_
      rintro e w2 ⟨rfl, rfl⟩
      go_wp2
      exact bodyPost_res (v := .tuple #[u5, .int .i64 0]) (by simp [results, Try.results14, go_sem]) rfl ⟨_, out, by rw [HRE.out], by rw [HRE.out], HFN.out⟩
    obtain ⟨f, rfl⟩ : ∃ g, f = g + 1 := ⟨f - 1, by omega⟩
    obtain ⟨Av, cv, hve, _⟩ := own_form hown
    subst hve
    have HL := Lib.hid (left_any hcut)
    have HCU := Lib.hid hcut
    have HOW := Lib.hid hown
    have HMI := Lib.hid hmi
    have HU := Lib.hid hu
    have HPA := Lib.hid hpa
    have HB := Lib.hid hby
    have HN1 := Lib.hid hn1
    have HROW0 := Lib.hid hrow
    clear hn1 hrow hcut hown hmi hu hpa hby
    by_cases hlt4 : re.xs.length < 4
    · have hRe : R = ([], 10) := by rw [← HPA.out, parseA_err (stepM_short hlt4)]
      have HRE := Lib.hid hRe
      have HBS := Lib.hid (bytes_short HCU.out 4 hlt4)
      clear hRe
      by_cases h0 : re.xs.length = 0
      · obtain rfl := hz h0
        rw [h0] at HL
        clear hz
        go_wp2_with fail
        refine HL.out.mono ?_
        rintro e w2 ⟨rfl, rfl⟩
        go_wp2_with fail
        refine HBS.out.mono ?_
        rintro e w3 ⟨rfl, h3, hu3⟩
        have HE := Lib.hid (err_any h3)
        have HU3 := Lib.hid (HU.out.trans hu3 (fun s hs => .inr (by rw [List.mem_singleton] at hs; subst hs; exact HC0.out)))
        clear h3 hu3
        go_wp2_with fail
        refine HE.out.mono ?_
        rintro e w4 ⟨rfl, rfl⟩
        go_wp2
        exact bodyPost_res (v := .tuple #[.slice none 0 0, .int .i64 10]) (by simp [results, Try.results14, go_sem]) rfl ⟨_, [], by rw [HRE.out], by rw [HRE.out]; rfl, World.ownsRow_nil _ _ _ _, by simp, HU3.out⟩
      · have h0' : (0 : Int) < (re.xs.length : Int) := by omega
        have hgo : ((re.xs.length : Int) == 0) = false := beq_eq_false_iff_ne.2 (by omega)
        clear hz
        go_wp2_with fail
        refine HL.out.mono ?_
        rintro e w2 ⟨rfl, rfl⟩
        go_wp2_with fail
        refine HBS.out.mono ?_
        rintro e w3 ⟨rfl, h3, hu3⟩
        have HE := Lib.hid (err_any h3)
        have HU3 := Lib.hid (HU.out.trans hu3 (fun s hs => .inr (by rw [List.mem_singleton] at hs; subst hs; exact HC0.out)))
        clear h3 hu3
        go_wp2_with fail
        refine HE.out.mono ?_
        rintro e w4 ⟨rfl, rfl⟩
        go_wp2
        exact bodyPost_res (v := .tuple #[.slice none 0 0, .int .i64 10]) (by simp [results, Try.results14, go_sem]) rfl ⟨_, [], by rw [HRE.out], by rw [HRE.out]; rfl, World.ownsRow_nil _ _ _ _, by simp, HU3.out⟩
    obtain ⟨x0, x1, x2, x3, body, hr⟩ : ∃ x0 x1 x2 x3 body, re.xs = x0 :: x1 :: x2 :: x3 :: body := by
      match hq : re.xs, hlt4 with
      | x0 :: x1 :: x2 :: x3 :: body, _ => exact ⟨x0, x1, x2, x3, body, rfl⟩
      | [], h4 => exact absurd (by simp) h4
      | [_], h4 => exact absurd (by simp) h4
      | [_, _], h4 => exact absurd (by simp) h4
      | [_, _, _], h4 => exact absurd (by simp) h4
    have hbx0 := HB.out x0 (by rw [hr]; simp)
    have hbx1 := HB.out x1 (by rw [hr]; simp)
    have hbx2 := HB.out x2 (by rw [hr]; simp)
    have hbx3 := HB.out x3 (by rw [hr]; simp)
    have hlr : re.xs.length = body.length + 4 := by rw [hr]; simp
    have hbp : (0 : Int) < (re.xs.length : Int) := by omega
    have HR := Lib.hid hr
    have HBD : Hid (Byt body) := Lib.hid (fun z hz => HB.out z (by rw [hr]; simp [hz]))
    rw [hr] at HPA
    have HBQ := Lib.hid (bytes_yes HCU.out 4 (by omega))
    have HOB : Hid (4 * out.length + (body.length + 4) ≤ L) := Lib.hid (by omega)
    have HGK : Hid (body.length + 4 ≤ gk) := Lib.hid (by omega)
    have HFF : Hid (body.length + 4 < f + 1) := Lib.hid (by omega)
    rw [hlr] at HL hbp
    clear hz hr hlt4 hlo hgk hf HB hlr
    go_wp2_with fail
    refine HL.out.mono ?_
    rintro e w2 ⟨rfl, rfl⟩
    go_wp2_with fail
    refine HBQ.out.mono ?_
    rintro e w2 ⟨q, rb, rfl, hq1, hq2, hq3, hq4, hq5, hq6, hq8, hq7⟩
    have HROW2 : Hid (∀ a, rb.A = some a → a.block < N1) := Lib.hid (fun a ha => by obtain ⟨a0, h0, e⟩ := hq8 a ha; rw [← e]; exact HROW0.out a0 h0)
    have hqx : q.xs = [x0, x1, x2, x3] := by rw [hq1, HR.out]; rfl
    have hrb : rb.xs = body := by rw [hq3, HR.out]; rfl
    obtain ⟨b, off, hA, hbb1, hbb2, hcc⟩ := hq4.at (by rw [hqx]; simp)
    have HIS := Lib.hid (is_any hq4 (by rw [hqx]; intro z hz; simp at hz; rcases hz with rfl | rfl | rfl | rfl <;> assumption))
    rw [hqx] at HIS
    have hbc : b ≠ c := (hq5 _ hA).1
    obtain ⟨qA, qc, qx⟩ := q
    dsimp only at hqx hA hq2
    subst hqx
    subst hA
    subst hq2
    have e0 := hcc 0 x0 rfl
    have e1 := hcc 1 x1 rfl
    have e2 := hcc 2 x2 rfl
    have e3 := hcc 3 x3 rfl
    rw [Nat.add_zero] at e0
    have HE := Lib.hid (err_any hq6)
    have HC2 := Lib.hid hq6
    have HRB := Lib.hid hrb
    have HU2 := Lib.hid (HU.out.trans hq7 (fun s hs => .inr (by rw [List.mem_singleton] at hs; subst hs; exact HC0.out)))
    have HMI2 := Lib.hid (fun x hx => (⟨(HMI.out x hx).1.behind hq7 HCN.out (Nat.le_refl _), (HMI.out x hx).2⟩ : MgIn w2 N1 x.1 x.2 ∧ Off (.slice Av out.length cv) x.1 x.2))
    have hncb : ∀ w', ∀ s, s ∈ [c] → (w' : World).ownsRow N1 59 12 (.slice Av out.length cv) out.length (out.flatMap encM) → (∃ rr er, CutIs w' c w.heap.size rr er) → (Value.slice Av out.length cv).ownBlock ≠ some s := by
      intro w' s hs ho ⟨rr, er, hcc'⟩ e
      rw [List.mem_singleton] at hs
      subst hs
      obtain ⟨cur, hcur⟩ := row_type ho s e
      exact (hcur.ne hcc'.bl (by decide)) rfl
    have HNCB := Lib.hid hncb
    have HOW2 := Lib.hid (ownsRow_upd HOW.out hq7 (fun s hs => HNCB.out _ s hs HOW.out ⟨_, _, HCU.out⟩))
    have HN2 := Lib.hid (Nat.le_trans HN1.out hq7.size)
    clear hq1 hq3 hq4 hq5 hq6 hq7 hq8 hcc hrb HBQ HL hncb HMI HOW HU HN1 HCU HROW0
    unfold encR at HIS ⊢
    dsimp only [List.length_cons, List.length_nil] at HIS ⊢
    go_wp2_with fail
    refine HE.out.mono ?_
    rintro e w3 ⟨rfl, rfl⟩
    go_wp2_with fail
    refine HIS.out.mono ?_
    rintro e w3 ⟨rfl, rfl⟩
    obtain ⟨is, his⟩ : ∃ is, is = isM [x0, x1, x2, x3] := ⟨_, rfl⟩
    rw [← his]
    cases is with
    | false =>
      have hRe : R = ([], 11) := by rw [← HPA.out, parseA_err (stepM_form his.symm)]
      have HRE := Lib.hid hRe
      clear hRe his HIS
      go_wp2
      refine bodyPost_res (v := .tuple #[.slice none 0 0, .int .i64 11]) (by simp [results, Try.results14, go_sem]) rfl ?_
      first | exact ⟨_, [], by rw [HRE.out], by rw [HRE.out]; rfl, World.ownsRow_nil _ _ _ _, by simp, HU2.out⟩ | exact ⟨_, by rw [HRE.out], [], by rw [HRE.out]; rfl, World.ownsRow_nil _ _ _ _, by simp, HU2.out⟩
    | true =>
    have hh01 : (128 ≤ x0 ∧ x0 < 192) ∧ (192 ≤ x1 ∧ x1 ≤ 223) := by simp [isM] at his; omega
    have HISM := Lib.hid his.symm
    clear his HIS HE
    have ho := or_int x2 x3 hbx2.1 hbx2.2 hbx3.1 hbx3.2
    have hx2a := hbx2.1
    have hx2b := hbx2.2
    have hx3a := hbx3.1
    have hx3b := hbx3.2
    go_upto_region 12 with fail
    refine wp_moves_quiet_tail 1 12 (by kernel_rfl) (by kernel_rfl) (fun _ _ _ _ h => h) ?_
    simp only [List.take_succ_cons, List.take_zero, List.drop_succ_cons, List.drop_zero]
    repeat (go_big_quiet_step (fail))
    refine wpQuiet_nil (show wpQuiet _ _ _ _ _ _ from ?_)
    repeat (go_big_quiet_step (fail))
    refine wpQuiet_nil ?_
    rintro _ ⟨nq, rfl⟩
    obtain ⟨n4, hn4⟩ : ∃ n4 : Nat, n4 = 4 * (x2.toNat * 256 + x3.toNat) := ⟨_, rfl⟩
    have hn4' : 4 * (x2 * 256 + x3) = (n4 : Int) := by omega
    have HN4 := Lib.hid hn4
    clear hn4
    by_cases hsh : body.length < n4
    · have hRe : R = ([], 10) := by rw [← HPA.out, parseA_err (stepM_cut HISM.out (by rw [← HN4.out]; exact hsh))]
      have HRE := Lib.hid hRe
      have HB := Lib.hid (bytes_short (HC2.out.more ((Upd.refl [] w2).drewN nq)) n4 (by rw [HRB.out]; exact hsh))
      clear hRe
      go_wp2_with fail
      refine HB.out.mono ?_
      rintro e w4 ⟨rfl, h4, hu4⟩
      have HE2 := Lib.hid (err_any h4)
      have HU4 := Lib.hid ((HU2.out.drewN nq).trans hu4 (fun s hs => .inr (by rw [List.mem_singleton] at hs; subst hs; exact HC0.out)))
      clear h4 hu4
      go_wp2_with fail
      refine HE2.out.mono ?_
      rintro e w5 ⟨rfl, rfl⟩
      go_wp2
      refine bodyPost_res (v := .tuple #[.slice none 0 0, .int .i64 10]) (by simp [results, Try.results14, go_sem]) rfl ?_
      first | exact ⟨_, [], by rw [HRE.out], by rw [HRE.out]; rfl, World.ownsRow_nil _ _ _ _, by simp, HU4.out⟩ | exact ⟨_, by rw [HRE.out], [], by rw [HRE.out]; rfl, World.ownsRow_nil _ _ _ _, by simp, HU4.out⟩
    have HB := Lib.hid (bytes_yes (HC2.out.more ((Upd.refl [] w2).drewN nq)) n4 (by rw [HRB.out]; omega))
    go_wp2_with fail
    refine HB.out.mono ?_
    rintro e w4 ⟨q, rd, rfl, hq1, hq2, hq3, hq4, hq5, hq6, hq8, hq7⟩
    have HROW : Hid (∀ a, rd.A = some a → a.block < N1) := Lib.hid (fun a ha => by obtain ⟨a0, h0, e⟩ := hq8 a ha; rw [← e]; exact HROW2.out a0 h0)
    have hqx : q.xs = body.take n4 := by rw [hq1, HRB.out]
    have hrd : rd.xs = body.drop n4 := by rw [hq3, HRB.out]
    have hk : ∀ p : Addr, p.block = b → w4.cell? p = w2.cell? p := fun p hp => hq7.cell (w := w2.drewN nq) (by rw [hp]; exact hbb2) (by rw [hp]; simpa using hbc)
    have f0 := (hk ⟨b, off, none⟩ rfl).trans e0
    have f1 := (hk ⟨b, off + 1, none⟩ rfl).trans e1
    have hbb4 : b < w4.heap.size := Nat.lt_of_lt_of_le hbb2 hq7.size
    have nb4 : b ≠ w4.heap.size := Nat.ne_of_lt hbb4
    have HE2 := Lib.hid (err_any hq6)
    have HLF := Lib.hid (left_any hq6)
    have HC4 := Lib.hid hq6
    have HRD := Lib.hid hrd
    have HQ := Lib.hid (And.intro hq4 hqx)
    have HU4 := Lib.hid ((HU2.out.drewN nq).trans hq7 (fun s hs => .inr (by rw [List.mem_singleton] at hs; subst hs; exact HC0.out)))
    have HOW4 := Lib.hid (ownsRow_upd (w := w2.drewN nq) HOW2.out hq7 (fun s hs => HNCB.out (w2.drewN nq) s hs HOW2.out ⟨_, _, HC2.out.more ((Upd.refl [] w2).drewN nq)⟩))
    have HMI4 := Lib.hid (fun x hx => (⟨((HMI2.out x hx).1.same ((Upd.refl [] w2).drewN nq) (Nat.le_refl _)).behind hq7 HCN.out (Nat.le_refl _), (HMI2.out x hx).2⟩ : MgIn w4 N1 x.1 x.2 ∧ Off (.slice Av out.length cv) x.1 x.2))
    have HN4s : Hid (N1 ≤ w4.heap.size) := Lib.hid (Nat.le_trans HN2.out hq7.size)
    unfold encR
    clear hq1 hq2 hq3 hq4 hq5 hq6 hq7 hq8 hqx hrd HROW2 HB HC2 HU2 e0 e1 e2 e3 hk ho hbb1 HOW2 HMI2 HN2 HNCB HRB
    go_wp2_with fail
    refine HE2.out.mono ?_
    rintro e w5 ⟨rfl, rfl⟩
    clear HE2
    go_upto_if 59 with fail
    go_cut [8] (fun s8 wd => wd = w4 ∧ ∃ Q : Rw, s8 = .slice Q.A Q.xs.length Q.c ∧ RowIn w4 w.heap.size .u8 Q ∧ bodyOf x0 (body.take n4) (decide ((body.drop n4).length = 0)) = some Q.xs)
    case first =>
      by_cases hp : x0 / 32 % 2 = 1
      · have ha0 : bits .and .u8 x0 32 = 32 := by rw [and32 x0 hbx0.1 hbx0.2]; omega
        rw [HRD.out] at HLF
        obtain ⟨last, hlast⟩ : ∃ last, last = decide ((body.drop n4).length = 0) := ⟨_, rfl⟩
        obtain ⟨dl, hdl⟩ : ∃ dl, dl = (body.drop n4).length := ⟨_, rfl⟩
        have hlb : ((dl : Int) == 0) = last := by
          rw [hlast, ← hdl]
          by_cases hz : dl = 0
          · subst hz; rfl
          · rw [decide_eq_false hz]; exact beq_eq_false_iff_ne.2 (by omega)
        rw [← hdl] at HLF
        clear hdl
        obtain ⟨hq4, hqx⟩ := HQ.out
        have hbq : Byt q.xs := by rw [hqx]; intro z hz; exact HBD.out z (List.mem_of_mem_take hz)
        rcases hcm : cutM q.xs last with _ | ys
        · have hRe : R = ([], 11) := by
            rw [← HPA.out, parseA_err (stepM_pad HISM.out (by rw [← HN4.out]; exact hsh) (by rw [← HN4.out, bodyOf, if_pos hp, ← hqx, ← hlast]; exact hcm))]
          have HRE := Lib.hid hRe
          have HPD := Lib.hid (cut_no hq4 hbq last hcm)
          unfold encR at HPD
          clear hRe hq4 hqx hbq hcm hlast HQ
          go_wp2_with fail
          refine HLF.out.mono ?_
          rintro e w5 ⟨rfl, rfl⟩
          go_wp2_with fail
          refine HPD.out.mono ?_
          rintro e w5 ⟨rfl, rfl⟩
          go_wp2
          refine bodyPost_res (v := .tuple #[.slice none 0 0, .int .i64 11]) (by simp [results, Try.results14, go_sem]) rfl ?_
          first | exact ⟨_, [], by rw [HRE.out], by rw [HRE.out]; rfl, World.ownsRow_nil _ _ _ _, by simp, HU4.out⟩ | exact ⟨_, by rw [HRE.out], [], by rw [HRE.out]; rfl, World.ownsRow_nil _ _ _ _, by simp, HU4.out⟩
        · have hlt := (cutM_sub hcm).1
          rw [hlt] at hlb hcm
          have HPD := Lib.hid (cut_yes hq4 hbq ys hcm)
          have HBO : Hid (bodyOf x0 (body.take n4) (decide ((body.drop n4).length = 0)) = some ys) := by rw [bodyOf, if_pos hp, ← hqx, ← hlast, hlt]; exact Lib.hid hcm
          unfold encR at HPD
          clear hq4 hqx hbq hcm hlast HQ hlt
          go_wp2_with fail
          refine HLF.out.mono ?_
          rintro e w5 ⟨rfl, rfl⟩
          go_wp2_with fail
          refine HPD.out.mono ?_
          rintro e w5 ⟨Q, rfl, hQx, hQr, hQA, rfl⟩
          have HQQ := Lib.hid (And.intro hQr (by rw [HBO.out, hQx] : bodyOf x0 (body.take n4) (decide ((body.drop n4).length = 0)) = some Q.xs))
          clear hQr hQx hQA
          go_wp2
          go_meet
          case rel => exact ⟨rfl, Q, rfl, HQQ.out⟩
      · have ha0 : bits .and .u8 x0 32 = 0 := by rw [and32 x0 hbx0.1 hbx0.2]; omega
        have HQQ := Lib.hid (And.intro HQ.out.1 (by rw [bodyOf, if_neg hp, HQ.out.2] : bodyOf x0 (body.take n4) (decide ((body.drop n4).length = 0)) = some q.xs))
        go_wp2
        go_meet
        case rel => exact ⟨rfl, q, rfl, HQQ.out⟩
    obtain ⟨hwd, ⟨A2, k2, qx⟩, rfl, hQr, hbo⟩ := hcut
    obtain rfl := hwd.symm
    dsimp only at hbo
    obtain ⟨⟨⟨mk, m1, m2, m3, m4, m5, m6, mR, mW, mP, mA, mT⟩, ee⟩, hrm⟩ : ∃ z, z = readM x1 (x0 % 32).toNat qx := ⟨_, rfl⟩
    have hstep := stepM_read (rest := body) HISM.out (by rw [← HN4.out]; exact hsh) (by rw [← HN4.out]; exact hbo)
    rw [← hrm, ← HN4.out] at hstep
    dsimp only at hstep
    have hqb : Byt qx ∧ qx.length ≤ 100000 := by
      have hs : ∃ k, qx = (body.take n4).take k ∨ qx = body.take n4 := by
        unfold bodyOf at hbo
        split at hbo
        · obtain ⟨_, k, hk⟩ := cutM_sub hbo
          exact ⟨k, .inl hk⟩
        · exact ⟨0, .inr (Option.some.inj hbo).symm⟩
      obtain ⟨k, hs⟩ := hs
      have hOB := HOB.out
      rcases hs with rfl | rfl
      · exact ⟨fun z hz => HBD.out z (List.mem_of_mem_take (List.mem_of_mem_take hz)), by rw [List.length_take, List.length_take]; omega⟩
      · exact ⟨fun z hz => HBD.out z (List.mem_of_mem_take hz), by rw [List.length_take]; omega⟩
    have hnn : (((x0 % 32).toNat : Nat) : Int) = x0 % 32 := by omega
    have HREAD := Lib.hid (fun (W : World) (hW : Upd [] w4 W) => by
      have := read_any (hQr.upd2 hW (by simp)) hqb.2 x1 (x0 % 32).toNat (by omega) hqb.1
      dsimp only at this
      rw [← hrm, hnn] at this
      exact this)
    simp only [encR, mcells] at HREAD
    have HSTEP := Lib.hid hstep
    have ha1 := and31 x0 hbx0.1 hbx0.2
    have ha2 : IntKind.i64.wrap (x0 % 32) = x0 % 32 := IntWalk.i64_in _ (by omega)
    clear hstep hbo hrm hqb hnn hQr HQ HLF HN4
    go_upto_region 21 with fail
    go_cut [12, 13] (fun s12 s13 wd => ∃ (bx : Nat) (dR : Option Addr) (cR : Nat) (dW : Option Addr) (cW : Nat) (dP : Option Addr) (cP : Nat) (dA : Option Addr) (cA : Nat), s12 = .pointer (some ⟨bx, 0, none⟩) ∧ s13 = .int .i64 ee ∧ Blk wd bx 59 #[.int .i64 mk, .int .u32 m1, .int .u32 m2, .int .u64 m3, .int .u32 m4, .int .u32 m5, .int .u32 m6, .slice dR mR.length cR, .slice dW mW.length cW, .slice dP mP.length cP, .slice dA mA.length cA, .int .u8 mT] ∧ w4.heap.size ≤ bx ∧ MgIn wd w4.heap.size ⟨mk, m1, m2, m3, m4, m5, m6, mR, mW, mP, mA, mT⟩ ⟨dR, cR, dW, cW, dP, cP, dA, cA⟩ ∧ Upd [] w4 wd)
    case first =>
      go_region_held3 (fun w' => w'.cell? ⟨b, off, none⟩ = some (.int .u8 x0) ∧ w'.cell? ⟨b, off + 1, none⟩ = some (.int .u8 x1)) (first | (have hh := HQ; first | (with_reducible exact ⟨g0, g1⟩) | (with_reducible exact ⟨set12_cell _ _ _ _ _ _ _ _ _ _ _ _ _ _ nb4 g0, set12_cell _ _ _ _ _ _ _ _ _ _ _ _ _ _ nb4 g1⟩)) | (have hh := HArmA; first | (with_reducible exact ⟨g0, g1⟩) | (with_reducible exact ⟨(((Upd.refl [] w6).alloc _).cell (p := ⟨b, off, none⟩) hbb6 (by simp)).trans g0, (((Upd.refl [] w6).alloc _).cell (p := ⟨b, off + 1, none⟩) hbb6 (by simp)).trans g1⟩)| go_keep) | go_keep)
        (first
          | (go_at_call 30; have hx9 := HREAD.out w4.drew ((Upd.refl [] w4).drewN 1); refine hx9.mono ?_; clear hx9; rintro e w6 ⟨⟨dR, cR, dW, cW, dP, cP, dA, cA⟩, rfl, hin6, hu6⟩; dsimp only; have HIN6 := Lib.hid hin6; have hU1 : Upd [] w4 w6 := ((Upd.refl [] w4).drewN 1).next hu6; have g0 := (hU1.cell (p := ⟨b, off, none⟩) hbb4 (by simp)).trans f0; have g1 := (hU1.cell (p := ⟨b, off + 1, none⟩) hbb4 (by simp)).trans f1; have hbb6 : b < w6.heap.size := Nat.lt_of_lt_of_le hbb4 hU1.size; have HArmA := Lib.hid (True.intro); clear hu6 hin6)
          | (go_at_call 30; have hx9 := HREAD.out (w4.drew.alloc (.cells #[.int .i64 0, .int .u32 0, .int .u32 0, .int .u64 0, .int .u32 0, .int .u32 0, .int .u32 0, .slice none 0 0, .slice none 0 0, .slice none 0 0, .slice none 0 0, .int .u8 0] 59)) (((Upd.refl [] w4).drewN 1).alloc _); refine hx9.mono ?_; clear hx9; rintro e w6 ⟨⟨dR, cR, dW, cW, dP, cP, dA, cA⟩, rfl, hin6, hu6⟩; dsimp only; have HIN6 := Lib.hid hin6; have hU1 : Upd [] w4 w6 := (((Upd.refl [] w4).drewN 1).alloc _).next hu6; have g0 := (hU1.cell (p := ⟨b, off, none⟩) hbb4 (by simp)).trans f0; have g1 := (hU1.cell (p := ⟨b, off + 1, none⟩) hbb4 (by simp)).trans f1; have hbb6 : b < w6.heap.size := Nat.lt_of_lt_of_le hbb4 hU1.size; have hq : Blk w6 w4.heap.size 59 (zcells 0).toArray := (Blk.new (w4.drewN 1) 59 (zcells 0).toArray).upd hu6 (by simp); have m0z : w6.cell? ⟨w4.heap.size, 0, none⟩ = some (.int .i64 0) := hq.cell 0; have n0z := hq.frozen 0; have m1z : w6.cell? ⟨w4.heap.size, 1, none⟩ = some (.int .u32 0) := hq.cell 1; have n1z := hq.frozen 1; have m2z : w6.cell? ⟨w4.heap.size, 2, none⟩ = some (.int .u32 0) := hq.cell 2; have n2z := hq.frozen 2; have m3z : w6.cell? ⟨w4.heap.size, 3, none⟩ = some (.int .u64 0) := hq.cell 3; have n3z := hq.frozen 3; have m4z : w6.cell? ⟨w4.heap.size, 4, none⟩ = some (.int .u32 0) := hq.cell 4; have n4z := hq.frozen 4; have m5z : w6.cell? ⟨w4.heap.size, 5, none⟩ = some (.int .u32 0) := hq.cell 5; have n5z := hq.frozen 5; have m6z : w6.cell? ⟨w4.heap.size, 6, none⟩ = some (.int .u32 0) := hq.cell 6; have n6z := hq.frozen 6; have m7z : w6.cell? ⟨w4.heap.size, 7, none⟩ = some (.slice none 0 0) := hq.cell 7; have n7z := hq.frozen 7; have m8z : w6.cell? ⟨w4.heap.size, 8, none⟩ = some (.slice none 0 0) := hq.cell 8; have n8z := hq.frozen 8; have m9z : w6.cell? ⟨w4.heap.size, 9, none⟩ = some (.slice none 0 0) := hq.cell 9; have n9z := hq.frozen 9; have m10z : w6.cell? ⟨w4.heap.size, 10, none⟩ = some (.slice none 0 0) := hq.cell 10; have n10z := hq.frozen 10; have m11z : w6.cell? ⟨w4.heap.size, 11, none⟩ = some (.int .u8 0) := hq.cell 11; have n11z := hq.frozen 11; have hql := hq.lt; have HQ := Lib.hid hq; clear hu6 hin6 hq))
      all_goals clear f0 f1 HREAD
      all_goals go_wp2
      all_goals go_meet
      all_goals
        first
          | (have hh := HArmA; exact ⟨w6.heap.size, dR, cR, dW, cW, dP, cP, dA, cA, rfl, rfl, Blk.new _ _ _, hU1.size, HIN6.out.same ((Upd.refl [] w6).alloc _) (Nat.le_refl _), hU1.alloc _⟩)
          | (have hh := HQ; exact ⟨w4.heap.size, dR, cR, dW, cW, dP, cP, dA, cA, rfl, rfl, set12_blk _ _ _ _ _ _ _ _ _ _ _ _ _ _ _ _ _ _ _ _ _ _ _ _ HQ.out, Nat.le_refl _, HIN6.out.behind (set12_upd (S := [w4.heap.size]) _ _ _ _ _ _ _ _ _ _ _ _ _ (Upd.refl _ _) (.inl (by simp))) (by simp) (by simp), set12_upd _ _ _ _ _ _ _ _ _ _ _ _ _ hU1 (.inr (Nat.le_refl _))⟩)
    obtain ⟨bx, dR, cR, dW, cW, dP, cP, dA, cA, rfl, rfl, hblk, hbx, hin, hud⟩ := hcut
    have hneE : ee = 0 ∨ ee ≠ 0 := by by_cases hh : ee = 0; exact .inl hh; exact .inr hh
    clear f0 f1 HREAD
    rcases hneE with rfl | hne
    rotate_left
    · have hRe : R = ([], ee) := by
        rw [← HPA.out]
        refine parseA_err ?_
        rw [HSTEP.out, if_neg hne]
      have HRE := Lib.hid hRe
      have HUE := Lib.hid (HU4.out.next hud)
      clear hRe hblk hin hud
      go_wp2
      refine bodyPost_res (v := .tuple #[.slice none 0 0, .int .i64 ee]) (by simp [results, Try.results14, go_sem]) rfl ?_
      first | exact ⟨_, [], by rw [HRE.out], by rw [HRE.out]; rfl, World.ownsRow_nil _ _ _ _, by simp, HUE.out⟩ | exact ⟨_, by rw [HRE.out], [], by rw [HRE.out]; rfl, World.ownsRow_nil _ _ _ _, by simp, HUE.out⟩
    have hok := HSTEP.out
    rw [if_pos rfl] at hok
    have HPO := Lib.hid (HPA.out.symm.trans (parseA_ok hok))
    have z0 : wc.cell? ⟨bx, 0, none⟩ = some (.int .i64 mk) := hblk.cell 0
    have z1 : wc.cell? ⟨bx, 1, none⟩ = some (.int .u32 m1) := hblk.cell 1
    have z2 : wc.cell? ⟨bx, 2, none⟩ = some (.int .u32 m2) := hblk.cell 2
    have z3 : wc.cell? ⟨bx, 3, none⟩ = some (.int .u64 m3) := hblk.cell 3
    have z4 : wc.cell? ⟨bx, 4, none⟩ = some (.int .u32 m4) := hblk.cell 4
    have z5 : wc.cell? ⟨bx, 5, none⟩ = some (.int .u32 m5) := hblk.cell 5
    have z6 : wc.cell? ⟨bx, 6, none⟩ = some (.int .u32 m6) := hblk.cell 6
    have z7 : wc.cell? ⟨bx, 7, none⟩ = some (.slice dR mR.length cR) := hblk.cell 7
    have z8 : wc.cell? ⟨bx, 8, none⟩ = some (.slice dW mW.length cW) := hblk.cell 8
    have z9 : wc.cell? ⟨bx, 9, none⟩ = some (.slice dP mP.length cP) := hblk.cell 9
    have z10 : wc.cell? ⟨bx, 10, none⟩ = some (.slice dA mA.length cA) := hblk.cell 10
    have z11 : wc.cell? ⟨bx, 11, none⟩ = some (.int .u8 mT) := hblk.cell 11
    have hown5 := ownsRow_upd HOW4.out hud (by simp)
    have HOWD : Hid ((wc.alloc (.cells #[.int .i64 mk, .int .u32 m1, .int .u32 m2, .int .u64 m3, .int .u32 m4, .int .u32 m5, .int .u32 m6, .slice dR mR.length cR, .slice dW mW.length cW, .slice dP mP.length cP, .slice dA mA.length cA, .int .u8 mT] 59)).ownsRow N1 59 12 (.slice Av out.length cv) out.length (out.flatMap encM)) := Lib.hid (hown5.alloc _)
    have HUD := Lib.hid ((HU4.out.next hud).alloc (.cells #[.int .i64 mk, .int .u32 m1, .int .u32 m2, .int .u64 m3, .int .u32 m4, .int .u32 m5, .int .u32 m6, .slice dR mR.length cR, .slice dW mW.length cW, .slice dP mP.length cP, .slice dA mA.length cA, .int .u8 mT] 59))
    have HCD := Lib.hid ((HC4.out.more hud).more ((Upd.refl [] wc).alloc (.cells #[.int .i64 mk, .int .u32 m1, .int .u32 m2, .int .u64 m3, .int .u32 m4, .int .u32 m5, .int .u32 m6, .slice dR mR.length cR, .slice dW mW.length cW, .slice dP mP.length cP, .slice dA mA.length cA, .int .u8 mT] 59)))
    have HMD := Lib.hid (fun x hx => (⟨((HMI4.out x hx).1.same hud (Nat.le_refl _)).same ((Upd.refl [] wc).alloc (.cells #[.int .i64 mk, .int .u32 m1, .int .u32 m2, .int .u64 m3, .int .u32 m4, .int .u32 m5, .int .u32 m6, .slice dR mR.length cR, .slice dW mW.length cW, .slice dP mP.length cP, .slice dA mA.length cA, .int .u8 mT] 59)) (Nat.le_refl _), (HMI4.out x hx).2⟩ : MgIn (wc.alloc (.cells #[.int .i64 mk, .int .u32 m1, .int .u32 m2, .int .u64 m3, .int .u32 m4, .int .u32 m5, .int .u32 m6, .slice dR mR.length cR, .slice dW mW.length cW, .slice dP mP.length cP, .slice dA mA.length cA, .int .u8 mT] 59)) N1 x.1 x.2 ∧ Off (.slice Av out.length cv) x.1 x.2))
    have HIND := Lib.hid (hin.same ((Upd.refl [] wc).alloc (.cells #[.int .i64 mk, .int .u32 m1, .int .u32 m2, .int .u64 m3, .int .u32 m4, .int .u32 m5, .int .u32 m6, .slice dR mR.length cR, .slice dW mW.length cW, .slice dP mP.length cP, .slice dA mA.length cA, .int .u8 mT] 59)) (Nat.le_refl _))
    have HOLD : Hid (∀ s, (Value.slice Av out.length cv).ownBlock = some s → s < w4.heap.size) := Lib.hid (fun s hs => (own_block_lt HOW4.out hs).2)
    have HNW := Lib.hid (Blk.new wc 59 #[.int .i64 mk, .int .u32 m1, .int .u32 m2, .int .u64 m3, .int .u32 m4, .int .u32 m5, .int .u32 m6, .slice dR mR.length cR, .slice dW mW.length cW, .slice dP mP.length cP, .slice dA mA.length cA, .int .u8 mT])
    have HSZ : Hid (N1 ≤ (wc.alloc (.cells #[.int .i64 mk, .int .u32 m1, .int .u32 m2, .int .u64 m3, .int .u32 m4, .int .u32 m5, .int .u32 m6, .slice dR mR.length cR, .slice dW mW.length cW, .slice dP mP.length cP, .slice dA mA.length cA, .int .u8 mT] 59)).heap.size ∧ w4.heap.size ≤ (wc.alloc (.cells #[.int .i64 mk, .int .u32 m1, .int .u32 m2, .int .u64 m3, .int .u32 m4, .int .u32 m5, .int .u32 m6, .slice dR mR.length cR, .slice dW mW.length cW, .slice dP mP.length cP, .slice dA mA.length cA, .int .u8 mT] 59)).heap.size) := Lib.hid (by have h1 := HN4s.out; have h2 := hud.size; simp; omega)
    have HONE : Hid (∀ u ∈ ([.int .i64 mk, .int .u32 m1, .int .u32 m2, .int .u64 m3, .int .u32 m4, .int .u32 m5, .int .u32 m6, .slice dR mR.length cR, .slice dW mW.length cW, .slice dP mP.length cP, .slice dA mA.length cA, .int .u8 mT] : List Value), u.oneCell' = true) := Lib.hid (by intro u hu; repeat (first | (rcases List.mem_cons.1 hu with rfl | hu; · rfl) | cases hu))
    have hol : out.length ≤ 1500 := by have := HOB.out; omega
    clear hblk hin hud hown5 HOW4 HMI4 HC4 HU4 hok HPA HSTEP
    go_wp2_with (at_builtin; refine wpList_append_own_at _ rfl (.tmp 87) (.tmp 89) 22 rfl N1 59 j0 _ 12 144 Try.underlying22 hj0 hy0 hy1 hy2 rfl (by decide) _ out.length (out.flatMap encM) rfl HOWD.out ⟨wc.heap.size, 0, none⟩ 1 1 [.int .i64 mk, .int .u32 m1, .int .u32 m2, .int .u64 m3, .int .u32 m4, .int .u32 m5, .int .u32 m6, .slice dR mR.length cR, .slice dW mW.length cW, .slice dP mP.length cP, .slice dA mA.length cA, .int .u8 mT] rfl rfl (blk_src HNW.out) HONE.out (by unfold maxLen; omega) (by omega) HSZ.out.1 ?_)
    intro v9 w9 hown9 hg9 _ hat9
    have HREL := Lib.hid (round_rel HUD.out HOWD.out HCD.out HMD.out HIND.out HN4s.out HOLD.out HROW.out HSZ.out.1 HWN.out HOB.out HGK.out HFF.out HBD.out HRD.out HPO.out hown9 hg9 (by rw [World.size_alloc]; exact hat9))
    have HGK' : Hid (1 ≤ gk) := Lib.hid (by have := HGK.out; omega)
    obtain ⟨A9, c9, hv9, _⟩ := own_form hown9
    subst hv9
    clear hown9 hg9 hat9 HPO HOWD HUD HCD HMD HIND HOLD HNW
    go_wp2
    go_roundg (gk - 1)
    case measure => have := HGK'.out; omega
    case rel => exact HREL.out
end Go.Proofs.Ytgkejdjdccgjbaa
