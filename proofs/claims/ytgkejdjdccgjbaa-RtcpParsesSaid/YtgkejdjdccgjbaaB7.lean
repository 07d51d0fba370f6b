/- Parts of the proof, one behind the other: SReadSender, SReadReceiver, SReadWho. No condition of their own. -/
import Derived.Test.YtgkejdjdccgjbaaB6
/- A body's message by the document (louverref09.read), arm 'sender'. Conditions: bytes, and which arm. -/
namespace Go.Proofs.Ytgkejdjdccgjbaa
open Go Go.RowKit
set_option maxHeartbeats 400000
set_option maxRecDepth 100000 in
set_option maxHeartbeats 16000000 in
theorem rread_sender (w : World) (kd : Int) (n : Nat) (xs : List Int) (hk : 0 ≤ kd ∧ kd ≤ 255) (hn : n ≤ 31) (hb : Byt xs) (hl : xs.length ≤ 100000) (k0 : kd = 200) :
    Calls Try.prog 32 #[.int .i64 kd, .int .i64 n, .string (strOfNums xs)] w fun e w' => ∃ hd, e = .returned (.tuple #[.agg (mcells (readM kd n xs).1 hd).toArray, .int .i64 (readM kd n xs).2]) ∧ RfIn w' w.heap.size (readM kd n xs).1 hd ∧ WhoNew w.heap.size (readM kd n xs).1 hd ∧ Upd [] w w' := by
  have Hk0 := Lib.hid k0
  clear k0
  rw [read_direct]
  obtain ⟨r, hr⟩ : ∃ r, r = readD kd n xs := ⟨_, rfl⟩
  rw [← hr]
  have HR := Lib.hid hr
  have HBY := Lib.hid hb
  obtain ⟨G, hG⟩ : ∃ G, G = w.heap.size := ⟨_, rfl⟩
  obtain ⟨W1, hW1⟩ : ∃ W, W = w.alloc (.cells #[.int .i64 0, .int .u32 0, .int .u32 0, .int .u64 0, .int .u32 0, .int .u32 0, .int .u32 0, .slice none 0 0, .slice none 0 0, .slice none 0 0, .slice none 0 0, .int .u8 0] 50) := ⟨_, rfl⟩
  obtain ⟨W, hW⟩ : ∃ W, W = W1.alloc (.cells #[.int .i64 6, .int .u32 0, .int .u32 0, .int .u64 0, .int .u32 0, .int .u32 0, .int .u32 0, .slice none 0 0, .slice none 0 0, .slice none 0 0, .slice none 0 0, .int .u8 kd] 50) := ⟨_, rfl⟩
  have u1 : Upd [] w W1 := by rw [hW1]; exact (Upd.refl [] w).alloc _
  have u2 : Upd [] W1 W := by rw [hW]; exact (Upd.refl [] W1).alloc _
  have s1 : W1.heap.size = G + 1 := by rw [hW1, World.size_alloc, hG]
  have HGW : Hid (Blk W G 50 #[.int .i64 0, .int .u32 0, .int .u32 0, .int .u64 0, .int .u32 0, .int .u32 0, .int .u32 0, .slice none 0 0, .slice none 0 0, .slice none 0 0, .slice none 0 0, .int .u8 0]) := Lib.hid (by
    have : Blk W1 G 50 #[.int .i64 0, .int .u32 0, .int .u32 0, .int .u64 0, .int .u32 0, .int .u32 0, .int .u32 0, .slice none 0 0, .slice none 0 0, .slice none 0 0, .slice none 0 0, .int .u8 0] := by rw [hW1, hG]; exact Blk.new _ _ _
    exact this.upd u2 (by simp))
  have HTW : Hid (Blk W (G + 1) 50 #[.int .i64 6, .int .u32 0, .int .u32 0, .int .u64 0, .int .u32 0, .int .u32 0, .int .u32 0, .slice none 0 0, .slice none 0 0, .slice none 0 0, .slice none 0 0, .int .u8 kd]) := Lib.hid (by rw [hW, ← s1]; exact Blk.new _ _ _)
  have HUW := Lib.hid (u1.next u2)
  have HGX := Lib.hid hG
  have hcv : IntKind.u8.wrap kd = kd := by unfold IntKind.wrap; simp [IntKind.bits, IntKind.signed]; omega
  have hsz : (strOfNums xs).size = xs.length := strOfNums_size xs
  clear hr hb u1 u2
  go_enter Try.func32, Try.ntmps32
  go_upto_region 1 with fail
  rw [← hW1, ← hG]
  clear hW1 hG
  go_upto_region 2 with fail
  rw [← hW]
  clear hW hcv
  have k0 := Hk0.out
  clear Hk0
  have k' : (200 : Int) = kd := k0.symm
  subst k'
  clear k0
  have hw1 : IntKind.i64.wrap (24 * (n : Int)) = 24 * (n : Int) := IntWalk.i64_in _ (by omega)
  have hw2 : IntKind.i64.wrap (24 + 24 * (n : Int)) = 24 + 24 * (n : Int) := IntWalk.i64_in _ (by omega)
  obtain ⟨kw1, uw1⟩ := blk12 HTW.out (.int .i64 0) (.int .u32 0) (.int .u32 0) (.int .u64 0) (.int .u32 0) (.int .u32 0) (.int .u32 0) (.slice none 0 0) (.slice none 0 0) (.slice none 0 0) (.slice none 0 0) (.int .u8 0)
  obtain ⟨w1, hww1⟩ : ∃ z, z = ((((((((((((W.setCell ⟨G + 1, 0, none⟩ (.int .i64 0)).setCell ⟨G + 1, 1, none⟩ (.int .u32 0)).setCell ⟨G + 1, 2, none⟩ (.int .u32 0)).setCell ⟨G + 1, 3, none⟩ (.int .u64 0)).setCell ⟨G + 1, 4, none⟩ (.int .u32 0)).setCell ⟨G + 1, 5, none⟩ (.int .u32 0)).setCell ⟨G + 1, 6, none⟩ (.int .u32 0)).setCell ⟨G + 1, 7, none⟩ (.slice none 0 0)).setCell ⟨G + 1, 8, none⟩ (.slice none 0 0)).setCell ⟨G + 1, 9, none⟩ (.slice none 0 0)).setCell ⟨G + 1, 10, none⟩ (.slice none 0 0)).setCell ⟨G + 1, 11, none⟩ (.int .u8 0)) := ⟨_, rfl⟩
  rw [← hww1] at kw1 uw1
  have HTw1 := Lib.hid kw1
  have HGw1 := Lib.hid (HGW.out.upd uw1 (by simp))
  have HUw1 : Hid (Upd [] w w1) := Lib.hid (HUW.out.box' uw1 (by rw [HGX.out]; exact Nat.le_succ _))
  have HWw1 := Lib.hid hww1
  clear kw1 uw1 hww1
  have t0 : W.cell? ⟨G + 1, 0, none⟩ = some (.int .i64 6) := HTW.out.cell 0
  have t1 : W.cell? ⟨G + 1, 1, none⟩ = some (.int .u32 0) := HTW.out.cell 1
  have t2 : W.cell? ⟨G + 1, 2, none⟩ = some (.int .u32 0) := HTW.out.cell 2
  have t3 : W.cell? ⟨G + 1, 3, none⟩ = some (.int .u64 0) := HTW.out.cell 3
  have t4 : W.cell? ⟨G + 1, 4, none⟩ = some (.int .u32 0) := HTW.out.cell 4
  have t5 : W.cell? ⟨G + 1, 5, none⟩ = some (.int .u32 0) := HTW.out.cell 5
  have t6 : W.cell? ⟨G + 1, 6, none⟩ = some (.int .u32 0) := HTW.out.cell 6
  have t7 : W.cell? ⟨G + 1, 7, none⟩ = some (.slice none 0 0) := HTW.out.cell 7
  have t8 : W.cell? ⟨G + 1, 8, none⟩ = some (.slice none 0 0) := HTW.out.cell 8
  have t9 : W.cell? ⟨G + 1, 9, none⟩ = some (.slice none 0 0) := HTW.out.cell 9
  have t10 : W.cell? ⟨G + 1, 10, none⟩ = some (.slice none 0 0) := HTW.out.cell 10
  have t11 : W.cell? ⟨G + 1, 11, none⟩ = some (.int .u8 200) := HTW.out.cell 11
  have f0 := HTW.out.frozen 0
  have f1 := HTW.out.frozen 1
  have f2 := HTW.out.frozen 2
  have f3 := HTW.out.frozen 3
  have f4 := HTW.out.frozen 4
  have f5 := HTW.out.frozen 5
  have f6 := HTW.out.frozen 6
  have f7 := HTW.out.frozen 7
  have f8 := HTW.out.frozen 8
  have f9 := HTW.out.frozen 9
  have f10 := HTW.out.frozen 10
  have f11 := HTW.out.frozen 11
  go_upto_region 6 with fail
  rw [← HWw1.out]
  clear t0 t1 t2 t3 t4 t5 t6 t7 t8 t9 t10 t11 f0 f1 f2 f3 f4 f5 f6 f7 f8 f9 f10 f11
  have HRD : Hid (r = if xs.length < 24 + 24 * n then (mZ, 10) else (⟨0, nAt xs 0 4, 0, nAt xs 4 8, nAt xs 12 4, nAt xs 16 4, nAt xs 20 4, (List.range n).map (fun i => repAt xs (24 + 24 * i)), [], [], [], 0⟩, 0)) := Lib.hid (by rw [HR.out]; rfl)
  by_cases hs : xs.length < 24 + 24 * n
  · have hsi : (xs.length : Int) < 24 + 24 * (n : Int) := by omega
    have HE : Hid (r = (mZ, 10)) := Lib.hid (by rw [HRD.out, if_pos hs])
    obtain ⟨kx, ux⟩ := blk12g HGw1.out (.int .i64 0) (.int .u32 0) (.int .u32 0) (.int .u64 0) (.int .u32 0) (.int .u32 0) (.int .u32 0) (.slice none 0 0) (.slice none 0 0) (.slice none 0 0) (.slice none 0 0) (.int .u8 0)
    obtain ⟨wx, hwx⟩ : ∃ z, z = ((((((((((((w1.setCell ⟨G, 0, none⟩ (.int .i64 0)).setCell ⟨G, 1, none⟩ (.int .u32 0)).setCell ⟨G, 2, none⟩ (.int .u32 0)).setCell ⟨G, 3, none⟩ (.int .u64 0)).setCell ⟨G, 4, none⟩ (.int .u32 0)).setCell ⟨G, 5, none⟩ (.int .u32 0)).setCell ⟨G, 6, none⟩ (.int .u32 0)).setCell ⟨G, 7, none⟩ (.slice none 0 0)).setCell ⟨G, 8, none⟩ (.slice none 0 0)).setCell ⟨G, 9, none⟩ (.slice none 0 0)).setCell ⟨G, 10, none⟩ (.slice none 0 0)).setCell ⟨G, 11, none⟩ (.int .u8 0)) := ⟨_, rfl⟩
    rw [← hwx] at kx ux
    have HKX := Lib.hid kx
    have HUX : Hid (Upd [G] w1 wx) := Lib.hid ux
    have HFX : Hid (Upd [] w wx) := Lib.hid (HUw1.out.box' ux (by rw [HGX.out]; exact Nat.le_refl _))
    have HWX := Lib.hid hwx
    clear kx ux hwx
    have z0 : w1.cell? ⟨G, 0, none⟩ = some (.int .i64 0) := HGw1.out.cell 0
    have z1 : w1.cell? ⟨G, 1, none⟩ = some (.int .u32 0) := HGw1.out.cell 1
    have z2 : w1.cell? ⟨G, 2, none⟩ = some (.int .u32 0) := HGw1.out.cell 2
    have z3 : w1.cell? ⟨G, 3, none⟩ = some (.int .u64 0) := HGw1.out.cell 3
    have z4 : w1.cell? ⟨G, 4, none⟩ = some (.int .u32 0) := HGw1.out.cell 4
    have z5 : w1.cell? ⟨G, 5, none⟩ = some (.int .u32 0) := HGw1.out.cell 5
    have z6 : w1.cell? ⟨G, 6, none⟩ = some (.int .u32 0) := HGw1.out.cell 6
    have z7 : w1.cell? ⟨G, 7, none⟩ = some (.slice none 0 0) := HGw1.out.cell 7
    have z8 : w1.cell? ⟨G, 8, none⟩ = some (.slice none 0 0) := HGw1.out.cell 8
    have z9 : w1.cell? ⟨G, 9, none⟩ = some (.slice none 0 0) := HGw1.out.cell 9
    have z10 : w1.cell? ⟨G, 10, none⟩ = some (.slice none 0 0) := HGw1.out.cell 10
    have z11 : w1.cell? ⟨G, 11, none⟩ = some (.int .u8 0) := HGw1.out.cell 11
    have f0 := HGw1.out.frozen 0
    have f1 := HGw1.out.frozen 1
    have f2 := HGw1.out.frozen 2
    have f3 := HGw1.out.frozen 3
    have f4 := HGw1.out.frozen 4
    have f5 := HGw1.out.frozen 5
    have f6 := HGw1.out.frozen 6
    have f7 := HGw1.out.frozen 7
    have f8 := HGw1.out.frozen 8
    have f9 := HGw1.out.frozen 9
    have f10 := HGw1.out.frozen 10
    have f11 := HGw1.out.frozen 11
    go_wp2
    rw [← HWX.out]
    have g0 : wx.cell? ⟨G, 0, none⟩ = some (.int .i64 0) := HKX.out.cell 0
    have g1 : wx.cell? ⟨G, 1, none⟩ = some (.int .u32 0) := HKX.out.cell 1
    have g2 : wx.cell? ⟨G, 2, none⟩ = some (.int .u32 0) := HKX.out.cell 2
    have g3 : wx.cell? ⟨G, 3, none⟩ = some (.int .u64 0) := HKX.out.cell 3
    have g4 : wx.cell? ⟨G, 4, none⟩ = some (.int .u32 0) := HKX.out.cell 4
    have g5 : wx.cell? ⟨G, 5, none⟩ = some (.int .u32 0) := HKX.out.cell 5
    have g6 : wx.cell? ⟨G, 6, none⟩ = some (.int .u32 0) := HKX.out.cell 6
    have g7 : wx.cell? ⟨G, 7, none⟩ = some (.slice none 0 0) := HKX.out.cell 7
    have g8 : wx.cell? ⟨G, 8, none⟩ = some (.slice none 0 0) := HKX.out.cell 8
    have g9 : wx.cell? ⟨G, 9, none⟩ = some (.slice none 0 0) := HKX.out.cell 9
    have g10 : wx.cell? ⟨G, 10, none⟩ = some (.slice none 0 0) := HKX.out.cell 10
    have g11 : wx.cell? ⟨G, 11, none⟩ = some (.int .u8 0) := HKX.out.cell 11
    refine bodyPost_res (v := .tuple #[.agg #[.int .i64 0, .int .u32 0, .int .u32 0, .int .u64 0, .int .u32 0, .int .u32 0, .int .u32 0, .slice none 0 0, .slice none 0 0, .slice none 0 0, .slice none 0 0, .int .u8 0], .int .i64 10]) (by simp [results, Try.results32, go_sem, Addr.add, g0, g1, g2, g3, g4, g5, g6, g7, g8, g9, g10, g11]) rfl ?_
    exact ⟨hZ, by rw [HE.out]; rfl, by rw [HE.out]; exact ⟨CellsIn.nil _ _ _ _ _, CellsIn.nil _ _ _ _ _, CellsIn.nil _ _ _ _ _, CellsIn.nil _ _ _ _ _⟩, by rw [HE.out]; exact whoNew_nil rfl, HFX.out⟩
  · have hsi : ¬ ((xs.length : Int) < 24 + 24 * (n : Int)) := by omega
    have kc : w1.cell? ⟨G + 1, 0, none⟩ = some (.int .i64 0) := HTw1.out.cell 0
    obtain ⟨x0, hx0⟩ : ∃ v, v = nAt xs 0 4 := ⟨_, rfl⟩
    have bx0 : 0 ≤ x0 ∧ x0 ≤ 4294967295 := by rw [hx0]; exact nAt_lt HBY.out 0 4 4294967295 (by decide)
    have HNx0 : Hid (∀ W : World, Calls Try.prog 31 #[.string (strOfNums xs), .int .i64 0, .int .i64 4] W fun e w' => e = .returned (.int .u64 x0) ∧ Upd [] W w') := Lib.hid (fun W => by rw [hx0]; exact dnumat_any W xs 0 4 (by decide) (by decide) (by omega) HBY.out (by omega))
    have HXx0 := Lib.hid hx0
    clear hx0
    have wx0 : IntKind.u32.wrap x0 = x0 := by unfold IntKind.wrap; simp [IntKind.bits, IntKind.signed]; omega
    go_wp2_with fail
    refine (HNx0.out _).mono ?_
    rintro _ y0a ⟨rfl, hux⟩
    have HTy0a := Lib.hid (HTw1.out.upd hux (by simp))
    have HGy0a := Lib.hid (HGw1.out.upd hux (by simp))
    have HUy0a := Lib.hid (HUw1.out.next hux)
    clear hux
    obtain ⟨y0, hwy0⟩ : ∃ z, z = y0a.setCell ⟨G + 1, 1, none⟩ (.int .u32 x0) := ⟨_, rfl⟩
    have uy0 : Upd [G + 1] y0a y0 := by rw [hwy0]; exact (Upd.refl [G + 1] y0a).setCell (.inl (by simp)) _
    have HTy0 : Hid (Blk y0 (G + 1) 50 #[.int .i64 0, .int .u32 x0, .int .u32 0, .int .u64 0, .int .u32 0, .int .u32 0, .int .u32 0, .slice none 0 0, .slice none 0 0, .slice none 0 0, .slice none 0 0, .int .u8 0]) := Lib.hid (by rw [hwy0]; exact HTy0a.out.store 1 _)
    have HGy0 := Lib.hid (HGy0a.out.upd uy0 (by simp))
    have HUy0 : Hid (Upd [] w y0) := Lib.hid (HUy0a.out.box' uy0 (by rw [HGX.out]; exact Nat.le_succ _))
    have HWy0 := Lib.hid hwy0
    clear uy0 hwy0
    have t0 : y0a.cell? ⟨G + 1, 1, none⟩ = some (.int .u32 0) := HTy0a.out.cell 1
    have f0 := HTy0a.out.frozen 1
    go_upto_region 34 with fail
    rw [← HWy0.out]
    clear t0 f0
    clear wx0
    clear kc
    have kc : y0.cell? ⟨G + 1, 0, none⟩ = some (.int .i64 0) := HTy0.out.cell 0
    obtain ⟨x1, hx1⟩ : ∃ v, v = nAt xs 4 8 := ⟨_, rfl⟩
    have bx1 : 0 ≤ x1 ∧ x1 ≤ 18446744073709551615 := by rw [hx1]; exact nAt_lt HBY.out 4 8 18446744073709551615 (by decide)
    have HNx1 : Hid (∀ W : World, Calls Try.prog 31 #[.string (strOfNums xs), .int .i64 4, .int .i64 8] W fun e w' => e = .returned (.int .u64 x1) ∧ Upd [] W w') := Lib.hid (fun W => by rw [hx1]; exact dnumat_any W xs 4 8 (by decide) (by decide) (by omega) HBY.out (by omega))
    have HXx1 := Lib.hid hx1
    clear hx1
    go_wp2_with fail
    refine (HNx1.out _).mono ?_
    rintro _ y1a ⟨rfl, hux⟩
    have HTy1a := Lib.hid (HTy0.out.upd hux (by simp))
    have HGy1a := Lib.hid (HGy0.out.upd hux (by simp))
    have HUy1a := Lib.hid (HUy0.out.next hux)
    clear hux
    obtain ⟨y1, hwy1⟩ : ∃ z, z = y1a.setCell ⟨G + 1, 3, none⟩ (.int .u64 x1) := ⟨_, rfl⟩
    have uy1 : Upd [G + 1] y1a y1 := by rw [hwy1]; exact (Upd.refl [G + 1] y1a).setCell (.inl (by simp)) _
    have HTy1 : Hid (Blk y1 (G + 1) 50 #[.int .i64 0, .int .u32 x0, .int .u32 0, .int .u64 x1, .int .u32 0, .int .u32 0, .int .u32 0, .slice none 0 0, .slice none 0 0, .slice none 0 0, .slice none 0 0, .int .u8 0]) := Lib.hid (by rw [hwy1]; exact HTy1a.out.store 3 _)
    have HGy1 := Lib.hid (HGy1a.out.upd uy1 (by simp))
    have HUy1 : Hid (Upd [] w y1) := Lib.hid (HUy1a.out.box' uy1 (by rw [HGX.out]; exact Nat.le_succ _))
    have HWy1 := Lib.hid hwy1
    clear uy1 hwy1
    have t0 : y1a.cell? ⟨G + 1, 3, none⟩ = some (.int .u64 0) := HTy1a.out.cell 3
    have f0 := HTy1a.out.frozen 3
    go_upto_region 36 with fail
    rw [← HWy1.out]
    clear t0 f0
    clear kc
    have kc : y1.cell? ⟨G + 1, 0, none⟩ = some (.int .i64 0) := HTy1.out.cell 0
    obtain ⟨x2, hx2⟩ : ∃ v, v = nAt xs 12 4 := ⟨_, rfl⟩
    have bx2 : 0 ≤ x2 ∧ x2 ≤ 4294967295 := by rw [hx2]; exact nAt_lt HBY.out 12 4 4294967295 (by decide)
    have HNx2 : Hid (∀ W : World, Calls Try.prog 31 #[.string (strOfNums xs), .int .i64 12, .int .i64 4] W fun e w' => e = .returned (.int .u64 x2) ∧ Upd [] W w') := Lib.hid (fun W => by rw [hx2]; exact dnumat_any W xs 12 4 (by decide) (by decide) (by omega) HBY.out (by omega))
    have HXx2 := Lib.hid hx2
    clear hx2
    have wx2 : IntKind.u32.wrap x2 = x2 := by unfold IntKind.wrap; simp [IntKind.bits, IntKind.signed]; omega
    go_wp2_with fail
    refine (HNx2.out _).mono ?_
    rintro _ y2a ⟨rfl, hux⟩
    have HTy2a := Lib.hid (HTy1.out.upd hux (by simp))
    have HGy2a := Lib.hid (HGy1.out.upd hux (by simp))
    have HUy2a := Lib.hid (HUy1.out.next hux)
    clear hux
    obtain ⟨y2, hwy2⟩ : ∃ z, z = y2a.setCell ⟨G + 1, 4, none⟩ (.int .u32 x2) := ⟨_, rfl⟩
    have uy2 : Upd [G + 1] y2a y2 := by rw [hwy2]; exact (Upd.refl [G + 1] y2a).setCell (.inl (by simp)) _
    have HTy2 : Hid (Blk y2 (G + 1) 50 #[.int .i64 0, .int .u32 x0, .int .u32 0, .int .u64 x1, .int .u32 x2, .int .u32 0, .int .u32 0, .slice none 0 0, .slice none 0 0, .slice none 0 0, .slice none 0 0, .int .u8 0]) := Lib.hid (by rw [hwy2]; exact HTy2a.out.store 4 _)
    have HGy2 := Lib.hid (HGy2a.out.upd uy2 (by simp))
    have HUy2 : Hid (Upd [] w y2) := Lib.hid (HUy2a.out.box' uy2 (by rw [HGX.out]; exact Nat.le_succ _))
    have HWy2 := Lib.hid hwy2
    clear uy2 hwy2
    have t0 : y2a.cell? ⟨G + 1, 4, none⟩ = some (.int .u32 0) := HTy2a.out.cell 4
    have f0 := HTy2a.out.frozen 4
    go_upto_region 37 with fail
    rw [← HWy2.out]
    clear t0 f0
    clear wx2
    clear kc
    have kc : y2.cell? ⟨G + 1, 0, none⟩ = some (.int .i64 0) := HTy2.out.cell 0
    obtain ⟨x3, hx3⟩ : ∃ v, v = nAt xs 16 4 := ⟨_, rfl⟩
    have bx3 : 0 ≤ x3 ∧ x3 ≤ 4294967295 := by rw [hx3]; exact nAt_lt HBY.out 16 4 4294967295 (by decide)
    have HNx3 : Hid (∀ W : World, Calls Try.prog 31 #[.string (strOfNums xs), .int .i64 16, .int .i64 4] W fun e w' => e = .returned (.int .u64 x3) ∧ Upd [] W w') := Lib.hid (fun W => by rw [hx3]; exact dnumat_any W xs 16 4 (by decide) (by decide) (by omega) HBY.out (by omega))
    have HXx3 := Lib.hid hx3
    clear hx3
    have wx3 : IntKind.u32.wrap x3 = x3 := by unfold IntKind.wrap; simp [IntKind.bits, IntKind.signed]; omega
    go_wp2_with fail
    refine (HNx3.out _).mono ?_
    rintro _ y3a ⟨rfl, hux⟩
    have HTy3a := Lib.hid (HTy2.out.upd hux (by simp))
    have HGy3a := Lib.hid (HGy2.out.upd hux (by simp))
    have HUy3a := Lib.hid (HUy2.out.next hux)
    clear hux
    obtain ⟨y3, hwy3⟩ : ∃ z, z = y3a.setCell ⟨G + 1, 5, none⟩ (.int .u32 x3) := ⟨_, rfl⟩
    have uy3 : Upd [G + 1] y3a y3 := by rw [hwy3]; exact (Upd.refl [G + 1] y3a).setCell (.inl (by simp)) _
    have HTy3 : Hid (Blk y3 (G + 1) 50 #[.int .i64 0, .int .u32 x0, .int .u32 0, .int .u64 x1, .int .u32 x2, .int .u32 x3, .int .u32 0, .slice none 0 0, .slice none 0 0, .slice none 0 0, .slice none 0 0, .int .u8 0]) := Lib.hid (by rw [hwy3]; exact HTy3a.out.store 5 _)
    have HGy3 := Lib.hid (HGy3a.out.upd uy3 (by simp))
    have HUy3 : Hid (Upd [] w y3) := Lib.hid (HUy3a.out.box' uy3 (by rw [HGX.out]; exact Nat.le_succ _))
    have HWy3 := Lib.hid hwy3
    clear uy3 hwy3
    have t0 : y3a.cell? ⟨G + 1, 5, none⟩ = some (.int .u32 0) := HTy3a.out.cell 5
    have f0 := HTy3a.out.frozen 5
    go_upto_region 38 with fail
    rw [← HWy3.out]
    clear t0 f0
    clear wx3
    clear kc
    have kc : y3.cell? ⟨G + 1, 0, none⟩ = some (.int .i64 0) := HTy3.out.cell 0
    obtain ⟨x4, hx4⟩ : ∃ v, v = nAt xs 20 4 := ⟨_, rfl⟩
    have bx4 : 0 ≤ x4 ∧ x4 ≤ 4294967295 := by rw [hx4]; exact nAt_lt HBY.out 20 4 4294967295 (by decide)
    have HNx4 : Hid (∀ W : World, Calls Try.prog 31 #[.string (strOfNums xs), .int .i64 20, .int .i64 4] W fun e w' => e = .returned (.int .u64 x4) ∧ Upd [] W w') := Lib.hid (fun W => by rw [hx4]; exact dnumat_any W xs 20 4 (by decide) (by decide) (by omega) HBY.out (by omega))
    have HXx4 := Lib.hid hx4
    clear hx4
    have wx4 : IntKind.u32.wrap x4 = x4 := by unfold IntKind.wrap; simp [IntKind.bits, IntKind.signed]; omega
    go_wp2_with fail
    refine (HNx4.out _).mono ?_
    rintro _ y4a ⟨rfl, hux⟩
    have HTy4a := Lib.hid (HTy3.out.upd hux (by simp))
    have HGy4a := Lib.hid (HGy3.out.upd hux (by simp))
    have HUy4a := Lib.hid (HUy3.out.next hux)
    clear hux
    obtain ⟨y4, hwy4⟩ : ∃ z, z = y4a.setCell ⟨G + 1, 6, none⟩ (.int .u32 x4) := ⟨_, rfl⟩
    have uy4 : Upd [G + 1] y4a y4 := by rw [hwy4]; exact (Upd.refl [G + 1] y4a).setCell (.inl (by simp)) _
    have HTy4 : Hid (Blk y4 (G + 1) 50 #[.int .i64 0, .int .u32 x0, .int .u32 0, .int .u64 x1, .int .u32 x2, .int .u32 x3, .int .u32 x4, .slice none 0 0, .slice none 0 0, .slice none 0 0, .slice none 0 0, .int .u8 0]) := Lib.hid (by rw [hwy4]; exact HTy4a.out.store 6 _)
    have HGy4 := Lib.hid (HGy4a.out.upd uy4 (by simp))
    have HUy4 : Hid (Upd [] w y4) := Lib.hid (HUy4a.out.box' uy4 (by rw [HGX.out]; exact Nat.le_succ _))
    have HWy4 := Lib.hid hwy4
    clear uy4 hwy4
    have t0 : y4a.cell? ⟨G + 1, 6, none⟩ = some (.int .u32 0) := HTy4a.out.cell 6
    have f0 := HTy4a.out.frozen 6
    go_upto_region 39 with fail
    rw [← HWy4.out]
    clear t0 f0
    clear wx4
    clear kc
    have HBS : Hid (G + 1 < y4.heap.size) := Lib.hid HTy4.out.lt
    have kc : y4.cell? ⟨G + 1, 0, none⟩ = some (.int .i64 0) := HTy4.out.cell 0
    go_wp2
    clear kc
    go_loopg [12] n (fun gk x12 wr => ∃ i : Nat, i ≤ n ∧ n ≤ i + gk ∧ x12 = .int .i64 i ∧ ∃ (A : Option Addr) (c : Nat), Blk wr (G + 1) 50 #[.int .i64 0, .int .u32 x0, .int .u32 0, .int .u64 x1, .int .u32 x2, .int .u32 x3, .int .u32 x4, .slice A i c, .slice none 0 0, .slice none 0 0, .slice none 0 0, .int .u8 0] ∧ wr.ownsRow y4.heap.size 61 7 (.slice A i c) i (((List.range i).map (fun i => repAt xs (24 + 24 * i))).flatMap encRep) ∧ Blk wr G 50 #[.int .i64 0, .int .u32 0, .int .u32 0, .int .u64 0, .int .u32 0, .int .u32 0, .int .u32 0, .slice none 0 0, .slice none 0 0, .slice none 0 0, .slice none 0 0, .int .u8 0] ∧ Upd [] w wr ∧ y4.heap.size ≤ wr.heap.size)
    case atStart => exact ⟨0, Nat.zero_le _, by omega, rfl, none, 0, HTy4.out, World.ownsRow_nil _ _ _ _, HGy4.out, HUy4.out, Nat.le_refl _⟩
    case round =>
      obtain ⟨i, hi, hgi, rfl, A, c, hbT, hown, hbG, hur, hsx⟩ := hrel
      by_cases hlt : i < n
      · have hlti : (i : Int) < (n : Int) := by omega
        have hwi : IntKind.i64.wrap ((i : Int) + 1) = (i : Int) + 1 := IntWalk.i64_in _ (by omega)
        have hwm : IntKind.i64.wrap (24 * (i : Int)) = 24 * (i : Int) := IntWalk.i64_in _ (by omega)
        obtain ⟨p, hp⟩ : ∃ p : Nat, p = 24 + 24 * i := ⟨_, rfl⟩
        have hwp : IntKind.i64.wrap (24 + 24 * (i : Int)) = (p : Int) := by rw [IntWalk.i64_in _ (by omega)]; omega
        have hwp4 : IntKind.i64.wrap ((p : Int) + 4) = (p : Int) + 4 := IntWalk.i64_in _ (by omega)
        have hwp5 : IntKind.i64.wrap ((p : Int) + 5) = (p : Int) + 5 := IntWalk.i64_in _ (by omega)
        have hwp8 : IntKind.i64.wrap ((p : Int) + 8) = (p : Int) + 8 := IntWalk.i64_in _ (by omega)
        have hwp12 : IntKind.i64.wrap ((p : Int) + 12) = (p : Int) + 12 := IntWalk.i64_in _ (by omega)
        have hwp16 : IntKind.i64.wrap ((p : Int) + 16) = (p : Int) + 16 := IntWalk.i64_in _ (by omega)
        have hwp20 : IntKind.i64.wrap ((p : Int) + 20) = (p : Int) + 20 := IntWalk.i64_in _ (by omega)
        obtain ⟨z0, hz0⟩ : ∃ v, v = nAt xs p 4 := ⟨_, rfl⟩
        have bz0 : 0 ≤ z0 ∧ z0 ≤ 4294967295 := by rw [hz0]; exact nAt_lt HBY.out p 4 4294967295 (by decide)
        have HN0 : Hid (∀ W : World, Calls Try.prog 31 #[.string (strOfNums xs), .int .i64 p, .int .i64 4] W fun e w' => e = .returned (.int .u64 z0) ∧ Upd [] W w') := Lib.hid (fun W => by rw [hz0]; exact dnumat_any W xs p 4 (by decide) (by decide) (by omega) HBY.out (by omega))
        have HXz0 := Lib.hid hz0
        clear hz0
        have hwz0 : IntKind.u32.wrap z0 = z0 := by unfold IntKind.wrap; simp [IntKind.bits, IntKind.signed]; omega
        obtain ⟨z1, hx1⟩ : ∃ z, xs[p + 4]? = some z := ⟨_, List.getElem?_eq_getElem (by omega)⟩
        have bz1 := HBY.out z1 (List.mem_of_getElem? hx1)
        have HXz1 : Hid (z1 = nAt xs (p + 4) 1) := Lib.hid (nAt_one hx1)
        have hpz : p + 4 < (strOfNums xs).size := by rw [strOfNums_size]; omega
        have hget := strOf_get (xs := xs) (i := p + 4) hpz hx1 bz1
        have hpi : ((p : Int) + 4).toNat = p + 4 := by omega
        have hpl : (p : Int) + 4 < (xs.length : Int) := by omega
        clear hx1
        obtain ⟨z2, hz2⟩ : ∃ v, v = nAt xs (p + 5) 3 := ⟨_, rfl⟩
        have bz2 : 0 ≤ z2 ∧ z2 ≤ 16777215 := by rw [hz2]; exact nAt_lt HBY.out (p + 5) 3 16777215 (by decide)
        have HN2 : Hid (∀ W : World, Calls Try.prog 31 #[.string (strOfNums xs), .int .i64 ((p : Int) + 5), .int .i64 3] W fun e w' => e = .returned (.int .u64 z2) ∧ Upd [] W w') := Lib.hid (fun W => by rw [hz2]; exact dnumatp_any W xs p 5 3 (by decide) (by decide) (by omega) HBY.out (by omega))
        have HXz2 := Lib.hid hz2
        clear hz2
        have hwz2 : IntKind.u32.wrap z2 = z2 := by unfold IntKind.wrap; simp [IntKind.bits, IntKind.signed]; omega
        obtain ⟨z3, hz3⟩ : ∃ v, v = nAt xs (p + 8) 4 := ⟨_, rfl⟩
        have bz3 : 0 ≤ z3 ∧ z3 ≤ 4294967295 := by rw [hz3]; exact nAt_lt HBY.out (p + 8) 4 4294967295 (by decide)
        have HN3 : Hid (∀ W : World, Calls Try.prog 31 #[.string (strOfNums xs), .int .i64 ((p : Int) + 8), .int .i64 4] W fun e w' => e = .returned (.int .u64 z3) ∧ Upd [] W w') := Lib.hid (fun W => by rw [hz3]; exact dnumatp_any W xs p 8 4 (by decide) (by decide) (by omega) HBY.out (by omega))
        have HXz3 := Lib.hid hz3
        clear hz3
        have hwz3 : IntKind.u32.wrap z3 = z3 := by unfold IntKind.wrap; simp [IntKind.bits, IntKind.signed]; omega
        obtain ⟨z4, hz4⟩ : ∃ v, v = nAt xs (p + 12) 4 := ⟨_, rfl⟩
        have bz4 : 0 ≤ z4 ∧ z4 ≤ 4294967295 := by rw [hz4]; exact nAt_lt HBY.out (p + 12) 4 4294967295 (by decide)
        have HN4 : Hid (∀ W : World, Calls Try.prog 31 #[.string (strOfNums xs), .int .i64 ((p : Int) + 12), .int .i64 4] W fun e w' => e = .returned (.int .u64 z4) ∧ Upd [] W w') := Lib.hid (fun W => by rw [hz4]; exact dnumatp_any W xs p 12 4 (by decide) (by decide) (by omega) HBY.out (by omega))
        have HXz4 := Lib.hid hz4
        clear hz4
        have hwz4 : IntKind.u32.wrap z4 = z4 := by unfold IntKind.wrap; simp [IntKind.bits, IntKind.signed]; omega
        obtain ⟨z5, hz5⟩ : ∃ v, v = nAt xs (p + 16) 4 := ⟨_, rfl⟩
        have bz5 : 0 ≤ z5 ∧ z5 ≤ 4294967295 := by rw [hz5]; exact nAt_lt HBY.out (p + 16) 4 4294967295 (by decide)
        have HN5 : Hid (∀ W : World, Calls Try.prog 31 #[.string (strOfNums xs), .int .i64 ((p : Int) + 16), .int .i64 4] W fun e w' => e = .returned (.int .u64 z5) ∧ Upd [] W w') := Lib.hid (fun W => by rw [hz5]; exact dnumatp_any W xs p 16 4 (by decide) (by decide) (by omega) HBY.out (by omega))
        have HXz5 := Lib.hid hz5
        clear hz5
        have hwz5 : IntKind.u32.wrap z5 = z5 := by unfold IntKind.wrap; simp [IntKind.bits, IntKind.signed]; omega
        obtain ⟨z6, hz6⟩ : ∃ v, v = nAt xs (p + 20) 4 := ⟨_, rfl⟩
        have bz6 : 0 ≤ z6 ∧ z6 ≤ 4294967295 := by rw [hz6]; exact nAt_lt HBY.out (p + 20) 4 4294967295 (by decide)
        have HN6 : Hid (∀ W : World, Calls Try.prog 31 #[.string (strOfNums xs), .int .i64 ((p : Int) + 20), .int .i64 4] W fun e w' => e = .returned (.int .u64 z6) ∧ Upd [] W w') := Lib.hid (fun W => by rw [hz6]; exact dnumatp_any W xs p 20 4 (by decide) (by decide) (by omega) HBY.out (by omega))
        have HXz6 := Lib.hid hz6
        clear hz6
        have hwz6 : IntKind.u32.wrap z6 = z6 := by unfold IntKind.wrap; simp [IntKind.bits, IntKind.signed]; omega
        have HRE : Hid (repAt xs (24 + 24 * i) = ⟨z0, z1, z2, z3, z4, z5, z6⟩) := Lib.hid (by unfold repAt; rw [← hp, ← HXz0.out, ← HXz1.out, ← HXz2.out, ← HXz3.out, ← HXz4.out, ← HXz5.out, ← HXz6.out])
        have HP := Lib.hid hp
        clear hp
        have hTP : G + 1 ∉ A.toList.map (·.block) := fun hm => by
          obtain ⟨cur, hcur⟩ := row_type hown (G + 1) (by have h8 := own_listN A i c; rw [← h8] at hm; simpa using hm)
          exact hcur.ne hbT (by decide) rfl
        have hGP : G ∉ A.toList.map (·.block) := fun hm => by
          obtain ⟨cur, hcur⟩ := row_type hown G (by have h8 := own_listN A i c; rw [← h8] at hm; simpa using hm)
          exact hcur.ne hbG (by decide) rfl
        obtain ⟨PB, hPB⟩ : ∃ l, l = A.toList.map (·.block) := ⟨_, rfl⟩
        rw [← hPB] at hTP hGP
        have hTl := hbT.lt
        have tz : ∀ z : Cls (Upd PB wr), z.w.cell? ⟨G + 1, 7, none⟩ = some (.slice A i c) := fun z => (z.h.cell (p := ⟨G + 1, 7, none⟩) hTl hTP).trans (hbT.cell 7)
        have HOWN := Lib.hid hown
        have HBT := Lib.hid hbT
        have HBG := Lib.hid hbG
        have HUR := Lib.hid hur
        have HPB := Lib.hid hPB
        have HTP := Lib.hid (And.intro hTP hGP)
        have HGI := Lib.hid hgi
        obtain ⟨j0, hj0, hy0, hy1, hy2⟩ := info_parts infoRR
        clear hown hbT hbG hur hPB hTP hGP hgi hTl
        go_upto_region 44 with fail
        refine wp_script (Upd PB wr) ((Upd.refl _ _).drewN 1) (.take [0, 1, 2, 3, 6, 7, 8, 9, 10, 11, 12, 15, 16, 17, 20, 21, 22, 25, 26, 27, 30, 31, 32] (.one 4 (.take [5] (.one 13 (.take [14] (.one 18 (.take [19] (.one 23 (.take [24] (.one 28 (.take [29] (.one 33 (.take [34, 35] (.last [36, 37, 38, 39])))))))))))))) (by kernel_rfl) (by kernel_rfl) (fun _ _ _ _ h => h) ?_
        intro hne
        refine wpS_take ?_
        simp only [pick3, List.map_cons, List.map_nil, List.getElem?_cons_zero, List.getElem?_cons_succ, Option.getD_some]
        repeat (go_big_quiet_step (with_reducible rfl))
        refine wpQuiet_nil ?_
        obtain ⟨w0, hw0⟩ : ∃ v, v = wr.drewN 1 := ⟨_, rfl⟩
        have HJ0 : Hid (Upd [] wr w0) := Lib.hid (by rw [hw0]; exact (Upd.refl _ _).drewN 1)
        rw [← hw0]
        clear hw0 tz
        refine wpS_one ?_
        simp only [pick3, List.map_cons, List.map_nil, List.getElem?_cons_zero, List.getElem?_cons_succ, Option.getD_some]
        refine wpHeldK_step rfl fun K hK => ?_
        go_simp
        refine (HN0.out _).mono ?_
        rintro _ wj0 ⟨rfl, hux⟩
        have HJ1 := Lib.hid (HJ0.out.next hux)
        clear hux
        refine hK.out _ _ ⟨⟨wj0, HJ1.out.more (by simp)⟩, rfl⟩ ?_
        clear hK K
        refine wpQuiet_then ?_
        refine wpS_take ?_
        simp only [pick3, List.map_cons, List.map_nil, List.getElem?_cons_zero, List.getElem?_cons_succ, Option.getD_some]
        repeat (go_big_quiet_step (with_reducible rfl))
        refine wpQuiet_nil ?_
        refine wpS_one ?_
        simp only [pick3, List.map_cons, List.map_nil, List.getElem?_cons_zero, List.getElem?_cons_succ, Option.getD_some]
        refine wpHeldK_step rfl fun K hK => ?_
        go_simp
        refine (HN2.out _).mono ?_
        rintro _ wj1 ⟨rfl, hux⟩
        have HJ2 := Lib.hid (HJ1.out.next hux)
        clear hux
        refine hK.out _ _ ⟨⟨wj1, HJ2.out.more (by simp)⟩, rfl⟩ ?_
        clear hK K
        refine wpQuiet_then ?_
        refine wpS_take ?_
        simp only [pick3, List.map_cons, List.map_nil, List.getElem?_cons_zero, List.getElem?_cons_succ, Option.getD_some]
        repeat (go_big_quiet_step (with_reducible rfl))
        refine wpQuiet_nil ?_
        refine wpS_one ?_
        simp only [pick3, List.map_cons, List.map_nil, List.getElem?_cons_zero, List.getElem?_cons_succ, Option.getD_some]
        refine wpHeldK_step rfl fun K hK => ?_
        go_simp
        refine (HN3.out _).mono ?_
        rintro _ wj2 ⟨rfl, hux⟩
        have HJ3 := Lib.hid (HJ2.out.next hux)
        clear hux
        refine hK.out _ _ ⟨⟨wj2, HJ3.out.more (by simp)⟩, rfl⟩ ?_
        clear hK K
        refine wpQuiet_then ?_
        refine wpS_take ?_
        simp only [pick3, List.map_cons, List.map_nil, List.getElem?_cons_zero, List.getElem?_cons_succ, Option.getD_some]
        repeat (go_big_quiet_step (with_reducible rfl))
        refine wpQuiet_nil ?_
        refine wpS_one ?_
        simp only [pick3, List.map_cons, List.map_nil, List.getElem?_cons_zero, List.getElem?_cons_succ, Option.getD_some]
        refine wpHeldK_step rfl fun K hK => ?_
        go_simp
        refine (HN4.out _).mono ?_
        rintro _ wj3 ⟨rfl, hux⟩
        have HJ4 := Lib.hid (HJ3.out.next hux)
        clear hux
        refine hK.out _ _ ⟨⟨wj3, HJ4.out.more (by simp)⟩, rfl⟩ ?_
        clear hK K
        refine wpQuiet_then ?_
        refine wpS_take ?_
        simp only [pick3, List.map_cons, List.map_nil, List.getElem?_cons_zero, List.getElem?_cons_succ, Option.getD_some]
        repeat (go_big_quiet_step (with_reducible rfl))
        refine wpQuiet_nil ?_
        refine wpS_one ?_
        simp only [pick3, List.map_cons, List.map_nil, List.getElem?_cons_zero, List.getElem?_cons_succ, Option.getD_some]
        refine wpHeldK_step rfl fun K hK => ?_
        go_simp
        refine (HN5.out _).mono ?_
        rintro _ wj4 ⟨rfl, hux⟩
        have HJ5 := Lib.hid (HJ4.out.next hux)
        clear hux
        refine hK.out _ _ ⟨⟨wj4, HJ5.out.more (by simp)⟩, rfl⟩ ?_
        clear hK K
        refine wpQuiet_then ?_
        refine wpS_take ?_
        simp only [pick3, List.map_cons, List.map_nil, List.getElem?_cons_zero, List.getElem?_cons_succ, Option.getD_some]
        repeat (go_big_quiet_step (with_reducible rfl))
        refine wpQuiet_nil ?_
        refine wpS_one ?_
        simp only [pick3, List.map_cons, List.map_nil, List.getElem?_cons_zero, List.getElem?_cons_succ, Option.getD_some]
        refine wpHeldK_step rfl fun K hK => ?_
        go_simp
        refine (HN6.out _).mono ?_
        rintro _ wj5 ⟨rfl, hux⟩
        have HJ6 := Lib.hid (HJ5.out.next hux)
        clear hux
        refine hK.out _ _ ⟨⟨wj5, HJ6.out.more (by simp)⟩, rfl⟩ ?_
        clear hK K
        refine wpQuiet_then ?_
        refine wpS_take ?_
        simp only [pick3, List.map_cons, List.map_nil, List.getElem?_cons_zero, List.getElem?_cons_succ, Option.getD_some]
        repeat (go_big_quiet_step (with_reducible rfl))
        refine wpQuiet_nil ?_
        refine wpS_last ?_
        simp only [pick3, List.map_cons, List.map_nil, List.getElem?_cons_zero, List.getElem?_cons_succ, Option.getD_some]
        refine wpHeld_step rfl fun K hK => ?_
        go_simp
        obtain ⟨V, hV⟩ : ∃ V, V = wj5.heap.size := ⟨_, rfl⟩
        obtain ⟨W3, hW3⟩ : ∃ z, z = wj5.alloc (.cells #[.int .u32 z0, .int .u8 z1, .int .u32 z2, .int .u32 z3, .int .u32 z4, .int .u32 z5, .int .u32 z6] 61) := ⟨_, rfl⟩
        have u3 : Upd [] wr W3 := HJ6.out.next (by rw [hW3]; exact (Upd.refl [] _).alloc _)
        have hVB : Blk W3 V 61 #[.int .u32 z0, .int .u8 z1, .int .u32 z2, .int .u32 z3, .int .u32 z4, .int .u32 z5, .int .u32 z6] := by rw [hW3, hV]; exact Blk.new _ _ _
        rw [← hW3, ← hV]
        have HU3 := Lib.hid u3
        have HVB := Lib.hid hVB
        clear hV hW3 u3 hVB
        refine hK.out _ _ (.inr ⟨⟨W3, HU3.out.more (by simp)⟩, rfl⟩) ?_
        clear hK K
        refine wpHeld_list (fun Q1 hq => ?_)
        refine wpList_append_src W3 rfl (.tmp 123) (.tmp 158) 45 rfl y4.heap.size 61 j0 _ 7 28 Try.underlying45 hj0 hy0 hy1 hy2 rfl (by decide) (.slice A i c) i (((List.range i).map (fun i => repAt xs (24 + 24 * i))).flatMap encRep) rfl (ownsRow_upd HOWN.out HU3.out (by simp)) (some ⟨V, 0, none⟩) 1 1 [.int .u32 z0, .int .u8 z1, .int .u32 z2, .int .u32 z3, .int .u32 z4, .int .u32 z5, .int .u32 z6] rfl (fun e => by cases e) rfl (fun ad e => by obtain rfl := Option.some.inj e; exact blk_src HVB.out) (by intro v hv; simp at hv; repeat (first | (rcases hv with rfl | hv; · rfl) | (subst hv; rfl))) (by unfold maxLen; omega) (by omega) (by have := HU3.out.size; omega) ?_
        intro v1 w4 hown4 hg4 _
        obtain ⟨A', c', hv, _⟩ := own_form hown4
        subst hv
        have hu4 : Upd PB W3 w4 := by rw [HPB.out, ← own_listN A i c]; exact Upd.of_grown hg4
        have HOWN4 : Hid (w4.ownsRow y4.heap.size 61 7 (.slice A' (i + 1) c') (i + 1) (((List.range (i + 1)).map (fun i => repAt xs (24 + 24 * i))).flatMap encRep)) := Lib.hid (by
          have h9 := hown4
          rw [show (((List.range (i + 1)).map (fun i => repAt xs (24 + 24 * i))).flatMap encRep) = (((List.range i).map (fun i => repAt xs (24 + 24 * i))).flatMap encRep) ++ [.int .u32 z0, .int .u8 z1, .int .u32 z2, .int .u32 z3, .int .u32 z4, .int .u32 z5, .int .u32 z6] from by rw [List.range_succ, List.map_append, List.flatMap_append]; simp only [List.map_cons, List.map_nil, List.flatMap_cons, List.flatMap_nil, HRE.out]; rfl]
          exact h9)
        have HU4 := Lib.hid hu4
        refine hq.out _ _ (.inr ⟨⟨w4, (HU3.out.more (by simp)).next HU4.out⟩, rfl⟩) ?_
        refine wpHeld_step rfl fun K hK => ?_
        go_simp
        refine hK.out _ _ (.inr ⟨⟨w4, (HU3.out.more (by simp)).next HU4.out⟩, rfl⟩) ?_
        clear hK K
        clear hq Q1 hg4 hown4 hu4
        have hbT4 := (HBT.out.upd HU3.out (by simp)).upd HU4.out HTP.out.1
        have hbG4 := (HBG.out.upd HU3.out (by simp)).upd HU4.out HTP.out.2
        have HW4 : Hid (Upd [] w w4) := Lib.hid (by
          have h8 := HUR.out.next HU3.out
          exact Upd.of_below ((h8.below (Nat.le_refl _) (by simp)).trans (HU4.out.below h8.size (fun s hs => by
            rw [HPB.out] at hs
            have h9 := (own_block_lt HOWN.out (g := s) (by have := own_listN A i c; rw [← this] at hs; simpa using hs)).1
            have := HBS.out; have := HGX.out
            omega))))
        have m4 : w4.cell? ⟨G + 1, 7, none⟩ = some (.slice A i c) := hbT4.cell 7
        have f4 := hbT4.frozen 7
        obtain ⟨w5, hw5⟩ : ∃ z, z = w4.setCell ⟨G + 1, 7, none⟩ (.slice A' (i + 1) c') := ⟨_, rfl⟩
        have us5 : Upd [G + 1] w4 w5 := by rw [hw5]; exact (Upd.refl [G + 1] w4).setCell (.inl (by simp)) _
        have HFIN : Hid (Blk w5 (G + 1) 50 #[.int .i64 0, .int .u32 x0, .int .u32 0, .int .u64 x1, .int .u32 x2, .int .u32 x3, .int .u32 x4, .slice A' (i + 1) c', .slice none 0 0, .slice none 0 0, .slice none 0 0, .int .u8 0] ∧ w5.ownsRow y4.heap.size 61 7 (.slice A' (i + 1) c') (i + 1) (((List.range (i + 1)).map (fun i => repAt xs (24 + 24 * i))).flatMap encRep) ∧ Blk w5 G 50 #[.int .i64 0, .int .u32 0, .int .u32 0, .int .u64 0, .int .u32 0, .int .u32 0, .int .u32 0, .slice none 0 0, .slice none 0 0, .slice none 0 0, .slice none 0 0, .int .u8 0] ∧ Upd [] w w5 ∧ y4.heap.size ≤ w5.heap.size) := Lib.hid ⟨by rw [hw5]; exact hbT4.store 7 _, ownsRow_upd HOWN4.out us5 (fun s hs hg => by
          rw [List.mem_singleton] at hs
          subst hs
          have h9 := (own_block_lt HOWN4.out hg).1
          have := HBS.out
          omega), hbG4.upd us5 (by simp), HW4.out.box' us5 (by rw [HGX.out]; exact Nat.le_succ _), by have := HU3.out.size; have := HU4.out.size; have := us5.size; omega⟩
        have HW5 := Lib.hid hw5
        clear hbT4 hbG4 us5 hw5
        refine wpHeld_last ?_
        go_wp2
        rw [← HW5.out]
        go_roundg (gk - 1)
        case measure => have := HGI.out; omega
        case rel => exact ⟨i + 1, by omega, by have := HGI.out; omega, by go_num, A', c', HFIN.out⟩
      · obtain rfl : i = n := by omega
        have HTw9 := Lib.hid hbT
        have HGw9 := Lib.hid hbG
        have HUw9 := Lib.hid hur
        have HO9 := Lib.hid hown
        obtain ⟨w9, rfl⟩ : ∃ z : World, z = wr := ⟨wr, rfl⟩
        clear hbT hbG hur hown hgi hi hlt
        have kc : w9.cell? ⟨G + 1, 0, none⟩ = some (.int .i64 0) := HTw9.out.cell 0
        obtain ⟨kx, ux⟩ := blk12g HGw9.out (.int .i64 0) (.int .u32 x0) (.int .u32 0) (.int .u64 x1) (.int .u32 x2) (.int .u32 x3) (.int .u32 x4) (.slice A i c) (.slice none 0 0) (.slice none 0 0) (.slice none 0 0) (.int .u8 0)
        obtain ⟨wx, hwx⟩ : ∃ z, z = ((((((((((((w9.setCell ⟨G, 0, none⟩ (.int .i64 0)).setCell ⟨G, 1, none⟩ (.int .u32 x0)).setCell ⟨G, 2, none⟩ (.int .u32 0)).setCell ⟨G, 3, none⟩ (.int .u64 x1)).setCell ⟨G, 4, none⟩ (.int .u32 x2)).setCell ⟨G, 5, none⟩ (.int .u32 x3)).setCell ⟨G, 6, none⟩ (.int .u32 x4)).setCell ⟨G, 7, none⟩ (.slice A i c)).setCell ⟨G, 8, none⟩ (.slice none 0 0)).setCell ⟨G, 9, none⟩ (.slice none 0 0)).setCell ⟨G, 10, none⟩ (.slice none 0 0)).setCell ⟨G, 11, none⟩ (.int .u8 0)) := ⟨_, rfl⟩
        rw [← hwx] at kx ux
        have HKX := Lib.hid kx
        have HUX : Hid (Upd [G] w9 wx) := Lib.hid ux
        have HFX : Hid (Upd [] w wx) := Lib.hid (HUw9.out.box' ux (by rw [HGX.out]; exact Nat.le_refl _))
        have HWX := Lib.hid hwx
        clear kx ux hwx
        have t0 : w9.cell? ⟨G + 1, 0, none⟩ = some (.int .i64 0) := HTw9.out.cell 0
        have t1 : w9.cell? ⟨G + 1, 1, none⟩ = some (.int .u32 x0) := HTw9.out.cell 1
        have t2 : w9.cell? ⟨G + 1, 2, none⟩ = some (.int .u32 0) := HTw9.out.cell 2
        have t3 : w9.cell? ⟨G + 1, 3, none⟩ = some (.int .u64 x1) := HTw9.out.cell 3
        have t4 : w9.cell? ⟨G + 1, 4, none⟩ = some (.int .u32 x2) := HTw9.out.cell 4
        have t5 : w9.cell? ⟨G + 1, 5, none⟩ = some (.int .u32 x3) := HTw9.out.cell 5
        have t6 : w9.cell? ⟨G + 1, 6, none⟩ = some (.int .u32 x4) := HTw9.out.cell 6
        have t7 : w9.cell? ⟨G + 1, 7, none⟩ = some (.slice A i c) := HTw9.out.cell 7
        have t8 : w9.cell? ⟨G + 1, 8, none⟩ = some (.slice none 0 0) := HTw9.out.cell 8
        have t9 : w9.cell? ⟨G + 1, 9, none⟩ = some (.slice none 0 0) := HTw9.out.cell 9
        have t10 : w9.cell? ⟨G + 1, 10, none⟩ = some (.slice none 0 0) := HTw9.out.cell 10
        have t11 : w9.cell? ⟨G + 1, 11, none⟩ = some (.int .u8 0) := HTw9.out.cell 11
        have z0 : w9.cell? ⟨G, 0, none⟩ = some (.int .i64 0) := HGw9.out.cell 0
        have z1 : w9.cell? ⟨G, 1, none⟩ = some (.int .u32 0) := HGw9.out.cell 1
        have z2 : w9.cell? ⟨G, 2, none⟩ = some (.int .u32 0) := HGw9.out.cell 2
        have z3 : w9.cell? ⟨G, 3, none⟩ = some (.int .u64 0) := HGw9.out.cell 3
        have z4 : w9.cell? ⟨G, 4, none⟩ = some (.int .u32 0) := HGw9.out.cell 4
        have z5 : w9.cell? ⟨G, 5, none⟩ = some (.int .u32 0) := HGw9.out.cell 5
        have z6 : w9.cell? ⟨G, 6, none⟩ = some (.int .u32 0) := HGw9.out.cell 6
        have z7 : w9.cell? ⟨G, 7, none⟩ = some (.slice none 0 0) := HGw9.out.cell 7
        have z8 : w9.cell? ⟨G, 8, none⟩ = some (.slice none 0 0) := HGw9.out.cell 8
        have z9 : w9.cell? ⟨G, 9, none⟩ = some (.slice none 0 0) := HGw9.out.cell 9
        have z10 : w9.cell? ⟨G, 10, none⟩ = some (.slice none 0 0) := HGw9.out.cell 10
        have z11 : w9.cell? ⟨G, 11, none⟩ = some (.int .u8 0) := HGw9.out.cell 11
        have f0 := HGw9.out.frozen 0
        have f1 := HGw9.out.frozen 1
        have f2 := HGw9.out.frozen 2
        have f3 := HGw9.out.frozen 3
        have f4 := HGw9.out.frozen 4
        have f5 := HGw9.out.frozen 5
        have f6 := HGw9.out.frozen 6
        have f7 := HGw9.out.frozen 7
        have f8 := HGw9.out.frozen 8
        have f9 := HGw9.out.frozen 9
        have f10 := HGw9.out.frozen 10
        have f11 := HGw9.out.frozen 11
        go_wp2
        rw [← HWX.out]
        have g0 : wx.cell? ⟨G, 0, none⟩ = some (.int .i64 0) := HKX.out.cell 0
        have g1 : wx.cell? ⟨G, 1, none⟩ = some (.int .u32 x0) := HKX.out.cell 1
        have g2 : wx.cell? ⟨G, 2, none⟩ = some (.int .u32 0) := HKX.out.cell 2
        have g3 : wx.cell? ⟨G, 3, none⟩ = some (.int .u64 x1) := HKX.out.cell 3
        have g4 : wx.cell? ⟨G, 4, none⟩ = some (.int .u32 x2) := HKX.out.cell 4
        have g5 : wx.cell? ⟨G, 5, none⟩ = some (.int .u32 x3) := HKX.out.cell 5
        have g6 : wx.cell? ⟨G, 6, none⟩ = some (.int .u32 x4) := HKX.out.cell 6
        have g7 : wx.cell? ⟨G, 7, none⟩ = some (.slice A i c) := HKX.out.cell 7
        have g8 : wx.cell? ⟨G, 8, none⟩ = some (.slice none 0 0) := HKX.out.cell 8
        have g9 : wx.cell? ⟨G, 9, none⟩ = some (.slice none 0 0) := HKX.out.cell 9
        have g10 : wx.cell? ⟨G, 10, none⟩ = some (.slice none 0 0) := HKX.out.cell 10
        have g11 : wx.cell? ⟨G, 11, none⟩ = some (.int .u8 0) := HKX.out.cell 11
        refine bodyPost_res (v := .tuple #[.agg #[.int .i64 0, .int .u32 x0, .int .u32 0, .int .u64 x1, .int .u32 x2, .int .u32 x3, .int .u32 x4, .slice A i c, .slice none 0 0, .slice none 0 0, .slice none 0 0, .int .u8 0], .int .i64 0]) (by simp [results, Try.results32, go_sem, Addr.add, g0, g1, g2, g3, g4, g5, g6, g7, g8, g9, g10, g11]) rfl ?_
        have HE : Hid (r = (⟨0, x0, 0, x1, x2, x3, x4, (List.range i).map (fun i => repAt xs (24 + 24 * i)), [], [], [], 0⟩, 0)) := Lib.hid (by rw [HRD.out, if_neg hs, HXx0.out, HXx1.out, HXx2.out, HXx3.out, HXx4.out])
        have ho := ownsRow_upd HO9.out HUX.out (fun s hs hg => by
          rw [List.mem_singleton] at hs
          subst hs
          have h9 := (own_block_lt HO9.out hg).1
          have := HBS.out
          omega)
        refine ⟨⟨A, c, none, 0, none, 0, none, 0⟩, ?_, ?_, by rw [HE.out]; exact whoNew_nil rfl, HFX.out⟩
        · rw [HE.out]
          unfold mcells
          simp
        · rw [HE.out]
          refine ⟨?_, CellsIn.nil _ _ _ _ _, CellsIn.nil _ _ _ _ _, CellsIn.nil _ _ _ _ _⟩
          dsimp only
          rw [List.length_map, List.length_range]
          exact (CellsIn.of_own ho).more (by have := HUy4.out.size; omega) (Nat.le_refl _)
end Go.Proofs.Ytgkejdjdccgjbaa
/- A body's message by the document (louverref09.read), arm 'receiver'. Conditions: bytes, and which arm. -/
namespace Go.Proofs.Ytgkejdjdccgjbaa
open Go Go.RowKit
set_option maxHeartbeats 400000
set_option maxRecDepth 100000 in
set_option maxHeartbeats 16000000 in
theorem rread_receiver (w : World) (kd : Int) (n : Nat) (xs : List Int) (hk : 0 ≤ kd ∧ kd ≤ 255) (hn : n ≤ 31) (hb : Byt xs) (hl : xs.length ≤ 100000) (k0 : ¬ kd = 200) (k1 : kd = 201) :
    Calls Try.prog 32 #[.int .i64 kd, .int .i64 n, .string (strOfNums xs)] w fun e w' => ∃ hd, e = .returned (.tuple #[.agg (mcells (readM kd n xs).1 hd).toArray, .int .i64 (readM kd n xs).2]) ∧ RfIn w' w.heap.size (readM kd n xs).1 hd ∧ WhoNew w.heap.size (readM kd n xs).1 hd ∧ Upd [] w w' := by
  have Hk0 := Lib.hid k0
  have Hk1 := Lib.hid k1
  clear k0 k1
  rw [read_direct]
  obtain ⟨r, hr⟩ : ∃ r, r = readD kd n xs := ⟨_, rfl⟩
  rw [← hr]
  have HR := Lib.hid hr
  have HBY := Lib.hid hb
  obtain ⟨G, hG⟩ : ∃ G, G = w.heap.size := ⟨_, rfl⟩
  obtain ⟨W1, hW1⟩ : ∃ W, W = w.alloc (.cells #[.int .i64 0, .int .u32 0, .int .u32 0, .int .u64 0, .int .u32 0, .int .u32 0, .int .u32 0, .slice none 0 0, .slice none 0 0, .slice none 0 0, .slice none 0 0, .int .u8 0] 50) := ⟨_, rfl⟩
  obtain ⟨W, hW⟩ : ∃ W, W = W1.alloc (.cells #[.int .i64 6, .int .u32 0, .int .u32 0, .int .u64 0, .int .u32 0, .int .u32 0, .int .u32 0, .slice none 0 0, .slice none 0 0, .slice none 0 0, .slice none 0 0, .int .u8 kd] 50) := ⟨_, rfl⟩
  have u1 : Upd [] w W1 := by rw [hW1]; exact (Upd.refl [] w).alloc _
  have u2 : Upd [] W1 W := by rw [hW]; exact (Upd.refl [] W1).alloc _
  have s1 : W1.heap.size = G + 1 := by rw [hW1, World.size_alloc, hG]
  have HGW : Hid (Blk W G 50 #[.int .i64 0, .int .u32 0, .int .u32 0, .int .u64 0, .int .u32 0, .int .u32 0, .int .u32 0, .slice none 0 0, .slice none 0 0, .slice none 0 0, .slice none 0 0, .int .u8 0]) := Lib.hid (by
    have : Blk W1 G 50 #[.int .i64 0, .int .u32 0, .int .u32 0, .int .u64 0, .int .u32 0, .int .u32 0, .int .u32 0, .slice none 0 0, .slice none 0 0, .slice none 0 0, .slice none 0 0, .int .u8 0] := by rw [hW1, hG]; exact Blk.new _ _ _
    exact this.upd u2 (by simp))
  have HTW : Hid (Blk W (G + 1) 50 #[.int .i64 6, .int .u32 0, .int .u32 0, .int .u64 0, .int .u32 0, .int .u32 0, .int .u32 0, .slice none 0 0, .slice none 0 0, .slice none 0 0, .slice none 0 0, .int .u8 kd]) := Lib.hid (by rw [hW, ← s1]; exact Blk.new _ _ _)
  have HUW := Lib.hid (u1.next u2)
  have HGX := Lib.hid hG
  have hcv : IntKind.u8.wrap kd = kd := by unfold IntKind.wrap; simp [IntKind.bits, IntKind.signed]; omega
  have hsz : (strOfNums xs).size = xs.length := strOfNums_size xs
  clear hr hb u1 u2
  go_enter Try.func32, Try.ntmps32
  go_upto_region 1 with fail
  rw [← hW1, ← hG]
  clear hW1 hG
  go_upto_region 2 with fail
  rw [← hW]
  clear hW hcv
  have k0 := Hk0.out
  have k1 := Hk1.out
  clear Hk0 Hk1
  have k' : (201 : Int) = kd := k1.symm
  subst k'
  clear k0 k1
  have hw1 : IntKind.i64.wrap (24 * (n : Int)) = 24 * (n : Int) := IntWalk.i64_in _ (by omega)
  have hw2 : IntKind.i64.wrap (4 + 24 * (n : Int)) = 4 + 24 * (n : Int) := IntWalk.i64_in _ (by omega)
  obtain ⟨kw1, uw1⟩ := blk12 HTW.out (.int .i64 1) (.int .u32 0) (.int .u32 0) (.int .u64 0) (.int .u32 0) (.int .u32 0) (.int .u32 0) (.slice none 0 0) (.slice none 0 0) (.slice none 0 0) (.slice none 0 0) (.int .u8 0)
  obtain ⟨w1, hww1⟩ : ∃ z, z = ((((((((((((W.setCell ⟨G + 1, 0, none⟩ (.int .i64 1)).setCell ⟨G + 1, 1, none⟩ (.int .u32 0)).setCell ⟨G + 1, 2, none⟩ (.int .u32 0)).setCell ⟨G + 1, 3, none⟩ (.int .u64 0)).setCell ⟨G + 1, 4, none⟩ (.int .u32 0)).setCell ⟨G + 1, 5, none⟩ (.int .u32 0)).setCell ⟨G + 1, 6, none⟩ (.int .u32 0)).setCell ⟨G + 1, 7, none⟩ (.slice none 0 0)).setCell ⟨G + 1, 8, none⟩ (.slice none 0 0)).setCell ⟨G + 1, 9, none⟩ (.slice none 0 0)).setCell ⟨G + 1, 10, none⟩ (.slice none 0 0)).setCell ⟨G + 1, 11, none⟩ (.int .u8 0)) := ⟨_, rfl⟩
  rw [← hww1] at kw1 uw1
  have HTw1 := Lib.hid kw1
  have HGw1 := Lib.hid (HGW.out.upd uw1 (by simp))
  have HUw1 : Hid (Upd [] w w1) := Lib.hid (HUW.out.box' uw1 (by rw [HGX.out]; exact Nat.le_succ _))
  have HWw1 := Lib.hid hww1
  clear kw1 uw1 hww1
  have t0 : W.cell? ⟨G + 1, 0, none⟩ = some (.int .i64 6) := HTW.out.cell 0
  have t1 : W.cell? ⟨G + 1, 1, none⟩ = some (.int .u32 0) := HTW.out.cell 1
  have t2 : W.cell? ⟨G + 1, 2, none⟩ = some (.int .u32 0) := HTW.out.cell 2
  have t3 : W.cell? ⟨G + 1, 3, none⟩ = some (.int .u64 0) := HTW.out.cell 3
  have t4 : W.cell? ⟨G + 1, 4, none⟩ = some (.int .u32 0) := HTW.out.cell 4
  have t5 : W.cell? ⟨G + 1, 5, none⟩ = some (.int .u32 0) := HTW.out.cell 5
  have t6 : W.cell? ⟨G + 1, 6, none⟩ = some (.int .u32 0) := HTW.out.cell 6
  have t7 : W.cell? ⟨G + 1, 7, none⟩ = some (.slice none 0 0) := HTW.out.cell 7
  have t8 : W.cell? ⟨G + 1, 8, none⟩ = some (.slice none 0 0) := HTW.out.cell 8
  have t9 : W.cell? ⟨G + 1, 9, none⟩ = some (.slice none 0 0) := HTW.out.cell 9
  have t10 : W.cell? ⟨G + 1, 10, none⟩ = some (.slice none 0 0) := HTW.out.cell 10
  have t11 : W.cell? ⟨G + 1, 11, none⟩ = some (.int .u8 201) := HTW.out.cell 11
  have f0 := HTW.out.frozen 0
  have f1 := HTW.out.frozen 1
  have f2 := HTW.out.frozen 2
  have f3 := HTW.out.frozen 3
  have f4 := HTW.out.frozen 4
  have f5 := HTW.out.frozen 5
  have f6 := HTW.out.frozen 6
  have f7 := HTW.out.frozen 7
  have f8 := HTW.out.frozen 8
  have f9 := HTW.out.frozen 9
  have f10 := HTW.out.frozen 10
  have f11 := HTW.out.frozen 11
  go_upto_region 10 with fail
  rw [← HWw1.out]
  clear t0 t1 t2 t3 t4 t5 t6 t7 t8 t9 t10 t11 f0 f1 f2 f3 f4 f5 f6 f7 f8 f9 f10 f11
  have HRD : Hid (r = if xs.length < 4 + 24 * n then (mZ, 10) else (⟨1, nAt xs 0 4, 0, 0, 0, 0, 0, (List.range n).map (fun i => repAt xs (4 + 24 * i)), [], [], [], 0⟩, 0)) := Lib.hid (by rw [HR.out]; rfl)
  by_cases hs : xs.length < 4 + 24 * n
  · have hsi : (xs.length : Int) < 4 + 24 * (n : Int) := by omega
    have HE : Hid (r = (mZ, 10)) := Lib.hid (by rw [HRD.out, if_pos hs])
    obtain ⟨kx, ux⟩ := blk12g HGw1.out (.int .i64 0) (.int .u32 0) (.int .u32 0) (.int .u64 0) (.int .u32 0) (.int .u32 0) (.int .u32 0) (.slice none 0 0) (.slice none 0 0) (.slice none 0 0) (.slice none 0 0) (.int .u8 0)
    obtain ⟨wx, hwx⟩ : ∃ z, z = ((((((((((((w1.setCell ⟨G, 0, none⟩ (.int .i64 0)).setCell ⟨G, 1, none⟩ (.int .u32 0)).setCell ⟨G, 2, none⟩ (.int .u32 0)).setCell ⟨G, 3, none⟩ (.int .u64 0)).setCell ⟨G, 4, none⟩ (.int .u32 0)).setCell ⟨G, 5, none⟩ (.int .u32 0)).setCell ⟨G, 6, none⟩ (.int .u32 0)).setCell ⟨G, 7, none⟩ (.slice none 0 0)).setCell ⟨G, 8, none⟩ (.slice none 0 0)).setCell ⟨G, 9, none⟩ (.slice none 0 0)).setCell ⟨G, 10, none⟩ (.slice none 0 0)).setCell ⟨G, 11, none⟩ (.int .u8 0)) := ⟨_, rfl⟩
    rw [← hwx] at kx ux
    have HKX := Lib.hid kx
    have HUX : Hid (Upd [G] w1 wx) := Lib.hid ux
    have HFX : Hid (Upd [] w wx) := Lib.hid (HUw1.out.box' ux (by rw [HGX.out]; exact Nat.le_refl _))
    have HWX := Lib.hid hwx
    clear kx ux hwx
    have z0 : w1.cell? ⟨G, 0, none⟩ = some (.int .i64 0) := HGw1.out.cell 0
    have z1 : w1.cell? ⟨G, 1, none⟩ = some (.int .u32 0) := HGw1.out.cell 1
    have z2 : w1.cell? ⟨G, 2, none⟩ = some (.int .u32 0) := HGw1.out.cell 2
    have z3 : w1.cell? ⟨G, 3, none⟩ = some (.int .u64 0) := HGw1.out.cell 3
    have z4 : w1.cell? ⟨G, 4, none⟩ = some (.int .u32 0) := HGw1.out.cell 4
    have z5 : w1.cell? ⟨G, 5, none⟩ = some (.int .u32 0) := HGw1.out.cell 5
    have z6 : w1.cell? ⟨G, 6, none⟩ = some (.int .u32 0) := HGw1.out.cell 6
    have z7 : w1.cell? ⟨G, 7, none⟩ = some (.slice none 0 0) := HGw1.out.cell 7
    have z8 : w1.cell? ⟨G, 8, none⟩ = some (.slice none 0 0) := HGw1.out.cell 8
    have z9 : w1.cell? ⟨G, 9, none⟩ = some (.slice none 0 0) := HGw1.out.cell 9
    have z10 : w1.cell? ⟨G, 10, none⟩ = some (.slice none 0 0) := HGw1.out.cell 10
    have z11 : w1.cell? ⟨G, 11, none⟩ = some (.int .u8 0) := HGw1.out.cell 11
    have f0 := HGw1.out.frozen 0
    have f1 := HGw1.out.frozen 1
    have f2 := HGw1.out.frozen 2
    have f3 := HGw1.out.frozen 3
    have f4 := HGw1.out.frozen 4
    have f5 := HGw1.out.frozen 5
    have f6 := HGw1.out.frozen 6
    have f7 := HGw1.out.frozen 7
    have f8 := HGw1.out.frozen 8
    have f9 := HGw1.out.frozen 9
    have f10 := HGw1.out.frozen 10
    have f11 := HGw1.out.frozen 11
    go_wp2
    rw [← HWX.out]
    have g0 : wx.cell? ⟨G, 0, none⟩ = some (.int .i64 0) := HKX.out.cell 0
    have g1 : wx.cell? ⟨G, 1, none⟩ = some (.int .u32 0) := HKX.out.cell 1
    have g2 : wx.cell? ⟨G, 2, none⟩ = some (.int .u32 0) := HKX.out.cell 2
    have g3 : wx.cell? ⟨G, 3, none⟩ = some (.int .u64 0) := HKX.out.cell 3
    have g4 : wx.cell? ⟨G, 4, none⟩ = some (.int .u32 0) := HKX.out.cell 4
    have g5 : wx.cell? ⟨G, 5, none⟩ = some (.int .u32 0) := HKX.out.cell 5
    have g6 : wx.cell? ⟨G, 6, none⟩ = some (.int .u32 0) := HKX.out.cell 6
    have g7 : wx.cell? ⟨G, 7, none⟩ = some (.slice none 0 0) := HKX.out.cell 7
    have g8 : wx.cell? ⟨G, 8, none⟩ = some (.slice none 0 0) := HKX.out.cell 8
    have g9 : wx.cell? ⟨G, 9, none⟩ = some (.slice none 0 0) := HKX.out.cell 9
    have g10 : wx.cell? ⟨G, 10, none⟩ = some (.slice none 0 0) := HKX.out.cell 10
    have g11 : wx.cell? ⟨G, 11, none⟩ = some (.int .u8 0) := HKX.out.cell 11
    refine bodyPost_res (v := .tuple #[.agg #[.int .i64 0, .int .u32 0, .int .u32 0, .int .u64 0, .int .u32 0, .int .u32 0, .int .u32 0, .slice none 0 0, .slice none 0 0, .slice none 0 0, .slice none 0 0, .int .u8 0], .int .i64 10]) (by simp [results, Try.results32, go_sem, Addr.add, g0, g1, g2, g3, g4, g5, g6, g7, g8, g9, g10, g11]) rfl ?_
    exact ⟨hZ, by rw [HE.out]; rfl, by rw [HE.out]; exact ⟨CellsIn.nil _ _ _ _ _, CellsIn.nil _ _ _ _ _, CellsIn.nil _ _ _ _ _, CellsIn.nil _ _ _ _ _⟩, by rw [HE.out]; exact whoNew_nil rfl, HFX.out⟩
  · have hsi : ¬ ((xs.length : Int) < 4 + 24 * (n : Int)) := by omega
    have kc : w1.cell? ⟨G + 1, 0, none⟩ = some (.int .i64 1) := HTw1.out.cell 0
    obtain ⟨x0, hx0⟩ : ∃ v, v = nAt xs 0 4 := ⟨_, rfl⟩
    have bx0 : 0 ≤ x0 ∧ x0 ≤ 4294967295 := by rw [hx0]; exact nAt_lt HBY.out 0 4 4294967295 (by decide)
    have HNx0 : Hid (∀ W : World, Calls Try.prog 31 #[.string (strOfNums xs), .int .i64 0, .int .i64 4] W fun e w' => e = .returned (.int .u64 x0) ∧ Upd [] W w') := Lib.hid (fun W => by rw [hx0]; exact dnumat_any W xs 0 4 (by decide) (by decide) (by omega) HBY.out (by omega))
    have HXx0 := Lib.hid hx0
    clear hx0
    have wx0 : IntKind.u32.wrap x0 = x0 := by unfold IntKind.wrap; simp [IntKind.bits, IntKind.signed]; omega
    go_wp2_with fail
    refine (HNx0.out _).mono ?_
    rintro _ y0a ⟨rfl, hux⟩
    have HTy0a := Lib.hid (HTw1.out.upd hux (by simp))
    have HGy0a := Lib.hid (HGw1.out.upd hux (by simp))
    have HUy0a := Lib.hid (HUw1.out.next hux)
    clear hux
    obtain ⟨y0, hwy0⟩ : ∃ z, z = y0a.setCell ⟨G + 1, 1, none⟩ (.int .u32 x0) := ⟨_, rfl⟩
    have uy0 : Upd [G + 1] y0a y0 := by rw [hwy0]; exact (Upd.refl [G + 1] y0a).setCell (.inl (by simp)) _
    have HTy0 : Hid (Blk y0 (G + 1) 50 #[.int .i64 1, .int .u32 x0, .int .u32 0, .int .u64 0, .int .u32 0, .int .u32 0, .int .u32 0, .slice none 0 0, .slice none 0 0, .slice none 0 0, .slice none 0 0, .int .u8 0]) := Lib.hid (by rw [hwy0]; exact HTy0a.out.store 1 _)
    have HGy0 := Lib.hid (HGy0a.out.upd uy0 (by simp))
    have HUy0 : Hid (Upd [] w y0) := Lib.hid (HUy0a.out.box' uy0 (by rw [HGX.out]; exact Nat.le_succ _))
    have HWy0 := Lib.hid hwy0
    clear uy0 hwy0
    have t0 : y0a.cell? ⟨G + 1, 1, none⟩ = some (.int .u32 0) := HTy0a.out.cell 1
    have f0 := HTy0a.out.frozen 1
    go_upto_region 34 with fail
    rw [← HWy0.out]
    clear t0 f0
    clear wx0
    clear kc
    have HBS : Hid (G + 1 < y0.heap.size) := Lib.hid HTy0.out.lt
    have kc : y0.cell? ⟨G + 1, 0, none⟩ = some (.int .i64 1) := HTy0.out.cell 0
    go_wp2
    clear kc
    go_loopg [12] n (fun gk x12 wr => ∃ i : Nat, i ≤ n ∧ n ≤ i + gk ∧ x12 = .int .i64 i ∧ ∃ (A : Option Addr) (c : Nat), Blk wr (G + 1) 50 #[.int .i64 1, .int .u32 x0, .int .u32 0, .int .u64 0, .int .u32 0, .int .u32 0, .int .u32 0, .slice A i c, .slice none 0 0, .slice none 0 0, .slice none 0 0, .int .u8 0] ∧ wr.ownsRow y0.heap.size 61 7 (.slice A i c) i (((List.range i).map (fun i => repAt xs (4 + 24 * i))).flatMap encRep) ∧ Blk wr G 50 #[.int .i64 0, .int .u32 0, .int .u32 0, .int .u64 0, .int .u32 0, .int .u32 0, .int .u32 0, .slice none 0 0, .slice none 0 0, .slice none 0 0, .slice none 0 0, .int .u8 0] ∧ Upd [] w wr ∧ y0.heap.size ≤ wr.heap.size)
    case atStart => exact ⟨0, Nat.zero_le _, by omega, rfl, none, 0, HTy0.out, World.ownsRow_nil _ _ _ _, HGy0.out, HUy0.out, Nat.le_refl _⟩
    case round =>
      obtain ⟨i, hi, hgi, rfl, A, c, hbT, hown, hbG, hur, hsx⟩ := hrel
      by_cases hlt : i < n
      · have hlti : (i : Int) < (n : Int) := by omega
        have hwi : IntKind.i64.wrap ((i : Int) + 1) = (i : Int) + 1 := IntWalk.i64_in _ (by omega)
        have hwm : IntKind.i64.wrap (24 * (i : Int)) = 24 * (i : Int) := IntWalk.i64_in _ (by omega)
        obtain ⟨p, hp⟩ : ∃ p : Nat, p = 4 + 24 * i := ⟨_, rfl⟩
        have hwp : IntKind.i64.wrap (4 + 24 * (i : Int)) = (p : Int) := by rw [IntWalk.i64_in _ (by omega)]; omega
        have hwp4 : IntKind.i64.wrap ((p : Int) + 4) = (p : Int) + 4 := IntWalk.i64_in _ (by omega)
        have hwp5 : IntKind.i64.wrap ((p : Int) + 5) = (p : Int) + 5 := IntWalk.i64_in _ (by omega)
        have hwp8 : IntKind.i64.wrap ((p : Int) + 8) = (p : Int) + 8 := IntWalk.i64_in _ (by omega)
        have hwp12 : IntKind.i64.wrap ((p : Int) + 12) = (p : Int) + 12 := IntWalk.i64_in _ (by omega)
        have hwp16 : IntKind.i64.wrap ((p : Int) + 16) = (p : Int) + 16 := IntWalk.i64_in _ (by omega)
        have hwp20 : IntKind.i64.wrap ((p : Int) + 20) = (p : Int) + 20 := IntWalk.i64_in _ (by omega)
        obtain ⟨z0, hz0⟩ : ∃ v, v = nAt xs p 4 := ⟨_, rfl⟩
        have bz0 : 0 ≤ z0 ∧ z0 ≤ 4294967295 := by rw [hz0]; exact nAt_lt HBY.out p 4 4294967295 (by decide)
        have HN0 : Hid (∀ W : World, Calls Try.prog 31 #[.string (strOfNums xs), .int .i64 p, .int .i64 4] W fun e w' => e = .returned (.int .u64 z0) ∧ Upd [] W w') := Lib.hid (fun W => by rw [hz0]; exact dnumat_any W xs p 4 (by decide) (by decide) (by omega) HBY.out (by omega))
        have HXz0 := Lib.hid hz0
        clear hz0
        have hwz0 : IntKind.u32.wrap z0 = z0 := by unfold IntKind.wrap; simp [IntKind.bits, IntKind.signed]; omega
        obtain ⟨z1, hx1⟩ : ∃ z, xs[p + 4]? = some z := ⟨_, List.getElem?_eq_getElem (by omega)⟩
        have bz1 := HBY.out z1 (List.mem_of_getElem? hx1)
        have HXz1 : Hid (z1 = nAt xs (p + 4) 1) := Lib.hid (nAt_one hx1)
        have hpz : p + 4 < (strOfNums xs).size := by rw [strOfNums_size]; omega
        have hget := strOf_get (xs := xs) (i := p + 4) hpz hx1 bz1
        have hpi : ((p : Int) + 4).toNat = p + 4 := by omega
        have hpl : (p : Int) + 4 < (xs.length : Int) := by omega
        clear hx1
        obtain ⟨z2, hz2⟩ : ∃ v, v = nAt xs (p + 5) 3 := ⟨_, rfl⟩
        have bz2 : 0 ≤ z2 ∧ z2 ≤ 16777215 := by rw [hz2]; exact nAt_lt HBY.out (p + 5) 3 16777215 (by decide)
        have HN2 : Hid (∀ W : World, Calls Try.prog 31 #[.string (strOfNums xs), .int .i64 ((p : Int) + 5), .int .i64 3] W fun e w' => e = .returned (.int .u64 z2) ∧ Upd [] W w') := Lib.hid (fun W => by rw [hz2]; exact dnumatp_any W xs p 5 3 (by decide) (by decide) (by omega) HBY.out (by omega))
        have HXz2 := Lib.hid hz2
        clear hz2
        have hwz2 : IntKind.u32.wrap z2 = z2 := by unfold IntKind.wrap; simp [IntKind.bits, IntKind.signed]; omega
        obtain ⟨z3, hz3⟩ : ∃ v, v = nAt xs (p + 8) 4 := ⟨_, rfl⟩
        have bz3 : 0 ≤ z3 ∧ z3 ≤ 4294967295 := by rw [hz3]; exact nAt_lt HBY.out (p + 8) 4 4294967295 (by decide)
        have HN3 : Hid (∀ W : World, Calls Try.prog 31 #[.string (strOfNums xs), .int .i64 ((p : Int) + 8), .int .i64 4] W fun e w' => e = .returned (.int .u64 z3) ∧ Upd [] W w') := Lib.hid (fun W => by rw [hz3]; exact dnumatp_any W xs p 8 4 (by decide) (by decide) (by omega) HBY.out (by omega))
        have HXz3 := Lib.hid hz3
        clear hz3
        have hwz3 : IntKind.u32.wrap z3 = z3 := by unfold IntKind.wrap; simp [IntKind.bits, IntKind.signed]; omega
        obtain ⟨z4, hz4⟩ : ∃ v, v = nAt xs (p + 12) 4 := ⟨_, rfl⟩
        have bz4 : 0 ≤ z4 ∧ z4 ≤ 4294967295 := by rw [hz4]; exact nAt_lt HBY.out (p + 12) 4 4294967295 (by decide)
        have HN4 : Hid (∀ W : World, Calls Try.prog 31 #[.string (strOfNums xs), .int .i64 ((p : Int) + 12), .int .i64 4] W fun e w' => e = .returned (.int .u64 z4) ∧ Upd [] W w') := Lib.hid (fun W => by rw [hz4]; exact dnumatp_any W xs p 12 4 (by decide) (by decide) (by omega) HBY.out (by omega))
        have HXz4 := Lib.hid hz4
        clear hz4
        have hwz4 : IntKind.u32.wrap z4 = z4 := by unfold IntKind.wrap; simp [IntKind.bits, IntKind.signed]; omega
        obtain ⟨z5, hz5⟩ : ∃ v, v = nAt xs (p + 16) 4 := ⟨_, rfl⟩
        have bz5 : 0 ≤ z5 ∧ z5 ≤ 4294967295 := by rw [hz5]; exact nAt_lt HBY.out (p + 16) 4 4294967295 (by decide)
        have HN5 : Hid (∀ W : World, Calls Try.prog 31 #[.string (strOfNums xs), .int .i64 ((p : Int) + 16), .int .i64 4] W fun e w' => e = .returned (.int .u64 z5) ∧ Upd [] W w') := Lib.hid (fun W => by rw [hz5]; exact dnumatp_any W xs p 16 4 (by decide) (by decide) (by omega) HBY.out (by omega))
        have HXz5 := Lib.hid hz5
        clear hz5
        have hwz5 : IntKind.u32.wrap z5 = z5 := by unfold IntKind.wrap; simp [IntKind.bits, IntKind.signed]; omega
        obtain ⟨z6, hz6⟩ : ∃ v, v = nAt xs (p + 20) 4 := ⟨_, rfl⟩
        have bz6 : 0 ≤ z6 ∧ z6 ≤ 4294967295 := by rw [hz6]; exact nAt_lt HBY.out (p + 20) 4 4294967295 (by decide)
        have HN6 : Hid (∀ W : World, Calls Try.prog 31 #[.string (strOfNums xs), .int .i64 ((p : Int) + 20), .int .i64 4] W fun e w' => e = .returned (.int .u64 z6) ∧ Upd [] W w') := Lib.hid (fun W => by rw [hz6]; exact dnumatp_any W xs p 20 4 (by decide) (by decide) (by omega) HBY.out (by omega))
        have HXz6 := Lib.hid hz6
        clear hz6
        have hwz6 : IntKind.u32.wrap z6 = z6 := by unfold IntKind.wrap; simp [IntKind.bits, IntKind.signed]; omega
        have HRE : Hid (repAt xs (4 + 24 * i) = ⟨z0, z1, z2, z3, z4, z5, z6⟩) := Lib.hid (by unfold repAt; rw [← hp, ← HXz0.out, ← HXz1.out, ← HXz2.out, ← HXz3.out, ← HXz4.out, ← HXz5.out, ← HXz6.out])
        have HP := Lib.hid hp
        clear hp
        have hTP : G + 1 ∉ A.toList.map (·.block) := fun hm => by
          obtain ⟨cur, hcur⟩ := row_type hown (G + 1) (by have h8 := own_listN A i c; rw [← h8] at hm; simpa using hm)
          exact hcur.ne hbT (by decide) rfl
        have hGP : G ∉ A.toList.map (·.block) := fun hm => by
          obtain ⟨cur, hcur⟩ := row_type hown G (by have h8 := own_listN A i c; rw [← h8] at hm; simpa using hm)
          exact hcur.ne hbG (by decide) rfl
        obtain ⟨PB, hPB⟩ : ∃ l, l = A.toList.map (·.block) := ⟨_, rfl⟩
        rw [← hPB] at hTP hGP
        have hTl := hbT.lt
        have tz : ∀ z : Cls (Upd PB wr), z.w.cell? ⟨G + 1, 7, none⟩ = some (.slice A i c) := fun z => (z.h.cell (p := ⟨G + 1, 7, none⟩) hTl hTP).trans (hbT.cell 7)
        have HOWN := Lib.hid hown
        have HBT := Lib.hid hbT
        have HBG := Lib.hid hbG
        have HUR := Lib.hid hur
        have HPB := Lib.hid hPB
        have HTP := Lib.hid (And.intro hTP hGP)
        have HGI := Lib.hid hgi
        obtain ⟨j0, hj0, hy0, hy1, hy2⟩ := info_parts infoRR
        clear hown hbT hbG hur hPB hTP hGP hgi hTl
        go_upto_region 44 with fail
        refine wp_script (Upd PB wr) ((Upd.refl _ _).drewN 1) (.take [0, 1, 2, 3, 6, 7, 8, 9, 10, 11, 12, 15, 16, 17, 20, 21, 22, 25, 26, 27, 30, 31, 32] (.one 4 (.take [5] (.one 13 (.take [14] (.one 18 (.take [19] (.one 23 (.take [24] (.one 28 (.take [29] (.one 33 (.take [34, 35] (.last [36, 37, 38, 39])))))))))))))) (by kernel_rfl) (by kernel_rfl) (fun _ _ _ _ h => h) ?_
        intro hne
        refine wpS_take ?_
        simp only [pick3, List.map_cons, List.map_nil, List.getElem?_cons_zero, List.getElem?_cons_succ, Option.getD_some]
        repeat (go_big_quiet_step (with_reducible rfl))
        refine wpQuiet_nil ?_
        obtain ⟨w0, hw0⟩ : ∃ v, v = wr.drewN 1 := ⟨_, rfl⟩
        have HJ0 : Hid (Upd [] wr w0) := Lib.hid (by rw [hw0]; exact (Upd.refl _ _).drewN 1)
        rw [← hw0]
        clear hw0 tz
        refine wpS_one ?_
        simp only [pick3, List.map_cons, List.map_nil, List.getElem?_cons_zero, List.getElem?_cons_succ, Option.getD_some]
        refine wpHeldK_step rfl fun K hK => ?_
        go_simp
        refine (HN0.out _).mono ?_
        rintro _ wj0 ⟨rfl, hux⟩
        have HJ1 := Lib.hid (HJ0.out.next hux)
        clear hux
        refine hK.out _ _ ⟨⟨wj0, HJ1.out.more (by simp)⟩, rfl⟩ ?_
        clear hK K
        refine wpQuiet_then ?_
        refine wpS_take ?_
        simp only [pick3, List.map_cons, List.map_nil, List.getElem?_cons_zero, List.getElem?_cons_succ, Option.getD_some]
        repeat (go_big_quiet_step (with_reducible rfl))
        refine wpQuiet_nil ?_
        refine wpS_one ?_
        simp only [pick3, List.map_cons, List.map_nil, List.getElem?_cons_zero, List.getElem?_cons_succ, Option.getD_some]
        refine wpHeldK_step rfl fun K hK => ?_
        go_simp
        refine (HN2.out _).mono ?_
        rintro _ wj1 ⟨rfl, hux⟩
        have HJ2 := Lib.hid (HJ1.out.next hux)
        clear hux
        refine hK.out _ _ ⟨⟨wj1, HJ2.out.more (by simp)⟩, rfl⟩ ?_
        clear hK K
        refine wpQuiet_then ?_
        refine wpS_take ?_
        simp only [pick3, List.map_cons, List.map_nil, List.getElem?_cons_zero, List.getElem?_cons_succ, Option.getD_some]
        repeat (go_big_quiet_step (with_reducible rfl))
        refine wpQuiet_nil ?_
        refine wpS_one ?_
        simp only [pick3, List.map_cons, List.map_nil, List.getElem?_cons_zero, List.getElem?_cons_succ, Option.getD_some]
        refine wpHeldK_step rfl fun K hK => ?_
        go_simp
        refine (HN3.out _).mono ?_
        rintro _ wj2 ⟨rfl, hux⟩
        have HJ3 := Lib.hid (HJ2.out.next hux)
        clear hux
        refine hK.out _ _ ⟨⟨wj2, HJ3.out.more (by simp)⟩, rfl⟩ ?_
        clear hK K
        refine wpQuiet_then ?_
        refine wpS_take ?_
        simp only [pick3, List.map_cons, List.map_nil, List.getElem?_cons_zero, List.getElem?_cons_succ, Option.getD_some]
        repeat (go_big_quiet_step (with_reducible rfl))
        refine wpQuiet_nil ?_
        refine wpS_one ?_
        simp only [pick3, List.map_cons, List.map_nil, List.getElem?_cons_zero, List.getElem?_cons_succ, Option.getD_some]
        refine wpHeldK_step rfl fun K hK => ?_
        go_simp
        refine (HN4.out _).mono ?_
        rintro _ wj3 ⟨rfl, hux⟩
        have HJ4 := Lib.hid (HJ3.out.next hux)
        clear hux
        refine hK.out _ _ ⟨⟨wj3, HJ4.out.more (by simp)⟩, rfl⟩ ?_
        clear hK K
        refine wpQuiet_then ?_
        refine wpS_take ?_
        simp only [pick3, List.map_cons, List.map_nil, List.getElem?_cons_zero, List.getElem?_cons_succ, Option.getD_some]
        repeat (go_big_quiet_step (with_reducible rfl))
        refine wpQuiet_nil ?_
        refine wpS_one ?_
        simp only [pick3, List.map_cons, List.map_nil, List.getElem?_cons_zero, List.getElem?_cons_succ, Option.getD_some]
        refine wpHeldK_step rfl fun K hK => ?_
        go_simp
        refine (HN5.out _).mono ?_
        rintro _ wj4 ⟨rfl, hux⟩
        have HJ5 := Lib.hid (HJ4.out.next hux)
        clear hux
        refine hK.out _ _ ⟨⟨wj4, HJ5.out.more (by simp)⟩, rfl⟩ ?_
        clear hK K
        refine wpQuiet_then ?_
        refine wpS_take ?_
        simp only [pick3, List.map_cons, List.map_nil, List.getElem?_cons_zero, List.getElem?_cons_succ, Option.getD_some]
        repeat (go_big_quiet_step (with_reducible rfl))
        refine wpQuiet_nil ?_
        refine wpS_one ?_
        simp only [pick3, List.map_cons, List.map_nil, List.getElem?_cons_zero, List.getElem?_cons_succ, Option.getD_some]
        refine wpHeldK_step rfl fun K hK => ?_
        go_simp
        refine (HN6.out _).mono ?_
        rintro _ wj5 ⟨rfl, hux⟩
        have HJ6 := Lib.hid (HJ5.out.next hux)
        clear hux
        refine hK.out _ _ ⟨⟨wj5, HJ6.out.more (by simp)⟩, rfl⟩ ?_
        clear hK K
        refine wpQuiet_then ?_
        refine wpS_take ?_
        simp only [pick3, List.map_cons, List.map_nil, List.getElem?_cons_zero, List.getElem?_cons_succ, Option.getD_some]
        repeat (go_big_quiet_step (with_reducible rfl))
        refine wpQuiet_nil ?_
        refine wpS_last ?_
        simp only [pick3, List.map_cons, List.map_nil, List.getElem?_cons_zero, List.getElem?_cons_succ, Option.getD_some]
        refine wpHeld_step rfl fun K hK => ?_
        go_simp
        obtain ⟨V, hV⟩ : ∃ V, V = wj5.heap.size := ⟨_, rfl⟩
        obtain ⟨W3, hW3⟩ : ∃ z, z = wj5.alloc (.cells #[.int .u32 z0, .int .u8 z1, .int .u32 z2, .int .u32 z3, .int .u32 z4, .int .u32 z5, .int .u32 z6] 61) := ⟨_, rfl⟩
        have u3 : Upd [] wr W3 := HJ6.out.next (by rw [hW3]; exact (Upd.refl [] _).alloc _)
        have hVB : Blk W3 V 61 #[.int .u32 z0, .int .u8 z1, .int .u32 z2, .int .u32 z3, .int .u32 z4, .int .u32 z5, .int .u32 z6] := by rw [hW3, hV]; exact Blk.new _ _ _
        rw [← hW3, ← hV]
        have HU3 := Lib.hid u3
        have HVB := Lib.hid hVB
        clear hV hW3 u3 hVB
        refine hK.out _ _ (.inr ⟨⟨W3, HU3.out.more (by simp)⟩, rfl⟩) ?_
        clear hK K
        refine wpHeld_list (fun Q1 hq => ?_)
        refine wpList_append_src W3 rfl (.tmp 123) (.tmp 158) 45 rfl y0.heap.size 61 j0 _ 7 28 Try.underlying45 hj0 hy0 hy1 hy2 rfl (by decide) (.slice A i c) i (((List.range i).map (fun i => repAt xs (4 + 24 * i))).flatMap encRep) rfl (ownsRow_upd HOWN.out HU3.out (by simp)) (some ⟨V, 0, none⟩) 1 1 [.int .u32 z0, .int .u8 z1, .int .u32 z2, .int .u32 z3, .int .u32 z4, .int .u32 z5, .int .u32 z6] rfl (fun e => by cases e) rfl (fun ad e => by obtain rfl := Option.some.inj e; exact blk_src HVB.out) (by intro v hv; simp at hv; repeat (first | (rcases hv with rfl | hv; · rfl) | (subst hv; rfl))) (by unfold maxLen; omega) (by omega) (by have := HU3.out.size; omega) ?_
        intro v1 w4 hown4 hg4 _
        obtain ⟨A', c', hv, _⟩ := own_form hown4
        subst hv
        have hu4 : Upd PB W3 w4 := by rw [HPB.out, ← own_listN A i c]; exact Upd.of_grown hg4
        have HOWN4 : Hid (w4.ownsRow y0.heap.size 61 7 (.slice A' (i + 1) c') (i + 1) (((List.range (i + 1)).map (fun i => repAt xs (4 + 24 * i))).flatMap encRep)) := Lib.hid (by
          have h9 := hown4
          rw [show (((List.range (i + 1)).map (fun i => repAt xs (4 + 24 * i))).flatMap encRep) = (((List.range i).map (fun i => repAt xs (4 + 24 * i))).flatMap encRep) ++ [.int .u32 z0, .int .u8 z1, .int .u32 z2, .int .u32 z3, .int .u32 z4, .int .u32 z5, .int .u32 z6] from by rw [List.range_succ, List.map_append, List.flatMap_append]; simp only [List.map_cons, List.map_nil, List.flatMap_cons, List.flatMap_nil, HRE.out]; rfl]
          exact h9)
        have HU4 := Lib.hid hu4
        refine hq.out _ _ (.inr ⟨⟨w4, (HU3.out.more (by simp)).next HU4.out⟩, rfl⟩) ?_
        refine wpHeld_step rfl fun K hK => ?_
        go_simp
        refine hK.out _ _ (.inr ⟨⟨w4, (HU3.out.more (by simp)).next HU4.out⟩, rfl⟩) ?_
        clear hK K
        clear hq Q1 hg4 hown4 hu4
        have hbT4 := (HBT.out.upd HU3.out (by simp)).upd HU4.out HTP.out.1
        have hbG4 := (HBG.out.upd HU3.out (by simp)).upd HU4.out HTP.out.2
        have HW4 : Hid (Upd [] w w4) := Lib.hid (by
          have h8 := HUR.out.next HU3.out
          exact Upd.of_below ((h8.below (Nat.le_refl _) (by simp)).trans (HU4.out.below h8.size (fun s hs => by
            rw [HPB.out] at hs
            have h9 := (own_block_lt HOWN.out (g := s) (by have := own_listN A i c; rw [← this] at hs; simpa using hs)).1
            have := HBS.out; have := HGX.out
            omega))))
        have m4 : w4.cell? ⟨G + 1, 7, none⟩ = some (.slice A i c) := hbT4.cell 7
        have f4 := hbT4.frozen 7
        obtain ⟨w5, hw5⟩ : ∃ z, z = w4.setCell ⟨G + 1, 7, none⟩ (.slice A' (i + 1) c') := ⟨_, rfl⟩
        have us5 : Upd [G + 1] w4 w5 := by rw [hw5]; exact (Upd.refl [G + 1] w4).setCell (.inl (by simp)) _
        have HFIN : Hid (Blk w5 (G + 1) 50 #[.int .i64 1, .int .u32 x0, .int .u32 0, .int .u64 0, .int .u32 0, .int .u32 0, .int .u32 0, .slice A' (i + 1) c', .slice none 0 0, .slice none 0 0, .slice none 0 0, .int .u8 0] ∧ w5.ownsRow y0.heap.size 61 7 (.slice A' (i + 1) c') (i + 1) (((List.range (i + 1)).map (fun i => repAt xs (4 + 24 * i))).flatMap encRep) ∧ Blk w5 G 50 #[.int .i64 0, .int .u32 0, .int .u32 0, .int .u64 0, .int .u32 0, .int .u32 0, .int .u32 0, .slice none 0 0, .slice none 0 0, .slice none 0 0, .slice none 0 0, .int .u8 0] ∧ Upd [] w w5 ∧ y0.heap.size ≤ w5.heap.size) := Lib.hid ⟨by rw [hw5]; exact hbT4.store 7 _, ownsRow_upd HOWN4.out us5 (fun s hs hg => by
          rw [List.mem_singleton] at hs
          subst hs
          have h9 := (own_block_lt HOWN4.out hg).1
          have := HBS.out
          omega), hbG4.upd us5 (by simp), HW4.out.box' us5 (by rw [HGX.out]; exact Nat.le_succ _), by have := HU3.out.size; have := HU4.out.size; have := us5.size; omega⟩
        have HW5 := Lib.hid hw5
        clear hbT4 hbG4 us5 hw5
        refine wpHeld_last ?_
        go_wp2
        rw [← HW5.out]
        go_roundg (gk - 1)
        case measure => have := HGI.out; omega
        case rel => exact ⟨i + 1, by omega, by have := HGI.out; omega, by go_num, A', c', HFIN.out⟩
      · obtain rfl : i = n := by omega
        have HTw9 := Lib.hid hbT
        have HGw9 := Lib.hid hbG
        have HUw9 := Lib.hid hur
        have HO9 := Lib.hid hown
        obtain ⟨w9, rfl⟩ : ∃ z : World, z = wr := ⟨wr, rfl⟩
        clear hbT hbG hur hown hgi hi hlt
        have kc : w9.cell? ⟨G + 1, 0, none⟩ = some (.int .i64 1) := HTw9.out.cell 0
        obtain ⟨kx, ux⟩ := blk12g HGw9.out (.int .i64 1) (.int .u32 x0) (.int .u32 0) (.int .u64 0) (.int .u32 0) (.int .u32 0) (.int .u32 0) (.slice A i c) (.slice none 0 0) (.slice none 0 0) (.slice none 0 0) (.int .u8 0)
        obtain ⟨wx, hwx⟩ : ∃ z, z = ((((((((((((w9.setCell ⟨G, 0, none⟩ (.int .i64 1)).setCell ⟨G, 1, none⟩ (.int .u32 x0)).setCell ⟨G, 2, none⟩ (.int .u32 0)).setCell ⟨G, 3, none⟩ (.int .u64 0)).setCell ⟨G, 4, none⟩ (.int .u32 0)).setCell ⟨G, 5, none⟩ (.int .u32 0)).setCell ⟨G, 6, none⟩ (.int .u32 0)).setCell ⟨G, 7, none⟩ (.slice A i c)).setCell ⟨G, 8, none⟩ (.slice none 0 0)).setCell ⟨G, 9, none⟩ (.slice none 0 0)).setCell ⟨G, 10, none⟩ (.slice none 0 0)).setCell ⟨G, 11, none⟩ (.int .u8 0)) := ⟨_, rfl⟩
        rw [← hwx] at kx ux
        have HKX := Lib.hid kx
        have HUX : Hid (Upd [G] w9 wx) := Lib.hid ux
        have HFX : Hid (Upd [] w wx) := Lib.hid (HUw9.out.box' ux (by rw [HGX.out]; exact Nat.le_refl _))
        have HWX := Lib.hid hwx
        clear kx ux hwx
        have t0 : w9.cell? ⟨G + 1, 0, none⟩ = some (.int .i64 1) := HTw9.out.cell 0
        have t1 : w9.cell? ⟨G + 1, 1, none⟩ = some (.int .u32 x0) := HTw9.out.cell 1
        have t2 : w9.cell? ⟨G + 1, 2, none⟩ = some (.int .u32 0) := HTw9.out.cell 2
        have t3 : w9.cell? ⟨G + 1, 3, none⟩ = some (.int .u64 0) := HTw9.out.cell 3
        have t4 : w9.cell? ⟨G + 1, 4, none⟩ = some (.int .u32 0) := HTw9.out.cell 4
        have t5 : w9.cell? ⟨G + 1, 5, none⟩ = some (.int .u32 0) := HTw9.out.cell 5
        have t6 : w9.cell? ⟨G + 1, 6, none⟩ = some (.int .u32 0) := HTw9.out.cell 6
        have t7 : w9.cell? ⟨G + 1, 7, none⟩ = some (.slice A i c) := HTw9.out.cell 7
        have t8 : w9.cell? ⟨G + 1, 8, none⟩ = some (.slice none 0 0) := HTw9.out.cell 8
        have t9 : w9.cell? ⟨G + 1, 9, none⟩ = some (.slice none 0 0) := HTw9.out.cell 9
        have t10 : w9.cell? ⟨G + 1, 10, none⟩ = some (.slice none 0 0) := HTw9.out.cell 10
        have t11 : w9.cell? ⟨G + 1, 11, none⟩ = some (.int .u8 0) := HTw9.out.cell 11
        have z0 : w9.cell? ⟨G, 0, none⟩ = some (.int .i64 0) := HGw9.out.cell 0
        have z1 : w9.cell? ⟨G, 1, none⟩ = some (.int .u32 0) := HGw9.out.cell 1
        have z2 : w9.cell? ⟨G, 2, none⟩ = some (.int .u32 0) := HGw9.out.cell 2
        have z3 : w9.cell? ⟨G, 3, none⟩ = some (.int .u64 0) := HGw9.out.cell 3
        have z4 : w9.cell? ⟨G, 4, none⟩ = some (.int .u32 0) := HGw9.out.cell 4
        have z5 : w9.cell? ⟨G, 5, none⟩ = some (.int .u32 0) := HGw9.out.cell 5
        have z6 : w9.cell? ⟨G, 6, none⟩ = some (.int .u32 0) := HGw9.out.cell 6
        have z7 : w9.cell? ⟨G, 7, none⟩ = some (.slice none 0 0) := HGw9.out.cell 7
        have z8 : w9.cell? ⟨G, 8, none⟩ = some (.slice none 0 0) := HGw9.out.cell 8
        have z9 : w9.cell? ⟨G, 9, none⟩ = some (.slice none 0 0) := HGw9.out.cell 9
        have z10 : w9.cell? ⟨G, 10, none⟩ = some (.slice none 0 0) := HGw9.out.cell 10
        have z11 : w9.cell? ⟨G, 11, none⟩ = some (.int .u8 0) := HGw9.out.cell 11
        have f0 := HGw9.out.frozen 0
        have f1 := HGw9.out.frozen 1
        have f2 := HGw9.out.frozen 2
        have f3 := HGw9.out.frozen 3
        have f4 := HGw9.out.frozen 4
        have f5 := HGw9.out.frozen 5
        have f6 := HGw9.out.frozen 6
        have f7 := HGw9.out.frozen 7
        have f8 := HGw9.out.frozen 8
        have f9 := HGw9.out.frozen 9
        have f10 := HGw9.out.frozen 10
        have f11 := HGw9.out.frozen 11
        go_wp2
        rw [← HWX.out]
        have g0 : wx.cell? ⟨G, 0, none⟩ = some (.int .i64 1) := HKX.out.cell 0
        have g1 : wx.cell? ⟨G, 1, none⟩ = some (.int .u32 x0) := HKX.out.cell 1
        have g2 : wx.cell? ⟨G, 2, none⟩ = some (.int .u32 0) := HKX.out.cell 2
        have g3 : wx.cell? ⟨G, 3, none⟩ = some (.int .u64 0) := HKX.out.cell 3
        have g4 : wx.cell? ⟨G, 4, none⟩ = some (.int .u32 0) := HKX.out.cell 4
        have g5 : wx.cell? ⟨G, 5, none⟩ = some (.int .u32 0) := HKX.out.cell 5
        have g6 : wx.cell? ⟨G, 6, none⟩ = some (.int .u32 0) := HKX.out.cell 6
        have g7 : wx.cell? ⟨G, 7, none⟩ = some (.slice A i c) := HKX.out.cell 7
        have g8 : wx.cell? ⟨G, 8, none⟩ = some (.slice none 0 0) := HKX.out.cell 8
        have g9 : wx.cell? ⟨G, 9, none⟩ = some (.slice none 0 0) := HKX.out.cell 9
        have g10 : wx.cell? ⟨G, 10, none⟩ = some (.slice none 0 0) := HKX.out.cell 10
        have g11 : wx.cell? ⟨G, 11, none⟩ = some (.int .u8 0) := HKX.out.cell 11
        refine bodyPost_res (v := .tuple #[.agg #[.int .i64 1, .int .u32 x0, .int .u32 0, .int .u64 0, .int .u32 0, .int .u32 0, .int .u32 0, .slice A i c, .slice none 0 0, .slice none 0 0, .slice none 0 0, .int .u8 0], .int .i64 0]) (by simp [results, Try.results32, go_sem, Addr.add, g0, g1, g2, g3, g4, g5, g6, g7, g8, g9, g10, g11]) rfl ?_
        have HE : Hid (r = (⟨1, x0, 0, 0, 0, 0, 0, (List.range i).map (fun i => repAt xs (4 + 24 * i)), [], [], [], 0⟩, 0)) := Lib.hid (by rw [HRD.out, if_neg hs, HXx0.out])
        have ho := ownsRow_upd HO9.out HUX.out (fun s hs hg => by
          rw [List.mem_singleton] at hs
          subst hs
          have h9 := (own_block_lt HO9.out hg).1
          have := HBS.out
          omega)
        refine ⟨⟨A, c, none, 0, none, 0, none, 0⟩, ?_, ?_, by rw [HE.out]; exact whoNew_nil rfl, HFX.out⟩
        · rw [HE.out]
          unfold mcells
          simp
        · rw [HE.out]
          refine ⟨?_, CellsIn.nil _ _ _ _ _, CellsIn.nil _ _ _ _ _, CellsIn.nil _ _ _ _ _⟩
          dsimp only
          rw [List.length_map, List.length_range]
          exact (CellsIn.of_own ho).more (by have := HUy0.out.size; omega) (Nat.le_refl _)
end Go.Proofs.Ytgkejdjdccgjbaa
/- A body's message by the document (louverref09.read), arm 'who'. Conditions: bytes, and which arm. -/
namespace Go.Proofs.Ytgkejdjdccgjbaa
open Go Go.RowKit
set_option maxHeartbeats 400000
set_option maxRecDepth 100000 in
set_option maxHeartbeats 16000000 in
theorem rread_who (w : World) (kd : Int) (n : Nat) (xs : List Int) (hk : 0 ≤ kd ∧ kd ≤ 255) (hn : n ≤ 31) (hb : Byt xs) (hl : xs.length ≤ 100000) (k0 : ¬ kd = 200) (k1 : ¬ kd = 201) (k2 : kd = 203) :
    Calls Try.prog 32 #[.int .i64 kd, .int .i64 n, .string (strOfNums xs)] w fun e w' => ∃ hd, e = .returned (.tuple #[.agg (mcells (readM kd n xs).1 hd).toArray, .int .i64 (readM kd n xs).2]) ∧ RfIn w' w.heap.size (readM kd n xs).1 hd ∧ WhoNew w.heap.size (readM kd n xs).1 hd ∧ Upd [] w w' := by
  have Hk0 := Lib.hid k0
  have Hk1 := Lib.hid k1
  have Hk2 := Lib.hid k2
  clear k0 k1 k2
  rw [read_direct]
  obtain ⟨r, hr⟩ : ∃ r, r = readD kd n xs := ⟨_, rfl⟩
  rw [← hr]
  have HR := Lib.hid hr
  have HBY := Lib.hid hb
  obtain ⟨G, hG⟩ : ∃ G, G = w.heap.size := ⟨_, rfl⟩
  obtain ⟨W1, hW1⟩ : ∃ W, W = w.alloc (.cells #[.int .i64 0, .int .u32 0, .int .u32 0, .int .u64 0, .int .u32 0, .int .u32 0, .int .u32 0, .slice none 0 0, .slice none 0 0, .slice none 0 0, .slice none 0 0, .int .u8 0] 50) := ⟨_, rfl⟩
  obtain ⟨W, hW⟩ : ∃ W, W = W1.alloc (.cells #[.int .i64 6, .int .u32 0, .int .u32 0, .int .u64 0, .int .u32 0, .int .u32 0, .int .u32 0, .slice none 0 0, .slice none 0 0, .slice none 0 0, .slice none 0 0, .int .u8 kd] 50) := ⟨_, rfl⟩
  have u1 : Upd [] w W1 := by rw [hW1]; exact (Upd.refl [] w).alloc _
  have u2 : Upd [] W1 W := by rw [hW]; exact (Upd.refl [] W1).alloc _
  have s1 : W1.heap.size = G + 1 := by rw [hW1, World.size_alloc, hG]
  have HGW : Hid (Blk W G 50 #[.int .i64 0, .int .u32 0, .int .u32 0, .int .u64 0, .int .u32 0, .int .u32 0, .int .u32 0, .slice none 0 0, .slice none 0 0, .slice none 0 0, .slice none 0 0, .int .u8 0]) := Lib.hid (by
    have : Blk W1 G 50 #[.int .i64 0, .int .u32 0, .int .u32 0, .int .u64 0, .int .u32 0, .int .u32 0, .int .u32 0, .slice none 0 0, .slice none 0 0, .slice none 0 0, .slice none 0 0, .int .u8 0] := by rw [hW1, hG]; exact Blk.new _ _ _
    exact this.upd u2 (by simp))
  have HTW : Hid (Blk W (G + 1) 50 #[.int .i64 6, .int .u32 0, .int .u32 0, .int .u64 0, .int .u32 0, .int .u32 0, .int .u32 0, .slice none 0 0, .slice none 0 0, .slice none 0 0, .slice none 0 0, .int .u8 kd]) := Lib.hid (by rw [hW, ← s1]; exact Blk.new _ _ _)
  have HUW := Lib.hid (u1.next u2)
  have HGX := Lib.hid hG
  have hcv : IntKind.u8.wrap kd = kd := by unfold IntKind.wrap; simp [IntKind.bits, IntKind.signed]; omega
  have hsz : (strOfNums xs).size = xs.length := strOfNums_size xs
  clear hr hb u1 u2
  go_enter Try.func32, Try.ntmps32
  go_upto_region 1 with fail
  rw [← hW1, ← hG]
  clear hW1 hG
  go_upto_region 2 with fail
  rw [← hW]
  clear hW hcv
  have k0 := Hk0.out
  have k1 := Hk1.out
  have k2 := Hk2.out
  clear Hk0 Hk1 Hk2
  have k' : (203 : Int) = kd := k2.symm
  subst k'
  clear k0 k1 k2
  have hw1 : IntKind.i64.wrap (4 * (n : Int)) = 4 * (n : Int) := IntWalk.i64_in _ (by omega)
  obtain ⟨kw1, uw1⟩ := blk12 HTW.out (.int .i64 2) (.int .u32 0) (.int .u32 0) (.int .u64 0) (.int .u32 0) (.int .u32 0) (.int .u32 0) (.slice none 0 0) (.slice none 0 0) (.slice none 0 0) (.slice none 0 0) (.int .u8 0)
  obtain ⟨w1, hww1⟩ : ∃ z, z = ((((((((((((W.setCell ⟨G + 1, 0, none⟩ (.int .i64 2)).setCell ⟨G + 1, 1, none⟩ (.int .u32 0)).setCell ⟨G + 1, 2, none⟩ (.int .u32 0)).setCell ⟨G + 1, 3, none⟩ (.int .u64 0)).setCell ⟨G + 1, 4, none⟩ (.int .u32 0)).setCell ⟨G + 1, 5, none⟩ (.int .u32 0)).setCell ⟨G + 1, 6, none⟩ (.int .u32 0)).setCell ⟨G + 1, 7, none⟩ (.slice none 0 0)).setCell ⟨G + 1, 8, none⟩ (.slice none 0 0)).setCell ⟨G + 1, 9, none⟩ (.slice none 0 0)).setCell ⟨G + 1, 10, none⟩ (.slice none 0 0)).setCell ⟨G + 1, 11, none⟩ (.int .u8 0)) := ⟨_, rfl⟩
  rw [← hww1] at kw1 uw1
  have HTw1 := Lib.hid kw1
  have HGw1 := Lib.hid (HGW.out.upd uw1 (by simp))
  have HUw1 : Hid (Upd [] w w1) := Lib.hid (HUW.out.box' uw1 (by rw [HGX.out]; exact Nat.le_succ _))
  have HWw1 := Lib.hid hww1
  clear kw1 uw1 hww1
  have t0 : W.cell? ⟨G + 1, 0, none⟩ = some (.int .i64 6) := HTW.out.cell 0
  have t1 : W.cell? ⟨G + 1, 1, none⟩ = some (.int .u32 0) := HTW.out.cell 1
  have t2 : W.cell? ⟨G + 1, 2, none⟩ = some (.int .u32 0) := HTW.out.cell 2
  have t3 : W.cell? ⟨G + 1, 3, none⟩ = some (.int .u64 0) := HTW.out.cell 3
  have t4 : W.cell? ⟨G + 1, 4, none⟩ = some (.int .u32 0) := HTW.out.cell 4
  have t5 : W.cell? ⟨G + 1, 5, none⟩ = some (.int .u32 0) := HTW.out.cell 5
  have t6 : W.cell? ⟨G + 1, 6, none⟩ = some (.int .u32 0) := HTW.out.cell 6
  have t7 : W.cell? ⟨G + 1, 7, none⟩ = some (.slice none 0 0) := HTW.out.cell 7
  have t8 : W.cell? ⟨G + 1, 8, none⟩ = some (.slice none 0 0) := HTW.out.cell 8
  have t9 : W.cell? ⟨G + 1, 9, none⟩ = some (.slice none 0 0) := HTW.out.cell 9
  have t10 : W.cell? ⟨G + 1, 10, none⟩ = some (.slice none 0 0) := HTW.out.cell 10
  have t11 : W.cell? ⟨G + 1, 11, none⟩ = some (.int .u8 203) := HTW.out.cell 11
  have f0 := HTW.out.frozen 0
  have f1 := HTW.out.frozen 1
  have f2 := HTW.out.frozen 2
  have f3 := HTW.out.frozen 3
  have f4 := HTW.out.frozen 4
  have f5 := HTW.out.frozen 5
  have f6 := HTW.out.frozen 6
  have f7 := HTW.out.frozen 7
  have f8 := HTW.out.frozen 8
  have f9 := HTW.out.frozen 9
  have f10 := HTW.out.frozen 10
  have f11 := HTW.out.frozen 11
  go_upto_region 14 with fail
  rw [← HWw1.out]
  clear t0 t1 t2 t3 t4 t5 t6 t7 t8 t9 t10 t11 f0 f1 f2 f3 f4 f5 f6 f7 f8 f9 f10 f11
  have HRD : Hid (r = if xs.length < 4 * n then (mZ, 10) else (⟨2, 0, 0, 0, 0, 0, 0, [], (List.range n).map (fun i => nAt xs (4 * i) 4), [], [], 0⟩, 0)) := Lib.hid (by rw [HR.out]; rfl)
  by_cases hs : xs.length < 4 * n
  · have hsi : (xs.length : Int) < 4 * (n : Int) := by omega
    have HE : Hid (r = (mZ, 10)) := Lib.hid (by rw [HRD.out, if_pos hs])
    obtain ⟨kx, ux⟩ := blk12g HGw1.out (.int .i64 0) (.int .u32 0) (.int .u32 0) (.int .u64 0) (.int .u32 0) (.int .u32 0) (.int .u32 0) (.slice none 0 0) (.slice none 0 0) (.slice none 0 0) (.slice none 0 0) (.int .u8 0)
    obtain ⟨wx, hwx⟩ : ∃ z, z = ((((((((((((w1.setCell ⟨G, 0, none⟩ (.int .i64 0)).setCell ⟨G, 1, none⟩ (.int .u32 0)).setCell ⟨G, 2, none⟩ (.int .u32 0)).setCell ⟨G, 3, none⟩ (.int .u64 0)).setCell ⟨G, 4, none⟩ (.int .u32 0)).setCell ⟨G, 5, none⟩ (.int .u32 0)).setCell ⟨G, 6, none⟩ (.int .u32 0)).setCell ⟨G, 7, none⟩ (.slice none 0 0)).setCell ⟨G, 8, none⟩ (.slice none 0 0)).setCell ⟨G, 9, none⟩ (.slice none 0 0)).setCell ⟨G, 10, none⟩ (.slice none 0 0)).setCell ⟨G, 11, none⟩ (.int .u8 0)) := ⟨_, rfl⟩
    rw [← hwx] at kx ux
    have HKX := Lib.hid kx
    have HUX : Hid (Upd [G] w1 wx) := Lib.hid ux
    have HFX : Hid (Upd [] w wx) := Lib.hid (HUw1.out.box' ux (by rw [HGX.out]; exact Nat.le_refl _))
    have HWX := Lib.hid hwx
    clear kx ux hwx
    have z0 : w1.cell? ⟨G, 0, none⟩ = some (.int .i64 0) := HGw1.out.cell 0
    have z1 : w1.cell? ⟨G, 1, none⟩ = some (.int .u32 0) := HGw1.out.cell 1
    have z2 : w1.cell? ⟨G, 2, none⟩ = some (.int .u32 0) := HGw1.out.cell 2
    have z3 : w1.cell? ⟨G, 3, none⟩ = some (.int .u64 0) := HGw1.out.cell 3
    have z4 : w1.cell? ⟨G, 4, none⟩ = some (.int .u32 0) := HGw1.out.cell 4
    have z5 : w1.cell? ⟨G, 5, none⟩ = some (.int .u32 0) := HGw1.out.cell 5
    have z6 : w1.cell? ⟨G, 6, none⟩ = some (.int .u32 0) := HGw1.out.cell 6
    have z7 : w1.cell? ⟨G, 7, none⟩ = some (.slice none 0 0) := HGw1.out.cell 7
    have z8 : w1.cell? ⟨G, 8, none⟩ = some (.slice none 0 0) := HGw1.out.cell 8
    have z9 : w1.cell? ⟨G, 9, none⟩ = some (.slice none 0 0) := HGw1.out.cell 9
    have z10 : w1.cell? ⟨G, 10, none⟩ = some (.slice none 0 0) := HGw1.out.cell 10
    have z11 : w1.cell? ⟨G, 11, none⟩ = some (.int .u8 0) := HGw1.out.cell 11
    have f0 := HGw1.out.frozen 0
    have f1 := HGw1.out.frozen 1
    have f2 := HGw1.out.frozen 2
    have f3 := HGw1.out.frozen 3
    have f4 := HGw1.out.frozen 4
    have f5 := HGw1.out.frozen 5
    have f6 := HGw1.out.frozen 6
    have f7 := HGw1.out.frozen 7
    have f8 := HGw1.out.frozen 8
    have f9 := HGw1.out.frozen 9
    have f10 := HGw1.out.frozen 10
    have f11 := HGw1.out.frozen 11
    go_wp2
    rw [← HWX.out]
    have g0 : wx.cell? ⟨G, 0, none⟩ = some (.int .i64 0) := HKX.out.cell 0
    have g1 : wx.cell? ⟨G, 1, none⟩ = some (.int .u32 0) := HKX.out.cell 1
    have g2 : wx.cell? ⟨G, 2, none⟩ = some (.int .u32 0) := HKX.out.cell 2
    have g3 : wx.cell? ⟨G, 3, none⟩ = some (.int .u64 0) := HKX.out.cell 3
    have g4 : wx.cell? ⟨G, 4, none⟩ = some (.int .u32 0) := HKX.out.cell 4
    have g5 : wx.cell? ⟨G, 5, none⟩ = some (.int .u32 0) := HKX.out.cell 5
    have g6 : wx.cell? ⟨G, 6, none⟩ = some (.int .u32 0) := HKX.out.cell 6
    have g7 : wx.cell? ⟨G, 7, none⟩ = some (.slice none 0 0) := HKX.out.cell 7
    have g8 : wx.cell? ⟨G, 8, none⟩ = some (.slice none 0 0) := HKX.out.cell 8
    have g9 : wx.cell? ⟨G, 9, none⟩ = some (.slice none 0 0) := HKX.out.cell 9
    have g10 : wx.cell? ⟨G, 10, none⟩ = some (.slice none 0 0) := HKX.out.cell 10
    have g11 : wx.cell? ⟨G, 11, none⟩ = some (.int .u8 0) := HKX.out.cell 11
    refine bodyPost_res (v := .tuple #[.agg #[.int .i64 0, .int .u32 0, .int .u32 0, .int .u64 0, .int .u32 0, .int .u32 0, .int .u32 0, .slice none 0 0, .slice none 0 0, .slice none 0 0, .slice none 0 0, .int .u8 0], .int .i64 10]) (by simp [results, Try.results32, go_sem, Addr.add, g0, g1, g2, g3, g4, g5, g6, g7, g8, g9, g10, g11]) rfl ?_
    exact ⟨hZ, by rw [HE.out]; rfl, by rw [HE.out]; exact ⟨CellsIn.nil _ _ _ _ _, CellsIn.nil _ _ _ _ _, CellsIn.nil _ _ _ _ _, CellsIn.nil _ _ _ _ _⟩, by rw [HE.out]; exact whoNew_nil rfl, HFX.out⟩
  · have hsi : ¬ ((xs.length : Int) < 4 * (n : Int)) := by omega
    have HBS : Hid (G + 1 < w1.heap.size) := Lib.hid HTw1.out.lt
    have kc : w1.cell? ⟨G + 1, 0, none⟩ = some (.int .i64 2) := HTw1.out.cell 0
    go_wp2
    clear kc
    go_loopg [11] n (fun gk x11 wr => ∃ i : Nat, i ≤ n ∧ n ≤ i + gk ∧ x11 = .int .i64 i ∧ ∃ (A : Option Addr) (c : Nat), Blk wr (G + 1) 50 #[.int .i64 2, .int .u32 0, .int .u32 0, .int .u64 0, .int .u32 0, .int .u32 0, .int .u32 0, .slice none 0 0, .slice A i c, .slice none 0 0, .slice none 0 0, .int .u8 0] ∧ wr.ownsRow w1.heap.size 43 1 (.slice A i c) i (((List.range i).map (fun i => nAt xs (4 * i) 4)).map (Value.int .u32)) ∧ Blk wr G 50 #[.int .i64 0, .int .u32 0, .int .u32 0, .int .u64 0, .int .u32 0, .int .u32 0, .int .u32 0, .slice none 0 0, .slice none 0 0, .slice none 0 0, .slice none 0 0, .int .u8 0] ∧ Upd [] w wr ∧ w1.heap.size ≤ wr.heap.size)
    case atStart => exact ⟨0, Nat.zero_le _, by omega, rfl, none, 0, HTw1.out, World.ownsRow_nil _ _ _ _, HGw1.out, HUw1.out, Nat.le_refl _⟩
    case round =>
      obtain ⟨i, hi, hgi, rfl, A, c, hbT, hown, hbG, hur, hsx⟩ := hrel
      by_cases hlt : i < n
      · have hlti : (i : Int) < (n : Int) := by omega
        have hwi : IntKind.i64.wrap ((i : Int) + 1) = (i : Int) + 1 := IntWalk.i64_in _ (by omega)
        have hwm : IntKind.i64.wrap (4 * (i : Int)) = 4 * (i : Int) := IntWalk.i64_in _ (by omega)
        obtain ⟨x, hx⟩ : ∃ v, v = nAt xs (4 * i) 4 := ⟨_, rfl⟩
        have bx : 0 ≤ x ∧ x ≤ 4294967295 := by rw [hx]; exact nAt_lt HBY.out (4 * i) 4 4294967295 (by decide)
        have HN0 : Hid (∀ W : World, Calls Try.prog 31 #[.string (strOfNums xs), .int .i64 (4 * (i : Int)), .int .i64 4] W fun e w' => e = .returned (.int .u64 x) ∧ Upd [] W w') := Lib.hid (fun W => by rw [hx]; exact dnumatc_any W xs i 4 (by decide) (by decide) (by omega) HBY.out (by omega))
        have HXx := Lib.hid hx
        clear hx
        have hwx : IntKind.u32.wrap x = x := by unfold IntKind.wrap; simp [IntKind.bits, IntKind.signed]; omega
        have hTP : G + 1 ∉ A.toList.map (·.block) := fun hm => by
          obtain ⟨cur, hcur⟩ := row_type hown (G + 1) (by have h8 := own_listN A i c; rw [← h8] at hm; simpa using hm)
          exact hcur.ne hbT (by decide) rfl
        have hGP : G ∉ A.toList.map (·.block) := fun hm => by
          obtain ⟨cur, hcur⟩ := row_type hown G (by have h8 := own_listN A i c; rw [← h8] at hm; simpa using hm)
          exact hcur.ne hbG (by decide) rfl
        obtain ⟨PB, hPB⟩ : ∃ l, l = A.toList.map (·.block) := ⟨_, rfl⟩
        rw [← hPB] at hTP hGP
        have hTl := hbT.lt
        have tz : ∀ z : Cls (Upd PB wr), z.w.cell? ⟨G + 1, 8, none⟩ = some (.slice A i c) := fun z => (z.h.cell (p := ⟨G + 1, 8, none⟩) hTl hTP).trans (hbT.cell 8)
        have HOWN := Lib.hid hown
        have HBT := Lib.hid hbT
        have HBG := Lib.hid hbG
        have HUR := Lib.hid hur
        have HPB := Lib.hid hPB
        have HTP := Lib.hid (And.intro hTP hGP)
        have HGI := Lib.hid hgi
        obtain ⟨j0, hj0, hy0, hy1, hy2⟩ := info_parts infoU
        clear hown hbT hbG hur hPB hTP hGP hgi hTl
        go_upto_region 31 with fail
        refine wp_script (Upd PB wr) ((Upd.refl _ _).drewN 1) (.take [0, 1, 2, 3, 4] (.one 5 (.take [6] (.last [7, 8, 9, 10])))) (by kernel_rfl) (by kernel_rfl) (fun _ _ _ _ h => h) ?_
        intro hne
        refine wpS_take ?_
        simp only [pick3, List.map_cons, List.map_nil, List.getElem?_cons_zero, List.getElem?_cons_succ, Option.getD_some]
        repeat (go_big_quiet_step (with_reducible rfl))
        refine wpQuiet_nil ?_
        obtain ⟨w0, hw0⟩ : ∃ v, v = wr.drewN 1 := ⟨_, rfl⟩
        have HJ0 : Hid (Upd [] wr w0) := Lib.hid (by rw [hw0]; exact (Upd.refl _ _).drewN 1)
        rw [← hw0]
        clear hw0 tz
        refine wpS_one ?_
        simp only [pick3, List.map_cons, List.map_nil, List.getElem?_cons_zero, List.getElem?_cons_succ, Option.getD_some]
        refine wpHeldK_step rfl fun K hK => ?_
        go_simp
        refine (HN0.out _).mono ?_
        rintro _ wj0 ⟨rfl, hux⟩
        have HJ1 := Lib.hid (HJ0.out.next hux)
        clear hux
        refine hK.out _ _ ⟨⟨wj0, HJ1.out.more (by simp)⟩, rfl⟩ ?_
        clear hK K
        refine wpQuiet_then ?_
        refine wpS_take ?_
        simp only [pick3, List.map_cons, List.map_nil, List.getElem?_cons_zero, List.getElem?_cons_succ, Option.getD_some]
        repeat (go_big_quiet_step (with_reducible rfl))
        refine wpQuiet_nil ?_
        refine wpS_last ?_
        simp only [pick3, List.map_cons, List.map_nil, List.getElem?_cons_zero, List.getElem?_cons_succ, Option.getD_some]
        refine wpHeld_step rfl fun K hK => ?_
        go_simp
        obtain ⟨V, hV⟩ : ∃ V, V = wj0.heap.size := ⟨_, rfl⟩
        obtain ⟨W3, hW3⟩ : ∃ z, z = wj0.alloc (.cells #[.int .u32 x] 43) := ⟨_, rfl⟩
        have u3 : Upd [] wr W3 := HJ1.out.next (by rw [hW3]; exact (Upd.refl [] _).alloc _)
        have hVB : Blk W3 V 43 #[.int .u32 x] := by rw [hW3, hV]; exact Blk.new _ _ _
        rw [← hW3, ← hV]
        have HU3 := Lib.hid u3
        have HVB := Lib.hid hVB
        clear hV hW3 u3 hVB
        refine hK.out _ _ (.inr ⟨⟨W3, HU3.out.more (by simp)⟩, rfl⟩) ?_
        clear hK K
        refine wpHeld_list (fun Q1 hq => ?_)
        refine wpList_append_src W3 rfl (.tmp 78) (.tmp 84) 46 rfl w1.heap.size 43 j0 _ 1 4 Try.underlying46 hj0 hy0 hy1 hy2 rfl (by decide) (.slice A i c) i (((List.range i).map (fun i => nAt xs (4 * i) 4)).map (Value.int .u32)) rfl (ownsRow_upd HOWN.out HU3.out (by simp)) (some ⟨V, 0, none⟩) 1 1 [.int .u32 x] rfl (fun e => by cases e) rfl (fun ad e => by obtain rfl := Option.some.inj e; exact blk_src HVB.out) (by intro v hv; simp at hv; repeat (first | (rcases hv with rfl | hv; · rfl) | (subst hv; rfl))) (by unfold maxLen; omega) (by omega) (by have := HU3.out.size; omega) ?_
        intro v1 w4 hown4 hg4 _
        obtain ⟨A', c', hv, _⟩ := own_form hown4
        subst hv
        have hu4 : Upd PB W3 w4 := by rw [HPB.out, ← own_listN A i c]; exact Upd.of_grown hg4
        have HOWN4 : Hid (w4.ownsRow w1.heap.size 43 1 (.slice A' (i + 1) c') (i + 1) (((List.range (i + 1)).map (fun i => nAt xs (4 * i) 4)).map (Value.int .u32))) := Lib.hid (by
          have h9 := hown4
          rw [show (((List.range (i + 1)).map (fun i => nAt xs (4 * i) 4)).map (Value.int .u32)) = (((List.range i).map (fun i => nAt xs (4 * i) 4)).map (Value.int .u32)) ++ [.int .u32 x] from by rw [List.range_succ, List.map_append, List.map_append]; rw [HXx.out]; rfl]
          exact h9)
        have HU4 := Lib.hid hu4
        refine hq.out _ _ (.inr ⟨⟨w4, (HU3.out.more (by simp)).next HU4.out⟩, rfl⟩) ?_
        refine wpHeld_step rfl fun K hK => ?_
        go_simp
        refine hK.out _ _ (.inr ⟨⟨w4, (HU3.out.more (by simp)).next HU4.out⟩, rfl⟩) ?_
        clear hK K
        clear hq Q1 hg4 hown4 hu4
        have hbT4 := (HBT.out.upd HU3.out (by simp)).upd HU4.out HTP.out.1
        have hbG4 := (HBG.out.upd HU3.out (by simp)).upd HU4.out HTP.out.2
        have HW4 : Hid (Upd [] w w4) := Lib.hid (by
          have h8 := HUR.out.next HU3.out
          exact Upd.of_below ((h8.below (Nat.le_refl _) (by simp)).trans (HU4.out.below h8.size (fun s hs => by
            rw [HPB.out] at hs
            have h9 := (own_block_lt HOWN.out (g := s) (by have := own_listN A i c; rw [← this] at hs; simpa using hs)).1
            have := HBS.out; have := HGX.out
            omega))))
        have m4 : w4.cell? ⟨G + 1, 8, none⟩ = some (.slice A i c) := hbT4.cell 8
        have f4 := hbT4.frozen 8
        obtain ⟨w5, hw5⟩ : ∃ z, z = w4.setCell ⟨G + 1, 8, none⟩ (.slice A' (i + 1) c') := ⟨_, rfl⟩
        have us5 : Upd [G + 1] w4 w5 := by rw [hw5]; exact (Upd.refl [G + 1] w4).setCell (.inl (by simp)) _
        have HFIN : Hid (Blk w5 (G + 1) 50 #[.int .i64 2, .int .u32 0, .int .u32 0, .int .u64 0, .int .u32 0, .int .u32 0, .int .u32 0, .slice none 0 0, .slice A' (i + 1) c', .slice none 0 0, .slice none 0 0, .int .u8 0] ∧ w5.ownsRow w1.heap.size 43 1 (.slice A' (i + 1) c') (i + 1) (((List.range (i + 1)).map (fun i => nAt xs (4 * i) 4)).map (Value.int .u32)) ∧ Blk w5 G 50 #[.int .i64 0, .int .u32 0, .int .u32 0, .int .u64 0, .int .u32 0, .int .u32 0, .int .u32 0, .slice none 0 0, .slice none 0 0, .slice none 0 0, .slice none 0 0, .int .u8 0] ∧ Upd [] w w5 ∧ w1.heap.size ≤ w5.heap.size) := Lib.hid ⟨by rw [hw5]; exact hbT4.store 8 _, ownsRow_upd HOWN4.out us5 (fun s hs hg => by
          rw [List.mem_singleton] at hs
          subst hs
          have h9 := (own_block_lt HOWN4.out hg).1
          have := HBS.out
          omega), hbG4.upd us5 (by simp), HW4.out.box' us5 (by rw [HGX.out]; exact Nat.le_succ _), by have := HU3.out.size; have := HU4.out.size; have := us5.size; omega⟩
        have HW5 := Lib.hid hw5
        clear hbT4 hbG4 us5 hw5
        refine wpHeld_last ?_
        go_wp2
        rw [← HW5.out]
        go_roundg (gk - 1)
        case measure => have := HGI.out; omega
        case rel => exact ⟨i + 1, by omega, by have := HGI.out; omega, by go_num, A', c', HFIN.out⟩
      · obtain rfl : i = n := by omega
        have HTw9 := Lib.hid hbT
        have HGw9 := Lib.hid hbG
        have HUw9 := Lib.hid hur
        have HO9 := Lib.hid hown
        obtain ⟨w9, rfl⟩ : ∃ z : World, z = wr := ⟨wr, rfl⟩
        clear hbT hbG hur hown hgi hi hlt
        obtain ⟨kx, ux⟩ := blk12g HGw9.out (.int .i64 2) (.int .u32 0) (.int .u32 0) (.int .u64 0) (.int .u32 0) (.int .u32 0) (.int .u32 0) (.slice none 0 0) (.slice A i c) (.slice none 0 0) (.slice none 0 0) (.int .u8 0)
        obtain ⟨wx, hwx⟩ : ∃ z, z = ((((((((((((w9.setCell ⟨G, 0, none⟩ (.int .i64 2)).setCell ⟨G, 1, none⟩ (.int .u32 0)).setCell ⟨G, 2, none⟩ (.int .u32 0)).setCell ⟨G, 3, none⟩ (.int .u64 0)).setCell ⟨G, 4, none⟩ (.int .u32 0)).setCell ⟨G, 5, none⟩ (.int .u32 0)).setCell ⟨G, 6, none⟩ (.int .u32 0)).setCell ⟨G, 7, none⟩ (.slice none 0 0)).setCell ⟨G, 8, none⟩ (.slice A i c)).setCell ⟨G, 9, none⟩ (.slice none 0 0)).setCell ⟨G, 10, none⟩ (.slice none 0 0)).setCell ⟨G, 11, none⟩ (.int .u8 0)) := ⟨_, rfl⟩
        rw [← hwx] at kx ux
        have HKX := Lib.hid kx
        have HUX : Hid (Upd [G] w9 wx) := Lib.hid ux
        have HFX : Hid (Upd [] w wx) := Lib.hid (HUw9.out.box' ux (by rw [HGX.out]; exact Nat.le_refl _))
        have HWX := Lib.hid hwx
        clear kx ux hwx
        have t0 : w9.cell? ⟨G + 1, 0, none⟩ = some (.int .i64 2) := HTw9.out.cell 0
        have t1 : w9.cell? ⟨G + 1, 1, none⟩ = some (.int .u32 0) := HTw9.out.cell 1
        have t2 : w9.cell? ⟨G + 1, 2, none⟩ = some (.int .u32 0) := HTw9.out.cell 2
        have t3 : w9.cell? ⟨G + 1, 3, none⟩ = some (.int .u64 0) := HTw9.out.cell 3
        have t4 : w9.cell? ⟨G + 1, 4, none⟩ = some (.int .u32 0) := HTw9.out.cell 4
        have t5 : w9.cell? ⟨G + 1, 5, none⟩ = some (.int .u32 0) := HTw9.out.cell 5
        have t6 : w9.cell? ⟨G + 1, 6, none⟩ = some (.int .u32 0) := HTw9.out.cell 6
        have t7 : w9.cell? ⟨G + 1, 7, none⟩ = some (.slice none 0 0) := HTw9.out.cell 7
        have t8 : w9.cell? ⟨G + 1, 8, none⟩ = some (.slice A i c) := HTw9.out.cell 8
        have t9 : w9.cell? ⟨G + 1, 9, none⟩ = some (.slice none 0 0) := HTw9.out.cell 9
        have t10 : w9.cell? ⟨G + 1, 10, none⟩ = some (.slice none 0 0) := HTw9.out.cell 10
        have t11 : w9.cell? ⟨G + 1, 11, none⟩ = some (.int .u8 0) := HTw9.out.cell 11
        have z0 : w9.cell? ⟨G, 0, none⟩ = some (.int .i64 0) := HGw9.out.cell 0
        have z1 : w9.cell? ⟨G, 1, none⟩ = some (.int .u32 0) := HGw9.out.cell 1
        have z2 : w9.cell? ⟨G, 2, none⟩ = some (.int .u32 0) := HGw9.out.cell 2
        have z3 : w9.cell? ⟨G, 3, none⟩ = some (.int .u64 0) := HGw9.out.cell 3
        have z4 : w9.cell? ⟨G, 4, none⟩ = some (.int .u32 0) := HGw9.out.cell 4
        have z5 : w9.cell? ⟨G, 5, none⟩ = some (.int .u32 0) := HGw9.out.cell 5
        have z6 : w9.cell? ⟨G, 6, none⟩ = some (.int .u32 0) := HGw9.out.cell 6
        have z7 : w9.cell? ⟨G, 7, none⟩ = some (.slice none 0 0) := HGw9.out.cell 7
        have z8 : w9.cell? ⟨G, 8, none⟩ = some (.slice none 0 0) := HGw9.out.cell 8
        have z9 : w9.cell? ⟨G, 9, none⟩ = some (.slice none 0 0) := HGw9.out.cell 9
        have z10 : w9.cell? ⟨G, 10, none⟩ = some (.slice none 0 0) := HGw9.out.cell 10
        have z11 : w9.cell? ⟨G, 11, none⟩ = some (.int .u8 0) := HGw9.out.cell 11
        have f0 := HGw9.out.frozen 0
        have f1 := HGw9.out.frozen 1
        have f2 := HGw9.out.frozen 2
        have f3 := HGw9.out.frozen 3
        have f4 := HGw9.out.frozen 4
        have f5 := HGw9.out.frozen 5
        have f6 := HGw9.out.frozen 6
        have f7 := HGw9.out.frozen 7
        have f8 := HGw9.out.frozen 8
        have f9 := HGw9.out.frozen 9
        have f10 := HGw9.out.frozen 10
        have f11 := HGw9.out.frozen 11
        go_wp2
        rw [← HWX.out]
        have g0 : wx.cell? ⟨G, 0, none⟩ = some (.int .i64 2) := HKX.out.cell 0
        have g1 : wx.cell? ⟨G, 1, none⟩ = some (.int .u32 0) := HKX.out.cell 1
        have g2 : wx.cell? ⟨G, 2, none⟩ = some (.int .u32 0) := HKX.out.cell 2
        have g3 : wx.cell? ⟨G, 3, none⟩ = some (.int .u64 0) := HKX.out.cell 3
        have g4 : wx.cell? ⟨G, 4, none⟩ = some (.int .u32 0) := HKX.out.cell 4
        have g5 : wx.cell? ⟨G, 5, none⟩ = some (.int .u32 0) := HKX.out.cell 5
        have g6 : wx.cell? ⟨G, 6, none⟩ = some (.int .u32 0) := HKX.out.cell 6
        have g7 : wx.cell? ⟨G, 7, none⟩ = some (.slice none 0 0) := HKX.out.cell 7
        have g8 : wx.cell? ⟨G, 8, none⟩ = some (.slice A i c) := HKX.out.cell 8
        have g9 : wx.cell? ⟨G, 9, none⟩ = some (.slice none 0 0) := HKX.out.cell 9
        have g10 : wx.cell? ⟨G, 10, none⟩ = some (.slice none 0 0) := HKX.out.cell 10
        have g11 : wx.cell? ⟨G, 11, none⟩ = some (.int .u8 0) := HKX.out.cell 11
        refine bodyPost_res (v := .tuple #[.agg #[.int .i64 2, .int .u32 0, .int .u32 0, .int .u64 0, .int .u32 0, .int .u32 0, .int .u32 0, .slice none 0 0, .slice A i c, .slice none 0 0, .slice none 0 0, .int .u8 0], .int .i64 0]) (by simp [results, Try.results32, go_sem, Addr.add, g0, g1, g2, g3, g4, g5, g6, g7, g8, g9, g10, g11]) rfl ?_
        have HE : Hid (r = (⟨2, 0, 0, 0, 0, 0, 0, [], (List.range i).map (fun i => nAt xs (4 * i) 4), [], [], 0⟩, 0)) := Lib.hid (by rw [HRD.out, if_neg hs])
        have ho := ownsRow_upd HO9.out HUX.out (fun s hs hg => by
          rw [List.mem_singleton] at hs
          subst hs
          have h9 := (own_block_lt HO9.out hg).1
          have := HBS.out
          omega)
        refine ⟨⟨none, 0, A, c, none, 0, none, 0⟩, ?_, ?_, fun a ha hn => ?_, HFX.out⟩
        · rw [HE.out]
          unfold mcells
          simp
        · rw [HE.out]
          refine ⟨CellsIn.nil _ _ _ _ _, ?_, CellsIn.nil _ _ _ _ _, CellsIn.nil _ _ _ _ _⟩
          dsimp only
          rw [List.length_map, List.length_range]
          exact (CellsIn.of_own ho).more (Nat.zero_le _) (Nat.le_refl _)
        · rw [HE.out] at hn
          dsimp only at hn ha
          rw [List.length_map, List.length_range] at hn
          obtain ⟨b9, o9, e9, h9, -, -⟩ := (CellsIn.of_own ho).2 hn
          rw [ha] at e9
          obtain rfl := Option.some.inj e9
          exact Nat.le_trans HUw1.out.size h9
end Go.Proofs.Ytgkejdjdccgjbaa
