/- Parts of the proof, one behind the other: SReadPli, SReadFir, SReadO6, SReadNack. No condition of their own. -/
import Derived.Test.YtgkejdjdccgjbaaB6
/- A body's message by the document (louverref09.read), arm 'pli'. Conditions: bytes, and which arm. -/
namespace Go.Proofs.Ytgkejdjdccgjbaa
open Go Go.RowKit
set_option maxHeartbeats 400000
set_option maxRecDepth 100000 in
set_option maxHeartbeats 16000000 in
theorem rread_pli (w : World) (kd : Int) (n : Nat) (xs : List Int) (hk : 0 ≤ kd ∧ kd ≤ 255) (hn : n ≤ 31) (hb : Byt xs) (hl : xs.length ≤ 100000) (k0 : ¬ kd = 200) (k1 : ¬ kd = 201) (k2 : ¬ kd = 203) (k3 : kd = 206) (kn : n = 1) :
    Calls Try.prog 32 #[.int .i64 kd, .int .i64 n, .string (strOfNums xs)] w fun e w' => ∃ hd, e = .returned (.tuple #[.agg (mcells (readM kd n xs).1 hd).toArray, .int .i64 (readM kd n xs).2]) ∧ RfIn w' w.heap.size (readM kd n xs).1 hd ∧ WhoNew w.heap.size (readM kd n xs).1 hd ∧ Upd [] w w' := by
  have Hk0 := Lib.hid k0
  have Hk1 := Lib.hid k1
  have Hk2 := Lib.hid k2
  have Hk3 := Lib.hid k3
  have Hkn := Lib.hid kn
  clear k0 k1 k2 k3 kn
  rw [read_direct]
  obtain ⟨r, hr⟩ : ∃ r, r = readD kd n xs := ⟨_, rfl⟩
  rw [← hr]
  have HR := Lib.hid hr
  have HBY := Lib.hid hb
  obtain ⟨G, hG⟩ : ∃ G, G = w.heap.size := ⟨_, rfl⟩
  obtain ⟨W1, hW1⟩ : ∃ W, W = w.alloc (.cells #[.int .i64 0, .int .u32 0, .int .u32 0, .int .u64 0, .int .u32 0, .int .u32 0, .int .u32 0, .slice none 0 0, .slice none 0 0, .slice none 0 0, .slice none 0 0, .int .u8 0] 50) := ⟨_, rfl⟩
  obtain ⟨W, hW⟩ : ∃ W, W = W1.alloc (.cells #[.int .i64 6, .int .u32 0, .int .u32 0, .int .u64 0, .int .u32 0, .int .u32 0, .int .u32 0, .slice none 0 0, .slice none 0 0, .slice none 0 0, .slice none 0 0, .int .u8 kd] 50) := ⟨_, rfl⟩
  have u1 : Upd [] w W1 := by rw [hW1]; exact (Upd.refl [] w).alloc _
  have u2 : Upd [] W1 W := by rw [hW]; exact (Upd.refl [] W1).alloc _
  have s1 : W1.heap.size = G + 1 := by rw [hW1, World.size_alloc, hG]
  have HGW : Hid (Blk W G 50 #[.int .i64 0, .int .u32 0, .int .u32 0, .int .u64 0, .int .u32 0, .int .u32 0, .int .u32 0, .slice none 0 0, .slice none 0 0, .slice none 0 0, .slice none 0 0, .int .u8 0]) := Lib.hid (by
    have : Blk W1 G 50 #[.int .i64 0, .int .u32 0, .int .u32 0, .int .u64 0, .int .u32 0, .int .u32 0, .int .u32 0, .slice none 0 0, .slice none 0 0, .slice none 0 0, .slice none 0 0, .int .u8 0] := by rw [hW1, hG]; exact Blk.new _ _ _
    exact this.upd u2 (by simp))
  have HTW : Hid (Blk W (G + 1) 50 #[.int .i64 6, .int .u32 0, .int .u32 0, .int .u64 0, .int .u32 0, .int .u32 0, .int .u32 0, .slice none 0 0, .slice none 0 0, .slice none 0 0, .slice none 0 0, .int .u8 kd]) := Lib.hid (by rw [hW, ← s1]; exact Blk.new _ _ _)
  have HUW := Lib.hid (u1.next u2)
  have HGX := Lib.hid hG
  have hcv : IntKind.u8.wrap kd = kd := by unfold IntKind.wrap; simp [IntKind.bits, IntKind.signed]; omega
  have hsz : (strOfNums xs).size = xs.length := strOfNums_size xs
  clear hr hb u1 u2
  go_enter Try.func32, Try.ntmps32
  go_upto_region 1 with fail
  rw [← hW1, ← hG]
  clear hW1 hG
  go_upto_region 2 with fail
  rw [← hW]
  clear hW hcv
  have k0 := Hk0.out
  have k1 := Hk1.out
  have k2 := Hk2.out
  have k3 := Hk3.out
  have kn := Hkn.out
  clear Hk0 Hk1 Hk2 Hk3 Hkn
  have k' : (206 : Int) = kd := k3.symm
  subst k'
  obtain rfl : n = 1 := kn
  clear k0 k1 k2 k3
  obtain ⟨kw1, uw1⟩ := blk12 HTW.out (.int .i64 4) (.int .u32 0) (.int .u32 0) (.int .u64 0) (.int .u32 0) (.int .u32 0) (.int .u32 0) (.slice none 0 0) (.slice none 0 0) (.slice none 0 0) (.slice none 0 0) (.int .u8 0)
  obtain ⟨w1, hww1⟩ : ∃ z, z = ((((((((((((W.setCell ⟨G + 1, 0, none⟩ (.int .i64 4)).setCell ⟨G + 1, 1, none⟩ (.int .u32 0)).setCell ⟨G + 1, 2, none⟩ (.int .u32 0)).setCell ⟨G + 1, 3, none⟩ (.int .u64 0)).setCell ⟨G + 1, 4, none⟩ (.int .u32 0)).setCell ⟨G + 1, 5, none⟩ (.int .u32 0)).setCell ⟨G + 1, 6, none⟩ (.int .u32 0)).setCell ⟨G + 1, 7, none⟩ (.slice none 0 0)).setCell ⟨G + 1, 8, none⟩ (.slice none 0 0)).setCell ⟨G + 1, 9, none⟩ (.slice none 0 0)).setCell ⟨G + 1, 10, none⟩ (.slice none 0 0)).setCell ⟨G + 1, 11, none⟩ (.int .u8 0)) := ⟨_, rfl⟩
  rw [← hww1] at kw1 uw1
  have HTw1 := Lib.hid kw1
  have HGw1 := Lib.hid (HGW.out.upd uw1 (by simp))
  have HUw1 : Hid (Upd [] w w1) := Lib.hid (HUW.out.box' uw1 (by rw [HGX.out]; exact Nat.le_succ _))
  have HWw1 := Lib.hid hww1
  clear kw1 uw1 hww1
  have t0 : W.cell? ⟨G + 1, 0, none⟩ = some (.int .i64 6) := HTW.out.cell 0
  have t1 : W.cell? ⟨G + 1, 1, none⟩ = some (.int .u32 0) := HTW.out.cell 1
  have t2 : W.cell? ⟨G + 1, 2, none⟩ = some (.int .u32 0) := HTW.out.cell 2
  have t3 : W.cell? ⟨G + 1, 3, none⟩ = some (.int .u64 0) := HTW.out.cell 3
  have t4 : W.cell? ⟨G + 1, 4, none⟩ = some (.int .u32 0) := HTW.out.cell 4
  have t5 : W.cell? ⟨G + 1, 5, none⟩ = some (.int .u32 0) := HTW.out.cell 5
  have t6 : W.cell? ⟨G + 1, 6, none⟩ = some (.int .u32 0) := HTW.out.cell 6
  have t7 : W.cell? ⟨G + 1, 7, none⟩ = some (.slice none 0 0) := HTW.out.cell 7
  have t8 : W.cell? ⟨G + 1, 8, none⟩ = some (.slice none 0 0) := HTW.out.cell 8
  have t9 : W.cell? ⟨G + 1, 9, none⟩ = some (.slice none 0 0) := HTW.out.cell 9
  have t10 : W.cell? ⟨G + 1, 10, none⟩ = some (.slice none 0 0) := HTW.out.cell 10
  have t11 : W.cell? ⟨G + 1, 11, none⟩ = some (.int .u8 206) := HTW.out.cell 11
  have f0 := HTW.out.frozen 0
  have f1 := HTW.out.frozen 1
  have f2 := HTW.out.frozen 2
  have f3 := HTW.out.frozen 3
  have f4 := HTW.out.frozen 4
  have f5 := HTW.out.frozen 5
  have f6 := HTW.out.frozen 6
  have f7 := HTW.out.frozen 7
  have f8 := HTW.out.frozen 8
  have f9 := HTW.out.frozen 9
  have f10 := HTW.out.frozen 10
  have f11 := HTW.out.frozen 11
  go_upto_region 20 with fail
  rw [← HWw1.out]
  clear t0 t1 t2 t3 t4 t5 t6 t7 t8 t9 t10 t11 f0 f1 f2 f3 f4 f5 f6 f7 f8 f9 f10 f11
  have HRD : Hid (r = if xs.length < 8 then (mZ, 10) else (⟨4, nAt xs 0 4, nAt xs 4 4, 0, 0, 0, 0, [], [], [], [], 0⟩, 0)) := Lib.hid (by rw [HR.out]; rfl)
  by_cases hs : xs.length < 8
  · have hsi : (xs.length : Int) < 8 := by omega
    have HE : Hid (r = (mZ, 10)) := Lib.hid (by rw [HRD.out, if_pos hs])
    obtain ⟨kx, ux⟩ := blk12g HGw1.out (.int .i64 0) (.int .u32 0) (.int .u32 0) (.int .u64 0) (.int .u32 0) (.int .u32 0) (.int .u32 0) (.slice none 0 0) (.slice none 0 0) (.slice none 0 0) (.slice none 0 0) (.int .u8 0)
    obtain ⟨wx, hwx⟩ : ∃ z, z = ((((((((((((w1.setCell ⟨G, 0, none⟩ (.int .i64 0)).setCell ⟨G, 1, none⟩ (.int .u32 0)).setCell ⟨G, 2, none⟩ (.int .u32 0)).setCell ⟨G, 3, none⟩ (.int .u64 0)).setCell ⟨G, 4, none⟩ (.int .u32 0)).setCell ⟨G, 5, none⟩ (.int .u32 0)).setCell ⟨G, 6, none⟩ (.int .u32 0)).setCell ⟨G, 7, none⟩ (.slice none 0 0)).setCell ⟨G, 8, none⟩ (.slice none 0 0)).setCell ⟨G, 9, none⟩ (.slice none 0 0)).setCell ⟨G, 10, none⟩ (.slice none 0 0)).setCell ⟨G, 11, none⟩ (.int .u8 0)) := ⟨_, rfl⟩
    rw [← hwx] at kx ux
    have HKX := Lib.hid kx
    have HUX : Hid (Upd [G] w1 wx) := Lib.hid ux
    have HFX : Hid (Upd [] w wx) := Lib.hid (HUw1.out.box' ux (by rw [HGX.out]; exact Nat.le_refl _))
    have HWX := Lib.hid hwx
    clear kx ux hwx
    have z0 : w1.cell? ⟨G, 0, none⟩ = some (.int .i64 0) := HGw1.out.cell 0
    have z1 : w1.cell? ⟨G, 1, none⟩ = some (.int .u32 0) := HGw1.out.cell 1
    have z2 : w1.cell? ⟨G, 2, none⟩ = some (.int .u32 0) := HGw1.out.cell 2
    have z3 : w1.cell? ⟨G, 3, none⟩ = some (.int .u64 0) := HGw1.out.cell 3
    have z4 : w1.cell? ⟨G, 4, none⟩ = some (.int .u32 0) := HGw1.out.cell 4
    have z5 : w1.cell? ⟨G, 5, none⟩ = some (.int .u32 0) := HGw1.out.cell 5
    have z6 : w1.cell? ⟨G, 6, none⟩ = some (.int .u32 0) := HGw1.out.cell 6
    have z7 : w1.cell? ⟨G, 7, none⟩ = some (.slice none 0 0) := HGw1.out.cell 7
    have z8 : w1.cell? ⟨G, 8, none⟩ = some (.slice none 0 0) := HGw1.out.cell 8
    have z9 : w1.cell? ⟨G, 9, none⟩ = some (.slice none 0 0) := HGw1.out.cell 9
    have z10 : w1.cell? ⟨G, 10, none⟩ = some (.slice none 0 0) := HGw1.out.cell 10
    have z11 : w1.cell? ⟨G, 11, none⟩ = some (.int .u8 0) := HGw1.out.cell 11
    have f0 := HGw1.out.frozen 0
    have f1 := HGw1.out.frozen 1
    have f2 := HGw1.out.frozen 2
    have f3 := HGw1.out.frozen 3
    have f4 := HGw1.out.frozen 4
    have f5 := HGw1.out.frozen 5
    have f6 := HGw1.out.frozen 6
    have f7 := HGw1.out.frozen 7
    have f8 := HGw1.out.frozen 8
    have f9 := HGw1.out.frozen 9
    have f10 := HGw1.out.frozen 10
    have f11 := HGw1.out.frozen 11
    go_wp2
    rw [← HWX.out]
    have g0 : wx.cell? ⟨G, 0, none⟩ = some (.int .i64 0) := HKX.out.cell 0
    have g1 : wx.cell? ⟨G, 1, none⟩ = some (.int .u32 0) := HKX.out.cell 1
    have g2 : wx.cell? ⟨G, 2, none⟩ = some (.int .u32 0) := HKX.out.cell 2
    have g3 : wx.cell? ⟨G, 3, none⟩ = some (.int .u64 0) := HKX.out.cell 3
    have g4 : wx.cell? ⟨G, 4, none⟩ = some (.int .u32 0) := HKX.out.cell 4
    have g5 : wx.cell? ⟨G, 5, none⟩ = some (.int .u32 0) := HKX.out.cell 5
    have g6 : wx.cell? ⟨G, 6, none⟩ = some (.int .u32 0) := HKX.out.cell 6
    have g7 : wx.cell? ⟨G, 7, none⟩ = some (.slice none 0 0) := HKX.out.cell 7
    have g8 : wx.cell? ⟨G, 8, none⟩ = some (.slice none 0 0) := HKX.out.cell 8
    have g9 : wx.cell? ⟨G, 9, none⟩ = some (.slice none 0 0) := HKX.out.cell 9
    have g10 : wx.cell? ⟨G, 10, none⟩ = some (.slice none 0 0) := HKX.out.cell 10
    have g11 : wx.cell? ⟨G, 11, none⟩ = some (.int .u8 0) := HKX.out.cell 11
    refine bodyPost_res (v := .tuple #[.agg #[.int .i64 0, .int .u32 0, .int .u32 0, .int .u64 0, .int .u32 0, .int .u32 0, .int .u32 0, .slice none 0 0, .slice none 0 0, .slice none 0 0, .slice none 0 0, .int .u8 0], .int .i64 10]) (by simp [results, Try.results32, go_sem, Addr.add, g0, g1, g2, g3, g4, g5, g6, g7, g8, g9, g10, g11]) rfl ?_
    exact ⟨hZ, by rw [HE.out]; rfl, by rw [HE.out]; exact ⟨CellsIn.nil _ _ _ _ _, CellsIn.nil _ _ _ _ _, CellsIn.nil _ _ _ _ _, CellsIn.nil _ _ _ _ _⟩, by rw [HE.out]; exact whoNew_nil rfl, HFX.out⟩
  · have hsi : ¬ ((xs.length : Int) < 8) := by omega
    have kc : w1.cell? ⟨G + 1, 0, none⟩ = some (.int .i64 4) := HTw1.out.cell 0
    obtain ⟨x0, hx0⟩ : ∃ v, v = nAt xs 0 4 := ⟨_, rfl⟩
    have bx0 : 0 ≤ x0 ∧ x0 ≤ 4294967295 := by rw [hx0]; exact nAt_lt HBY.out 0 4 4294967295 (by decide)
    have HNx0 : Hid (∀ W : World, Calls Try.prog 31 #[.string (strOfNums xs), .int .i64 0, .int .i64 4] W fun e w' => e = .returned (.int .u64 x0) ∧ Upd [] W w') := Lib.hid (fun W => by rw [hx0]; exact dnumat_any W xs 0 4 (by decide) (by decide) (by omega) HBY.out (by omega))
    have HXx0 := Lib.hid hx0
    clear hx0
    have wx0 : IntKind.u32.wrap x0 = x0 := by unfold IntKind.wrap; simp [IntKind.bits, IntKind.signed]; omega
    go_wp2_with fail
    refine (HNx0.out _).mono ?_
    rintro _ w2a ⟨rfl, hux⟩
    have HTw2a := Lib.hid (HTw1.out.upd hux (by simp))
    have HGw2a := Lib.hid (HGw1.out.upd hux (by simp))
    have HUw2a := Lib.hid (HUw1.out.next hux)
    clear hux
    obtain ⟨w2, hww2⟩ : ∃ z, z = w2a.setCell ⟨G + 1, 1, none⟩ (.int .u32 x0) := ⟨_, rfl⟩
    have uw2 : Upd [G + 1] w2a w2 := by rw [hww2]; exact (Upd.refl [G + 1] w2a).setCell (.inl (by simp)) _
    have HTw2 : Hid (Blk w2 (G + 1) 50 #[.int .i64 4, .int .u32 x0, .int .u32 0, .int .u64 0, .int .u32 0, .int .u32 0, .int .u32 0, .slice none 0 0, .slice none 0 0, .slice none 0 0, .slice none 0 0, .int .u8 0]) := Lib.hid (by rw [hww2]; exact HTw2a.out.store 1 _)
    have HGw2 := Lib.hid (HGw2a.out.upd uw2 (by simp))
    have HUw2 : Hid (Upd [] w w2) := Lib.hid (HUw2a.out.box' uw2 (by rw [HGX.out]; exact Nat.le_succ _))
    have HWw2 := Lib.hid hww2
    clear uw2 hww2
    have t0 : w2a.cell? ⟨G + 1, 1, none⟩ = some (.int .u32 0) := HTw2a.out.cell 1
    have f0 := HTw2a.out.frozen 1
    go_upto_region 34 with fail
    rw [← HWw2.out]
    clear t0 f0
    clear wx0
    clear kc
    have kc : w2.cell? ⟨G + 1, 0, none⟩ = some (.int .i64 4) := HTw2.out.cell 0
    obtain ⟨x1, hx1⟩ : ∃ v, v = nAt xs 4 4 := ⟨_, rfl⟩
    have bx1 : 0 ≤ x1 ∧ x1 ≤ 4294967295 := by rw [hx1]; exact nAt_lt HBY.out 4 4 4294967295 (by decide)
    have HNx1 : Hid (∀ W : World, Calls Try.prog 31 #[.string (strOfNums xs), .int .i64 4, .int .i64 4] W fun e w' => e = .returned (.int .u64 x1) ∧ Upd [] W w') := Lib.hid (fun W => by rw [hx1]; exact dnumat_any W xs 4 4 (by decide) (by decide) (by omega) HBY.out (by omega))
    have HXx1 := Lib.hid hx1
    clear hx1
    have wx1 : IntKind.u32.wrap x1 = x1 := by unfold IntKind.wrap; simp [IntKind.bits, IntKind.signed]; omega
    go_wp2_with fail
    refine (HNx1.out _).mono ?_
    rintro _ w3a ⟨rfl, hux⟩
    have HTw3a := Lib.hid (HTw2.out.upd hux (by simp))
    have HGw3a := Lib.hid (HGw2.out.upd hux (by simp))
    have HUw3a := Lib.hid (HUw2.out.next hux)
    clear hux
    obtain ⟨w3, hww3⟩ : ∃ z, z = w3a.setCell ⟨G + 1, 2, none⟩ (.int .u32 x1) := ⟨_, rfl⟩
    have uw3 : Upd [G + 1] w3a w3 := by rw [hww3]; exact (Upd.refl [G + 1] w3a).setCell (.inl (by simp)) _
    have HTw3 : Hid (Blk w3 (G + 1) 50 #[.int .i64 4, .int .u32 x0, .int .u32 x1, .int .u64 0, .int .u32 0, .int .u32 0, .int .u32 0, .slice none 0 0, .slice none 0 0, .slice none 0 0, .slice none 0 0, .int .u8 0]) := Lib.hid (by rw [hww3]; exact HTw3a.out.store 2 _)
    have HGw3 := Lib.hid (HGw3a.out.upd uw3 (by simp))
    have HUw3 : Hid (Upd [] w w3) := Lib.hid (HUw3a.out.box' uw3 (by rw [HGX.out]; exact Nat.le_succ _))
    have HWw3 := Lib.hid hww3
    clear uw3 hww3
    have t0 : w3a.cell? ⟨G + 1, 2, none⟩ = some (.int .u32 0) := HTw3a.out.cell 2
    have f0 := HTw3a.out.frozen 2
    go_upto_region 47 with fail
    rw [← HWw3.out]
    clear t0 f0
    clear wx1
    clear kc
    have kc : w3.cell? ⟨G + 1, 0, none⟩ = some (.int .i64 4) := HTw3.out.cell 0
    go_wp2
    go_loopg [] 0 (fun _ wr => w3 = wr)
    case atStart => exact rfl
    case round =>
      obtain rfl := hrel
      have kc : w3.cell? ⟨G + 1, 0, none⟩ = some (.int .i64 4) := HTw3.out.cell 0
      go_wp2
      go_loopg [] 0 (fun _ wr => w3 = wr)
      case atStart => exact rfl
      case round =>
        obtain rfl := hrel
        clear kc
        obtain ⟨kx, ux⟩ := blk12g HGw3.out (.int .i64 4) (.int .u32 x0) (.int .u32 x1) (.int .u64 0) (.int .u32 0) (.int .u32 0) (.int .u32 0) (.slice none 0 0) (.slice none 0 0) (.slice none 0 0) (.slice none 0 0) (.int .u8 0)
        obtain ⟨wx, hwx⟩ : ∃ z, z = ((((((((((((w3.setCell ⟨G, 0, none⟩ (.int .i64 4)).setCell ⟨G, 1, none⟩ (.int .u32 x0)).setCell ⟨G, 2, none⟩ (.int .u32 x1)).setCell ⟨G, 3, none⟩ (.int .u64 0)).setCell ⟨G, 4, none⟩ (.int .u32 0)).setCell ⟨G, 5, none⟩ (.int .u32 0)).setCell ⟨G, 6, none⟩ (.int .u32 0)).setCell ⟨G, 7, none⟩ (.slice none 0 0)).setCell ⟨G, 8, none⟩ (.slice none 0 0)).setCell ⟨G, 9, none⟩ (.slice none 0 0)).setCell ⟨G, 10, none⟩ (.slice none 0 0)).setCell ⟨G, 11, none⟩ (.int .u8 0)) := ⟨_, rfl⟩
        rw [← hwx] at kx ux
        have HKX := Lib.hid kx
        have HUX : Hid (Upd [G] w3 wx) := Lib.hid ux
        have HFX : Hid (Upd [] w wx) := Lib.hid (HUw3.out.box' ux (by rw [HGX.out]; exact Nat.le_refl _))
        have HWX := Lib.hid hwx
        clear kx ux hwx
        have t0 : w3.cell? ⟨G + 1, 0, none⟩ = some (.int .i64 4) := HTw3.out.cell 0
        have t1 : w3.cell? ⟨G + 1, 1, none⟩ = some (.int .u32 x0) := HTw3.out.cell 1
        have t2 : w3.cell? ⟨G + 1, 2, none⟩ = some (.int .u32 x1) := HTw3.out.cell 2
        have t3 : w3.cell? ⟨G + 1, 3, none⟩ = some (.int .u64 0) := HTw3.out.cell 3
        have t4 : w3.cell? ⟨G + 1, 4, none⟩ = some (.int .u32 0) := HTw3.out.cell 4
        have t5 : w3.cell? ⟨G + 1, 5, none⟩ = some (.int .u32 0) := HTw3.out.cell 5
        have t6 : w3.cell? ⟨G + 1, 6, none⟩ = some (.int .u32 0) := HTw3.out.cell 6
        have t7 : w3.cell? ⟨G + 1, 7, none⟩ = some (.slice none 0 0) := HTw3.out.cell 7
        have t8 : w3.cell? ⟨G + 1, 8, none⟩ = some (.slice none 0 0) := HTw3.out.cell 8
        have t9 : w3.cell? ⟨G + 1, 9, none⟩ = some (.slice none 0 0) := HTw3.out.cell 9
        have t10 : w3.cell? ⟨G + 1, 10, none⟩ = some (.slice none 0 0) := HTw3.out.cell 10
        have t11 : w3.cell? ⟨G + 1, 11, none⟩ = some (.int .u8 0) := HTw3.out.cell 11
        have z0 : w3.cell? ⟨G, 0, none⟩ = some (.int .i64 0) := HGw3.out.cell 0
        have z1 : w3.cell? ⟨G, 1, none⟩ = some (.int .u32 0) := HGw3.out.cell 1
        have z2 : w3.cell? ⟨G, 2, none⟩ = some (.int .u32 0) := HGw3.out.cell 2
        have z3 : w3.cell? ⟨G, 3, none⟩ = some (.int .u64 0) := HGw3.out.cell 3
        have z4 : w3.cell? ⟨G, 4, none⟩ = some (.int .u32 0) := HGw3.out.cell 4
        have z5 : w3.cell? ⟨G, 5, none⟩ = some (.int .u32 0) := HGw3.out.cell 5
        have z6 : w3.cell? ⟨G, 6, none⟩ = some (.int .u32 0) := HGw3.out.cell 6
        have z7 : w3.cell? ⟨G, 7, none⟩ = some (.slice none 0 0) := HGw3.out.cell 7
        have z8 : w3.cell? ⟨G, 8, none⟩ = some (.slice none 0 0) := HGw3.out.cell 8
        have z9 : w3.cell? ⟨G, 9, none⟩ = some (.slice none 0 0) := HGw3.out.cell 9
        have z10 : w3.cell? ⟨G, 10, none⟩ = some (.slice none 0 0) := HGw3.out.cell 10
        have z11 : w3.cell? ⟨G, 11, none⟩ = some (.int .u8 0) := HGw3.out.cell 11
        have f0 := HGw3.out.frozen 0
        have f1 := HGw3.out.frozen 1
        have f2 := HGw3.out.frozen 2
        have f3 := HGw3.out.frozen 3
        have f4 := HGw3.out.frozen 4
        have f5 := HGw3.out.frozen 5
        have f6 := HGw3.out.frozen 6
        have f7 := HGw3.out.frozen 7
        have f8 := HGw3.out.frozen 8
        have f9 := HGw3.out.frozen 9
        have f10 := HGw3.out.frozen 10
        have f11 := HGw3.out.frozen 11
        go_wp2
        rw [← HWX.out]
        have g0 : wx.cell? ⟨G, 0, none⟩ = some (.int .i64 4) := HKX.out.cell 0
        have g1 : wx.cell? ⟨G, 1, none⟩ = some (.int .u32 x0) := HKX.out.cell 1
        have g2 : wx.cell? ⟨G, 2, none⟩ = some (.int .u32 x1) := HKX.out.cell 2
        have g3 : wx.cell? ⟨G, 3, none⟩ = some (.int .u64 0) := HKX.out.cell 3
        have g4 : wx.cell? ⟨G, 4, none⟩ = some (.int .u32 0) := HKX.out.cell 4
        have g5 : wx.cell? ⟨G, 5, none⟩ = some (.int .u32 0) := HKX.out.cell 5
        have g6 : wx.cell? ⟨G, 6, none⟩ = some (.int .u32 0) := HKX.out.cell 6
        have g7 : wx.cell? ⟨G, 7, none⟩ = some (.slice none 0 0) := HKX.out.cell 7
        have g8 : wx.cell? ⟨G, 8, none⟩ = some (.slice none 0 0) := HKX.out.cell 8
        have g9 : wx.cell? ⟨G, 9, none⟩ = some (.slice none 0 0) := HKX.out.cell 9
        have g10 : wx.cell? ⟨G, 10, none⟩ = some (.slice none 0 0) := HKX.out.cell 10
        have g11 : wx.cell? ⟨G, 11, none⟩ = some (.int .u8 0) := HKX.out.cell 11
        refine bodyPost_res (v := .tuple #[.agg #[.int .i64 4, .int .u32 x0, .int .u32 x1, .int .u64 0, .int .u32 0, .int .u32 0, .int .u32 0, .slice none 0 0, .slice none 0 0, .slice none 0 0, .slice none 0 0, .int .u8 0], .int .i64 0]) (by simp [results, Try.results32, go_sem, Addr.add, g0, g1, g2, g3, g4, g5, g6, g7, g8, g9, g10, g11]) rfl ?_
        have HE : Hid (r = (⟨4, x0, x1, 0, 0, 0, 0, [], [], [], [], 0⟩, 0)) := Lib.hid (by rw [HRD.out, if_neg hs, HXx0.out, HXx1.out])
        exact ⟨hZ, by rw [HE.out]; rfl, by rw [HE.out]; exact ⟨CellsIn.nil _ _ _ _ _, CellsIn.nil _ _ _ _ _, CellsIn.nil _ _ _ _ _, CellsIn.nil _ _ _ _ _⟩, by rw [HE.out]; exact whoNew_nil rfl, HFX.out⟩
end Go.Proofs.Ytgkejdjdccgjbaa
/- A body's message by the document (louverref09.read), arm 'fir'. Conditions: bytes, and which arm. -/
namespace Go.Proofs.Ytgkejdjdccgjbaa
open Go Go.RowKit
set_option maxHeartbeats 400000
set_option maxRecDepth 100000 in
set_option maxHeartbeats 16000000 in
theorem rread_fir (w : World) (kd : Int) (n : Nat) (xs : List Int) (hk : 0 ≤ kd ∧ kd ≤ 255) (hn : n ≤ 31) (hb : Byt xs) (hl : xs.length ≤ 100000) (k0 : ¬ kd = 200) (k1 : ¬ kd = 201) (k2 : ¬ kd = 203) (k3 : kd = 206) (kn : ¬ n = 1) (kn4 : n = 4) :
    Calls Try.prog 32 #[.int .i64 kd, .int .i64 n, .string (strOfNums xs)] w fun e w' => ∃ hd, e = .returned (.tuple #[.agg (mcells (readM kd n xs).1 hd).toArray, .int .i64 (readM kd n xs).2]) ∧ RfIn w' w.heap.size (readM kd n xs).1 hd ∧ WhoNew w.heap.size (readM kd n xs).1 hd ∧ Upd [] w w' := by
  have Hk0 := Lib.hid k0
  have Hk1 := Lib.hid k1
  have Hk2 := Lib.hid k2
  have Hk3 := Lib.hid k3
  have Hkn := Lib.hid kn
  have Hkn4 := Lib.hid kn4
  clear k0 k1 k2 k3 kn kn4
  rw [read_direct]
  obtain ⟨r, hr⟩ : ∃ r, r = readD kd n xs := ⟨_, rfl⟩
  rw [← hr]
  have HR := Lib.hid hr
  have HBY := Lib.hid hb
  obtain ⟨G, hG⟩ : ∃ G, G = w.heap.size := ⟨_, rfl⟩
  obtain ⟨W1, hW1⟩ : ∃ W, W = w.alloc (.cells #[.int .i64 0, .int .u32 0, .int .u32 0, .int .u64 0, .int .u32 0, .int .u32 0, .int .u32 0, .slice none 0 0, .slice none 0 0, .slice none 0 0, .slice none 0 0, .int .u8 0] 50) := ⟨_, rfl⟩
  obtain ⟨W, hW⟩ : ∃ W, W = W1.alloc (.cells #[.int .i64 6, .int .u32 0, .int .u32 0, .int .u64 0, .int .u32 0, .int .u32 0, .int .u32 0, .slice none 0 0, .slice none 0 0, .slice none 0 0, .slice none 0 0, .int .u8 kd] 50) := ⟨_, rfl⟩
  have u1 : Upd [] w W1 := by rw [hW1]; exact (Upd.refl [] w).alloc _
  have u2 : Upd [] W1 W := by rw [hW]; exact (Upd.refl [] W1).alloc _
  have s1 : W1.heap.size = G + 1 := by rw [hW1, World.size_alloc, hG]
  have HGW : Hid (Blk W G 50 #[.int .i64 0, .int .u32 0, .int .u32 0, .int .u64 0, .int .u32 0, .int .u32 0, .int .u32 0, .slice none 0 0, .slice none 0 0, .slice none 0 0, .slice none 0 0, .int .u8 0]) := Lib.hid (by
    have : Blk W1 G 50 #[.int .i64 0, .int .u32 0, .int .u32 0, .int .u64 0, .int .u32 0, .int .u32 0, .int .u32 0, .slice none 0 0, .slice none 0 0, .slice none 0 0, .slice none 0 0, .int .u8 0] := by rw [hW1, hG]; exact Blk.new _ _ _
    exact this.upd u2 (by simp))
  have HTW : Hid (Blk W (G + 1) 50 #[.int .i64 6, .int .u32 0, .int .u32 0, .int .u64 0, .int .u32 0, .int .u32 0, .int .u32 0, .slice none 0 0, .slice none 0 0, .slice none 0 0, .slice none 0 0, .int .u8 kd]) := Lib.hid (by rw [hW, ← s1]; exact Blk.new _ _ _)
  have HUW := Lib.hid (u1.next u2)
  have HGX := Lib.hid hG
  have hcv : IntKind.u8.wrap kd = kd := by unfold IntKind.wrap; simp [IntKind.bits, IntKind.signed]; omega
  have hsz : (strOfNums xs).size = xs.length := strOfNums_size xs
  clear hr hb u1 u2
  go_enter Try.func32, Try.ntmps32
  go_upto_region 1 with fail
  rw [← hW1, ← hG]
  clear hW1 hG
  go_upto_region 2 with fail
  rw [← hW]
  clear hW hcv
  have k0 := Hk0.out
  have k1 := Hk1.out
  have k2 := Hk2.out
  have k3 := Hk3.out
  have kn := Hkn.out
  have kn4 := Hkn4.out
  clear Hk0 Hk1 Hk2 Hk3 Hkn Hkn4
  have k' : (206 : Int) = kd := k3.symm
  subst k'
  obtain rfl : n = 4 := kn4
  clear k0 k1 k2 k3 kn
  obtain ⟨kw0, uw0⟩ := blk12 HTW.out (.int .i64 4) (.int .u32 0) (.int .u32 0) (.int .u64 0) (.int .u32 0) (.int .u32 0) (.int .u32 0) (.slice none 0 0) (.slice none 0 0) (.slice none 0 0) (.slice none 0 0) (.int .u8 0)
  obtain ⟨w0, hww0⟩ : ∃ z, z = ((((((((((((W.setCell ⟨G + 1, 0, none⟩ (.int .i64 4)).setCell ⟨G + 1, 1, none⟩ (.int .u32 0)).setCell ⟨G + 1, 2, none⟩ (.int .u32 0)).setCell ⟨G + 1, 3, none⟩ (.int .u64 0)).setCell ⟨G + 1, 4, none⟩ (.int .u32 0)).setCell ⟨G + 1, 5, none⟩ (.int .u32 0)).setCell ⟨G + 1, 6, none⟩ (.int .u32 0)).setCell ⟨G + 1, 7, none⟩ (.slice none 0 0)).setCell ⟨G + 1, 8, none⟩ (.slice none 0 0)).setCell ⟨G + 1, 9, none⟩ (.slice none 0 0)).setCell ⟨G + 1, 10, none⟩ (.slice none 0 0)).setCell ⟨G + 1, 11, none⟩ (.int .u8 0)) := ⟨_, rfl⟩
  rw [← hww0] at kw0 uw0
  have HTw0 := Lib.hid kw0
  have HGw0 := Lib.hid (HGW.out.upd uw0 (by simp))
  have HUw0 : Hid (Upd [] w w0) := Lib.hid (HUW.out.box' uw0 (by rw [HGX.out]; exact Nat.le_succ _))
  have HWw0 := Lib.hid hww0
  clear kw0 uw0 hww0
  have t0 : W.cell? ⟨G + 1, 0, none⟩ = some (.int .i64 6) := HTW.out.cell 0
  have t1 : W.cell? ⟨G + 1, 1, none⟩ = some (.int .u32 0) := HTW.out.cell 1
  have t2 : W.cell? ⟨G + 1, 2, none⟩ = some (.int .u32 0) := HTW.out.cell 2
  have t3 : W.cell? ⟨G + 1, 3, none⟩ = some (.int .u64 0) := HTW.out.cell 3
  have t4 : W.cell? ⟨G + 1, 4, none⟩ = some (.int .u32 0) := HTW.out.cell 4
  have t5 : W.cell? ⟨G + 1, 5, none⟩ = some (.int .u32 0) := HTW.out.cell 5
  have t6 : W.cell? ⟨G + 1, 6, none⟩ = some (.int .u32 0) := HTW.out.cell 6
  have t7 : W.cell? ⟨G + 1, 7, none⟩ = some (.slice none 0 0) := HTW.out.cell 7
  have t8 : W.cell? ⟨G + 1, 8, none⟩ = some (.slice none 0 0) := HTW.out.cell 8
  have t9 : W.cell? ⟨G + 1, 9, none⟩ = some (.slice none 0 0) := HTW.out.cell 9
  have t10 : W.cell? ⟨G + 1, 10, none⟩ = some (.slice none 0 0) := HTW.out.cell 10
  have t11 : W.cell? ⟨G + 1, 11, none⟩ = some (.int .u8 206) := HTW.out.cell 11
  have f0 := HTW.out.frozen 0
  have f1 := HTW.out.frozen 1
  have f2 := HTW.out.frozen 2
  have f3 := HTW.out.frozen 3
  have f4 := HTW.out.frozen 4
  have f5 := HTW.out.frozen 5
  have f6 := HTW.out.frozen 6
  have f7 := HTW.out.frozen 7
  have f8 := HTW.out.frozen 8
  have f9 := HTW.out.frozen 9
  have f10 := HTW.out.frozen 10
  have f11 := HTW.out.frozen 11
  go_upto_region 21 with fail
  rw [← HWw0.out]
  clear t0 t1 t2 t3 t4 t5 t6 t7 t8 t9 t10 t11 f0 f1 f2 f3 f4 f5 f6 f7 f8 f9 f10 f11
  obtain ⟨w1, hww1⟩ : ∃ z, z = w0.setCell ⟨G + 1, 0, none⟩ (.int .i64 5) := ⟨_, rfl⟩
  have uw1 : Upd [G + 1] w0 w1 := by rw [hww1]; exact (Upd.refl [G + 1] w0).setCell (.inl (by simp)) _
  have HTw1 : Hid (Blk w1 (G + 1) 50 #[.int .i64 5, .int .u32 0, .int .u32 0, .int .u64 0, .int .u32 0, .int .u32 0, .int .u32 0, .slice none 0 0, .slice none 0 0, .slice none 0 0, .slice none 0 0, .int .u8 0]) := Lib.hid (by rw [hww1]; exact HTw0.out.store 0 _)
  have HGw1 := Lib.hid (HGw0.out.upd uw1 (by simp))
  have HUw1 : Hid (Upd [] w w1) := Lib.hid (HUw0.out.box' uw1 (by rw [HGX.out]; exact Nat.le_succ _))
  have HWw1 := Lib.hid hww1
  clear uw1 hww1
  have t0 : w0.cell? ⟨G + 1, 0, none⟩ = some (.int .i64 4) := HTw0.out.cell 0
  have f0 := HTw0.out.frozen 0
  go_upto_region 22 with fail
  rw [← HWw1.out]
  clear t0 f0
  have HRD : Hid (r = if xs.length < 8 then (mZ, 10) else if (xs.length - 8) / 8 = 0 then (mZ, 11) else (⟨5, nAt xs 0 4, nAt xs 4 4, 0, 0, 0, 0, [], [], [], (List.range ((xs.length - 8) / 8)).map (fun i => askAt xs (8 + 8 * i)), 0⟩, 0)) := Lib.hid (by rw [HR.out]; rfl)
  by_cases hs : xs.length < 8
  · have hsi : (xs.length : Int) < 8 := by omega
    have HE : Hid (r = (mZ, 10)) := Lib.hid (by rw [HRD.out, if_pos hs])
    obtain ⟨kx, ux⟩ := blk12g HGw1.out (.int .i64 0) (.int .u32 0) (.int .u32 0) (.int .u64 0) (.int .u32 0) (.int .u32 0) (.int .u32 0) (.slice none 0 0) (.slice none 0 0) (.slice none 0 0) (.slice none 0 0) (.int .u8 0)
    obtain ⟨wx, hwx⟩ : ∃ z, z = ((((((((((((w1.setCell ⟨G, 0, none⟩ (.int .i64 0)).setCell ⟨G, 1, none⟩ (.int .u32 0)).setCell ⟨G, 2, none⟩ (.int .u32 0)).setCell ⟨G, 3, none⟩ (.int .u64 0)).setCell ⟨G, 4, none⟩ (.int .u32 0)).setCell ⟨G, 5, none⟩ (.int .u32 0)).setCell ⟨G, 6, none⟩ (.int .u32 0)).setCell ⟨G, 7, none⟩ (.slice none 0 0)).setCell ⟨G, 8, none⟩ (.slice none 0 0)).setCell ⟨G, 9, none⟩ (.slice none 0 0)).setCell ⟨G, 10, none⟩ (.slice none 0 0)).setCell ⟨G, 11, none⟩ (.int .u8 0)) := ⟨_, rfl⟩
    rw [← hwx] at kx ux
    have HKX := Lib.hid kx
    have HUX : Hid (Upd [G] w1 wx) := Lib.hid ux
    have HFX : Hid (Upd [] w wx) := Lib.hid (HUw1.out.box' ux (by rw [HGX.out]; exact Nat.le_refl _))
    have HWX := Lib.hid hwx
    clear kx ux hwx
    have z0 : w1.cell? ⟨G, 0, none⟩ = some (.int .i64 0) := HGw1.out.cell 0
    have z1 : w1.cell? ⟨G, 1, none⟩ = some (.int .u32 0) := HGw1.out.cell 1
    have z2 : w1.cell? ⟨G, 2, none⟩ = some (.int .u32 0) := HGw1.out.cell 2
    have z3 : w1.cell? ⟨G, 3, none⟩ = some (.int .u64 0) := HGw1.out.cell 3
    have z4 : w1.cell? ⟨G, 4, none⟩ = some (.int .u32 0) := HGw1.out.cell 4
    have z5 : w1.cell? ⟨G, 5, none⟩ = some (.int .u32 0) := HGw1.out.cell 5
    have z6 : w1.cell? ⟨G, 6, none⟩ = some (.int .u32 0) := HGw1.out.cell 6
    have z7 : w1.cell? ⟨G, 7, none⟩ = some (.slice none 0 0) := HGw1.out.cell 7
    have z8 : w1.cell? ⟨G, 8, none⟩ = some (.slice none 0 0) := HGw1.out.cell 8
    have z9 : w1.cell? ⟨G, 9, none⟩ = some (.slice none 0 0) := HGw1.out.cell 9
    have z10 : w1.cell? ⟨G, 10, none⟩ = some (.slice none 0 0) := HGw1.out.cell 10
    have z11 : w1.cell? ⟨G, 11, none⟩ = some (.int .u8 0) := HGw1.out.cell 11
    have f0 := HGw1.out.frozen 0
    have f1 := HGw1.out.frozen 1
    have f2 := HGw1.out.frozen 2
    have f3 := HGw1.out.frozen 3
    have f4 := HGw1.out.frozen 4
    have f5 := HGw1.out.frozen 5
    have f6 := HGw1.out.frozen 6
    have f7 := HGw1.out.frozen 7
    have f8 := HGw1.out.frozen 8
    have f9 := HGw1.out.frozen 9
    have f10 := HGw1.out.frozen 10
    have f11 := HGw1.out.frozen 11
    go_wp2
    rw [← HWX.out]
    have g0 : wx.cell? ⟨G, 0, none⟩ = some (.int .i64 0) := HKX.out.cell 0
    have g1 : wx.cell? ⟨G, 1, none⟩ = some (.int .u32 0) := HKX.out.cell 1
    have g2 : wx.cell? ⟨G, 2, none⟩ = some (.int .u32 0) := HKX.out.cell 2
    have g3 : wx.cell? ⟨G, 3, none⟩ = some (.int .u64 0) := HKX.out.cell 3
    have g4 : wx.cell? ⟨G, 4, none⟩ = some (.int .u32 0) := HKX.out.cell 4
    have g5 : wx.cell? ⟨G, 5, none⟩ = some (.int .u32 0) := HKX.out.cell 5
    have g6 : wx.cell? ⟨G, 6, none⟩ = some (.int .u32 0) := HKX.out.cell 6
    have g7 : wx.cell? ⟨G, 7, none⟩ = some (.slice none 0 0) := HKX.out.cell 7
    have g8 : wx.cell? ⟨G, 8, none⟩ = some (.slice none 0 0) := HKX.out.cell 8
    have g9 : wx.cell? ⟨G, 9, none⟩ = some (.slice none 0 0) := HKX.out.cell 9
    have g10 : wx.cell? ⟨G, 10, none⟩ = some (.slice none 0 0) := HKX.out.cell 10
    have g11 : wx.cell? ⟨G, 11, none⟩ = some (.int .u8 0) := HKX.out.cell 11
    refine bodyPost_res (v := .tuple #[.agg #[.int .i64 0, .int .u32 0, .int .u32 0, .int .u64 0, .int .u32 0, .int .u32 0, .int .u32 0, .slice none 0 0, .slice none 0 0, .slice none 0 0, .slice none 0 0, .int .u8 0], .int .i64 10]) (by simp [results, Try.results32, go_sem, Addr.add, g0, g1, g2, g3, g4, g5, g6, g7, g8, g9, g10, g11]) rfl ?_
    exact ⟨hZ, by rw [HE.out]; rfl, by rw [HE.out]; exact ⟨CellsIn.nil _ _ _ _ _, CellsIn.nil _ _ _ _ _, CellsIn.nil _ _ _ _ _, CellsIn.nil _ _ _ _ _⟩, by rw [HE.out]; exact whoNew_nil rfl, HFX.out⟩
  · have hsi : ¬ ((xs.length : Int) < 8) := by omega
    have kc : w1.cell? ⟨G + 1, 0, none⟩ = some (.int .i64 5) := HTw1.out.cell 0
    obtain ⟨x0, hx0⟩ : ∃ v, v = nAt xs 0 4 := ⟨_, rfl⟩
    have bx0 : 0 ≤ x0 ∧ x0 ≤ 4294967295 := by rw [hx0]; exact nAt_lt HBY.out 0 4 4294967295 (by decide)
    have HNx0 : Hid (∀ W : World, Calls Try.prog 31 #[.string (strOfNums xs), .int .i64 0, .int .i64 4] W fun e w' => e = .returned (.int .u64 x0) ∧ Upd [] W w') := Lib.hid (fun W => by rw [hx0]; exact dnumat_any W xs 0 4 (by decide) (by decide) (by omega) HBY.out (by omega))
    have HXx0 := Lib.hid hx0
    clear hx0
    have wx0 : IntKind.u32.wrap x0 = x0 := by unfold IntKind.wrap; simp [IntKind.bits, IntKind.signed]; omega
    go_wp2_with fail
    refine (HNx0.out _).mono ?_
    rintro _ w2a ⟨rfl, hux⟩
    have HTw2a := Lib.hid (HTw1.out.upd hux (by simp))
    have HGw2a := Lib.hid (HGw1.out.upd hux (by simp))
    have HUw2a := Lib.hid (HUw1.out.next hux)
    clear hux
    obtain ⟨w2, hww2⟩ : ∃ z, z = w2a.setCell ⟨G + 1, 1, none⟩ (.int .u32 x0) := ⟨_, rfl⟩
    have uw2 : Upd [G + 1] w2a w2 := by rw [hww2]; exact (Upd.refl [G + 1] w2a).setCell (.inl (by simp)) _
    have HTw2 : Hid (Blk w2 (G + 1) 50 #[.int .i64 5, .int .u32 x0, .int .u32 0, .int .u64 0, .int .u32 0, .int .u32 0, .int .u32 0, .slice none 0 0, .slice none 0 0, .slice none 0 0, .slice none 0 0, .int .u8 0]) := Lib.hid (by rw [hww2]; exact HTw2a.out.store 1 _)
    have HGw2 := Lib.hid (HGw2a.out.upd uw2 (by simp))
    have HUw2 : Hid (Upd [] w w2) := Lib.hid (HUw2a.out.box' uw2 (by rw [HGX.out]; exact Nat.le_succ _))
    have HWw2 := Lib.hid hww2
    clear uw2 hww2
    have t0 : w2a.cell? ⟨G + 1, 1, none⟩ = some (.int .u32 0) := HTw2a.out.cell 1
    have f0 := HTw2a.out.frozen 1
    go_upto_region 34 with fail
    rw [← HWw2.out]
    clear t0 f0
    clear wx0
    clear kc
    have kc : w2.cell? ⟨G + 1, 0, none⟩ = some (.int .i64 5) := HTw2.out.cell 0
    obtain ⟨x1, hx1⟩ : ∃ v, v = nAt xs 4 4 := ⟨_, rfl⟩
    have bx1 : 0 ≤ x1 ∧ x1 ≤ 4294967295 := by rw [hx1]; exact nAt_lt HBY.out 4 4 4294967295 (by decide)
    have HNx1 : Hid (∀ W : World, Calls Try.prog 31 #[.string (strOfNums xs), .int .i64 4, .int .i64 4] W fun e w' => e = .returned (.int .u64 x1) ∧ Upd [] W w') := Lib.hid (fun W => by rw [hx1]; exact dnumat_any W xs 4 4 (by decide) (by decide) (by omega) HBY.out (by omega))
    have HXx1 := Lib.hid hx1
    clear hx1
    have wx1 : IntKind.u32.wrap x1 = x1 := by unfold IntKind.wrap; simp [IntKind.bits, IntKind.signed]; omega
    go_wp2_with fail
    refine (HNx1.out _).mono ?_
    rintro _ w3a ⟨rfl, hux⟩
    have HTw3a := Lib.hid (HTw2.out.upd hux (by simp))
    have HGw3a := Lib.hid (HGw2.out.upd hux (by simp))
    have HUw3a := Lib.hid (HUw2.out.next hux)
    clear hux
    obtain ⟨w3, hww3⟩ : ∃ z, z = w3a.setCell ⟨G + 1, 2, none⟩ (.int .u32 x1) := ⟨_, rfl⟩
    have uw3 : Upd [G + 1] w3a w3 := by rw [hww3]; exact (Upd.refl [G + 1] w3a).setCell (.inl (by simp)) _
    have HTw3 : Hid (Blk w3 (G + 1) 50 #[.int .i64 5, .int .u32 x0, .int .u32 x1, .int .u64 0, .int .u32 0, .int .u32 0, .int .u32 0, .slice none 0 0, .slice none 0 0, .slice none 0 0, .slice none 0 0, .int .u8 0]) := Lib.hid (by rw [hww3]; exact HTw3a.out.store 2 _)
    have HGw3 := Lib.hid (HGw3a.out.upd uw3 (by simp))
    have HUw3 : Hid (Upd [] w w3) := Lib.hid (HUw3a.out.box' uw3 (by rw [HGX.out]; exact Nat.le_succ _))
    have HWw3 := Lib.hid hww3
    clear uw3 hww3
    have t0 : w3a.cell? ⟨G + 1, 2, none⟩ = some (.int .u32 0) := HTw3a.out.cell 2
    have f0 := HTw3a.out.frozen 2
    go_upto_region 47 with fail
    rw [← HWw3.out]
    clear t0 f0
    clear wx1
    clear kc
    have HBS : Hid (G + 1 < w3.heap.size) := Lib.hid HTw3.out.lt
    obtain ⟨m, hm⟩ : ∃ m, m = (xs.length - 8) / 8 := ⟨_, rfl⟩
    have hml : m ≤ 100000 := by omega
    have kc : w3.cell? ⟨G + 1, 0, none⟩ = some (.int .i64 5) := HTw3.out.cell 0
    go_wp2
    go_loopg [10] 0 (fun _ x10 wr => x10 = .int .i64 8 ∧ w3 = wr)
    case atStart => exact ⟨rfl, rfl⟩
    case round =>
      obtain ⟨rfl, rfl⟩ := hrel
      go_wp2
      clear kc
      go_loopg [10] m (fun gk x10 wr => ∃ i : Nat, i ≤ m ∧ m ≤ i + gk ∧ x10 = .int .i64 (8 + 8 * (i : Int)) ∧ ∃ (A : Option Addr) (c : Nat), Blk wr (G + 1) 50 #[.int .i64 5, .int .u32 x0, .int .u32 x1, .int .u64 0, .int .u32 0, .int .u32 0, .int .u32 0, .slice none 0 0, .slice none 0 0, .slice none 0 0, .slice A i c, .int .u8 0] ∧ wr.ownsRow w3.heap.size 92 2 (.slice A i c) i (((List.range i).map (fun i => askAt xs (8 + 8 * i))).flatMap encAsk) ∧ Blk wr G 50 #[.int .i64 0, .int .u32 0, .int .u32 0, .int .u64 0, .int .u32 0, .int .u32 0, .int .u32 0, .slice none 0 0, .slice none 0 0, .slice none 0 0, .slice none 0 0, .int .u8 0] ∧ Upd [] w wr ∧ w3.heap.size ≤ wr.heap.size)
      case atStart => exact ⟨0, Nat.zero_le _, by omega, by simp, none, 0, HTw3.out, World.ownsRow_nil _ _ _ _, HGw3.out, HUw3.out, Nat.le_refl _⟩
      case round =>
        obtain ⟨i, hi, hgi, rfl, A, c, hbT, hown, hbG, hur, hsx⟩ := hrel
        have kc : wr.cell? ⟨G + 1, 0, none⟩ = some (.int .i64 5) := hbT.cell 0
        obtain ⟨p, hp⟩ : ∃ p : Nat, p = 8 + 8 * i := ⟨_, rfl⟩
        rw [show (8 : Int) + 8 * (i : Int) = (p : Int) by omega]
        have hwp : IntKind.i64.wrap ((p : Int) + 8) = (p : Int) + 8 := IntWalk.i64_in _ (by omega)
        by_cases hlt : i < m
        · have hpl : (p : Int) + 8 ≤ (xs.length : Int) := by omega
          have hwp4 : IntKind.i64.wrap ((p : Int) + 4) = (p : Int) + 4 := IntWalk.i64_in _ (by omega)
          obtain ⟨z0, hz0⟩ : ∃ v, v = nAt xs p 4 := ⟨_, rfl⟩
          have bz0 : 0 ≤ z0 ∧ z0 ≤ 4294967295 := by rw [hz0]; exact nAt_lt HBY.out p 4 4294967295 (by decide)
          have HN0 : Hid (∀ W : World, Calls Try.prog 31 #[.string (strOfNums xs), .int .i64 p, .int .i64 4] W fun e w' => e = .returned (.int .u64 z0) ∧ Upd [] W w') := Lib.hid (fun W => by rw [hz0]; exact dnumat_any W xs p 4 (by decide) (by decide) (by omega) HBY.out (by omega))
          have HXz0 := Lib.hid hz0
          clear hz0
          have hwz0 : IntKind.u32.wrap z0 = z0 := by unfold IntKind.wrap; simp [IntKind.bits, IntKind.signed]; omega
          obtain ⟨z1, hx1⟩ : ∃ z, xs[p + 4]? = some z := ⟨_, List.getElem?_eq_getElem (by omega)⟩
          have bz1 := HBY.out z1 (List.mem_of_getElem? hx1)
          have HXz1 : Hid (z1 = nAt xs (p + 4) 1) := Lib.hid (nAt_one hx1)
          have hpz : p + 4 < (strOfNums xs).size := by rw [strOfNums_size]; omega
          have hget := strOf_get (xs := xs) (i := p + 4) hpz hx1 bz1
          have hpi : ((p : Int) + 4).toNat = p + 4 := by omega
          have hpl4 : (p : Int) + 4 < (xs.length : Int) := by omega
          clear hx1
          have HRE : Hid (askAt xs (8 + 8 * i) = (z0, z1)) := Lib.hid (by unfold askAt; rw [← hp, ← HXz0.out, ← HXz1.out])
          have HP := Lib.hid hp
          have HM := Lib.hid hm
          clear hp hm
          have hTP : G + 1 ∉ A.toList.map (·.block) := fun hm => by
            obtain ⟨cur, hcur⟩ := row_type hown (G + 1) (by have h8 := own_listN A i c; rw [← h8] at hm; simpa using hm)
            exact hcur.ne hbT (by decide) rfl
          have hGP : G ∉ A.toList.map (·.block) := fun hm => by
            obtain ⟨cur, hcur⟩ := row_type hown G (by have h8 := own_listN A i c; rw [← h8] at hm; simpa using hm)
            exact hcur.ne hbG (by decide) rfl
          obtain ⟨PB, hPB⟩ : ∃ l, l = A.toList.map (·.block) := ⟨_, rfl⟩
          rw [← hPB] at hTP hGP
          have hTl := hbT.lt
          have tz : ∀ z : Cls (Upd PB wr), z.w.cell? ⟨G + 1, 10, none⟩ = some (.slice A i c) := fun z => (z.h.cell (p := ⟨G + 1, 10, none⟩) hTl hTP).trans (hbT.cell 10)
          have HOWN := Lib.hid hown
          have HBT := Lib.hid hbT
          have HBG := Lib.hid hbG
          have HUR := Lib.hid hur
          have HPB := Lib.hid hPB
          have HTP := Lib.hid (And.intro hTP hGP)
          have HGI := Lib.hid hgi
          obtain ⟨j0, hj0, hy0, hy1, hy2⟩ := info_parts infoRA
          clear hown hbT hbG hur hPB hTP hGP hgi hTl
          go_upto_region 51 with fail
          refine wp_script (Upd PB wr) ((Upd.refl _ _).drewN 1) (.take [0, 1, 2, 3, 6, 7, 8, 9] (.one 4 (.take [5, 10] (.last [11, 12, 13, 14])))) (by kernel_rfl) (by kernel_rfl) (fun _ _ _ _ h => h) ?_
          intro hne
          refine wpS_take ?_
          simp only [pick3, List.map_cons, List.map_nil, List.getElem?_cons_zero, List.getElem?_cons_succ, Option.getD_some]
          repeat (go_big_quiet_step (with_reducible rfl))
          refine wpQuiet_nil ?_
          obtain ⟨w0, hw0⟩ : ∃ v, v = wr.drewN 1 := ⟨_, rfl⟩
          have HJ0 : Hid (Upd [] wr w0) := Lib.hid (by rw [hw0]; exact (Upd.refl _ _).drewN 1)
          rw [← hw0]
          clear hw0 tz
          refine wpS_one ?_
          simp only [pick3, List.map_cons, List.map_nil, List.getElem?_cons_zero, List.getElem?_cons_succ, Option.getD_some]
          refine wpHeldK_step rfl fun K hK => ?_
          go_simp
          refine (HN0.out _).mono ?_
          rintro _ wj0 ⟨rfl, hux⟩
          have HJ1 := Lib.hid (HJ0.out.next hux)
          clear hux
          refine hK.out _ _ ⟨⟨wj0, HJ1.out.more (by simp)⟩, rfl⟩ ?_
          clear hK K
          refine wpQuiet_then ?_
          refine wpS_take ?_
          simp only [pick3, List.map_cons, List.map_nil, List.getElem?_cons_zero, List.getElem?_cons_succ, Option.getD_some]
          repeat (go_big_quiet_step (with_reducible rfl))
          refine wpQuiet_nil ?_
          refine wpS_last ?_
          simp only [pick3, List.map_cons, List.map_nil, List.getElem?_cons_zero, List.getElem?_cons_succ, Option.getD_some]
          refine wpHeld_step rfl fun K hK => ?_
          go_simp
          obtain ⟨V, hV⟩ : ∃ V, V = wj0.heap.size := ⟨_, rfl⟩
          obtain ⟨W3, hW3⟩ : ∃ z, z = wj0.alloc (.cells #[.int .u32 z0, .int .u8 z1] 92) := ⟨_, rfl⟩
          have u3 : Upd [] wr W3 := HJ1.out.next (by rw [hW3]; exact (Upd.refl [] _).alloc _)
          have hVB : Blk W3 V 92 #[.int .u32 z0, .int .u8 z1] := by rw [hW3, hV]; exact Blk.new _ _ _
          rw [← hW3, ← hV]
          have HU3 := Lib.hid u3
          have HVB := Lib.hid hVB
          clear hV hW3 u3 hVB
          refine hK.out _ _ (.inr ⟨⟨W3, HU3.out.more (by simp)⟩, rfl⟩) ?_
          clear hK K
          refine wpHeld_list (fun Q1 hq => ?_)
          refine wpList_append_src W3 rfl (.tmp 204) (.tmp 214) 48 rfl w3.heap.size 92 j0 _ 2 8 Try.underlying48 hj0 hy0 hy1 hy2 rfl (by decide) (.slice A i c) i (((List.range i).map (fun i => askAt xs (8 + 8 * i))).flatMap encAsk) rfl (ownsRow_upd HOWN.out HU3.out (by simp)) (some ⟨V, 0, none⟩) 1 1 [.int .u32 z0, .int .u8 z1] rfl (fun e => by cases e) rfl (fun ad e => by obtain rfl := Option.some.inj e; exact blk_src HVB.out) (by intro v hv; simp at hv; repeat (first | (rcases hv with rfl | hv; · rfl) | (subst hv; rfl))) (by unfold maxLen; omega) (by omega) (by have := HU3.out.size; omega) ?_
          intro v1 w4 hown4 hg4 _
          obtain ⟨A', c', hv, _⟩ := own_form hown4
          subst hv
          have hu4 : Upd PB W3 w4 := by rw [HPB.out, ← own_listN A i c]; exact Upd.of_grown hg4
          have HOWN4 : Hid (w4.ownsRow w3.heap.size 92 2 (.slice A' (i + 1) c') (i + 1) (((List.range (i + 1)).map (fun i => askAt xs (8 + 8 * i))).flatMap encAsk)) := Lib.hid (by
            have h9 := hown4
            rw [show (((List.range (i + 1)).map (fun i => askAt xs (8 + 8 * i))).flatMap encAsk) = (((List.range i).map (fun i => askAt xs (8 + 8 * i))).flatMap encAsk) ++ [.int .u32 z0, .int .u8 z1] from by rw [List.range_succ, List.map_append, List.flatMap_append]; simp only [List.map_cons, List.map_nil, List.flatMap_cons, List.flatMap_nil, HRE.out]; rfl]
            exact h9)
          have HU4 := Lib.hid hu4
          refine hq.out _ _ (.inr ⟨⟨w4, (HU3.out.more (by simp)).next HU4.out⟩, rfl⟩) ?_
          refine wpHeld_step rfl fun K hK => ?_
          go_simp
          refine hK.out _ _ (.inr ⟨⟨w4, (HU3.out.more (by simp)).next HU4.out⟩, rfl⟩) ?_
          clear hK K
          clear hq Q1 hg4 hown4 hu4
          have hbT4 := (HBT.out.upd HU3.out (by simp)).upd HU4.out HTP.out.1
          have hbG4 := (HBG.out.upd HU3.out (by simp)).upd HU4.out HTP.out.2
          have HW4 : Hid (Upd [] w w4) := Lib.hid (by
            have h8 := HUR.out.next HU3.out
            exact Upd.of_below ((h8.below (Nat.le_refl _) (by simp)).trans (HU4.out.below h8.size (fun s hs => by
              rw [HPB.out] at hs
              have h9 := (own_block_lt HOWN.out (g := s) (by have := own_listN A i c; rw [← this] at hs; simpa using hs)).1
              have := HBS.out; have := HGX.out
              omega))))
          have m4 : w4.cell? ⟨G + 1, 10, none⟩ = some (.slice A i c) := hbT4.cell 10
          have f4 := hbT4.frozen 10
          obtain ⟨w5, hw5⟩ : ∃ z, z = w4.setCell ⟨G + 1, 10, none⟩ (.slice A' (i + 1) c') := ⟨_, rfl⟩
          have us5 : Upd [G + 1] w4 w5 := by rw [hw5]; exact (Upd.refl [G + 1] w4).setCell (.inl (by simp)) _
          have HFIN : Hid (Blk w5 (G + 1) 50 #[.int .i64 5, .int .u32 x0, .int .u32 x1, .int .u64 0, .int .u32 0, .int .u32 0, .int .u32 0, .slice none 0 0, .slice none 0 0, .slice none 0 0, .slice A' (i + 1) c', .int .u8 0] ∧ w5.ownsRow w3.heap.size 92 2 (.slice A' (i + 1) c') (i + 1) (((List.range (i + 1)).map (fun i => askAt xs (8 + 8 * i))).flatMap encAsk) ∧ Blk w5 G 50 #[.int .i64 0, .int .u32 0, .int .u32 0, .int .u64 0, .int .u32 0, .int .u32 0, .int .u32 0, .slice none 0 0, .slice none 0 0, .slice none 0 0, .slice none 0 0, .int .u8 0] ∧ Upd [] w w5 ∧ w3.heap.size ≤ w5.heap.size) := Lib.hid ⟨by rw [hw5]; exact hbT4.store 10 _, ownsRow_upd HOWN4.out us5 (fun s hs hg => by
            rw [List.mem_singleton] at hs
            subst hs
            have h9 := (own_block_lt HOWN4.out hg).1
            have := HBS.out
            omega), hbG4.upd us5 (by simp), HW4.out.box' us5 (by rw [HGX.out]; exact Nat.le_succ _), by have := HU3.out.size; have := HU4.out.size; have := us5.size; omega⟩
          have HW5 := Lib.hid hw5
          clear hbT4 hbG4 us5 hw5
          refine wpHeld_last ?_
          go_wp2
          rw [← HW5.out]
          clear kc
          go_roundg (gk - 1)
          case measure => have := HGI.out; omega
          case rel => exact ⟨i + 1, by omega, by have := HGI.out; omega, by have := HP.out; go_num, A', c', HFIN.out⟩
        · have him : i = m := by omega
          have hpl : ¬ ((p : Int) + 8 ≤ (xs.length : Int)) := by omega
          have HTw9 := Lib.hid hbT
          have HGw9 := Lib.hid hbG
          have HUw9 := Lib.hid hur
          have HO9 := Lib.hid hown
          obtain ⟨w9, rfl⟩ : ∃ z : World, z = wr := ⟨wr, rfl⟩
          have HIM : Hid (i = (xs.length - 8) / 8) := Lib.hid (by rw [him, hm])
          clear hbT hbG hur hown hgi hi hlt hp hm him
          by_cases kn : i = 0
          · have hkq : ((i : Int) == 0) = true := by rw [kn]; rfl
            have HE0 : Hid (r = (mZ, 11)) := Lib.hid (by rw [HRD.out, if_neg hs, if_pos (by rw [← HIM.out]; exact kn)])
            clear kn
            have lc : w9.cell? ⟨G + 1, 10, none⟩ = some (.slice A i c) := HTw9.out.cell 10
            have HE : Hid (r = (mZ, 11)) := Lib.hid (by exact HE0.out)
            obtain ⟨kx, ux⟩ := blk12g HGw9.out (.int .i64 0) (.int .u32 0) (.int .u32 0) (.int .u64 0) (.int .u32 0) (.int .u32 0) (.int .u32 0) (.slice none 0 0) (.slice none 0 0) (.slice none 0 0) (.slice none 0 0) (.int .u8 0)
            obtain ⟨wx, hwx⟩ : ∃ z, z = ((((((((((((w9.setCell ⟨G, 0, none⟩ (.int .i64 0)).setCell ⟨G, 1, none⟩ (.int .u32 0)).setCell ⟨G, 2, none⟩ (.int .u32 0)).setCell ⟨G, 3, none⟩ (.int .u64 0)).setCell ⟨G, 4, none⟩ (.int .u32 0)).setCell ⟨G, 5, none⟩ (.int .u32 0)).setCell ⟨G, 6, none⟩ (.int .u32 0)).setCell ⟨G, 7, none⟩ (.slice none 0 0)).setCell ⟨G, 8, none⟩ (.slice none 0 0)).setCell ⟨G, 9, none⟩ (.slice none 0 0)).setCell ⟨G, 10, none⟩ (.slice none 0 0)).setCell ⟨G, 11, none⟩ (.int .u8 0)) := ⟨_, rfl⟩
            rw [← hwx] at kx ux
            have HKX := Lib.hid kx
            have HUX : Hid (Upd [G] w9 wx) := Lib.hid ux
            have HFX : Hid (Upd [] w wx) := Lib.hid (HUw9.out.box' ux (by rw [HGX.out]; exact Nat.le_refl _))
            have HWX := Lib.hid hwx
            clear kx ux hwx
            have z0 : w9.cell? ⟨G, 0, none⟩ = some (.int .i64 0) := HGw9.out.cell 0
            have z1 : w9.cell? ⟨G, 1, none⟩ = some (.int .u32 0) := HGw9.out.cell 1
            have z2 : w9.cell? ⟨G, 2, none⟩ = some (.int .u32 0) := HGw9.out.cell 2
            have z3 : w9.cell? ⟨G, 3, none⟩ = some (.int .u64 0) := HGw9.out.cell 3
            have z4 : w9.cell? ⟨G, 4, none⟩ = some (.int .u32 0) := HGw9.out.cell 4
            have z5 : w9.cell? ⟨G, 5, none⟩ = some (.int .u32 0) := HGw9.out.cell 5
            have z6 : w9.cell? ⟨G, 6, none⟩ = some (.int .u32 0) := HGw9.out.cell 6
            have z7 : w9.cell? ⟨G, 7, none⟩ = some (.slice none 0 0) := HGw9.out.cell 7
            have z8 : w9.cell? ⟨G, 8, none⟩ = some (.slice none 0 0) := HGw9.out.cell 8
            have z9 : w9.cell? ⟨G, 9, none⟩ = some (.slice none 0 0) := HGw9.out.cell 9
            have z10 : w9.cell? ⟨G, 10, none⟩ = some (.slice none 0 0) := HGw9.out.cell 10
            have z11 : w9.cell? ⟨G, 11, none⟩ = some (.int .u8 0) := HGw9.out.cell 11
            have f0 := HGw9.out.frozen 0
            have f1 := HGw9.out.frozen 1
            have f2 := HGw9.out.frozen 2
            have f3 := HGw9.out.frozen 3
            have f4 := HGw9.out.frozen 4
            have f5 := HGw9.out.frozen 5
            have f6 := HGw9.out.frozen 6
            have f7 := HGw9.out.frozen 7
            have f8 := HGw9.out.frozen 8
            have f9 := HGw9.out.frozen 9
            have f10 := HGw9.out.frozen 10
            have f11 := HGw9.out.frozen 11
            go_wp2
            rw [← HWX.out]
            have g0 : wx.cell? ⟨G, 0, none⟩ = some (.int .i64 0) := HKX.out.cell 0
            have g1 : wx.cell? ⟨G, 1, none⟩ = some (.int .u32 0) := HKX.out.cell 1
            have g2 : wx.cell? ⟨G, 2, none⟩ = some (.int .u32 0) := HKX.out.cell 2
            have g3 : wx.cell? ⟨G, 3, none⟩ = some (.int .u64 0) := HKX.out.cell 3
            have g4 : wx.cell? ⟨G, 4, none⟩ = some (.int .u32 0) := HKX.out.cell 4
            have g5 : wx.cell? ⟨G, 5, none⟩ = some (.int .u32 0) := HKX.out.cell 5
            have g6 : wx.cell? ⟨G, 6, none⟩ = some (.int .u32 0) := HKX.out.cell 6
            have g7 : wx.cell? ⟨G, 7, none⟩ = some (.slice none 0 0) := HKX.out.cell 7
            have g8 : wx.cell? ⟨G, 8, none⟩ = some (.slice none 0 0) := HKX.out.cell 8
            have g9 : wx.cell? ⟨G, 9, none⟩ = some (.slice none 0 0) := HKX.out.cell 9
            have g10 : wx.cell? ⟨G, 10, none⟩ = some (.slice none 0 0) := HKX.out.cell 10
            have g11 : wx.cell? ⟨G, 11, none⟩ = some (.int .u8 0) := HKX.out.cell 11
            refine bodyPost_res (v := .tuple #[.agg #[.int .i64 0, .int .u32 0, .int .u32 0, .int .u64 0, .int .u32 0, .int .u32 0, .int .u32 0, .slice none 0 0, .slice none 0 0, .slice none 0 0, .slice none 0 0, .int .u8 0], .int .i64 11]) (by simp [results, Try.results32, go_sem, Addr.add, g0, g1, g2, g3, g4, g5, g6, g7, g8, g9, g10, g11]) rfl ?_
            exact ⟨hZ, by rw [HE.out]; rfl, by rw [HE.out]; exact ⟨CellsIn.nil _ _ _ _ _, CellsIn.nil _ _ _ _ _, CellsIn.nil _ _ _ _ _, CellsIn.nil _ _ _ _ _⟩, by rw [HE.out]; exact whoNew_nil rfl, HFX.out⟩
          · have HE : Hid (r = (⟨5, x0, x1, 0, 0, 0, 0, [], [], [], (List.range i).map (fun i => askAt xs (8 + 8 * i)), 0⟩, 0)) := Lib.hid (by rw [HRD.out, if_neg hs, if_neg (by rw [← HIM.out]; exact kn), ← HIM.out, HXx0.out, HXx1.out])
            have hkq : ((i : Int) == 0) = false := beq_eq_false_iff_ne.2 (by omega)
            clear kn
            obtain ⟨kx, ux⟩ := blk12g HGw9.out (.int .i64 5) (.int .u32 x0) (.int .u32 x1) (.int .u64 0) (.int .u32 0) (.int .u32 0) (.int .u32 0) (.slice none 0 0) (.slice none 0 0) (.slice none 0 0) (.slice A i c) (.int .u8 0)
            obtain ⟨wx, hwx⟩ : ∃ z, z = ((((((((((((w9.setCell ⟨G, 0, none⟩ (.int .i64 5)).setCell ⟨G, 1, none⟩ (.int .u32 x0)).setCell ⟨G, 2, none⟩ (.int .u32 x1)).setCell ⟨G, 3, none⟩ (.int .u64 0)).setCell ⟨G, 4, none⟩ (.int .u32 0)).setCell ⟨G, 5, none⟩ (.int .u32 0)).setCell ⟨G, 6, none⟩ (.int .u32 0)).setCell ⟨G, 7, none⟩ (.slice none 0 0)).setCell ⟨G, 8, none⟩ (.slice none 0 0)).setCell ⟨G, 9, none⟩ (.slice none 0 0)).setCell ⟨G, 10, none⟩ (.slice A i c)).setCell ⟨G, 11, none⟩ (.int .u8 0)) := ⟨_, rfl⟩
            rw [← hwx] at kx ux
            have HKX := Lib.hid kx
            have HUX : Hid (Upd [G] w9 wx) := Lib.hid ux
            have HFX : Hid (Upd [] w wx) := Lib.hid (HUw9.out.box' ux (by rw [HGX.out]; exact Nat.le_refl _))
            have HWX := Lib.hid hwx
            clear kx ux hwx
            have t0 : w9.cell? ⟨G + 1, 0, none⟩ = some (.int .i64 5) := HTw9.out.cell 0
            have t1 : w9.cell? ⟨G + 1, 1, none⟩ = some (.int .u32 x0) := HTw9.out.cell 1
            have t2 : w9.cell? ⟨G + 1, 2, none⟩ = some (.int .u32 x1) := HTw9.out.cell 2
            have t3 : w9.cell? ⟨G + 1, 3, none⟩ = some (.int .u64 0) := HTw9.out.cell 3
            have t4 : w9.cell? ⟨G + 1, 4, none⟩ = some (.int .u32 0) := HTw9.out.cell 4
            have t5 : w9.cell? ⟨G + 1, 5, none⟩ = some (.int .u32 0) := HTw9.out.cell 5
            have t6 : w9.cell? ⟨G + 1, 6, none⟩ = some (.int .u32 0) := HTw9.out.cell 6
            have t7 : w9.cell? ⟨G + 1, 7, none⟩ = some (.slice none 0 0) := HTw9.out.cell 7
            have t8 : w9.cell? ⟨G + 1, 8, none⟩ = some (.slice none 0 0) := HTw9.out.cell 8
            have t9 : w9.cell? ⟨G + 1, 9, none⟩ = some (.slice none 0 0) := HTw9.out.cell 9
            have t10 : w9.cell? ⟨G + 1, 10, none⟩ = some (.slice A i c) := HTw9.out.cell 10
            have t11 : w9.cell? ⟨G + 1, 11, none⟩ = some (.int .u8 0) := HTw9.out.cell 11
            have z0 : w9.cell? ⟨G, 0, none⟩ = some (.int .i64 0) := HGw9.out.cell 0
            have z1 : w9.cell? ⟨G, 1, none⟩ = some (.int .u32 0) := HGw9.out.cell 1
            have z2 : w9.cell? ⟨G, 2, none⟩ = some (.int .u32 0) := HGw9.out.cell 2
            have z3 : w9.cell? ⟨G, 3, none⟩ = some (.int .u64 0) := HGw9.out.cell 3
            have z4 : w9.cell? ⟨G, 4, none⟩ = some (.int .u32 0) := HGw9.out.cell 4
            have z5 : w9.cell? ⟨G, 5, none⟩ = some (.int .u32 0) := HGw9.out.cell 5
            have z6 : w9.cell? ⟨G, 6, none⟩ = some (.int .u32 0) := HGw9.out.cell 6
            have z7 : w9.cell? ⟨G, 7, none⟩ = some (.slice none 0 0) := HGw9.out.cell 7
            have z8 : w9.cell? ⟨G, 8, none⟩ = some (.slice none 0 0) := HGw9.out.cell 8
            have z9 : w9.cell? ⟨G, 9, none⟩ = some (.slice none 0 0) := HGw9.out.cell 9
            have z10 : w9.cell? ⟨G, 10, none⟩ = some (.slice none 0 0) := HGw9.out.cell 10
            have z11 : w9.cell? ⟨G, 11, none⟩ = some (.int .u8 0) := HGw9.out.cell 11
            have f0 := HGw9.out.frozen 0
            have f1 := HGw9.out.frozen 1
            have f2 := HGw9.out.frozen 2
            have f3 := HGw9.out.frozen 3
            have f4 := HGw9.out.frozen 4
            have f5 := HGw9.out.frozen 5
            have f6 := HGw9.out.frozen 6
            have f7 := HGw9.out.frozen 7
            have f8 := HGw9.out.frozen 8
            have f9 := HGw9.out.frozen 9
            have f10 := HGw9.out.frozen 10
            have f11 := HGw9.out.frozen 11
            go_wp2
            rw [← HWX.out]
            have g0 : wx.cell? ⟨G, 0, none⟩ = some (.int .i64 5) := HKX.out.cell 0
            have g1 : wx.cell? ⟨G, 1, none⟩ = some (.int .u32 x0) := HKX.out.cell 1
            have g2 : wx.cell? ⟨G, 2, none⟩ = some (.int .u32 x1) := HKX.out.cell 2
            have g3 : wx.cell? ⟨G, 3, none⟩ = some (.int .u64 0) := HKX.out.cell 3
            have g4 : wx.cell? ⟨G, 4, none⟩ = some (.int .u32 0) := HKX.out.cell 4
            have g5 : wx.cell? ⟨G, 5, none⟩ = some (.int .u32 0) := HKX.out.cell 5
            have g6 : wx.cell? ⟨G, 6, none⟩ = some (.int .u32 0) := HKX.out.cell 6
            have g7 : wx.cell? ⟨G, 7, none⟩ = some (.slice none 0 0) := HKX.out.cell 7
            have g8 : wx.cell? ⟨G, 8, none⟩ = some (.slice none 0 0) := HKX.out.cell 8
            have g9 : wx.cell? ⟨G, 9, none⟩ = some (.slice none 0 0) := HKX.out.cell 9
            have g10 : wx.cell? ⟨G, 10, none⟩ = some (.slice A i c) := HKX.out.cell 10
            have g11 : wx.cell? ⟨G, 11, none⟩ = some (.int .u8 0) := HKX.out.cell 11
            refine bodyPost_res (v := .tuple #[.agg #[.int .i64 5, .int .u32 x0, .int .u32 x1, .int .u64 0, .int .u32 0, .int .u32 0, .int .u32 0, .slice none 0 0, .slice none 0 0, .slice none 0 0, .slice A i c, .int .u8 0], .int .i64 0]) (by simp [results, Try.results32, go_sem, Addr.add, g0, g1, g2, g3, g4, g5, g6, g7, g8, g9, g10, g11]) rfl ?_
            have ho := ownsRow_upd HO9.out HUX.out (fun s hs hg => by
              rw [List.mem_singleton] at hs
              subst hs
              have h9 := (own_block_lt HO9.out hg).1
              have := HBS.out
              omega)
            refine ⟨⟨none, 0, none, 0, none, 0, A, c⟩, ?_, ?_, by rw [HE.out]; exact whoNew_nil rfl, HFX.out⟩
            · rw [HE.out]
              unfold mcells
              simp
            · rw [HE.out]
              refine ⟨CellsIn.nil _ _ _ _ _, CellsIn.nil _ _ _ _ _, CellsIn.nil _ _ _ _ _, ?_⟩
              dsimp only
              rw [List.length_map, List.length_range]
              exact (CellsIn.of_own ho).more (by have := HUw3.out.size; omega) (Nat.le_refl _)
end Go.Proofs.Ytgkejdjdccgjbaa
/- A body's message by the document (louverref09.read), arm 'o6'. Conditions: bytes, and which arm. -/
namespace Go.Proofs.Ytgkejdjdccgjbaa
open Go Go.RowKit
set_option maxHeartbeats 400000
set_option maxRecDepth 100000 in
set_option maxHeartbeats 16000000 in
theorem rread_o6 (w : World) (kd : Int) (n : Nat) (xs : List Int) (hk : 0 ≤ kd ∧ kd ≤ 255) (_hn : n ≤ 31) (hb : Byt xs) (hl : xs.length ≤ 100000) (k0 : ¬ kd = 200) (k1 : ¬ kd = 201) (k2 : ¬ kd = 203) (k3 : kd = 206) (kn : ¬ n = 1) (kn4 : ¬ n = 4) :
    Calls Try.prog 32 #[.int .i64 kd, .int .i64 n, .string (strOfNums xs)] w fun e w' => ∃ hd, e = .returned (.tuple #[.agg (mcells (readM kd n xs).1 hd).toArray, .int .i64 (readM kd n xs).2]) ∧ RfIn w' w.heap.size (readM kd n xs).1 hd ∧ WhoNew w.heap.size (readM kd n xs).1 hd ∧ Upd [] w w' := by
  have Hk0 := Lib.hid k0
  have Hk1 := Lib.hid k1
  have Hk2 := Lib.hid k2
  have Hk3 := Lib.hid k3
  have Hkn := Lib.hid kn
  have Hkn4 := Lib.hid kn4
  clear k0 k1 k2 k3 kn kn4
  rw [read_direct]
  obtain ⟨r, hr⟩ : ∃ r, r = readD kd n xs := ⟨_, rfl⟩
  rw [← hr]
  have HR := Lib.hid hr
  have HBY := Lib.hid hb
  obtain ⟨G, hG⟩ : ∃ G, G = w.heap.size := ⟨_, rfl⟩
  obtain ⟨W1, hW1⟩ : ∃ W, W = w.alloc (.cells #[.int .i64 0, .int .u32 0, .int .u32 0, .int .u64 0, .int .u32 0, .int .u32 0, .int .u32 0, .slice none 0 0, .slice none 0 0, .slice none 0 0, .slice none 0 0, .int .u8 0] 50) := ⟨_, rfl⟩
  obtain ⟨W, hW⟩ : ∃ W, W = W1.alloc (.cells #[.int .i64 6, .int .u32 0, .int .u32 0, .int .u64 0, .int .u32 0, .int .u32 0, .int .u32 0, .slice none 0 0, .slice none 0 0, .slice none 0 0, .slice none 0 0, .int .u8 kd] 50) := ⟨_, rfl⟩
  have u1 : Upd [] w W1 := by rw [hW1]; exact (Upd.refl [] w).alloc _
  have u2 : Upd [] W1 W := by rw [hW]; exact (Upd.refl [] W1).alloc _
  have s1 : W1.heap.size = G + 1 := by rw [hW1, World.size_alloc, hG]
  have HGW : Hid (Blk W G 50 #[.int .i64 0, .int .u32 0, .int .u32 0, .int .u64 0, .int .u32 0, .int .u32 0, .int .u32 0, .slice none 0 0, .slice none 0 0, .slice none 0 0, .slice none 0 0, .int .u8 0]) := Lib.hid (by
    have : Blk W1 G 50 #[.int .i64 0, .int .u32 0, .int .u32 0, .int .u64 0, .int .u32 0, .int .u32 0, .int .u32 0, .slice none 0 0, .slice none 0 0, .slice none 0 0, .slice none 0 0, .int .u8 0] := by rw [hW1, hG]; exact Blk.new _ _ _
    exact this.upd u2 (by simp))
  have HTW : Hid (Blk W (G + 1) 50 #[.int .i64 6, .int .u32 0, .int .u32 0, .int .u64 0, .int .u32 0, .int .u32 0, .int .u32 0, .slice none 0 0, .slice none 0 0, .slice none 0 0, .slice none 0 0, .int .u8 kd]) := Lib.hid (by rw [hW, ← s1]; exact Blk.new _ _ _)
  have HUW := Lib.hid (u1.next u2)
  have HGX := Lib.hid hG
  have hcv : IntKind.u8.wrap kd = kd := by unfold IntKind.wrap; simp [IntKind.bits, IntKind.signed]; omega
  have hsz : (strOfNums xs).size = xs.length := strOfNums_size xs
  clear hr hb u1 u2
  go_enter Try.func32, Try.ntmps32
  go_upto_region 1 with fail
  rw [← hW1, ← hG]
  clear hW1 hG
  go_upto_region 2 with fail
  rw [← hW]
  clear hW hcv
  have k0 := Hk0.out
  have k1 := Hk1.out
  have k2 := Hk2.out
  have k3 := Hk3.out
  have kn := Hkn.out
  have kn4 := Hkn4.out
  clear Hk0 Hk1 Hk2 Hk3 Hkn Hkn4
  have k' : (206 : Int) = kd := k3.symm
  subst k'
  clear k0 k1 k2 k3
  have HRD : Hid (r = (⟨6, 0, 0, 0, 0, 0, 0, [], [], [], [], 206⟩, 0)) := Lib.hid (by rw [HR.out]; unfold readD; rw [show kindM 206 n = 6 from by unfold kindM; simp; omega]; simp)
  have hn1 : ((n : Int) == 1) = false := beq_eq_false_iff_ne.2 (by omega)
  have hn4 : ((n : Int) == 4) = false := beq_eq_false_iff_ne.2 (by omega)
  clear kn kn4
  have hsi : ¬ ((xs.length : Int) < 0) := by omega
  obtain ⟨kx, ux⟩ := blk12g HGW.out (.int .i64 6) (.int .u32 0) (.int .u32 0) (.int .u64 0) (.int .u32 0) (.int .u32 0) (.int .u32 0) (.slice none 0 0) (.slice none 0 0) (.slice none 0 0) (.slice none 0 0) (.int .u8 206)
  obtain ⟨wx, hwx⟩ : ∃ z, z = ((((((((((((W.setCell ⟨G, 0, none⟩ (.int .i64 6)).setCell ⟨G, 1, none⟩ (.int .u32 0)).setCell ⟨G, 2, none⟩ (.int .u32 0)).setCell ⟨G, 3, none⟩ (.int .u64 0)).setCell ⟨G, 4, none⟩ (.int .u32 0)).setCell ⟨G, 5, none⟩ (.int .u32 0)).setCell ⟨G, 6, none⟩ (.int .u32 0)).setCell ⟨G, 7, none⟩ (.slice none 0 0)).setCell ⟨G, 8, none⟩ (.slice none 0 0)).setCell ⟨G, 9, none⟩ (.slice none 0 0)).setCell ⟨G, 10, none⟩ (.slice none 0 0)).setCell ⟨G, 11, none⟩ (.int .u8 206)) := ⟨_, rfl⟩
  rw [← hwx] at kx ux
  have HKX := Lib.hid kx
  have HUX : Hid (Upd [G] W wx) := Lib.hid ux
  have HFX : Hid (Upd [] w wx) := Lib.hid (HUW.out.box' ux (by rw [HGX.out]; exact Nat.le_refl _))
  have HWX := Lib.hid hwx
  clear kx ux hwx
  have t0 : W.cell? ⟨G + 1, 0, none⟩ = some (.int .i64 6) := HTW.out.cell 0
  have t1 : W.cell? ⟨G + 1, 1, none⟩ = some (.int .u32 0) := HTW.out.cell 1
  have t2 : W.cell? ⟨G + 1, 2, none⟩ = some (.int .u32 0) := HTW.out.cell 2
  have t3 : W.cell? ⟨G + 1, 3, none⟩ = some (.int .u64 0) := HTW.out.cell 3
  have t4 : W.cell? ⟨G + 1, 4, none⟩ = some (.int .u32 0) := HTW.out.cell 4
  have t5 : W.cell? ⟨G + 1, 5, none⟩ = some (.int .u32 0) := HTW.out.cell 5
  have t6 : W.cell? ⟨G + 1, 6, none⟩ = some (.int .u32 0) := HTW.out.cell 6
  have t7 : W.cell? ⟨G + 1, 7, none⟩ = some (.slice none 0 0) := HTW.out.cell 7
  have t8 : W.cell? ⟨G + 1, 8, none⟩ = some (.slice none 0 0) := HTW.out.cell 8
  have t9 : W.cell? ⟨G + 1, 9, none⟩ = some (.slice none 0 0) := HTW.out.cell 9
  have t10 : W.cell? ⟨G + 1, 10, none⟩ = some (.slice none 0 0) := HTW.out.cell 10
  have t11 : W.cell? ⟨G + 1, 11, none⟩ = some (.int .u8 206) := HTW.out.cell 11
  have z0 : W.cell? ⟨G, 0, none⟩ = some (.int .i64 0) := HGW.out.cell 0
  have z1 : W.cell? ⟨G, 1, none⟩ = some (.int .u32 0) := HGW.out.cell 1
  have z2 : W.cell? ⟨G, 2, none⟩ = some (.int .u32 0) := HGW.out.cell 2
  have z3 : W.cell? ⟨G, 3, none⟩ = some (.int .u64 0) := HGW.out.cell 3
  have z4 : W.cell? ⟨G, 4, none⟩ = some (.int .u32 0) := HGW.out.cell 4
  have z5 : W.cell? ⟨G, 5, none⟩ = some (.int .u32 0) := HGW.out.cell 5
  have z6 : W.cell? ⟨G, 6, none⟩ = some (.int .u32 0) := HGW.out.cell 6
  have z7 : W.cell? ⟨G, 7, none⟩ = some (.slice none 0 0) := HGW.out.cell 7
  have z8 : W.cell? ⟨G, 8, none⟩ = some (.slice none 0 0) := HGW.out.cell 8
  have z9 : W.cell? ⟨G, 9, none⟩ = some (.slice none 0 0) := HGW.out.cell 9
  have z10 : W.cell? ⟨G, 10, none⟩ = some (.slice none 0 0) := HGW.out.cell 10
  have z11 : W.cell? ⟨G, 11, none⟩ = some (.int .u8 0) := HGW.out.cell 11
  have f0 := HGW.out.frozen 0
  have f1 := HGW.out.frozen 1
  have f2 := HGW.out.frozen 2
  have f3 := HGW.out.frozen 3
  have f4 := HGW.out.frozen 4
  have f5 := HGW.out.frozen 5
  have f6 := HGW.out.frozen 6
  have f7 := HGW.out.frozen 7
  have f8 := HGW.out.frozen 8
  have f9 := HGW.out.frozen 9
  have f10 := HGW.out.frozen 10
  have f11 := HGW.out.frozen 11
  go_wp2
  rw [← HWX.out]
  have g0 : wx.cell? ⟨G, 0, none⟩ = some (.int .i64 6) := HKX.out.cell 0
  have g1 : wx.cell? ⟨G, 1, none⟩ = some (.int .u32 0) := HKX.out.cell 1
  have g2 : wx.cell? ⟨G, 2, none⟩ = some (.int .u32 0) := HKX.out.cell 2
  have g3 : wx.cell? ⟨G, 3, none⟩ = some (.int .u64 0) := HKX.out.cell 3
  have g4 : wx.cell? ⟨G, 4, none⟩ = some (.int .u32 0) := HKX.out.cell 4
  have g5 : wx.cell? ⟨G, 5, none⟩ = some (.int .u32 0) := HKX.out.cell 5
  have g6 : wx.cell? ⟨G, 6, none⟩ = some (.int .u32 0) := HKX.out.cell 6
  have g7 : wx.cell? ⟨G, 7, none⟩ = some (.slice none 0 0) := HKX.out.cell 7
  have g8 : wx.cell? ⟨G, 8, none⟩ = some (.slice none 0 0) := HKX.out.cell 8
  have g9 : wx.cell? ⟨G, 9, none⟩ = some (.slice none 0 0) := HKX.out.cell 9
  have g10 : wx.cell? ⟨G, 10, none⟩ = some (.slice none 0 0) := HKX.out.cell 10
  have g11 : wx.cell? ⟨G, 11, none⟩ = some (.int .u8 206) := HKX.out.cell 11
  refine bodyPost_res (v := .tuple #[.agg #[.int .i64 6, .int .u32 0, .int .u32 0, .int .u64 0, .int .u32 0, .int .u32 0, .int .u32 0, .slice none 0 0, .slice none 0 0, .slice none 0 0, .slice none 0 0, .int .u8 206], .int .i64 0]) (by simp [results, Try.results32, go_sem, Addr.add, g0, g1, g2, g3, g4, g5, g6, g7, g8, g9, g10, g11]) rfl ?_
  exact ⟨hZ, by rw [HRD.out]; rfl, by rw [HRD.out]; exact ⟨CellsIn.nil _ _ _ _ _, CellsIn.nil _ _ _ _ _, CellsIn.nil _ _ _ _ _, CellsIn.nil _ _ _ _ _⟩, by rw [HRD.out]; exact whoNew_nil rfl, HFX.out⟩
end Go.Proofs.Ytgkejdjdccgjbaa
/- A body's message by the document (louverref09.read), arm 'nack'. Conditions: bytes, and which arm. -/
namespace Go.Proofs.Ytgkejdjdccgjbaa
open Go Go.RowKit
set_option maxHeartbeats 400000
set_option maxRecDepth 100000 in
set_option maxHeartbeats 16000000 in
theorem rread_nack (w : World) (kd : Int) (n : Nat) (xs : List Int) (hk : 0 ≤ kd ∧ kd ≤ 255) (hn : n ≤ 31) (hb : Byt xs) (hl : xs.length ≤ 100000) (k0 : ¬ kd = 200) (k1 : ¬ kd = 201) (k2 : ¬ kd = 203) (k3 : ¬ kd = 206) (k5 : kd = 205) (kn : n = 1) :
    Calls Try.prog 32 #[.int .i64 kd, .int .i64 n, .string (strOfNums xs)] w fun e w' => ∃ hd, e = .returned (.tuple #[.agg (mcells (readM kd n xs).1 hd).toArray, .int .i64 (readM kd n xs).2]) ∧ RfIn w' w.heap.size (readM kd n xs).1 hd ∧ WhoNew w.heap.size (readM kd n xs).1 hd ∧ Upd [] w w' := by
  have Hk0 := Lib.hid k0
  have Hk1 := Lib.hid k1
  have Hk2 := Lib.hid k2
  have Hk3 := Lib.hid k3
  have Hk5 := Lib.hid k5
  have Hkn := Lib.hid kn
  clear k0 k1 k2 k3 k5 kn
  rw [read_direct]
  obtain ⟨r, hr⟩ : ∃ r, r = readD kd n xs := ⟨_, rfl⟩
  rw [← hr]
  have HR := Lib.hid hr
  have HBY := Lib.hid hb
  obtain ⟨G, hG⟩ : ∃ G, G = w.heap.size := ⟨_, rfl⟩
  obtain ⟨W1, hW1⟩ : ∃ W, W = w.alloc (.cells #[.int .i64 0, .int .u32 0, .int .u32 0, .int .u64 0, .int .u32 0, .int .u32 0, .int .u32 0, .slice none 0 0, .slice none 0 0, .slice none 0 0, .slice none 0 0, .int .u8 0] 50) := ⟨_, rfl⟩
  obtain ⟨W, hW⟩ : ∃ W, W = W1.alloc (.cells #[.int .i64 6, .int .u32 0, .int .u32 0, .int .u64 0, .int .u32 0, .int .u32 0, .int .u32 0, .slice none 0 0, .slice none 0 0, .slice none 0 0, .slice none 0 0, .int .u8 kd] 50) := ⟨_, rfl⟩
  have u1 : Upd [] w W1 := by rw [hW1]; exact (Upd.refl [] w).alloc _
  have u2 : Upd [] W1 W := by rw [hW]; exact (Upd.refl [] W1).alloc _
  have s1 : W1.heap.size = G + 1 := by rw [hW1, World.size_alloc, hG]
  have HGW : Hid (Blk W G 50 #[.int .i64 0, .int .u32 0, .int .u32 0, .int .u64 0, .int .u32 0, .int .u32 0, .int .u32 0, .slice none 0 0, .slice none 0 0, .slice none 0 0, .slice none 0 0, .int .u8 0]) := Lib.hid (by
    have : Blk W1 G 50 #[.int .i64 0, .int .u32 0, .int .u32 0, .int .u64 0, .int .u32 0, .int .u32 0, .int .u32 0, .slice none 0 0, .slice none 0 0, .slice none 0 0, .slice none 0 0, .int .u8 0] := by rw [hW1, hG]; exact Blk.new _ _ _
    exact this.upd u2 (by simp))
  have HTW : Hid (Blk W (G + 1) 50 #[.int .i64 6, .int .u32 0, .int .u32 0, .int .u64 0, .int .u32 0, .int .u32 0, .int .u32 0, .slice none 0 0, .slice none 0 0, .slice none 0 0, .slice none 0 0, .int .u8 kd]) := Lib.hid (by rw [hW, ← s1]; exact Blk.new _ _ _)
  have HUW := Lib.hid (u1.next u2)
  have HGX := Lib.hid hG
  have hcv : IntKind.u8.wrap kd = kd := by unfold IntKind.wrap; simp [IntKind.bits, IntKind.signed]; omega
  have hsz : (strOfNums xs).size = xs.length := strOfNums_size xs
  clear hr hb u1 u2
  go_enter Try.func32, Try.ntmps32
  go_upto_region 1 with fail
  rw [← hW1, ← hG]
  clear hW1 hG
  go_upto_region 2 with fail
  rw [← hW]
  clear hW hcv
  have k0 := Hk0.out
  have k1 := Hk1.out
  have k2 := Hk2.out
  have k3 := Hk3.out
  have k5 := Hk5.out
  have kn := Hkn.out
  clear Hk0 Hk1 Hk2 Hk3 Hk5 Hkn
  have k' : (205 : Int) = kd := k5.symm
  subst k'
  obtain rfl : n = 1 := kn
  clear k0 k1 k2 k3 k5
  obtain ⟨kw1, uw1⟩ := blk12 HTW.out (.int .i64 3) (.int .u32 0) (.int .u32 0) (.int .u64 0) (.int .u32 0) (.int .u32 0) (.int .u32 0) (.slice none 0 0) (.slice none 0 0) (.slice none 0 0) (.slice none 0 0) (.int .u8 0)
  obtain ⟨w1, hww1⟩ : ∃ z, z = ((((((((((((W.setCell ⟨G + 1, 0, none⟩ (.int .i64 3)).setCell ⟨G + 1, 1, none⟩ (.int .u32 0)).setCell ⟨G + 1, 2, none⟩ (.int .u32 0)).setCell ⟨G + 1, 3, none⟩ (.int .u64 0)).setCell ⟨G + 1, 4, none⟩ (.int .u32 0)).setCell ⟨G + 1, 5, none⟩ (.int .u32 0)).setCell ⟨G + 1, 6, none⟩ (.int .u32 0)).setCell ⟨G + 1, 7, none⟩ (.slice none 0 0)).setCell ⟨G + 1, 8, none⟩ (.slice none 0 0)).setCell ⟨G + 1, 9, none⟩ (.slice none 0 0)).setCell ⟨G + 1, 10, none⟩ (.slice none 0 0)).setCell ⟨G + 1, 11, none⟩ (.int .u8 0)) := ⟨_, rfl⟩
  rw [← hww1] at kw1 uw1
  have HTw1 := Lib.hid kw1
  have HGw1 := Lib.hid (HGW.out.upd uw1 (by simp))
  have HUw1 : Hid (Upd [] w w1) := Lib.hid (HUW.out.box' uw1 (by rw [HGX.out]; exact Nat.le_succ _))
  have HWw1 := Lib.hid hww1
  clear kw1 uw1 hww1
  have t0 : W.cell? ⟨G + 1, 0, none⟩ = some (.int .i64 6) := HTW.out.cell 0
  have t1 : W.cell? ⟨G + 1, 1, none⟩ = some (.int .u32 0) := HTW.out.cell 1
  have t2 : W.cell? ⟨G + 1, 2, none⟩ = some (.int .u32 0) := HTW.out.cell 2
  have t3 : W.cell? ⟨G + 1, 3, none⟩ = some (.int .u64 0) := HTW.out.cell 3
  have t4 : W.cell? ⟨G + 1, 4, none⟩ = some (.int .u32 0) := HTW.out.cell 4
  have t5 : W.cell? ⟨G + 1, 5, none⟩ = some (.int .u32 0) := HTW.out.cell 5
  have t6 : W.cell? ⟨G + 1, 6, none⟩ = some (.int .u32 0) := HTW.out.cell 6
  have t7 : W.cell? ⟨G + 1, 7, none⟩ = some (.slice none 0 0) := HTW.out.cell 7
  have t8 : W.cell? ⟨G + 1, 8, none⟩ = some (.slice none 0 0) := HTW.out.cell 8
  have t9 : W.cell? ⟨G + 1, 9, none⟩ = some (.slice none 0 0) := HTW.out.cell 9
  have t10 : W.cell? ⟨G + 1, 10, none⟩ = some (.slice none 0 0) := HTW.out.cell 10
  have t11 : W.cell? ⟨G + 1, 11, none⟩ = some (.int .u8 205) := HTW.out.cell 11
  have f0 := HTW.out.frozen 0
  have f1 := HTW.out.frozen 1
  have f2 := HTW.out.frozen 2
  have f3 := HTW.out.frozen 3
  have f4 := HTW.out.frozen 4
  have f5 := HTW.out.frozen 5
  have f6 := HTW.out.frozen 6
  have f7 := HTW.out.frozen 7
  have f8 := HTW.out.frozen 8
  have f9 := HTW.out.frozen 9
  have f10 := HTW.out.frozen 10
  have f11 := HTW.out.frozen 11
  go_upto_region 17 with fail
  rw [← HWw1.out]
  clear t0 t1 t2 t3 t4 t5 t6 t7 t8 t9 t10 t11 f0 f1 f2 f3 f4 f5 f6 f7 f8 f9 f10 f11
  have HRD : Hid (r = if xs.length < 8 then (mZ, 10) else if (xs.length - 8) / 4 = 0 then (mZ, 11) else (⟨3, nAt xs 0 4, nAt xs 4 4, 0, 0, 0, 0, [], [], (List.range ((xs.length - 8) / 4)).map (fun i => pairAt xs (8 + 4 * i)), [], 0⟩, 0)) := Lib.hid (by rw [HR.out]; rfl)
  by_cases hs : xs.length < 8
  · have hsi : (xs.length : Int) < 8 := by omega
    have HE : Hid (r = (mZ, 10)) := Lib.hid (by rw [HRD.out, if_pos hs])
    obtain ⟨kx, ux⟩ := blk12g HGw1.out (.int .i64 0) (.int .u32 0) (.int .u32 0) (.int .u64 0) (.int .u32 0) (.int .u32 0) (.int .u32 0) (.slice none 0 0) (.slice none 0 0) (.slice none 0 0) (.slice none 0 0) (.int .u8 0)
    obtain ⟨wx, hwx⟩ : ∃ z, z = ((((((((((((w1.setCell ⟨G, 0, none⟩ (.int .i64 0)).setCell ⟨G, 1, none⟩ (.int .u32 0)).setCell ⟨G, 2, none⟩ (.int .u32 0)).setCell ⟨G, 3, none⟩ (.int .u64 0)).setCell ⟨G, 4, none⟩ (.int .u32 0)).setCell ⟨G, 5, none⟩ (.int .u32 0)).setCell ⟨G, 6, none⟩ (.int .u32 0)).setCell ⟨G, 7, none⟩ (.slice none 0 0)).setCell ⟨G, 8, none⟩ (.slice none 0 0)).setCell ⟨G, 9, none⟩ (.slice none 0 0)).setCell ⟨G, 10, none⟩ (.slice none 0 0)).setCell ⟨G, 11, none⟩ (.int .u8 0)) := ⟨_, rfl⟩
    rw [← hwx] at kx ux
    have HKX := Lib.hid kx
    have HUX : Hid (Upd [G] w1 wx) := Lib.hid ux
    have HFX : Hid (Upd [] w wx) := Lib.hid (HUw1.out.box' ux (by rw [HGX.out]; exact Nat.le_refl _))
    have HWX := Lib.hid hwx
    clear kx ux hwx
    have z0 : w1.cell? ⟨G, 0, none⟩ = some (.int .i64 0) := HGw1.out.cell 0
    have z1 : w1.cell? ⟨G, 1, none⟩ = some (.int .u32 0) := HGw1.out.cell 1
    have z2 : w1.cell? ⟨G, 2, none⟩ = some (.int .u32 0) := HGw1.out.cell 2
    have z3 : w1.cell? ⟨G, 3, none⟩ = some (.int .u64 0) := HGw1.out.cell 3
    have z4 : w1.cell? ⟨G, 4, none⟩ = some (.int .u32 0) := HGw1.out.cell 4
    have z5 : w1.cell? ⟨G, 5, none⟩ = some (.int .u32 0) := HGw1.out.cell 5
    have z6 : w1.cell? ⟨G, 6, none⟩ = some (.int .u32 0) := HGw1.out.cell 6
    have z7 : w1.cell? ⟨G, 7, none⟩ = some (.slice none 0 0) := HGw1.out.cell 7
    have z8 : w1.cell? ⟨G, 8, none⟩ = some (.slice none 0 0) := HGw1.out.cell 8
    have z9 : w1.cell? ⟨G, 9, none⟩ = some (.slice none 0 0) := HGw1.out.cell 9
    have z10 : w1.cell? ⟨G, 10, none⟩ = some (.slice none 0 0) := HGw1.out.cell 10
    have z11 : w1.cell? ⟨G, 11, none⟩ = some (.int .u8 0) := HGw1.out.cell 11
    have f0 := HGw1.out.frozen 0
    have f1 := HGw1.out.frozen 1
    have f2 := HGw1.out.frozen 2
    have f3 := HGw1.out.frozen 3
    have f4 := HGw1.out.frozen 4
    have f5 := HGw1.out.frozen 5
    have f6 := HGw1.out.frozen 6
    have f7 := HGw1.out.frozen 7
    have f8 := HGw1.out.frozen 8
    have f9 := HGw1.out.frozen 9
    have f10 := HGw1.out.frozen 10
    have f11 := HGw1.out.frozen 11
    go_wp2
    rw [← HWX.out]
    have g0 : wx.cell? ⟨G, 0, none⟩ = some (.int .i64 0) := HKX.out.cell 0
    have g1 : wx.cell? ⟨G, 1, none⟩ = some (.int .u32 0) := HKX.out.cell 1
    have g2 : wx.cell? ⟨G, 2, none⟩ = some (.int .u32 0) := HKX.out.cell 2
    have g3 : wx.cell? ⟨G, 3, none⟩ = some (.int .u64 0) := HKX.out.cell 3
    have g4 : wx.cell? ⟨G, 4, none⟩ = some (.int .u32 0) := HKX.out.cell 4
    have g5 : wx.cell? ⟨G, 5, none⟩ = some (.int .u32 0) := HKX.out.cell 5
    have g6 : wx.cell? ⟨G, 6, none⟩ = some (.int .u32 0) := HKX.out.cell 6
    have g7 : wx.cell? ⟨G, 7, none⟩ = some (.slice none 0 0) := HKX.out.cell 7
    have g8 : wx.cell? ⟨G, 8, none⟩ = some (.slice none 0 0) := HKX.out.cell 8
    have g9 : wx.cell? ⟨G, 9, none⟩ = some (.slice none 0 0) := HKX.out.cell 9
    have g10 : wx.cell? ⟨G, 10, none⟩ = some (.slice none 0 0) := HKX.out.cell 10
    have g11 : wx.cell? ⟨G, 11, none⟩ = some (.int .u8 0) := HKX.out.cell 11
    refine bodyPost_res (v := .tuple #[.agg #[.int .i64 0, .int .u32 0, .int .u32 0, .int .u64 0, .int .u32 0, .int .u32 0, .int .u32 0, .slice none 0 0, .slice none 0 0, .slice none 0 0, .slice none 0 0, .int .u8 0], .int .i64 10]) (by simp [results, Try.results32, go_sem, Addr.add, g0, g1, g2, g3, g4, g5, g6, g7, g8, g9, g10, g11]) rfl ?_
    exact ⟨hZ, by rw [HE.out]; rfl, by rw [HE.out]; exact ⟨CellsIn.nil _ _ _ _ _, CellsIn.nil _ _ _ _ _, CellsIn.nil _ _ _ _ _, CellsIn.nil _ _ _ _ _⟩, by rw [HE.out]; exact whoNew_nil rfl, HFX.out⟩
  · have hsi : ¬ ((xs.length : Int) < 8) := by omega
    have kc : w1.cell? ⟨G + 1, 0, none⟩ = some (.int .i64 3) := HTw1.out.cell 0
    obtain ⟨x0, hx0⟩ : ∃ v, v = nAt xs 0 4 := ⟨_, rfl⟩
    have bx0 : 0 ≤ x0 ∧ x0 ≤ 4294967295 := by rw [hx0]; exact nAt_lt HBY.out 0 4 4294967295 (by decide)
    have HNx0 : Hid (∀ W : World, Calls Try.prog 31 #[.string (strOfNums xs), .int .i64 0, .int .i64 4] W fun e w' => e = .returned (.int .u64 x0) ∧ Upd [] W w') := Lib.hid (fun W => by rw [hx0]; exact dnumat_any W xs 0 4 (by decide) (by decide) (by omega) HBY.out (by omega))
    have HXx0 := Lib.hid hx0
    clear hx0
    have wx0 : IntKind.u32.wrap x0 = x0 := by unfold IntKind.wrap; simp [IntKind.bits, IntKind.signed]; omega
    go_wp2_with fail
    refine (HNx0.out _).mono ?_
    rintro _ w2a ⟨rfl, hux⟩
    have HTw2a := Lib.hid (HTw1.out.upd hux (by simp))
    have HGw2a := Lib.hid (HGw1.out.upd hux (by simp))
    have HUw2a := Lib.hid (HUw1.out.next hux)
    clear hux
    obtain ⟨w2, hww2⟩ : ∃ z, z = w2a.setCell ⟨G + 1, 1, none⟩ (.int .u32 x0) := ⟨_, rfl⟩
    have uw2 : Upd [G + 1] w2a w2 := by rw [hww2]; exact (Upd.refl [G + 1] w2a).setCell (.inl (by simp)) _
    have HTw2 : Hid (Blk w2 (G + 1) 50 #[.int .i64 3, .int .u32 x0, .int .u32 0, .int .u64 0, .int .u32 0, .int .u32 0, .int .u32 0, .slice none 0 0, .slice none 0 0, .slice none 0 0, .slice none 0 0, .int .u8 0]) := Lib.hid (by rw [hww2]; exact HTw2a.out.store 1 _)
    have HGw2 := Lib.hid (HGw2a.out.upd uw2 (by simp))
    have HUw2 : Hid (Upd [] w w2) := Lib.hid (HUw2a.out.box' uw2 (by rw [HGX.out]; exact Nat.le_succ _))
    have HWw2 := Lib.hid hww2
    clear uw2 hww2
    have t0 : w2a.cell? ⟨G + 1, 1, none⟩ = some (.int .u32 0) := HTw2a.out.cell 1
    have f0 := HTw2a.out.frozen 1
    go_upto_region 34 with fail
    rw [← HWw2.out]
    clear t0 f0
    clear wx0
    clear kc
    have kc : w2.cell? ⟨G + 1, 0, none⟩ = some (.int .i64 3) := HTw2.out.cell 0
    obtain ⟨x1, hx1⟩ : ∃ v, v = nAt xs 4 4 := ⟨_, rfl⟩
    have bx1 : 0 ≤ x1 ∧ x1 ≤ 4294967295 := by rw [hx1]; exact nAt_lt HBY.out 4 4 4294967295 (by decide)
    have HNx1 : Hid (∀ W : World, Calls Try.prog 31 #[.string (strOfNums xs), .int .i64 4, .int .i64 4] W fun e w' => e = .returned (.int .u64 x1) ∧ Upd [] W w') := Lib.hid (fun W => by rw [hx1]; exact dnumat_any W xs 4 4 (by decide) (by decide) (by omega) HBY.out (by omega))
    have HXx1 := Lib.hid hx1
    clear hx1
    have wx1 : IntKind.u32.wrap x1 = x1 := by unfold IntKind.wrap; simp [IntKind.bits, IntKind.signed]; omega
    go_wp2_with fail
    refine (HNx1.out _).mono ?_
    rintro _ w3a ⟨rfl, hux⟩
    have HTw3a := Lib.hid (HTw2.out.upd hux (by simp))
    have HGw3a := Lib.hid (HGw2.out.upd hux (by simp))
    have HUw3a := Lib.hid (HUw2.out.next hux)
    clear hux
    obtain ⟨w3, hww3⟩ : ∃ z, z = w3a.setCell ⟨G + 1, 2, none⟩ (.int .u32 x1) := ⟨_, rfl⟩
    have uw3 : Upd [G + 1] w3a w3 := by rw [hww3]; exact (Upd.refl [G + 1] w3a).setCell (.inl (by simp)) _
    have HTw3 : Hid (Blk w3 (G + 1) 50 #[.int .i64 3, .int .u32 x0, .int .u32 x1, .int .u64 0, .int .u32 0, .int .u32 0, .int .u32 0, .slice none 0 0, .slice none 0 0, .slice none 0 0, .slice none 0 0, .int .u8 0]) := Lib.hid (by rw [hww3]; exact HTw3a.out.store 2 _)
    have HGw3 := Lib.hid (HGw3a.out.upd uw3 (by simp))
    have HUw3 : Hid (Upd [] w w3) := Lib.hid (HUw3a.out.box' uw3 (by rw [HGX.out]; exact Nat.le_succ _))
    have HWw3 := Lib.hid hww3
    clear uw3 hww3
    have t0 : w3a.cell? ⟨G + 1, 2, none⟩ = some (.int .u32 0) := HTw3a.out.cell 2
    have f0 := HTw3a.out.frozen 2
    go_upto_region 47 with fail
    rw [← HWw3.out]
    clear t0 f0
    clear wx1
    clear kc
    have HBS : Hid (G + 1 < w3.heap.size) := Lib.hid HTw3.out.lt
    obtain ⟨m, hm⟩ : ∃ m, m = (xs.length - 8) / 4 := ⟨_, rfl⟩
    have hml : m ≤ 100000 := by omega
    go_loopg [10] m (fun gk x10 wr => ∃ i : Nat, i ≤ m ∧ m ≤ i + gk ∧ x10 = .int .i64 (8 + 4 * (i : Int)) ∧ ∃ (A : Option Addr) (c : Nat), Blk wr (G + 1) 50 #[.int .i64 3, .int .u32 x0, .int .u32 x1, .int .u64 0, .int .u32 0, .int .u32 0, .int .u32 0, .slice none 0 0, .slice none 0 0, .slice A i c, .slice none 0 0, .int .u8 0] ∧ wr.ownsRow w3.heap.size 89 2 (.slice A i c) i (((List.range i).map (fun i => pairAt xs (8 + 4 * i))).flatMap encP2) ∧ Blk wr G 50 #[.int .i64 0, .int .u32 0, .int .u32 0, .int .u64 0, .int .u32 0, .int .u32 0, .int .u32 0, .slice none 0 0, .slice none 0 0, .slice none 0 0, .slice none 0 0, .int .u8 0] ∧ Upd [] w wr ∧ w3.heap.size ≤ wr.heap.size)
    case atStart => exact ⟨0, Nat.zero_le _, by omega, by simp, none, 0, HTw3.out, World.ownsRow_nil _ _ _ _, HGw3.out, HUw3.out, Nat.le_refl _⟩
    case round =>
      obtain ⟨i, hi, hgi, rfl, A, c, hbT, hown, hbG, hur, hsx⟩ := hrel
      have kc : wr.cell? ⟨G + 1, 0, none⟩ = some (.int .i64 3) := hbT.cell 0
      obtain ⟨p, hp⟩ : ∃ p : Nat, p = 8 + 4 * i := ⟨_, rfl⟩
      rw [show (8 : Int) + 4 * (i : Int) = (p : Int) by omega]
      have hwp : IntKind.i64.wrap ((p : Int) + 4) = (p : Int) + 4 := IntWalk.i64_in _ (by omega)
      by_cases hlt : i < m
      · have hpl : (p : Int) + 4 ≤ (xs.length : Int) := by omega
        have hwp2 : IntKind.i64.wrap ((p : Int) + 2) = (p : Int) + 2 := IntWalk.i64_in _ (by omega)
        obtain ⟨z0, hz0⟩ : ∃ v, v = nAt xs p 2 := ⟨_, rfl⟩
        have bz0 : 0 ≤ z0 ∧ z0 ≤ 65535 := by rw [hz0]; exact nAt_lt HBY.out p 2 65535 (by decide)
        have HN0 : Hid (∀ W : World, Calls Try.prog 31 #[.string (strOfNums xs), .int .i64 p, .int .i64 2] W fun e w' => e = .returned (.int .u64 z0) ∧ Upd [] W w') := Lib.hid (fun W => by rw [hz0]; exact dnumat_any W xs p 2 (by decide) (by decide) (by omega) HBY.out (by omega))
        have HXz0 := Lib.hid hz0
        clear hz0
        obtain ⟨z1, hz1⟩ : ∃ v, v = nAt xs (p + 2) 2 := ⟨_, rfl⟩
        have bz1 : 0 ≤ z1 ∧ z1 ≤ 65535 := by rw [hz1]; exact nAt_lt HBY.out (p + 2) 2 65535 (by decide)
        have HN1 : Hid (∀ W : World, Calls Try.prog 31 #[.string (strOfNums xs), .int .i64 ((p : Int) + 2), .int .i64 2] W fun e w' => e = .returned (.int .u64 z1) ∧ Upd [] W w') := Lib.hid (fun W => by rw [hz1]; exact dnumatp_any W xs p 2 2 (by decide) (by decide) (by omega) HBY.out (by omega))
        have HXz1 := Lib.hid hz1
        clear hz1
        have hwz0 : IntKind.i64.wrap z0 = z0 := IntWalk.i64_in _ (by omega)
        have hwz1 : IntKind.i64.wrap z1 = z1 := IntWalk.i64_in _ (by omega)
        have HRE : Hid (pairAt xs (8 + 4 * i) = (z0, z1)) := Lib.hid (by unfold pairAt; rw [← hp, ← HXz0.out, ← HXz1.out])
        have HP := Lib.hid hp
        have HM := Lib.hid hm
        clear hp hm
        have hTP : G + 1 ∉ A.toList.map (·.block) := fun hm => by
          obtain ⟨cur, hcur⟩ := row_type hown (G + 1) (by have h8 := own_listN A i c; rw [← h8] at hm; simpa using hm)
          exact hcur.ne hbT (by decide) rfl
        have hGP : G ∉ A.toList.map (·.block) := fun hm => by
          obtain ⟨cur, hcur⟩ := row_type hown G (by have h8 := own_listN A i c; rw [← h8] at hm; simpa using hm)
          exact hcur.ne hbG (by decide) rfl
        obtain ⟨PB, hPB⟩ : ∃ l, l = A.toList.map (·.block) := ⟨_, rfl⟩
        rw [← hPB] at hTP hGP
        have hTl := hbT.lt
        have tz : ∀ z : Cls (Upd PB wr), z.w.cell? ⟨G + 1, 9, none⟩ = some (.slice A i c) := fun z => (z.h.cell (p := ⟨G + 1, 9, none⟩) hTl hTP).trans (hbT.cell 9)
        have HOWN := Lib.hid hown
        have HBT := Lib.hid hbT
        have HBG := Lib.hid hbG
        have HUR := Lib.hid hur
        have HPB := Lib.hid hPB
        have HTP := Lib.hid (And.intro hTP hGP)
        have HGI := Lib.hid hgi
        obtain ⟨j0, hj0, hy0, hy1, hy2⟩ := info_parts infoRP
        clear hown hbT hbG hur hPB hTP hGP hgi hTl
        go_upto_region 48 with fail
        refine wp_script (Upd PB wr) ((Upd.refl _ _).drewN 1) (.take [0, 1, 2, 3, 6, 7, 8] (.one 4 (.take [5] (.one 9 (.take [10, 11] (.last [12, 13, 14, 15])))))) (by kernel_rfl) (by kernel_rfl) (fun _ _ _ _ h => h) ?_
        intro hne
        refine wpS_take ?_
        simp only [pick3, List.map_cons, List.map_nil, List.getElem?_cons_zero, List.getElem?_cons_succ, Option.getD_some]
        repeat (go_big_quiet_step (with_reducible rfl))
        refine wpQuiet_nil ?_
        obtain ⟨w0, hw0⟩ : ∃ v, v = wr.drewN 1 := ⟨_, rfl⟩
        have HJ0 : Hid (Upd [] wr w0) := Lib.hid (by rw [hw0]; exact (Upd.refl _ _).drewN 1)
        rw [← hw0]
        clear hw0 tz
        refine wpS_one ?_
        simp only [pick3, List.map_cons, List.map_nil, List.getElem?_cons_zero, List.getElem?_cons_succ, Option.getD_some]
        refine wpHeldK_step rfl fun K hK => ?_
        go_simp
        refine (HN0.out _).mono ?_
        rintro _ wj0 ⟨rfl, hux⟩
        have HJ1 := Lib.hid (HJ0.out.next hux)
        clear hux
        refine hK.out _ _ ⟨⟨wj0, HJ1.out.more (by simp)⟩, rfl⟩ ?_
        clear hK K
        refine wpQuiet_then ?_
        refine wpS_take ?_
        simp only [pick3, List.map_cons, List.map_nil, List.getElem?_cons_zero, List.getElem?_cons_succ, Option.getD_some]
        repeat (go_big_quiet_step (with_reducible rfl))
        refine wpQuiet_nil ?_
        refine wpS_one ?_
        simp only [pick3, List.map_cons, List.map_nil, List.getElem?_cons_zero, List.getElem?_cons_succ, Option.getD_some]
        refine wpHeldK_step rfl fun K hK => ?_
        go_simp
        refine (HN1.out _).mono ?_
        rintro _ wj1 ⟨rfl, hux⟩
        have HJ2 := Lib.hid (HJ1.out.next hux)
        clear hux
        refine hK.out _ _ ⟨⟨wj1, HJ2.out.more (by simp)⟩, rfl⟩ ?_
        clear hK K
        refine wpQuiet_then ?_
        refine wpS_take ?_
        simp only [pick3, List.map_cons, List.map_nil, List.getElem?_cons_zero, List.getElem?_cons_succ, Option.getD_some]
        repeat (go_big_quiet_step (with_reducible rfl))
        refine wpQuiet_nil ?_
        refine wpS_last ?_
        simp only [pick3, List.map_cons, List.map_nil, List.getElem?_cons_zero, List.getElem?_cons_succ, Option.getD_some]
        refine wpHeld_step rfl fun K hK => ?_
        go_simp
        obtain ⟨V, hV⟩ : ∃ V, V = wj1.heap.size := ⟨_, rfl⟩
        obtain ⟨W3, hW3⟩ : ∃ z, z = wj1.alloc (.cells #[.int .i64 z0, .int .i64 z1] 89) := ⟨_, rfl⟩
        have u3 : Upd [] wr W3 := HJ2.out.next (by rw [hW3]; exact (Upd.refl [] _).alloc _)
        have hVB : Blk W3 V 89 #[.int .i64 z0, .int .i64 z1] := by rw [hW3, hV]; exact Blk.new _ _ _
        rw [← hW3, ← hV]
        have HU3 := Lib.hid u3
        have HVB := Lib.hid hVB
        clear hV hW3 u3 hVB
        refine hK.out _ _ (.inr ⟨⟨W3, HU3.out.more (by simp)⟩, rfl⟩) ?_
        clear hK K
        refine wpHeld_list (fun Q1 hq => ?_)
        refine wpList_append_src W3 rfl (.tmp 177) (.tmp 188) 47 rfl w3.heap.size 89 j0 _ 2 16 Try.underlying47 hj0 hy0 hy1 hy2 rfl (by decide) (.slice A i c) i (((List.range i).map (fun i => pairAt xs (8 + 4 * i))).flatMap encP2) rfl (ownsRow_upd HOWN.out HU3.out (by simp)) (some ⟨V, 0, none⟩) 1 1 [.int .i64 z0, .int .i64 z1] rfl (fun e => by cases e) rfl (fun ad e => by obtain rfl := Option.some.inj e; exact blk_src HVB.out) (by intro v hv; simp at hv; repeat (first | (rcases hv with rfl | hv; · rfl) | (subst hv; rfl))) (by unfold maxLen; omega) (by omega) (by have := HU3.out.size; omega) ?_
        intro v1 w4 hown4 hg4 _
        obtain ⟨A', c', hv, _⟩ := own_form hown4
        subst hv
        have hu4 : Upd PB W3 w4 := by rw [HPB.out, ← own_listN A i c]; exact Upd.of_grown hg4
        have HOWN4 : Hid (w4.ownsRow w3.heap.size 89 2 (.slice A' (i + 1) c') (i + 1) (((List.range (i + 1)).map (fun i => pairAt xs (8 + 4 * i))).flatMap encP2)) := Lib.hid (by
          have h9 := hown4
          rw [show (((List.range (i + 1)).map (fun i => pairAt xs (8 + 4 * i))).flatMap encP2) = (((List.range i).map (fun i => pairAt xs (8 + 4 * i))).flatMap encP2) ++ [.int .i64 z0, .int .i64 z1] from by rw [List.range_succ, List.map_append, List.flatMap_append]; simp only [List.map_cons, List.map_nil, List.flatMap_cons, List.flatMap_nil, HRE.out]; rfl]
          exact h9)
        have HU4 := Lib.hid hu4
        refine hq.out _ _ (.inr ⟨⟨w4, (HU3.out.more (by simp)).next HU4.out⟩, rfl⟩) ?_
        refine wpHeld_step rfl fun K hK => ?_
        go_simp
        refine hK.out _ _ (.inr ⟨⟨w4, (HU3.out.more (by simp)).next HU4.out⟩, rfl⟩) ?_
        clear hK K
        clear hq Q1 hg4 hown4 hu4
        have hbT4 := (HBT.out.upd HU3.out (by simp)).upd HU4.out HTP.out.1
        have hbG4 := (HBG.out.upd HU3.out (by simp)).upd HU4.out HTP.out.2
        have HW4 : Hid (Upd [] w w4) := Lib.hid (by
          have h8 := HUR.out.next HU3.out
          exact Upd.of_below ((h8.below (Nat.le_refl _) (by simp)).trans (HU4.out.below h8.size (fun s hs => by
            rw [HPB.out] at hs
            have h9 := (own_block_lt HOWN.out (g := s) (by have := own_listN A i c; rw [← this] at hs; simpa using hs)).1
            have := HBS.out; have := HGX.out
            omega))))
        have m4 : w4.cell? ⟨G + 1, 9, none⟩ = some (.slice A i c) := hbT4.cell 9
        have f4 := hbT4.frozen 9
        obtain ⟨w5, hw5⟩ : ∃ z, z = w4.setCell ⟨G + 1, 9, none⟩ (.slice A' (i + 1) c') := ⟨_, rfl⟩
        have us5 : Upd [G + 1] w4 w5 := by rw [hw5]; exact (Upd.refl [G + 1] w4).setCell (.inl (by simp)) _
        have HFIN : Hid (Blk w5 (G + 1) 50 #[.int .i64 3, .int .u32 x0, .int .u32 x1, .int .u64 0, .int .u32 0, .int .u32 0, .int .u32 0, .slice none 0 0, .slice none 0 0, .slice A' (i + 1) c', .slice none 0 0, .int .u8 0] ∧ w5.ownsRow w3.heap.size 89 2 (.slice A' (i + 1) c') (i + 1) (((List.range (i + 1)).map (fun i => pairAt xs (8 + 4 * i))).flatMap encP2) ∧ Blk w5 G 50 #[.int .i64 0, .int .u32 0, .int .u32 0, .int .u64 0, .int .u32 0, .int .u32 0, .int .u32 0, .slice none 0 0, .slice none 0 0, .slice none 0 0, .slice none 0 0, .int .u8 0] ∧ Upd [] w w5 ∧ w3.heap.size ≤ w5.heap.size) := Lib.hid ⟨by rw [hw5]; exact hbT4.store 9 _, ownsRow_upd HOWN4.out us5 (fun s hs hg => by
          rw [List.mem_singleton] at hs
          subst hs
          have h9 := (own_block_lt HOWN4.out hg).1
          have := HBS.out
          omega), hbG4.upd us5 (by simp), HW4.out.box' us5 (by rw [HGX.out]; exact Nat.le_succ _), by have := HU3.out.size; have := HU4.out.size; have := us5.size; omega⟩
        have HW5 := Lib.hid hw5
        clear hbT4 hbG4 us5 hw5
        refine wpHeld_last ?_
        go_wp2
        rw [← HW5.out]
        clear kc
        go_roundg (gk - 1)
        case measure => have := HGI.out; omega
        case rel => exact ⟨i + 1, by omega, by have := HGI.out; omega, by have := HP.out; go_num, A', c', HFIN.out⟩
      · have him : i = m := by omega
        have hpl : ¬ ((p : Int) + 4 ≤ (xs.length : Int)) := by omega
        have HTw9 := Lib.hid hbT
        have HGw9 := Lib.hid hbG
        have HUw9 := Lib.hid hur
        have HO9 := Lib.hid hown
        obtain ⟨w9, rfl⟩ : ∃ z : World, z = wr := ⟨wr, rfl⟩
        have HIM : Hid (i = (xs.length - 8) / 4) := Lib.hid (by rw [him, hm])
        clear hbT hbG hur hown hgi hi hlt hp hm him
        go_wp2
        go_loopg [] 0 (fun _ wr => w9 = wr)
        case atStart => exact rfl
        case round =>
          obtain rfl := hrel
          by_cases kn : i = 0
          · have hkq : ((i : Int) == 0) = true := by rw [kn]; rfl
            have HE0 : Hid (r = (mZ, 11)) := Lib.hid (by rw [HRD.out, if_neg hs, if_pos (by rw [← HIM.out]; exact kn)])
            clear kn
            have lc : w9.cell? ⟨G + 1, 9, none⟩ = some (.slice A i c) := HTw9.out.cell 9
            have HE : Hid (r = (mZ, 11)) := Lib.hid (by exact HE0.out)
            obtain ⟨kx, ux⟩ := blk12g HGw9.out (.int .i64 0) (.int .u32 0) (.int .u32 0) (.int .u64 0) (.int .u32 0) (.int .u32 0) (.int .u32 0) (.slice none 0 0) (.slice none 0 0) (.slice none 0 0) (.slice none 0 0) (.int .u8 0)
            obtain ⟨wx, hwx⟩ : ∃ z, z = ((((((((((((w9.setCell ⟨G, 0, none⟩ (.int .i64 0)).setCell ⟨G, 1, none⟩ (.int .u32 0)).setCell ⟨G, 2, none⟩ (.int .u32 0)).setCell ⟨G, 3, none⟩ (.int .u64 0)).setCell ⟨G, 4, none⟩ (.int .u32 0)).setCell ⟨G, 5, none⟩ (.int .u32 0)).setCell ⟨G, 6, none⟩ (.int .u32 0)).setCell ⟨G, 7, none⟩ (.slice none 0 0)).setCell ⟨G, 8, none⟩ (.slice none 0 0)).setCell ⟨G, 9, none⟩ (.slice none 0 0)).setCell ⟨G, 10, none⟩ (.slice none 0 0)).setCell ⟨G, 11, none⟩ (.int .u8 0)) := ⟨_, rfl⟩
            rw [← hwx] at kx ux
            have HKX := Lib.hid kx
            have HUX : Hid (Upd [G] w9 wx) := Lib.hid ux
            have HFX : Hid (Upd [] w wx) := Lib.hid (HUw9.out.box' ux (by rw [HGX.out]; exact Nat.le_refl _))
            have HWX := Lib.hid hwx
            clear kx ux hwx
            have z0 : w9.cell? ⟨G, 0, none⟩ = some (.int .i64 0) := HGw9.out.cell 0
            have z1 : w9.cell? ⟨G, 1, none⟩ = some (.int .u32 0) := HGw9.out.cell 1
            have z2 : w9.cell? ⟨G, 2, none⟩ = some (.int .u32 0) := HGw9.out.cell 2
            have z3 : w9.cell? ⟨G, 3, none⟩ = some (.int .u64 0) := HGw9.out.cell 3
            have z4 : w9.cell? ⟨G, 4, none⟩ = some (.int .u32 0) := HGw9.out.cell 4
            have z5 : w9.cell? ⟨G, 5, none⟩ = some (.int .u32 0) := HGw9.out.cell 5
            have z6 : w9.cell? ⟨G, 6, none⟩ = some (.int .u32 0) := HGw9.out.cell 6
            have z7 : w9.cell? ⟨G, 7, none⟩ = some (.slice none 0 0) := HGw9.out.cell 7
            have z8 : w9.cell? ⟨G, 8, none⟩ = some (.slice none 0 0) := HGw9.out.cell 8
            have z9 : w9.cell? ⟨G, 9, none⟩ = some (.slice none 0 0) := HGw9.out.cell 9
            have z10 : w9.cell? ⟨G, 10, none⟩ = some (.slice none 0 0) := HGw9.out.cell 10
            have z11 : w9.cell? ⟨G, 11, none⟩ = some (.int .u8 0) := HGw9.out.cell 11
            have f0 := HGw9.out.frozen 0
            have f1 := HGw9.out.frozen 1
            have f2 := HGw9.out.frozen 2
            have f3 := HGw9.out.frozen 3
            have f4 := HGw9.out.frozen 4
            have f5 := HGw9.out.frozen 5
            have f6 := HGw9.out.frozen 6
            have f7 := HGw9.out.frozen 7
            have f8 := HGw9.out.frozen 8
            have f9 := HGw9.out.frozen 9
            have f10 := HGw9.out.frozen 10
            have f11 := HGw9.out.frozen 11
            go_wp2
            rw [← HWX.out]
            have g0 : wx.cell? ⟨G, 0, none⟩ = some (.int .i64 0) := HKX.out.cell 0
            have g1 : wx.cell? ⟨G, 1, none⟩ = some (.int .u32 0) := HKX.out.cell 1
            have g2 : wx.cell? ⟨G, 2, none⟩ = some (.int .u32 0) := HKX.out.cell 2
            have g3 : wx.cell? ⟨G, 3, none⟩ = some (.int .u64 0) := HKX.out.cell 3
            have g4 : wx.cell? ⟨G, 4, none⟩ = some (.int .u32 0) := HKX.out.cell 4
            have g5 : wx.cell? ⟨G, 5, none⟩ = some (.int .u32 0) := HKX.out.cell 5
            have g6 : wx.cell? ⟨G, 6, none⟩ = some (.int .u32 0) := HKX.out.cell 6
            have g7 : wx.cell? ⟨G, 7, none⟩ = some (.slice none 0 0) := HKX.out.cell 7
            have g8 : wx.cell? ⟨G, 8, none⟩ = some (.slice none 0 0) := HKX.out.cell 8
            have g9 : wx.cell? ⟨G, 9, none⟩ = some (.slice none 0 0) := HKX.out.cell 9
            have g10 : wx.cell? ⟨G, 10, none⟩ = some (.slice none 0 0) := HKX.out.cell 10
            have g11 : wx.cell? ⟨G, 11, none⟩ = some (.int .u8 0) := HKX.out.cell 11
            refine bodyPost_res (v := .tuple #[.agg #[.int .i64 0, .int .u32 0, .int .u32 0, .int .u64 0, .int .u32 0, .int .u32 0, .int .u32 0, .slice none 0 0, .slice none 0 0, .slice none 0 0, .slice none 0 0, .int .u8 0], .int .i64 11]) (by simp [results, Try.results32, go_sem, Addr.add, g0, g1, g2, g3, g4, g5, g6, g7, g8, g9, g10, g11]) rfl ?_
            exact ⟨hZ, by rw [HE.out]; rfl, by rw [HE.out]; exact ⟨CellsIn.nil _ _ _ _ _, CellsIn.nil _ _ _ _ _, CellsIn.nil _ _ _ _ _, CellsIn.nil _ _ _ _ _⟩, by rw [HE.out]; exact whoNew_nil rfl, HFX.out⟩
          · have HE : Hid (r = (⟨3, x0, x1, 0, 0, 0, 0, [], [], (List.range i).map (fun i => pairAt xs (8 + 4 * i)), [], 0⟩, 0)) := Lib.hid (by rw [HRD.out, if_neg hs, if_neg (by rw [← HIM.out]; exact kn), ← HIM.out, HXx0.out, HXx1.out])
            have hkq : ((i : Int) == 0) = false := beq_eq_false_iff_ne.2 (by omega)
            clear kn
            obtain ⟨kx, ux⟩ := blk12g HGw9.out (.int .i64 3) (.int .u32 x0) (.int .u32 x1) (.int .u64 0) (.int .u32 0) (.int .u32 0) (.int .u32 0) (.slice none 0 0) (.slice none 0 0) (.slice A i c) (.slice none 0 0) (.int .u8 0)
            obtain ⟨wx, hwx⟩ : ∃ z, z = ((((((((((((w9.setCell ⟨G, 0, none⟩ (.int .i64 3)).setCell ⟨G, 1, none⟩ (.int .u32 x0)).setCell ⟨G, 2, none⟩ (.int .u32 x1)).setCell ⟨G, 3, none⟩ (.int .u64 0)).setCell ⟨G, 4, none⟩ (.int .u32 0)).setCell ⟨G, 5, none⟩ (.int .u32 0)).setCell ⟨G, 6, none⟩ (.int .u32 0)).setCell ⟨G, 7, none⟩ (.slice none 0 0)).setCell ⟨G, 8, none⟩ (.slice none 0 0)).setCell ⟨G, 9, none⟩ (.slice A i c)).setCell ⟨G, 10, none⟩ (.slice none 0 0)).setCell ⟨G, 11, none⟩ (.int .u8 0)) := ⟨_, rfl⟩
            rw [← hwx] at kx ux
            have HKX := Lib.hid kx
            have HUX : Hid (Upd [G] w9 wx) := Lib.hid ux
            have HFX : Hid (Upd [] w wx) := Lib.hid (HUw9.out.box' ux (by rw [HGX.out]; exact Nat.le_refl _))
            have HWX := Lib.hid hwx
            clear kx ux hwx
            have t0 : w9.cell? ⟨G + 1, 0, none⟩ = some (.int .i64 3) := HTw9.out.cell 0
            have t1 : w9.cell? ⟨G + 1, 1, none⟩ = some (.int .u32 x0) := HTw9.out.cell 1
            have t2 : w9.cell? ⟨G + 1, 2, none⟩ = some (.int .u32 x1) := HTw9.out.cell 2
            have t3 : w9.cell? ⟨G + 1, 3, none⟩ = some (.int .u64 0) := HTw9.out.cell 3
            have t4 : w9.cell? ⟨G + 1, 4, none⟩ = some (.int .u32 0) := HTw9.out.cell 4
            have t5 : w9.cell? ⟨G + 1, 5, none⟩ = some (.int .u32 0) := HTw9.out.cell 5
            have t6 : w9.cell? ⟨G + 1, 6, none⟩ = some (.int .u32 0) := HTw9.out.cell 6
            have t7 : w9.cell? ⟨G + 1, 7, none⟩ = some (.slice none 0 0) := HTw9.out.cell 7
            have t8 : w9.cell? ⟨G + 1, 8, none⟩ = some (.slice none 0 0) := HTw9.out.cell 8
            have t9 : w9.cell? ⟨G + 1, 9, none⟩ = some (.slice A i c) := HTw9.out.cell 9
            have t10 : w9.cell? ⟨G + 1, 10, none⟩ = some (.slice none 0 0) := HTw9.out.cell 10
            have t11 : w9.cell? ⟨G + 1, 11, none⟩ = some (.int .u8 0) := HTw9.out.cell 11
            have z0 : w9.cell? ⟨G, 0, none⟩ = some (.int .i64 0) := HGw9.out.cell 0
            have z1 : w9.cell? ⟨G, 1, none⟩ = some (.int .u32 0) := HGw9.out.cell 1
            have z2 : w9.cell? ⟨G, 2, none⟩ = some (.int .u32 0) := HGw9.out.cell 2
            have z3 : w9.cell? ⟨G, 3, none⟩ = some (.int .u64 0) := HGw9.out.cell 3
            have z4 : w9.cell? ⟨G, 4, none⟩ = some (.int .u32 0) := HGw9.out.cell 4
            have z5 : w9.cell? ⟨G, 5, none⟩ = some (.int .u32 0) := HGw9.out.cell 5
            have z6 : w9.cell? ⟨G, 6, none⟩ = some (.int .u32 0) := HGw9.out.cell 6
            have z7 : w9.cell? ⟨G, 7, none⟩ = some (.slice none 0 0) := HGw9.out.cell 7
            have z8 : w9.cell? ⟨G, 8, none⟩ = some (.slice none 0 0) := HGw9.out.cell 8
            have z9 : w9.cell? ⟨G, 9, none⟩ = some (.slice none 0 0) := HGw9.out.cell 9
            have z10 : w9.cell? ⟨G, 10, none⟩ = some (.slice none 0 0) := HGw9.out.cell 10
            have z11 : w9.cell? ⟨G, 11, none⟩ = some (.int .u8 0) := HGw9.out.cell 11
            have f0 := HGw9.out.frozen 0
            have f1 := HGw9.out.frozen 1
            have f2 := HGw9.out.frozen 2
            have f3 := HGw9.out.frozen 3
            have f4 := HGw9.out.frozen 4
            have f5 := HGw9.out.frozen 5
            have f6 := HGw9.out.frozen 6
            have f7 := HGw9.out.frozen 7
            have f8 := HGw9.out.frozen 8
            have f9 := HGw9.out.frozen 9
            have f10 := HGw9.out.frozen 10
            have f11 := HGw9.out.frozen 11
            go_wp2
            rw [← HWX.out]
            have g0 : wx.cell? ⟨G, 0, none⟩ = some (.int .i64 3) := HKX.out.cell 0
            have g1 : wx.cell? ⟨G, 1, none⟩ = some (.int .u32 x0) := HKX.out.cell 1
            have g2 : wx.cell? ⟨G, 2, none⟩ = some (.int .u32 x1) := HKX.out.cell 2
            have g3 : wx.cell? ⟨G, 3, none⟩ = some (.int .u64 0) := HKX.out.cell 3
            have g4 : wx.cell? ⟨G, 4, none⟩ = some (.int .u32 0) := HKX.out.cell 4
            have g5 : wx.cell? ⟨G, 5, none⟩ = some (.int .u32 0) := HKX.out.cell 5
            have g6 : wx.cell? ⟨G, 6, none⟩ = some (.int .u32 0) := HKX.out.cell 6
            have g7 : wx.cell? ⟨G, 7, none⟩ = some (.slice none 0 0) := HKX.out.cell 7
            have g8 : wx.cell? ⟨G, 8, none⟩ = some (.slice none 0 0) := HKX.out.cell 8
            have g9 : wx.cell? ⟨G, 9, none⟩ = some (.slice A i c) := HKX.out.cell 9
            have g10 : wx.cell? ⟨G, 10, none⟩ = some (.slice none 0 0) := HKX.out.cell 10
            have g11 : wx.cell? ⟨G, 11, none⟩ = some (.int .u8 0) := HKX.out.cell 11
            refine bodyPost_res (v := .tuple #[.agg #[.int .i64 3, .int .u32 x0, .int .u32 x1, .int .u64 0, .int .u32 0, .int .u32 0, .int .u32 0, .slice none 0 0, .slice none 0 0, .slice A i c, .slice none 0 0, .int .u8 0], .int .i64 0]) (by simp [results, Try.results32, go_sem, Addr.add, g0, g1, g2, g3, g4, g5, g6, g7, g8, g9, g10, g11]) rfl ?_
            have ho := ownsRow_upd HO9.out HUX.out (fun s hs hg => by
              rw [List.mem_singleton] at hs
              subst hs
              have h9 := (own_block_lt HO9.out hg).1
              have := HBS.out
              omega)
            refine ⟨⟨none, 0, none, 0, A, c, none, 0⟩, ?_, ?_, by rw [HE.out]; exact whoNew_nil rfl, HFX.out⟩
            · rw [HE.out]
              unfold mcells
              simp
            · rw [HE.out]
              refine ⟨CellsIn.nil _ _ _ _ _, CellsIn.nil _ _ _ _ _, ?_, CellsIn.nil _ _ _ _ _⟩
              dsimp only
              rw [List.length_map, List.length_range]
              exact (CellsIn.of_own ho).more (by have := HUw3.out.size; omega) (Nat.le_refl _)
end Go.Proofs.Ytgkejdjdccgjbaa
