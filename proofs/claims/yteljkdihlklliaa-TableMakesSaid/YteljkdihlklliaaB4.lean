/- Parts of the proof, one behind the other: TConv, TMay, TMakes, Open, Open2. No condition of their own. -/
import Derived.Test.YteljkdihlklliaaB3
import Derived.Test.YteljkdihlklliaaB1
import Derived.Deep.Slices
import Derived.Deep.Fields
import Derived.ChangeSame
import Derived.ProofKit
import Derived.OpenShut
/- The law's down, routes, downs. Condition: no more than 1000. (Written by wip/gen/tableconv.py.) -/
namespace Go.Proofs.Yteljkdihlklliaa
open Go Go.RowKit Go.Maps
set_option maxHeartbeats 400000
theorem infoRR : (Try.prog.info? 44).map (fun i => (i.zero, i.size, i.bytes)) = some (some (.agg #[.int .u32 0, .int .i64 0, .int .i64 0, .int .i64 0, .int .i64 0]), 5, 40) := by kernel_rfl
set_option maxRecDepth 100000 in
set_option maxHeartbeats 2000000 in
theorem down_any (w : World) (d : Dn) : Calls Try.prog 20 #[.agg #[.int .u32 d.ssrc, .int .i64 d.slot, .int .u32 d.turn, .int .i64 d.who, .int .i64 d.track, .int .i64 d.shard, .int .i64 d.src, .int .i64 d.layer, .int .i64 d.tid, .bool d.muted]] w fun e w' => e = .returned (.agg #[.int .u32 d.ssrc, .int .i64 d.slot, .int .u32 d.turn, .int .i64 d.who, .int .i64 d.track, .int .i64 d.shard, .int .i64 d.src, .int .i64 d.layer, .int .i64 d.tid, .bool d.muted]) ∧ Upd [] w w' := by
  obtain ⟨g1, hg1⟩ : ∃ g, g = w.heap.size := ⟨_, rfl⟩
  obtain ⟨G, hG⟩ : ∃ g, g = w.heap.size + 1 := ⟨_, rfl⟩
  obtain ⟨w1, hw1⟩ : ∃ z, z = w.alloc (.cells #[.int .u32 d.ssrc, .int .i64 d.slot, .int .u32 d.turn, .int .i64 d.who, .int .i64 d.track, .int .i64 d.shard, .int .i64 d.src, .int .i64 d.layer, .int .i64 d.tid, .bool d.muted] 41) := ⟨_, rfl⟩
  obtain ⟨W, hW⟩ : ∃ z, z = w1.alloc (.cells #[.int .u32 0, .int .i64 0, .int .u32 0, .int .i64 0, .int .i64 0, .int .i64 0, .int .i64 0, .int .i64 0, .int .i64 0, .bool false] 49) := ⟨_, rfl⟩
  have s1 : w1.heap.size = G := by rw [hw1, World.size_alloc, hG]
  have u1 : Upd [] w w1 := by rw [hw1]; exact (Upd.refl [] w).alloc _
  have u2 : Upd [] w1 W := by rw [hW]; exact (Upd.refl [] w1).alloc _
  have HBX : Hid (Blk W g1 41 #[.int .u32 d.ssrc, .int .i64 d.slot, .int .u32 d.turn, .int .i64 d.who, .int .i64 d.track, .int .i64 d.shard, .int .i64 d.src, .int .i64 d.layer, .int .i64 d.tid, .bool d.muted]) := Lib.hid (by
    have : Blk w1 g1 41 #[.int .u32 d.ssrc, .int .i64 d.slot, .int .u32 d.turn, .int .i64 d.who, .int .i64 d.track, .int .i64 d.shard, .int .i64 d.src, .int .i64 d.layer, .int .i64 d.tid, .bool d.muted] := by rw [hw1, hg1]; exact Blk.new _ _ _
    exact this.upd u2 (by simp))
  have HBG : Hid (Blk W G 49 #[.int .u32 0, .int .i64 0, .int .u32 0, .int .i64 0, .int .i64 0, .int .i64 0, .int .i64 0, .int .i64 0, .int .i64 0, .bool false]) := Lib.hid (by rw [hW, ← s1]; exact Blk.new _ _ _)
  have HUW := Lib.hid (u1.next u2)
  have HGX : Hid (w.heap.size ≤ G) := Lib.hid (by omega)
  clear u1 u2 s1
  go_enter Try.func20, Try.ntmps20
  go_upto_region 1 with fail
  rw [← hw1, ← hG, ← hW, ← hg1]
  clear hw1 hG hW hg1
  obtain ⟨kx, ux⟩ := blk10 HBG.out (.int .u32 d.ssrc) (.int .i64 d.slot) (.int .u32 d.turn) (.int .i64 d.who) (.int .i64 d.track) (.int .i64 d.shard) (.int .i64 d.src) (.int .i64 d.layer) (.int .i64 d.tid) (.bool d.muted)
  obtain ⟨wx, hwx⟩ : ∃ z, z = ((((((((((W.setCell ⟨G, 0, none⟩ (.int .u32 d.ssrc)).setCell ⟨G, 1, none⟩ (.int .i64 d.slot)).setCell ⟨G, 2, none⟩ (.int .u32 d.turn)).setCell ⟨G, 3, none⟩ (.int .i64 d.who)).setCell ⟨G, 4, none⟩ (.int .i64 d.track)).setCell ⟨G, 5, none⟩ (.int .i64 d.shard)).setCell ⟨G, 6, none⟩ (.int .i64 d.src)).setCell ⟨G, 7, none⟩ (.int .i64 d.layer)).setCell ⟨G, 8, none⟩ (.int .i64 d.tid)).setCell ⟨G, 9, none⟩ (.bool d.muted)) := ⟨_, rfl⟩
  rw [← hwx] at kx ux
  have HKX := Lib.hid kx
  have HFX : Hid (Upd [] w wx) := Lib.hid (HUW.out.box' ux HGX.out)
  have HWX := Lib.hid hwx
  clear kx ux hwx
  have z0 : W.cell? ⟨G, 0, none⟩ = some (.int .u32 0) := HBG.out.cell 0
  have f0 := HBG.out.frozen 0
  have z1 : W.cell? ⟨G, 1, none⟩ = some (.int .i64 0) := HBG.out.cell 1
  have f1 := HBG.out.frozen 1
  have z2 : W.cell? ⟨G, 2, none⟩ = some (.int .u32 0) := HBG.out.cell 2
  have f2 := HBG.out.frozen 2
  have z3 : W.cell? ⟨G, 3, none⟩ = some (.int .i64 0) := HBG.out.cell 3
  have f3 := HBG.out.frozen 3
  have z4 : W.cell? ⟨G, 4, none⟩ = some (.int .i64 0) := HBG.out.cell 4
  have f4 := HBG.out.frozen 4
  have z5 : W.cell? ⟨G, 5, none⟩ = some (.int .i64 0) := HBG.out.cell 5
  have f5 := HBG.out.frozen 5
  have z6 : W.cell? ⟨G, 6, none⟩ = some (.int .i64 0) := HBG.out.cell 6
  have f6 := HBG.out.frozen 6
  have z7 : W.cell? ⟨G, 7, none⟩ = some (.int .i64 0) := HBG.out.cell 7
  have f7 := HBG.out.frozen 7
  have z8 : W.cell? ⟨G, 8, none⟩ = some (.int .i64 0) := HBG.out.cell 8
  have f8 := HBG.out.frozen 8
  have z9 : W.cell? ⟨G, 9, none⟩ = some (.bool false) := HBG.out.cell 9
  have f9 := HBG.out.frozen 9
  have x0 : W.cell? ⟨g1, 0, none⟩ = some (.int .u32 d.ssrc) := HBX.out.cell 0
  have x1 : W.cell? ⟨g1, 1, none⟩ = some (.int .i64 d.slot) := HBX.out.cell 1
  have x2 : W.cell? ⟨g1, 2, none⟩ = some (.int .u32 d.turn) := HBX.out.cell 2
  have x3 : W.cell? ⟨g1, 3, none⟩ = some (.int .i64 d.who) := HBX.out.cell 3
  have x4 : W.cell? ⟨g1, 4, none⟩ = some (.int .i64 d.track) := HBX.out.cell 4
  have x5 : W.cell? ⟨g1, 5, none⟩ = some (.int .i64 d.shard) := HBX.out.cell 5
  have x6 : W.cell? ⟨g1, 6, none⟩ = some (.int .i64 d.src) := HBX.out.cell 6
  have x7 : W.cell? ⟨g1, 7, none⟩ = some (.int .i64 d.layer) := HBX.out.cell 7
  have x8 : W.cell? ⟨g1, 8, none⟩ = some (.int .i64 d.tid) := HBX.out.cell 8
  have x9 : W.cell? ⟨g1, 9, none⟩ = some (.bool d.muted) := HBX.out.cell 9
  go_wp2
  rw [← HWX.out]
  have y0 : wx.cell? ⟨G, 0, none⟩ = some (.int .u32 d.ssrc) := HKX.out.cell 0
  have y1 : wx.cell? ⟨G, 1, none⟩ = some (.int .i64 d.slot) := HKX.out.cell 1
  have y2 : wx.cell? ⟨G, 2, none⟩ = some (.int .u32 d.turn) := HKX.out.cell 2
  have y3 : wx.cell? ⟨G, 3, none⟩ = some (.int .i64 d.who) := HKX.out.cell 3
  have y4 : wx.cell? ⟨G, 4, none⟩ = some (.int .i64 d.track) := HKX.out.cell 4
  have y5 : wx.cell? ⟨G, 5, none⟩ = some (.int .i64 d.shard) := HKX.out.cell 5
  have y6 : wx.cell? ⟨G, 6, none⟩ = some (.int .i64 d.src) := HKX.out.cell 6
  have y7 : wx.cell? ⟨G, 7, none⟩ = some (.int .i64 d.layer) := HKX.out.cell 7
  have y8 : wx.cell? ⟨G, 8, none⟩ = some (.int .i64 d.tid) := HKX.out.cell 8
  have y9 : wx.cell? ⟨G, 9, none⟩ = some (.bool d.muted) := HKX.out.cell 9
  refine bodyPost_res (v := .agg #[.int .u32 d.ssrc, .int .i64 d.slot, .int .u32 d.turn, .int .i64 d.who, .int .i64 d.track, .int .i64 d.shard, .int .i64 d.src, .int .i64 d.layer, .int .i64 d.tid, .bool d.muted]) (by simp [results, Try.results20, go_sem, Addr.add, y0, y1, y2, y3, y4, y5, y6, y7, y8, y9]) rfl ?_
  exact ⟨rfl, HFX.out⟩
set_option maxRecDepth 100000 in
set_option maxHeartbeats 2000000 in
theorem croutes_any {w : World} {A : Option Addr} {ca : Nat} {rs : List Rt} (hA : CellsIn w 0 w.heap.size 5 A rs.length (rs.flatMap encRt)) (hl : rs.length ≤ 1000) :
    Calls Try.prog 10 #[.slice A rs.length ca] w fun e w' => ∃ v2, e = .returned v2 ∧ w'.ownsRow w.heap.size 44 5 v2 rs.length (rs.flatMap encRt) ∧ Upd [] w w' := by
  obtain ⟨j0, hj0, hy0, hy1, hy2⟩ := info_parts infoRR
  have HA := Lib.hid hA
  obtain ⟨n, hn⟩ : ∃ n, n = rs.length := ⟨_, rfl⟩
  rw [← hn] at hl ⊢
  have HN := Lib.hid hn
  clear hA hn
  go_enter Try.func10, Try.ntmps10
  go_wp2
  go_loopg [3, 4] n (fun gk x3 x4 wr => ∃ i : Nat, i ≤ n ∧ n ≤ i + gk ∧ x4 = .int .i64 i ∧ wr.ownsRow w.heap.size 44 5 x3 i ((rs.take i).flatMap encRt) ∧ Upd [] w wr)
  case atStart => exact ⟨0, Nat.zero_le _, by omega, rfl, World.ownsRow_nil _ _ _ _, Upd.refl _ _⟩
  case round =>
    obtain ⟨i, hi, hgi, rfl, hown, hu⟩ := hrel
    obtain ⟨Av, cv, hve, -⟩ := own_form hown
    subst hve
    by_cases hlt : i < n
    · obtain ⟨r, hri⟩ : ∃ r, rs[i]? = some r := ⟨_, List.getElem?_eq_getElem (by rw [← HN.out]; exact hlt)⟩
      obtain ⟨b, off, hAe, -, hb2, hcc⟩ := HA.out.2 (by rw [← HN.out]; omega)
      subst hAe
      have c0 : wr.cell? ⟨b, off + (i * 5 + 0), none⟩ = some (.int .u32 r.ssrc) := (hu.cell (p := ⟨b, off + (i * 5 + 0), none⟩) hb2 (by simp)).trans (hcc (i * 5 + 0) _ (flat_get encRt_len rs i 0 r hri (by omega)))
      have c1 : wr.cell? ⟨b, off + (i * 5 + 1), none⟩ = some (.int .i64 r.track) := (hu.cell (p := ⟨b, off + (i * 5 + 1), none⟩) hb2 (by simp)).trans (hcc (i * 5 + 1) _ (flat_get encRt_len rs i 1 r hri (by omega)))
      have c2 : wr.cell? ⟨b, off + (i * 5 + 2), none⟩ = some (.int .i64 r.src) := (hu.cell (p := ⟨b, off + (i * 5 + 2), none⟩) hb2 (by simp)).trans (hcc (i * 5 + 2) _ (flat_get encRt_len rs i 2 r hri (by omega)))
      have c3 : wr.cell? ⟨b, off + (i * 5 + 3), none⟩ = some (.int .i64 r.layer) := (hu.cell (p := ⟨b, off + (i * 5 + 3), none⟩) hb2 (by simp)).trans (hcc (i * 5 + 3) _ (flat_get encRt_len rs i 3 r hri (by omega)))
      have c4 : wr.cell? ⟨b, off + (i * 5 + 4), none⟩ = some (.int .i64 r.shard) := (hu.cell (p := ⟨b, off + (i * 5 + 4), none⟩) hb2 (by simp)).trans (hcc (i * 5 + 4) _ (flat_get encRt_len rs i 4 r hri (by omega)))
      simp only [← Nat.add_assoc, Nat.add_zero] at c0 c1 c2 c3 c4
      have hlti : (i : Int) < (n : Int) := by omega
      have hwi : IntKind.i64.wrap ((i : Int) + 1) = (i : Int) + 1 := IntWalk.i64_in _ (by omega)
      have HTK := Lib.hid (take_snocD hri)
      obtain ⟨lo, hlo⟩ : ∃ l, l = rs.take i := ⟨_, rfl⟩
      rw [← hlo] at hown HTK
      have HGI := Lib.hid hgi
      have HU := Lib.hid hu
      have HOW := Lib.hid hown
      clear hown hu hcc hb2 hri hlo hgi
      go_upto_region 5 with fail
      refine wp_moves_quiet_tail 1 26 (by kernel_rfl) (by kernel_rfl) (fun _ _ _ _ h => h) ?_
      simp only [List.take_succ_cons, List.take_zero, List.drop_succ_cons, List.drop_zero]
      repeat (go_big_quiet_step (fail))
      refine wpQuiet_nil ?_
      repeat (go_big_quiet_step (fail))
      refine wpQuiet_nil ?_
      rintro _ ⟨nq, rfl⟩
      have uq : Upd [] wr (wr.drewN nq) := (Upd.refl [] wr).drewN nq
      obtain ⟨wq, hwq⟩ : ∃ z, z = wr.drewN nq := ⟨_, rfl⟩
      rw [← hwq] at uq ⊢
      clear hwq
      have HOA : Hid ((wq.alloc (.cells #[.int .u32 r.ssrc, .int .i64 r.track, .int .i64 r.src, .int .i64 r.layer, .int .i64 r.shard] 44)).ownsRow w.heap.size 44 5 (.slice Av i cv) i (lo.flatMap encRt)) := Lib.hid ((ownsRow_upd HOW.out uq (by simp)).alloc _)
      have HU3 : Hid (Upd [] w (wq.alloc (.cells #[.int .u32 r.ssrc, .int .i64 r.track, .int .i64 r.src, .int .i64 r.layer, .int .i64 r.shard] 44))) := Lib.hid ((HU.out.next uq).alloc _)
      have HNEW := Lib.hid (blk_srcT (Blk.new wq 44 #[.int .u32 r.ssrc, .int .i64 r.track, .int .i64 r.src, .int .i64 r.layer, .int .i64 r.shard]))
      have HONE : Hid (∀ u ∈ ([.int .u32 r.ssrc, .int .i64 r.track, .int .i64 r.src, .int .i64 r.layer, .int .i64 r.shard] : List Value), u.oneCell' = true) := Lib.hid (oneRt r)
      clear uq
      go_wp2_with (at_builtin; refine wpList_append_own_at _ rfl (.tmp 11) (.tmp 38) 32 rfl w.heap.size 44 j0 _ 5 40 Try.underlying32 hj0 hy0 hy1 hy2 rfl (by decide) (.slice Av i cv) i (lo.flatMap encRt) rfl HOA.out ⟨wq.heap.size, 0, none⟩ 1 1 [.int .u32 r.ssrc, .int .i64 r.track, .int .i64 r.src, .int .i64 r.layer, .int .i64 r.shard] rfl rfl HNEW.out HONE.out (by unfold maxLen; omega) (by omega) HU3.out.size ?_)
      intro v8 w8 hown8 hg8 _ _
      have HREL : Hid (w8.ownsRow w.heap.size 44 5 v8 (i + 1) ((rs.take (i + 1)).flatMap encRt)) := Lib.hid (by
        rw [HTK.out, List.flatMap_append]
        have e : [r].flatMap encRt = encRt r := by simp
        rw [e]
        exact hown8)
      have HU8 := Lib.hid (app_updT HU3.out HOA.out hg8 (Nat.le_refl _))
      obtain ⟨A8, q8, hv8, -⟩ := own_form hown8
      subst hv8
      clear hown8 hg8 HOA HU3 HNEW c0 c1 c2 c3 c4
      go_wp2
      go_roundg (gk - 1)
      case measure => have := HGI.out; omega
      case rel => exact ⟨i + 1, by omega, by have := HGI.out; omega, by go_num, HREL.out, HU8.out⟩
    obtain rfl : n = i := by omega
    have HFIN : Hid (wr.ownsRow w.heap.size 44 5 (.slice Av n cv) n (rs.flatMap encRt) ∧ Upd [] w wr) := Lib.hid (by
      have e : rs.take n = rs := by rw [HN.out, List.take_length]
      rw [e] at hown
      exact ⟨hown, hu⟩)
    clear hown hu hgi hi hlt
    go_wp2
    refine bodyPost_res (v := .slice Av n cv) (by simp [results, Try.results10, go_sem]) rfl ?_
    exact ⟨_, rfl, HFIN.out⟩
set_option maxRecDepth 100000 in
set_option maxHeartbeats 2000000 in
theorem cdowns_any {w : World} {A : Option Addr} {ca : Nat} {ds : List Dn} (hA : CellsIn w 0 w.heap.size 10 A ds.length (ds.flatMap encDn)) (hl : ds.length ≤ 1000) :
    Calls Try.prog 11 #[.slice A ds.length ca] w fun e w' => ∃ v2, e = .returned v2 ∧ w'.ownsRow w.heap.size 49 10 v2 ds.length (ds.flatMap encDn) ∧ Upd [] w w' := by
  obtain ⟨j0, hj0, hy0, hy1, hy2⟩ := info_parts infoRD
  have HA := Lib.hid hA
  obtain ⟨n, hn⟩ : ∃ n, n = ds.length := ⟨_, rfl⟩
  rw [← hn] at hl ⊢
  have HN := Lib.hid hn
  clear hA hn
  go_enter Try.func11, Try.ntmps11
  go_wp2
  go_loopg [3, 4] n (fun gk x3 x4 wr => ∃ i : Nat, i ≤ n ∧ n ≤ i + gk ∧ x4 = .int .i64 i ∧ wr.ownsRow w.heap.size 49 10 x3 i ((ds.take i).flatMap encDn) ∧ Upd [] w wr)
  case atStart => exact ⟨0, Nat.zero_le _, by omega, rfl, World.ownsRow_nil _ _ _ _, Upd.refl _ _⟩
  case round =>
    obtain ⟨i, hi, hgi, rfl, hown, hu⟩ := hrel
    obtain ⟨Av, cv, hve, -⟩ := own_form hown
    subst hve
    by_cases hlt : i < n
    · obtain ⟨d, hri⟩ : ∃ r, ds[i]? = some r := ⟨_, List.getElem?_eq_getElem (by rw [← HN.out]; exact hlt)⟩
      obtain ⟨b, off, hAe, -, hb2, hcc⟩ := HA.out.2 (by rw [← HN.out]; omega)
      subst hAe
      have c0 : wr.cell? ⟨b, off + (i * 10 + 0), none⟩ = some (.int .u32 d.ssrc) := (hu.cell (p := ⟨b, off + (i * 10 + 0), none⟩) hb2 (by simp)).trans (hcc (i * 10 + 0) _ (flat_get encDn_len ds i 0 d hri (by omega)))
      have c1 : wr.cell? ⟨b, off + (i * 10 + 1), none⟩ = some (.int .i64 d.slot) := (hu.cell (p := ⟨b, off + (i * 10 + 1), none⟩) hb2 (by simp)).trans (hcc (i * 10 + 1) _ (flat_get encDn_len ds i 1 d hri (by omega)))
      have c2 : wr.cell? ⟨b, off + (i * 10 + 2), none⟩ = some (.int .u32 d.turn) := (hu.cell (p := ⟨b, off + (i * 10 + 2), none⟩) hb2 (by simp)).trans (hcc (i * 10 + 2) _ (flat_get encDn_len ds i 2 d hri (by omega)))
      have c3 : wr.cell? ⟨b, off + (i * 10 + 3), none⟩ = some (.int .i64 d.who) := (hu.cell (p := ⟨b, off + (i * 10 + 3), none⟩) hb2 (by simp)).trans (hcc (i * 10 + 3) _ (flat_get encDn_len ds i 3 d hri (by omega)))
      have c4 : wr.cell? ⟨b, off + (i * 10 + 4), none⟩ = some (.int .i64 d.track) := (hu.cell (p := ⟨b, off + (i * 10 + 4), none⟩) hb2 (by simp)).trans (hcc (i * 10 + 4) _ (flat_get encDn_len ds i 4 d hri (by omega)))
      have c5 : wr.cell? ⟨b, off + (i * 10 + 5), none⟩ = some (.int .i64 d.shard) := (hu.cell (p := ⟨b, off + (i * 10 + 5), none⟩) hb2 (by simp)).trans (hcc (i * 10 + 5) _ (flat_get encDn_len ds i 5 d hri (by omega)))
      have c6 : wr.cell? ⟨b, off + (i * 10 + 6), none⟩ = some (.int .i64 d.src) := (hu.cell (p := ⟨b, off + (i * 10 + 6), none⟩) hb2 (by simp)).trans (hcc (i * 10 + 6) _ (flat_get encDn_len ds i 6 d hri (by omega)))
      have c7 : wr.cell? ⟨b, off + (i * 10 + 7), none⟩ = some (.int .i64 d.layer) := (hu.cell (p := ⟨b, off + (i * 10 + 7), none⟩) hb2 (by simp)).trans (hcc (i * 10 + 7) _ (flat_get encDn_len ds i 7 d hri (by omega)))
      have c8 : wr.cell? ⟨b, off + (i * 10 + 8), none⟩ = some (.int .i64 d.tid) := (hu.cell (p := ⟨b, off + (i * 10 + 8), none⟩) hb2 (by simp)).trans (hcc (i * 10 + 8) _ (flat_get encDn_len ds i 8 d hri (by omega)))
      have c9 : wr.cell? ⟨b, off + (i * 10 + 9), none⟩ = some (.bool d.muted) := (hu.cell (p := ⟨b, off + (i * 10 + 9), none⟩) hb2 (by simp)).trans (hcc (i * 10 + 9) _ (flat_get encDn_len ds i 9 d hri (by omega)))
      simp only [← Nat.add_assoc, Nat.add_zero] at c0 c1 c2 c3 c4 c5 c6 c7 c8 c9
      have hlti : (i : Int) < (n : Int) := by omega
      have hwi : IntKind.i64.wrap ((i : Int) + 1) = (i : Int) + 1 := IntWalk.i64_in _ (by omega)
      have HTK := Lib.hid (take_snocD hri)
      obtain ⟨lo, hlo⟩ : ∃ l, l = ds.take i := ⟨_, rfl⟩
      rw [← hlo] at hown HTK
      have HGI := Lib.hid hgi
      have HU := Lib.hid hu
      have HOW := Lib.hid hown
      clear hown hu hcc hb2 hri hlo hgi
      have HDN := Lib.hid (down_any wr d)
      go_wp2_with fail
      refine HDN.out.mono ?_
      rintro _ wq ⟨rfl, uq⟩
      clear HDN
      have HOA : Hid ((wq.alloc (.cells #[.int .u32 d.ssrc, .int .i64 d.slot, .int .u32 d.turn, .int .i64 d.who, .int .i64 d.track, .int .i64 d.shard, .int .i64 d.src, .int .i64 d.layer, .int .i64 d.tid, .bool d.muted] 49)).ownsRow w.heap.size 49 10 (.slice Av i cv) i (lo.flatMap encDn)) := Lib.hid ((ownsRow_upd HOW.out uq (by simp)).alloc _)
      have HU3 : Hid (Upd [] w (wq.alloc (.cells #[.int .u32 d.ssrc, .int .i64 d.slot, .int .u32 d.turn, .int .i64 d.who, .int .i64 d.track, .int .i64 d.shard, .int .i64 d.src, .int .i64 d.layer, .int .i64 d.tid, .bool d.muted] 49))) := Lib.hid ((HU.out.next uq).alloc _)
      have HNEW := Lib.hid (blk_srcT (Blk.new wq 49 #[.int .u32 d.ssrc, .int .i64 d.slot, .int .u32 d.turn, .int .i64 d.who, .int .i64 d.track, .int .i64 d.shard, .int .i64 d.src, .int .i64 d.layer, .int .i64 d.tid, .bool d.muted]))
      have HONE : Hid (∀ u ∈ ([.int .u32 d.ssrc, .int .i64 d.slot, .int .u32 d.turn, .int .i64 d.who, .int .i64 d.track, .int .i64 d.shard, .int .i64 d.src, .int .i64 d.layer, .int .i64 d.tid, .bool d.muted] : List Value), u.oneCell' = true) := Lib.hid (oneDn d)
      clear uq
      go_wp2_with (at_builtin; refine wpList_append_own_at _ rfl (.tmp 11) (.tmp 17) 34 rfl w.heap.size 49 j0 _ 10 80 Try.underlying34 hj0 hy0 hy1 hy2 rfl (by decide) (.slice Av i cv) i (lo.flatMap encDn) rfl HOA.out ⟨wq.heap.size, 0, none⟩ 1 1 [.int .u32 d.ssrc, .int .i64 d.slot, .int .u32 d.turn, .int .i64 d.who, .int .i64 d.track, .int .i64 d.shard, .int .i64 d.src, .int .i64 d.layer, .int .i64 d.tid, .bool d.muted] rfl rfl HNEW.out HONE.out (by unfold maxLen; omega) (by omega) HU3.out.size ?_)
      intro v8 w8 hown8 hg8 _ _
      have HREL : Hid (w8.ownsRow w.heap.size 49 10 v8 (i + 1) ((ds.take (i + 1)).flatMap encDn)) := Lib.hid (by
        rw [HTK.out, List.flatMap_append]
        have e : [d].flatMap encDn = encDn d := by simp
        rw [e]
        exact hown8)
      have HU8 := Lib.hid (app_updT HU3.out HOA.out hg8 (Nat.le_refl _))
      obtain ⟨A8, q8, hv8, -⟩ := own_form hown8
      subst hv8
      clear hown8 hg8 HOA HU3 HNEW c0 c1 c2 c3 c4 c5 c6 c7 c8 c9
      go_wp2
      go_roundg (gk - 1)
      case measure => have := HGI.out; omega
      case rel => exact ⟨i + 1, by omega, by have := HGI.out; omega, by go_num, HREL.out, HU8.out⟩
    obtain rfl : n = i := by omega
    have HFIN : Hid (wr.ownsRow w.heap.size 49 10 (.slice Av n cv) n (ds.flatMap encDn) ∧ Upd [] w wr) := Lib.hid (by
      have e : ds.take n = ds := by rw [HN.out, List.take_length]
      rw [e] at hown
      exact ⟨hown, hu⟩)
    clear hown hu hgi hi hlt
    go_wp2
    refine bodyPost_res (v := .slice Av n cv) (by simp [results, Try.results11, go_sem]) rfl ?_
    exact ⟨_, rfl, HFIN.out⟩
end Go.Proofs.Yteljkdihlklliaa
/- The document's May. Conditions: numbers of their types; no more than 1000. (Written by wip/gen/tablemay.py.) -/
namespace Go.Proofs.Yteljkdihlklliaa
open Go Go.RowKit Go.Maps Go.WideMaps
set_option maxHeartbeats 400000
theorem eq_ref {a b c d : Int} (ha : I64 a) (hb : U32n b) (hc : I64 c) (hd : U32n d) : ∃ r : Bool, (∀ w : World, (binOp .eql 39 (.agg #[.int .i64 a, .int .u32 b]) (.agg #[.int .i64 c, .int .u32 d])).run Try.prog w = .ok (.bool r) w) ∧ (r = true ↔ a = c ∧ b = d) := by
  classical
  have h1 := keyOf_R (wf_i ha) (wf_u hb)
  have h2 := keyOf_R (wf_i hc) (wf_u hd)
  refine ⟨decide (kR a b = kR c d), fun w => ?_, ?_⟩
  · obtain ⟨r, hr, hi⟩ := run_equal_deep w (m := 2) (by omega) (k := 39) (by kernel_rfl) (by rw [Try.underlying39]) h1 h2
    have e : r = decide (kR a b = kR c d) := by
      rw [Bool.eq_iff_iff, hi]; simp
    subst e
    simp [binOp, hr, Result.andThen]
  · rw [decide_eq_true_iff]
    constructor
    · intro h
      have := kR_inj ha hb hc hd h
      exact ⟨congrArg Prod.fst this, congrArg Prod.snd this⟩
    · rintro ⟨rfl, rfl⟩; rfl
/-- the first i are fit, and no two of them clash -/
def Pre {α : Type} (low : α → Prop) (cl : α → α → Prop) (l : List α) (i : Nat) : Prop :=
  (∀ j a, j < i → l[j]? = some a → low a) ∧ ∀ j k a b, k < j → j < i → l[j]? = some a → l[k]? = some b → ¬ cl a b
theorem Pre.zero {α : Type} {low : α → Prop} {cl : α → α → Prop} {l : List α} : Pre low cl l 0 := ⟨fun j a h => absurd h (Nat.not_lt_zero j), fun j k a b _ h => absurd h (Nat.not_lt_zero j)⟩
theorem Pre.succ {α : Type} {low : α → Prop} {cl : α → α → Prop} {l : List α} {i : Nat} {x : α} (h : Pre low cl l i) (hx : l[i]? = some x) (hl : low x) (hc : ∀ k b, k < i → l[k]? = some b → ¬ cl x b) : Pre low cl l (i + 1) := by
  refine ⟨fun j a hj ha => ?_, fun j k a b hk hj ha hb => ?_⟩
  · by_cases e : j = i
    · subst e
      rw [hx] at ha
      obtain rfl := Option.some.inj ha
      exact hl
    · exact h.1 j a (by omega) ha
  · by_cases e : j = i
    · subst e
      rw [hx] at ha
      obtain rfl := Option.some.inj ha
      exact hc k b hk hb
    · exact h.2 j k a b hk (by omega) ha hb
def lowR (r : Rt) : Prop := r.ssrc ≤ 2147483647
def lowD (d : Dn) : Prop := 2147483648 ≤ d.ssrc
def clR (a b : Rt) : Prop := a.ssrc = b.ssrc ∨ (a.track = b.track ∧ a.layer = b.layer)
def clD (a b : Dn) : Prop := a.ssrc = b.ssrc ∨ (a.slot = b.slot ∧ a.turn = b.turn) ∨ (a.who = b.who ∧ a.track = b.track)
theorem pre_mayR {rs : List Rt} : Pre lowR clR rs rs.length ↔ MayR rs := by
  constructor
  · intro h
    refine ⟨fun r hr => ?_, uniq_of fun i k a b hk ha hb e => ?_, uniq_of fun i k a b hk ha hb e => ?_⟩
    · obtain ⟨j, hj⟩ := List.mem_iff_getElem?.1 hr
      exact h.1 j r (List.getElem?_eq_some_iff.1 hj).1 hj
    · exact h.2 i k a b hk (List.getElem?_eq_some_iff.1 ha).1 ha hb (.inl e)
    · injection e with e1 e2
      exact h.2 i k a b hk (List.getElem?_eq_some_iff.1 ha).1 ha hb (.inr ⟨e1, e2⟩)
  · intro h
    refine ⟨fun j a _ ha => h.low a (List.mem_of_getElem? ha), fun j k a b hk _ ha hb e => ?_⟩
    rcases e with e | ⟨e1, e2⟩
    · have := h.one.ne ha hb e; omega
    · have := h.lay.ne ha hb (by rw [e1, e2]); omega
theorem pre_mayD {ds : List Dn} : Pre lowD clD ds ds.length ↔ MayD ds := by
  constructor
  · intro h
    refine ⟨fun r hr => ?_, uniq_of fun i k a b hk ha hb e => ?_, uniq_of fun i k a b hk ha hb e => ?_, uniq_of fun i k a b hk ha hb e => ?_⟩
    · obtain ⟨j, hj⟩ := List.mem_iff_getElem?.1 hr
      exact h.1 j r (List.getElem?_eq_some_iff.1 hj).1 hj
    · exact h.2 i k a b hk (List.getElem?_eq_some_iff.1 ha).1 ha hb (.inl e)
    · injection e with e1 e2
      exact h.2 i k a b hk (List.getElem?_eq_some_iff.1 ha).1 ha hb (.inr (.inl ⟨e1, e2⟩))
    · injection e with e1 e2
      exact h.2 i k a b hk (List.getElem?_eq_some_iff.1 ha).1 ha hb (.inr (.inr ⟨e1, e2⟩))
  · intro h
    refine ⟨fun j a _ ha => h.high a (List.mem_of_getElem? ha), fun j k a b hk _ ha hb e => ?_⟩
    rcases e with e | ⟨e1, e2⟩ | ⟨e1, e2⟩
    · have := h.one.ne ha hb e; omega
    · have := h.ref.ne ha hb (by rw [e1, e2]); omega
    · have := h.who.ne ha hb (by rw [e1, e2]); omega
set_option maxRecDepth 100000 in
set_option maxHeartbeats 4000000 in
theorem rmay_any {w : World} {A B : Option Addr} {ca cb : Nat} {rs : List Rt} {ds : List Dn} (hA : CellsIn w 0 w.heap.size 5 A rs.length (rs.flatMap encRt)) (hB : CellsIn w 0 w.heap.size 10 B ds.length (ds.flatMap encDn))
    (hd : ∀ d, d ∈ ds → d.Ok) (hlr : rs.length ≤ 1000) (hld : ds.length ≤ 1000) :
    Calls Try.prog 9 #[.slice A rs.length ca, .slice B ds.length cb] w fun e w' => ∃ b : Bool, e = .returned (.bool b) ∧ (b = true ↔ MayR rs ∧ MayD ds) ∧ Upd [] w w' := by
  have HA := Lib.hid hA
  have HB := Lib.hid hB
  have HD := Lib.hid hd
  obtain ⟨n, hn⟩ : ∃ n, n = rs.length := ⟨_, rfl⟩
  obtain ⟨m, hm⟩ : ∃ m, m = ds.length := ⟨_, rfl⟩
  rw [← hn] at hlr ⊢
  rw [← hm] at hld ⊢
  have HN := Lib.hid hn
  have HM := Lib.hid hm
  clear hA hB hd hn hm
  go_enter Try.func9, Try.ntmps9
  go_wp2
  go_loopg [5] n (fun gk xi wr => ∃ i : Nat, i ≤ n ∧ n ≤ i + gk ∧ xi = .int .i64 i ∧ Pre lowR clR rs i ∧ Upd [] w wr)
  case atStart => exact ⟨0, Nat.zero_le _, by omega, rfl, Pre.zero, Upd.refl _ _⟩
  case round =>
    obtain ⟨i, hi, hgi, rfl, hpre, hu⟩ := hrel
    by_cases hlt : i < n
    · obtain ⟨r, hri⟩ : ∃ r, rs[i]? = some r := ⟨_, List.getElem?_eq_getElem (by rw [← HN.out]; exact hlt)⟩
      obtain ⟨b, off, hAe, -, hb2, hcc⟩ := HA.out.2 (by rw [← HN.out]; omega)
      subst hAe
      have HBB := Lib.hid hb2
      have HCC := Lib.hid hcc
      have c0 : wr.cell? ⟨b, off + (i * 5 + 0), none⟩ = some (.int .u32 r.ssrc) := (hu.cell (p := ⟨b, off + (i * 5 + 0), none⟩) HBB.out (by simp)).trans (HCC.out (i * 5 + 0) _ (flat_get encRt_len rs i 0 r hri (by omega)))
      have c1 : wr.cell? ⟨b, off + (i * 5 + 1), none⟩ = some (.int .i64 r.track) := (hu.cell (p := ⟨b, off + (i * 5 + 1), none⟩) HBB.out (by simp)).trans (HCC.out (i * 5 + 1) _ (flat_get encRt_len rs i 1 r hri (by omega)))
      have c3 : wr.cell? ⟨b, off + (i * 5 + 3), none⟩ = some (.int .i64 r.layer) := (hu.cell (p := ⟨b, off + (i * 5 + 3), none⟩) HBB.out (by simp)).trans (HCC.out (i * 5 + 3) _ (flat_get encRt_len rs i 3 r hri (by omega)))
      simp only [← Nat.add_assoc, Nat.add_zero] at c0 c1 c3
      have hlti : (i : Int) < (n : Int) := by omega
      have hwi : IntKind.i64.wrap ((i : Int) + 1) = (i : Int) + 1 := IntWalk.i64_in _ (by omega)
      have HRI := Lib.hid hri
      have HPRE := Lib.hid hpre
      have HU := Lib.hid hu
      have HGI := Lib.hid hgi
      clear hri hpre hu hgi hb2 hcc
      by_cases hlow : (2147483647 : Int) < r.ssrc
      · have HNO : Hid (¬ (MayR rs ∧ MayD ds)) := Lib.hid (fun h => by have := (pre_mayR.2 h.1).1 i _ (by rw [← HN.out]; exact hlt) HRI.out; unfold lowR at this; omega)
        go_wp2
        refine bodyPost_res (v := .bool false) (by simp [results, Try.results9, go_sem]) rfl ?_
        first
          | exact ⟨false, rfl, ⟨(fun h => by cases h), fun h => absurd h HNO.out⟩, HU.out⟩
          | exact .inl ⟨rfl, fun h1 h2 => HNO.out ⟨h1, h2⟩, HU.out⟩
      have HLOW : Hid (lowR r) := Lib.hid (by unfold lowR; omega)
      obtain ⟨wi, rfl⟩ : ∃ z : World, z = wr := ⟨wr, rfl⟩
      obtain ⟨g0, rfl⟩ : ∃ g : Nat, g = gk := ⟨gk, rfl⟩
      go_wp2
      clear c0 c1 c3
      go_loopg [6] i (fun gq xk wq => ∃ k : Nat, k ≤ i ∧ i ≤ k + gq ∧ xk = .int .i64 k ∧ (∀ j b, j < k → rs[j]? = some b → ¬ clR r b) ∧ Upd [] w wq)
      case atStart => exact ⟨0, Nat.zero_le _, by omega, rfl, fun j b h => absurd h (Nat.not_lt_zero j), HU.out⟩
      case round =>
        obtain ⟨k, hk, hgk, rfl, hno, huk⟩ := hrel
        clear HU
        by_cases hkl : k < i
        · obtain ⟨y, hyk⟩ : ∃ y, rs[k]? = some y := ⟨_, List.getElem?_eq_getElem (by rw [← HN.out]; omega)⟩
          have c0 : wr.cell? ⟨b, off + (i * 5 + 0), none⟩ = some (.int .u32 r.ssrc) := (huk.cell (p := ⟨b, off + (i * 5 + 0), none⟩) HBB.out (by simp)).trans (HCC.out (i * 5 + 0) _ (flat_get encRt_len rs i 0 r HRI.out (by omega)))
          have c1 : wr.cell? ⟨b, off + (i * 5 + 1), none⟩ = some (.int .i64 r.track) := (huk.cell (p := ⟨b, off + (i * 5 + 1), none⟩) HBB.out (by simp)).trans (HCC.out (i * 5 + 1) _ (flat_get encRt_len rs i 1 r HRI.out (by omega)))
          have c3 : wr.cell? ⟨b, off + (i * 5 + 3), none⟩ = some (.int .i64 r.layer) := (huk.cell (p := ⟨b, off + (i * 5 + 3), none⟩) HBB.out (by simp)).trans (HCC.out (i * 5 + 3) _ (flat_get encRt_len rs i 3 r HRI.out (by omega)))
          simp only [← Nat.add_assoc, Nat.add_zero] at c0 c1 c3
          have e0 : wr.cell? ⟨b, off + (k * 5 + 0), none⟩ = some (.int .u32 y.ssrc) := (huk.cell (p := ⟨b, off + (k * 5 + 0), none⟩) HBB.out (by simp)).trans (HCC.out (k * 5 + 0) _ (flat_get encRt_len rs k 0 y hyk (by omega)))
          have e1 : wr.cell? ⟨b, off + (k * 5 + 1), none⟩ = some (.int .i64 y.track) := (huk.cell (p := ⟨b, off + (k * 5 + 1), none⟩) HBB.out (by simp)).trans (HCC.out (k * 5 + 1) _ (flat_get encRt_len rs k 1 y hyk (by omega)))
          have e3 : wr.cell? ⟨b, off + (k * 5 + 3), none⟩ = some (.int .i64 y.layer) := (huk.cell (p := ⟨b, off + (k * 5 + 3), none⟩) HBB.out (by simp)).trans (HCC.out (k * 5 + 3) _ (flat_get encRt_len rs k 3 y hyk (by omega)))
          simp only [← Nat.add_assoc, Nat.add_zero] at e0 e1 e3
          have hlk : (k : Int) < (i : Int) := by omega
          have hlkn : (k : Int) < (n : Int) := by omega
          have hwk : IntKind.i64.wrap ((k : Int) + 1) = (k : Int) + 1 := IntWalk.i64_in _ (by omega)
          have HYK := Lib.hid hyk
          have HNOK := Lib.hid hno
          have HUK := Lib.hid huk
          have HGK := Lib.hid hgk
          obtain ⟨bc, hbc⟩ : ∃ z : Bool, (z = true ↔ clR r y) := by classical exact ⟨decide (clR r y), decide_eq_true_iff⟩
          have HBC := Lib.hid hbc
          clear hyk hno huk hgk hbc
          go_upto_region 9 with fail
          go_cut [62] (fun v wd => v = .bool bc ∧ Upd [] w wd)
          case first =>
            by_cases h1 : r.ssrc = y.ssrc
            · have HV : Hid (bc = true) := Lib.hid (HBC.out.2 (.inl h1))
              have e1 : (r.ssrc == y.ssrc) = true := by simp [h1]
              clear h1
              refine wp_quiet_tail 36 (by kernel_rfl) (by kernel_rfl) (fun _ _ _ _ h => h) ?_
              simp only [List.take_succ_cons, List.take_zero, List.drop_succ_cons, List.drop_zero]
              repeat (go_big_quiet_step (fail))
              refine wpQuiet_nil ?_
              rintro _ ⟨nq, rfl⟩
              go_wp2
              go_meet
              case rel => exact ⟨by rw [HV.out], HUK.out.drewN nq⟩
            by_cases h2 : r.track = y.track
            · have HV : Hid (bc = (r.layer == y.layer)) := Lib.hid (by rw [Bool.eq_iff_iff, HBC.out]; unfold clR; simp [h1, h2])
              have e1 : (r.ssrc == y.ssrc) = false := beq_eq_false_iff_ne.2 h1
              have e2 : (r.track == y.track) = true := by simp [h2]
              clear h1 h2
              refine wp_quiet_tail 36 (by kernel_rfl) (by kernel_rfl) (fun _ _ _ _ h => h) ?_
              simp only [List.take_succ_cons, List.take_zero, List.drop_succ_cons, List.drop_zero]
              repeat (go_big_quiet_step (fail))
              refine wpQuiet_nil ?_
              rintro _ ⟨nq, rfl⟩
              go_wp2
              go_meet
              case rel => exact ⟨by rw [HV.out], HUK.out.drewN nq⟩
            have HV : Hid (bc = false) := Lib.hid (by rw [Bool.eq_iff_iff, HBC.out]; unfold clR; simp [h1, h2])
            have e1 : (r.ssrc == y.ssrc) = false := beq_eq_false_iff_ne.2 h1
            have e2 : (r.track == y.track) = false := beq_eq_false_iff_ne.2 h2
            clear h1 h2
            refine wp_quiet_tail 36 (by kernel_rfl) (by kernel_rfl) (fun _ _ _ _ h => h) ?_
            simp only [List.take_succ_cons, List.take_zero, List.drop_succ_cons, List.drop_zero]
            repeat (go_big_quiet_step (fail))
            refine wpQuiet_nil ?_
            rintro _ ⟨nq, rfl⟩
            go_wp2
            go_meet
            case rel => exact ⟨by rw [HV.out], HUK.out.drewN nq⟩
          obtain ⟨rfl, hud⟩ := hcut
          have HUD := Lib.hid hud
          clear hud c0 e0 c1 e1 c3 e3
          cases bc with
          | true =>
            have HNO : Hid (¬ (MayR rs ∧ MayD ds)) := Lib.hid (fun h => (pre_mayR.2 h.1).2 i k _ _ hkl (by rw [← HN.out]; exact hlt) HRI.out HYK.out (HBC.out.1 rfl))
            go_wp2
            refine bodyPost_res (v := .bool false) (by simp [results, Try.results9, go_sem]) rfl ?_
            first
              | exact ⟨false, rfl, ⟨(fun h => by cases h), fun h => absurd h HNO.out⟩, HUD.out⟩
              | exact .inl ⟨rfl, fun h1 h2 => HNO.out ⟨h1, h2⟩, HUD.out⟩
          | false =>
            have HNX : Hid (∀ j b, j < k + 1 → rs[j]? = some b → ¬ clR r b) := Lib.hid (fun j b hj hb hc => by
              by_cases e : j = k
              · subst e
                rw [HYK.out] at hb
                obtain rfl := Option.some.inj hb
                have := HBC.out.2 hc
                cases this
              · exact HNOK.out j b (by omega) hb hc)
            go_wp2
            go_roundg (gk - 1)
            case measure => have := HGK.out; omega
            case rel => exact ⟨k + 1, by omega, by have := HGK.out; omega, by go_num, HNX.out, HUD.out⟩
        obtain rfl : i = k := by omega
        have HPX := Lib.hid (HPRE.out.succ HRI.out HLOW.out hno)
        have HUX := Lib.hid huk
        have hkl2 : ¬ ((i : Int) < (i : Int)) := by omega
        clear hno huk hgk hk hkl
        go_wp2
        go_roundg (g0 - 1)
        case measure => have := HGI.out; omega
        case rel => exact ⟨i + 1, by omega, by have := HGI.out; omega, by go_num, HPX.out, HUX.out⟩
    obtain rfl : n = i := by omega
    have HMR : Hid (MayR rs) := Lib.hid (pre_mayR.1 (by rw [← HN.out]; exact hpre))
    have HU1 := Lib.hid hu
    have hnl : ¬ ((n : Int) < (n : Int)) := by omega
    clear hpre hu hgi hi hlt
    go_wp2
    go_loopg [7] m (fun gk xi wr => ∃ i : Nat, i ≤ m ∧ m ≤ i + gk ∧ xi = .int .i64 i ∧ Pre lowD clD ds i ∧ Upd [] w wr)
    case atStart => exact ⟨0, Nat.zero_le _, by omega, rfl, Pre.zero, HU1.out⟩
    case round =>
      obtain ⟨i, hi, hgi, rfl, hpre, hu⟩ := hrel
      clear HU1
      by_cases hlt : i < m
      · obtain ⟨d, hri⟩ : ∃ r, ds[i]? = some r := ⟨_, List.getElem?_eq_getElem (by rw [← HM.out]; exact hlt)⟩
        obtain ⟨b, off, hAe, -, hb2, hcc⟩ := HB.out.2 (by rw [← HM.out]; omega)
        subst hAe
        have HBB := Lib.hid hb2
        have HCC := Lib.hid hcc
        have c0 : wr.cell? ⟨b, off + (i * 10 + 0), none⟩ = some (.int .u32 d.ssrc) := (hu.cell (p := ⟨b, off + (i * 10 + 0), none⟩) HBB.out (by simp)).trans (HCC.out (i * 10 + 0) _ (flat_get encDn_len ds i 0 d hri (by omega)))
        have c1 : wr.cell? ⟨b, off + (i * 10 + 1), none⟩ = some (.int .i64 d.slot) := (hu.cell (p := ⟨b, off + (i * 10 + 1), none⟩) HBB.out (by simp)).trans (HCC.out (i * 10 + 1) _ (flat_get encDn_len ds i 1 d hri (by omega)))
        have c2 : wr.cell? ⟨b, off + (i * 10 + 2), none⟩ = some (.int .u32 d.turn) := (hu.cell (p := ⟨b, off + (i * 10 + 2), none⟩) HBB.out (by simp)).trans (HCC.out (i * 10 + 2) _ (flat_get encDn_len ds i 2 d hri (by omega)))
        have c3 : wr.cell? ⟨b, off + (i * 10 + 3), none⟩ = some (.int .i64 d.who) := (hu.cell (p := ⟨b, off + (i * 10 + 3), none⟩) HBB.out (by simp)).trans (HCC.out (i * 10 + 3) _ (flat_get encDn_len ds i 3 d hri (by omega)))
        have c4 : wr.cell? ⟨b, off + (i * 10 + 4), none⟩ = some (.int .i64 d.track) := (hu.cell (p := ⟨b, off + (i * 10 + 4), none⟩) HBB.out (by simp)).trans (HCC.out (i * 10 + 4) _ (flat_get encDn_len ds i 4 d hri (by omega)))
        simp only [← Nat.add_assoc, Nat.add_zero] at c0 c1 c2 c3 c4
        have hlti : (i : Int) < (m : Int) := by omega
        have hwi : IntKind.i64.wrap ((i : Int) + 1) = (i : Int) + 1 := IntWalk.i64_in _ (by omega)
        have HRI := Lib.hid hri
        have HPRE := Lib.hid hpre
        have HU := Lib.hid hu
        have HGI := Lib.hid hgi
        clear hri hpre hu hgi hb2 hcc
        by_cases hlow : d.ssrc < (2147483648 : Int)
        · have HNO : Hid (¬ (MayR rs ∧ MayD ds)) := Lib.hid (fun h => by have := (pre_mayD.2 h.2).1 i _ (by rw [← HM.out]; exact hlt) HRI.out; unfold lowD at this; omega)
          go_wp2
          refine bodyPost_res (v := .bool false) (by simp [results, Try.results9, go_sem]) rfl ?_
          first
            | exact ⟨false, rfl, ⟨(fun h => by cases h), fun h => absurd h HNO.out⟩, HU.out⟩
            | exact .inl ⟨rfl, fun h1 h2 => HNO.out ⟨h1, h2⟩, HU.out⟩
        have HLOW : Hid (lowD d) := Lib.hid (by unfold lowD; omega)
        obtain ⟨wi, rfl⟩ : ∃ z : World, z = wr := ⟨wr, rfl⟩
        obtain ⟨g0, rfl⟩ : ∃ g : Nat, g = gk := ⟨gk, rfl⟩
        go_wp2
        clear c0 c1 c2 c3 c4
        go_loopg [8] i (fun gq xk wq => ∃ k : Nat, k ≤ i ∧ i ≤ k + gq ∧ xk = .int .i64 k ∧ (∀ j b, j < k → ds[j]? = some b → ¬ clD d b) ∧ Upd [] w wq)
        case atStart => exact ⟨0, Nat.zero_le _, by omega, rfl, fun j b h => absurd h (Nat.not_lt_zero j), HU.out⟩
        case round =>
          obtain ⟨k, hk, hgk, rfl, hno, huk⟩ := hrel
          clear HU
          by_cases hkl : k < i
          · obtain ⟨y, hyk⟩ : ∃ y, ds[k]? = some y := ⟨_, List.getElem?_eq_getElem (by rw [← HM.out]; omega)⟩
            have c0 : wr.cell? ⟨b, off + (i * 10 + 0), none⟩ = some (.int .u32 d.ssrc) := (huk.cell (p := ⟨b, off + (i * 10 + 0), none⟩) HBB.out (by simp)).trans (HCC.out (i * 10 + 0) _ (flat_get encDn_len ds i 0 d HRI.out (by omega)))
            have c1 : wr.cell? ⟨b, off + (i * 10 + 1), none⟩ = some (.int .i64 d.slot) := (huk.cell (p := ⟨b, off + (i * 10 + 1), none⟩) HBB.out (by simp)).trans (HCC.out (i * 10 + 1) _ (flat_get encDn_len ds i 1 d HRI.out (by omega)))
            have c2 : wr.cell? ⟨b, off + (i * 10 + 2), none⟩ = some (.int .u32 d.turn) := (huk.cell (p := ⟨b, off + (i * 10 + 2), none⟩) HBB.out (by simp)).trans (HCC.out (i * 10 + 2) _ (flat_get encDn_len ds i 2 d HRI.out (by omega)))
            have c3 : wr.cell? ⟨b, off + (i * 10 + 3), none⟩ = some (.int .i64 d.who) := (huk.cell (p := ⟨b, off + (i * 10 + 3), none⟩) HBB.out (by simp)).trans (HCC.out (i * 10 + 3) _ (flat_get encDn_len ds i 3 d HRI.out (by omega)))
            have c4 : wr.cell? ⟨b, off + (i * 10 + 4), none⟩ = some (.int .i64 d.track) := (huk.cell (p := ⟨b, off + (i * 10 + 4), none⟩) HBB.out (by simp)).trans (HCC.out (i * 10 + 4) _ (flat_get encDn_len ds i 4 d HRI.out (by omega)))
            simp only [← Nat.add_assoc, Nat.add_zero] at c0 c1 c2 c3 c4
            have e0 : wr.cell? ⟨b, off + (k * 10 + 0), none⟩ = some (.int .u32 y.ssrc) := (huk.cell (p := ⟨b, off + (k * 10 + 0), none⟩) HBB.out (by simp)).trans (HCC.out (k * 10 + 0) _ (flat_get encDn_len ds k 0 y hyk (by omega)))
            have e1 : wr.cell? ⟨b, off + (k * 10 + 1), none⟩ = some (.int .i64 y.slot) := (huk.cell (p := ⟨b, off + (k * 10 + 1), none⟩) HBB.out (by simp)).trans (HCC.out (k * 10 + 1) _ (flat_get encDn_len ds k 1 y hyk (by omega)))
            have e2 : wr.cell? ⟨b, off + (k * 10 + 2), none⟩ = some (.int .u32 y.turn) := (huk.cell (p := ⟨b, off + (k * 10 + 2), none⟩) HBB.out (by simp)).trans (HCC.out (k * 10 + 2) _ (flat_get encDn_len ds k 2 y hyk (by omega)))
            have e3 : wr.cell? ⟨b, off + (k * 10 + 3), none⟩ = some (.int .i64 y.who) := (huk.cell (p := ⟨b, off + (k * 10 + 3), none⟩) HBB.out (by simp)).trans (HCC.out (k * 10 + 3) _ (flat_get encDn_len ds k 3 y hyk (by omega)))
            have e4 : wr.cell? ⟨b, off + (k * 10 + 4), none⟩ = some (.int .i64 y.track) := (huk.cell (p := ⟨b, off + (k * 10 + 4), none⟩) HBB.out (by simp)).trans (HCC.out (k * 10 + 4) _ (flat_get encDn_len ds k 4 y hyk (by omega)))
            simp only [← Nat.add_assoc, Nat.add_zero] at e0 e1 e2 e3 e4
            have hlk : (k : Int) < (i : Int) := by omega
            have hlkn : (k : Int) < (m : Int) := by omega
            have hwk : IntKind.i64.wrap ((k : Int) + 1) = (k : Int) + 1 := IntWalk.i64_in _ (by omega)
            have HYK := Lib.hid hyk
            have HNOK := Lib.hid hno
            have HUK := Lib.hid huk
            have HGK := Lib.hid hgk
            have hod := HD.out d (List.mem_of_getElem? HRI.out)
            have hoy := HD.out y (List.mem_of_getElem? HYK.out)
            obtain ⟨re, hre, hri2⟩ := eq_ref hod.slot hod.turn hoy.slot hoy.turn
            have HRE := Lib.hid hri2
            clear hod hoy hri2
            obtain ⟨bc, hbc⟩ : ∃ z : Bool, (z = true ↔ clD d y) := by classical exact ⟨decide (clD d y), decide_eq_true_iff⟩
            have HBC := Lib.hid hbc
            clear hyk hno huk hgk hbc
            go_upto_region 19 with fail
            go_cut [129] (fun v wd => v = .bool bc ∧ Upd [] w wd)
            case first =>
              by_cases h1 : d.ssrc = y.ssrc
              · have HV : Hid (bc = true) := Lib.hid (HBC.out.2 (.inl h1))
                have e1 : (d.ssrc == y.ssrc) = true := by simp [h1]
                clear h1
                refine wp_quiet_tail 49 (by kernel_rfl) (by kernel_rfl) (fun _ _ _ _ h => h) ?_
                simp only [List.take_succ_cons, List.take_zero, List.drop_succ_cons, List.drop_zero]
                repeat (go_big_quiet_step (fail))
                refine wpQuiet_nil ?_
                rintro _ ⟨nq, rfl⟩
                go_wp2
                go_meet
                case rel => exact ⟨by rw [HV.out], HUK.out.drewN nq⟩
              have e1 : (d.ssrc == y.ssrc) = false := beq_eq_false_iff_ne.2 h1
              cases re with
              | true =>
                have HV : Hid (bc = true) := Lib.hid (HBC.out.2 (.inr (.inl (HRE.out.1 rfl))))
                clear h1
                refine wp_quiet_tail 49 (by kernel_rfl) (by kernel_rfl) (fun _ _ _ _ h => h) ?_
                simp only [List.take_succ_cons, List.take_zero, List.drop_succ_cons, List.drop_zero]
                repeat (go_big_quiet_step (fail))
                refine wpQuiet_nil ?_
                rintro _ ⟨nq, rfl⟩
                go_wp2
                go_meet
                case rel => exact ⟨by rw [HV.out], HUK.out.drewN nq⟩
              | false =>
                have h3 : ¬ (d.slot = y.slot ∧ d.turn = y.turn) := fun h => by have := HRE.out.2 h; cases this
                by_cases h2 : d.who = y.who
                · have HV : Hid (bc = (d.track == y.track)) := Lib.hid (by rw [Bool.eq_iff_iff, HBC.out]; unfold clD; simp [h1, h2, h3])
                  have e2 : (d.who == y.who) = true := by simp [h2]
                  clear h1 h2 h3
                  refine wp_quiet_tail 49 (by kernel_rfl) (by kernel_rfl) (fun _ _ _ _ h => h) ?_
                  simp only [List.take_succ_cons, List.take_zero, List.drop_succ_cons, List.drop_zero]
                  repeat (go_big_quiet_step (fail))
                  refine wpQuiet_nil ?_
                  rintro _ ⟨nq, rfl⟩
                  go_wp2
                  go_meet
                  case rel => exact ⟨by rw [HV.out], HUK.out.drewN nq⟩
                have HV : Hid (bc = false) := Lib.hid (by rw [Bool.eq_iff_iff, HBC.out]; unfold clD; simp [h1, h2, h3])
                have e2 : (d.who == y.who) = false := beq_eq_false_iff_ne.2 h2
                clear h1 h2 h3
                refine wp_quiet_tail 49 (by kernel_rfl) (by kernel_rfl) (fun _ _ _ _ h => h) ?_
                simp only [List.take_succ_cons, List.take_zero, List.drop_succ_cons, List.drop_zero]
                repeat (go_big_quiet_step (fail))
                refine wpQuiet_nil ?_
                rintro _ ⟨nq, rfl⟩
                go_wp2
                go_meet
                case rel => exact ⟨by rw [HV.out], HUK.out.drewN nq⟩
            obtain ⟨rfl, hud⟩ := hcut
            have HUD := Lib.hid hud
            clear hud c0 e0 c1 e1 c2 e2 c3 e3 c4 e4
            cases bc with
            | true =>
              have HNO : Hid (¬ (MayR rs ∧ MayD ds)) := Lib.hid (fun h => (pre_mayD.2 h.2).2 i k _ _ hkl (by rw [← HM.out]; exact hlt) HRI.out HYK.out (HBC.out.1 rfl))
              go_wp2
              refine bodyPost_res (v := .bool false) (by simp [results, Try.results9, go_sem]) rfl ?_
              first
                | exact ⟨false, rfl, ⟨(fun h => by cases h), fun h => absurd h HNO.out⟩, HUD.out⟩
                | exact .inl ⟨rfl, fun h1 h2 => HNO.out ⟨h1, h2⟩, HUD.out⟩
            | false =>
              have HNX : Hid (∀ j b, j < k + 1 → ds[j]? = some b → ¬ clD d b) := Lib.hid (fun j b hj hb hc => by
                by_cases e : j = k
                · subst e
                  rw [HYK.out] at hb
                  obtain rfl := Option.some.inj hb
                  have := HBC.out.2 hc
                  cases this
                · exact HNOK.out j b (by omega) hb hc)
              go_wp2
              go_roundg (gk - 1)
              case measure => have := HGK.out; omega
              case rel => exact ⟨k + 1, by omega, by have := HGK.out; omega, by go_num, HNX.out, HUD.out⟩
          obtain rfl : i = k := by omega
          have HPX := Lib.hid (HPRE.out.succ HRI.out HLOW.out hno)
          have HUX := Lib.hid huk
          have hkl2 : ¬ ((i : Int) < (i : Int)) := by omega
          clear hno huk hgk hk hkl
          go_wp2
          go_roundg (g0 - 1)
          case measure => have := HGI.out; omega
          case rel => exact ⟨i + 1, by omega, by have := HGI.out; omega, by go_num, HPX.out, HUX.out⟩
      obtain rfl : m = i := by omega
      have HMD : Hid (MayD ds) := Lib.hid (pre_mayD.1 (by rw [← HM.out]; exact hpre))
      have HU1 := Lib.hid hu
      have hnl2 : ¬ ((m : Int) < (m : Int)) := by omega
      clear hpre hu hgi hi hlt
      go_wp2
      refine bodyPost_res (v := .bool true) (by simp [results, Try.results9, go_sem]) rfl ?_
      first
        | exact ⟨true, rfl, ⟨fun _ => ⟨HMR.out, HMD.out⟩, fun _ => rfl⟩, HU1.out⟩
        | exact .inr ⟨rfl, ⟨HMR.out, HMD.out⟩, HU1.out⟩
end Go.Proofs.Yteljkdihlklliaa
/- TableMakes: the walk. Conditions: slices that came in; numbers of their types. (Written by wip/gen/tablemakes.py.) -/
namespace Go.Proofs.Yteljkdihlklliaa
open Go Go.RowKit Go.Maps
set_option maxHeartbeats 400000
/-- table.Make, with what the document compares it with -/
theorem make_tb2 {w : World} {A B : Option Addr} {ca cb : Nat} {rs : List Rt} {ds : List Dn} (ep : Int) (hA : CellsIn w 0 w.heap.size 5 A rs.length (rs.flatMap encRt)) (hB : CellsIn w 0 w.heap.size 10 B ds.length (ds.flatMap encDn))
    (hr : ∀ r, r ∈ rs → r.Ok) (hd : ∀ d, d ∈ ds → d.Ok) (hlr : rs.length ≤ 1000) (hld : ds.length ≤ 1000) :
    Calls Try.prog 8 #[.int .u64 ep, .slice A rs.length ca, .slice B ds.length cb] w fun e w' => ∃ (v : Value) (er : Int) (b : Bool) (wrs : List Rt) (wds : List Dn) (want : Int), e = .returned (.tuple #[v, .int .i64 er]) ∧ Upd [] w w' ∧
      IsTb w' w.heap.size v want wrs wds ∧ (b = true ↔ MayR rs ∧ MayD ds) ∧
      ((b = true ∧ er = 0 ∧ (∃ T, v = .pointer (some ⟨T, 0, none⟩)) ∧ wrs = rs ∧ wds = ds ∧ want = ep) ∨ (b = false ∧ er = 1 ∧ v = .pointer none ∧ wrs = [] ∧ wds = [] ∧ want = 0)) := by
  refine (make_any (ca := ca) (cb := cb) ep hA hB hr hd hlr hld).mono ?_
  rintro e w' ⟨hu, ⟨hm, T, mr, md, rfl, ht⟩ | ⟨hm, rfl⟩⟩
  · exact ⟨_, 0, true, rs, ds, ep, rfl, hu, .inr ⟨T, mr, md, rfl, ht, hm⟩, ⟨fun _ => hm, fun _ => rfl⟩, .inl ⟨rfl, rfl, ⟨T, rfl⟩, rfl, rfl, rfl⟩⟩
  · exact ⟨_, 1, false, [], [], 0, rfl, hu, .inl ⟨rfl, rfl, rfl, rfl⟩, ⟨(fun h => by cases h), fun h => absurd h hm⟩, .inr ⟨rfl, rfl, rfl, rfl, rfl, rfl⟩⟩
set_option maxRecDepth 100000 in
set_option maxHeartbeats 8000000 in
theorem makes_any (A B : Option Addr) (ca cb : Nat) (rs : List Rt) (ds : List Dn) (ep ss tr ly : Int) (w : World) (hA : CellsIn w 0 w.heap.size 5 A rs.length (rs.flatMap encRt)) (hB : CellsIn w 0 w.heap.size 10 B ds.length (ds.flatMap encDn))
    (hr : ∀ r, r ∈ rs → r.Ok) (hd : ∀ d, d ∈ ds → d.Ok) (hss : U32n ss) :
    Calls Try.prog 3 #[.int .u64 ep, .slice A rs.length ca, .slice B ds.length cb, .int .u32 ss, .int .i64 tr, .int .i64 ly] w fun e w' => e = .returned (.bool true) ∧ Below w.heap.size w w' := by
  have HA := Lib.hid hA
  have HB := Lib.hid hB
  have HR := Lib.hid hr
  have HD := Lib.hid hd
  have HSS := Lib.hid hss
  have HAW := Lib.hid (awake_any w)
  clear hA hB hr hd hss
  obtain ⟨n, hn⟩ : ∃ n, n = rs.length := ⟨_, rfl⟩
  obtain ⟨m, hm⟩ : ∃ m, m = ds.length := ⟨_, rfl⟩
  rw [← hn, ← hm]
  have HN := Lib.hid hn
  have HM := Lib.hid hm
  clear hn hm
  go_enter Try.func3, Try.ntmps3
  go_wp2_with fail
  refine HAW.out.mono ?_
  rintro _ w1 ⟨rfl, hu1⟩
  have HU1 := Lib.hid hu1
  clear hu1 HAW
  by_cases g1 : (60 : Int) < (n : Int)
  · go_wp2
    exact bodyPost_res (v := .bool true) (by simp [results, Try.results3, go_sem]) rfl ⟨rfl, HU1.out.below (Nat.le_refl _) (by simp)⟩
  by_cases g2 : (60 : Int) < (m : Int)
  · go_wp2
    exact bodyPost_res (v := .bool true) (by simp [results, Try.results3, go_sem]) rfl ⟨rfl, HU1.out.below (Nat.le_refl _) (by simp)⟩
  have hn60 : n ≤ 60 := by omega
  have hm60 : m ≤ 60 := by omega
  have HMK := Lib.hid (make_tb2 (ca := ca) (cb := cb) ep (HA.out.later HU1.out) (HB.out.later HU1.out) HR.out HD.out (by rw [← HN.out]; omega) (by rw [← HM.out]; omega))
  rw [← HN.out, ← HM.out] at HMK
  go_wp2_with fail
  refine HMK.out.mono ?_
  rintro _ w2 ⟨v4, er, bm, wrs, wds, want, rfl, hu2, htb, hbm, hcs⟩
  have HU2 := Lib.hid (HU1.out.next hu2)
  have HTB := Lib.hid htb
  have HBM := Lib.hid hbm
  have HCS := Lib.hid hcs
  clear hu2 htb hbm hcs HMK HU1 g1 g2
  have HRC := Lib.hid (fun (W : World) (hW : Upd [] w W) => croutes_any (ca := ca) (HA.out.later hW) (by rw [← HN.out]; omega))
  have HDC := Lib.hid (fun (W : World) (hW : Upd [] w W) => cdowns_any (ca := cb) (HB.out.later hW) (by rw [← HM.out]; omega))
  rw [← HN.out] at HRC
  rw [← HM.out] at HDC
  go_wp2_with fail
  refine (HRC.out _ HU2.out).mono ?_
  rintro _ w3 ⟨v3, rfl, hown3, hu3⟩
  obtain ⟨A3, c3, hv3, -⟩ := own_form hown3
  subst hv3
  have HU3 := Lib.hid (HU2.out.next hu3)
  have HO3 := Lib.hid hown3
  have HTB3 := Lib.hid (HTB.out.upd hu3)
  clear hu3 hown3 HU2 HTB
  go_wp2_with fail
  refine (HDC.out _ HU3.out).mono ?_
  rintro _ w4 ⟨v5, rfl, hown4, hu4⟩
  obtain ⟨A4, c4, hv4, -⟩ := own_form hown4
  subst hv4
  have HU4 := Lib.hid (HU3.out.next hu4)
  have HTB4 := Lib.hid (HTB3.out.upd hu4)
  have HMY := Lib.hid (rmay_any (A := A3) (B := A4) (ca := c3) (cb := c4) (rs := rs) (ds := ds) (by rw [← HN.out]; exact CellsIn.of_row (ownsRow_upd HO3.out hu4 (by simp))) (by rw [← HM.out]; exact CellsIn.of_row hown4) HD.out (by rw [← HN.out]; omega) (by rw [← HM.out]; omega))
  rw [← HN.out, ← HM.out] at HMY
  clear hu4 hown4 HU3 HO3 HTB3
  go_wp2_with fail
  refine HMY.out.mono ?_
  rintro _ w5 ⟨b5, rfl, hb5, hu5⟩
  have hbb : b5 = bm := by rw [Bool.eq_iff_iff, hb5, HBM.out]
  subst hbb
  have HU5 := Lib.hid (HU4.out.next hu5)
  have HTB5 := Lib.hid (HTB4.out.upd hu5)
  clear hu5 hb5 HU4 HTB4 HMY HBM
  go_upto_region 8 with fail
  go_cut [78] (fun v wd => v = .bool false ∧ wd = w5)
  case first =>
    as_aux_lemma =>
      rcases HCS.out with ⟨rfl, rfl, ⟨T, rfl⟩, -⟩ | ⟨rfl, rfl, rfl, -⟩
      · go_wp2
        go_meet
        case rel => exact ⟨rfl, rfl⟩
      · go_wp2
        go_meet
        case rel => exact ⟨rfl, rfl⟩
  obtain ⟨rfl, hwd⟩ := hcut
  obtain rfl := hwd.symm
  obtain ⟨lr, hlr⟩ : ∃ k, k = wrs.length := ⟨_, rfl⟩
  obtain ⟨lx, hlx⟩ : ∃ k, k = wds.length := ⟨_, rfl⟩
  have HLR := Lib.hid hlr
  have HLX := Lib.hid hlx
  have hlr60 : lr ≤ 60 := by
    rw [hlr]
    rcases HCS.out with ⟨-, -, -, e, -⟩ | ⟨-, -, -, e, -⟩
    · rw [e, ← HN.out]; exact hn60
    · rw [e]; decide
  have hlx60 : lx ≤ 60 := by
    rw [hlx]
    rcases HCS.out with ⟨-, -, -, -, e, -⟩ | ⟨-, -, -, -, e, -⟩
    · rw [e, ← HM.out]; exact hm60
    · rw [e]; decide
  clear hlr hlx
  go_upto_if 79 with fail
  go_cut [17, 18, 19] (fun s17 s18 s19 wd => (∃ Ax cx, s17 = .slice Ax lr cx ∧ CellsIn wd 0 wd.heap.size 5 Ax lr (wrs.flatMap encRt)) ∧ (∃ Ax cx, s18 = .slice Ax lx cx ∧ CellsIn wd 0 wd.heap.size 10 Ax lx (wds.flatMap encDn)) ∧ s19 = .int .u64 want ∧ Upd [] w5 wd)
  case first =>
    as_aux_lemma =>
      obtain ⟨W5, rfl⟩ : ∃ z : World, z = w5 := ⟨w5, rfl⟩
      rcases HCS.out with ⟨rfl, -, -, e1, e2, rfl⟩ | ⟨rfl, -, -, e1, e2, rfl⟩
      · have HL1 : Hid (lr = n) := Lib.hid (by rw [HLR.out, e1, HN.out])
        have HL2 : Hid (lx = m) := Lib.hid (by rw [HLX.out, e2, HM.out])
        have HE1 := Lib.hid e1
        have HE2 := Lib.hid e2
        clear e1 e2
        go_wp2_with fail
        refine (HRC.out _ HU5.out).mono ?_
        rintro _ w6 ⟨v6, rfl, hown6, hu6⟩
        obtain ⟨A6, c6, hv6, -⟩ := own_form hown6
        subst hv6
        have HU6 := Lib.hid (HU5.out.next hu6)
        have HV6 := Lib.hid hu6
        have HO6 := Lib.hid hown6
        clear hu6 hown6
        go_wp2_with fail
        refine (HDC.out _ HU6.out).mono ?_
        rintro _ w7 ⟨v7, rfl, hown7, hu7⟩
        obtain ⟨A7, c7, hv7, -⟩ := own_form hown7
        subst hv7
        have HV7 := Lib.hid (HV6.out.next hu7)
        have HC6 := Lib.hid (CellsIn.of_row (ownsRow_upd HO6.out hu7 (by simp)))
        have HC7 := Lib.hid (CellsIn.of_row hown7)
        clear hu7 hown7 HO6 HV6 HU6
        go_wp2
        go_meet
        case rel => exact ⟨⟨A6, c6, by rw [HL1.out], by rw [HL1.out, HE1.out]; exact HC6.out⟩, ⟨A7, c7, by rw [HL2.out], by rw [HL2.out, HE2.out]; exact HC7.out⟩, rfl, HV7.out⟩
      · have HL1 : Hid (lr = 0) := Lib.hid (by rw [HLR.out, e1]; rfl)
        have HL2 : Hid (lx = 0) := Lib.hid (by rw [HLX.out, e2]; rfl)
        have HE1 := Lib.hid e1
        have HE2 := Lib.hid e2
        clear e1 e2
        go_wp2
        go_meet
        case rel => exact ⟨⟨none, 0, by rw [HL1.out], by rw [HL1.out, HE1.out]; exact CellsIn.nil _ _ _ _ _⟩, ⟨none, 0, by rw [HL2.out], by rw [HL2.out, HE2.out]; exact CellsIn.nil _ _ _ _ _⟩, rfl, Upd.refl _ _⟩
  obtain ⟨⟨A6, c6, rfl, hx⟩, ⟨A7, c7, rfl, hy⟩, rfl, hu8⟩ := hcut
  have HX := Lib.hid hx
  have HY := Lib.hid hy
  have HU8 := Lib.hid (HU5.out.next hu8)
  have HTB8 := Lib.hid (HTB5.out.upd hu8)
  clear hx hy hu8 HU5 HTB5 HCS HRC HDC
  obtain ⟨w8, rfl⟩ : ∃ z : World, z = wc := ⟨wc, rfl⟩
  have HA8 := Lib.hid (HA.out.later HU8.out)
  have HB8 := Lib.hid (HB.out.later HU8.out)
  have hwnm : IntKind.i64.wrap ((n : Int) + (m : Int)) = (n : Int) + (m : Int) := IntWalk.i64_in _ (by omega)
  clear HA HB
  go_wp2
  go_loopg [20] (n + m + 1) (fun gk x20 wr => ∃ i : Nat, i ≤ n + m + 1 ∧ n + m + 1 ≤ i + gk ∧ x20 = .int .i64 i ∧ Upd [] w8 wr)
  case atStart => exact ⟨0, Nat.zero_le _, by omega, rfl, Upd.refl _ _⟩
  case round =>
    obtain ⟨i, hi, hgi, rfl, hu⟩ := hrel
    have HU := Lib.hid hu
    have HGI := Lib.hid hgi
    clear hu hgi
    by_cases hle : i ≤ n + m
    · have hlei : (i : Int) ≤ (n : Int) + (m : Int) := by omega
      have hwi : IntKind.i64.wrap ((i : Int) + 1) = (i : Int) + 1 := IntWalk.i64_in _ (by omega)
      go_upto_if 99 with fail
      go_cut [21, 22] (fun s21 s22 wd => ∃ (s k : Int), s21 = .int .u32 s ∧ s22 = .int .i64 k ∧ U32n s ∧ wd = wr)
      case first =>
        as_aux_lemma =>
          by_cases hlt : i < n
          · obtain ⟨r, hri⟩ : ∃ r, rs[i]? = some r := ⟨_, List.getElem?_eq_getElem (by rw [← HN.out]; exact hlt)⟩
            obtain ⟨b, off, hAe, -, hb2, hcc⟩ := (HA8.out.later HU.out).2 (by rw [← HN.out]; omega)
            subst hAe
            have c0 : wr.cell? ⟨b, off + (i * 5 + 0), none⟩ = some (.int .u32 r.ssrc) := hcc (i * 5 + 0) _ (flat_get encRt_len rs i 0 r hri (by omega))
            have c1 : wr.cell? ⟨b, off + (i * 5 + 1), none⟩ = some (.int .i64 r.track) := hcc (i * 5 + 1) _ (flat_get encRt_len rs i 1 r hri (by omega))
            simp only [← Nat.add_assoc, Nat.add_zero] at c0 c1
            have hlti : (i : Int) < (n : Int) := by omega
            have HOK := Lib.hid (HR.out r (List.mem_of_getElem? hri)).ssrc
            clear hcc hb2 hri
            go_wp2
            go_meet
            case rel => exact ⟨r.ssrc, r.track, rfl, rfl, HOK.out, rfl⟩
          by_cases hlt2 : i < n + m
          · obtain ⟨j, hj⟩ : ∃ j, j = i - n := ⟨_, rfl⟩
            have hji : IntKind.i64.wrap ((i : Int) - (n : Int)) = (j : Int) := by rw [IntWalk.i64_in _ (by omega)]; omega
            have hjm : j < m := by omega
            obtain ⟨d, hri⟩ : ∃ d, ds[j]? = some d := ⟨_, List.getElem?_eq_getElem (by rw [← HM.out]; exact hjm)⟩
            obtain ⟨b, off, hBe, -, hb2, hcc⟩ := (HB8.out.later HU.out).2 (by rw [← HM.out]; omega)
            subst hBe
            have c0 : wr.cell? ⟨b, off + (j * 10 + 0), none⟩ = some (.int .u32 d.ssrc) := hcc (j * 10 + 0) _ (flat_get encDn_len ds j 0 d hri (by omega))
            have c4 : wr.cell? ⟨b, off + (j * 10 + 4), none⟩ = some (.int .i64 d.track) := hcc (j * 10 + 4) _ (flat_get encDn_len ds j 4 d hri (by omega))
            simp only [← Nat.add_assoc, Nat.add_zero] at c0 c4
            have hlti : ¬ ((i : Int) < (n : Int)) := by omega
            have hlti2 : (i : Int) < (n : Int) + (m : Int) := by omega
            have hjl : (j : Int) < (m : Int) := by omega
            have HOK := Lib.hid (HD.out d (List.mem_of_getElem? hri)).ssrc
            clear hcc hb2 hri hj
            go_wp2
            go_meet
            case rel => exact ⟨d.ssrc, d.track, rfl, rfl, HOK.out, rfl⟩
          have hlti : ¬ ((i : Int) < (n : Int)) := by omega
          have hlti2 : ¬ ((i : Int) < (n : Int) + (m : Int)) := by omega
          go_wp2
          go_meet
          case rel => exact ⟨ss, tr, rfl, rfl, HSS.out, rfl⟩
      obtain ⟨s, k, rfl, rfl, hs, hwd⟩ := hcut
      obtain rfl := hwd.symm
      obtain ⟨y, hy⟩ : ∃ y, y = (routeM wrs s).getD zRt := ⟨_, rfl⟩
      obtain ⟨by_, hby⟩ : ∃ b, b = (routeM wrs s).isSome := ⟨_, rfl⟩
      obtain ⟨z, hz⟩ : ∃ z, z = (ownM wds s).getD zDn := ⟨_, rfl⟩
      obtain ⟨bz, hbz⟩ : ∃ b, b = (ownM wds s).isSome := ⟨_, rfl⟩
      obtain ⟨so, hso⟩ : ∃ x, x = ((sourceM wrs k ly).map Rt.ssrc).getD 0 := ⟨_, rfl⟩
      obtain ⟨bs, hbs⟩ : ∃ b, b = (sourceM wrs k ly).isSome := ⟨_, rfl⟩
      obtain ⟨lst, hlst⟩ : ∃ l, l = downsM k wds := ⟨_, rfl⟩
      obtain ⟨L, hL⟩ : ∃ x, x = lst.length := ⟨_, rfl⟩
      have hLx : L ≤ lx := by rw [hL, hlst, len_downsM, HLX.out]; exact List.length_filter_le _ _
      have HLL := Lib.hid hL
      have h1000 : wrs.length ≤ 1000 ∧ wds.length ≤ 1000 := by rw [← HLR.out, ← HLX.out]; omega
      have HR1 := Lib.hid (fun (W : World) (hW : Upd [] w8 W) => route_any (HTB8.out.upd hW) hs)
      have HR2 := Lib.hid (fun (W : World) (hW : Upd [] w8 W) => rroute_any (ca := c6) (s := s) (A := A6) (rs := wrs) (by rw [← HLR.out]; exact HX.out.later hW) h1000.1)
      have HO1 := Lib.hid (fun (W : World) (hW : Upd [] w8 W) => own_any (HTB8.out.upd hW) hs)
      have HO2 := Lib.hid (fun (W : World) (hW : Upd [] w8 W) => rown_any (ca := c7) (s := s) (A := A7) (rs := wds) (by rw [← HLX.out]; exact HY.out.later hW) h1000.2)
      have HS1 := Lib.hid (fun (W : World) (hW : Upd [] w8 W) => source_any (HTB8.out.upd hW) (t := k) (l := ly))
      have HS2 := Lib.hid (fun (W : World) (hW : Upd [] w8 W) => rsource_any (ca := c6) (t := k) (l := ly) (A := A6) (rs := wrs) (by rw [← HLR.out]; exact HX.out.later hW) h1000.1)
      have HD1 := Lib.hid (fun (W : World) (hW : Upd [] w8 W) => downs_any (HTB8.out.upd hW) h1000.2 (t := k))
      have HD2 := Lib.hid (fun (W : World) (hW : Upd [] w8 W) => rdowns_any (ca := c7) (t := k) (A := A7) (ds := wds) (by rw [← HLX.out]; exact HY.out.later hW) h1000.2)
      simp only [← hy, ← hby, encRt] at HR1 HR2
      simp only [← hz, ← hbz, encDn] at HO1 HO2
      simp only [← hso, ← hbs] at HS1 HS2
      simp only [← hlst, ← hL] at HD1 HD2
      simp only [← HLR.out] at HR2 HS2
      simp only [← HLX.out] at HO2 HD2
      have f1 : (by_ == by_) = true := by simp
      have f2 : (bz == bz) = true := by simp
      have f3 : (bs == bs) = true := by simp
      have f4 : (so == so) = true := by simp
      have f5 : ((L : Int) == (L : Int)) = true := by simp
      obtain ⟨g0, rfl⟩ : ∃ g : Nat, g = gk := ⟨gk, rfl⟩
      have HU0 := Lib.hid HU.out
      clear hy hby hz hbz hso hbs hlst hL hs h1000 HU
      as_aux_lemma =>
        go_wp2_with fail
        refine (HR1.out _ HU0.out).mono ?_
        rintro _ wa ⟨rfl, hua⟩
        obtain ⟨b1, hb⟩ : ∃ b, b = wa.heap.size := ⟨_, rfl⟩
        obtain ⟨v1, hw⟩ : ∃ ww, ww = wa.alloc (.cells #[.int .u32 y.ssrc, .int .i64 y.track, .int .i64 y.src, .int .i64 y.layer, .int .i64 y.shard] 37) := ⟨_, rfl⟩
        have huw : Upd [] wr v1 := hua.next (by rw [hw]; exact (Upd.refl [] wa).alloc _)
        have HB1 : Hid (Blk v1 b1 37 #[.int .u32 y.ssrc, .int .i64 y.track, .int .i64 y.src, .int .i64 y.layer, .int .i64 y.shard]) := Lib.hid (by rw [hw, hb]; exact Blk.new _ _ _)
        have HU1 := Lib.hid (HU0.out.next huw)
        clear hua huw HR1 HU0 
        go_upto_region 29 with fail
        rw [← hw, ← hb]
        clear hw hb
        go_wp2_with fail
        refine (HR2.out _ HU1.out).mono ?_
        rintro _ wa ⟨rfl, hua⟩
        obtain ⟨b2, hb⟩ : ∃ b, b = wa.heap.size := ⟨_, rfl⟩
        obtain ⟨v2, hw⟩ : ∃ ww, ww = wa.alloc (.cells #[.int .u32 y.ssrc, .int .i64 y.track, .int .i64 y.src, .int .i64 y.layer, .int .i64 y.shard] 44) := ⟨_, rfl⟩
        have huw : Upd [] v1 v2 := hua.next (by rw [hw]; exact (Upd.refl [] wa).alloc _)
        have HB2 : Hid (Blk v2 b2 44 #[.int .u32 y.ssrc, .int .i64 y.track, .int .i64 y.src, .int .i64 y.layer, .int .i64 y.shard]) := Lib.hid (by rw [hw, hb]; exact Blk.new _ _ _)
        have HU2 := Lib.hid (HU1.out.next huw)
        have HB12 := Lib.hid (HB1.out.upd huw (by simp))
        clear hua huw HR2 HU1 HB1
        go_upto_region 30 with fail
        rw [← hw, ← hb]
        clear hw hb
        go_wp2_with fail
        refine (HO1.out _ HU2.out).mono ?_
        rintro _ wa ⟨rfl, hua⟩
        obtain ⟨b3, hb⟩ : ∃ b, b = wa.heap.size := ⟨_, rfl⟩
        obtain ⟨v3, hw⟩ : ∃ ww, ww = wa.alloc (.cells #[.int .u32 z.ssrc, .int .i64 z.slot, .int .u32 z.turn, .int .i64 z.who, .int .i64 z.track, .int .i64 z.shard, .int .i64 z.src, .int .i64 z.layer, .int .i64 z.tid, .bool z.muted] 41) := ⟨_, rfl⟩
        have huw : Upd [] v2 v3 := hua.next (by rw [hw]; exact (Upd.refl [] wa).alloc _)
        have HB3 : Hid (Blk v3 b3 41 #[.int .u32 z.ssrc, .int .i64 z.slot, .int .u32 z.turn, .int .i64 z.who, .int .i64 z.track, .int .i64 z.shard, .int .i64 z.src, .int .i64 z.layer, .int .i64 z.tid, .bool z.muted]) := Lib.hid (by rw [hw, hb]; exact Blk.new _ _ _)
        have HU3 := Lib.hid (HU2.out.next huw)
        have HB13 := Lib.hid (HB12.out.upd huw (by simp))
        have HB23 := Lib.hid (HB2.out.upd huw (by simp))
        clear hua huw HO1 HU2 HB12 HB2
        go_upto_region 31 with fail
        rw [← hw, ← hb]
        clear hw hb
        go_wp2_with fail
        refine (HO2.out _ HU3.out).mono ?_
        rintro _ wa ⟨rfl, hua⟩
        obtain ⟨b4, hb⟩ : ∃ b, b = wa.heap.size := ⟨_, rfl⟩
        obtain ⟨v4, hw⟩ : ∃ ww, ww = wa.alloc (.cells #[.int .u32 z.ssrc, .int .i64 z.slot, .int .u32 z.turn, .int .i64 z.who, .int .i64 z.track, .int .i64 z.shard, .int .i64 z.src, .int .i64 z.layer, .int .i64 z.tid, .bool z.muted] 49) := ⟨_, rfl⟩
        have huw : Upd [] v3 v4 := hua.next (by rw [hw]; exact (Upd.refl [] wa).alloc _)
        have HB4 : Hid (Blk v4 b4 49 #[.int .u32 z.ssrc, .int .i64 z.slot, .int .u32 z.turn, .int .i64 z.who, .int .i64 z.track, .int .i64 z.shard, .int .i64 z.src, .int .i64 z.layer, .int .i64 z.tid, .bool z.muted]) := Lib.hid (by rw [hw, hb]; exact Blk.new _ _ _)
        have HU4 := Lib.hid (HU3.out.next huw)
        have HB14 := Lib.hid (HB13.out.upd huw (by simp))
        have HB24 := Lib.hid (HB23.out.upd huw (by simp))
        have HB34 := Lib.hid (HB3.out.upd huw (by simp))
        clear hua huw HO2 HU3 HB13 HB23 HB3
        go_upto_region 32 with fail
        rw [← hw, ← hb]
        clear hw hb
        go_wp2_with fail
        refine (HS1.out _ HU4.out).mono ?_
        rintro _ v5 ⟨rfl, hu5⟩
        have HU5 := Lib.hid (HU4.out.next hu5)
        have HV5 := Lib.hid hu5
        clear hu5 HS1
        go_wp2_with fail
        refine (HS2.out _ HU5.out).mono ?_
        rintro _ v6 ⟨rfl, hu6⟩
        have HU6 := Lib.hid (HU5.out.next hu6)
        have HV6 := Lib.hid (HV5.out.next hu6)
        clear hu6 HS2 HU5 HV5
        go_wp2_with fail
        refine (HD1.out _ HU6.out).mono ?_
        rintro _ v7 ⟨l7, rfl, hown7, hu7⟩
        obtain ⟨A8, c8, hv8, -⟩ := own_form hown7
        subst hv8
        have HU7 := Lib.hid (HU6.out.next hu7)
        have HV7 := Lib.hid (HV6.out.next hu7)
        have HO7 := Lib.hid hown7
        clear hu7 hown7 HD1 HU6 HV6
        go_wp2_with fail
        refine (HD2.out _ HU7.out).mono ?_
        rintro _ v8 ⟨l8, rfl, hown8, hu8⟩
        obtain ⟨A9, c9, hv9, -⟩ := own_form hown8
        subst hv9
        have HU9 := Lib.hid (HU7.out.next hu8)
        have hv8 := HV7.out.next hu8
        have HE1 := Lib.hid (HB14.out.upd hv8 (by simp))
        have HE2 := Lib.hid (HB24.out.upd hv8 (by simp))
        have HE3 := Lib.hid (HB34.out.upd hv8 (by simp))
        have HE4 := Lib.hid (HB4.out.upd hv8 (by simp))
        have HL1 := Lib.hid (CellsIn.of_row (ownsRow_upd HO7.out hu8 (by simp)))
        have HL2 := Lib.hid (CellsIn.of_row hown8)
        clear hu8 hv8 hown8 HO7 HD2 HU7 HV7 HB14 HB24 HB34 HB4 HU4
        have HDN := Lib.hid (fun (x : Cls (Upd [] v8)) => quiet_cls (C := Upd [] v8) (x := x) ((down_any x.w z).mono fun e w' h => ⟨h.1, x.h.next h.2⟩))
        have q0 : ∀ x : Cls (Upd [] v8), x.w.cell? ⟨b3, 0, none⟩ = some (.int .u32 z.ssrc) := fun x => (HE3.out.upd x.h (by simp)).cell 0
        have p0 : ∀ x : Cls (Upd [] v8), x.w.cell? ⟨b4, 0, none⟩ = some (.int .u32 z.ssrc) := fun x => (HE4.out.upd x.h (by simp)).cell 0
        have q1 : ∀ x : Cls (Upd [] v8), x.w.cell? ⟨b3, 1, none⟩ = some (.int .i64 z.slot) := fun x => (HE3.out.upd x.h (by simp)).cell 1
        have p1 : ∀ x : Cls (Upd [] v8), x.w.cell? ⟨b4, 1, none⟩ = some (.int .i64 z.slot) := fun x => (HE4.out.upd x.h (by simp)).cell 1
        have q2 : ∀ x : Cls (Upd [] v8), x.w.cell? ⟨b3, 2, none⟩ = some (.int .u32 z.turn) := fun x => (HE3.out.upd x.h (by simp)).cell 2
        have p2 : ∀ x : Cls (Upd [] v8), x.w.cell? ⟨b4, 2, none⟩ = some (.int .u32 z.turn) := fun x => (HE4.out.upd x.h (by simp)).cell 2
        have q3 : ∀ x : Cls (Upd [] v8), x.w.cell? ⟨b3, 3, none⟩ = some (.int .i64 z.who) := fun x => (HE3.out.upd x.h (by simp)).cell 3
        have p3 : ∀ x : Cls (Upd [] v8), x.w.cell? ⟨b4, 3, none⟩ = some (.int .i64 z.who) := fun x => (HE4.out.upd x.h (by simp)).cell 3
        have q4 : ∀ x : Cls (Upd [] v8), x.w.cell? ⟨b3, 4, none⟩ = some (.int .i64 z.track) := fun x => (HE3.out.upd x.h (by simp)).cell 4
        have p4 : ∀ x : Cls (Upd [] v8), x.w.cell? ⟨b4, 4, none⟩ = some (.int .i64 z.track) := fun x => (HE4.out.upd x.h (by simp)).cell 4
        have q5 : ∀ x : Cls (Upd [] v8), x.w.cell? ⟨b3, 5, none⟩ = some (.int .i64 z.shard) := fun x => (HE3.out.upd x.h (by simp)).cell 5
        have p5 : ∀ x : Cls (Upd [] v8), x.w.cell? ⟨b4, 5, none⟩ = some (.int .i64 z.shard) := fun x => (HE4.out.upd x.h (by simp)).cell 5
        have q6 : ∀ x : Cls (Upd [] v8), x.w.cell? ⟨b3, 6, none⟩ = some (.int .i64 z.src) := fun x => (HE3.out.upd x.h (by simp)).cell 6
        have p6 : ∀ x : Cls (Upd [] v8), x.w.cell? ⟨b4, 6, none⟩ = some (.int .i64 z.src) := fun x => (HE4.out.upd x.h (by simp)).cell 6
        have q7 : ∀ x : Cls (Upd [] v8), x.w.cell? ⟨b3, 7, none⟩ = some (.int .i64 z.layer) := fun x => (HE3.out.upd x.h (by simp)).cell 7
        have p7 : ∀ x : Cls (Upd [] v8), x.w.cell? ⟨b4, 7, none⟩ = some (.int .i64 z.layer) := fun x => (HE4.out.upd x.h (by simp)).cell 7
        have q8 : ∀ x : Cls (Upd [] v8), x.w.cell? ⟨b3, 8, none⟩ = some (.int .i64 z.tid) := fun x => (HE3.out.upd x.h (by simp)).cell 8
        have p8 : ∀ x : Cls (Upd [] v8), x.w.cell? ⟨b4, 8, none⟩ = some (.int .i64 z.tid) := fun x => (HE4.out.upd x.h (by simp)).cell 8
        have q9 : ∀ x : Cls (Upd [] v8), x.w.cell? ⟨b3, 9, none⟩ = some (.bool z.muted) := fun x => (HE3.out.upd x.h (by simp)).cell 9
        have p9 : ∀ x : Cls (Upd [] v8), x.w.cell? ⟨b4, 9, none⟩ = some (.bool z.muted) := fun x => (HE4.out.upd x.h (by simp)).cell 9
        as_aux_lemma =>
          go_upto_region 36 with fail
          refine wp_class_tail (Upd [] v8) ((Upd.refl _ _).drewN 1) 30 (by kernel_rfl) (by kernel_rfl) (fun _ _ _ _ h => h) ?_
          intro hne
          simp only [List.take_succ_cons, List.take_zero, List.drop_succ_cons, List.drop_zero]
          repeat (go_big_quiet_step ((go_at_call 20; with_reducible exact HDN.out _)))
          refine wpQuiet_nil ?_
          rintro _ ⟨xe, rfl⟩
          obtain ⟨w9, hw9⟩ : ∃ ww, ww = xe.w := ⟨_, rfl⟩
          have hu9 : Upd [] v8 w9 := by rw [hw9]; exact xe.h
          rw [← hw9]
          have HE5 := Lib.hid (HE1.out.upd hu9 (by simp))
          have HE6 := Lib.hid (HE2.out.upd hu9 (by simp))
          have HL3 := Lib.hid (HL1.out.later hu9)
          have HL4 := Lib.hid (HL2.out.later hu9)
          have HU10 := Lib.hid (HU9.out.next hu9)
          clear hw9 hu9 HE1 HE2 HE3 HE4 HL1 HL2 HU9 HDN q0 q1 q2 q3 q4 q5 q6 q7 q8 q9 p0 p1 p2 p3 p4 p5 p6 p7 p8 p9
          have c0 : w9.cell? ⟨b1, 0, none⟩ = some (.int .u32 y.ssrc) := HE5.out.cell 0
          have e0 : w9.cell? ⟨b2, 0, none⟩ = some (.int .u32 y.ssrc) := HE6.out.cell 0
          have c1 : w9.cell? ⟨b1, 1, none⟩ = some (.int .i64 y.track) := HE5.out.cell 1
          have e1 : w9.cell? ⟨b2, 1, none⟩ = some (.int .i64 y.track) := HE6.out.cell 1
          have c2 : w9.cell? ⟨b1, 2, none⟩ = some (.int .i64 y.src) := HE5.out.cell 2
          have e2 : w9.cell? ⟨b2, 2, none⟩ = some (.int .i64 y.src) := HE6.out.cell 2
          have c3 : w9.cell? ⟨b1, 3, none⟩ = some (.int .i64 y.layer) := HE5.out.cell 3
          have e3 : w9.cell? ⟨b2, 3, none⟩ = some (.int .i64 y.layer) := HE6.out.cell 3
          have c4 : w9.cell? ⟨b1, 4, none⟩ = some (.int .i64 y.shard) := HE5.out.cell 4
          have e4 : w9.cell? ⟨b2, 4, none⟩ = some (.int .i64 y.shard) := HE6.out.cell 4
          go_wp2
          as_aux_lemma =>
            clear HE5 HE6 c0 c1 c2 c3 c4 e0 e1 e2 e3 e4
            go_loopg [37] L (fun gq x37 wq => ∃ q : Nat, q ≤ L ∧ L ≤ q + gq ∧ x37 = .int .i64 q ∧ Upd [] w9 wq)
            case atStart => exact ⟨0, Nat.zero_le _, by omega, rfl, Upd.refl _ _⟩
            case round =>
              obtain ⟨q, hq, hgq, rfl, huq⟩ := hrel
              by_cases hql : q < L
              · obtain ⟨x, hxq⟩ : ∃ x, lst[q]? = some x := ⟨_, List.getElem?_eq_getElem (by rw [← HLL.out]; exact hql)⟩
                obtain ⟨p1, o1, he1, -, hb1, hcc1⟩ := (HL3.out.later huq).2 (by omega)
                obtain ⟨p2, o2, he2, -, hb2, hcc2⟩ := (HL4.out.later huq).2 (by omega)
                subst he1
                subst he2
                have c0 : ∀ zz : Cls (Upd [] wr), zz.w.cell? ⟨p1, o1 + q * 10, none⟩ = some (.int .u32 x.ssrc) := fun zz => (zz.h.cell (p := ⟨p1, o1 + q * 10, none⟩) hb1 (by simp)).trans (by have h := hcc1 (q * 10 + 0) _ (flat_get encDn_len lst q 0 x hxq (by omega)); rw [← Nat.add_assoc] at h; exact h)
                have d0 : ∀ zz : Cls (Upd [] wr), zz.w.cell? ⟨p2, o2 + q * 10, none⟩ = some (.int .u32 x.ssrc) := fun zz => (zz.h.cell (p := ⟨p2, o2 + q * 10, none⟩) hb2 (by simp)).trans (by have h := hcc2 (q * 10 + 0) _ (flat_get encDn_len lst q 0 x hxq (by omega)); rw [← Nat.add_assoc] at h; exact h)
                have c1 : ∀ zz : Cls (Upd [] wr), zz.w.cell? ⟨p1, o1 + q * 10 + 1, none⟩ = some (.int .i64 x.slot) := fun zz => (zz.h.cell (p := ⟨p1, o1 + q * 10 + 1, none⟩) hb1 (by simp)).trans (by have h := hcc1 (q * 10 + 1) _ (flat_get encDn_len lst q 1 x hxq (by omega)); rw [← Nat.add_assoc] at h; exact h)
                have d1 : ∀ zz : Cls (Upd [] wr), zz.w.cell? ⟨p2, o2 + q * 10 + 1, none⟩ = some (.int .i64 x.slot) := fun zz => (zz.h.cell (p := ⟨p2, o2 + q * 10 + 1, none⟩) hb2 (by simp)).trans (by have h := hcc2 (q * 10 + 1) _ (flat_get encDn_len lst q 1 x hxq (by omega)); rw [← Nat.add_assoc] at h; exact h)
                have c2 : ∀ zz : Cls (Upd [] wr), zz.w.cell? ⟨p1, o1 + q * 10 + 2, none⟩ = some (.int .u32 x.turn) := fun zz => (zz.h.cell (p := ⟨p1, o1 + q * 10 + 2, none⟩) hb1 (by simp)).trans (by have h := hcc1 (q * 10 + 2) _ (flat_get encDn_len lst q 2 x hxq (by omega)); rw [← Nat.add_assoc] at h; exact h)
                have d2 : ∀ zz : Cls (Upd [] wr), zz.w.cell? ⟨p2, o2 + q * 10 + 2, none⟩ = some (.int .u32 x.turn) := fun zz => (zz.h.cell (p := ⟨p2, o2 + q * 10 + 2, none⟩) hb2 (by simp)).trans (by have h := hcc2 (q * 10 + 2) _ (flat_get encDn_len lst q 2 x hxq (by omega)); rw [← Nat.add_assoc] at h; exact h)
                have c3 : ∀ zz : Cls (Upd [] wr), zz.w.cell? ⟨p1, o1 + q * 10 + 3, none⟩ = some (.int .i64 x.who) := fun zz => (zz.h.cell (p := ⟨p1, o1 + q * 10 + 3, none⟩) hb1 (by simp)).trans (by have h := hcc1 (q * 10 + 3) _ (flat_get encDn_len lst q 3 x hxq (by omega)); rw [← Nat.add_assoc] at h; exact h)
                have d3 : ∀ zz : Cls (Upd [] wr), zz.w.cell? ⟨p2, o2 + q * 10 + 3, none⟩ = some (.int .i64 x.who) := fun zz => (zz.h.cell (p := ⟨p2, o2 + q * 10 + 3, none⟩) hb2 (by simp)).trans (by have h := hcc2 (q * 10 + 3) _ (flat_get encDn_len lst q 3 x hxq (by omega)); rw [← Nat.add_assoc] at h; exact h)
                have c4 : ∀ zz : Cls (Upd [] wr), zz.w.cell? ⟨p1, o1 + q * 10 + 4, none⟩ = some (.int .i64 x.track) := fun zz => (zz.h.cell (p := ⟨p1, o1 + q * 10 + 4, none⟩) hb1 (by simp)).trans (by have h := hcc1 (q * 10 + 4) _ (flat_get encDn_len lst q 4 x hxq (by omega)); rw [← Nat.add_assoc] at h; exact h)
                have d4 : ∀ zz : Cls (Upd [] wr), zz.w.cell? ⟨p2, o2 + q * 10 + 4, none⟩ = some (.int .i64 x.track) := fun zz => (zz.h.cell (p := ⟨p2, o2 + q * 10 + 4, none⟩) hb2 (by simp)).trans (by have h := hcc2 (q * 10 + 4) _ (flat_get encDn_len lst q 4 x hxq (by omega)); rw [← Nat.add_assoc] at h; exact h)
                have c5 : ∀ zz : Cls (Upd [] wr), zz.w.cell? ⟨p1, o1 + q * 10 + 5, none⟩ = some (.int .i64 x.shard) := fun zz => (zz.h.cell (p := ⟨p1, o1 + q * 10 + 5, none⟩) hb1 (by simp)).trans (by have h := hcc1 (q * 10 + 5) _ (flat_get encDn_len lst q 5 x hxq (by omega)); rw [← Nat.add_assoc] at h; exact h)
                have d5 : ∀ zz : Cls (Upd [] wr), zz.w.cell? ⟨p2, o2 + q * 10 + 5, none⟩ = some (.int .i64 x.shard) := fun zz => (zz.h.cell (p := ⟨p2, o2 + q * 10 + 5, none⟩) hb2 (by simp)).trans (by have h := hcc2 (q * 10 + 5) _ (flat_get encDn_len lst q 5 x hxq (by omega)); rw [← Nat.add_assoc] at h; exact h)
                have c6 : ∀ zz : Cls (Upd [] wr), zz.w.cell? ⟨p1, o1 + q * 10 + 6, none⟩ = some (.int .i64 x.src) := fun zz => (zz.h.cell (p := ⟨p1, o1 + q * 10 + 6, none⟩) hb1 (by simp)).trans (by have h := hcc1 (q * 10 + 6) _ (flat_get encDn_len lst q 6 x hxq (by omega)); rw [← Nat.add_assoc] at h; exact h)
                have d6 : ∀ zz : Cls (Upd [] wr), zz.w.cell? ⟨p2, o2 + q * 10 + 6, none⟩ = some (.int .i64 x.src) := fun zz => (zz.h.cell (p := ⟨p2, o2 + q * 10 + 6, none⟩) hb2 (by simp)).trans (by have h := hcc2 (q * 10 + 6) _ (flat_get encDn_len lst q 6 x hxq (by omega)); rw [← Nat.add_assoc] at h; exact h)
                have c7 : ∀ zz : Cls (Upd [] wr), zz.w.cell? ⟨p1, o1 + q * 10 + 7, none⟩ = some (.int .i64 x.layer) := fun zz => (zz.h.cell (p := ⟨p1, o1 + q * 10 + 7, none⟩) hb1 (by simp)).trans (by have h := hcc1 (q * 10 + 7) _ (flat_get encDn_len lst q 7 x hxq (by omega)); rw [← Nat.add_assoc] at h; exact h)
                have d7 : ∀ zz : Cls (Upd [] wr), zz.w.cell? ⟨p2, o2 + q * 10 + 7, none⟩ = some (.int .i64 x.layer) := fun zz => (zz.h.cell (p := ⟨p2, o2 + q * 10 + 7, none⟩) hb2 (by simp)).trans (by have h := hcc2 (q * 10 + 7) _ (flat_get encDn_len lst q 7 x hxq (by omega)); rw [← Nat.add_assoc] at h; exact h)
                have c8 : ∀ zz : Cls (Upd [] wr), zz.w.cell? ⟨p1, o1 + q * 10 + 8, none⟩ = some (.int .i64 x.tid) := fun zz => (zz.h.cell (p := ⟨p1, o1 + q * 10 + 8, none⟩) hb1 (by simp)).trans (by have h := hcc1 (q * 10 + 8) _ (flat_get encDn_len lst q 8 x hxq (by omega)); rw [← Nat.add_assoc] at h; exact h)
                have d8 : ∀ zz : Cls (Upd [] wr), zz.w.cell? ⟨p2, o2 + q * 10 + 8, none⟩ = some (.int .i64 x.tid) := fun zz => (zz.h.cell (p := ⟨p2, o2 + q * 10 + 8, none⟩) hb2 (by simp)).trans (by have h := hcc2 (q * 10 + 8) _ (flat_get encDn_len lst q 8 x hxq (by omega)); rw [← Nat.add_assoc] at h; exact h)
                have c9 : ∀ zz : Cls (Upd [] wr), zz.w.cell? ⟨p1, o1 + q * 10 + 9, none⟩ = some (.bool x.muted) := fun zz => (zz.h.cell (p := ⟨p1, o1 + q * 10 + 9, none⟩) hb1 (by simp)).trans (by have h := hcc1 (q * 10 + 9) _ (flat_get encDn_len lst q 9 x hxq (by omega)); rw [← Nat.add_assoc] at h; exact h)
                have d9 : ∀ zz : Cls (Upd [] wr), zz.w.cell? ⟨p2, o2 + q * 10 + 9, none⟩ = some (.bool x.muted) := fun zz => (zz.h.cell (p := ⟨p2, o2 + q * 10 + 9, none⟩) hb2 (by simp)).trans (by have h := hcc2 (q * 10 + 9) _ (flat_get encDn_len lst q 9 x hxq (by omega)); rw [← Nat.add_assoc] at h; exact h)
                have hlq : (q : Int) < (L : Int) := by omega
                have hwq : IntKind.i64.wrap ((q : Int) + 1) = (q : Int) + 1 := IntWalk.i64_in _ (by omega)
                have HDN := Lib.hid (fun (zz : Cls (Upd [] wr)) => quiet_cls (C := Upd [] wr) (x := zz) ((down_any zz.w x).mono fun e w' h => ⟨h.1, zz.h.next h.2⟩))
                have HUQ := Lib.hid huq
                have HGQ := Lib.hid hgq
                clear huq hxq hcc1 hcc2 hb1 hb2 hgq
                go_upto_region 43 with fail
                refine wp_class_tail (Upd [] wr) ((Upd.refl _ _).drewN 1) 9 (by kernel_rfl) (by kernel_rfl) (fun _ _ _ _ h => h) ?_
                intro hne
                simp only [List.take_succ_cons, List.take_zero, List.drop_succ_cons, List.drop_zero]
                repeat (go_big_quiet_step ((go_at_call 20; with_reducible exact HDN.out _)))
                refine wpQuiet_nil ?_
                rintro _ ⟨xe, rfl⟩
                have hux := HUQ.out.next xe.h
                obtain ⟨wx, hwx⟩ : ∃ ww, ww = xe.w := ⟨_, rfl⟩
                rw [← hwx] at hux ⊢
                have HUX := Lib.hid hux
                clear hwx hux HDN c0 d0 c1 d1 c2 d2 c3 d3 c4 d4 c5 d5 c6 d6 c7 d7 c8 d8 c9 d9
                go_wp2
                go_roundg (gk - 1)
                case measure => have := HGQ.out; omega
                case rel => exact ⟨q + 1, by omega, by have := HGQ.out; omega, by go_num, HUX.out⟩
              have HUZ := Lib.hid (HU10.out.next huq)
              have hnq : ¬ ((q : Int) < (L : Int)) := by omega
              clear huq hgq HL3 HL4
              go_wp2
              go_roundg (g0 - 1)
              case measure => have := HGI.out; omega
              case rel => exact ⟨i + 1, by omega, by have := HGI.out; omega, by go_num, HUZ.out⟩
    have hgt : ¬ ((i : Int) ≤ (n : Int) + (m : Int)) := by omega
    have HEP := Lib.hid (epoch_any (HTB8.out.upd HU.out))
    have HLE := Lib.hid (len_any (HTB8.out.upd HU.out))
    rw [← HLX.out] at HLE
    have HUZ := Lib.hid (HU8.out.next HU.out)
    have f1 : (want == want) = true := by simp
    have f2 : ((lx : Int) == (lx : Int)) = true := by simp
    clear HU
    go_wp2_with fail
    refine HEP.out.mono ?_
    rintro _ w9 ⟨rfl, rfl⟩
    go_wp2_with fail
    refine HLE.out.mono ?_
    rintro _ w9 ⟨rfl, rfl⟩
    go_wp2
    exact bodyPost_res (v := .bool true) (by simp [results, Try.results3, go_sem]) rfl ⟨rfl, HUZ.out.below (Nat.le_refl _) (by simp)⟩
end Go.Proofs.Yteljkdihlklliaa
/- Arguments opened to cells: integers, slices of elements of so many one-cell parts. Plain laws on readings. -/
namespace Go.Proofs.Yteljkdihlklliaa
open Go Go.RowKit Go.ChangeShapes Go.WideShapes Go.Deep

theorem flat_one {α β : Type} (f : α → β) (l : List α) : l.flatMap (fun a => [f a]) = l.map f := by
  induction l with
  | nil => rfl
  | cons a l ih => rw [List.flatMap_cons, ih]; rfl

theorem cell_lt {w : World} {a : Addr} {v : Value} (h : w.cell? a = some v) : a.block < w.heap.size := by
  rcases Nat.lt_or_ge a.block w.heap.size with h1 | h1
  · exact h1
  · exfalso
    have h2 : w.heap[a.block]? = none := Array.getElem?_eq_none h1
    have h3 := World.cell?_of_block (w := w) (w' := { w with heap := #[] }) (a := a) (by rw [h2]; rfl)
    rw [h] at h3
    have h4 : (({ w with heap := #[] } : World).cell? a) = none := by simp [World.cell?]
    rw [h4] at h3
    cases h3

section
variable {H : Type} {enc : TypeId × Value → H} {P : Program} {w : World} {base : Nat} {spare : Nat → Bool} {held : Bool}

/-- A slice, element by element: whatever of an element's cells the reading tells. -/
theorem rd_slice {α : Type} {t e : TypeId} {size fuel : Nat} {cs : List Value} {x : DataW H × List MemPlace} (R : List Value → α → Prop) (ht : P.underlying t = some (.slice e)) (hC : P.cellsOf e = size) (h0 : 0 < size)
    (hR : ∀ n cs' y, cs'.length = size → DataW.trod enc P w base spare held n e cs' = some y → ∃ z, R cs' z) (hf : DataW.trod enc P w base spare held fuel t cs = some x) :
    ∃ (A : Option Addr) (len cap : Nat) (l : List α), cs = [.slice A len cap] ∧ len ≤ cap ∧ cap ≤ maxLen ∧ l.length = len ∧
      (0 < len → ∃ b off, A = some ⟨b, off, none⟩ ∧ b < w.heap.size ∧ ∀ (i : Nat) (z : α), l[i]? = some z → ∃ ci, R ci z ∧ ci.length = size ∧ ∀ j, j < size → w.cell? ⟨b, off + i * size + j, none⟩ = ci[j]?) := by
  rcases open_slice ht hf with ⟨hcs, _⟩ | ⟨a, len, cap, m, n, D, Pl, hcs, hb, hl, hm, hmm, hx, hi⟩
  · exact ⟨none, 0, 0, [], hcs, Nat.le_refl _, Nat.zero_le _, rfl, fun h => absurd h (Nat.lt_irrefl 0)⟩
  · have hlm : len ≤ m := by rw [hmm]; split <;> omega
    have each : ∀ i, i < len → ∃ z ci, R ci z ∧ ci.length = size ∧ ∀ j, j < size → w.cell? ((a.add (i * size)).add j) = ci[j]? := by
      intro i hil
      obtain ⟨cs', hc, ht'⟩ := hi i (by omega)
      rw [hC] at hc
      obtain ⟨_, hcl, hat⟩ := World.cells?_some hc
      obtain ⟨z, hz⟩ := hR n cs' _ hcl ht'
      exact ⟨z, cs', hz, hcl, hat⟩
    have list : ∀ k, k ≤ len → ∃ l : List α, l.length = k ∧ ∀ (i : Nat) (z : α), l[i]? = some z → ∃ ci, R ci z ∧ ci.length = size ∧ ∀ j, j < size → w.cell? ((a.add (i * size)).add j) = ci[j]? := by
      intro k
      induction k with
      | zero => intro _; exact ⟨[], rfl, fun i z h => by simp at h⟩
      | succ k ih =>
        intro hk
        obtain ⟨l, hll, hla⟩ := ih (by omega)
        obtain ⟨z, hz⟩ := each k (by omega)
        refine ⟨l ++ [z], by simp [hll], fun i y hy => ?_⟩
        rcases Nat.lt_or_ge i l.length with h1 | h1
        · rw [List.getElem?_append_left h1] at hy
          exact hla i y hy
        · rw [List.getElem?_append_right h1] at hy
          have h2 : i - l.length = 0 := by
            rcases Nat.eq_zero_or_pos (i - l.length) with h | h
            · exact h
            · rw [List.getElem?_eq_none (by simp; omega)] at hy; cases hy
          rw [h2] at hy
          obtain rfl : z = y := by simpa using hy
          obtain rfl : i = k := by omega
          exact hz
    obtain ⟨l, hll, hla⟩ := list len (Nat.le_refl _)
    refine ⟨some a, len, cap, l, hcs, hl, hm, hll, fun hpos => ?_⟩
    have hl0 : 0 < l.length := by omega
    obtain ⟨c0, _, hcl, h00⟩ := hla 0 l[0] (List.getElem?_eq_getElem hl0)
    have hcell := h00 0 h0
    rw [List.getElem?_eq_getElem (by omega)] at hcell
    have hadd : (a.add (0 * size)).add 0 = a := by simp [Addr.add]
    rw [hadd] at hcell
    have hspot := World.cell?_spot hcell
    obtain ⟨b, off, spot⟩ := a
    dsimp only at hspot
    subst hspot
    refine ⟨b, off, rfl, cell_lt hcell, fun i z hz => ?_⟩
    obtain ⟨ci, hr, hc1, hc2⟩ := hla i z hz
    refine ⟨ci, hr, hc1, fun j hj => ?_⟩
    have := hc2 j hj
    rw [← this]
    unfold Addr.add
    by_cases e1 : i * size = 0 <;> by_cases e2 : j = 0 <;> simp [e1, e2, Nat.add_assoc]

/-- .. where the cells are a function of what they read as. -/
theorem rd_cells {α : Type} {t e : TypeId} {size fuel : Nat} {cs : List Value} {x : DataW H × List MemPlace} (f : α → List Value) (ht : P.underlying t = some (.slice e)) (hC : P.cellsOf e = size) (h0 : 0 < size)
    (hR : ∀ n cs' y, cs'.length = size → DataW.trod enc P w base spare held n e cs' = some y → ∃ z, cs' = f z) (hlen : ∀ z, (f z).length = size) (hf : DataW.trod enc P w base spare held fuel t cs = some x) :
    ∃ (A : Option Addr) (len cap : Nat) (l : List α), cs = [.slice A len cap] ∧ len ≤ cap ∧ cap ≤ maxLen ∧ l.length = len ∧ Cells w w.heap.size size A len (l.flatMap f) := by
  obtain ⟨A, len, cap, l, h1, h2, h3, h4, h5⟩ := rd_slice (fun c z => c = f z) ht hC h0 hR hf
  have hfl : ∀ l : List α, (l.flatMap f).length = l.length * size := by
    intro l
    induction l with
    | nil => simp
    | cons a l ih => rw [List.flatMap_cons, List.length_append, ih, hlen, List.length_cons, Nat.succ_mul, Nat.add_comm]
  have hget : ∀ (l : List α) (i j : Nat) (z : α), l[i]? = some z → j < size → (l.flatMap f)[i * size + j]? = (f z)[j]? := by
    intro l
    induction l with
    | nil => intro i j z h; simp at h
    | cons a l ih =>
      intro i j z h hj
      rw [List.flatMap_cons]
      cases i with
      | zero =>
        obtain rfl : a = z := by simpa using h
        rw [Nat.zero_mul, Nat.zero_add, List.getElem?_append_left (by rw [hlen]; exact hj)]
      | succ i =>
        rw [List.getElem?_append_right (by rw [hlen, Nat.succ_mul]; omega), hlen, Nat.succ_mul, show i * size + size + j - size = i * size + j by omega]
        exact ih i j z (by simpa using h) hj
  refine ⟨A, len, cap, l, h1, h2, h3, h4, by rw [hfl, h4], fun hpos => ?_⟩
  obtain ⟨b, off, hA, hb, hc⟩ := h5 hpos
  refine ⟨b, off, hA, hb, fun j u hu => ?_⟩
  have hjl : j < l.length * size := by
    rcases Nat.lt_or_ge j (l.length * size) with h | h
    · exact h
    · rw [List.getElem?_eq_none (by rw [hfl]; exact h)] at hu; cases hu
  have hdiv : j / size < l.length := Nat.div_lt_of_lt_mul (by rw [Nat.mul_comm]; exact hjl)
  have hmod : j % size < size := Nat.mod_lt _ h0
  have hj : j = j / size * size + j % size := by rw [Nat.mul_comm]; exact (Nat.div_add_mod j size).symm
  obtain ⟨ci, hci, _, hcj⟩ := hc (j / size) l[j / size] (List.getElem?_eq_getElem hdiv)
  have h6 := hcj (j % size) hmod
  rw [Nat.add_assoc, ← hj] at h6
  rw [h6, hci]
  rw [hj, hget l _ _ _ (List.getElem?_eq_getElem hdiv) hmod] at hu
  exact hu

theorem rd_int {t : TypeId} {n : Nat} {cs : List Value} {y : DataW H × List MemPlace} {k : IntKind} (ht : P.underlying t = some (.int k)) (h : DataW.trod enc P w base spare held n t cs = some y) :
    ∃ z : Int, cs = [.int k z] ∧ (Lit.int k z).wf = true := by
  obtain ⟨z, h1, _, h3⟩ := DataW.trod_int ht h
  exact ⟨z, h1, h3⟩

/-- A struct of one-cell fields: each field's cell, with its own reading. -/
theorem rd_struct {t : TypeId} {fs : Array Field} {n : Nat} {cs : List Value} {y : DataW H × List MemPlace} (ht : P.underlying t = some (.struct fs)) (hone : oneCellFields P fs = true)
    (h : DataW.trod enc P w base spare held n t cs = some y) : ∃ m, ∀ (j : Nat) (f : Field) (v : Value), fs[j]? = some f → cs[j]? = some v → ∃ z, DataW.trod enc P w base spare held m f.type [v] = some z := by
  obtain ⟨ys, n', _, _, _, hyl, hf⟩ := DataW.trod_struct ht h
  refine ⟨n', fun j f v hj hv => ?_⟩
  obtain ⟨ho, hk⟩ := hone_of hone j f hj
  have h1 := hf j f hj
  rw [ho, hk] at h1
  have hjl : j < fs.size := (Array.getElem?_eq_some_iff.1 hj).1
  obtain ⟨hjc, hv'⟩ := List.getElem?_eq_some_iff.1 hv
  have h2 : (cs.drop j).take 1 = [v] := by
    rw [List.drop_eq_getElem_cons hjc, hv']; rfl
  rw [h2, List.getElem?_eq_getElem (by omega)] at h1
  exact ⟨_, h1⟩
end

end Go.Proofs.Yteljkdihlklliaa
/- A struct with fields of several cells, field by field. Plain law on readings. -/
namespace Go.Proofs.Yteljkdihlklliaa
open Go Go.RowKit Go.ChangeShapes Go.WideShapes Go.Deep

section
variable {H : Type} {enc : TypeId × Value → H} {P : Program} {w : World} {base : Nat} {spare : Nat → Bool} {held : Bool}
theorem rd_fields {t : TypeId} {fs : Array Field} {n : Nat} {cs : List Value} {y : DataW H × List MemPlace} (ht : P.underlying t = some (.struct fs))
    (h : DataW.trod enc P w base spare held n t cs = some y) : ∃ m, ∀ (j : Nat) (f : Field) (e : TypeId) (o k : Nat), fs[j]? = some f → f.type = e → f.offset = o → P.cellsOf e = k → ∃ z, DataW.trod enc P w base spare held m e ((cs.drop o).take k) = some z := by
  obtain ⟨ys, n', _, _, _, hyl, hf⟩ := DataW.trod_struct ht h
  refine ⟨n', fun j f e o k hj he ho hk => ?_⟩
  have h1 := hf j f hj
  rw [ho, he, hk] at h1
  have hjl : j < fs.size := (Array.getElem?_eq_some_iff.1 hj).1
  rw [List.getElem?_eq_getElem (by omega)] at h1
  exact ⟨_, h1⟩
end
end Go.Proofs.Yteljkdihlklliaa
