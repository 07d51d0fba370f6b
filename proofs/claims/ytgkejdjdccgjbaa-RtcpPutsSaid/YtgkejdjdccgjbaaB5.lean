/- Parts of the proof, one behind the other: Of. No condition of their own. -/
import Derived.Test.YtgkejdjdccgjbaaB4
import Derived.Test.YtgkejdjdccgjbaaB3
/- The laws' 'of': a message as the document has it. Conditions: its rows no longer than 100000; its numbers of their types. (Written by wip/gen/rtcpof.py.) -/
namespace Go.Proofs.Ytgkejdjdccgjbaa
open Go Go.RowKit
set_option maxHeartbeats 400000

def encP2 (p : Int × Int) : List Value := [.int .i64 p.1, .int .i64 p.2]
theorem encP2_len (p : Int × Int) : (encP2 p).length = 2 := rfl
/-- where a message's rows lie, as the document has it -/
structure RfIn (w : World) (lo : Nat) (m : Mg) (h : Hd) : Prop where
  cr : CellsIn w lo w.heap.size 7 h.rA m.reports.length (m.reports.flatMap encRep)
  cw : CellsIn w 0 w.heap.size 1 h.wA m.who.length (m.who.map (Value.int .u32))
  cp : CellsIn w lo w.heap.size 2 h.pA m.pairs.length (m.pairs.flatMap encP2)
  ca : CellsIn w lo w.heap.size 2 h.aA m.asks.length (m.asks.flatMap encAsk)
theorem infoRR : (Try.prog.info? 61).map (fun i => (i.zero, i.size, i.bytes)) = some (some (.agg #[.int .u32 0, .int .u8 0, .int .u32 0, .int .u32 0, .int .u32 0, .int .u32 0, .int .u32 0]), 7, 28) := by kernel_rfl
theorem infoRP : (Try.prog.info? 89).map (fun i => (i.zero, i.size, i.bytes)) = some (some (.agg #[.int .i64 0, .int .i64 0]), 2, 16) := by kernel_rfl
theorem infoRA : (Try.prog.info? 92).map (fun i => (i.zero, i.size, i.bytes)) = some (some (.agg #[.int .u32 0, .int .u8 0]), 2, 8) := by kernel_rfl
theorem of_fin {w wa wb wr we : World} {W : World} {Rb : Nat} {m : Mg} {A A2 A3 wA : Option Addr} {c c2 c3 wc lo : Nat} (hu : Upd [Rb] wr we) (hrl : Rb < W.heap.size) (h1 : W.heap.size ≤ wa.heap.size) (h2 : wa.heap.size ≤ wb.heap.size)
    (o1 : wr.ownsRow W.heap.size 61 7 (.slice A m.reports.length c) m.reports.length (m.reports.flatMap encRep)) (o2 : wr.ownsRow wa.heap.size 89 2 (.slice A2 m.pairs.length c2) m.pairs.length (m.pairs.flatMap encP2))
    (o3 : wr.ownsRow wb.heap.size 92 2 (.slice A3 m.asks.length c3) m.asks.length (m.asks.flatMap encAsk)) (cw : CellsIn wr lo w.heap.size 1 wA m.who.length (m.who.map (Value.int .u32))) (hs : w.heap.size ≤ wr.heap.size) (hw : w.heap.size ≤ Rb) (hW : w.heap.size ≤ W.heap.size) : RfIn we w.heap.size m ⟨A, c, wA, wc, A2, c2, A3, c3⟩ := by
  refine ⟨?_, ?_, ?_, ?_⟩
  · exact (CellsIn.of_own (ownsRow_upd o1 hu (fun s hs' e => by rw [List.mem_singleton] at hs'; subst hs'; have := (own_block_lt o1 e).1; omega))).more (by omega) (Nat.le_refl _)
  · exact (cw.upd hu hs (fun s hs' => by rw [List.mem_singleton] at hs'; subst hs'; exact .inr hw)).more (Nat.zero_le _) (Nat.le_trans hs hu.size)
  · exact (CellsIn.of_own (ownsRow_upd o2 hu (fun s hs' e => by rw [List.mem_singleton] at hs'; subst hs'; have := (own_block_lt o2 e).1; omega))).more (by omega) (Nat.le_refl _)
  · exact (CellsIn.of_own (ownsRow_upd o3 hu (fun s hs' e => by rw [List.mem_singleton] at hs'; subst hs'; have := (own_block_lt o3 e).1; omega))).more (by omega) (Nat.le_refl _)
set_option maxRecDepth 100000 in
set_option maxHeartbeats 6000000 in
theorem of_any {w : World} {lo : Nat} {m : Mg} {h : Hd} (hm : MgIn w lo m h) (hn : m.Num) (hr : m.reports.length ≤ 100000) (hp : m.pairs.length ≤ 100000) (ha : m.asks.length ≤ 100000) :
    Calls Try.prog 20 #[.agg (mcells m h).toArray] w fun e w' => ∃ h', e = .returned (.agg (mcells m h').toArray) ∧ RfIn w' w.heap.size m h' ∧ h'.wA = h.wA ∧ Upd [] w w' := by
  obtain ⟨j0, hj0, hy0, hy1, hy2⟩ := info_parts infoRR
  obtain ⟨j1, hj1, hz0, hz1, hz2⟩ := info_parts infoRP
  obtain ⟨j2, hj2, hx0, hx1, hx2⟩ := info_parts infoRA
  have HIN := Lib.hid hm
  have HPN := Lib.hid hn.pairs
  clear hm hn
  obtain ⟨kk, m1, m2, m3, m4, m5, m6, rs, wh, ps, qs, ty⟩ := m
  obtain ⟨rA, rc, wA, wc, pA, pc, aA, ac⟩ := h
  unfold mcells
  dsimp only at hr hp ha HPN ⊢
  obtain ⟨W, hW⟩ : ∃ W, W = ((w.alloc (.cells #[.int .i64 kk, .int .u32 m1, .int .u32 m2, .int .u64 m3, .int .u32 m4, .int .u32 m5, .int .u32 m6, .slice rA rs.length rc, .slice wA wh.length wc, .slice pA ps.length pc, .slice aA qs.length ac, .int .u8 ty] 59)).alloc (.cells #[.int .i64 0, .int .u32 0, .int .u32 0, .int .u64 0, .int .u32 0, .int .u32 0, .int .u32 0, .slice none 0 0, .slice none 0 0, .slice none 0 0, .slice none 0 0, .int .u8 0] 50)).alloc (.cells #[.int .i64 kk, .int .u32 m1, .int .u32 m2, .int .u64 m3, .int .u32 m4, .int .u32 m5, .int .u32 m6, .slice none 0 0, .slice wA wh.length wc, .slice none 0 0, .slice none 0 0, .int .u8 ty] 50) := ⟨_, rfl⟩
  have hU : Upd [] w W := by rw [hW]; exact (((Upd.refl [] w).alloc _).alloc _).alloc _
  have hM : Blk W w.heap.size 59 #[.int .i64 kk, .int .u32 m1, .int .u32 m2, .int .u64 m3, .int .u32 m4, .int .u32 m5, .int .u32 m6, .slice rA rs.length rc, .slice wA wh.length wc, .slice pA ps.length pc, .slice aA qs.length ac, .int .u8 ty] := by rw [hW]; exact ((Blk.new _ _ _).alloc _).alloc _
  have hR : Blk W (w.heap.size + 1) 50 #[.int .i64 0, .int .u32 0, .int .u32 0, .int .u64 0, .int .u32 0, .int .u32 0, .int .u32 0, .slice none 0 0, .slice none 0 0, .slice none 0 0, .slice none 0 0, .int .u8 0] := by
    have := Blk.new (w.alloc (.cells #[.int .i64 kk, .int .u32 m1, .int .u32 m2, .int .u64 m3, .int .u32 m4, .int .u32 m5, .int .u32 m6, .slice rA rs.length rc, .slice wA wh.length wc, .slice pA ps.length pc, .slice aA qs.length ac, .int .u8 ty] 59)) 50 #[.int .i64 0, .int .u32 0, .int .u32 0, .int .u64 0, .int .u32 0, .int .u32 0, .int .u32 0, .slice none 0 0, .slice none 0 0, .slice none 0 0, .slice none 0 0, .int .u8 0]
    rw [World.size_alloc] at this
    rw [hW]; exact this.alloc _
  have hG : Blk W (w.heap.size + 1 + 1) 50 #[.int .i64 kk, .int .u32 m1, .int .u32 m2, .int .u64 m3, .int .u32 m4, .int .u32 m5, .int .u32 m6, .slice none 0 0, .slice wA wh.length wc, .slice none 0 0, .slice none 0 0, .int .u8 ty] := by
    have := Blk.new ((w.alloc (.cells #[.int .i64 kk, .int .u32 m1, .int .u32 m2, .int .u64 m3, .int .u32 m4, .int .u32 m5, .int .u32 m6, .slice rA rs.length rc, .slice wA wh.length wc, .slice pA ps.length pc, .slice aA qs.length ac, .int .u8 ty] 59)).alloc (.cells #[.int .i64 0, .int .u32 0, .int .u32 0, .int .u64 0, .int .u32 0, .int .u32 0, .int .u32 0, .slice none 0 0, .slice none 0 0, .slice none 0 0, .slice none 0 0, .int .u8 0] 50)) 50 #[.int .i64 kk, .int .u32 m1, .int .u32 m2, .int .u64 m3, .int .u32 m4, .int .u32 m5, .int .u32 m6, .slice none 0 0, .slice wA wh.length wc, .slice none 0 0, .slice none 0 0, .int .u8 ty]
    rw [World.size_alloc, World.size_alloc] at this
    rw [hW]; exact this
  have HU := Lib.hid hU
  have HLE : Hid (w.heap.size ≤ w.heap.size + 1 ∧ w.heap.size ≤ w.heap.size + 1 + 1) := Lib.hid (by omega)
  go_enter Try.func20, Try.ntmps20
  go_upto_region 2 with fail
  rw [← hW]
  clear hW hU
  obtain ⟨Gb, hGe⟩ : ∃ G, G = w.heap.size + 1 + 1 := ⟨_, rfl⟩
  obtain ⟨Rb, hRe⟩ : ∃ R, R = w.heap.size + 1 := ⟨_, rfl⟩
  obtain ⟨Mb, hMe⟩ : ∃ M, M = w.heap.size := ⟨_, rfl⟩
  have hRG : Rb ≠ Gb := by omega
  have hMG : Mb ≠ Gb := by omega
  have hGM : Gb ≠ Mb := hMG.symm
  rw [← hGe] at hG
  rw [← hRe] at hR
  rw [← hMe] at hM
  have HGW : Hid (w.heap.size ≤ Gb) := Lib.hid (by omega)
  have HRW : Hid (w.heap.size ≤ Rb) := Lib.hid (by omega)
  try rw [← hGe]
  try rw [← hRe]
  try rw [← hMe]
  have HGLT := Lib.hid hG.lt
  have HMB := Lib.hid hM
  have HRB := Lib.hid hR
  have HGB := Lib.hid hG
  clear hGe hRe hMe hM hR hG HLE
  have HUW : Hid (Upd [Gb] w W) := Lib.hid (HU.out.more (by simp))
  go_wp2
  go_loopg [4] rs.length (fun gk x4 wr => ∃ (i : Nat) (A : Option Addr) (c : Nat), i ≤ rs.length ∧ rs.length ≤ i + gk ∧ x4 = .int .i64 i ∧ Blk wr Gb 50 #[.int .i64 kk, .int .u32 m1, .int .u32 m2, .int .u64 m3, .int .u32 m4, .int .u32 m5, .int .u32 m6, .slice A i c, .slice wA wh.length wc, .slice none 0 0, .slice none 0 0, .int .u8 ty] ∧ wr.ownsRow W.heap.size 61 7 (.slice A i c) i ((rs.take i).flatMap encRep) ∧ Upd [Gb] W wr)
  case atStart => exact ⟨0, none, 0, Nat.zero_le _, by omega, rfl, HGB.out, World.ownsRow_nil _ _ _ _, Upd.refl _ _⟩
  case round =>
    obtain ⟨i, A, c, hi, hgi, rfl, hbg, hown, hu⟩ := hrel
    have m7 : wr.cell? ⟨Mb, 7, none⟩ = some (.slice rA rs.length rc) := (HMB.out.upd hu (by simp; exact hMG)).cell 7
    by_cases hlt : i < rs.length
    · obtain ⟨q, hqi⟩ : ∃ p, rs[i]? = some p := ⟨_, List.getElem?_eq_getElem hlt⟩
      have huw := HUW.out.next hu
      have hcr := HIN.out.cr.upd huw (Nat.le_refl _) (by intro s hs; rw [List.mem_singleton] at hs; subst hs; exact .inr HGW.out)
      obtain ⟨b, off, rfl, hb1, hb2, hcc⟩ := hcr.2 (by dsimp only; omega)
      have c0 := hcc (i * 7 + 0) _ (flat_get encRep_len rs i 0 q hqi (by omega))
      have c1 := hcc (i * 7 + 1) _ (flat_get encRep_len rs i 1 q hqi (by omega))
      have c2 := hcc (i * 7 + 2) _ (flat_get encRep_len rs i 2 q hqi (by omega))
      have c3 := hcc (i * 7 + 3) _ (flat_get encRep_len rs i 3 q hqi (by omega))
      have c4 := hcc (i * 7 + 4) _ (flat_get encRep_len rs i 4 q hqi (by omega))
      have c5 := hcc (i * 7 + 5) _ (flat_get encRep_len rs i 5 q hqi (by omega))
      have c6 := hcc (i * 7 + 6) _ (flat_get encRep_len rs i 6 q hqi (by omega))
      obtain ⟨q0, q1, q2, q3, q4, q5, q6⟩ := q
      simp only [encRep, List.getElem?_cons_zero, List.getElem?_cons_succ, List.getElem_cons_zero, List.getElem_cons_succ, ← Nat.add_assoc, Nat.add_zero] at c0 c1 c2 c3 c4 c5 c6
      have hlti : (i : Int) < (rs.length : Int) := by omega
      have hw : IntKind.i64.wrap ((i : Int) + 1) = (i : Int) + 1 := IntWalk.i64_in _ (by omega)
      have HOW := Lib.hid hown
      have HUR := Lib.hid hu
      have HBG := Lib.hid hbg
      have HQI := Lib.hid hqi
      clear hcc hown hu hbg hqi huw hcr hb1 hb2
      go_upto_region 6 with fail
      obtain ⟨W1, hW1⟩ : ∃ W1, W1 = wr.alloc (.cells #[.int .u32 q0, .int .u8 q1, .int .u32 q2, .int .u32 q3, .int .u32 q4, .int .u32 q5, .int .u32 q6] 87) := ⟨_, rfl⟩
      obtain ⟨X, hX⟩ : ∃ X, X = wr.heap.size := ⟨_, rfl⟩
      rw [← hW1, ← hX]
      have hXB : Blk W1 X 87 #[.int .u32 q0, .int .u8 q1, .int .u32 q2, .int .u32 q3, .int .u32 q4, .int .u32 q5, .int .u32 q6] := by rw [hW1, hX]; exact Blk.new _ _ _
      have HOW1 : Hid (W1.ownsRow W.heap.size 61 7 (.slice A i c) i ((rs.take i).flatMap encRep)) := by rw [hW1]; exact Lib.hid (HOW.out.alloc _)
      have HBG1 : Hid (Blk W1 Gb 50 #[.int .i64 kk, .int .u32 m1, .int .u32 m2, .int .u64 m3, .int .u32 m4, .int .u32 m5, .int .u32 m6, .slice A i c, .slice wA wh.length wc, .slice none 0 0, .slice none 0 0, .int .u8 ty]) := by rw [hW1]; exact Lib.hid (HBG.out.alloc _)
      have HUR1 : Hid (Upd [Gb] W W1) := by rw [hW1]; exact Lib.hid (HUR.out.alloc _)
      have x0 : W1.cell? ⟨X, 0, none⟩ = some (.int .u32 q0) := hXB.cell 0
      have x1 : W1.cell? ⟨X, 1, none⟩ = some (.int .u8 q1) := hXB.cell 1
      have x2 : W1.cell? ⟨X, 2, none⟩ = some (.int .u32 q2) := hXB.cell 2
      have x3 : W1.cell? ⟨X, 3, none⟩ = some (.int .u32 q3) := hXB.cell 3
      have x4 : W1.cell? ⟨X, 4, none⟩ = some (.int .u32 q4) := hXB.cell 4
      have x5 : W1.cell? ⟨X, 5, none⟩ = some (.int .u32 q5) := hXB.cell 5
      have x6 : W1.cell? ⟨X, 6, none⟩ = some (.int .u32 q6) := hXB.cell 6
      have g7 : W1.cell? ⟨Gb, 7, none⟩ = some (.slice A i c) := HBG1.out.cell 7
      obtain ⟨ys, hys⟩ : ∃ ys, ys = (rs.take i).flatMap encRep := ⟨_, rfl⟩
      rw [← hys] at HOW1
      have HYS := Lib.hid hys
      have HOA := Lib.hid (HOW1.out.alloc (.cells #[.int .u32 q0, .int .u8 q1, .int .u32 q2, .int .u32 q3, .int .u32 q4, .int .u32 q5, .int .u32 q6] 61))
      have HNEW := Lib.hid (blk_src (Blk.new W1 61 #[.int .u32 q0, .int .u8 q1, .int .u32 q2, .int .u32 q3, .int .u32 q4, .int .u32 q5, .int .u32 q6]))
      have HONE : Hid (∀ u ∈ ([.int .u32 q0, .int .u8 q1, .int .u32 q2, .int .u32 q3, .int .u32 q4, .int .u32 q5, .int .u32 q6] : List Value), u.oneCell' = true) := Lib.hid (by intro u hu; repeat (first | (rcases List.mem_cons.1 hu with rfl | hu; · rfl) | cases hu))
      have HSZ : Hid (W.heap.size ≤ (W1.alloc (.cells #[.int .u32 q0, .int .u8 q1, .int .u32 q2, .int .u32 q3, .int .u32 q4, .int .u32 q5, .int .u32 q6] 61)).heap.size) := Lib.hid (HUR1.out.alloc (.cells #[.int .u32 q0, .int .u8 q1, .int .u32 q2, .int .u32 q3, .int .u32 q4, .int .u32 q5, .int .u32 q6] 61)).size
      clear hW1 hX hXB hys HOW HBG HUR c0 c1 c2 c3 c4 c5 c6 m7
      go_wp2_with (at_builtin; refine wpList_append_own_at _ rfl (.tmp 44) (.tmp 60) 45 rfl W.heap.size 61 j0 _ 7 28 Try.underlying45 hj0 hy0 hy1 hy2 rfl (by decide) (.slice A i c) i ys rfl HOA.out ⟨W1.heap.size, 0, none⟩ 1 1 [.int .u32 q0, .int .u8 q1, .int .u32 q2, .int .u32 q3, .int .u32 q4, .int .u32 q5, .int .u32 q6] rfl rfl HNEW.out HONE.out (by unfold maxLen; omega) (by omega) HSZ.out ?_)
      intro v8 w8 hown8 hg8 _ hat8
      obtain ⟨A8, c8, hv8, _⟩ := own_form hown8
      subst hv8
      have hbg8 : Blk w8 Gb 50 #[.int .i64 kk, .int .u32 m1, .int .u32 m2, .int .u64 m3, .int .u32 m4, .int .u32 m5, .int .u32 m6, .slice A i c, .slice wA wh.length wc, .slice none 0 0, .slice none 0 0, .int .u8 ty] := (HBG1.out.alloc _).upd (Upd.of_grown hg8) (fun hm => by have := (own_block_lt HOA.out (by simpa using hm)).1; have := HGLT.out; omega)
      have g8 : w8.cell? ⟨Gb, 7, none⟩ = some (.slice A i c) := hbg8.cell 7
      have f8 := hbg8.frozen 7
      have hu8 := app_upd (HUR1.out.alloc (.cells #[.int .u32 q0, .int .u8 q1, .int .u32 q2, .int .u32 q3, .int .u32 q4, .int .u32 q5, .int .u32 q6] 61)) HOA.out hg8 (Nat.le_refl _)
      have hbg9 := hbg8.store 7 (.slice A8 (i + 1) c8)
      have hu9 := hu8.setCell (p := ⟨Gb, 7, none⟩) (.inl (by simp)) (.slice A8 (i + 1) c8)
      have hown9 := ownsRow_setCell_other hown8 (a := ⟨Gb, 7, none⟩) (fun e => by have h1 : W.heap.size ≤ Gb := (own_block_lt hown8 e).1; have h2 := HGLT.out; omega) (.slice A8 (i + 1) c8)
      have hys9 : ys ++ [.int .u32 q0, .int .u8 q1, .int .u32 q2, .int .u32 q3, .int .u32 q4, .int .u32 q5, .int .u32 q6] = (rs.take (i + 1)).flatMap encRep := by
        rw [List.take_add_one, HQI.out, HYS.out]
        simp [encRep]
      rw [hys9] at hown9
      have HF := Lib.hid (And.intro hbg9 (And.intro hown9 hu9))
      clear hown8 hg8 hat8 hbg8 hu8 hbg9 hu9 hown9 hys9 HOA HNEW HBG1 HUR1 HOW1 x0 x1 x2 x3 x4 x5 x6 g7
      go_wp2
      go_roundg (gk - 1)
      case measure => omega
      case rel => exact ⟨i + 1, A8, c8, by omega, by omega, by go_num, HF.out⟩
    · obtain rfl : i = rs.length := by omega
      rw [List.take_length] at hown
      have HOR := Lib.hid hown
      have HBG := Lib.hid hbg
      have HUR := Lib.hid hu
      clear hown hbg hu hgi hi hlt
      obtain ⟨wa, rfl⟩ : ∃ wa : World, wa = wr := ⟨_, rfl⟩
      have HUWR := Lib.hid (HUW.out.next HUR.out)
      have HMR := Lib.hid (HMB.out.upd HUR.out (by simp; exact hMG))
      have HGR : Hid (Gb < wa.heap.size) := Lib.hid HBG.out.lt
      go_wp2
      go_loopg [6] ps.length (fun gk x6 wr => ∃ (i : Nat) (A2 : Option Addr) (c2 : Nat), i ≤ ps.length ∧ ps.length ≤ i + gk ∧ x6 = .int .i64 i ∧ Blk wr Gb 50 #[.int .i64 kk, .int .u32 m1, .int .u32 m2, .int .u64 m3, .int .u32 m4, .int .u32 m5, .int .u32 m6, .slice A rs.length c, .slice wA wh.length wc, .slice A2 i c2, .slice none 0 0, .int .u8 ty] ∧ wr.ownsRow wa.heap.size 89 2 (.slice A2 i c2) i ((ps.take i).flatMap encP2) ∧ Upd [Gb] wa wr)
      case atStart => exact ⟨0, none, 0, Nat.zero_le _, by omega, rfl, HBG.out, World.ownsRow_nil _ _ _ _, Upd.refl _ _⟩
      case round =>
        obtain ⟨i, A2, c2, hi, hgi, rfl, hbg, hown, hu⟩ := hrel
        have m9 : wr.cell? ⟨Mb, 9, none⟩ = some (.slice pA ps.length pc) := (HMR.out.upd hu (by simp; exact hMG)).cell 9
        by_cases hlt : i < ps.length
        · obtain ⟨q, hqi⟩ : ∃ p, ps[i]? = some p := ⟨_, List.getElem?_eq_getElem hlt⟩
          have hqn := HPN.out q (List.mem_of_getElem? hqi)
          have huw := HUWR.out.next hu
          have hcr := HIN.out.cp.upd huw (Nat.le_refl _) (by intro s hs; rw [List.mem_singleton] at hs; subst hs; exact .inr HGW.out)
          obtain ⟨b, off, rfl, hb1, hb2, hcc⟩ := hcr.2 (by dsimp only; omega)
          have c0 := hcc (i * 2 + 0) _ (flat_get encPair_len ps i 0 q hqi (by omega))
          have c1 := hcc (i * 2 + 1) _ (flat_get encPair_len ps i 1 q hqi (by omega))
          obtain ⟨q0, q1⟩ := q
          obtain ⟨⟨a0, b0⟩, ⟨a1, b1⟩⟩ := hqn
          dsimp only at a0 b0 a1 b1
          simp only [encPair, List.getElem?_cons_zero, List.getElem?_cons_succ, List.getElem_cons_zero, List.getElem_cons_succ, ← Nat.add_assoc, Nat.add_zero] at c0 c1
          have hlti : (i : Int) < (ps.length : Int) := by omega
          have hw : IntKind.i64.wrap ((i : Int) + 1) = (i : Int) + 1 := IntWalk.i64_in _ (by omega)
          have hw0 : IntKind.i64.wrap q0 = q0 := IntWalk.i64_in _ (by omega)
          have hw1 : IntKind.i64.wrap q1 = q1 := IntWalk.i64_in _ (by omega)
          have g9 : wr.cell? ⟨Gb, 9, none⟩ = some (.slice A2 i c2) := hbg.cell 9
          have g9a : (wr.alloc (.cells #[.int .i64 q0, .int .i64 q1] 89)).cell? ⟨Gb, 9, none⟩ = some (.slice A2 i c2) := (hbg.alloc _).cell 9
          have g9b : (wr.alloc (.cells #[.int .i64 q0, .int .i64 q1] 89)).drew.cell? ⟨Gb, 9, none⟩ = some (.slice A2 i c2) := g9a
          have HBGa : Hid (Blk (wr.alloc (.cells #[.int .i64 q0, .int .i64 q1] 89)).drew Gb 50 #[.int .i64 kk, .int .u32 m1, .int .u32 m2, .int .u64 m3, .int .u32 m4, .int .u32 m5, .int .u32 m6, .slice A rs.length c, .slice wA wh.length wc, .slice A2 i c2, .slice none 0 0, .int .u8 ty]) := Lib.hid ((hbg.alloc _).drewN 1)
          have HURa := Lib.hid ((hu.alloc (.cells #[.int .i64 q0, .int .i64 q1] 89)).drewN 1)
          obtain ⟨ys, hys⟩ : ∃ ys, ys = (ps.take i).flatMap encP2 := ⟨_, rfl⟩
          rw [← hys] at hown
          have HYS := Lib.hid hys
          have HOA := Lib.hid ((hown.alloc (.cells #[.int .i64 q0, .int .i64 q1] 89)).drew)
          have HNEW : Hid (Blk (wr.alloc (.cells #[.int .i64 q0, .int .i64 q1] 89)).drew wr.heap.size 89 #[.int .i64 q0, .int .i64 q1]) := Lib.hid ((Blk.new wr 89 #[.int .i64 q0, .int .i64 q1]).drewN 1)
          have HONE : Hid (∀ u ∈ ([.int .i64 q0, .int .i64 q1] : List Value), u.oneCell' = true) := Lib.hid (by intro u hu; repeat (first | (rcases List.mem_cons.1 hu with rfl | hu; · rfl) | cases hu))
          have HSZ : Hid (wa.heap.size ≤ (wr.alloc (.cells #[.int .i64 q0, .int .i64 q1] 89)).drew.heap.size) := Lib.hid ((hu.alloc (.cells #[.int .i64 q0, .int .i64 q1] 89)).drewN 1).size
          have HQI := Lib.hid hqi
          clear hcc hown hu hbg hqi huw hcr hb1 hb2 hys
          go_upto_region 10 with fail
          go_region_law
            ((refine step_append_src _ (by rfl) (.tmp 71) (.tmp 87) 47 (by rfl) wa.heap.size 89 j1 _ 2 16 Try.underlying47 hj1 hz0 hz1 hz2 rfl (by decide) (.slice A2 i c2) i ys (by rfl) HOA.out (some ⟨wr.heap.size, 0, none⟩) 1 1 [.int .i64 q0, .int .i64 q1] (by rfl) (fun e => by cases e) rfl (fun ad had => by cases had; exact blk_src HNEW.out) HONE.out (by unfold maxLen; omega) (by omega) HSZ.out ?_; intro v8 w8 hown8 hg8 hat8; have hbg8 := HBGa.out.upd (Upd.of_grown hg8) (fun hm => by have h1 := (own_block_lt HOA.out (by simpa using hm)).1; have h2 := HGR.out; omega); have g8 : w8.cell? ⟨Gb, 9, none⟩ = some (.slice A2 i c2) := hbg8.cell 9; have f8 := hbg8.frozen 9; have HU8 := Lib.hid (app_upd HURa.out HOA.out hg8 (Nat.le_refl _)); have HBG8 := Lib.hid hbg8; obtain ⟨A8, c8, hv8, _⟩ := own_form hown8; subst hv8; have HO8 := Lib.hid hown8; clear hown8 hg8 hat8 hbg8))
          all_goals
            go_wp2
            go_roundg (gk - 1)
            case measure => omega
            case rel =>
              have hys9 : ys ++ [.int .i64 q0, .int .i64 q1] = (ps.take (i + 1)).flatMap encP2 := by
                rw [List.take_add_one, HQI.out, HYS.out]
                simp [encP2]
              have hown9 := ownsRow_setCell_other HO8.out (a := ⟨Gb, 9, none⟩) (fun e => by have h1 : wa.heap.size ≤ Gb := (own_block_lt HO8.out e).1; have h2 := HGR.out; omega) (.slice A8 (i + 1) c8)
              rw [hys9] at hown9
              exact ⟨i + 1, A8, c8, by omega, by omega, by go_num, HBG8.out.store 9 (.slice A8 (i + 1) c8), hown9, HU8.out.setCell (p := ⟨Gb, 9, none⟩) (.inl (by simp)) (.slice A8 (i + 1) c8)⟩
        · obtain rfl : i = ps.length := by omega
          rw [List.take_length] at hown
          have HOP := Lib.hid hown
          have HBG2 := Lib.hid hbg
          have HUX := Lib.hid hu
          clear hown hbg hu hgi hi hlt
          obtain ⟨wb, rfl⟩ : ∃ wb : World, wb = wr := ⟨_, rfl⟩
          have HUWQ := Lib.hid (HUWR.out.next HUX.out)
          have HMQ := Lib.hid (HMR.out.upd HUX.out (by simp; exact hMG))
          have HGQ : Hid (Gb < wb.heap.size) := Lib.hid HBG2.out.lt
          go_wp2
          go_loopg [7] qs.length (fun gk x7 wr => ∃ (i : Nat) (A3 : Option Addr) (c3 : Nat), i ≤ qs.length ∧ qs.length ≤ i + gk ∧ x7 = .int .i64 i ∧ Blk wr Gb 50 #[.int .i64 kk, .int .u32 m1, .int .u32 m2, .int .u64 m3, .int .u32 m4, .int .u32 m5, .int .u32 m6, .slice A rs.length c, .slice wA wh.length wc, .slice A2 ps.length c2, .slice A3 i c3, .int .u8 ty] ∧ wr.ownsRow wb.heap.size 92 2 (.slice A3 i c3) i ((qs.take i).flatMap encAsk) ∧ Upd [Gb] wb wr)
          case atStart => exact ⟨0, none, 0, Nat.zero_le _, by omega, rfl, HBG2.out, World.ownsRow_nil _ _ _ _, Upd.refl _ _⟩
          case round =>
            obtain ⟨i, A3, c3, hi, hgi, rfl, hbg, hown, hu⟩ := hrel
            have m9 : wr.cell? ⟨Mb, 10, none⟩ = some (.slice aA qs.length ac) := (HMQ.out.upd hu (by simp; exact hMG)).cell 10
            by_cases hlt : i < qs.length
            · obtain ⟨q, hqi⟩ : ∃ p, qs[i]? = some p := ⟨_, List.getElem?_eq_getElem hlt⟩
              have huw := HUWQ.out.next hu
              have hcr := HIN.out.ca.upd huw (Nat.le_refl _) (by intro s hs; rw [List.mem_singleton] at hs; subst hs; exact .inr HGW.out)
              obtain ⟨b, off, rfl, hb1, hb2, hcc⟩ := hcr.2 (by dsimp only; omega)
              have c0 := hcc (i * 2 + 0) _ (flat_get encAsk_len qs i 0 q hqi (by omega))
              have c1 := hcc (i * 2 + 1) _ (flat_get encAsk_len qs i 1 q hqi (by omega))
              obtain ⟨q0, q1⟩ := q
              simp only [encAsk, List.getElem?_cons_zero, List.getElem?_cons_succ, List.getElem_cons_zero, List.getElem_cons_succ, ← Nat.add_assoc, Nat.add_zero] at c0 c1
              have hlti : (i : Int) < (qs.length : Int) := by omega
              have hw : IntKind.i64.wrap ((i : Int) + 1) = (i : Int) + 1 := IntWalk.i64_in _ (by omega)
              have g9 : wr.cell? ⟨Gb, 10, none⟩ = some (.slice A3 i c3) := hbg.cell 10
              have g9a : (wr.alloc (.cells #[.int .u32 q0, .int .u8 q1] 92)).cell? ⟨Gb, 10, none⟩ = some (.slice A3 i c3) := (hbg.alloc _).cell 10
              have g9b : (wr.alloc (.cells #[.int .u32 q0, .int .u8 q1] 92)).drew.cell? ⟨Gb, 10, none⟩ = some (.slice A3 i c3) := g9a
              have HBGa : Hid (Blk (wr.alloc (.cells #[.int .u32 q0, .int .u8 q1] 92)).drew Gb 50 #[.int .i64 kk, .int .u32 m1, .int .u32 m2, .int .u64 m3, .int .u32 m4, .int .u32 m5, .int .u32 m6, .slice A rs.length c, .slice wA wh.length wc, .slice A2 ps.length c2, .slice A3 i c3, .int .u8 ty]) := Lib.hid ((hbg.alloc _).drewN 1)
              have HURa := Lib.hid ((hu.alloc (.cells #[.int .u32 q0, .int .u8 q1] 92)).drewN 1)
              obtain ⟨ys, hys⟩ : ∃ ys, ys = (qs.take i).flatMap encAsk := ⟨_, rfl⟩
              rw [← hys] at hown
              have HYS := Lib.hid hys
              have HOA := Lib.hid ((hown.alloc (.cells #[.int .u32 q0, .int .u8 q1] 92)).drew)
              have HNEW : Hid (Blk (wr.alloc (.cells #[.int .u32 q0, .int .u8 q1] 92)).drew wr.heap.size 92 #[.int .u32 q0, .int .u8 q1]) := Lib.hid ((Blk.new wr 92 #[.int .u32 q0, .int .u8 q1]).drewN 1)
              have HONE : Hid (∀ u ∈ ([.int .u32 q0, .int .u8 q1] : List Value), u.oneCell' = true) := Lib.hid (by intro u hu; repeat (first | (rcases List.mem_cons.1 hu with rfl | hu; · rfl) | cases hu))
              have HSZ : Hid (wb.heap.size ≤ (wr.alloc (.cells #[.int .u32 q0, .int .u8 q1] 92)).drew.heap.size) := Lib.hid ((hu.alloc (.cells #[.int .u32 q0, .int .u8 q1] 92)).drewN 1).size
              have HQI := Lib.hid hqi
              clear hcc hown hu hbg hqi huw hcr hb1 hb2 hys
              go_upto_region 14 with fail
              go_region_law
                ((refine step_append_src _ (by rfl) (.tmp 98) (.tmp 112) 48 (by rfl) wb.heap.size 92 j2 _ 2 8 Try.underlying48 hj2 hx0 hx1 hx2 rfl (by decide) (.slice A3 i c3) i ys (by rfl) HOA.out (some ⟨wr.heap.size, 0, none⟩) 1 1 [.int .u32 q0, .int .u8 q1] (by rfl) (fun e => by cases e) rfl (fun ad had => by cases had; exact blk_src HNEW.out) HONE.out (by unfold maxLen; omega) (by omega) HSZ.out ?_; intro v8 w8 hown8 hg8 hat8; have hbg8 := HBGa.out.upd (Upd.of_grown hg8) (fun hm => by have h1 := (own_block_lt HOA.out (by simpa using hm)).1; have h2 := HGQ.out; omega); have g8 : w8.cell? ⟨Gb, 10, none⟩ = some (.slice A3 i c3) := hbg8.cell 10; have f8 := hbg8.frozen 10; have HU8 := Lib.hid (app_upd HURa.out HOA.out hg8 (Nat.le_refl _)); have HBG8 := Lib.hid hbg8; obtain ⟨A8, c8, hv8, _⟩ := own_form hown8; subst hv8; have HO8 := Lib.hid hown8; clear hown8 hg8 hat8 hbg8))
              all_goals
                go_wp2
                go_roundg (gk - 1)
                case measure => omega
                case rel =>
                  have hys9 : ys ++ [.int .u32 q0, .int .u8 q1] = (qs.take (i + 1)).flatMap encAsk := by
                    rw [List.take_add_one, HQI.out, HYS.out]
                    simp [encAsk]
                  have hown9 := ownsRow_setCell_other HO8.out (a := ⟨Gb, 10, none⟩) (fun e => by have h1 : wb.heap.size ≤ Gb := (own_block_lt HO8.out e).1; have h2 := HGQ.out; omega) (.slice A8 (i + 1) c8)
                  rw [hys9] at hown9
                  exact ⟨i + 1, A8, c8, by omega, by omega, by go_num, HBG8.out.store 10 (.slice A8 (i + 1) c8), hown9, HU8.out.setCell (p := ⟨Gb, 10, none⟩) (.inl (by simp)) (.slice A8 (i + 1) c8)⟩
            · obtain rfl : i = qs.length := by omega
              rw [List.take_length] at hown
              have hrr := ((HRB.out.upd HUR.out (by simp; exact hRG)).upd HUX.out (by simp; exact hRG)).upd hu (by simp; exact hRG)
              have v0 : wr.cell? ⟨Gb, 0, none⟩ = some (.int .i64 kk) := hbg.cell 0
              have r0 : wr.cell? ⟨Rb, 0, none⟩ = some (.int .i64 0) := hrr.cell 0
              have f0 := hrr.frozen 0
              have v1 : wr.cell? ⟨Gb, 1, none⟩ = some (.int .u32 m1) := hbg.cell 1
              have r1 : wr.cell? ⟨Rb, 1, none⟩ = some (.int .u32 0) := hrr.cell 1
              have f1 := hrr.frozen 1
              have v2 : wr.cell? ⟨Gb, 2, none⟩ = some (.int .u32 m2) := hbg.cell 2
              have r2 : wr.cell? ⟨Rb, 2, none⟩ = some (.int .u32 0) := hrr.cell 2
              have f2 := hrr.frozen 2
              have v3 : wr.cell? ⟨Gb, 3, none⟩ = some (.int .u64 m3) := hbg.cell 3
              have r3 : wr.cell? ⟨Rb, 3, none⟩ = some (.int .u64 0) := hrr.cell 3
              have f3 := hrr.frozen 3
              have v4 : wr.cell? ⟨Gb, 4, none⟩ = some (.int .u32 m4) := hbg.cell 4
              have r4 : wr.cell? ⟨Rb, 4, none⟩ = some (.int .u32 0) := hrr.cell 4
              have f4 := hrr.frozen 4
              have v5 : wr.cell? ⟨Gb, 5, none⟩ = some (.int .u32 m5) := hbg.cell 5
              have r5 : wr.cell? ⟨Rb, 5, none⟩ = some (.int .u32 0) := hrr.cell 5
              have f5 := hrr.frozen 5
              have v6 : wr.cell? ⟨Gb, 6, none⟩ = some (.int .u32 m6) := hbg.cell 6
              have r6 : wr.cell? ⟨Rb, 6, none⟩ = some (.int .u32 0) := hrr.cell 6
              have f6 := hrr.frozen 6
              have v7 : wr.cell? ⟨Gb, 7, none⟩ = some (.slice A rs.length c) := hbg.cell 7
              have r7 : wr.cell? ⟨Rb, 7, none⟩ = some (.slice none 0 0) := hrr.cell 7
              have f7 := hrr.frozen 7
              have v8 : wr.cell? ⟨Gb, 8, none⟩ = some (.slice wA wh.length wc) := hbg.cell 8
              have r8 : wr.cell? ⟨Rb, 8, none⟩ = some (.slice none 0 0) := hrr.cell 8
              have f8 := hrr.frozen 8
              have v9 : wr.cell? ⟨Gb, 9, none⟩ = some (.slice A2 ps.length c2) := hbg.cell 9
              have r9 : wr.cell? ⟨Rb, 9, none⟩ = some (.slice none 0 0) := hrr.cell 9
              have f9 := hrr.frozen 9
              have v10 : wr.cell? ⟨Gb, 10, none⟩ = some (.slice A3 qs.length c3) := hbg.cell 10
              have r10 : wr.cell? ⟨Rb, 10, none⟩ = some (.slice none 0 0) := hrr.cell 10
              have f10 := hrr.frozen 10
              have v11 : wr.cell? ⟨Gb, 11, none⟩ = some (.int .u8 ty) := hbg.cell 11
              have r11 : wr.cell? ⟨Rb, 11, none⟩ = some (.int .u8 0) := hrr.cell 11
              have f11 := hrr.frozen 11
              have HUE := Lib.hid (HU.out.trans ((HUR.out.next HUX.out).next hu) (fun t ht => .inr (by rw [List.mem_singleton] at ht; subst ht; exact HGW.out)))
              have hgl := HGLT.out
              have hrl := HRB.out.lt
              have HO1 := Lib.hid (ownsRow_upd (ownsRow_upd HOR.out HUX.out (fun s hs e => by rw [List.mem_singleton] at hs; subst hs; have := (own_block_lt HOR.out e).1; omega)) hu (fun s hs e => by rw [List.mem_singleton] at hs; subst hs; have := (own_block_lt HOR.out e).1; omega))
              have HO2 := Lib.hid (ownsRow_upd HOP.out hu (fun s hs e => by rw [List.mem_singleton] at hs; subst hs; have := (own_block_lt HOP.out e).1; have := HUR.out.size; omega))
              have HO3 := Lib.hid hown
              have HRL := Lib.hid (And.intro hrl (And.intro HUR.out.size HUX.out.size))
              clear hown hbg hu hgi hi hlt hrr hgl hrl
              go_wp2
              refine bodyPost_res (v := .agg #[.int .i64 kk, .int .u32 m1, .int .u32 m2, .int .u64 m3, .int .u32 m4, .int .u32 m5, .int .u32 m6, .slice A rs.length c, .slice wA wh.length wc, .slice A2 ps.length c2, .slice A3 qs.length c3, .int .u8 ty]) (by simp [results, Try.results20, go_sem, r0, f0, r1, f1, r2, f2, r3, f3, r4, f4, r5, f5, r6, f6, r7, f7, r8, f8, r9, f9, r10, f10, r11, f11]) rfl ⟨⟨A, c, wA, wc, A2, c2, A3, c3⟩, rfl, ?_, rfl, set12_upd _ _ _ _ _ _ _ _ _ _ _ _ _ HUE.out (.inr HRW.out)⟩
              exact of_fin (set12_upd (S := [Rb]) _ _ _ _ _ _ _ _ _ _ _ _ _ (Upd.refl _ _) (.inl (by simp))) HRL.out.1 HRL.out.2.1 HRL.out.2.2 HO1.out HO2.out HO3.out (HIN.out.cw.below (HUE.out.below (Nat.le_refl _) (by simp)) (Nat.le_refl _)) HUE.out.size HRW.out HU.out.size
end Go.Proofs.Ytgkejdjdccgjbaa
