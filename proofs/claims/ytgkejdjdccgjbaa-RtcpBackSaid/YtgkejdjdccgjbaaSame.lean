/- The document's 'Same', of one message in two places. No condition. (Written by wip/gen/rtcpsame.py.) -/
import Derived.Test.YtgkejdjdccgjbaaOfO
import Derived.Deep.RegionHeld3
namespace Go.Proofs.Ytgkejdjdccgjbaa
open Go Go.RowKit
set_option maxHeartbeats 400000

def encI (p : Int × Int) : List Value := [.int .i64 p.1, .int .i64 p.2]
theorem encI_len (p : Int × Int) : (encI p).length = 2 := rfl
def encW (x : Int) : List Value := [.int .u32 x]
theorem encW_len (x : Int) : (encW x).length = 1 := rfl
set_option maxRecDepth 100000 in
set_option maxHeartbeats 4000000 in
theorem same_any {w : World} (kk m1 m2 m3 m4 m5 m6 ty : Int) (rs : List Rep) (wh : List Int) (ps qs : List (Int × Int)) (arA awA apA aaA brA bwA bpA baA : Option Addr) (arc awc apc aac brc bwc bpc bac : Nat)
    (hl : rs.length ≤ 100000 ∧ wh.length ≤ 100000 ∧ ps.length ≤ 100000 ∧ qs.length ≤ 100000)
    (ar : CellsIn w 0 w.heap.size 7 arA rs.length (rs.flatMap encRep)) (br : CellsIn w 0 w.heap.size 7 brA rs.length (rs.flatMap encRep)) (aw : CellsIn w 0 w.heap.size 1 awA wh.length (wh.flatMap encW)) (bw : CellsIn w 0 w.heap.size 1 bwA wh.length (wh.flatMap encW))
    (ap : CellsIn w 0 w.heap.size 2 apA ps.length (ps.flatMap encI)) (bp : CellsIn w 0 w.heap.size 2 bpA ps.length (ps.flatMap encI)) (aa : CellsIn w 0 w.heap.size 2 aaA qs.length (qs.flatMap encAsk)) (ba : CellsIn w 0 w.heap.size 2 baA qs.length (qs.flatMap encAsk)) :
    Calls Try.prog 21 #[.agg #[.int .i64 kk, .int .u32 m1, .int .u32 m2, .int .u64 m3, .int .u32 m4, .int .u32 m5, .int .u32 m6, .slice arA rs.length arc, .slice awA wh.length awc, .slice apA ps.length apc, .slice aaA qs.length aac, .int .u8 ty], .agg #[.int .i64 kk, .int .u32 m1, .int .u32 m2, .int .u64 m3, .int .u32 m4, .int .u32 m5, .int .u32 m6, .slice brA rs.length brc, .slice bwA wh.length bwc, .slice bpA ps.length bpc, .slice baA qs.length bac, .int .u8 ty]] w fun e w' => e = .returned (.bool true) ∧ Upd [] w w' := by
  have HR := Lib.hid (And.intro ar br)
  have HW := Lib.hid (And.intro aw bw)
  have HP := Lib.hid (And.intro ap bp)
  have HQ := Lib.hid (And.intro aa ba)
  obtain ⟨l1, l2, l3, l4⟩ := hl
  clear ar br aw bw ap bp aa ba
  obtain ⟨W, hW⟩ : ∃ W, W = (w.alloc (.cells #[.int .i64 kk, .int .u32 m1, .int .u32 m2, .int .u64 m3, .int .u32 m4, .int .u32 m5, .int .u32 m6, .slice arA rs.length arc, .slice awA wh.length awc, .slice apA ps.length apc, .slice aaA qs.length aac, .int .u8 ty] 50)).alloc (.cells #[.int .i64 kk, .int .u32 m1, .int .u32 m2, .int .u64 m3, .int .u32 m4, .int .u32 m5, .int .u32 m6, .slice brA rs.length brc, .slice bwA wh.length bwc, .slice bpA ps.length bpc, .slice baA qs.length bac, .int .u8 ty] 50) := ⟨_, rfl⟩
  have hU : Upd [] w W := by rw [hW]; exact ((Upd.refl [] w).alloc _).alloc _
  have hM : Blk W w.heap.size 50 #[.int .i64 kk, .int .u32 m1, .int .u32 m2, .int .u64 m3, .int .u32 m4, .int .u32 m5, .int .u32 m6, .slice arA rs.length arc, .slice awA wh.length awc, .slice apA ps.length apc, .slice aaA qs.length aac, .int .u8 ty] := by rw [hW]; exact (Blk.new _ _ _).alloc _
  have hN : Blk W (w.heap.size + 1) 50 #[.int .i64 kk, .int .u32 m1, .int .u32 m2, .int .u64 m3, .int .u32 m4, .int .u32 m5, .int .u32 m6, .slice brA rs.length brc, .slice bwA wh.length bwc, .slice bpA ps.length bpc, .slice baA qs.length bac, .int .u8 ty] := by
    have := Blk.new (w.alloc (.cells #[.int .i64 kk, .int .u32 m1, .int .u32 m2, .int .u64 m3, .int .u32 m4, .int .u32 m5, .int .u32 m6, .slice arA rs.length arc, .slice awA wh.length awc, .slice apA ps.length apc, .slice aaA qs.length aac, .int .u8 ty] 50)) 50 #[.int .i64 kk, .int .u32 m1, .int .u32 m2, .int .u64 m3, .int .u32 m4, .int .u32 m5, .int .u32 m6, .slice brA rs.length brc, .slice bwA wh.length bwc, .slice bpA ps.length bpc, .slice baA qs.length bac, .int .u8 ty]
    rw [World.size_alloc] at this
    rw [hW]; exact this
  have HU := Lib.hid hU
  go_enter Try.func21, Try.ntmps21
  go_upto_region 1 with fail
  rw [← hW]
  clear hW hU
  obtain ⟨N, hNe⟩ : ∃ R, R = w.heap.size + 1 := ⟨_, rfl⟩
  obtain ⟨M, hMe⟩ : ∃ M, M = w.heap.size := ⟨_, rfl⟩
  rw [← hNe] at hN
  rw [← hMe] at hM
  try rw [← hNe]
  try rw [← hMe]
  clear hNe hMe
  have HM := Lib.hid hM
  have HN := Lib.hid hN
  have g7 : W.cell? ⟨M, 7, none⟩ = some (.slice arA rs.length arc) := hM.cell 7
  have r7 : W.cell? ⟨N, 7, none⟩ = some (.slice brA rs.length brc) := hN.cell 7
  have g8 : W.cell? ⟨M, 8, none⟩ = some (.slice awA wh.length awc) := hM.cell 8
  have r8 : W.cell? ⟨N, 8, none⟩ = some (.slice bwA wh.length bwc) := hN.cell 8
  have g9 : W.cell? ⟨M, 9, none⟩ = some (.slice apA ps.length apc) := hM.cell 9
  have r9 : W.cell? ⟨N, 9, none⟩ = some (.slice bpA ps.length bpc) := hN.cell 9
  have g10 : W.cell? ⟨M, 10, none⟩ = some (.slice aaA qs.length aac) := hM.cell 10
  have r10 : W.cell? ⟨N, 10, none⟩ = some (.slice baA qs.length bac) := hN.cell 10
  clear hM hN
  go_wp2
  go_loopg [5] rs.length (fun gk x wr => ∃ (i : Nat), i ≤ rs.length ∧ rs.length ≤ i + gk ∧ x = .int .i64 i ∧ Upd [] W wr)
  case atStart => exact ⟨0, Nat.zero_le _, by omega, rfl, Upd.refl _ _⟩
  case round =>
    obtain ⟨i, hi, hgi, rfl, hu⟩ := hrel
    have gg : wr.cell? ⟨M, 7, none⟩ = some (.slice arA rs.length arc) := (HM.out.upd hu (by simp)).cell 7
    have rr : wr.cell? ⟨N, 7, none⟩ = some (.slice brA rs.length brc) := (HN.out.upd hu (by simp)).cell 7
    by_cases hlt : i < rs.length
    · obtain ⟨q, hqi⟩ : ∃ p, rs[i]? = some p := ⟨_, List.getElem?_eq_getElem hlt⟩
      have huw := HU.out.next hu
      obtain ⟨b1, o1, hx1, _, hb1, hcc⟩ := HR.out.1.2 (by omega)
      obtain ⟨b2, o2, hx2, _, hb2, hdd⟩ := HR.out.2.2 (by omega)
      subst hx1
      subst hx2
      have c0 := (huw.cell (p := ⟨b1, o1 + (i * 7 + 0), none⟩) hb1 (by simp)).trans (hcc (i * 7 + 0) _ (flat_get encRep_len rs i 0 q hqi (by omega)))
      have d0 := (huw.cell (p := ⟨b2, o2 + (i * 7 + 0), none⟩) hb2 (by simp)).trans (hdd (i * 7 + 0) _ (flat_get encRep_len rs i 0 q hqi (by omega)))
      have c1 := (huw.cell (p := ⟨b1, o1 + (i * 7 + 1), none⟩) hb1 (by simp)).trans (hcc (i * 7 + 1) _ (flat_get encRep_len rs i 1 q hqi (by omega)))
      have d1 := (huw.cell (p := ⟨b2, o2 + (i * 7 + 1), none⟩) hb2 (by simp)).trans (hdd (i * 7 + 1) _ (flat_get encRep_len rs i 1 q hqi (by omega)))
      have c2 := (huw.cell (p := ⟨b1, o1 + (i * 7 + 2), none⟩) hb1 (by simp)).trans (hcc (i * 7 + 2) _ (flat_get encRep_len rs i 2 q hqi (by omega)))
      have d2 := (huw.cell (p := ⟨b2, o2 + (i * 7 + 2), none⟩) hb2 (by simp)).trans (hdd (i * 7 + 2) _ (flat_get encRep_len rs i 2 q hqi (by omega)))
      have c3 := (huw.cell (p := ⟨b1, o1 + (i * 7 + 3), none⟩) hb1 (by simp)).trans (hcc (i * 7 + 3) _ (flat_get encRep_len rs i 3 q hqi (by omega)))
      have d3 := (huw.cell (p := ⟨b2, o2 + (i * 7 + 3), none⟩) hb2 (by simp)).trans (hdd (i * 7 + 3) _ (flat_get encRep_len rs i 3 q hqi (by omega)))
      have c4 := (huw.cell (p := ⟨b1, o1 + (i * 7 + 4), none⟩) hb1 (by simp)).trans (hcc (i * 7 + 4) _ (flat_get encRep_len rs i 4 q hqi (by omega)))
      have d4 := (huw.cell (p := ⟨b2, o2 + (i * 7 + 4), none⟩) hb2 (by simp)).trans (hdd (i * 7 + 4) _ (flat_get encRep_len rs i 4 q hqi (by omega)))
      have c5 := (huw.cell (p := ⟨b1, o1 + (i * 7 + 5), none⟩) hb1 (by simp)).trans (hcc (i * 7 + 5) _ (flat_get encRep_len rs i 5 q hqi (by omega)))
      have d5 := (huw.cell (p := ⟨b2, o2 + (i * 7 + 5), none⟩) hb2 (by simp)).trans (hdd (i * 7 + 5) _ (flat_get encRep_len rs i 5 q hqi (by omega)))
      have c6 := (huw.cell (p := ⟨b1, o1 + (i * 7 + 6), none⟩) hb1 (by simp)).trans (hcc (i * 7 + 6) _ (flat_get encRep_len rs i 6 q hqi (by omega)))
      have d6 := (huw.cell (p := ⟨b2, o2 + (i * 7 + 6), none⟩) hb2 (by simp)).trans (hdd (i * 7 + 6) _ (flat_get encRep_len rs i 6 q hqi (by omega)))
      obtain ⟨q0, q1, q2, q3, q4, q5, q6⟩ := q
      simp only [encRep, List.getElem?_cons_zero, List.getElem?_cons_succ, List.getElem_cons_zero, List.getElem_cons_succ, ← Nat.add_assoc, Nat.add_zero, Nat.mul_one] at c0 d0 c1 d1 c2 d2 c3 d3 c4 d4 c5 d5 c6 d6
      have hlti : (i : Int) < (rs.length : Int) := by omega
      have hw : IntKind.i64.wrap ((i : Int) + 1) = (i : Int) + 1 := IntWalk.i64_in _ (by omega)
      have HUR := Lib.hid hu
      clear hcc hdd hu hqi huw hb1 hb2
      go_upto_region 6 with fail
      go_region_held3 (fun w' => w'.cell? ⟨M, 7, none⟩ = some (.slice (some ⟨b1, o1, none⟩) rs.length arc) ∧ w'.cell? ⟨N, 7, none⟩ = some (.slice (some ⟨b2, o2, none⟩) rs.length brc) ∧ w'.cell? ⟨b1, o1 + i * 7, none⟩ = some (.int .u32 q0) ∧ w'.cell? ⟨b2, o2 + i * 7, none⟩ = some (.int .u32 q0) ∧ w'.cell? ⟨b1, o1 + i * 7 + 1, none⟩ = some (.int .u8 q1) ∧ w'.cell? ⟨b2, o2 + i * 7 + 1, none⟩ = some (.int .u8 q1) ∧ w'.cell? ⟨b1, o1 + i * 7 + 2, none⟩ = some (.int .u32 q2) ∧ w'.cell? ⟨b2, o2 + i * 7 + 2, none⟩ = some (.int .u32 q2) ∧ w'.cell? ⟨b1, o1 + i * 7 + 3, none⟩ = some (.int .u32 q3) ∧ w'.cell? ⟨b2, o2 + i * 7 + 3, none⟩ = some (.int .u32 q3) ∧ w'.cell? ⟨b1, o1 + i * 7 + 4, none⟩ = some (.int .u32 q4) ∧ w'.cell? ⟨b2, o2 + i * 7 + 4, none⟩ = some (.int .u32 q4) ∧ w'.cell? ⟨b1, o1 + i * 7 + 5, none⟩ = some (.int .u32 q5) ∧ w'.cell? ⟨b2, o2 + i * 7 + 5, none⟩ = some (.int .u32 q5) ∧ w'.cell? ⟨b1, o1 + i * 7 + 6, none⟩ = some (.int .u32 q6) ∧ w'.cell? ⟨b2, o2 + i * 7 + 6, none⟩ = some (.int .u32 q6)) (first | exact ⟨gg, rr, c0, d0, c1, d1, c2, d2, c3, d3, c4, d4, c5, d5, c6, d6⟩ | go_keep) (fail)
      have HUD := Lib.hid (HUR.out.drewN 1)
      clear c0 d0 c1 d1 c2 d2 c3 d3 c4 d4 c5 d5 c6 d6 gg rr
      go_wp2
      go_roundg (gk - 1)
      case measure => omega
      case rel => exact ⟨i + 1, by omega, by omega, by go_num, HUD.out⟩
    · obtain rfl : i = rs.length := by omega
      have HU0 := Lib.hid hu
      clear hu hgi hi hlt
      obtain ⟨wa0, rfl⟩ : ∃ wa : World, wa = wr := ⟨_, rfl⟩
      go_wp2
      go_loopg [6] wh.length (fun gk x wr => ∃ (i : Nat), i ≤ wh.length ∧ wh.length ≤ i + gk ∧ x = .int .i64 i ∧ Upd [] W wr)
      case atStart => exact ⟨0, Nat.zero_le _, by omega, rfl, HU0.out⟩
      case round =>
        obtain ⟨i, hi, hgi, rfl, hu⟩ := hrel
        have gg : wr.cell? ⟨M, 8, none⟩ = some (.slice awA wh.length awc) := (HM.out.upd hu (by simp)).cell 8
        have rr : wr.cell? ⟨N, 8, none⟩ = some (.slice bwA wh.length bwc) := (HN.out.upd hu (by simp)).cell 8
        by_cases hlt : i < wh.length
        · obtain ⟨q, hqi⟩ : ∃ p, wh[i]? = some p := ⟨_, List.getElem?_eq_getElem hlt⟩
          have huw := HU.out.next hu
          obtain ⟨b1, o1, hx1, _, hb1, hcc⟩ := HW.out.1.2 (by omega)
          obtain ⟨b2, o2, hx2, _, hb2, hdd⟩ := HW.out.2.2 (by omega)
          subst hx1
          subst hx2
          have c0 := (huw.cell (p := ⟨b1, o1 + (i * 1 + 0), none⟩) hb1 (by simp)).trans (hcc (i * 1 + 0) _ (flat_get encW_len wh i 0 q hqi (by omega)))
          have d0 := (huw.cell (p := ⟨b2, o2 + (i * 1 + 0), none⟩) hb2 (by simp)).trans (hdd (i * 1 + 0) _ (flat_get encW_len wh i 0 q hqi (by omega)))
          simp only [encW, List.getElem?_cons_zero, List.getElem?_cons_succ, List.getElem_cons_zero, List.getElem_cons_succ, ← Nat.add_assoc, Nat.add_zero, Nat.mul_one] at c0 d0
          have hlti : (i : Int) < (wh.length : Int) := by omega
          have hw : IntKind.i64.wrap ((i : Int) + 1) = (i : Int) + 1 := IntWalk.i64_in _ (by omega)
          have HUR := Lib.hid hu
          clear hcc hdd hu hqi huw hb1 hb2
          go_upto_region 11 with fail
          go_region_held3 (fun w' => w'.cell? ⟨M, 8, none⟩ = some (.slice (some ⟨b1, o1, none⟩) wh.length awc) ∧ w'.cell? ⟨N, 8, none⟩ = some (.slice (some ⟨b2, o2, none⟩) wh.length bwc) ∧ w'.cell? ⟨b1, o1 + i, none⟩ = some (.int .u32 q) ∧ w'.cell? ⟨b2, o2 + i, none⟩ = some (.int .u32 q)) (first | exact ⟨gg, rr, c0, d0⟩ | go_keep) (fail)
          have HUD := Lib.hid (HUR.out.drewN 1)
          clear c0 d0 gg rr
          go_wp2
          go_roundg (gk - 1)
          case measure => omega
          case rel => exact ⟨i + 1, by omega, by omega, by go_num, HUD.out⟩
        · obtain rfl : i = wh.length := by omega
          have HU2 := Lib.hid hu
          clear hu hgi hi hlt
          obtain ⟨wa1, rfl⟩ : ∃ wa : World, wa = wr := ⟨_, rfl⟩
          go_wp2
          go_loopg [7] ps.length (fun gk x wr => ∃ (i : Nat), i ≤ ps.length ∧ ps.length ≤ i + gk ∧ x = .int .i64 i ∧ Upd [] W wr)
          case atStart => exact ⟨0, Nat.zero_le _, by omega, rfl, HU2.out⟩
          case round =>
            obtain ⟨i, hi, hgi, rfl, hu⟩ := hrel
            have gg : wr.cell? ⟨M, 9, none⟩ = some (.slice apA ps.length apc) := (HM.out.upd hu (by simp)).cell 9
            have rr : wr.cell? ⟨N, 9, none⟩ = some (.slice bpA ps.length bpc) := (HN.out.upd hu (by simp)).cell 9
            by_cases hlt : i < ps.length
            · obtain ⟨q, hqi⟩ : ∃ p, ps[i]? = some p := ⟨_, List.getElem?_eq_getElem hlt⟩
              have huw := HU.out.next hu
              obtain ⟨b1, o1, hx1, _, hb1, hcc⟩ := HP.out.1.2 (by omega)
              obtain ⟨b2, o2, hx2, _, hb2, hdd⟩ := HP.out.2.2 (by omega)
              subst hx1
              subst hx2
              have c0 := (huw.cell (p := ⟨b1, o1 + (i * 2 + 0), none⟩) hb1 (by simp)).trans (hcc (i * 2 + 0) _ (flat_get encI_len ps i 0 q hqi (by omega)))
              have d0 := (huw.cell (p := ⟨b2, o2 + (i * 2 + 0), none⟩) hb2 (by simp)).trans (hdd (i * 2 + 0) _ (flat_get encI_len ps i 0 q hqi (by omega)))
              have c1 := (huw.cell (p := ⟨b1, o1 + (i * 2 + 1), none⟩) hb1 (by simp)).trans (hcc (i * 2 + 1) _ (flat_get encI_len ps i 1 q hqi (by omega)))
              have d1 := (huw.cell (p := ⟨b2, o2 + (i * 2 + 1), none⟩) hb2 (by simp)).trans (hdd (i * 2 + 1) _ (flat_get encI_len ps i 1 q hqi (by omega)))
              obtain ⟨q0, q1⟩ := q
              simp only [encI, List.getElem?_cons_zero, List.getElem?_cons_succ, List.getElem_cons_zero, List.getElem_cons_succ, ← Nat.add_assoc, Nat.add_zero, Nat.mul_one] at c0 d0 c1 d1
              have hlti : (i : Int) < (ps.length : Int) := by omega
              have hw : IntKind.i64.wrap ((i : Int) + 1) = (i : Int) + 1 := IntWalk.i64_in _ (by omega)
              have HUR := Lib.hid hu
              clear hcc hdd hu hqi huw hb1 hb2
              go_upto_region 16 with fail
              go_region_held3 (fun w' => w'.cell? ⟨M, 9, none⟩ = some (.slice (some ⟨b1, o1, none⟩) ps.length apc) ∧ w'.cell? ⟨N, 9, none⟩ = some (.slice (some ⟨b2, o2, none⟩) ps.length bpc) ∧ w'.cell? ⟨b1, o1 + i * 2, none⟩ = some (.int .i64 q0) ∧ w'.cell? ⟨b2, o2 + i * 2, none⟩ = some (.int .i64 q0) ∧ w'.cell? ⟨b1, o1 + i * 2 + 1, none⟩ = some (.int .i64 q1) ∧ w'.cell? ⟨b2, o2 + i * 2 + 1, none⟩ = some (.int .i64 q1)) (first | exact ⟨gg, rr, c0, d0, c1, d1⟩ | go_keep) (fail)
              have HUD := Lib.hid (HUR.out.drewN 1)
              clear c0 d0 c1 d1 gg rr
              go_wp2
              go_roundg (gk - 1)
              case measure => omega
              case rel => exact ⟨i + 1, by omega, by omega, by go_num, HUD.out⟩
            · obtain rfl : i = ps.length := by omega
              have HU4 := Lib.hid hu
              clear hu hgi hi hlt
              obtain ⟨wa2, rfl⟩ : ∃ wa : World, wa = wr := ⟨_, rfl⟩
              go_wp2
              go_loopg [8] qs.length (fun gk x wr => ∃ (i : Nat), i ≤ qs.length ∧ qs.length ≤ i + gk ∧ x = .int .i64 i ∧ Upd [] W wr)
              case atStart => exact ⟨0, Nat.zero_le _, by omega, rfl, HU4.out⟩
              case round =>
                obtain ⟨i, hi, hgi, rfl, hu⟩ := hrel
                have gg : wr.cell? ⟨M, 10, none⟩ = some (.slice aaA qs.length aac) := (HM.out.upd hu (by simp)).cell 10
                have rr : wr.cell? ⟨N, 10, none⟩ = some (.slice baA qs.length bac) := (HN.out.upd hu (by simp)).cell 10
                by_cases hlt : i < qs.length
                · obtain ⟨q, hqi⟩ : ∃ p, qs[i]? = some p := ⟨_, List.getElem?_eq_getElem hlt⟩
                  have huw := HU.out.next hu
                  obtain ⟨b1, o1, hx1, _, hb1, hcc⟩ := HQ.out.1.2 (by omega)
                  obtain ⟨b2, o2, hx2, _, hb2, hdd⟩ := HQ.out.2.2 (by omega)
                  subst hx1
                  subst hx2
                  have c0 := (huw.cell (p := ⟨b1, o1 + (i * 2 + 0), none⟩) hb1 (by simp)).trans (hcc (i * 2 + 0) _ (flat_get encAsk_len qs i 0 q hqi (by omega)))
                  have d0 := (huw.cell (p := ⟨b2, o2 + (i * 2 + 0), none⟩) hb2 (by simp)).trans (hdd (i * 2 + 0) _ (flat_get encAsk_len qs i 0 q hqi (by omega)))
                  have c1 := (huw.cell (p := ⟨b1, o1 + (i * 2 + 1), none⟩) hb1 (by simp)).trans (hcc (i * 2 + 1) _ (flat_get encAsk_len qs i 1 q hqi (by omega)))
                  have d1 := (huw.cell (p := ⟨b2, o2 + (i * 2 + 1), none⟩) hb2 (by simp)).trans (hdd (i * 2 + 1) _ (flat_get encAsk_len qs i 1 q hqi (by omega)))
                  obtain ⟨q0, q1⟩ := q
                  simp only [encAsk, List.getElem?_cons_zero, List.getElem?_cons_succ, List.getElem_cons_zero, List.getElem_cons_succ, ← Nat.add_assoc, Nat.add_zero, Nat.mul_one] at c0 d0 c1 d1
                  have hlti : (i : Int) < (qs.length : Int) := by omega
                  have hw : IntKind.i64.wrap ((i : Int) + 1) = (i : Int) + 1 := IntWalk.i64_in _ (by omega)
                  have HUR := Lib.hid hu
                  clear hcc hdd hu hqi huw hb1 hb2
                  go_upto_region 21 with fail
                  go_region_held3 (fun w' => w'.cell? ⟨M, 10, none⟩ = some (.slice (some ⟨b1, o1, none⟩) qs.length aac) ∧ w'.cell? ⟨N, 10, none⟩ = some (.slice (some ⟨b2, o2, none⟩) qs.length bac) ∧ w'.cell? ⟨b1, o1 + i * 2, none⟩ = some (.int .u32 q0) ∧ w'.cell? ⟨b2, o2 + i * 2, none⟩ = some (.int .u32 q0) ∧ w'.cell? ⟨b1, o1 + i * 2 + 1, none⟩ = some (.int .u8 q1) ∧ w'.cell? ⟨b2, o2 + i * 2 + 1, none⟩ = some (.int .u8 q1)) (first | exact ⟨gg, rr, c0, d0, c1, d1⟩ | go_keep) (fail)
                  have HUD := Lib.hid (HUR.out.drewN 1)
                  clear c0 d0 c1 d1 gg rr
                  go_wp2
                  go_roundg (gk - 1)
                  case measure => omega
                  case rel => exact ⟨i + 1, by omega, by omega, by go_num, HUD.out⟩
                · obtain rfl : i = qs.length := by omega
                  have HU6 := Lib.hid hu
                  clear hu hgi hi hlt
                  have hm := HM.out.upd HU6.out (by simp)
                  have hn := HN.out.upd HU6.out (by simp)
                  have y0 : wr.cell? ⟨M, 0, none⟩ = some (.int .i64 kk) := hm.cell 0
                  have z0 : wr.cell? ⟨N, 0, none⟩ = some (.int .i64 kk) := hn.cell 0
                  have y1 : wr.cell? ⟨M, 1, none⟩ = some (.int .u32 m1) := hm.cell 1
                  have z1 : wr.cell? ⟨N, 1, none⟩ = some (.int .u32 m1) := hn.cell 1
                  have y2 : wr.cell? ⟨M, 2, none⟩ = some (.int .u32 m2) := hm.cell 2
                  have z2 : wr.cell? ⟨N, 2, none⟩ = some (.int .u32 m2) := hn.cell 2
                  have y3 : wr.cell? ⟨M, 3, none⟩ = some (.int .u64 m3) := hm.cell 3
                  have z3 : wr.cell? ⟨N, 3, none⟩ = some (.int .u64 m3) := hn.cell 3
                  have y4 : wr.cell? ⟨M, 4, none⟩ = some (.int .u32 m4) := hm.cell 4
                  have z4 : wr.cell? ⟨N, 4, none⟩ = some (.int .u32 m4) := hn.cell 4
                  have y5 : wr.cell? ⟨M, 5, none⟩ = some (.int .u32 m5) := hm.cell 5
                  have z5 : wr.cell? ⟨N, 5, none⟩ = some (.int .u32 m5) := hn.cell 5
                  have y6 : wr.cell? ⟨M, 6, none⟩ = some (.int .u32 m6) := hm.cell 6
                  have z6 : wr.cell? ⟨N, 6, none⟩ = some (.int .u32 m6) := hn.cell 6
                  have y11 : wr.cell? ⟨M, 11, none⟩ = some (.int .u8 ty) := hm.cell 11
                  have z11 : wr.cell? ⟨N, 11, none⟩ = some (.int .u8 ty) := hn.cell 11
                  clear hm hn
                  go_wp2
                  exact bodyPost_res (v := .bool true) (by simp [results, Try.results21, go_sem]) rfl ⟨rfl, HU.out.next HU6.out⟩
end Go.Proofs.Ytgkejdjdccgjbaa
