/- Parts of the proof, one behind the other: Same, Same2, RParse, Open, Open2, ROpen. No condition of their own. -/
import Derived.Test.YtgkejdjdccgjbaaB6
import Derived.Deep.RegionHeld3
import Derived.Test.YtgkejdjdccgjbaaB3
import Derived.Test.YtgkejdjdccgjbaaB9
import Derived.Test.YtgkejdjdccgjbaaB5
import Derived.Test.YtgkejdjdccgjbaaB1
import Derived.Deep.CutBlock
import Derived.Deep.Slices
import Derived.Deep.Fields
import Derived.ChangeSame
import Derived.ProofKit
import Derived.OpenShut
/- The document's 'Same', of one message in two places. No condition. (Written by wip/gen/rtcpsame.py.) -/
namespace Go.Proofs.Ytgkejdjdccgjbaa
open Go Go.RowKit
set_option maxHeartbeats 400000

def encI (p : Int × Int) : List Value := [.int .i64 p.1, .int .i64 p.2]
theorem encI_len (p : Int × Int) : (encI p).length = 2 := rfl
def encW (x : Int) : List Value := [.int .u32 x]
theorem encW_len (x : Int) : (encW x).length = 1 := rfl
set_option maxRecDepth 100000 in
set_option maxHeartbeats 4000000 in
theorem same_any {w : World} (kk m1 m2 m3 m4 m5 m6 ty : Int) (rs : List Rep) (wh : List Int) (ps qs : List (Int × Int)) (arA awA apA aaA brA bwA bpA baA : Option Addr) (arc awc apc aac brc bwc bpc bac : Nat)
    (hl : rs.length ≤ 100000 ∧ wh.length ≤ 100000 ∧ ps.length ≤ 100000 ∧ qs.length ≤ 100000)
    (ar : CellsIn w 0 w.heap.size 7 arA rs.length (rs.flatMap encRep)) (br : CellsIn w 0 w.heap.size 7 brA rs.length (rs.flatMap encRep)) (aw : CellsIn w 0 w.heap.size 1 awA wh.length (wh.flatMap encW)) (bw : CellsIn w 0 w.heap.size 1 bwA wh.length (wh.flatMap encW))
    (ap : CellsIn w 0 w.heap.size 2 apA ps.length (ps.flatMap encI)) (bp : CellsIn w 0 w.heap.size 2 bpA ps.length (ps.flatMap encI)) (aa : CellsIn w 0 w.heap.size 2 aaA qs.length (qs.flatMap encAsk)) (ba : CellsIn w 0 w.heap.size 2 baA qs.length (qs.flatMap encAsk)) :
    Calls Try.prog 21 #[.agg #[.int .i64 kk, .int .u32 m1, .int .u32 m2, .int .u64 m3, .int .u32 m4, .int .u32 m5, .int .u32 m6, .slice arA rs.length arc, .slice awA wh.length awc, .slice apA ps.length apc, .slice aaA qs.length aac, .int .u8 ty], .agg #[.int .i64 kk, .int .u32 m1, .int .u32 m2, .int .u64 m3, .int .u32 m4, .int .u32 m5, .int .u32 m6, .slice brA rs.length brc, .slice bwA wh.length bwc, .slice bpA ps.length bpc, .slice baA qs.length bac, .int .u8 ty]] w fun e w' => e = .returned (.bool true) ∧ Upd [] w w' := by
  have HR := Lib.hid (And.intro ar br)
  have HW := Lib.hid (And.intro aw bw)
  have HP := Lib.hid (And.intro ap bp)
  have HQ := Lib.hid (And.intro aa ba)
  obtain ⟨l1, l2, l3, l4⟩ := hl
  clear ar br aw bw ap bp aa ba
  obtain ⟨W, hW⟩ : ∃ W, W = (w.alloc (.cells #[.int .i64 kk, .int .u32 m1, .int .u32 m2, .int .u64 m3, .int .u32 m4, .int .u32 m5, .int .u32 m6, .slice arA rs.length arc, .slice awA wh.length awc, .slice apA ps.length apc, .slice aaA qs.length aac, .int .u8 ty] 50)).alloc (.cells #[.int .i64 kk, .int .u32 m1, .int .u32 m2, .int .u64 m3, .int .u32 m4, .int .u32 m5, .int .u32 m6, .slice brA rs.length brc, .slice bwA wh.length bwc, .slice bpA ps.length bpc, .slice baA qs.length bac, .int .u8 ty] 50) := ⟨_, rfl⟩
  have hU : Upd [] w W := by rw [hW]; exact ((Upd.refl [] w).alloc _).alloc _
  have hM : Blk W w.heap.size 50 #[.int .i64 kk, .int .u32 m1, .int .u32 m2, .int .u64 m3, .int .u32 m4, .int .u32 m5, .int .u32 m6, .slice arA rs.length arc, .slice awA wh.length awc, .slice apA ps.length apc, .slice aaA qs.length aac, .int .u8 ty] := by rw [hW]; exact (Blk.new _ _ _).alloc _
  have hN : Blk W (w.heap.size + 1) 50 #[.int .i64 kk, .int .u32 m1, .int .u32 m2, .int .u64 m3, .int .u32 m4, .int .u32 m5, .int .u32 m6, .slice brA rs.length brc, .slice bwA wh.length bwc, .slice bpA ps.length bpc, .slice baA qs.length bac, .int .u8 ty] := by
    have := Blk.new (w.alloc (.cells #[.int .i64 kk, .int .u32 m1, .int .u32 m2, .int .u64 m3, .int .u32 m4, .int .u32 m5, .int .u32 m6, .slice arA rs.length arc, .slice awA wh.length awc, .slice apA ps.length apc, .slice aaA qs.length aac, .int .u8 ty] 50)) 50 #[.int .i64 kk, .int .u32 m1, .int .u32 m2, .int .u64 m3, .int .u32 m4, .int .u32 m5, .int .u32 m6, .slice brA rs.length brc, .slice bwA wh.length bwc, .slice bpA ps.length bpc, .slice baA qs.length bac, .int .u8 ty]
    rw [World.size_alloc] at this
    rw [hW]; exact this
  have HU := Lib.hid hU
  go_enter Try.func21, Try.ntmps21
  go_upto_region 1 with fail
  rw [← hW]
  clear hW hU
  obtain ⟨N, hNe⟩ : ∃ R, R = w.heap.size + 1 := ⟨_, rfl⟩
  obtain ⟨M, hMe⟩ : ∃ M, M = w.heap.size := ⟨_, rfl⟩
  rw [← hNe] at hN
  rw [← hMe] at hM
  try rw [← hNe]
  try rw [← hMe]
  clear hNe hMe
  have HM := Lib.hid hM
  have HN := Lib.hid hN
  have g7 : W.cell? ⟨M, 7, none⟩ = some (.slice arA rs.length arc) := hM.cell 7
  have r7 : W.cell? ⟨N, 7, none⟩ = some (.slice brA rs.length brc) := hN.cell 7
  have g8 : W.cell? ⟨M, 8, none⟩ = some (.slice awA wh.length awc) := hM.cell 8
  have r8 : W.cell? ⟨N, 8, none⟩ = some (.slice bwA wh.length bwc) := hN.cell 8
  have g9 : W.cell? ⟨M, 9, none⟩ = some (.slice apA ps.length apc) := hM.cell 9
  have r9 : W.cell? ⟨N, 9, none⟩ = some (.slice bpA ps.length bpc) := hN.cell 9
  have g10 : W.cell? ⟨M, 10, none⟩ = some (.slice aaA qs.length aac) := hM.cell 10
  have r10 : W.cell? ⟨N, 10, none⟩ = some (.slice baA qs.length bac) := hN.cell 10
  clear hM hN
  go_wp2
  go_loopg [5] rs.length (fun gk x wr => ∃ (i : Nat), i ≤ rs.length ∧ rs.length ≤ i + gk ∧ x = .int .i64 i ∧ Upd [] W wr)
  case atStart => exact ⟨0, Nat.zero_le _, by omega, rfl, Upd.refl _ _⟩
  case round =>
    obtain ⟨i, hi, hgi, rfl, hu⟩ := hrel
    have gg : wr.cell? ⟨M, 7, none⟩ = some (.slice arA rs.length arc) := (HM.out.upd hu (by simp)).cell 7
    have rr : wr.cell? ⟨N, 7, none⟩ = some (.slice brA rs.length brc) := (HN.out.upd hu (by simp)).cell 7
    by_cases hlt : i < rs.length
    · obtain ⟨q, hqi⟩ : ∃ p, rs[i]? = some p := ⟨_, List.getElem?_eq_getElem hlt⟩
      have huw := HU.out.next hu
      obtain ⟨b1, o1, hx1, _, hb1, hcc⟩ := HR.out.1.2 (by omega)
      obtain ⟨b2, o2, hx2, _, hb2, hdd⟩ := HR.out.2.2 (by omega)
      subst hx1
      subst hx2
      have c0 := (huw.cell (p := ⟨b1, o1 + (i * 7 + 0), none⟩) hb1 (by simp)).trans (hcc (i * 7 + 0) _ (flat_get encRep_len rs i 0 q hqi (by omega)))
      have d0 := (huw.cell (p := ⟨b2, o2 + (i * 7 + 0), none⟩) hb2 (by simp)).trans (hdd (i * 7 + 0) _ (flat_get encRep_len rs i 0 q hqi (by omega)))
      have c1 := (huw.cell (p := ⟨b1, o1 + (i * 7 + 1), none⟩) hb1 (by simp)).trans (hcc (i * 7 + 1) _ (flat_get encRep_len rs i 1 q hqi (by omega)))
      have d1 := (huw.cell (p := ⟨b2, o2 + (i * 7 + 1), none⟩) hb2 (by simp)).trans (hdd (i * 7 + 1) _ (flat_get encRep_len rs i 1 q hqi (by omega)))
      have c2 := (huw.cell (p := ⟨b1, o1 + (i * 7 + 2), none⟩) hb1 (by simp)).trans (hcc (i * 7 + 2) _ (flat_get encRep_len rs i 2 q hqi (by omega)))
      have d2 := (huw.cell (p := ⟨b2, o2 + (i * 7 + 2), none⟩) hb2 (by simp)).trans (hdd (i * 7 + 2) _ (flat_get encRep_len rs i 2 q hqi (by omega)))
      have c3 := (huw.cell (p := ⟨b1, o1 + (i * 7 + 3), none⟩) hb1 (by simp)).trans (hcc (i * 7 + 3) _ (flat_get encRep_len rs i 3 q hqi (by omega)))
      have d3 := (huw.cell (p := ⟨b2, o2 + (i * 7 + 3), none⟩) hb2 (by simp)).trans (hdd (i * 7 + 3) _ (flat_get encRep_len rs i 3 q hqi (by omega)))
      have c4 := (huw.cell (p := ⟨b1, o1 + (i * 7 + 4), none⟩) hb1 (by simp)).trans (hcc (i * 7 + 4) _ (flat_get encRep_len rs i 4 q hqi (by omega)))
      have d4 := (huw.cell (p := ⟨b2, o2 + (i * 7 + 4), none⟩) hb2 (by simp)).trans (hdd (i * 7 + 4) _ (flat_get encRep_len rs i 4 q hqi (by omega)))
      have c5 := (huw.cell (p := ⟨b1, o1 + (i * 7 + 5), none⟩) hb1 (by simp)).trans (hcc (i * 7 + 5) _ (flat_get encRep_len rs i 5 q hqi (by omega)))
      have d5 := (huw.cell (p := ⟨b2, o2 + (i * 7 + 5), none⟩) hb2 (by simp)).trans (hdd (i * 7 + 5) _ (flat_get encRep_len rs i 5 q hqi (by omega)))
      have c6 := (huw.cell (p := ⟨b1, o1 + (i * 7 + 6), none⟩) hb1 (by simp)).trans (hcc (i * 7 + 6) _ (flat_get encRep_len rs i 6 q hqi (by omega)))
      have d6 := (huw.cell (p := ⟨b2, o2 + (i * 7 + 6), none⟩) hb2 (by simp)).trans (hdd (i * 7 + 6) _ (flat_get encRep_len rs i 6 q hqi (by omega)))
      obtain ⟨q0, q1, q2, q3, q4, q5, q6⟩ := q
      simp only [← Nat.add_assoc, Nat.add_zero] at c0 d0 c1 d1 c2 d2 c3 d3 c4 d4 c5 d5 c6 d6
      have hlti : (i : Int) < (rs.length : Int) := by omega
      have hw : IntKind.i64.wrap ((i : Int) + 1) = (i : Int) + 1 := IntWalk.i64_in _ (by omega)
      have HUR := Lib.hid hu
      clear hcc hdd hu hqi huw hb1 hb2
      go_upto_region 6 with fail
      go_region_held3 (fun w' => w'.cell? ⟨M, 7, none⟩ = some (.slice (some ⟨b1, o1, none⟩) rs.length arc) ∧ w'.cell? ⟨N, 7, none⟩ = some (.slice (some ⟨b2, o2, none⟩) rs.length brc) ∧ w'.cell? ⟨b1, o1 + i * 7, none⟩ = some (.int .u32 q0) ∧ w'.cell? ⟨b2, o2 + i * 7, none⟩ = some (.int .u32 q0) ∧ w'.cell? ⟨b1, o1 + i * 7 + 1, none⟩ = some (.int .u8 q1) ∧ w'.cell? ⟨b2, o2 + i * 7 + 1, none⟩ = some (.int .u8 q1) ∧ w'.cell? ⟨b1, o1 + i * 7 + 2, none⟩ = some (.int .u32 q2) ∧ w'.cell? ⟨b2, o2 + i * 7 + 2, none⟩ = some (.int .u32 q2) ∧ w'.cell? ⟨b1, o1 + i * 7 + 3, none⟩ = some (.int .u32 q3) ∧ w'.cell? ⟨b2, o2 + i * 7 + 3, none⟩ = some (.int .u32 q3) ∧ w'.cell? ⟨b1, o1 + i * 7 + 4, none⟩ = some (.int .u32 q4) ∧ w'.cell? ⟨b2, o2 + i * 7 + 4, none⟩ = some (.int .u32 q4) ∧ w'.cell? ⟨b1, o1 + i * 7 + 5, none⟩ = some (.int .u32 q5) ∧ w'.cell? ⟨b2, o2 + i * 7 + 5, none⟩ = some (.int .u32 q5) ∧ w'.cell? ⟨b1, o1 + i * 7 + 6, none⟩ = some (.int .u32 q6) ∧ w'.cell? ⟨b2, o2 + i * 7 + 6, none⟩ = some (.int .u32 q6)) (first | exact ⟨gg, rr, c0, d0, c1, d1, c2, d2, c3, d3, c4, d4, c5, d5, c6, d6⟩ | go_keep) (fail)
      have HUD := Lib.hid (HUR.out.drewN 1)
      clear c0 d0 c1 d1 c2 d2 c3 d3 c4 d4 c5 d5 c6 d6 gg rr
      go_wp2
      go_roundg (gk - 1)
      case measure => omega
      case rel => exact ⟨i + 1, by omega, by omega, by go_num, HUD.out⟩
    · obtain rfl : i = rs.length := by omega
      have HU0 := Lib.hid hu
      clear hu hgi hi hlt
      obtain ⟨wa0, rfl⟩ : ∃ wa : World, wa = wr := ⟨_, rfl⟩
      go_wp2
      go_loopg [6] wh.length (fun gk x wr => ∃ (i : Nat), i ≤ wh.length ∧ wh.length ≤ i + gk ∧ x = .int .i64 i ∧ Upd [] W wr)
      case atStart => exact ⟨0, Nat.zero_le _, by omega, rfl, HU0.out⟩
      case round =>
        obtain ⟨i, hi, hgi, rfl, hu⟩ := hrel
        have gg : wr.cell? ⟨M, 8, none⟩ = some (.slice awA wh.length awc) := (HM.out.upd hu (by simp)).cell 8
        have rr : wr.cell? ⟨N, 8, none⟩ = some (.slice bwA wh.length bwc) := (HN.out.upd hu (by simp)).cell 8
        by_cases hlt : i < wh.length
        · obtain ⟨q, hqi⟩ : ∃ p, wh[i]? = some p := ⟨_, List.getElem?_eq_getElem hlt⟩
          have huw := HU.out.next hu
          obtain ⟨b1, o1, hx1, _, hb1, hcc⟩ := HW.out.1.2 (by omega)
          obtain ⟨b2, o2, hx2, _, hb2, hdd⟩ := HW.out.2.2 (by omega)
          subst hx1
          subst hx2
          have c0 := (huw.cell (p := ⟨b1, o1 + (i * 1 + 0), none⟩) hb1 (by simp)).trans (hcc (i * 1 + 0) _ (flat_get encW_len wh i 0 q hqi (by omega)))
          have d0 := (huw.cell (p := ⟨b2, o2 + (i * 1 + 0), none⟩) hb2 (by simp)).trans (hdd (i * 1 + 0) _ (flat_get encW_len wh i 0 q hqi (by omega)))
          simp only [Nat.add_zero, Nat.mul_one] at c0 d0
          have hlti : (i : Int) < (wh.length : Int) := by omega
          have hw : IntKind.i64.wrap ((i : Int) + 1) = (i : Int) + 1 := IntWalk.i64_in _ (by omega)
          have HUR := Lib.hid hu
          clear hcc hdd hu hqi huw hb1 hb2
          go_upto_region 11 with fail
          go_region_held3 (fun w' => w'.cell? ⟨M, 8, none⟩ = some (.slice (some ⟨b1, o1, none⟩) wh.length awc) ∧ w'.cell? ⟨N, 8, none⟩ = some (.slice (some ⟨b2, o2, none⟩) wh.length bwc) ∧ w'.cell? ⟨b1, o1 + i, none⟩ = some (.int .u32 q) ∧ w'.cell? ⟨b2, o2 + i, none⟩ = some (.int .u32 q)) (first | exact ⟨gg, rr, c0, d0⟩ | go_keep) (fail)
          have HUD := Lib.hid (HUR.out.drewN 1)
          clear c0 d0 gg rr
          go_wp2
          go_roundg (gk - 1)
          case measure => omega
          case rel => exact ⟨i + 1, by omega, by omega, by go_num, HUD.out⟩
        · obtain rfl : i = wh.length := by omega
          have HU2 := Lib.hid hu
          clear hu hgi hi hlt
          obtain ⟨wa1, rfl⟩ : ∃ wa : World, wa = wr := ⟨_, rfl⟩
          go_wp2
          go_loopg [7] ps.length (fun gk x wr => ∃ (i : Nat), i ≤ ps.length ∧ ps.length ≤ i + gk ∧ x = .int .i64 i ∧ Upd [] W wr)
          case atStart => exact ⟨0, Nat.zero_le _, by omega, rfl, HU2.out⟩
          case round =>
            obtain ⟨i, hi, hgi, rfl, hu⟩ := hrel
            have gg : wr.cell? ⟨M, 9, none⟩ = some (.slice apA ps.length apc) := (HM.out.upd hu (by simp)).cell 9
            have rr : wr.cell? ⟨N, 9, none⟩ = some (.slice bpA ps.length bpc) := (HN.out.upd hu (by simp)).cell 9
            by_cases hlt : i < ps.length
            · obtain ⟨q, hqi⟩ : ∃ p, ps[i]? = some p := ⟨_, List.getElem?_eq_getElem hlt⟩
              have huw := HU.out.next hu
              obtain ⟨b1, o1, hx1, _, hb1, hcc⟩ := HP.out.1.2 (by omega)
              obtain ⟨b2, o2, hx2, _, hb2, hdd⟩ := HP.out.2.2 (by omega)
              subst hx1
              subst hx2
              have c0 := (huw.cell (p := ⟨b1, o1 + (i * 2 + 0), none⟩) hb1 (by simp)).trans (hcc (i * 2 + 0) _ (flat_get encI_len ps i 0 q hqi (by omega)))
              have d0 := (huw.cell (p := ⟨b2, o2 + (i * 2 + 0), none⟩) hb2 (by simp)).trans (hdd (i * 2 + 0) _ (flat_get encI_len ps i 0 q hqi (by omega)))
              have c1 := (huw.cell (p := ⟨b1, o1 + (i * 2 + 1), none⟩) hb1 (by simp)).trans (hcc (i * 2 + 1) _ (flat_get encI_len ps i 1 q hqi (by omega)))
              have d1 := (huw.cell (p := ⟨b2, o2 + (i * 2 + 1), none⟩) hb2 (by simp)).trans (hdd (i * 2 + 1) _ (flat_get encI_len ps i 1 q hqi (by omega)))
              obtain ⟨q0, q1⟩ := q
              simp only [← Nat.add_assoc, Nat.add_zero] at c0 d0 c1 d1
              have hlti : (i : Int) < (ps.length : Int) := by omega
              have hw : IntKind.i64.wrap ((i : Int) + 1) = (i : Int) + 1 := IntWalk.i64_in _ (by omega)
              have HUR := Lib.hid hu
              clear hcc hdd hu hqi huw hb1 hb2
              go_upto_region 16 with fail
              go_region_held3 (fun w' => w'.cell? ⟨M, 9, none⟩ = some (.slice (some ⟨b1, o1, none⟩) ps.length apc) ∧ w'.cell? ⟨N, 9, none⟩ = some (.slice (some ⟨b2, o2, none⟩) ps.length bpc) ∧ w'.cell? ⟨b1, o1 + i * 2, none⟩ = some (.int .i64 q0) ∧ w'.cell? ⟨b2, o2 + i * 2, none⟩ = some (.int .i64 q0) ∧ w'.cell? ⟨b1, o1 + i * 2 + 1, none⟩ = some (.int .i64 q1) ∧ w'.cell? ⟨b2, o2 + i * 2 + 1, none⟩ = some (.int .i64 q1)) (first | exact ⟨gg, rr, c0, d0, c1, d1⟩ | go_keep) (fail)
              have HUD := Lib.hid (HUR.out.drewN 1)
              clear c0 d0 c1 d1 gg rr
              go_wp2
              go_roundg (gk - 1)
              case measure => omega
              case rel => exact ⟨i + 1, by omega, by omega, by go_num, HUD.out⟩
            · obtain rfl : i = ps.length := by omega
              have HU4 := Lib.hid hu
              clear hu hgi hi hlt
              obtain ⟨wa2, rfl⟩ : ∃ wa : World, wa = wr := ⟨_, rfl⟩
              go_wp2
              go_loopg [8] qs.length (fun gk x wr => ∃ (i : Nat), i ≤ qs.length ∧ qs.length ≤ i + gk ∧ x = .int .i64 i ∧ Upd [] W wr)
              case atStart => exact ⟨0, Nat.zero_le _, by omega, rfl, HU4.out⟩
              case round =>
                obtain ⟨i, hi, hgi, rfl, hu⟩ := hrel
                have gg : wr.cell? ⟨M, 10, none⟩ = some (.slice aaA qs.length aac) := (HM.out.upd hu (by simp)).cell 10
                have rr : wr.cell? ⟨N, 10, none⟩ = some (.slice baA qs.length bac) := (HN.out.upd hu (by simp)).cell 10
                by_cases hlt : i < qs.length
                · obtain ⟨q, hqi⟩ : ∃ p, qs[i]? = some p := ⟨_, List.getElem?_eq_getElem hlt⟩
                  have huw := HU.out.next hu
                  obtain ⟨b1, o1, hx1, _, hb1, hcc⟩ := HQ.out.1.2 (by omega)
                  obtain ⟨b2, o2, hx2, _, hb2, hdd⟩ := HQ.out.2.2 (by omega)
                  subst hx1
                  subst hx2
                  have c0 := (huw.cell (p := ⟨b1, o1 + (i * 2 + 0), none⟩) hb1 (by simp)).trans (hcc (i * 2 + 0) _ (flat_get encAsk_len qs i 0 q hqi (by omega)))
                  have d0 := (huw.cell (p := ⟨b2, o2 + (i * 2 + 0), none⟩) hb2 (by simp)).trans (hdd (i * 2 + 0) _ (flat_get encAsk_len qs i 0 q hqi (by omega)))
                  have c1 := (huw.cell (p := ⟨b1, o1 + (i * 2 + 1), none⟩) hb1 (by simp)).trans (hcc (i * 2 + 1) _ (flat_get encAsk_len qs i 1 q hqi (by omega)))
                  have d1 := (huw.cell (p := ⟨b2, o2 + (i * 2 + 1), none⟩) hb2 (by simp)).trans (hdd (i * 2 + 1) _ (flat_get encAsk_len qs i 1 q hqi (by omega)))
                  obtain ⟨q0, q1⟩ := q
                  simp only [← Nat.add_assoc, Nat.add_zero] at c0 d0 c1 d1
                  have hlti : (i : Int) < (qs.length : Int) := by omega
                  have hw : IntKind.i64.wrap ((i : Int) + 1) = (i : Int) + 1 := IntWalk.i64_in _ (by omega)
                  have HUR := Lib.hid hu
                  clear hcc hdd hu hqi huw hb1 hb2
                  go_upto_region 21 with fail
                  go_region_held3 (fun w' => w'.cell? ⟨M, 10, none⟩ = some (.slice (some ⟨b1, o1, none⟩) qs.length aac) ∧ w'.cell? ⟨N, 10, none⟩ = some (.slice (some ⟨b2, o2, none⟩) qs.length bac) ∧ w'.cell? ⟨b1, o1 + i * 2, none⟩ = some (.int .u32 q0) ∧ w'.cell? ⟨b2, o2 + i * 2, none⟩ = some (.int .u32 q0) ∧ w'.cell? ⟨b1, o1 + i * 2 + 1, none⟩ = some (.int .u8 q1) ∧ w'.cell? ⟨b2, o2 + i * 2 + 1, none⟩ = some (.int .u8 q1)) (first | exact ⟨gg, rr, c0, d0, c1, d1⟩ | go_keep) (fail)
                  have HUD := Lib.hid (HUR.out.drewN 1)
                  clear c0 d0 c1 d1 gg rr
                  go_wp2
                  go_roundg (gk - 1)
                  case measure => omega
                  case rel => exact ⟨i + 1, by omega, by omega, by go_num, HUD.out⟩
                · obtain rfl : i = qs.length := by omega
                  have HU6 := Lib.hid hu
                  clear hu hgi hi hlt
                  have hm := HM.out.upd HU6.out (by simp)
                  have hn := HN.out.upd HU6.out (by simp)
                  have y0 : wr.cell? ⟨M, 0, none⟩ = some (.int .i64 kk) := hm.cell 0
                  have z0 : wr.cell? ⟨N, 0, none⟩ = some (.int .i64 kk) := hn.cell 0
                  have y1 : wr.cell? ⟨M, 1, none⟩ = some (.int .u32 m1) := hm.cell 1
                  have z1 : wr.cell? ⟨N, 1, none⟩ = some (.int .u32 m1) := hn.cell 1
                  have y2 : wr.cell? ⟨M, 2, none⟩ = some (.int .u32 m2) := hm.cell 2
                  have z2 : wr.cell? ⟨N, 2, none⟩ = some (.int .u32 m2) := hn.cell 2
                  have y3 : wr.cell? ⟨M, 3, none⟩ = some (.int .u64 m3) := hm.cell 3
                  have z3 : wr.cell? ⟨N, 3, none⟩ = some (.int .u64 m3) := hn.cell 3
                  have y4 : wr.cell? ⟨M, 4, none⟩ = some (.int .u32 m4) := hm.cell 4
                  have z4 : wr.cell? ⟨N, 4, none⟩ = some (.int .u32 m4) := hn.cell 4
                  have y5 : wr.cell? ⟨M, 5, none⟩ = some (.int .u32 m5) := hm.cell 5
                  have z5 : wr.cell? ⟨N, 5, none⟩ = some (.int .u32 m5) := hn.cell 5
                  have y6 : wr.cell? ⟨M, 6, none⟩ = some (.int .u32 m6) := hm.cell 6
                  have z6 : wr.cell? ⟨N, 6, none⟩ = some (.int .u32 m6) := hn.cell 6
                  have y11 : wr.cell? ⟨M, 11, none⟩ = some (.int .u8 ty) := hm.cell 11
                  have z11 : wr.cell? ⟨N, 11, none⟩ = some (.int .u8 ty) := hn.cell 11
                  clear hm hn
                  go_wp2
                  exact bodyPost_res (v := .bool true) (by simp [results, Try.results21, go_sem]) rfl ⟨rfl, HU.out.next HU6.out⟩
end Go.Proofs.Ytgkejdjdccgjbaa
/- The laws' 'same': two rows of the same messages. Conditions: rows no longer than 100000. (Written by wip/gen/rtcpsame2.py.) -/
namespace Go.Proofs.Ytgkejdjdccgjbaa
open Go Go.RowKit
set_option maxHeartbeats 400000

/-- a message's rows in memory, as the document has it, none of them long -/
structure RfC (w : World) (m : Mg) (h : Hd) : Prop where
  cr : CellsIn w 0 w.heap.size 7 h.rA m.reports.length (m.reports.flatMap encRep)
  cw : CellsIn w 0 w.heap.size 1 h.wA m.who.length (m.who.flatMap encW)
  cp : CellsIn w 0 w.heap.size 2 h.pA m.pairs.length (m.pairs.flatMap encI)
  ca : CellsIn w 0 w.heap.size 2 h.aA m.asks.length (m.asks.flatMap encAsk)
  nl : m.reports.length ≤ 100000 ∧ m.who.length ≤ 100000 ∧ m.pairs.length ≤ 100000 ∧ m.asks.length ≤ 100000
theorem RfC.same {w w' : World} {m : Mg} {h : Hd} (k : RfC w m h) (u : Upd [] w w') : RfC w' m h :=
  ⟨(k.cr.upd2 u (Nat.le_refl _) (by simp)).more (Nat.le_refl _) u.size, (k.cw.upd2 u (Nat.le_refl _) (by simp)).more (Nat.le_refl _) u.size, (k.cp.upd2 u (Nat.le_refl _) (by simp)).more (Nat.le_refl _) u.size, (k.ca.upd2 u (Nat.le_refl _) (by simp)).more (Nat.le_refl _) u.size, k.nl⟩
theorem same_msg {w : World} {m : Mg} {h1 h2 : Hd} (k1 : RfC w m h1) (k2 : RfC w m h2) : Calls Try.prog 21 #[.agg (mcells m h1).toArray, .agg (mcells m h2).toArray] w fun e w' => e = .returned (.bool true) ∧ Upd [] w w' :=
  same_any m.kind m.ssrc m.media m.clock m.time m.packets m.bytes m.type m.reports m.who m.pairs m.asks h1.rA h1.wA h1.pA h1.aA h2.rA h2.wA h2.pA h2.aA h1.rc h1.wc h1.pc h1.ac h2.rc h2.wc h2.pc h2.ac k1.nl k1.cr k2.cr k1.cw k2.cw k1.cp k2.cp k1.ca k2.ca
set_option maxRecDepth 100000 in
set_option maxHeartbeats 3000000 in
theorem same_rows {w : World} {A B : Option Addr} {ca cb : Nat} {xs ys : List (Mg × Hd)} (hx : CellsIn w 0 w.heap.size 12 A xs.length (xs.flatMap encM)) (hy : CellsIn w 0 w.heap.size 12 B ys.length (ys.flatMap encM)) (he : xs.map (·.1) = ys.map (·.1)) (hl : xs.length ≤ 100000)
    (rx : ∀ x, x ∈ xs → RfC w x.1 x.2) (ry : ∀ x, x ∈ ys → RfC w x.1 x.2) : Calls Try.prog 16 #[.slice A xs.length ca, .slice B ys.length cb] w fun e w' => e = .returned (.bool true) ∧ Upd [] w w' := by
  have hle : ys.length = xs.length := by have := congrArg List.length he; simpa using this.symm
  have HX := Lib.hid hx
  have HY := Lib.hid hy
  have HE := Lib.hid he
  have RX := Lib.hid rx
  have RY := Lib.hid ry
  obtain ⟨n, hn⟩ : ∃ n, n = xs.length := ⟨_, rfl⟩
  rw [hle, ← hn]
  rw [← hn] at hl
  have HLE := Lib.hid hle
  have HNN := Lib.hid hn
  clear hx hy he rx ry hle hn
  go_enter Try.func16, Try.ntmps16
  go_wp2
  go_loopg [5] n (fun gk x wr => ∃ (i : Nat), i ≤ n ∧ n ≤ i + gk ∧ x = .int .i64 i ∧ Upd [] w wr)
  case atStart => exact ⟨0, Nat.zero_le _, by omega, rfl, Upd.refl _ _⟩
  case round =>
    obtain ⟨i, hi, hgi, rfl, hu⟩ := hrel
    by_cases hlt : i < n
    · obtain ⟨x, hxi⟩ : ∃ p, xs[i]? = some p := ⟨_, List.getElem?_eq_getElem (by rw [← HNN.out]; exact hlt)⟩
      obtain ⟨y, hyi⟩ : ∃ p, ys[i]? = some p := ⟨_, List.getElem?_eq_getElem (by rw [HLE.out, ← HNN.out]; exact hlt)⟩
      have hxy : x.1 = y.1 := by
        have h1 : (xs.map (·.1))[i]? = some x.1 := by rw [List.getElem?_map, hxi]; rfl
        have h2 : (ys.map (·.1))[i]? = some y.1 := by rw [List.getElem?_map, hyi]; rfl
        rw [HE.out, h2] at h1
        exact (Option.some.inj h1).symm
      have kx := RX.out x (List.mem_of_getElem? hxi)
      have ky := RY.out y (List.mem_of_getElem? hyi)
      obtain ⟨b1, o1, rfl, _, hb1, hcc⟩ := HX.out.2 (by rw [← HNN.out]; omega)
      obtain ⟨b2, o2, rfl, _, hb2, hdd⟩ := HY.out.2 (by rw [HLE.out, ← HNN.out]; omega)
      have c0 : ∀ z : Cls (Upd [] wr), z.w.cell? ⟨b1, o1 + (i * 12 + 0), none⟩ = _ := fun z => (((hu.next z.h).cell (p := ⟨b1, o1 + (i * 12 + 0), none⟩) hb1 (by simp)).trans (hcc (i * 12 + 0) _ (flat_get encM_len xs i 0 x hxi (by omega))))
      have d0 : ∀ z : Cls (Upd [] wr), z.w.cell? ⟨b2, o2 + (i * 12 + 0), none⟩ = _ := fun z => (((hu.next z.h).cell (p := ⟨b2, o2 + (i * 12 + 0), none⟩) hb2 (by simp)).trans (hdd (i * 12 + 0) _ (flat_get encM_len ys i 0 y hyi (by omega))))
      have c1 : ∀ z : Cls (Upd [] wr), z.w.cell? ⟨b1, o1 + (i * 12 + 1), none⟩ = _ := fun z => (((hu.next z.h).cell (p := ⟨b1, o1 + (i * 12 + 1), none⟩) hb1 (by simp)).trans (hcc (i * 12 + 1) _ (flat_get encM_len xs i 1 x hxi (by omega))))
      have d1 : ∀ z : Cls (Upd [] wr), z.w.cell? ⟨b2, o2 + (i * 12 + 1), none⟩ = _ := fun z => (((hu.next z.h).cell (p := ⟨b2, o2 + (i * 12 + 1), none⟩) hb2 (by simp)).trans (hdd (i * 12 + 1) _ (flat_get encM_len ys i 1 y hyi (by omega))))
      have c2 : ∀ z : Cls (Upd [] wr), z.w.cell? ⟨b1, o1 + (i * 12 + 2), none⟩ = _ := fun z => (((hu.next z.h).cell (p := ⟨b1, o1 + (i * 12 + 2), none⟩) hb1 (by simp)).trans (hcc (i * 12 + 2) _ (flat_get encM_len xs i 2 x hxi (by omega))))
      have d2 : ∀ z : Cls (Upd [] wr), z.w.cell? ⟨b2, o2 + (i * 12 + 2), none⟩ = _ := fun z => (((hu.next z.h).cell (p := ⟨b2, o2 + (i * 12 + 2), none⟩) hb2 (by simp)).trans (hdd (i * 12 + 2) _ (flat_get encM_len ys i 2 y hyi (by omega))))
      have c3 : ∀ z : Cls (Upd [] wr), z.w.cell? ⟨b1, o1 + (i * 12 + 3), none⟩ = _ := fun z => (((hu.next z.h).cell (p := ⟨b1, o1 + (i * 12 + 3), none⟩) hb1 (by simp)).trans (hcc (i * 12 + 3) _ (flat_get encM_len xs i 3 x hxi (by omega))))
      have d3 : ∀ z : Cls (Upd [] wr), z.w.cell? ⟨b2, o2 + (i * 12 + 3), none⟩ = _ := fun z => (((hu.next z.h).cell (p := ⟨b2, o2 + (i * 12 + 3), none⟩) hb2 (by simp)).trans (hdd (i * 12 + 3) _ (flat_get encM_len ys i 3 y hyi (by omega))))
      have c4 : ∀ z : Cls (Upd [] wr), z.w.cell? ⟨b1, o1 + (i * 12 + 4), none⟩ = _ := fun z => (((hu.next z.h).cell (p := ⟨b1, o1 + (i * 12 + 4), none⟩) hb1 (by simp)).trans (hcc (i * 12 + 4) _ (flat_get encM_len xs i 4 x hxi (by omega))))
      have d4 : ∀ z : Cls (Upd [] wr), z.w.cell? ⟨b2, o2 + (i * 12 + 4), none⟩ = _ := fun z => (((hu.next z.h).cell (p := ⟨b2, o2 + (i * 12 + 4), none⟩) hb2 (by simp)).trans (hdd (i * 12 + 4) _ (flat_get encM_len ys i 4 y hyi (by omega))))
      have c5 : ∀ z : Cls (Upd [] wr), z.w.cell? ⟨b1, o1 + (i * 12 + 5), none⟩ = _ := fun z => (((hu.next z.h).cell (p := ⟨b1, o1 + (i * 12 + 5), none⟩) hb1 (by simp)).trans (hcc (i * 12 + 5) _ (flat_get encM_len xs i 5 x hxi (by omega))))
      have d5 : ∀ z : Cls (Upd [] wr), z.w.cell? ⟨b2, o2 + (i * 12 + 5), none⟩ = _ := fun z => (((hu.next z.h).cell (p := ⟨b2, o2 + (i * 12 + 5), none⟩) hb2 (by simp)).trans (hdd (i * 12 + 5) _ (flat_get encM_len ys i 5 y hyi (by omega))))
      have c6 : ∀ z : Cls (Upd [] wr), z.w.cell? ⟨b1, o1 + (i * 12 + 6), none⟩ = _ := fun z => (((hu.next z.h).cell (p := ⟨b1, o1 + (i * 12 + 6), none⟩) hb1 (by simp)).trans (hcc (i * 12 + 6) _ (flat_get encM_len xs i 6 x hxi (by omega))))
      have d6 : ∀ z : Cls (Upd [] wr), z.w.cell? ⟨b2, o2 + (i * 12 + 6), none⟩ = _ := fun z => (((hu.next z.h).cell (p := ⟨b2, o2 + (i * 12 + 6), none⟩) hb2 (by simp)).trans (hdd (i * 12 + 6) _ (flat_get encM_len ys i 6 y hyi (by omega))))
      have c7 : ∀ z : Cls (Upd [] wr), z.w.cell? ⟨b1, o1 + (i * 12 + 7), none⟩ = _ := fun z => (((hu.next z.h).cell (p := ⟨b1, o1 + (i * 12 + 7), none⟩) hb1 (by simp)).trans (hcc (i * 12 + 7) _ (flat_get encM_len xs i 7 x hxi (by omega))))
      have d7 : ∀ z : Cls (Upd [] wr), z.w.cell? ⟨b2, o2 + (i * 12 + 7), none⟩ = _ := fun z => (((hu.next z.h).cell (p := ⟨b2, o2 + (i * 12 + 7), none⟩) hb2 (by simp)).trans (hdd (i * 12 + 7) _ (flat_get encM_len ys i 7 y hyi (by omega))))
      have c8 : ∀ z : Cls (Upd [] wr), z.w.cell? ⟨b1, o1 + (i * 12 + 8), none⟩ = _ := fun z => (((hu.next z.h).cell (p := ⟨b1, o1 + (i * 12 + 8), none⟩) hb1 (by simp)).trans (hcc (i * 12 + 8) _ (flat_get encM_len xs i 8 x hxi (by omega))))
      have d8 : ∀ z : Cls (Upd [] wr), z.w.cell? ⟨b2, o2 + (i * 12 + 8), none⟩ = _ := fun z => (((hu.next z.h).cell (p := ⟨b2, o2 + (i * 12 + 8), none⟩) hb2 (by simp)).trans (hdd (i * 12 + 8) _ (flat_get encM_len ys i 8 y hyi (by omega))))
      have c9 : ∀ z : Cls (Upd [] wr), z.w.cell? ⟨b1, o1 + (i * 12 + 9), none⟩ = _ := fun z => (((hu.next z.h).cell (p := ⟨b1, o1 + (i * 12 + 9), none⟩) hb1 (by simp)).trans (hcc (i * 12 + 9) _ (flat_get encM_len xs i 9 x hxi (by omega))))
      have d9 : ∀ z : Cls (Upd [] wr), z.w.cell? ⟨b2, o2 + (i * 12 + 9), none⟩ = _ := fun z => (((hu.next z.h).cell (p := ⟨b2, o2 + (i * 12 + 9), none⟩) hb2 (by simp)).trans (hdd (i * 12 + 9) _ (flat_get encM_len ys i 9 y hyi (by omega))))
      have c10 : ∀ z : Cls (Upd [] wr), z.w.cell? ⟨b1, o1 + (i * 12 + 10), none⟩ = _ := fun z => (((hu.next z.h).cell (p := ⟨b1, o1 + (i * 12 + 10), none⟩) hb1 (by simp)).trans (hcc (i * 12 + 10) _ (flat_get encM_len xs i 10 x hxi (by omega))))
      have d10 : ∀ z : Cls (Upd [] wr), z.w.cell? ⟨b2, o2 + (i * 12 + 10), none⟩ = _ := fun z => (((hu.next z.h).cell (p := ⟨b2, o2 + (i * 12 + 10), none⟩) hb2 (by simp)).trans (hdd (i * 12 + 10) _ (flat_get encM_len ys i 10 y hyi (by omega))))
      have c11 : ∀ z : Cls (Upd [] wr), z.w.cell? ⟨b1, o1 + (i * 12 + 11), none⟩ = _ := fun z => (((hu.next z.h).cell (p := ⟨b1, o1 + (i * 12 + 11), none⟩) hb1 (by simp)).trans (hcc (i * 12 + 11) _ (flat_get encM_len xs i 11 x hxi (by omega))))
      have d11 : ∀ z : Cls (Upd [] wr), z.w.cell? ⟨b2, o2 + (i * 12 + 11), none⟩ = _ := fun z => (((hu.next z.h).cell (p := ⟨b2, o2 + (i * 12 + 11), none⟩) hb2 (by simp)).trans (hdd (i * 12 + 11) _ (flat_get encM_len ys i 11 y hyi (by omega))))
      obtain ⟨m, ⟨xR, xrc, xW, xwc, xP, xpc, xA, xac⟩⟩ := x
      obtain ⟨m', ⟨yR, yrc, yW, ywc, yP, ypc, yA, yac⟩⟩ := y
      dsimp only at hxy kx ky
      subst hxy
      have HS := Lib.hid (fun (x : Cls (Upd [] wr)) => quiet_cls (C := Upd [] wr) (x := x) ((same_msg (kx.same (hu.next x.h)) (ky.same (hu.next x.h))).mono fun e w' h => ⟨h.1, x.h.next h.2⟩))
      obtain ⟨kk, m1, m2, m3, m4, m5, m6, rs, wh, ps, qs, ty⟩ := m
      simp only [mcells] at HS
      simp only [← Nat.add_assoc, Nat.add_zero] at c0 d0 c1 d1 c2 d2 c3 d3 c4 d4 c5 d5 c6 d6 c7 d7 c8 d8 c9 d9 c10 d10 c11 d11
      have hlti : (i : Int) < (n : Int) := by omega
      have hw : IntKind.i64.wrap ((i : Int) + 1) = (i : Int) + 1 := IntWalk.i64_in _ (by omega)
      have HU := Lib.hid hu
      clear hcc hdd hu hxi hyi kx ky hb1 hb2
      go_upto_region 6 with fail
      refine wp_class_tail (Upd [] wr) ((Upd.refl _ _).drewN 1) 9 (by kernel_rfl) (by kernel_rfl) (fun _ _ _ _ h => h) ?_
      intro hne
      simp only [List.take_succ_cons, List.take_zero, List.drop_succ_cons, List.drop_zero]
      repeat (go_big_quiet_step ((go_at_call 21; exact HS.out _)))
      refine wpQuiet_nil ?_
      rintro _ ⟨xe, rfl⟩
      have hux := HU.out.next xe.h
      obtain ⟨W2, hW2⟩ : ∃ W2, W2 = xe.w := ⟨_, rfl⟩
      rw [← hW2] at hux ⊢
      have HUX := Lib.hid hux
      clear hW2 hux c0 d0 c1 d1 c2 d2 c3 d3 c4 d4 c5 d5 c6 d6 c7 d7 c8 d8 c9 d9 c10 d10 c11 d11 HS
      go_wp2
      go_roundg (gk - 1)
      case measure => omega
      case rel => exact ⟨i + 1, by omega, by omega, by go_num, HUX.out⟩
    · obtain rfl : i = n := by omega
      have HU := Lib.hid hu
      clear hu hgi hi hlt
      go_wp2
      exact bodyPost_res (v := .bool true) (by simp [results, Try.results16, go_sem]) rfl ⟨rfl, HU.out⟩
end Go.Proofs.Ytgkejdjdccgjbaa
/- RtcpParses: the walk. Conditions: slices that came in; numbers of their types. (Written by wip/gen/rtcprparse.py.) -/
namespace Go.Proofs.Ytgkejdjdccgjbaa
open Go Go.RowKit
set_option maxHeartbeats 400000
theorem xor_u8 (a b : Int) (ha : 0 ≤ a ∧ a ≤ 255) (hb : 0 ≤ b ∧ b ≤ 255) : 0 ≤ bits .xor .u8 a b ∧ bits .xor .u8 a b ≤ 255 := by
  rw [u8_xor a b ha.1 (by omega) hb.1 (by omega)]
  have : a.toNat ^^^ b.toNat < 2 ^ 8 := Nat.xor_lt_two_pow (by omega) (by omega)
  omega
theorem putM_len (ms : List Mg) : (putM ms).1.length ≤ 1500 := by
  unfold putM
  repeat' split
  all_goals (first | (dsimp only; omega) | simp)
theorem putM_byt (ms : List Mg) : Byt (putM ms).1 := by
  unfold putM
  split
  · rename_i h
    split
    · intro x hx; cases hx
    · refine msgsB_byt fun m hm => ?_
      rw [List.all_eq_true] at h
      exact h m hm
  · intro x hx; cases hx
theorem flat_who (l : List Int) : l.map (Value.int .u32) = l.flatMap encW := by
  induction l with
  | nil => rfl
  | cons x l ih => rw [List.map_cons, List.flatMap_cons, ih]; rfl
theorem RfIn.rc {w : World} {lo n : Nat} {m : Mg} {h : Hd} (k : RfIn w lo m h) (h1 : NumL n m) (hn : n ≤ 100000) : RfC w m h :=
  ⟨k.cr.lower (Nat.zero_le _), by have := k.cw; rwa [show m.who.map (Value.int .u32) = m.who.flatMap encW from flat_who m.who] at this, k.cp.lower (Nat.zero_le _), k.ca.lower (Nat.zero_le _), ⟨by have := h1.2.1; omega, by have := h1.2.2.1; omega, by have := h1.2.2.2.1; omega, by have := h1.2.2.2.2; omega⟩⟩
theorem own_cell {w : World} {N g c n k : Nat} {xs : List Int} {x : Int} {t : TypeId} (h : w.ownsRow N t 1 (.slice (some ⟨g, 0, none⟩) n c) n (xs.map (Value.int .u8))) (hx : xs[k]? = some x) : w.cell? ⟨g, k, none⟩ = some (.int .u8 x) ∧ w.frozen? ⟨g, k, none⟩ = false := by
  have h1 := h.cells (g := g) rfl k (.int .u8 x) (by rw [List.getElem?_map, hx]; rfl)
  have h2 := h.frozenAt k
  by_cases hk : k = 0
  · subst hk; exact ⟨h1, h2⟩
  · exact ⟨by simpa [Addr.add, hk] using h1, by simpa [Addr.add, hk] using h2⟩
theorem own_put {w : World} {N g c n : Nat} {xs : List Int} {t : TypeId} (h : w.ownsRow N t 1 (.slice (some ⟨g, 0, none⟩) n c) n (xs.map (Value.int .u8))) (k : Nat) (y : Int) :
    (w.setCell ⟨g, k, none⟩ (.int .u8 y)).ownsRow N t 1 (.slice (some ⟨g, 0, none⟩) n c) n ((xs.set k y).map (Value.int .u8)) := by
  have := (h.stored k (.int .u8 y)).1
  rw [List.map_set]
  by_cases hk : k = 0
  · subst hk; exact this
  · simpa [Addr.add, hk] using this
/-- a slice of integers that came in -/
theorem RowIn.of_cells {w : World} {A : Option Addr} {n c : Nat} {xs : List Int} {k : IntKind} (h : Cells w w.heap.size 1 A n (xs.map (Value.int k))) (hl : xs.length = n) (hn : A = none → n = 0 ∧ c = 0) (hlc : n ≤ c) (hc : c ≤ 9223372036854775807) : RowIn w 0 k ⟨A, c, xs⟩ := by
  subst hl
  refine ⟨⟨h.1, fun hp => ?_⟩, hn, hlc, hc⟩
  obtain ⟨b, off, e, hlt, hcc⟩ := h.2 hp
  exact ⟨b, off, e, Nat.zero_le _, hlt, hcc⟩
theorem wpHeldK_on {P : Program} {ops : Array Oper} {Q : Exit → Act → World → Prop} {S : World → Prop} {K : Act → World → Prop} {a : Act} {w : World} {o : Oper} {rest : List Oper} (hg : Region.wanted o (yielded ops a.tmps) = true)
    (h : ∀ J : Act → World → Prop, RowKit.Hid (∀ a w, S w → wpHeldK P ops Q S K rest a w → J a w) → Oper.wp P o a w J Q) : wpHeldK P ops Q S K (o :: rest) a w := by
  unfold wpHeldK
  rw [if_pos hg]
  exact .inl (h _ (Lib.hid (fun a w h1 h2 => ⟨h1, h2⟩)))
theorem wpHeld_on {P : Program} {ops : Array Oper} {Q : Exit → Act → World → Prop} {S : World → Prop} {a : Act} {w : World} {o : Oper} {rest : List Oper} (hg : Region.wanted o (yielded ops a.tmps) = true)
    (h : ∀ K : Act → World → Prop, RowKit.Hid (∀ a w, (rest = [] ∨ S w) → wpHeld P ops Q S rest a w → K a w) → Oper.wp P o a w K Q) : wpHeld P ops Q S (o :: rest) a w := by
  unfold wpHeld
  rw [if_pos hg]
  exact .inl (h _ (Lib.hid (fun a w h1 h2 => ⟨h1, h2⟩)))
set_option maxRecDepth 100000 in
set_option maxHeartbeats 4000000 in
theorem parses_any (A : Option Addr) (ca : Nat) (la : List (Mg × Hd)) (ra rx rm : Rw) (w : World) (hlca : la.length ≤ ca) (hca : ca ≤ 9223372036854775807)
    (hla : CellsIn w 0 w.heap.size 12 A la.length (la.flatMap encM)) (hma : ∀ x, x ∈ la → MgIn w 0 x.1 x.2 ∧ x.1.Num) (h1 : RowIn w 0 .u16 ra) (h2 : RowIn w 0 .u8 rx) (h3 : RowIn w 0 .u8 rm) (hb1 : ∀ x, x ∈ ra.xs → 0 ≤ x ∧ x ≤ 65535) (hb2 : Byt rx.xs) (hb3 : Byt rm.xs) :
    Calls Try.prog 4 #[.slice A la.length ca, encR ra, encR rx, encR rm] w fun e w' => e = .returned (.bool true) ∧ Below w.heap.size w w' := by
  have HAW := Lib.hid (awake_any w)
  have HLA := Lib.hid hla
  have HMA := Lib.hid hma
  have HRA := Lib.hid h1
  have HRX := Lib.hid h2
  have HRM := Lib.hid h3
  have HB1 := Lib.hid hb1
  have HB2 := Lib.hid hb2
  have HB3 := Lib.hid hb3
  clear hla hma h1 h2 h3 hb1 hb2 hb3
  obtain ⟨Aa, ka, aa⟩ := ra
  obtain ⟨Ax, kx, xs⟩ := rx
  obtain ⟨Am, km, ms⟩ := rm
  unfold encR
  dsimp only at HRA HRX HRM HB1 HB2 HB3 ⊢
  obtain ⟨na, hna⟩ : ∃ n, n = aa.length := ⟨_, rfl⟩
  obtain ⟨nx, hnx⟩ : ∃ n, n = xs.length := ⟨_, rfl⟩
  obtain ⟨nm, hnm⟩ : ∃ n, n = ms.length := ⟨_, rfl⟩
  rw [← hna, ← hnx, ← hnm]
  have HNA := Lib.hid hna
  have HNX := Lib.hid hnx
  have HNM := Lib.hid hnm
  clear hna hnx hnm
  go_enter Try.func4, Try.ntmps4
  go_wp2_with fail
  refine HAW.out.mono ?_
  rintro e w1 ⟨rfl, hu⟩
  have HW1 := Lib.hid (hu.below (Nat.le_refl _) (by simp) : Below w.heap.size w w1)
  have HCA := Lib.hid ((HLA.out.below HW1.out (Nat.le_refl _)).more (Nat.le_refl _) hu.size)
  have HF1 := Lib.hid (few_any (cap := ca) HCA.out (by omega))
  clear hu HAW
  go_wp2_with fail
  refine HF1.out.mono ?_
  rintro e w2 ⟨rfl, rfl⟩
  clear HF1
  obtain ⟨fa, hfa⟩ : ∃ fw, fw = fewM (la.map (·.1)) := ⟨_, rfl⟩
  rw [← hfa]
  have HFA := Lib.hid hfa
  clear hfa
  cases fa with
  | false =>
    go_wp2
    exact bodyPost_res (v := .bool true) (by simp [results, Try.results4, go_sem]) rfl ⟨rfl, HW1.out⟩
  | true =>
  by_cases g1 : (20 : Int) < (na : Int)
  · go_wp2
    exact bodyPost_res (v := .bool true) (by simp [results, Try.results4, go_sem]) rfl ⟨rfl, HW1.out⟩
  by_cases g2 : (nx : Int) < (na : Int)
  · go_wp2
    exact bodyPost_res (v := .bool true) (by simp [results, Try.results4, go_sem]) rfl ⟨rfl, HW1.out⟩
  by_cases g3 : (1600 : Int) < (nm : Int)
  · go_wp2
    exact bodyPost_res (v := .bool true) (by simp [results, Try.results4, go_sem]) rfl ⟨rfl, HW1.out⟩
  obtain ⟨hoa, h12a⟩ := fewM_ok HFA.out.symm (fun x hx => (HMA.out x hx).2)
  have HPA := Lib.hid (put_any (cap := ca) HCA.out (fun x hx => ⟨(HMA.out x hx).1.below HW1.out, hoa x hx⟩) (by omega))
  obtain ⟨bs, hbs⟩ : ∃ l, l = (putM (la.map (·.1))).1 := ⟨_, rfl⟩
  have hlb := putM_len (la.map (·.1))
  have hby := putM_byt (la.map (·.1))
  rw [← hbs] at HPA hlb hby
  obtain ⟨L, hL⟩ : ∃ n, n = bs.length := ⟨_, rfl⟩
  rw [← hL] at HPA hlb
  have HBY := Lib.hid hby
  have HL := Lib.hid hL
  clear hoa hbs hby hL HFA
  go_wp2_with fail
  refine HPA.out.mono ?_
  rintro e w3 ⟨v, rfl, hown, hb3⟩
  obtain ⟨VA, vc, rfl, hvc, hvg, hvn⟩ := own_form hown
  have HB0 := Lib.hid (HW1.out.trans (hb3.mono HW1.out.size))
  have HOWN := Lib.hid hown
  have HVG := Lib.hid hvg
  obtain ⟨N3, hN3⟩ : ∃ n, n = w2.heap.size := ⟨_, rfl⟩
  rw [← hN3] at HOWN HVG
  have HN3 : Hid (w.heap.size ≤ N3) := Lib.hid (by rw [hN3]; exact HW1.out.size)
  clear hown hb3 HPA hvg hvn hN3
  go_upto_block 0 with fail
  go_cut [] (fun wd => ∃ ys : List Int, ys.length = L ∧ Byt ys ∧ wd.ownsRow N3 5 1 (.slice VA L vc) L (ys.map (Value.int .u8)) ∧ Below w.heap.size w wd)
  case first =>
    go_wp2
    go_loopg [13] na (fun gk x13 wr => ∃ (i : Nat) (ys : List Int), i ≤ na ∧ na ≤ i + gk ∧ x13 = .int .i64 i ∧ ys.length = L ∧ Byt ys ∧ wr.ownsRow N3 5 1 (.slice VA L vc) L (ys.map (Value.int .u8)) ∧ Below w.heap.size w wr)
    case atStart => exact ⟨0, bs, Nat.zero_le _, by omega, rfl, HL.out.symm, HBY.out, HOWN.out, HB0.out⟩
    case round =>
      obtain ⟨i, ys, hi, hgi, rfl, hyl, hyb, hown, hbl⟩ := hrel
      have HY := Lib.hid hyl
      have HYB := Lib.hid hyb
      have HOW := Lib.hid hown
      have HBL := Lib.hid hbl
      clear hyl hyb hown hbl HOWN HBY HL HB0
      by_cases hlt : i < na ∧ 0 < L
      · obtain ⟨hlt, hL0⟩ := hlt
        obtain ⟨g, rfl, hg1, hg2⟩ := HVG.out hL0
        obtain ⟨a, hai⟩ : ∃ a, aa[i]? = some a := ⟨_, List.getElem?_eq_getElem (by rw [← HNA.out]; exact hlt)⟩
        obtain ⟨z, hzi⟩ : ∃ z, xs[i]? = some z := ⟨_, List.getElem?_eq_getElem (by rw [← HNX.out]; omega)⟩
        have hba := HB1.out a (List.mem_of_getElem? hai)
        have hbz := HB2.out z (List.mem_of_getElem? hzi)
        obtain ⟨j, hj⟩ : ∃ j : Nat, j = (a % (L : Int)).toNat := ⟨_, rfl⟩
        have hjm : a % (L : Int) = (j : Int) := by rw [hj]; exact (Int.toNat_of_nonneg (Int.emod_nonneg _ (by omega))).symm
        have hjl : j < L := by
          have := Int.emod_lt_of_pos a (show (0 : Int) < (L : Int) by omega)
          omega
        have htm : a.tmod (L : Int) = (j : Int) := by rw [Int.tmod_eq_emod_of_nonneg hba.1, hjm]
        obtain ⟨y, hyi⟩ : ∃ y, ys[j]? = some y := ⟨_, List.getElem?_eq_getElem (by rw [HY.out]; exact hjl)⟩
        have hby := HYB.out y (List.mem_of_getElem? hyi)
        obtain ⟨cy, fy⟩ := own_cell HOW.out hyi
        obtain ⟨b1, o1, rfl, _, hp1, hc1⟩ := (HRA.out.below HBL.out).at (by dsimp only; rw [← HNA.out]; omega)
        obtain ⟨b2, o2, rfl, _, hp2, hc2⟩ := (HRX.out.below HBL.out).at (by dsimp only; rw [← HNX.out]; omega)
        have c1 := hc1 i a hai
        have c2 := hc2 i z hzi
        obtain ⟨q, hq⟩ : ∃ q, q = bits .xor .u8 y z := ⟨_, rfl⟩
        have hqb := xor_u8 y z hby hbz
        rw [← hq] at hqb
        have hqx : bits .xor .u8 y z = q := hq.symm
        have hlti : (i : Int) < (na : Int) := by omega
        have hltx : (i : Int) < (nx : Int) := by omega
        have hL0i : (0 : Int) < (L : Int) := by omega
        have hjli : (j : Int) < (L : Int) := by omega
        have hLne : ((L : Int) == 0) = false := beq_eq_false_iff_ne.2 (by omega)
        have hwa : IntKind.i64.wrap a = a := IntWalk.i64_in _ (by omega)
        have hwj : IntKind.i64.wrap (j : Int) = (j : Int) := IntWalk.i64_in _ (by omega)
        have hwi : IntKind.i64.wrap ((i : Int) + 1) = (i : Int) + 1 := IntWalk.i64_in _ (by omega)
        have HQB := Lib.hid hqb
        have HJ := Lib.hid hjl
        have HGI := Lib.hid hgi
        have HGG := Lib.hid (And.intro hg1 hg2)
        clear hc1 hc2 hai hzi hyi hby hbz hba hq hqb hj hjm hjl hg1 hg2 hgi
        go_upto_region 11 with fail
        refine wp_quiet_tail 17 (by kernel_rfl) (by kernel_rfl) (fun _ _ _ _ h => h) ?_
        simp only [List.take_succ_cons, List.take_zero, List.drop_succ_cons, List.drop_zero]
        repeat (go_big_quiet_step (fail))
        refine wpQuiet_nil ?_
        rintro _ ⟨nq, rfl⟩
        go_wp2
        obtain ⟨W, hW⟩ : ∃ z, z = (wr.drewN nq).setCell ⟨g, j, none⟩ (.int .u8 q) := ⟨_, rfl⟩
        rw [← hW]
        have hud : Upd [] wr (wr.drewN nq) := (Upd.refl [] wr).drewN nq
        have how := own_put (ownsRow_upd HOW.out hud (by simp)) j q
        have hug : Upd [g] wr W := by rw [hW]; exact ((Upd.refl [g] wr).drewN nq).setCell (.inl (by simp)) _
        rw [← hW] at how
        have HEND := Lib.hid (And.intro how (HBL.out.trans (hug.below HBL.out.size (fun s hs => by rw [List.mem_singleton] at hs; subst hs; exact Nat.le_trans HN3.out HGG.out.1))))
        clear hud how hug hW
        go_roundg (gk - 1)
        case measure => have := HGI.out; omega
        case rel =>
          refine ⟨i + 1, ys.set j q, by omega, by have := HGI.out; omega, by go_num, by rw [List.length_set]; exact HY.out, fun b hb => ?_, HEND.out⟩
          rcases List.mem_or_eq_of_mem_set hb with hb | rfl
          · exact HYB.out b hb
          · exact HQB.out
      have HXX := Lib.hid (And.intro HY.out (And.intro HYB.out (And.intro HOW.out HBL.out)))
      by_cases k1 : i < na
      · have hlti : (i : Int) < (na : Int) := by omega
        have hL0i : ¬ ((0 : Int) < (L : Int)) := by omega
        go_wp2
        go_meet
        case rel => exact ⟨ys, HXX.out⟩
      · have hlti : ¬ ((i : Int) < (na : Int)) := by omega
        go_wp2
        go_meet
        case rel => exact ⟨ys, HXX.out⟩
  obtain ⟨ys, hyl, hyb, hown, hbl⟩ := hcut
  have HY := Lib.hid hyl
  have HYB := Lib.hid hyb
  have HOW := Lib.hid hown
  have HBL := Lib.hid hbl
  clear hyl hyb hown hbl
  have hr0 : RowIn wc 0 .u8 ⟨VA, vc, ys⟩ := (RowIn.of_own (by rw [HY.out]; exact HOW.out)).more (Nat.zero_le _)
  have HR0 := Lib.hid hr0
  have HLY : Hid (ys.length ≤ 1600) := Lib.hid (by rw [HY.out]; omega)
  have HLM : Hid (ms.length ≤ 1600) := Lib.hid (by rw [← HNM.out]; omega)
  obtain ⟨wq, rfl⟩ : ∃ z : World, z = wc := ⟨wc, rfl⟩
  clear hr0 HOW HN3 HVG hlb
  go_wp2
  go_loopg [11, 14] 2 (fun gk x11 x14 wr => ∃ (i : Nat) (r : Rw), x14 = .int .i64 i ∧ i ≤ 2 ∧ 2 ≤ i + gk ∧ x11 = .slice r.A r.xs.length r.c ∧ RowIn wr 0 .u8 r ∧ Byt r.xs ∧ r.xs.length ≤ 1600 ∧ Below w.heap.size w wr)
  case atStart => exact ⟨0, ⟨VA, vc, ys⟩, rfl, by omega, by omega, by rw [HY.out], HR0.out, HYB.out, HLY.out, HBL.out⟩
  case round =>
    obtain ⟨i2, ⟨A2, c2, zs⟩, rfl, hi2, hgi2, rfl, hr2, hb2, hl2, hbl2⟩ := hrel
    dsimp only at hr2 hb2 hl2 ⊢
    have HR2 := Lib.hid hr2
    have HZ2 := Lib.hid hb2
    have HL2 := Lib.hid hl2
    have HBL2 := Lib.hid hbl2
    have HGI2 := Lib.hid hgi2
    clear hr2 hb2 hbl2 hgi2 HR0 HLY HY HYB HBL
    by_cases hlt2 : i2 < 2
    rotate_left
    · have hlti : ¬ ((i2 : Int) < 2) := by omega
      go_wp2
      exact bodyPost_res (v := .bool true) (by simp [results, Try.results4, go_sem]) rfl ⟨rfl, HBL2.out⟩
    have hlti : (i2 : Int) < 2 := by omega
    have hwi : IntKind.i64.wrap ((i2 : Int) + 1) = (i2 : Int) + 1 := IntWalk.i64_in _ (by omega)
    obtain ⟨hpn, hpl⟩ := parse_num HZ2.out
    have hpa := parse_any HR2.out (by dsimp only; omega) HZ2.out
    have hrp := fun W => rparse_any W zs (by omega) HZ2.out
    unfold encR at hpa
    dsimp only at hpa
    obtain ⟨lz, hlz⟩ : ∃ n, n = zs.length := ⟨_, rfl⟩
    rw [← hlz] at hpa ⊢
    obtain ⟨⟨pm, pe⟩, hpm⟩ : ∃ z, z = parseM zs := ⟨_, rfl⟩
    rw [← hpm] at hpa hrp hpn hpl
    dsimp only at hpa hrp hpn hpl
    have HPA := Lib.hid hpa
    have HRP := Lib.hid hrp
    have HPN := Lib.hid (And.intro hpn hpl)
    have HLZ := Lib.hid hlz
    clear hpa hrp hpn hpl hpm hlz hl2
    go_wp2_with fail
    refine HPA.out.mono ?_
    rintro _ w4 ⟨v4, o4, rfl, hm4, ho4, hg4, hu4⟩
    obtain ⟨A4, c4, hv4, -⟩ := own_form ho4
    subst hv4
    have hl4 : o4.length ≤ 375 := by have := congrArg List.length hm4; rw [List.length_map] at this; have := HPN.out.2; omega
    have hn4 : ∀ x, x ∈ o4 → NumL 1500 x.1 := fun x hx => HPN.out.1 x.1 (by rw [← hm4]; exact List.mem_map.2 ⟨x, hx, rfl⟩)
    have HO4 := Lib.hid (And.intro hm4 (And.intro ho4 (And.intro hg4 (And.intro hl4 hn4))))
    have HU4 := Lib.hid hu4
    have hr4 := HR2.out.upd2 hu4 (by simp)
    have hcv := str_of hr4
    unfold encR at hcv
    dsimp only at hcv
    rw [← HLZ.out] at hcv
    have HR4 := Lib.hid hr4
    clear hm4 ho4 hg4 hl4 hn4 hu4 hr4 HPA
    go_wp2_with fail
    refine (HRP.out _).mono ?_
    rintro _ w5 ⟨v5, o5, rfl, hm5, ho5, hg5, hu5⟩
    obtain ⟨A5, c5, hv5, -⟩ := own_form ho5
    subst hv5
    have HO5 := Lib.hid (And.intro hm5 (And.intro ho5 hg5))
    have HU5 := Lib.hid hu5
    clear hm5 ho5 hg5 hu5 HRP hcv
    obtain ⟨ib, hib⟩ : ∃ b, b = isM zs := ⟨_, rfl⟩
    have HU45 := Lib.hid (HU4.out.next HU5.out)
    have HIS : Hid (∀ W : World, Upd [] w5 W → Calls Try.prog 17 #[.slice A2 lz c2] W fun e w' => e = .returned (.bool ib) ∧ W = w') := Lib.hid (fun W hW => by
      have h := is_any (HR4.out.upd2 (HU5.out.next hW) (by simp)) HZ2.out
      unfold encR at h
      dsimp only at h
      rwa [← HLZ.out, ← hib] at h)
    have HRIS : Hid (∀ W : World, Calls Try.prog 18 #[.string (strOfNums zs)] W fun e w' => e = .returned (.bool ib) ∧ W = w') := Lib.hid (fun W => by
      have h := ris_any W zs HZ2.out
      rwa [← hib] at h)
    have hcv : ∀ z : Cls (Upd [] w5), (convert 25 9 (.slice A2 lz c2)).run Try.prog z.w = .ok (.string (strOfNums zs)) z.w := fun z => by
      have h := str_of (HR4.out.upd2 (HU5.out.next z.h) (by simp))
      unfold encR at h
      dsimp only at h
      rwa [← HLZ.out] at h
    have he1 : (pe == pe) = true := by simp
    have he2 : (ib == ib) = true := by simp
    clear hib
    go_upto_region 17 with fail
    refine wp_script (Upd [] w5) ((Upd.refl _ _).drewN 1) (.take [0, 1, 2, 3, 4, 6] (.one 5 (.take [] (.one 7 (.take [8, 9, 10, 11, 13, 14] (.one 12 (.take [] (.one 15 (.take [] (.last [16, 17])))))))))) (by kernel_rfl) (by kernel_rfl) (fun _ _ _ _ h => h) ?_
    intro hne
    refine wpS_take ?_
    simp only [pick3, List.map_cons, List.map_nil, List.getElem?_cons_zero, List.getElem?_cons_succ, Option.getD_some]
    repeat (go_big_quiet_step (with_reducible rfl))
    refine wpQuiet_nil ?_
    obtain ⟨w6, hw6⟩ : ∃ v, v = w5.drewN 1 := ⟨_, rfl⟩
    have HJ0 : Hid (Upd [] w5 w6) := Lib.hid (by rw [hw6]; exact (Upd.refl _ _).drewN 1)
    rw [← hw6]
    clear hw6
    have hu46 := HU5.out.next HJ0.out
    have HALL := Lib.hid (all_any (w := w6) (cap := c4) (CellsIn.of_own (ownsRow_upd HO4.out.2.1 hu46 (by simp))) (fun x hx => by
      obtain ⟨n1, n2, n3, n4, n5⟩ := HO4.out.2.2.2.2 x hx
      exact ⟨(HO4.out.2.2.1 x hx).same hu46 (Nat.le_refl _), n1, by omega, by omega, by omega⟩) (by have := HO4.out.2.2.2.1; omega))
    clear hu46
    refine wpS_one ?_
    simp only [pick3, List.map_cons, List.map_nil, List.getElem?_cons_zero, List.getElem?_cons_succ, Option.getD_some]
    refine wpHeldK_on rfl fun K hK => ?_
    go_simp
    refine HALL.out.mono ?_
    rintro _ w7 ⟨v7, o7, rfl, hm7, ho7, hg7, hu7⟩
    have hu57 := HJ0.out.next hu7
    have hm75 : o7.map (·.1) = o5.map (·.1) := hm7.trans (HO4.out.1.trans HO5.out.1.symm)
    have hn7 : ∀ x, x ∈ o7 → NumL 1500 x.1 := fun x hx => by
      have h1 : x.1 ∈ o7.map (·.1) := List.mem_map.2 ⟨x, hx, rfl⟩
      rw [hm7, HO4.out.1] at h1
      exact HPN.out.1 _ h1
    have hn5 : ∀ x, x ∈ o5 → NumL 1500 x.1 := fun x hx => by
      have h1 : x.1 ∈ o5.map (·.1) := List.mem_map.2 ⟨x, hx, rfl⟩
      rw [HO5.out.1] at h1
      exact HPN.out.1 _ h1
    have hl7 : o7.length ≤ 375 := by have := congrArg List.length hm7; rw [List.length_map, List.length_map] at this; have := HO4.out.2.2.2.1; omega
    obtain ⟨A7, c7, hv7, -⟩ := own_form ho7
    subst hv7
    have HSM := Lib.hid (same_rows (w := w7) (ca := c7) (cb := c5) ((CellsIn.of_own ho7).lower (Nat.zero_le _)) ((CellsIn.of_own (ownsRow_upd HO5.out.2.1 hu57 (by simp))).lower (Nat.zero_le _)) hm75 (by omega) (fun x hx => (hg7 x hx).rc (hn7 x hx) (by decide)) (fun x hx => ((HO5.out.2.2 x hx).same hu57 (Nat.le_refl _)).rc (hn5 x hx) (by decide)))
    have HJ1 := Lib.hid hu57
    clear hu57 hm75 hn7 hn5 hl7 hm7 ho7 hg7 hu7 HALL
    refine hK.out _ _ ⟨⟨w7, HJ1.out⟩, rfl⟩ ?_
    clear hK K
    refine wpQuiet_then ?_
    refine wpS_take ?_
    simp only [pick3, List.map_nil]
    refine wpQuiet_nil ?_
    refine wpS_one ?_
    simp only [pick3, List.map_cons, List.map_nil, List.getElem?_cons_zero, List.getElem?_cons_succ, Option.getD_some]
    refine wpHeldK_on rfl fun K hK => ?_
    go_simp
    refine HSM.out.mono ?_
    rintro _ w8 ⟨rfl, hu8⟩
    have HJ2 := Lib.hid (HJ1.out.next hu8)
    clear hu8 HSM
    refine hK.out _ _ ⟨⟨w8, HJ2.out⟩, rfl⟩ ?_
    clear hK K
    refine wpQuiet_then ?_
    refine wpS_take ?_
    simp only [pick3, List.map_cons, List.map_nil, List.getElem?_cons_zero, List.getElem?_cons_succ, Option.getD_some]
    repeat (go_big_quiet_step (with_reducible rfl))
    refine wpQuiet_nil ?_
    refine wpS_one ?_
    simp only [pick3, List.map_cons, List.map_nil, List.getElem?_cons_zero, List.getElem?_cons_succ, Option.getD_some]
    refine wpHeldK_on rfl fun K hK => ?_
    go_simp
    refine (HIS.out w8 HJ2.out).mono ?_
    rintro _ w9 ⟨rfl, rfl⟩
    refine hK.out _ _ ⟨⟨w8, HJ2.out⟩, rfl⟩ ?_
    clear hK K
    refine wpQuiet_then ?_
    refine wpS_take ?_
    simp only [pick3, List.map_nil]
    refine wpQuiet_nil ?_
    refine wpS_one ?_
    simp only [pick3, List.map_cons, List.map_nil, List.getElem?_cons_zero, List.getElem?_cons_succ, Option.getD_some]
    refine wpHeldK_on rfl fun K hK => ?_
    go_simp
    refine (HRIS.out w8).mono ?_
    rintro _ w9 ⟨rfl, rfl⟩
    refine hK.out _ _ ⟨⟨w8, HJ2.out⟩, rfl⟩ ?_
    clear hK K
    refine wpQuiet_then ?_
    refine wpS_take ?_
    simp only [pick3, List.map_nil]
    refine wpQuiet_nil ?_
    refine wpS_last ?_
    simp only [pick3, List.map_cons, List.map_nil, List.getElem?_cons_zero, List.getElem?_cons_succ, Option.getD_some]
    refine wpHeld_on rfl fun K hK => ?_
    go_simp
    refine hK.out _ _ (.inr ⟨⟨w8, HJ2.out⟩, rfl⟩) ?_
    clear hK K
    refine wpHeld_last ?_
    have HEND : Hid (Below w.heap.size w w8) := Lib.hid (HBL2.out.trans (((HU45.out.next HJ2.out).below HBL2.out.size (by simp))))
    go_wp2
    go_roundg (gk - 1)
    case measure => have := HGI2.out; omega
    case rel => exact ⟨i2 + 1, ⟨Am, km, ms⟩, by go_num, by omega, by have := HGI2.out; omega, by rw [← HNM.out], HRM.out.below HEND.out, HB3.out, HLM.out, HEND.out⟩
end Go.Proofs.Ytgkejdjdccgjbaa
/- Arguments opened to cells: integers, slices of elements of so many one-cell parts. Plain laws on readings. -/
namespace Go.Proofs.Ytgkejdjdccgjbaa
open Go Go.RowKit Go.ChangeShapes Go.WideShapes Go.Deep

theorem flat_one {α β : Type} (f : α → β) (l : List α) : l.flatMap (fun a => [f a]) = l.map f := by
  induction l with
  | nil => rfl
  | cons a l ih => rw [List.flatMap_cons, ih]; rfl

theorem cell_lt {w : World} {a : Addr} {v : Value} (h : w.cell? a = some v) : a.block < w.heap.size := by
  rcases Nat.lt_or_ge a.block w.heap.size with h1 | h1
  · exact h1
  · exfalso
    have h2 : w.heap[a.block]? = none := Array.getElem?_eq_none h1
    have h3 := World.cell?_of_block (w := w) (w' := { w with heap := #[] }) (a := a) (by rw [h2]; rfl)
    rw [h] at h3
    have h4 : (({ w with heap := #[] } : World).cell? a) = none := by simp [World.cell?]
    rw [h4] at h3
    cases h3

section
variable {H : Type} {enc : TypeId × Value → H} {P : Program} {w : World} {base : Nat} {spare : Nat → Bool} {held : Bool}

/-- A slice, element by element: whatever of an element's cells the reading tells. -/
theorem rd_slice {α : Type} {t e : TypeId} {size fuel : Nat} {cs : List Value} {x : DataW H × List MemPlace} (R : List Value → α → Prop) (ht : P.underlying t = some (.slice e)) (hC : P.cellsOf e = size) (h0 : 0 < size)
    (hR : ∀ n cs' y, cs'.length = size → DataW.trod enc P w base spare held n e cs' = some y → ∃ z, R cs' z) (hf : DataW.trod enc P w base spare held fuel t cs = some x) :
    ∃ (A : Option Addr) (len cap : Nat) (l : List α), cs = [.slice A len cap] ∧ len ≤ cap ∧ cap ≤ maxLen ∧ l.length = len ∧
      (0 < len → ∃ b off, A = some ⟨b, off, none⟩ ∧ b < w.heap.size ∧ ∀ (i : Nat) (z : α), l[i]? = some z → ∃ ci, R ci z ∧ ci.length = size ∧ ∀ j, j < size → w.cell? ⟨b, off + i * size + j, none⟩ = ci[j]?) := by
  rcases open_slice ht hf with ⟨hcs, _⟩ | ⟨a, len, cap, m, n, D, Pl, hcs, hb, hl, hm, hmm, hx, hi⟩
  · exact ⟨none, 0, 0, [], hcs, Nat.le_refl _, Nat.zero_le _, rfl, fun h => absurd h (Nat.lt_irrefl 0)⟩
  · have hlm : len ≤ m := by rw [hmm]; split <;> omega
    have each : ∀ i, i < len → ∃ z ci, R ci z ∧ ci.length = size ∧ ∀ j, j < size → w.cell? ((a.add (i * size)).add j) = ci[j]? := by
      intro i hil
      obtain ⟨cs', hc, ht'⟩ := hi i (by omega)
      rw [hC] at hc
      obtain ⟨_, hcl, hat⟩ := World.cells?_some hc
      obtain ⟨z, hz⟩ := hR n cs' _ hcl ht'
      exact ⟨z, cs', hz, hcl, hat⟩
    have list : ∀ k, k ≤ len → ∃ l : List α, l.length = k ∧ ∀ (i : Nat) (z : α), l[i]? = some z → ∃ ci, R ci z ∧ ci.length = size ∧ ∀ j, j < size → w.cell? ((a.add (i * size)).add j) = ci[j]? := by
      intro k
      induction k with
      | zero => intro _; exact ⟨[], rfl, fun i z h => by simp at h⟩
      | succ k ih =>
        intro hk
        obtain ⟨l, hll, hla⟩ := ih (by omega)
        obtain ⟨z, hz⟩ := each k (by omega)
        refine ⟨l ++ [z], by simp [hll], fun i y hy => ?_⟩
        rcases Nat.lt_or_ge i l.length with h1 | h1
        · rw [List.getElem?_append_left h1] at hy
          exact hla i y hy
        · rw [List.getElem?_append_right h1] at hy
          have h2 : i - l.length = 0 := by
            rcases Nat.eq_zero_or_pos (i - l.length) with h | h
            · exact h
            · rw [List.getElem?_eq_none (by simp; omega)] at hy; cases hy
          rw [h2] at hy
          obtain rfl : z = y := by simpa using hy
          obtain rfl : i = k := by omega
          exact hz
    obtain ⟨l, hll, hla⟩ := list len (Nat.le_refl _)
    refine ⟨some a, len, cap, l, hcs, hl, hm, hll, fun hpos => ?_⟩
    have hl0 : 0 < l.length := by omega
    obtain ⟨c0, _, hcl, h00⟩ := hla 0 l[0] (List.getElem?_eq_getElem hl0)
    have hcell := h00 0 h0
    rw [List.getElem?_eq_getElem (by omega)] at hcell
    have hadd : (a.add (0 * size)).add 0 = a := by simp [Addr.add]
    rw [hadd] at hcell
    have hspot := World.cell?_spot hcell
    obtain ⟨b, off, spot⟩ := a
    dsimp only at hspot
    subst hspot
    refine ⟨b, off, rfl, cell_lt hcell, fun i z hz => ?_⟩
    obtain ⟨ci, hr, hc1, hc2⟩ := hla i z hz
    refine ⟨ci, hr, hc1, fun j hj => ?_⟩
    have := hc2 j hj
    rw [← this]
    unfold Addr.add
    by_cases e1 : i * size = 0 <;> by_cases e2 : j = 0 <;> simp [e1, e2, Nat.add_assoc]

/-- .. where the cells are a function of what they read as. -/
theorem rd_cells {α : Type} {t e : TypeId} {size fuel : Nat} {cs : List Value} {x : DataW H × List MemPlace} (f : α → List Value) (ht : P.underlying t = some (.slice e)) (hC : P.cellsOf e = size) (h0 : 0 < size)
    (hR : ∀ n cs' y, cs'.length = size → DataW.trod enc P w base spare held n e cs' = some y → ∃ z, cs' = f z) (hlen : ∀ z, (f z).length = size) (hf : DataW.trod enc P w base spare held fuel t cs = some x) :
    ∃ (A : Option Addr) (len cap : Nat) (l : List α), cs = [.slice A len cap] ∧ len ≤ cap ∧ cap ≤ maxLen ∧ l.length = len ∧ Cells w w.heap.size size A len (l.flatMap f) := by
  obtain ⟨A, len, cap, l, h1, h2, h3, h4, h5⟩ := rd_slice (fun c z => c = f z) ht hC h0 hR hf
  have hfl : ∀ l : List α, (l.flatMap f).length = l.length * size := by
    intro l
    induction l with
    | nil => simp
    | cons a l ih => rw [List.flatMap_cons, List.length_append, ih, hlen, List.length_cons, Nat.succ_mul, Nat.add_comm]
  have hget : ∀ (l : List α) (i j : Nat) (z : α), l[i]? = some z → j < size → (l.flatMap f)[i * size + j]? = (f z)[j]? := by
    intro l
    induction l with
    | nil => intro i j z h; simp at h
    | cons a l ih =>
      intro i j z h hj
      rw [List.flatMap_cons]
      cases i with
      | zero =>
        obtain rfl : a = z := by simpa using h
        rw [Nat.zero_mul, Nat.zero_add, List.getElem?_append_left (by rw [hlen]; exact hj)]
      | succ i =>
        rw [List.getElem?_append_right (by rw [hlen, Nat.succ_mul]; omega), hlen, Nat.succ_mul, show i * size + size + j - size = i * size + j by omega]
        exact ih i j z (by simpa using h) hj
  refine ⟨A, len, cap, l, h1, h2, h3, h4, by rw [hfl, h4], fun hpos => ?_⟩
  obtain ⟨b, off, hA, hb, hc⟩ := h5 hpos
  refine ⟨b, off, hA, hb, fun j u hu => ?_⟩
  have hjl : j < l.length * size := by
    rcases Nat.lt_or_ge j (l.length * size) with h | h
    · exact h
    · rw [List.getElem?_eq_none (by rw [hfl]; exact h)] at hu; cases hu
  have hdiv : j / size < l.length := Nat.div_lt_of_lt_mul (by rw [Nat.mul_comm]; exact hjl)
  have hmod : j % size < size := Nat.mod_lt _ h0
  have hj : j = j / size * size + j % size := by rw [Nat.mul_comm]; exact (Nat.div_add_mod j size).symm
  obtain ⟨ci, hci, _, hcj⟩ := hc (j / size) l[j / size] (List.getElem?_eq_getElem hdiv)
  have h6 := hcj (j % size) hmod
  rw [Nat.add_assoc, ← hj] at h6
  rw [h6, hci]
  rw [hj, hget l _ _ _ (List.getElem?_eq_getElem hdiv) hmod] at hu
  exact hu

theorem rd_int {t : TypeId} {n : Nat} {cs : List Value} {y : DataW H × List MemPlace} {k : IntKind} (ht : P.underlying t = some (.int k)) (h : DataW.trod enc P w base spare held n t cs = some y) :
    ∃ z : Int, cs = [.int k z] ∧ (Lit.int k z).wf = true := by
  obtain ⟨z, h1, _, h3⟩ := DataW.trod_int ht h
  exact ⟨z, h1, h3⟩

/-- A struct of one-cell fields: each field's cell, with its own reading. -/
theorem rd_struct {t : TypeId} {fs : Array Field} {n : Nat} {cs : List Value} {y : DataW H × List MemPlace} (ht : P.underlying t = some (.struct fs)) (hone : oneCellFields P fs = true)
    (h : DataW.trod enc P w base spare held n t cs = some y) : ∃ m, ∀ (j : Nat) (f : Field) (v : Value), fs[j]? = some f → cs[j]? = some v → ∃ z, DataW.trod enc P w base spare held m f.type [v] = some z := by
  obtain ⟨ys, n', _, _, _, hyl, hf⟩ := DataW.trod_struct ht h
  refine ⟨n', fun j f v hj hv => ?_⟩
  obtain ⟨ho, hk⟩ := hone_of hone j f hj
  have h1 := hf j f hj
  rw [ho, hk] at h1
  have hjl : j < fs.size := (Array.getElem?_eq_some_iff.1 hj).1
  obtain ⟨hjc, hv'⟩ := List.getElem?_eq_some_iff.1 hv
  have h2 : (cs.drop j).take 1 = [v] := by
    rw [List.drop_eq_getElem_cons hjc, hv']; rfl
  rw [h2, List.getElem?_eq_getElem (by omega)] at h1
  exact ⟨_, h1⟩
end

end Go.Proofs.Ytgkejdjdccgjbaa
/- A struct with fields of several cells, field by field. Plain law on readings. -/
namespace Go.Proofs.Ytgkejdjdccgjbaa
open Go Go.RowKit Go.ChangeShapes Go.WideShapes Go.Deep

section
variable {H : Type} {enc : TypeId × Value → H} {P : Program} {w : World} {base : Nat} {spare : Nat → Bool} {held : Bool}
theorem rd_fields {t : TypeId} {fs : Array Field} {n : Nat} {cs : List Value} {y : DataW H × List MemPlace} (ht : P.underlying t = some (.struct fs))
    (h : DataW.trod enc P w base spare held n t cs = some y) : ∃ m, ∀ (j : Nat) (f : Field) (e : TypeId) (o k : Nat), fs[j]? = some f → f.type = e → f.offset = o → P.cellsOf e = k → ∃ z, DataW.trod enc P w base spare held m e ((cs.drop o).take k) = some z := by
  obtain ⟨ys, n', _, _, _, hyl, hf⟩ := DataW.trod_struct ht h
  refine ⟨n', fun j f e o k hj he ho hk => ?_⟩
  have h1 := hf j f hj
  rw [ho, he, hk] at h1
  have hjl : j < fs.size := (Array.getElem?_eq_some_iff.1 hj).1
  rw [List.getElem?_eq_getElem (by omega)] at h1
  exact ⟨_, h1⟩
end
end Go.Proofs.Ytgkejdjdccgjbaa
/- Messages that came in as an argument: where they and their rows lie. Plain law on readings. -/
namespace Go.Proofs.Ytgkejdjdccgjbaa
open Go Go.RowKit Go.ChangeShapes Go.WideShapes Go.Deep
set_option maxHeartbeats 1000000

theorem wf_u32 {z : Int} (h : (Lit.int .u32 z).wf = true) : U32 z := by
  have := bounds_u32 h
  exact ⟨by omega, by omega⟩
theorem wf_u64 {z : Int} (h : (Lit.int .u64 z).wf = true) : U64 z := by
  have := bounds_u64 h
  exact ⟨by omega, by omega⟩
theorem wf_u16 {z : Int} (h : (Lit.int .u16 z).wf = true) : U16 z := by
  have := bounds_u16 h
  exact ⟨by omega, by omega⟩
theorem wf_u8 {z : Int} (h : (Lit.int .u8 z).wf = true) : U8 z := by
  have := bounds_u8 h
  exact ⟨by omega, by omega⟩
theorem CellsIn.came {w : World} {size n : Nat} {A : Option Addr} {xs : List Value} (h : Cells w w.heap.size size A n xs) : CellsIn w 0 w.heap.size size A n xs :=
  ⟨h.1, fun hn => by
    obtain ⟨b, off, e, hlt, hc⟩ := h.2 hn
    exact ⟨b, off, e, Nat.zero_le _, hlt, hc⟩⟩
section
variable {H : Type} {enc : TypeId × Value → H} {w : World} {base : Nat} {spare : Nat → Bool} {held : Bool}
theorem rd_reports {fuel : Nat} {cs : List Value} {x : DataW H × List MemPlace} (hf : DataW.trod enc Try.prog w base spare held fuel 55 cs = some x) :
    ∃ (A : Option Addr) (c : Nat) (l : List Rep), cs = [.slice A l.length c] ∧ CellsIn w 0 w.heap.size 7 A l.length (l.flatMap encRep) ∧ ∀ r ∈ l, r.Ok := by
  obtain ⟨A, len, cap, l, hcs, _, _, hll, hc⟩ := rd_cells (α := { x : Rep // x.Ok }) (fun a => encRep a.1) (size := 7) Try.underlying55 (by kernel_rfl) (by omega) (fun n cs y hcl hy => by
    obtain ⟨m, hm⟩ := rd_fields (n := n) (fs := _) Try.underlying87 hy
    match cs, hcl with
    | [c0, c1, c2, c3, c4, c5, c6], _ =>
      obtain ⟨y0, hy0⟩ := hm 0 _ 43 0 1 rfl rfl rfl (by kernel_rfl)
      obtain ⟨y1, hy1⟩ := hm 1 _ 5 1 1 rfl rfl rfl (by kernel_rfl)
      obtain ⟨y2, hy2⟩ := hm 2 _ 43 2 1 rfl rfl rfl (by kernel_rfl)
      obtain ⟨y3, hy3⟩ := hm 3 _ 43 3 1 rfl rfl rfl (by kernel_rfl)
      obtain ⟨y4, hy4⟩ := hm 4 _ 43 4 1 rfl rfl rfl (by kernel_rfl)
      obtain ⟨y5, hy5⟩ := hm 5 _ 43 5 1 rfl rfl rfl (by kernel_rfl)
      obtain ⟨y6, hy6⟩ := hm 6 _ 43 6 1 rfl rfl rfl (by kernel_rfl)
      obtain ⟨z0, e0, w0⟩ := rd_int Try.underlying43 hy0
      obtain ⟨z1, e1, w1⟩ := rd_int Try.underlying5 hy1
      obtain ⟨z2, e2, w2⟩ := rd_int Try.underlying43 hy2
      obtain ⟨z3, e3, w3⟩ := rd_int Try.underlying43 hy3
      obtain ⟨z4, e4, w4⟩ := rd_int Try.underlying43 hy4
      obtain ⟨z5, e5, w5⟩ := rd_int Try.underlying43 hy5
      obtain ⟨z6, e6, w6⟩ := rd_int Try.underlying43 hy6
      have f0 : c0 = _ := (List.cons.inj e0).1
      have f1 : c1 = _ := (List.cons.inj e1).1
      have f2 : c2 = _ := (List.cons.inj e2).1
      have f3 : c3 = _ := (List.cons.inj e3).1
      have f4 : c4 = _ := (List.cons.inj e4).1
      have f5 : c5 = _ := (List.cons.inj e5).1
      have f6 : c6 = _ := (List.cons.inj e6).1
      exact ⟨⟨⟨z0, z1, z2, z3, z4, z5, z6⟩, ⟨wf_u32 w0, wf_u8 w1, wf_u32 w2, wf_u32 w3, wf_u32 w4, wf_u32 w5, wf_u32 w6⟩⟩, by rw [f0, f1, f2, f3, f4, f5, f6]; rfl⟩) (fun _ => rfl) hf
  have hl' : (l.map (·.1)).length = len := by rw [List.length_map]; exact hll
  refine ⟨A, cap, l.map (·.1), by rw [hl']; exact hcs, ?_, fun r hr => ?_⟩
  · rw [hl', List.flatMap_map]; exact CellsIn.came hc
  · obtain ⟨a, _, rfl⟩ := List.mem_map.1 hr
    exact a.2
theorem rd_who {fuel : Nat} {cs : List Value} {x : DataW H × List MemPlace} (hf : DataW.trod enc Try.prog w base spare held fuel 46 cs = some x) :
    ∃ (A : Option Addr) (c : Nat) (l : List Int), cs = [.slice A l.length c] ∧ CellsIn w 0 w.heap.size 1 A l.length (l.map (Value.int .u32)) ∧ ∀ r ∈ l, U32 r := by
  obtain ⟨A, len, cap, l, hcs, _, _, hll, hc⟩ := rd_cells (α := { x : Int // U32 x }) (fun a => [.int .u32 a.1]) (size := 1) Try.underlying46 (by kernel_rfl) (by omega) (fun n cs y hcl hy => by
    obtain ⟨z, e, wz⟩ := rd_int Try.underlying43 hy
    exact ⟨⟨z, wf_u32 wz⟩, e⟩) (fun _ => rfl) hf
  have hl' : (l.map (·.1)).length = len := by rw [List.length_map]; exact hll
  refine ⟨A, cap, l.map (·.1), by rw [hl']; exact hcs, ?_, fun r hr => ?_⟩
  · have e : (l.map (·.1)).map (Value.int .u32) = l.flatMap fun a => [.int .u32 a.1] := by
      rw [flat_one (fun a : { x : Int // U32 x } => Value.int .u32 a.1), List.map_map]; rfl
    rw [hl', e]; exact CellsIn.came hc
  · obtain ⟨a, _, rfl⟩ := List.mem_map.1 hr
    exact a.2
theorem rd_pairs {fuel : Nat} {cs : List Value} {x : DataW H × List MemPlace} (hf : DataW.trod enc Try.prog w base spare held fuel 56 cs = some x) :
    ∃ (A : Option Addr) (c : Nat) (l : List (Int × Int)), cs = [.slice A l.length c] ∧ CellsIn w 0 w.heap.size 2 A l.length (l.flatMap encPair) ∧ ∀ p ∈ l, U16 p.1 ∧ U16 p.2 := by
  obtain ⟨A, len, cap, l, hcs, _, _, hll, hc⟩ := rd_cells (α := { x : Int × Int // U16 x.1 ∧ U16 x.2 }) (fun a => encPair a.1) (size := 2) Try.underlying56 (by kernel_rfl) (by omega) (fun n cs y hcl hy => by
    obtain ⟨m, hm⟩ := rd_fields (n := n) (fs := _) Try.underlying68 hy
    match cs, hcl with
    | [c0, c1], _ =>
      obtain ⟨y0, hy0⟩ := hm 0 _ 34 0 1 rfl rfl rfl (by kernel_rfl)
      obtain ⟨y1, hy1⟩ := hm 1 _ 34 1 1 rfl rfl rfl (by kernel_rfl)
      obtain ⟨z0, e0, w0⟩ := rd_int Try.underlying34 hy0
      obtain ⟨z1, e1, w1⟩ := rd_int Try.underlying34 hy1
      have f0 : c0 = _ := (List.cons.inj e0).1
      have f1 : c1 = _ := (List.cons.inj e1).1
      exact ⟨⟨(z0, z1), ⟨wf_u16 w0, wf_u16 w1⟩⟩, by rw [f0, f1]; rfl⟩) (fun _ => rfl) hf
  have hl' : (l.map (·.1)).length = len := by rw [List.length_map]; exact hll
  refine ⟨A, cap, l.map (·.1), by rw [hl']; exact hcs, ?_, fun r hr => ?_⟩
  · rw [hl', List.flatMap_map]; exact CellsIn.came hc
  · obtain ⟨a, _, rfl⟩ := List.mem_map.1 hr
    exact a.2
theorem rd_asks {fuel : Nat} {cs : List Value} {x : DataW H × List MemPlace} (hf : DataW.trod enc Try.prog w base spare held fuel 57 cs = some x) :
    ∃ (A : Option Addr) (c : Nat) (l : List (Int × Int)), cs = [.slice A l.length c] ∧ CellsIn w 0 w.heap.size 2 A l.length (l.flatMap encAsk) ∧ ∀ p ∈ l, U32 p.1 ∧ U8 p.2 := by
  obtain ⟨A, len, cap, l, hcs, _, _, hll, hc⟩ := rd_cells (α := { x : Int × Int // U32 x.1 ∧ U8 x.2 }) (fun a => encAsk a.1) (size := 2) Try.underlying57 (by kernel_rfl) (by omega) (fun n cs y hcl hy => by
    obtain ⟨m, hm⟩ := rd_fields (n := n) (fs := _) Try.underlying91 hy
    match cs, hcl with
    | [c0, c1], _ =>
      obtain ⟨y0, hy0⟩ := hm 0 _ 43 0 1 rfl rfl rfl (by kernel_rfl)
      obtain ⟨y1, hy1⟩ := hm 1 _ 5 1 1 rfl rfl rfl (by kernel_rfl)
      obtain ⟨z0, e0, w0⟩ := rd_int Try.underlying43 hy0
      obtain ⟨z1, e1, w1⟩ := rd_int Try.underlying5 hy1
      have f0 : c0 = _ := (List.cons.inj e0).1
      have f1 : c1 = _ := (List.cons.inj e1).1
      exact ⟨⟨(z0, z1), ⟨wf_u32 w0, wf_u8 w1⟩⟩, by rw [f0, f1]; rfl⟩) (fun _ => rfl) hf
  have hl' : (l.map (·.1)).length = len := by rw [List.length_map]; exact hll
  refine ⟨A, cap, l.map (·.1), by rw [hl']; exact hcs, ?_, fun r hr => ?_⟩
  · rw [hl', List.flatMap_map]; exact CellsIn.came hc
  · obtain ⟨a, _, rfl⟩ := List.mem_map.1 hr
    exact a.2
theorem open_msgs {fuel : Nat} {cs : List Value} {x : DataW H × List MemPlace} (hf : DataW.trod enc Try.prog w base spare held fuel 22 cs = some x) :
    ∃ (A : Option Addr) (c : Nat) (l : List (Mg × Hd)), cs = [.slice A l.length c] ∧ l.length ≤ c ∧ c ≤ maxLen ∧ CellsIn w 0 w.heap.size 12 A l.length (l.flatMap encM) ∧ ∀ x ∈ l, MgIn w 0 x.1 x.2 ∧ x.1.Num := by
  obtain ⟨A, len, cap, l, hcs, hlc, hm, hll, hc⟩ := rd_cells (α := { x : Mg × Hd // MgIn w 0 x.1 x.2 ∧ x.1.Num }) (fun a => encM a.1) (size := 12) Try.underlying22 (by kernel_rfl) (by omega) (fun n cs y hcl hy => by
    obtain ⟨m, hm⟩ := rd_fields (n := n) (fs := _) Try.underlying59 hy
    match cs, hcl with
    | [c0, c1, c2, c3, c4, c5, c6, c7, c8, c9, c10, c11], _ =>
      obtain ⟨y0, hy0⟩ := hm 0 _ 3 0 1 rfl rfl rfl (by kernel_rfl)
      obtain ⟨y1, hy1⟩ := hm 1 _ 43 1 1 rfl rfl rfl (by kernel_rfl)
      obtain ⟨y2, hy2⟩ := hm 2 _ 43 2 1 rfl rfl rfl (by kernel_rfl)
      obtain ⟨y3, hy3⟩ := hm 3 _ 54 3 4 rfl rfl rfl (by kernel_rfl)
      obtain ⟨y7, hy7⟩ := hm 4 _ 55 7 1 rfl rfl rfl (by kernel_rfl)
      obtain ⟨y8, hy8⟩ := hm 5 _ 46 8 1 rfl rfl rfl (by kernel_rfl)
      obtain ⟨y9, hy9⟩ := hm 6 _ 56 9 1 rfl rfl rfl (by kernel_rfl)
      obtain ⟨y10, hy10⟩ := hm 7 _ 57 10 1 rfl rfl rfl (by kernel_rfl)
      obtain ⟨y11, hy11⟩ := hm 8 _ 5 11 1 rfl rfl rfl (by kernel_rfl)
      obtain ⟨z0, e0, w0⟩ := rd_int Try.underlying3 hy0
      obtain ⟨z1, e1, w1⟩ := rd_int Try.underlying43 hy1
      obtain ⟨z2, e2, w2⟩ := rd_int Try.underlying43 hy2
      obtain ⟨m3, hm3⟩ := rd_fields (fs := _) Try.underlying54 hy3
      obtain ⟨y3, hy3⟩ := hm3 0 _ 44 0 1 rfl rfl rfl (by kernel_rfl)
      obtain ⟨y4, hy4⟩ := hm3 1 _ 43 1 1 rfl rfl rfl (by kernel_rfl)
      obtain ⟨y5, hy5⟩ := hm3 2 _ 43 2 1 rfl rfl rfl (by kernel_rfl)
      obtain ⟨y6, hy6⟩ := hm3 3 _ 43 3 1 rfl rfl rfl (by kernel_rfl)
      obtain ⟨z3, e3, w3⟩ := rd_int Try.underlying44 hy3
      obtain ⟨z4, e4, w4⟩ := rd_int Try.underlying43 hy4
      obtain ⟨z5, e5, w5⟩ := rd_int Try.underlying43 hy5
      obtain ⟨z6, e6, w6⟩ := rd_int Try.underlying43 hy6
      obtain ⟨A7, k7, l7, e7, h7, n7⟩ := rd_reports hy7
      obtain ⟨A8, k8, l8, e8, h8, n8⟩ := rd_who hy8
      obtain ⟨A9, k9, l9, e9, h9, n9⟩ := rd_pairs hy9
      obtain ⟨A10, k10, l10, e10, h10, n10⟩ := rd_asks hy10
      obtain ⟨z11, e11, w11⟩ := rd_int Try.underlying5 hy11
      have f0 : c0 = _ := (List.cons.inj e0).1
      have f1 : c1 = _ := (List.cons.inj e1).1
      have f2 : c2 = _ := (List.cons.inj e2).1
      have f3 : c3 = _ := (List.cons.inj e3).1
      have f4 : c4 = _ := (List.cons.inj e4).1
      have f5 : c5 = _ := (List.cons.inj e5).1
      have f6 : c6 = _ := (List.cons.inj e6).1
      have f7 : c7 = _ := (List.cons.inj e7).1
      have f8 : c8 = _ := (List.cons.inj e8).1
      have f9 : c9 = _ := (List.cons.inj e9).1
      have f10 : c10 = _ := (List.cons.inj e10).1
      have f11 : c11 = _ := (List.cons.inj e11).1
      exact ⟨⟨(⟨z0, z1, z2, z3, z4, z5, z6, l7, l8, l9, l10, z11⟩, ⟨A7, k7, A8, k8, A9, k9, A10, k10⟩), ⟨h7, h8, h9, h10⟩, ⟨wf_u32 w1, wf_u32 w2, wf_u64 w3, wf_u32 w4, wf_u32 w5, wf_u32 w6, n7, n8, n9, n10, wf_u8 w11⟩⟩, by rw [f0, f1, f2, f3, f4, f5, f6, f7, f8, f9, f10, f11]; rfl⟩) (fun _ => rfl) hf
  have hl' : (l.map (·.1)).length = len := by rw [List.length_map]; exact hll
  refine ⟨A, cap, l.map (·.1), by rw [hl']; exact hcs, by rw [hl']; exact hlc, hm, ?_, fun r hr => ?_⟩
  · rw [hl', List.flatMap_map]; exact CellsIn.came hc
  · obtain ⟨a, _, rfl⟩ := List.mem_map.1 hr
    exact a.2
end
end Go.Proofs.Ytgkejdjdccgjbaa
