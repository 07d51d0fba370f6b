/- RtcpBack: the walk. -/
import Derived.Test.YtgkejdjdccgjbaaNameM
import Derived.Test.YtgkejdjdccgjbaaBack3
import Derived.Test.YtgkejdjdccgjbaaParseG
import Derived.Test.YtgkejdjdccgjbaaRAwake
namespace Go.Proofs.Ytgkejdjdccgjbaa
open Go Go.RowKit
set_option maxHeartbeats 400000

set_option maxRecDepth 100000 in
set_option maxHeartbeats 6000000 in
theorem back_any (A : Option Addr) (cap : Nat) (ms : List (Mg × Hd)) (pad : Int) (w : World) (hp0 : 0 ≤ pad) (hp1 : pad ≤ 255) (hlc : ms.length ≤ cap) (hcm : cap ≤ 9223372036854775807)
    (hl : CellsIn w 0 w.heap.size 12 A ms.length (ms.flatMap encM)) (hm : ∀ x, x ∈ ms → MgIn w 0 x.1 x.2 ∧ x.1.Num) :
    Calls Try.prog 5 #[.slice A ms.length cap, .int .u8 pad] w fun e w' => e = .returned (.bool true) ∧ Below w.heap.size w w' := by
  obtain ⟨j0, hj0, hy0, hy1, hy2⟩ := info_parts infoRM
  obtain ⟨j1, hj1, hz0, hz1, hz2⟩ := info_parts infoRR
  obtain ⟨j2, hj2, hx0, hx1, hx2⟩ := info_parts infoB
  have HAW := Lib.hid (awake_any w)
  have HL := Lib.hid hl
  have HM := Lib.hid hm
  obtain ⟨L, hLe⟩ : ∃ L, L = ms.length := ⟨_, rfl⟩
  have HLE := Lib.hid hLe
  rw [← hLe] at hlc ⊢
  clear hl hm hLe
  go_enter Try.func5, Try.ntmps5
  go_wp2_with fail
  refine HAW.out.mono ?_
  rintro e w1 ⟨rfl, hu⟩
  have HC1 := Lib.hid (HL.out.upd hu (Nat.le_refl _) (by simp))
  have HF := Lib.hid (few_any (cap := cap) (HC1.out.more (Nat.le_refl _) hu.size) (by rw [← HLE.out]; omega))
  rw [← HLE.out] at HF
  have HU := Lib.hid hu
  clear hu HAW
  go_wp2_with fail
  refine HF.out.mono ?_
  rintro e w2 ⟨rfl, rfl⟩
  clear HF
  obtain ⟨fw, hfw⟩ : ∃ fw, fw = fewM (ms.map (·.1)) := ⟨_, rfl⟩
  rw [← hfw]
  have HFW := Lib.hid hfw
  clear hfw
  cases fw with
  | false =>
    go_wp2
    exact bodyPost_res (v := .bool true) (by simp [results, Try.results5, go_sem]) rfl ⟨rfl, HU.out.below (Nat.le_refl _) (by simp)⟩
  | true =>
  by_cases hL0 : L = 0
  · subst hL0
    go_wp2
    exact bodyPost_res (v := .bool true) (by simp [results, Try.results5, go_sem]) rfl ⟨rfl, HU.out.below (Nat.le_refl _) (by simp)⟩
  have hL0' : ¬ (L : Int) = 0 := by omega
  have hLp : (0 : Int) < (L : Int) := by omega
  obtain ⟨hok, h12⟩ := fewM_ok HFW.out.symm (fun x hx => (HM.out x hx).2)
  have HMI := Lib.hid (fun x hx => (⟨((HM.out x hx).1.below (HU.out.below (Nat.le_refl _) (by simp))), hok x hx, (HM.out x hx).2⟩ : MgIn w2 0 x.1 x.2 ∧ x.1.Ok ∧ x.1.Num))
  have HWB : Hid (∀ x, x ∈ ms → ∀ a, x.2.wA = some a → 0 < x.1.who.length → a.block < w.heap.size) := Lib.hid (fun x hx a ha hn => (HM.out x hx).1.cw.below_hi hn a ha)
  have HPT := Lib.hid (put_any (cap := cap) (HC1.out.more (Nat.le_refl _) HU.out.size) (fun x hx => ⟨(HMI.out x hx).1, (HMI.out x hx).2.1⟩) (by omega))
  rw [← HLE.out] at HPT
  have hL12 : L ≤ 12 := by rw [HLE.out]; exact h12
  obtain ⟨pe, hpe⟩ : ∃ pe, pe = (putM (ms.map (·.1))).2 := ⟨_, rfl⟩
  rw [← hpe] at HPT
  have HPE := Lib.hid hpe
  obtain ⟨X, hX⟩ : ∃ X, X = (putM (ms.map (·.1))).1 := ⟨_, rfl⟩
  rw [← hX] at HPT
  have HXE := Lib.hid hX
  obtain ⟨LX, hLX⟩ : ∃ LX, LX = X.length := ⟨_, rfl⟩
  rw [← hLX] at HPT
  have HLX := Lib.hid hLX
  clear hok h12 hpe hX hLX HL HM HFW
  go_wp2_with fail
  refine HPT.out.mono ?_
  rintro e w3 ⟨vb, rfl, hown, hbel⟩
  have HB3 := Lib.hid (Upd.of_below (S := []) hbel)
  obtain ⟨Ab, cb, hvb, _, hAb, -⟩ := own_form hown
  subst hvb
  have HX3 := Lib.hid hown
  have HAB := Lib.hid hAb
  have HU3 := Lib.hid (HU.out.next HB3.out)
  clear hown hbel HPT hAb
  by_cases hpe : pe = 0
  rotate_left
  · have hX0 := putM_no (by rw [← HPE.out]; exact hpe)
    have hLX0 : LX = 0 := by rw [HLX.out, HXE.out, hX0]; rfl
    subst hLX0
    clear hX0
    go_wp2
    exact bodyPost_res (v := .bool true) (by simp [results, Try.results5, go_sem, hpe]) rfl ⟨rfl, HU3.out.below (Nat.le_refl _) (by simp)⟩
  subst hpe
  obtain ⟨hiss, hle, hxs⟩ := putM_ok HPE.out.symm
  have HXS : Hid (X = (ms.map (·.1)).flatMap msgB) := Lib.hid (HXE.out.trans hxs)
  have hLXb : LX ≤ 1500 := by rw [HLX.out, HXS.out]; exact hle
  have HIS := Lib.hid hiss
  have HC3 := Lib.hid (HC1.out.upd HB3.out HU.out.size (by simp))
  have HM3 : Hid (∀ x, x ∈ ms → MgIn w3 0 x.1 x.2 ∧ x.1.Ok ∧ x.1.Num) := Lib.hid (fun x hx => ⟨(HMI.out x hx).1.same HB3.out (Nat.le_refl _), (HMI.out x hx).2⟩)
  have HSZ : Hid (w.heap.size ≤ w2.heap.size ∧ w2.heap.size ≤ w3.heap.size) := Lib.hid ⟨HU.out.size, HB3.out.size⟩
  clear hiss hle hxs HXE HC1 HMI HPE HU HB3
  go_wp2
  go_loopg [9, 10] L (fun gk x9 x10 wr => ∃ (out : List (Mg × Hd)), out.length ≤ L ∧ L ≤ out.length + gk ∧ x10 = .int .i64 out.length ∧ out.map (·.1) = ((ms.take out.length).map (·.1)).map backM ∧
      wr.ownsRow w3.heap.size 50 12 x9 out.length (out.flatMap encM) ∧
      (∀ x, x ∈ out → RfIn wr w3.heap.size x.1 x.2 ∧ Off x9 x.1 x.2 ∧ (∀ a, x.2.wA = some a → 0 < x.1.who.length → a.block < w.heap.size)) ∧ Upd [] w3 wr)
  case atStart => exact ⟨[], Nat.zero_le _, by simp, rfl, rfl, World.ownsRow_nil _ _ _ _, by simp, Upd.refl _ _⟩
  case round =>
    obtain ⟨wa, rfl⟩ : ∃ W0 : World, W0 = wr := ⟨_, rfl⟩
    obtain ⟨gA, rfl⟩ : ∃ g0 : Nat, g0 = gk := ⟨_, rfl⟩
    obtain ⟨out, hi, hgi, rfl, hmap, hown, hin, hu⟩ := hrel
    obtain ⟨Av, cv, hve, -⟩ := own_form hown
    subst hve
    obtain ⟨i, hie⟩ : ∃ i, i = out.length := ⟨_, rfl⟩
    rw [← hie] at hi hgi hmap hown hin ⊢
    have HIE := Lib.hid hie
    clear hie
    by_cases hlt : i < L
    ·
      obtain ⟨x, hxi⟩ : ∃ p, ms[i]? = some p := ⟨_, List.getElem?_eq_getElem (by rw [← HLE.out]; exact hlt)⟩
      have hxm := List.mem_of_getElem? hxi
      obtain ⟨hmi, hok, hnum⟩ := HM3.out x hxm
      have hk := is_kind (HIS.out x.1 (List.mem_map.2 ⟨x, hxm, rfl⟩))
      obtain ⟨b, off, rfl, hb1, hb2, hcc⟩ := HC3.out.2 (by rw [← HLE.out]; omega)
      have hb3 : b < w3.heap.size := by have := HSZ.out; omega
      have c0 := (hu.cell (p := ⟨b, off + (i * 12 + 0), none⟩) hb3 (by simp)).trans (hcc (i * 12 + 0) _ (flat_get encM_len ms i 0 x hxi (by omega)))
      have c1 := (hu.cell (p := ⟨b, off + (i * 12 + 1), none⟩) hb3 (by simp)).trans (hcc (i * 12 + 1) _ (flat_get encM_len ms i 1 x hxi (by omega)))
      have c2 := (hu.cell (p := ⟨b, off + (i * 12 + 2), none⟩) hb3 (by simp)).trans (hcc (i * 12 + 2) _ (flat_get encM_len ms i 2 x hxi (by omega)))
      have c3 := (hu.cell (p := ⟨b, off + (i * 12 + 3), none⟩) hb3 (by simp)).trans (hcc (i * 12 + 3) _ (flat_get encM_len ms i 3 x hxi (by omega)))
      have c4 := (hu.cell (p := ⟨b, off + (i * 12 + 4), none⟩) hb3 (by simp)).trans (hcc (i * 12 + 4) _ (flat_get encM_len ms i 4 x hxi (by omega)))
      have c5 := (hu.cell (p := ⟨b, off + (i * 12 + 5), none⟩) hb3 (by simp)).trans (hcc (i * 12 + 5) _ (flat_get encM_len ms i 5 x hxi (by omega)))
      have c6 := (hu.cell (p := ⟨b, off + (i * 12 + 6), none⟩) hb3 (by simp)).trans (hcc (i * 12 + 6) _ (flat_get encM_len ms i 6 x hxi (by omega)))
      have c7 := (hu.cell (p := ⟨b, off + (i * 12 + 7), none⟩) hb3 (by simp)).trans (hcc (i * 12 + 7) _ (flat_get encM_len ms i 7 x hxi (by omega)))
      have c8 := (hu.cell (p := ⟨b, off + (i * 12 + 8), none⟩) hb3 (by simp)).trans (hcc (i * 12 + 8) _ (flat_get encM_len ms i 8 x hxi (by omega)))
      have c9 := (hu.cell (p := ⟨b, off + (i * 12 + 9), none⟩) hb3 (by simp)).trans (hcc (i * 12 + 9) _ (flat_get encM_len ms i 9 x hxi (by omega)))
      have c10 := (hu.cell (p := ⟨b, off + (i * 12 + 10), none⟩) hb3 (by simp)).trans (hcc (i * 12 + 10) _ (flat_get encM_len ms i 10 x hxi (by omega)))
      have c11 := (hu.cell (p := ⟨b, off + (i * 12 + 11), none⟩) hb3 (by simp)).trans (hcc (i * 12 + 11) _ (flat_get encM_len ms i 11 x hxi (by omega)))
      have HWX := Lib.hid (HWB.out x hxm)
      obtain ⟨m, hd⟩ := x
      dsimp only at hmi hok hnum hk HWX
      obtain ⟨nm, hnm⟩ : ∃ nm, nm = nameM m := ⟨_, rfl⟩
      have HBK : Hid (backM m = { nm with reports := nm.reports.map lostM }) := Lib.hid (by rw [hnm]; exact back_name m)
      have hlen := back_len m
      have HNO : Hid (∀ r, r ∈ nm.reports → r.Ok) := Lib.hid (by rw [hnm]; exact name_rep hnum)
      have HNR : Hid (nm.reports.length ≤ 60) := Lib.hid (by
        have h1 := hlen.1
        rw [HBK.out] at h1
        simp only [List.length_map] at h1
        exact Nat.le_trans h1 hok.nr)
      have HOF := Lib.hid (of_any (hmi.same hu (Nat.zero_le _)) hnum (by have := hok.nr; omega) (by have := hok.np; omega) (by have := hok.na; omega))
      have HK := Lib.hid hk
      have HXI := Lib.hid hxi
      have HNM := Lib.hid hnm
      obtain ⟨kk, m1, m2, m3, m4, m5, m6, rs, wh, ps, qs, ty⟩ := m
      obtain ⟨rA, rc, wA, wc, pA, pc, aA, ac⟩ := hd
      simp only [encM, mcells, List.getElem?_cons_zero, List.getElem?_cons_succ, List.getElem_cons_zero, List.getElem_cons_succ, ← Nat.add_assoc, Nat.add_zero] at c0 c1 c2 c3 c4 c5 c6 c7 c8 c9 c10 c11
      simp only [mcells] at HOF
      have hlti : (i : Int) < (L : Int) := by omega
      have hw : IntKind.i64.wrap ((i : Int) + 1) = (i : Int) + 1 := IntWalk.i64_in _ (by omega)
      have HOW := Lib.hid hown
      have HINR := Lib.hid hin
      have HUR := Lib.hid hu
      have HMAP := Lib.hid hmap
      have HNB : Hid (∀ s, (Value.slice Av i cv).ownBlock = some s → w3.heap.size ≤ s ∧ s < wa.heap.size) := Lib.hid (fun s hs => own_block_lt hown hs)
      clear hcc hown hin hu hxi hmap hmi hnum hok hk hxm hlen hnm hb1 hb2 hb3
      go_wp2_with fail
      refine HOF.out.mono ?_
      rintro e w4 ⟨h', rfl, hrf, hwa, hu4⟩
      try dsimp only at hwa
      have HNA := Lib.hid (named_any HK.out hrf)
      have HWA := Lib.hid hwa
      have HU4 := Lib.hid hu4
      rw [← HNM.out] at HNA
      simp only [mcells] at HNA
      clear hrf hwa hu4 HOF c0 c1 c2 c3 c4 c5 c6 c7 c8 c9 c10 c11
      go_wp2_with fail
      refine HNA.out.mono ?_
      rintro e w5 ⟨h'', rfl, hrf, hwb, hu5⟩
      obtain ⟨k0, n1, n2, n3, n4, n5, n6, rr, nw, np, nq, nt⟩ := nm
      obtain ⟨dR, cR, dW, cW, dP, cP, dA, cA⟩ := h''
      dsimp only at hrf hwb HNR HNO
      have HWD : Hid (∀ a, dW = some a → 0 < nw.length → a.block < w.heap.size) := Lib.hid (fun a ha hn => HWX.out a (by rw [← HWA.out]; exact (hwb a ha hn).1) (hwb a ha hn).2)
      obtain ⟨W1, hW1⟩ : ∃ W1, W1 = w5.alloc (.cells #[.int .i64 k0, .int .u32 n1, .int .u32 n2, .int .u64 n3, .int .u32 n4, .int .u32 n5, .int .u32 n6, .slice dR rr.length cR, .slice dW nw.length cW, .slice dP np.length cP, .slice dA nq.length cA, .int .u8 nt] 50) := ⟨_, rfl⟩
      obtain ⟨B, hBe⟩ : ∃ B, B = w5.heap.size := ⟨_, rfl⟩
      have hBB : Blk W1 B 50 #[.int .i64 k0, .int .u32 n1, .int .u32 n2, .int .u64 n3, .int .u32 n4, .int .u32 n5, .int .u32 n6, .slice dR rr.length cR, .slice dW nw.length cW, .slice dP np.length cP, .slice dA nq.length cA, .int .u8 nt] := by rw [hW1, hBe]; exact Blk.new _ _ _
      have hu51 : Upd [] w5 W1 := by rw [hW1]; exact (Upd.refl [] w5).alloc _
      have HRF := Lib.hid (hrf.same hu51 (Nat.le_refl _))
      have HUA : Hid (Upd [] wa W1) := Lib.hid ((HU4.out.next hu5).next hu51)
      have HBA : Hid (wa.heap.size ≤ B ∧ B < W1.heap.size) := Lib.hid ⟨by rw [hBe]; exact (HU4.out.next hu5).size, hBB.lt⟩
      have HBB := Lib.hid hBB
      have HRF5 := Lib.hid hrf
      have HBE := Lib.hid hBe
      clear hrf hwb hu5 hBB hu51 HNA HU4 HK HWX HWA HNM
      go_wp2
      rw [← hW1, ← hBe]
      clear hW1 hBe
      go_loopg [12, 13] rr.length (fun gk x12 x13 wr => ∃ (j : Nat), j ≤ rr.length ∧ rr.length ≤ j + gk ∧ x13 = .int .i64 j ∧ wr.ownsRow W1.heap.size 61 7 x12 j (((rr.take j).map lostM).flatMap encRep) ∧ Upd [] W1 wr)
      case atStart => exact ⟨0, Nat.zero_le _, by omega, rfl, World.ownsRow_nil _ _ _ _, Upd.refl _ _⟩
      case round =>
        obtain ⟨j, hj, hgj, rfl, hown, hu⟩ := hrel
        obtain ⟨Ar, cr, hve, -⟩ := own_form hown
        subst hve
        have b7 : wr.cell? ⟨B, 7, none⟩ = some (.slice dR rr.length cR) := (HBB.out.upd hu (by simp)).cell 7
        by_cases hjt : j < rr.length
        ·
          obtain ⟨q, hqj⟩ : ∃ p, rr[j]? = some p := ⟨_, List.getElem?_eq_getElem hjt⟩
          have hcr := HRF.out.cr.upd hu (Nat.le_refl _) (by simp)
          obtain ⟨b', off', rfl, hb1, hb2, hcc⟩ := hcr.2 (by dsimp only; omega)
          have c0 := hcc (j * 7 + 0) _ (flat_get encRep_len rr j 0 q hqj (by omega))
          have c1 := hcc (j * 7 + 1) _ (flat_get encRep_len rr j 1 q hqj (by omega))
          have c2 := hcc (j * 7 + 2) _ (flat_get encRep_len rr j 2 q hqj (by omega))
          have c3 := hcc (j * 7 + 3) _ (flat_get encRep_len rr j 3 q hqj (by omega))
          have c4 := hcc (j * 7 + 4) _ (flat_get encRep_len rr j 4 q hqj (by omega))
          have c5 := hcc (j * 7 + 5) _ (flat_get encRep_len rr j 5 q hqj (by omega))
          have c6 := hcc (j * 7 + 6) _ (flat_get encRep_len rr j 6 q hqj (by omega))
          have hqo := (HNO.out q (List.mem_of_getElem? hqj)).lost
          obtain ⟨q0, q1, q2, q3, q4, q5, q6⟩ := q
          dsimp only at hqo
          simp only [encRep, List.getElem?_cons_zero, List.getElem?_cons_succ, List.getElem_cons_zero, List.getElem_cons_succ, ← Nat.add_assoc, Nat.add_zero] at c0 c1 c2 c3 c4 c5 c6
          obtain ⟨y, hy⟩ : ∃ y, y = q2 % 16777216 := ⟨_, rfl⟩
          have hqe : q2 % 16777216 = y := hy.symm
          have hqt : Int.tmod q2 16777216 = y := by rw [Int.tmod_eq_emod_of_nonneg hqo.1]; exact hqe
          have hy0 : 0 ≤ y := by omega
          have hy1' : y ≤ 16777215 := by omega
          have hjti : (j : Int) < (rr.length : Int) := by omega
          have hwj : IntKind.i64.wrap ((j : Int) + 1) = (j : Int) + 1 := IntWalk.i64_in _ (by have := HNR.out; omega)
          have hwy : IntKind.u32.wrap y = y := IntWalk.u32_in _ (by omega)
          have HOWJ := Lib.hid hown
          have HUJ := Lib.hid hu
          have HQJ := Lib.hid hqj
          have HY := Lib.hid hy
          clear hcc hown hu hqj hcr hb1 hb2 hqo hy
          go_upto_region 20 with fail
          obtain ⟨W2, hW2⟩ : ∃ W2, W2 = wr.alloc (.cells #[.int .u32 q0, .int .u8 q1, .int .u32 q2, .int .u32 q3, .int .u32 q4, .int .u32 q5, .int .u32 q6] 61) := ⟨_, rfl⟩
          obtain ⟨Y, hYe⟩ : ∃ Y, Y = wr.heap.size := ⟨_, rfl⟩
          rw [← hW2, ← hYe]
          have hYB : Blk W2 Y 61 #[.int .u32 q0, .int .u8 q1, .int .u32 q2, .int .u32 q3, .int .u32 q4, .int .u32 q5, .int .u32 q6] := by rw [hW2, hYe]; exact Blk.new _ _ _
          have HOW2 : Hid (W2.ownsRow W1.heap.size 61 7 (.slice Ar j cr) j (((rr.take j).map lostM).flatMap encRep)) := by rw [hW2]; exact Lib.hid (HOWJ.out.alloc _)
          have HU2 : Hid (Upd [] wr W2) := by rw [hW2]; exact Lib.hid ((Upd.refl [] wr).alloc _)
          have x2 : W2.cell? ⟨Y, 2, none⟩ = some (.int .u32 q2) := hYB.cell 2
          have f2 : W2.frozen? ⟨Y, 2, none⟩ = false := hYB.frozen 2
          have HYW : Hid (wr.heap.size ≤ Y ∧ W1.heap.size ≤ Y) := Lib.hid ⟨by rw [hYe]; exact Nat.le_refl _, by rw [hYe]; exact HUJ.out.size⟩
          have HYN : Hid (∀ s, (Value.slice Ar j cr).ownBlock = some s → s < Y) := Lib.hid (fun s hs => by rw [hYe]; exact (own_block_lt HOWJ.out hs).2)
          have HYB := Lib.hid hYB
          clear hW2 hYe hYB c0 c1 c2 c3 c4 c5 c6 b7
          go_upto_region 21 with fail
          obtain ⟨W3, hW3⟩ : ∃ W3, W3 = W2.setCell ⟨Y, 2, none⟩ (.int .u32 y) := ⟨_, rfl⟩
          rw [← hW3]
          have hYB : Blk W3 Y 61 #[.int .u32 q0, .int .u8 q1, .int .u32 y, .int .u32 q3, .int .u32 q4, .int .u32 q5, .int .u32 q6] := by rw [hW3]; exact HYB.out.store 2 (.int .u32 y)
          have HOW3 : Hid (W3.ownsRow W1.heap.size 61 7 (.slice Ar j cr) j (((rr.take j).map lostM).flatMap encRep)) := by
            rw [hW3]
            exact Lib.hid (ownsRow_setCell_other HOW2.out (a := ⟨Y, 2, none⟩) (fun e => absurd (HYN.out _ e) (Nat.lt_irrefl _)) _)
          have HU3 : Hid (Upd [] W1 W3) := by rw [hW3]; exact Lib.hid ((HUJ.out.next HU2.out).setCell (.inr HYW.out.2) _)
          have d0 : W3.cell? ⟨Y, 0, none⟩ = some (.int .u32 q0) := hYB.cell 0
          have d1 : W3.cell? ⟨Y, 1, none⟩ = some (.int .u8 q1) := hYB.cell 1
          have d2 : W3.cell? ⟨Y, 2, none⟩ = some (.int .u32 y) := hYB.cell 2
          have d3 : W3.cell? ⟨Y, 3, none⟩ = some (.int .u32 q3) := hYB.cell 3
          have d4 : W3.cell? ⟨Y, 4, none⟩ = some (.int .u32 q4) := hYB.cell 4
          have d5 : W3.cell? ⟨Y, 5, none⟩ = some (.int .u32 q5) := hYB.cell 5
          have d6 : W3.cell? ⟨Y, 6, none⟩ = some (.int .u32 q6) := hYB.cell 6
          obtain ⟨ys, hys⟩ : ∃ ys, ys = ((rr.take j).map lostM).flatMap encRep := ⟨_, rfl⟩
          rw [← hys] at HOW3
          have HYS := Lib.hid hys
          have HOA := Lib.hid (HOW3.out.alloc (.cells #[.int .u32 q0, .int .u8 q1, .int .u32 y, .int .u32 q3, .int .u32 q4, .int .u32 q5, .int .u32 q6] 61))
          have HNEW := Lib.hid (blk_src (Blk.new W3 61 #[.int .u32 q0, .int .u8 q1, .int .u32 y, .int .u32 q3, .int .u32 q4, .int .u32 q5, .int .u32 q6]))
          have HONE : Hid (∀ u ∈ ([.int .u32 q0, .int .u8 q1, .int .u32 y, .int .u32 q3, .int .u32 q4, .int .u32 q5, .int .u32 q6] : List Value), u.oneCell' = true) := Lib.hid (by intro u hu; repeat (first | (rcases List.mem_cons.1 hu with rfl | hu; · rfl) | cases hu))
          have HUA3 := Lib.hid (HU3.out.alloc (.cells #[.int .u32 q0, .int .u8 q1, .int .u32 y, .int .u32 q3, .int .u32 q4, .int .u32 q5, .int .u32 q6] 61))
          have HJ60 : Hid (j ≤ 60) := Lib.hid (by have := HNR.out; omega)
          clear hW3 hYB hys HOWJ HUJ HOW2 HU2 HOW3 HU3 x2 f2 HYB
          go_wp2_with (at_builtin; refine wpList_append_own_at _ rfl (.tmp 75) (.tmp 77) 45 rfl W1.heap.size 61 j1 _ 7 28 Try.underlying45 hj1 hz0 hz1 hz2 rfl (by decide) (.slice Ar j cr) j ys rfl HOA.out ⟨W3.heap.size, 0, none⟩ 1 1 [.int .u32 q0, .int .u8 q1, .int .u32 y, .int .u32 q3, .int .u32 q4, .int .u32 q5, .int .u32 q6] rfl rfl HNEW.out HONE.out (by have := HJ60.out; unfold maxLen; omega) (by have := HJ60.out; omega) HUA3.out.size ?_)
          intro v8 w8 hown8 hg8 _ hat8
          have HU8 := Lib.hid (app_upd HUA3.out HOA.out hg8 (Nat.le_refl _))
          obtain ⟨A8, c8, hv8, -⟩ := own_form hown8
          subst hv8
          have HOW8 := Lib.hid hown8
          clear hown8 hg8 hat8 HOA HNEW HONE HUA3
          go_wp2
          go_roundg (gk - 1)
          case measure => omega
          case rel =>
            refine ⟨j + 1, by omega, by omega, by go_num, ?_, HU8.out⟩
            have := HOW8.out
            rw [HYS.out] at this
            rw [List.take_add_one, HQJ.out]
            simpa [lostM, HY.out, encRep] using this
        ·
          have hjr : j = rr.length := by omega
          subst j
          rw [List.take_length] at hown
          have hbb := HBB.out.upd hu (by simp)
          have f7 := hbb.frozen 7
          obtain ⟨wx, rfl⟩ : ∃ W0 : World, W0 = wr := ⟨_, rfl⟩
          have HBX := Lib.hid hbb
          have HOX := Lib.hid hown
          have HUX := Lib.hid hu
          clear hbb hown hu hgj hj hjt
          go_upto_region 23 with fail
          obtain ⟨W2, hW2⟩ : ∃ W2, W2 = wx.setCell ⟨B, 7, none⟩ (.slice Ar rr.length cr) := ⟨_, rfl⟩
          rw [← hW2]
          have hbb : Blk W2 B 50 #[.int .i64 k0, .int .u32 n1, .int .u32 n2, .int .u64 n3, .int .u32 n4, .int .u32 n5, .int .u32 n6, .slice Ar rr.length cr, .slice dW nw.length cW, .slice dP np.length cP, .slice dA nq.length cA, .int .u8 nt] := by rw [hW2]; exact HBX.out.store 7 (.slice Ar rr.length cr)
          have hown2 : W2.ownsRow W1.heap.size 61 7 (.slice Ar rr.length cr) rr.length ((rr.map lostM).flatMap encRep) := by
            rw [hW2]
            exact ownsRow_setCell_other HOX.out (a := ⟨B, 7, none⟩) (fun e => by have h1 : W1.heap.size ≤ B := (own_block_lt HOX.out e).1; have h2 := HBA.out.2; omega) _
          have hu2 : Upd [] wa W2 := by rw [hW2]; exact (HUA.out.next HUX.out).setCell (.inr HBA.out.1) _
          have hu5 : Upd [B] W1 W2 := by rw [hW2]; exact (HUX.out.more (by simp)).setCell (.inl (by simp)) _
          have d0 : W2.cell? ⟨B, 0, none⟩ = some (.int .i64 k0) := hbb.cell 0
          have d1 : W2.cell? ⟨B, 1, none⟩ = some (.int .u32 n1) := hbb.cell 1
          have d2 : W2.cell? ⟨B, 2, none⟩ = some (.int .u32 n2) := hbb.cell 2
          have d3 : W2.cell? ⟨B, 3, none⟩ = some (.int .u64 n3) := hbb.cell 3
          have d4 : W2.cell? ⟨B, 4, none⟩ = some (.int .u32 n4) := hbb.cell 4
          have d5 : W2.cell? ⟨B, 5, none⟩ = some (.int .u32 n5) := hbb.cell 5
          have d6 : W2.cell? ⟨B, 6, none⟩ = some (.int .u32 n6) := hbb.cell 6
          have d7 : W2.cell? ⟨B, 7, none⟩ = some (.slice Ar rr.length cr) := hbb.cell 7
          have d8 : W2.cell? ⟨B, 8, none⟩ = some (.slice dW nw.length cW) := hbb.cell 8
          have d9 : W2.cell? ⟨B, 9, none⟩ = some (.slice dP np.length cP) := hbb.cell 9
          have d10 : W2.cell? ⟨B, 10, none⟩ = some (.slice dA nq.length cA) := hbb.cell 10
          have d11 : W2.cell? ⟨B, 11, none⟩ = some (.int .u8 nt) := hbb.cell 11
          obtain ⟨O, hO⟩ : ∃ O, O = Obj.cells #[.int .i64 k0, .int .u32 n1, .int .u32 n2, .int .u64 n3, .int .u32 n4, .int .u32 n5, .int .u32 n6, .slice Ar rr.length cr, .slice dW nw.length cW, .slice dP np.length cP, .slice dA nq.length cA, .int .u8 nt] 50 := ⟨_, rfl⟩
          have hu2a := hu2.alloc O
          have hu5a := hu5.alloc O
          have hlo : w3.heap.size ≤ wa.heap.size := HUR.out.size
          have hlo1 : wa.heap.size ≤ W1.heap.size := HUA.out.size
          have hrn : RfIn (W2.alloc O) wa.heap.size ⟨k0, n1, n2, n3, n4, n5, n6, rr.map lostM, nw, np, nq, nt⟩ ⟨Ar, cr, dW, cW, dP, cP, dA, cA⟩ := by
            refine ⟨?_, ?_, ?_, ?_⟩
            · have := (CellsIn.of_own (hown2.alloc O)).lower hlo1
              simpa using this
            · exact (HRF.out.cw.upd2 hu5a (Nat.le_refl _) (fun s hs hn a ha e => by
                rw [List.mem_singleton] at hs
                subst hs
                have h1 := HWD.out a ha hn
                have h2 := HSZ.out
                have h3 := HBA.out.1
                omega)).more (Nat.le_refl _) hu5a.size
            · exact (HRF.out.cp.upd2 hu5a (Nat.le_refl _) (fun s hs hn a ha e => by
                rw [List.mem_singleton] at hs
                subst hs
                have h1 := HRF5.out.cp.below_hi hn a ha
                have h2 := HBE.out
                omega)).more (Nat.le_refl _) hu5a.size
            · exact (HRF.out.ca.upd2 hu5a (Nat.le_refl _) (fun s hs hn a ha e => by
                rw [List.mem_singleton] at hs
                subst hs
                have h1 := HRF5.out.ca.below_hi hn a ha
                have h2 := HBE.out
                omega)).more (Nat.le_refl _) hu5a.size
          have HRN := Lib.hid (And.intro (hrn.same (Upd.refl [] _) hlo) (And.intro (hrn.off_old (.slice Av i cv) (N := w3.heap.size) HNB.out (fun a ha hn => by have h1 := HWD.out a ha hn; have h2 := HSZ.out; omega)) (show ∀ a, dW = some a → 0 < nw.length → a.block < w.heap.size from HWD.out)))
          have HOA := Lib.hid (ownsRow_upd HOW.out hu2a (by simp))
          have HU2 := Lib.hid (HUR.out.next hu2a)
          have HI2 := Lib.hid (fun x hx => (⟨(HINR.out x hx).1.same hu2a (Nat.le_refl _), (HINR.out x hx).2⟩ : RfIn (W2.alloc O) w3.heap.size x.1 x.2 ∧ Off (.slice Av i cv) x.1 x.2 ∧ (∀ a, x.2.wA = some a → 0 < x.1.who.length → a.block < w.heap.size)))
          have HNEW : Hid (∀ (j : Nat) (u : Value), ([.int .i64 k0, .int .u32 n1, .int .u32 n2, .int .u64 n3, .int .u32 n4, .int .u32 n5, .int .u32 n6, .slice Ar rr.length cr, .slice dW nw.length cW, .slice dP np.length cP, .slice dA nq.length cA, .int .u8 nt] : List Value)[j]? = some u → (W2.alloc O).cell? ((⟨W2.heap.size, 0, none⟩ : Addr).add j) = some u) := by
            rw [hO]
            exact Lib.hid (blk_src (Blk.new W2 50 #[.int .i64 k0, .int .u32 n1, .int .u32 n2, .int .u64 n3, .int .u32 n4, .int .u32 n5, .int .u32 n6, .slice Ar rr.length cr, .slice dW nw.length cW, .slice dP np.length cP, .slice dA nq.length cA, .int .u8 nt]))
          have HONE : Hid (∀ u ∈ ([.int .i64 k0, .int .u32 n1, .int .u32 n2, .int .u64 n3, .int .u32 n4, .int .u32 n5, .int .u32 n6, .slice Ar rr.length cr, .slice dW nw.length cW, .slice dP np.length cP, .slice dA nq.length cA, .int .u8 nt] : List Value), u.oneCell' = true) := Lib.hid (by intro u hu; repeat (first | (rcases List.mem_cons.1 hu with rfl | hu; · rfl) | cases hu))
          subst hO
          clear hW2 hbb hown2 hu2 hu5 hu2a hu5a hlo hlo1 hrn HBX HOX HUX b7 f7
          go_wp2_with (at_builtin; refine wpList_append_own_at _ rfl (.tmp 81) (.tmp 83) 31 rfl w3.heap.size 50 j0 _ 12 144 Try.underlying31 hj0 hy0 hy1 hy2 rfl (by decide) (.slice Av i cv) i (out.flatMap encM) rfl HOA.out ⟨W2.heap.size, 0, none⟩ 1 1 [.int .i64 k0, .int .u32 n1, .int .u32 n2, .int .u64 n3, .int .u32 n4, .int .u32 n5, .int .u32 n6, .slice Ar rr.length cr, .slice dW nw.length cW, .slice dP np.length cP, .slice dA nq.length cA, .int .u8 nt] rfl rfl HNEW.out HONE.out (by unfold maxLen; omega) (by omega) HU2.out.size ?_)
          intro v8 w8 hown8 hg8 _ hat8
          have HREL := Lib.hid (all_rel2 (C := fun x => ∀ a, x.2.wA = some a → 0 < x.1.who.length → a.block < w.heap.size) HU2.out HOA.out HIE.out HI2.out HRN.out (by simpa [encM, mcells] using hown8) hg8 (by rw [World.size_alloc]; exact hat8))
          obtain ⟨A8, c8, hv8, -⟩ := own_form hown8
          subst hv8
          clear hown8 hg8 hat8 HOA HI2 HRN HNEW HONE HU2 d0 d1 d2 d3 d4 d5 d6 d7 d8 d9 d10 d11
          go_wp2
          go_roundg (gA - 1)
          case measure => omega
          case rel =>
            refine ⟨_, ?_, ?_, ?_, ?_, HREL.out⟩
            · rw [List.length_append, ← HIE.out]; simp; omega
            · rw [List.length_append, ← HIE.out]; simp; omega
            · rw [List.length_append, ← HIE.out]; go_num
            · rw [List.length_append, ← HIE.out, List.map_append, HMAP.out]
              show _ = ((ms.take (i + 1)).map (·.1)).map backM
              rw [List.take_add_one, HXI.out]
              simp [HBK.out]
    · have hiL : i = L := by omega
      obtain rfl : L = i := hiL.symm
      obtain ⟨w6, rfl⟩ : ∃ W0 : World, W0 = wa := ⟨_, rfl⟩
      rw [List.take_of_length_le (by rw [← HLE.out]; exact Nat.le_refl _)] at hmap
      have HX6 := Lib.hid (ownsRow_upd HX3.out hu (by simp))
      have hmsne : ms.map (·.1) ≠ [] := by
        intro h
        have := congrArg List.length h
        rw [List.length_map, ← HLE.out] at this
        simp at this
        omega
      have HBX : Hid (Byt X) := Lib.hid (by rw [HXS.out]; exact msgsB_byt HIS.out)
      have HISN : Hid (∀ m, m ∈ ms.map (·.1) → (bodyM m).is = true ∧ m.Num) := Lib.hid (fun m hm => ⟨HIS.out m hm, by obtain ⟨x, hx, rfl⟩ := List.mem_map.1 hm; exact (HM3.out x hx).2.2⟩)
      have hpx := parse_exact hmsne HISN.out (by rw [← HXS.out, ← HLX.out]; exact hLXb)
      rw [← HXS.out] at hpx
      have hox := HX6.out
      rw [HLX.out] at hox
      have HPA := Lib.hid (parse_any (RowIn.of_own hox) (by dsimp only; rw [← HLX.out]; omega) HBX.out)
      unfold encR at HPA
      dsimp only at HPA
      rw [hpx, ← HLX.out] at HPA
      dsimp only at HPA
      have HLN : Hid (∀ x, x ∈ (ms.map (·.1)).map backM → x.Num ∧ (x.reports.length ≤ 60 ∧ x.who.length ≤ 60 ∧ x.pairs.length ≤ 60 ∧ x.asks.length ≤ 60)) := Lib.hid (fun x hx => by
        obtain ⟨m, hm, rfl⟩ := List.mem_map.1 hx
        obtain ⟨y, hy, rfl⟩ := List.mem_map.1 hm
        have hb := back_len y.1
        have ho := (HM3.out y hy).2.1
        have o1 := ho.nr
        have o2 := ho.nw
        have o3 := ho.np
        have o4 := ho.na
        exact ⟨back_num (HM3.out y hy).2.2, by omega, by omega, by omega, by omega⟩)
      have HLO : Hid (∀ (zs : List (Mg × Hd)), zs.map (·.1) = (ms.map (·.1)).map backM → zs.length = L ∧ ∀ x, x ∈ zs → x.1.Num ∧ (x.1.reports.length ≤ 60 ∧ x.1.who.length ≤ 60 ∧ x.1.pairs.length ≤ 60 ∧ x.1.asks.length ≤ 60)) := Lib.hid (fun zs hz => ⟨by
        have := congrArg List.length hz
        simpa [← HLE.out] using this, fun x hx => HLN.out _ (by rw [← hz]; exact List.mem_map.2 ⟨x, hx, rfl⟩)⟩)
      have HW6 := Lib.hid hown
      have HIN6 := Lib.hid hin
      have HU6 := Lib.hid hu
      have HMAP := Lib.hid hmap
      clear hown hin hu hmap hmsne hpx hox hgi hi hlt
      go_wp2_with fail
      refine HPA.out.mono ?_
      rintro e w7 ⟨vy, oy, rfl, hmy, hoy, hgy, hu7⟩
      obtain ⟨Ay, cy, hvy, -⟩ := own_form hoy
      subst hvy
      obtain ⟨hly, hny⟩ := HLO.out oy hmy
      have HAL := Lib.hid (all_any (cap := cy) (CellsIn.of_own hoy) (fun x hx => by
        have := hny x hx
        exact ⟨hgy x hx, this.1, by omega, by omega, by omega⟩) (by omega))
      rw [hly] at HAL ⊢
      have HMY := Lib.hid hmy
      have HU7 := Lib.hid hu7
      clear hoy hgy hu7 hmy hny hly HPA
      go_wp2_with fail
      refine HAL.out.mono ?_
      rintro e w8 ⟨va, oa, rfl, hma, hoa, hra, hu8⟩
      obtain ⟨Aa, ca, hva, -⟩ := own_form hoa
      subst hva
      have hma' := hma.trans HMY.out
      obtain ⟨hla, hna⟩ := HLO.out oa hma'
      obtain ⟨hlo, hno⟩ := HLO.out out HMAP.out
      have hw8 := ownsRow_upd HW6.out (HU7.out.next hu8) (by simp)
      rw [← hlo] at hw8
      have HSM := Lib.hid (same_rows (ca := ca) (cb := cv) ((CellsIn.of_own hoa).lower (Nat.zero_le _)) ((CellsIn.of_own hw8).lower (Nat.zero_le _)) (hma'.trans HMAP.out.symm) (by omega) (fun x hx => (hra x hx).c (hna x hx).2) (fun x hx => ((HIN6.out x hx).1.same (HU7.out.next hu8) (Nat.zero_le _)).c (hno x hx).2))
      rw [hla, hlo] at HSM
      rw [hla]
      have HU8 := Lib.hid (HU7.out.next hu8)
      have HNO := Lib.hid hno
      have HLOO := Lib.hid hlo
      clear hma hoa hra hu8 hma' hla hna hlo hno hw8 HAL HU7 HMY
      go_wp2_with fail
      refine HSM.out.mono ?_
      rintro e w9 ⟨rfl, hu9⟩
      have HU69 := Lib.hid (HU8.out.next hu9)
      have HU9 := Lib.hid (HU6.out.next HU69.out)
      clear hu9 HSM HU8
      obtain ⟨ini, m0, h0, hms⟩ : ∃ ini m0 h0, ms = ini ++ [(m0, h0)] := by
        rcases List.eq_nil_or_concat ms with h | ⟨ini, x, h⟩
        · have := HLE.out
          rw [h] at this
          simp at this
          omega
        · exact ⟨ini, x.1, x.2, by rw [h, List.concat_eq_append]⟩
      obtain ⟨K, hK⟩ : ∃ K, K = ini.length := ⟨_, rfl⟩
      have hLK : L = K + 1 := by rw [HLE.out, hms, hK]; simp
      have hKL : (K : Int) < (L : Int) := by omega
      have hK0 : (0 : Int) ≤ (K : Int) := by omega
      have hKe : (L : Int) - 1 = (K : Int) := by omega
      have hKw : IntKind.i64.wrap (K : Int) = (K : Int) := IntWalk.i64_in _ (by omega)
      have hmk : ms[K]? = some (m0, h0) := by rw [hms, hK]; simp
      obtain ⟨hmi, hok, hnum⟩ := HM3.out (m0, h0) (List.mem_of_getElem? hmk)
      obtain ⟨b, off, rfl, hb1, hb2, hcc⟩ := HC3.out.2 (by rw [← HLE.out]; omega)
      have hb3 : b < w3.heap.size := by have := HSZ.out; omega
      have hu := HU9.out
      have c0 := (hu.cell (p := ⟨b, off + (K * 12 + 0), none⟩) hb3 (by simp)).trans (hcc (K * 12 + 0) _ (flat_get encM_len ms K 0 _ hmk (by omega)))
      have c1 := (hu.cell (p := ⟨b, off + (K * 12 + 1), none⟩) hb3 (by simp)).trans (hcc (K * 12 + 1) _ (flat_get encM_len ms K 1 _ hmk (by omega)))
      have c2 := (hu.cell (p := ⟨b, off + (K * 12 + 2), none⟩) hb3 (by simp)).trans (hcc (K * 12 + 2) _ (flat_get encM_len ms K 2 _ hmk (by omega)))
      have c3 := (hu.cell (p := ⟨b, off + (K * 12 + 3), none⟩) hb3 (by simp)).trans (hcc (K * 12 + 3) _ (flat_get encM_len ms K 3 _ hmk (by omega)))
      have c4 := (hu.cell (p := ⟨b, off + (K * 12 + 4), none⟩) hb3 (by simp)).trans (hcc (K * 12 + 4) _ (flat_get encM_len ms K 4 _ hmk (by omega)))
      have c5 := (hu.cell (p := ⟨b, off + (K * 12 + 5), none⟩) hb3 (by simp)).trans (hcc (K * 12 + 5) _ (flat_get encM_len ms K 5 _ hmk (by omega)))
      have c6 := (hu.cell (p := ⟨b, off + (K * 12 + 6), none⟩) hb3 (by simp)).trans (hcc (K * 12 + 6) _ (flat_get encM_len ms K 6 _ hmk (by omega)))
      have c7 := (hu.cell (p := ⟨b, off + (K * 12 + 7), none⟩) hb3 (by simp)).trans (hcc (K * 12 + 7) _ (flat_get encM_len ms K 7 _ hmk (by omega)))
      have c8 := (hu.cell (p := ⟨b, off + (K * 12 + 8), none⟩) hb3 (by simp)).trans (hcc (K * 12 + 8) _ (flat_get encM_len ms K 8 _ hmk (by omega)))
      have c9 := (hu.cell (p := ⟨b, off + (K * 12 + 9), none⟩) hb3 (by simp)).trans (hcc (K * 12 + 9) _ (flat_get encM_len ms K 9 _ hmk (by omega)))
      have c10 := (hu.cell (p := ⟨b, off + (K * 12 + 10), none⟩) hb3 (by simp)).trans (hcc (K * 12 + 10) _ (flat_get encM_len ms K 10 _ hmk (by omega)))
      have c11 := (hu.cell (p := ⟨b, off + (K * 12 + 11), none⟩) hb3 (by simp)).trans (hcc (K * 12 + 11) _ (flat_get encM_len ms K 11 _ hmk (by omega)))
      simp only [encM, mcells, List.getElem?_cons_zero, List.getElem?_cons_succ, List.getElem_cons_zero, List.getElem_cons_succ, ← Nat.add_assoc, Nat.add_zero] at c0 c1 c2 c3 c4 c5 c6 c7 c8 c9 c10 c11
      obtain ⟨W4, hW4⟩ : ∃ W4, W4 = w9.alloc (.cells #[.int .i64 m0.kind, .int .u32 m0.ssrc, .int .u32 m0.media, .int .u64 m0.clock, .int .u32 m0.time, .int .u32 m0.packets, .int .u32 m0.bytes, .slice h0.rA m0.reports.length h0.rc, .slice h0.wA m0.who.length h0.wc, .slice h0.pA m0.pairs.length h0.pc, .slice h0.aA m0.asks.length h0.ac, .int .u8 m0.type] 59) := ⟨_, rfl⟩
      have hu4 : Upd [] w9 W4 := by rw [hW4]; exact (Upd.refl [] w9).alloc _
      have hB4 : Blk W4 w9.heap.size 59 #[.int .i64 m0.kind, .int .u32 m0.ssrc, .int .u32 m0.media, .int .u64 m0.clock, .int .u32 m0.time, .int .u32 m0.packets, .int .u32 m0.bytes, .slice h0.rA m0.reports.length h0.rc, .slice h0.wA m0.who.length h0.wc, .slice h0.pA m0.pairs.length h0.pc, .slice h0.aA m0.asks.length h0.ac, .int .u8 m0.type] := by rw [hW4]; exact Blk.new _ _ _
      have HP1 := Lib.hid (put_any (w := W4) (lo := 0) (A := some ⟨w9.heap.size, 0, none⟩) (cap := 1) (ms := [(m0, h0)]) (hB4.cells rfl rfl) (by
        intro x hx; rw [List.mem_singleton] at hx; subst hx
        exact ⟨hmi.same (HU9.out.next hu4) (Nat.le_refl _), hok⟩) (by simp))
      simp only [List.map_cons, List.map_nil, List.length_cons, List.length_nil, Nat.zero_add] at HP1
      have his0 := (HISN.out m0 (List.mem_map.2 ⟨_, List.mem_of_getElem? hmk, rfl⟩)).1
      obtain ⟨pre, hpre⟩ : ∃ pre, pre = (ini.map (·.1)).flatMap msgB := ⟨_, rfl⟩
      have hXp : X = pre ++ msgB m0 := by rw [HXS.out, hms, hpre]; simp
      obtain ⟨LL, hLL⟩ : ∃ LL, LL = (msgB m0).length := ⟨_, rfl⟩
      obtain ⟨P, hP⟩ : ∃ P, P = pre.length := ⟨_, rfl⟩
      have hLXs : LX = P + LL := by rw [HLX.out, hXp, hP, hLL, List.length_append]
      have h1 : putM [m0] = (msgB m0, 0) := by
        have e : [m0].flatMap msgB = msgB m0 := by simp
        have := putM_of (ms := [m0]) (fun m hm => by rw [List.mem_singleton] at hm; subst hm; exact his0) (by rw [e, ← hLL]; omega)
        rw [e] at this
        exact this
      rw [h1] at HP1
      dsimp only at HP1
      rw [← hLL] at HP1
      obtain ⟨g9, hg9⟩ : ∃ g9, g9 = w9.heap.size := ⟨_, rfl⟩
      rw [← hg9] at HP1
      have HX4 := Lib.hid (ownsRow_upd HX6.out (HU69.out.next hu4) (by simp))
      have HU4 := Lib.hid (HU69.out.next hu4)
      have HPRE := Lib.hid hpre
      have HXP := Lib.hid hXp
      have HLL := Lib.hid hLL
      have HPP := Lib.hid hP
      have HLXS := Lib.hid hLXs
      have HI0 := Lib.hid his0
      have HN0 := Lib.hid hnum
      have HMS := Lib.hid hms
      clear hcc hu hmi hok hnum hu4 hB4 his0 hpre hXp hLL hP hLXs h1 hms hK hmk hLK hb1 hb2 hb3 HX6 HX3
      go_wp2_with fail
      rw [← hg9, ← hW4]
      refine HP1.out.mono ?_
      rintro e w11 ⟨v1, rfl, hown1, hb11⟩
      obtain ⟨A1, cp1, hv1, -⟩ := own_form hown1
      subst hv1
      have HU11 := Lib.hid (HU4.out.next (Upd.of_below hb11))
      have HX11 := Lib.hid (ownsRow_upd HX4.out (Upd.of_below (S := []) hb11) (by simp))
      clear hown1 hb11 HP1 HX4 HU4 hW4 hg9 c0 c1 c2 c3 c4 c5 c6 c7 c8 c9 c10 c11
      obtain ⟨q8, hq8⟩ : ∃ q8 : Nat, (q8 : Int) = pad % 8 := ⟨(pad % 8).toNat, by omega⟩
      have hq7 : q8 ≤ 7 := by omega
      have hpt : Int.tmod pad 8 = (q8 : Int) := by rw [Int.tmod_eq_emod_of_nonneg hp0]; exact hq8.symm
      have hpm : pad % 8 = (q8 : Int) := hq8.symm
      obtain ⟨N, hN⟩ : ∃ N : Nat, N = 4 + 4 * q8 := ⟨_, rfl⟩
      have hNi : (4 : Int) + 4 * (q8 : Int) = (N : Int) := by omega
      have hN4 : 4 ≤ N := by omega
      have hN32 : N ≤ 32 := by omega
      have hLXs := HLXS.out
      have hat : (LX : Int) - (LL : Int) = (P : Int) := by omega
      obtain ⟨bs, hbs⟩ : ∃ bs, bs = bytesOf (bodyM m0).ps := ⟨_, rfl⟩
      have hsh : msgB m0 = (128 + ((bodyM m0).n : Int)) :: (bodyM m0).t :: ((bs.length : Int) / 4 / 256 % 256) :: ((bs.length : Int) / 4 % 256) :: bs := by rw [hbs]; rfl
      have hLLb : LL = bs.length + 4 := by rw [HLL.out, hsh]; simp
      have hLL4 : (4 : Int) ≤ (LL : Int) := by omega
      have hLL4' : ¬ (LL : Int) < 4 := by omega
      have HN := Lib.hid hN
      have HSH := Lib.hid hsh
      have HBS := Lib.hid hbs
      have HLLB := Lib.hid hLLb
      have hPb : P ≤ 1500 := by omega
      have hLLc : LL ≤ 1500 := by omega
      clear hLXs hN hsh hbs hLLb hq8
      by_cases hbig : 1500 < (LX : Int) + (N : Int)
      · have hbel := Lib.hid ((HU3.out.next (HU6.out.next HU11.out)).below (B := w.heap.size) (Nat.le_refl _) (by simp))
        clear HX11
        go_wp2
        exact bodyPost_res (v := .bool true) (by simp [results, Try.results5, go_sem]) rfl ⟨rfl, hbel.out⟩
      have hbig' : LX + N ≤ 1500 := by omega
      obtain ⟨g, hg, hg1, hg2⟩ := HAB.out (by have := HLXS.out; have := HLLB.out; omega)
      subst hg
      obtain ⟨n0, hn0⟩ : ∃ n0, n0 = (bodyM m0).n := ⟨_, rfl⟩
      obtain ⟨ty, hty⟩ : ∃ ty, ty = (bodyM m0).t := ⟨_, rfl⟩
      obtain ⟨z0, hz0e⟩ : ∃ z0 : Int, z0 = 128 + (n0 : Int) := ⟨_, rfl⟩
      obtain ⟨z2, hz2e⟩ : ∃ z2 : Int, z2 = (bs.length : Int) / 4 / 256 % 256 := ⟨_, rfl⟩
      obtain ⟨z3, hz3e⟩ : ∃ z3 : Int, z3 = (bs.length : Int) / 4 % 256 := ⟨_, rfl⟩
      have hn31 : n0 ≤ 31 := by rw [hn0]; exact body_n HI0.out
      have hx11 := HX11.out
      rw [HXP.out, HSH.out, ← hn0, ← hty, ← hz0e, ← hz2e, ← hz3e] at hx11
      obtain ⟨S, hS⟩ : ∃ S : Int, S = ((bs.length + N : Nat) : Int) / 4 := ⟨_, rfl⟩
      have hLB := HLLB.out
      have hNN := HN.out
      have hfb : bs.length % 4 = 0 := by rw [HBS.out]; exact body_four m0
      have hSb : 0 ≤ S ∧ S ≤ 400 := by omega
      have hz2b : 0 ≤ z2 ∧ z2 ≤ 255 := by omega
      have hz3b : 0 ≤ z3 ∧ z3 ≤ 255 := by omega
      have hz0b : 128 ≤ z0 ∧ z0 ≤ 159 := by omega
      have hsum : 256 * z2 + z3 + ((q8 : Int) + 1) = S := by omega
      have hNd : Int.tdiv (N : Int) 4 = (q8 : Int) + 1 := by rw [Int.tdiv_eq_ediv_of_nonneg (by omega)]; omega
      have hNd' : (N : Int) / 4 = (q8 : Int) + 1 := by omega
      obtain ⟨s2, hs2⟩ : ∃ s2 : Int, s2 = S / 256 := ⟨_, rfl⟩
      obtain ⟨s3, hs3⟩ : ∃ s3 : Int, s3 = S % 256 := ⟨_, rfl⟩
      have hs2b : 0 ≤ s2 ∧ s2 ≤ 255 := by omega
      have hs3b : 0 ≤ s3 ∧ s3 ≤ 255 := by omega
      have hSt : Int.tdiv S 256 = s2 := by rw [Int.tdiv_eq_ediv_of_nonneg hSb.1]; exact hs2.symm
      have hSt' : S / 256 = s2 := hs2.symm
      have hSm : Int.tmod S 256 = s3 := by rw [Int.tmod_eq_emod_of_nonneg hSb.1]; exact hs3.symm
      have hSm' : S % 256 = s3 := hs3.symm
      obtain ⟨P2, hP2⟩ : ∃ P2, P2 = P + 2 := ⟨_, rfl⟩
      obtain ⟨P3, hP3⟩ : ∃ P3, P3 = P + 3 := ⟨_, rfl⟩
      have hP2i : (P : Int) + 2 = (P2 : Int) := by omega
      have hP3i : (P : Int) + 3 = (P3 : Int) := by omega
      have hPL : (P : Int) < (LX : Int) := by have := HLXS.out; omega
      have hP2L : (P2 : Int) < (LX : Int) := by have := HLXS.out; omega
      have hP3L : (P3 : Int) < (LX : Int) := by have := HLXS.out; omega
      have hP2b : P2 ≤ 1502 := by omega
      have hP3b : P3 ≤ 1503 := by omega
      obtain ⟨x0, x2, x3⟩ := head_cells hx11
      rw [← HPP.out] at x0 x2 x3
      rw [← hP2] at x2
      rw [← hP3] at x3
      have HX11' := Lib.hid hx11
      have HS := Lib.hid hS
      have HS2 := Lib.hid hs2
      have HS3 := Lib.hid hs3
      have HN0' := Lib.hid hn0
      have HTY := Lib.hid hty
      have HZ0 := Lib.hid hz0e
      have HZ2 := Lib.hid hz2e
      have HZ3 := Lib.hid hz3e
      have HP2 := Lib.hid hP2
      have HP3 := Lib.hid hP3
      have HG := Lib.hid (And.intro hg1 hg2)
      clear hx11 HX11 hS hs2 hs3 hn0 hty hz0e hz2e hz3e hP2 hP3 hg1 hg2 hLB hNN hfb hn31
      go_upto_region 32 with fail
      go_cut [21] (fun s21 wd => s21 = .int .i64 S ∧ Upd [] w11 wd)
      case first =>
        go_quiet (fail)
        go_wp2
        go_meet
        case rel => exact ⟨rfl, (Upd.refl [] w11).drewN _⟩
      case rest =>
       as_aux_lemma =>
        obtain ⟨rfl, hu12⟩ := hcut
        obtain ⟨w12, rfl⟩ : ∃ W0 : World, W0 = wc := ⟨_, rfl⟩
        have hx12 := ownsRow_upd HX11'.out hu12 (by simp)
        obtain ⟨y0, y2, y3⟩ := head_cells hx12
        have fz := hx12.frozenAt
        rw [← HPP.out] at y0 y2 y3
        rw [← HP2.out] at y2
        rw [← HP3.out] at y3
        have HU12 := Lib.hid (HU11.out.next hu12)
        have HX12 := Lib.hid hx12
        have fP : w12.frozen? ⟨g, P, none⟩ = false := by
          by_cases h0 : P = 0
          · rw [h0]; exact fz 0
          · have := fz P; simpa [Addr.add, h0] using this
        clear hx12 hu12 x0 x2 x3 HU11 HX11' fz
        have hz32 : IntKind.u8.wrap (z0 + 32) = z0 + 32 := IntWalk.u8_in _ (by omega)
        have hs2w : IntKind.u8.wrap s2 = s2 := IntWalk.u8_in _ (by omega)
        have hs3w : IntKind.u8.wrap s3 = s3 := IntWalk.u8_in _ (by omega)
        have hNw : IntKind.u8.wrap (N : Int) = (N : Int) := IntWalk.u8_in _ (by omega)
        obtain ⟨N1, hN1⟩ : ∃ N1, N1 = N - 1 := ⟨_, rfl⟩
        have hN1i : (N : Int) - 1 = (N1 : Int) := by omega
        have hN1l : (N1 : Int) < (N : Int) := by omega
        have HN1 : Hid (N = N1 + 1 ∧ N1 ≤ 31) := Lib.hid (by omega)
        clear hN1
        go_upto_region 34 with fail
        obtain ⟨w13, hw13⟩ : ∃ w13, w13 = w12.setCell ⟨g, P, none⟩ (.int .u8 (z0 + 32)) := ⟨_, rfl⟩
        rw [← hw13]
        have hx13 : w13.ownsRow w2.heap.size 5 1 (.slice (some ⟨g, 0, none⟩) LX cb) LX ((pre ++ (z0 + 32) :: ty :: z2 :: z3 :: bs).map (Value.int .u8)) := by rw [hw13, HPP.out]; exact (head_set HX12.out (z0 + 32)).1
        have HU13 : Hid (Upd [g] w12 w13) := by rw [hw13]; exact Lib.hid ((Upd.refl _ _).setCell (.inl (by simp)) _)
        have y2' : w13.cell? ⟨g, P2, none⟩ = some (.int .u8 z2) := by rw [HP2.out, HPP.out]; exact (head_cells hx13).2.1
        have f2 : w13.frozen? ⟨g, P2, none⟩ = false := by
          have := hx13.frozenAt P2
          simpa [Addr.add, show P2 ≠ 0 by have := HP2.out; omega] using this
        have HX13 := Lib.hid hx13
        clear hx13 hw13 y0 y2 y3 fP HX12
        go_upto_region 35 with fail
        obtain ⟨w14, hw14⟩ : ∃ w14, w14 = w13.setCell ⟨g, P2, none⟩ (.int .u8 s2) := ⟨_, rfl⟩
        rw [← hw14]
        have hx14 : w14.ownsRow w2.heap.size 5 1 (.slice (some ⟨g, 0, none⟩) LX cb) LX ((pre ++ (z0 + 32) :: ty :: s2 :: z3 :: bs).map (Value.int .u8)) := by rw [hw14, HP2.out, HPP.out]; exact (head_set HX13.out s2).2.1
        have HU14 : Hid (Upd [g] w12 w14) := by rw [hw14]; exact Lib.hid (HU13.out.setCell (.inl (by simp)) _)
        have y3' : w14.cell? ⟨g, P3, none⟩ = some (.int .u8 z3) := by rw [HP3.out, HPP.out]; exact (head_cells hx14).2.2
        have f3 : w14.frozen? ⟨g, P3, none⟩ = false := by
          have := hx14.frozenAt P3
          simpa [Addr.add, show P3 ≠ 0 by have := HP3.out; omega] using this
        have HX14 := Lib.hid hx14
        clear hx14 hw14 y2' f2 HX13 HU13
        go_upto_region 36 with fail
        obtain ⟨w15, hw15⟩ : ∃ w15, w15 = w14.setCell ⟨g, P3, none⟩ (.int .u8 s3) := ⟨_, rfl⟩
        rw [← hw15]
        have hx15 : w15.ownsRow w2.heap.size 5 1 (.slice (some ⟨g, 0, none⟩) LX cb) LX ((pre ++ (z0 + 32) :: ty :: s2 :: s3 :: bs).map (Value.int .u8)) := by rw [hw15, HP3.out, HPP.out]; exact (head_set HX14.out s3).2.2
        have HU15 : Hid (Upd [g] w12 w15) := by rw [hw15]; exact Lib.hid (HU14.out.setCell (.inl (by simp)) _)
        have hmk := run_mk1 (P := Try.prog) 25 5 (.int .u8 0) 1 Try.underlying25 infoB rfl N (by omega) (by omega) w15
        have HX15 := Lib.hid hx15
        have HSZ15 : Hid (w2.heap.size ≤ w15.heap.size ∧ g < w15.heap.size) := Lib.hid (by
          have h1 := HSZ.out
          have h2 := HU6.out.size
          have h3 := HU12.out.size
          have h4 := HU15.out.size
          have h5 := HG.out
          omega)
        clear hx15 hw15 y3' f3 HX14 HU14
        go_upto_region 37 with fail
        obtain ⟨Y, hY⟩ : ∃ Y, Y = w15.heap.size := ⟨_, rfl⟩
        obtain ⟨w16, hw16⟩ : ∃ w16, w16 = w15.alloc (.cells (Array.replicate N (Value.int .u8 0)) 5) := ⟨_, rfl⟩
        rw [← hw16, ← hY]
        have hb16 : Blk w16 Y 5 (Array.replicate N (Value.int .u8 0)) := by rw [hw16, hY]; exact Blk.new _ _ _
        have f16 : w16.frozen? ⟨Y, N1, none⟩ = false := hb16.frozen N1
        have c16 : w16.cell? ⟨Y, N1, none⟩ = some (.int .u8 0) := by rw [hb16.cell, HN1.out.1]; simp [Array.getElem?_replicate]
        have HW16 := Lib.hid hw16
        have HYE := Lib.hid hY
        clear hmk hw16 hY hb16
        go_upto_region 38 with fail
        obtain ⟨w17, hw17⟩ : ∃ w17, w17 = w16.setCell ⟨Y, N1, none⟩ (.int .u8 (N : Int)) := ⟨_, rfl⟩
        rw [← hw17]
        obtain ⟨xs, hxs⟩ : ∃ xs, xs = pre ++ (z0 + 32) :: ty :: s2 :: s3 :: bs := ⟨_, rfl⟩
        obtain ⟨tl, htl⟩ : ∃ tl : List Int, tl = List.replicate N1 0 ++ [(N : Int)] := ⟨_, rfl⟩
        have htll : tl.length = N := by rw [htl]; simp [HN1.out.1]
        have HU17 : Hid (Upd [g] w12 w17) := by
          rw [hw17, HW16.out]
          refine Lib.hid ((HU15.out.alloc _).setCell (.inr ?_) _)
          rw [HYE.out]
          exact HU15.out.size
        have HX17 : Hid (w17.ownsRow w2.heap.size 5 1 (.slice (some ⟨g, 0, none⟩) LX cb) LX (xs.map (Value.int .u8))) := by
          rw [hw17, HW16.out, hxs]
          refine Lib.hid (ownsRow_setCell_other (HX15.out.alloc _) (a := ⟨Y, N1, none⟩) (fun e => ?_) _)
          have e' : some g = some Y := e
          injection e' with e'
          have := HSZ15.out.2
          have := HYE.out
          omega
        have HNEW : Hid (∀ (j : Nat) (u : Value), (tl.map (Value.int .u8))[j]? = some u → w17.cell? ((⟨Y, 0, none⟩ : Addr).add j) = some u) := by
          have := tail_src w15 N1 (N : Int) 5
          rw [List.toArray_replicate, ← HN1.out.1, ← htl, ← HW16.out, ← HYE.out, ← hw17] at this
          exact Lib.hid this
        have HONE : Hid (∀ u ∈ tl.map (Value.int .u8), u.oneCell' = true) := Lib.hid (by intro u hu; obtain ⟨x, _, rfl⟩ := List.mem_map.1 hu; rfl)
        have HB17 : Hid (w2.heap.size ≤ w17.heap.size) := Lib.hid (Nat.le_trans HSZ15.out.1 (by rw [hw17, HW16.out]; simp [World.setCell]))
        have HXS' := Lib.hid hxs
        have HTL := Lib.hid htl
        have HTLL := Lib.hid htll
        have hbig2 : LX ≤ 1500 ∧ N ≤ 32 := by omega
        clear hw17 hxs htl htll f16 c16 HW16 HX15 HU15 HSZ15 HYE
        go_wp2_with (at_builtin; refine wpList_append_own_at _ rfl (.tmp 186) (.tmp 187) 25 rfl w2.heap.size 5 j2 _ 1 1 Try.underlying25 hj2 hx0 hx1 hx2 rfl (by decide) (.slice (some ⟨g, 0, none⟩) LX cb) LX (xs.map (Value.int .u8)) rfl HX17.out ⟨Y, 0, none⟩ N N (tl.map (Value.int .u8)) rfl (by rw [List.length_map, HTLL.out, Nat.mul_one]) HNEW.out HONE.out (by unfold maxLen; omega) (by omega) HB17.out ?_)
        intro v8 w18 hown8 hg8 _ hat8
        have HU18 : Hid (Upd [g] w12 w18) := Lib.hid (HU17.out.next (Upd.of_grown hg8))
        obtain ⟨A8, c8, hv8, -⟩ := own_form hown8
        subst hv8
        have hl18 : (xs ++ tl).length = LX + N := by
          have h1 := hown8.1
          rw [← List.map_append, List.length_map] at h1
          omega
        have hr18 : RowIn w18 w2.heap.size .u8 ⟨A8, c8, xs ++ tl⟩ := by
          rw [← hl18, ← List.map_append] at hown8
          exact RowIn.of_own hown8
        have hmsa : ini.map (·.1) ++ [m0] = ms.map (·.1) := by rw [HMS.out]; simp
        have hby18 : Byt (xs ++ tl) := by
          have hB := HBX.out
          rw [HXP.out, HSH.out, ← HN0'.out, ← HTY.out] at hB
          intro b hb
          rcases List.mem_append.1 hb with hb | hb
          · rw [HXS'.out] at hb
            rcases List.mem_append.1 hb with hb | hb
            · exact hB b (List.mem_append.2 (.inl hb))
            · simp only [List.mem_cons] at hb
              rcases hb with rfl | rfl | rfl | rfl | hb
              · omega
              · exact hB b (List.mem_append.2 (.inr (by simp)))
              · exact ⟨by omega, by omega⟩
              · exact ⟨by omega, by omega⟩
              · exact hB b (List.mem_append.2 (.inr (by simp [hb])))
          · rw [HTL.out] at hb
            rcases List.mem_append.1 hb with hb | hb
            · rw [(List.mem_replicate.1 hb).2]; omega
            · rw [List.mem_singleton.1 hb]; omega
        have hpx2 : parseM (xs ++ tl) = ((ms.map (·.1)).map backM, 0) := by
          have h := parse_padded (ms := ini.map (·.1)) (m := m0) (fun x hx => HISN.out x (by rw [← hmsa]; exact hx)) N (by have := HN.out; omega) (by omega) (by omega) tl HTLL.out (by rw [HTL.out]; simp) bs HBS.out (by
            rw [← HPRE.out, ← HPP.out]
            have := HLLB.out
            have := HLXS.out
            omega)
          rw [← hmsa, ← h, HXS'.out, HPRE.out, HZ0.out, HN0'.out, HTY.out, HS2.out, HS3.out, HS.out]
          have e : (128 : Int) + ((bodyM m0).n : Int) + 32 = 160 + ((bodyM m0).n : Int) := by omega
          rw [e]
          simp
        have HPA2 := Lib.hid (parse_any hr18 (by dsimp only; omega) hby18)
        unfold encR at HPA2
        dsimp only at HPA2
        rw [hpx2, hl18] at HPA2
        dsimp only at HPA2
        clear hown8 hg8 hat8 hl18 hr18 hmsa hby18 hpx2 HNEW HONE HX17 HU17 HB17
        go_wp2_with fail
        refine HPA2.out.mono ?_
        rintro e w19 ⟨vz, oz, rfl, hmz, hoz, hgz, hu19⟩
        obtain ⟨Az, cz, hvz, -⟩ := own_form hoz
        subst hvz
        obtain ⟨hlz, hnz⟩ := HLO.out oz hmz
        have HAL2 := Lib.hid (all_any (cap := cz) (CellsIn.of_own hoz) (fun x hx => by
          have := hnz x hx
          exact ⟨hgz x hx, this.1, by omega, by omega, by omega⟩) (by omega))
        rw [hlz] at HAL2 ⊢
        have HMZ := Lib.hid hmz
        have HU19 := Lib.hid hu19
        clear hoz hgz hu19 hmz hnz hlz HPA2
        go_wp2_with fail
        refine HAL2.out.mono ?_
        rintro e w20 ⟨va, oa, rfl, hma, hoa, hra, hu20⟩
        obtain ⟨Aa, ca', hva, -⟩ := own_form hoa
        subst hva
        have hma' := hma.trans HMZ.out
        obtain ⟨hla, hna⟩ := HLO.out oa hma'
        obtain ⟨hlo, hno⟩ := HLO.out out HMAP.out
        have hu620 : Upd [g] w6 w20 := (((HU12.out.more (by simp)).next HU18.out).next (HU19.out.more (by simp))).next (hu20.more (by simp))
        have hw20 := ownsRow_upd HW6.out hu620 (fun s hs e => by
          rw [List.mem_singleton] at hs
          subst hs
          have h1 := (own_block_lt HW6.out e).1
          have h2 := HG.out
          omega)
        rw [← hlo] at hw20
        have HSM2 := Lib.hid (same_rows (ca := ca') (cb := cv) ((CellsIn.of_own hoa).lower (Nat.zero_le _)) ((CellsIn.of_own hw20).lower (Nat.zero_le _)) (hma'.trans HMAP.out.symm) (by omega) (fun x hx => (hra x hx).c (hna x hx).2) (fun x hx => by
          have hk := HIN6.out x hx
          have ho := hk.1.off_old (.slice (some ⟨g, 0, none⟩) 0 0) (N := w.heap.size) (fun s hs => by
            have e : g = s := by simpa [Value.ownBlock] using hs
            have h2 := HG.out
            have h3 := HSZ.out
            omega) hk.2.2
          exact (hk.1.upd hu620 (fun s hs => ho.r s (by rw [List.mem_singleton] at hs; subst hs; rfl)) (fun s hs => ho.w s (by rw [List.mem_singleton] at hs; subst hs; rfl)) (fun s hs => ho.p s (by rw [List.mem_singleton] at hs; subst hs; rfl)) (fun s hs => ho.a s (by rw [List.mem_singleton] at hs; subst hs; rfl)) (Nat.zero_le _)).c (hno x hx).2))
        rw [hla, hlo] at HSM2
        rw [hla]
        have HU620 := Lib.hid hu620
        clear hma hoa hra hu20 hma' hla hna hlo hno hw20 hu620 HAL2 HU19 HMZ
        go_wp2_with fail
        refine HSM2.out.mono ?_
        rintro e w21 ⟨rfl, hu21⟩
        have HEND : Hid (Below w.heap.size w w21) := Lib.hid ((((HU3.out.next HU6.out).trans (HU620.out.next (hu21.more (by simp))) (fun t ht => .inr (by
          rw [List.mem_singleton] at ht
          subst ht
          have h2 := HG.out
          have h3 := HSZ.out
          omega)))).below (Nat.le_refl _) (by simp))
        clear hu21 HSM2
        go_wp2
        exact bodyPost_res (v := .bool true) (by simp [results, Try.results5, go_sem]) rfl ⟨rfl, HEND.out⟩
end Go.Proofs.Ytgkejdjdccgjbaa
