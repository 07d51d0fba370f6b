/- Parts of the proof, one behind the other: DHolds, DFew, DIdxS4, DDelS4, DGone, DAwake, Open, Open2. No condition of their own. -/
import Derived.Test.YtjcbaelefacolaaB1
import Derived.Test.YtjcbaelefacolaaB6
import Derived.Test.YtjcbaelefacolaaB2
import Derived.Test.YtjcbaelefacolaaB4
import Derived.Test.YtjcbaelefacolaaB3
import Derived.Deep.Slices
import Derived.Deep.Fields
import Derived.ChangeSame
import Derived.ProofKit
import Derived.OpenShut
/- The layer delta: the law's 'holds' answers true. Conditions: what always holds of a state; the state in memory. -/
namespace Go.Proofs.Ytjcbaelefacolaa
open Go Go.RowKit
set_option maxHeartbeats 400000

set_option maxRecDepth 100000 in
set_option maxHeartbeats 4000000 in
theorem holds_any {w : World} {s : St} {h : SHd} (hs : StIn w s h) (hi : Inv s) :
    Calls Try.prog 19 #[.agg (scells s h).toArray] w fun e w' => e = .returned (.bool true) ∧ Upd [] w w' := by
  obtain ⟨T, hT⟩ : ∃ T, T = w.heap.size := ⟨_, rfl⟩
  obtain ⟨W, hW⟩ : ∃ W, W = w.alloc (.cells (scells s h).toArray 31) := ⟨_, rfl⟩
  have hu : Upd [] w W := by rw [hW]; exact (Upd.refl [] w).alloc _
  have hb : Blk W T 31 (scells s h).toArray := by rw [hW, hT]; exact Blk.new _ _ _
  have hs' := hs.upd hu
  have HRP := Lib.hid (rowP hs'.p rfl)
  have HRB := Lib.hid (rowB hs'.b rfl)
  have HRT := Lib.hid (rowT hs')
  have HU := Lib.hid hu
  have HI := Lib.hid hi
  obtain ⟨n1, hn1⟩ : ∃ n, n = s.ps.length := ⟨_, rfl⟩
  obtain ⟨n2, hn2⟩ : ∃ n, n = s.ts.length := ⟨_, rfl⟩
  obtain ⟨n3, hn3⟩ : ∃ n, n = s.bs.length := ⟨_, rfl⟩
  have hsc : scells s h = [.int .i64 s.c.people, .int .i64 s.c.tracks, .int .i64 s.c.subs, .int .i64 s.c.slots, .slice h.pA n1 h.pc, .slice h.tA n2 h.tc, .slice h.bA n3 h.bc] := by unfold scells; rw [← hn1, ← hn2, ← hn3]
  rw [hsc] at hb hW ⊢
  have b1 := hi.np
  have b2 := hi.nt
  have b3 := hi.nb
  have b4 := hi.cp
  have b5 := hi.ct
  have b6 := hi.cl
  have b7 := hi.cs
  rw [← hn1] at b1
  rw [← hn2] at b2
  rw [← hn3] at b3
  have HN := Lib.hid (And.intro hn1 (And.intro hn2 hn3))
  obtain ⟨pA, pc, tx, tA, tc, bA, bc⟩ := h
  dsimp only at HRP HRB HRT hb hW ⊢
  obtain ⟨⟨c1, c2, c3, c4⟩, hc⟩ : ∃ c, c = s.c := ⟨_, rfl⟩
  rw [← hc] at b1 b2 b3 b4 b5 b6 b7 hb hW ⊢
  have HC := Lib.hid hc
  dsimp only at b1 b2 b3 b4 b5 b6 b7 hb hW ⊢
  have z0 := hb.cell 0
  have z1 := hb.cell 1
  have z2 := hb.cell 2
  have z3 := hb.cell 3
  have z4 := hb.cell 4
  have z5 := hb.cell 5
  have z6 := hb.cell 6
  simp only [List.getElem?_toArray, List.getElem?_cons_zero, List.getElem?_cons_succ] at z0 z1 z2 z3 z4 z5 z6
  clear hsc hn1 hn2 hn3 hc hb hu hs hs' hi
  go_enter Try.func19, Try.ntmps19
  go_upto_region 1 with fail
  rw [← hW, ← hT]
  have HT := Lib.hid hT
  clear hW hT
  have e1 : ¬ c1 < (n1 : Int) := by omega
  have e2 : ¬ c2 < (n2 : Int) := by omega
  have e3 : ¬ c4 < (n3 : Int) := by omega
  go_upto_region 3 with fail
  go_wp2
  go_loopg [3, 4] n2 (fun gk x3 x4 wr => x3 = .int .i64 0 ∧ ∃ i : Nat, i ≤ n2 ∧ n2 ≤ i + gk ∧ x4 = .int .i64 i ∧ ∃ q, wr = W.drewN q)
  case atStart => exact ⟨rfl, 0, Nat.zero_le _, by omega, rfl, 0, rfl⟩
  case round =>
    obtain ⟨rfl, i, hi, hgi, rfl, q, rfl⟩ := hrel
    by_cases hlt : i < n2
    · obtain ⟨t, hti⟩ : ∃ t, s.ts[i]? = some t := ⟨_, List.getElem?_eq_getElem (by rw [← HN.out.2.1]; exact hlt)⟩
      obtain ⟨tb, tf, uA, uc, e, t0, t1, t2, t3, hru⟩ := HRT.out i t hti
      cases e
      have HTI := Lib.hid hti
      have HRU := Lib.hid (rowU hru rfl)
      have HGI := Lib.hid hgi
      have hlti : (i : Int) < (n2 : Int) := by omega
      have hwi : IntKind.i64.wrap ((i : Int) + 1) = (i : Int) + 1 := IntWalk.i64_in _ (by omega)
      clear hti hru hgi e1 e2 e3 t2
      obtain ⟨gA, rfl⟩ : ∃ gA : Nat, gA = gk := ⟨gk, rfl⟩
      go_wp2
      go_loopg [5, 6] n1 (fun gj x5 x6 wx => ∃ k : Nat, k ≤ n1 ∧ n1 ≤ k + gj ∧ x6 = .int .i64 k ∧ x5 = .bool (ownsM t.owner (s.ps.take k)) ∧ ∃ q, wx = W.drewN q)
      case atStart => exact ⟨0, Nat.zero_le _, by omega, rfl, rfl, q, rfl⟩
      case round => as_aux_lemma =>
        obtain ⟨k, hk, hgk, rfl, rfl, qk, rfl⟩ := hrel
        by_cases hltk : k < n1
        · obtain ⟨p, hpk⟩ : ∃ p, s.ps[k]? = some p := ⟨_, List.getElem?_eq_getElem (by rw [← HN.out.1]; exact hltk)⟩
          obtain ⟨pb, po, e, p0, p1, p2⟩ := HRP.out k p hpk
          cases e
          have hns := owns_succ (owner := t.owner) hpk
          have hpr := HI.out.per p (List.mem_of_getElem? hpk)
          obtain ⟨o, ho⟩ : ∃ o, o = ownsM t.owner (s.ps.take k) := ⟨_, rfl⟩
          rw [← ho] at hns ⊢
          have HNS := Lib.hid hns
          have HGK := Lib.hid hgk
          have hltki : (k : Int) < (n1 : Int) := by omega
          have hwk : IntKind.i64.wrap ((k : Int) + 1) = (k : Int) + 1 := IntWalk.i64_in _ (by omega)
          have hfin : ∀ (v : Bool) (q' : Nat), ownsM t.owner (s.ps.take (k + 1)) = v → ∃ k' : Nat, k' ≤ n1 ∧ n1 ≤ k' + (gk - 1) ∧ Value.int .i64 ((k : Int) + 1) = .int .i64 k' ∧ Value.bool v = .bool (ownsM t.owner (s.ps.take k')) ∧ ∃ q, W.drewN q' = W.drewN q := fun v q' hv => ⟨k + 1, by omega, by omega, by go_num, by rw [hv], q', rfl⟩
          have HFIN := Lib.hid hfin
          clear ho hns hpk hgk hfin p1
          cases o
          case true =>
            go_wp2_with fail
            go_quiet (fail)
            go_wp2
            go_roundg (gk - 1)
            case measure => have := HGK.out; omega
            case rel => exact HFIN.out _ _ (by rw [HNS.out]; rfl)
          case false =>
            by_cases hw : p.who = t.owner
            · have hm : p.rights % 2 = 0 ∨ p.rights % 2 = 1 := by omega
              have htm : Int.tmod p.rights 2 = p.rights % 2 := Int.tmod_eq_emod_of_nonneg hpr.2.2.2.2.1
              rw [hw] at p0
              rcases hm with hm | hm
              all_goals
                rw [hm] at htm
                clear hpr
                go_wp2_with fail
                go_quiet (fail)
                go_wp2
                go_roundg (gk - 1)
                case measure => have := HGK.out; omega
                case rel => exact HFIN.out _ _ (by rw [HNS.out, hw, hm]; simp)
            · have hwb : (p.who == t.owner) = false := by simpa using hw
              clear hpr
              go_wp2_with fail
              go_quiet (fail)
              go_wp2
              go_roundg (gk - 1)
              case measure => have := HGK.out; omega
              case rel => exact HFIN.out _ _ (by rw [HNS.out]; simp [hw])
        · obtain rfl : k = n1 := by omega
          have hown := owns_all HI.out (List.mem_of_getElem? HTI.out)
          rw [show s.ps.take k = s.ps by rw [HN.out.1]; exact List.take_length]
          rw [hown]
          clear hown hgk hk hltk
          go_upto_region 12 with fail
          go_cut [105] (fun s105 wc => s105 = .bool false ∧ ∃ q, wc = W.drewN q)
          case first =>
            by_cases hi0 : i = 0
            · subst hi0
              go_wp2_with fail
              go_quiet (fail)
              go_wp2
              go_meet
              case rel => exact ⟨rfl, _, drew_two _ _ _⟩
            · obtain ⟨j, hj⟩ : ∃ j, i = j + 1 := ⟨i - 1, by omega⟩
              obtain ⟨t', htj⟩ : ∃ t, s.ts[j]? = some t := ⟨_, List.getElem?_eq_getElem (by rw [← HN.out.2.1]; omega)⟩
              have hup := ids_up HI.out htj (by rw [← hj]; exact HTI.out)
              obtain ⟨tb', tf', uA', uc', e, r0, r1, r2, r3, _⟩ := HRT.out j t' htj
              cases e
              have hwj : IntKind.i64.wrap ((i : Int) - 1) = (j : Int) := by rw [IntWalk.i64_in _ (by omega)]; omega
              have hj0 : (0 : Int) ≤ (j : Int) := by omega
              have hj1 : (j : Int) < (n2 : Int) := by omega
              have hi1 : 0 < i := by omega
              have hnl : decide (t.id ≤ t'.id) = false := by simp; omega
              clear hj htj hup r1 r2 r3 hi0 t1 t3
              go_wp2_with fail
              go_quiet (fail)
              go_wp2
              go_meet
              case rel => exact ⟨rfl, _, drew_two _ _ _⟩
          obtain ⟨rfl, q2, rfl⟩ := hcut
          go_wp2
          go_loopg [3, 7] t.ss.length (fun gj x3 x7 wx => x3 = .int .i64 0 ∧ ∃ m : Nat, m ≤ t.ss.length ∧ t.ss.length ≤ m + gj ∧ x7 = .int .i64 m ∧ ∃ q, wx = W.drewN q)
          case atStart => exact ⟨rfl, 0, Nat.zero_le _, by omega, rfl, q2, rfl⟩
          case round => as_aux_lemma =>
            obtain ⟨rfl, m, hm, hgm, rfl, q3, rfl⟩ := hrel
            by_cases hltm : m < t.ss.length
            · obtain ⟨x, hxm⟩ : ∃ x, t.ss[m]? = some x := ⟨_, List.getElem?_eq_getElem hltm⟩
              obtain ⟨xb, xf, e, x0⟩ := HRU.out m x hxm
              cases e
              have hall := cnt_all HI.out (List.mem_of_getElem? HTI.out) (List.mem_of_getElem? hxm)
              have HALL := Lib.hid hall
              have HGM := Lib.hid hgm
              have hltmi : (m : Int) < (t.ss.length : Int) := by omega
              have hssl : t.ss.length ≤ 3 := by
                have := (HI.out.trk t (List.mem_of_getElem? HTI.out)).2.2
                unfold maySS at this
                simp only [Bool.and_eq_true, decide_eq_true_eq] at this
                omega
              have hwm : IntKind.i64.wrap ((m : Int) + 1) = (m : Int) + 1 := IntWalk.i64_in _ (by omega)
              clear hall hgm hxm
              obtain ⟨gB, rfl⟩ : ∃ gB : Nat, gB = gk := ⟨gk, rfl⟩
              go_wp2
              go_loopg [3, 9] n2 (fun gj x3 x9 wx => ∃ j : Nat, j ≤ n2 ∧ n2 ≤ j + gj ∧ x9 = .int .i64 j ∧ x3 = .int .i64 (cntT x (s.ts.take j)) ∧ ∃ q, wx = W.drewN q)
              case atStart => exact ⟨0, Nat.zero_le _, by omega, rfl, rfl, q3, rfl⟩
              case round => as_aux_lemma =>
                obtain ⟨j, hj, hgj, rfl, rfl, q4, rfl⟩ := hrel
                have hcl := cnt_le x s.ts j
                rw [HALL.out] at hcl
                by_cases hltj : j < n2
                · obtain ⟨t2', htj⟩ : ∃ t, s.ts[j]? = some t := ⟨_, List.getElem?_eq_getElem (by rw [← HN.out.2.1]; exact hltj)⟩
                  obtain ⟨tb', tf', vA, vc, e, r0, r1, r2, r3, hrv⟩ := HRT.out j t2' htj
                  cases e
                  have hsu := cnt_succ (x := x) htj
                  have hcl2 := cnt_le x s.ts (j + 1)
                  rw [HALL.out] at hcl2
                  obtain ⟨cj, hcj⟩ : ∃ c, c = cntT x (s.ts.take j) := ⟨_, rfl⟩
                  rw [← hcj] at hsu hcl ⊢
                  have hcl3 : cj + t2'.ss.count x ≤ 1 := by omega
                  have HSU := Lib.hid hsu
                  have HGJ := Lib.hid hgj
                  have HRV := Lib.hid (rowU hrv rfl)
                  have hltji : (j : Int) < (n2 : Int) := by omega
                  have hwj : IntKind.i64.wrap ((j : Int) + 1) = (j : Int) + 1 := IntWalk.i64_in _ (by omega)
                  have hvl : t2'.ss.length ≤ 3 := by
                    have := (HI.out.trk t2' (List.mem_of_getElem? htj)).2.2
                    unfold maySS at this
                    simp only [Bool.and_eq_true, decide_eq_true_eq] at this
                    omega
                  clear hsu hcl2 hcj htj hgj hrv r0 r1 r2
                  obtain ⟨gC, rfl⟩ : ∃ gC : Nat, gC = gk := ⟨gk, rfl⟩
                  go_wp2
                  go_loopg [3, 10] t2'.ss.length (fun gj x3 x10 wx => ∃ r : Nat, r ≤ t2'.ss.length ∧ t2'.ss.length ≤ r + gj ∧ x10 = .int .i64 r ∧ x3 = .int .i64 ((cj + (t2'.ss.take r).count x : Nat) : Int) ∧ ∃ q, wx = W.drewN q)
                  case atStart => exact ⟨0, Nat.zero_le _, by omega, rfl, rfl, q4, rfl⟩
                  case round => as_aux_lemma =>
                    obtain ⟨r, hr, hgr, rfl, rfl, q5, rfl⟩ := hrel
                    by_cases hltr : r < t2'.ss.length
                    · obtain ⟨y, hyr⟩ : ∃ y, t2'.ss[r]? = some y := ⟨_, List.getElem?_eq_getElem hltr⟩
                      obtain ⟨yb, yf, e, y0⟩ := HRV.out r y hyr
                      cases e
                      have hcs := count_succ (x := x) hyr
                      have hcu := count_le x t2'.ss (r + 1)
                      obtain ⟨cr, hcr⟩ : ∃ c, c = cj + (t2'.ss.take r).count x := ⟨_, rfl⟩
                      rw [← hcr]
                      have HCS := Lib.hid hcs
                      have HCR := Lib.hid hcr
                      have HGR := Lib.hid hgr
                      have hltri : (r : Int) < (t2'.ss.length : Int) := by omega
                      have hwr : IntKind.i64.wrap ((r : Int) + 1) = (r : Int) + 1 := IntWalk.i64_in _ (by omega)
                      by_cases hyx : y = x
                      · have hwc : IntKind.i64.wrap ((cr : Int) + 1) = (cr : Int) + 1 := IntWalk.i64_in _ (by rw [if_pos hyx] at hcs; omega)
                        have HC2 : Hid ((t2'.ss.take (r + 1)).count x = (t2'.ss.take r).count x + 1) := Lib.hid (by rw [hcs, if_pos hyx])
                        subst hyx
                        clear hcs hcu hcr hyr hgr
                        go_wp2
                        go_roundg (gk - 1)
                        case measure => have := HGR.out; omega
                        case rel => exact ⟨r + 1, by omega, by have := HGR.out; omega, by go_num, by rw [HC2.out, ← Nat.add_assoc, ← HCR.out]; go_num, q5, rfl⟩
                      · have hyb : (y == x) = false := by simpa using hyx
                        have HC2 : Hid ((t2'.ss.take (r + 1)).count x = (t2'.ss.take r).count x) := Lib.hid (by rw [hcs, if_neg hyx]; rfl)
                        clear hcs hcu hcr hyr hgr
                        go_wp2
                        go_roundg (gk - 1)
                        case measure => have := HGR.out; omega
                        case rel => exact ⟨r + 1, by omega, by have := HGR.out; omega, by go_num, by rw [HC2.out, ← HCR.out], q5, rfl⟩
                    · obtain rfl : r = t2'.ss.length := by omega
                      rw [List.take_length]
                      clear hgr hr hltr
                      go_wp2
                      go_roundg (gC - 1)
                      case measure => have := HGJ.out; omega
                      case rel => exact ⟨j + 1, by omega, by have := HGJ.out; omega, by go_num, by rw [HSU.out], q5, rfl⟩
                · obtain rfl : j = n2 := by omega
                  rw [show s.ts.take j = s.ts by rw [HN.out.2.1]; exact List.take_length, HALL.out]
                  clear hgj hj hltj hcl
                  go_wp2
                  go_roundg (gB - 1)
                  case measure => have := HGM.out; omega
                  case rel => exact ⟨rfl, m + 1, by omega, by have := HGM.out; omega, by go_num, q4, rfl⟩
            · obtain rfl : m = t.ss.length := by omega
              clear hgm hm hltm
              go_wp2
              go_roundg (gA - 1)
              case measure => have := HGI.out; omega
              case rel => exact ⟨rfl, i + 1, by omega, by have := HGI.out; omega, by go_num, q3, rfl⟩
    · obtain rfl : i = n2 := by omega
      clear hgi hi hlt e1 e2 e3
      go_wp2
      go_loopg [11] n3 (fun gk x11 wr => ∃ j : Nat, j ≤ n3 ∧ n3 ≤ j + gk ∧ x11 = .int .i64 j ∧ ∃ q, wr = W.drewN q)
      case atStart => exact ⟨0, Nat.zero_le _, by omega, rfl, q, rfl⟩
      case round =>
        obtain ⟨j, hj, hgj, rfl, q2, rfl⟩ := hrel
        by_cases hlt : j < n3
        · obtain ⟨b, hbj⟩ : ∃ t, s.bs[j]? = some t := ⟨_, List.getElem?_eq_getElem (by rw [← HN.out.2.2]; exact hlt)⟩
          obtain ⟨bb, bf, e, r0, r1, _, _, _⟩ := HRB.out j b hbj
          cases e
          have HBJ := Lib.hid hbj
          have HGJ := Lib.hid hgj
          have hltj : (j : Int) < (n3 : Int) := by omega
          have hwj : IntKind.i64.wrap ((j : Int) + 1) = (j : Int) + 1 := IntWalk.i64_in _ (by omega)
          clear hbj hgj
          obtain ⟨gA, rfl⟩ : ∃ gA : Nat, gA = gk := ⟨gk, rfl⟩
          go_wp2
          go_loopg [12, 14] n3 (fun gk x12 x14 wx => ∃ k : Nat, k ≤ n3 ∧ n3 ≤ k + gk ∧ x14 = .int .i64 k ∧ x12 = .int .i64 (((s.bs.take k).countP (fun y => decide (y.who = b.who)) : Nat) : Int) ∧ ∃ q, wx = W.drewN q)
          case atStart => exact ⟨0, Nat.zero_le _, by omega, rfl, rfl, q2, rfl⟩
          case round => as_aux_lemma =>
            obtain ⟨k, hk, hgk, rfl, rfl, q3, rfl⟩ := hrel
            by_cases hltk : k < n3
            · obtain ⟨b2, hbk⟩ : ∃ t, s.bs[k]? = some t := ⟨_, List.getElem?_eq_getElem (by rw [← HN.out.2.2]; exact hltk)⟩
              obtain ⟨bb', bf', e, v0, _, _, _, _⟩ := HRB.out k b2 hbk
              cases e
              have hos := own_succ (who := b.who) hbk
              have hcl : (s.bs.take k).countP (fun y => decide (y.who = b.who)) ≤ 64 := by
                have := (s.bs.take k).countP_le_length (p := fun y => decide (y.who = b.who))
                rw [List.length_take] at this
                omega
              obtain ⟨cn, hcn⟩ : ∃ c, c = (s.bs.take k).countP (fun y => decide (y.who = b.who)) := ⟨_, rfl⟩
              rw [← hcn] at hos hcl ⊢
              have HGK := Lib.hid hgk
              have hltki : (k : Int) < (n3 : Int) := by omega
              have hwk : IntKind.i64.wrap ((k : Int) + 1) = (k : Int) + 1 := IntWalk.i64_in _ (by omega)
              have hwc : IntKind.i64.wrap ((cn : Int) + 1) = (cn : Int) + 1 := IntWalk.i64_in _ (by omega)
              by_cases hw : b2.who = b.who
              · have HOS : Hid _ := Lib.hid (hos.trans (by rw [if_pos hw]))
                rw [hw] at v0
                clear hos hcn hcl hbk hgk hw
                go_wp2_with fail
                go_quiet (fail)
                go_wp2
                go_roundg (gk - 1)
                case measure => have := HGK.out; omega
                case rel => exact ⟨k + 1, by omega, by have := HGK.out; omega, by go_num, by rw [HOS.out]; go_num, by first | exact ⟨_, rfl⟩ | exact ⟨_, drew_two _ _ _⟩⟩
              · have HOS : Hid _ := Lib.hid (hos.trans (by rw [if_neg hw]))
                have hwb : (b2.who == b.who) = false := by simpa using hw
                clear hos hcn hcl hbk hgk hw
                go_wp2_with fail
                go_quiet (fail)
                go_wp2
                go_roundg (gk - 1)
                case measure => have := HGK.out; omega
                case rel => exact ⟨k + 1, by omega, by have := HGK.out; omega, by go_num, by rw [HOS.out]; rfl, by first | exact ⟨_, rfl⟩ | exact ⟨_, drew_two _ _ _⟩⟩
            · obtain rfl : k = n3 := by omega
              have hfew := HI.out.few b.who
              unfold hasN at hfew
              rw [show s.bs.take k = s.bs by rw [HN.out.2.2]; exact List.take_length]
              obtain ⟨co, hco⟩ : ∃ c, c = s.bs.countP (fun y => decide (y.who = b.who)) := ⟨_, rfl⟩
              rw [← hco, ← HC.out] at hfew
              dsimp only at hfew
              rw [← hco]
              have hnf : ¬ c3 < (co : Int) := by omega
              clear hgk hk hltk hco hfew
              go_wp2
              go_loopg [13, 15] i (fun gk x13 x15 wx => ∃ m : Nat, m ≤ i ∧ i ≤ m + gk ∧ x15 = .int .i64 m ∧ x13 = .bool (thereM b.track (s.ts.take m)) ∧ ∃ q, wx = W.drewN q)
              case atStart => exact ⟨0, Nat.zero_le _, by omega, rfl, rfl, q3, rfl⟩
              case round => as_aux_lemma =>
                obtain ⟨m, hm, hgm, rfl, rfl, q4, rfl⟩ := hrel
                by_cases hltm : m < i
                · obtain ⟨t, htm⟩ : ∃ t, s.ts[m]? = some t := ⟨_, List.getElem?_eq_getElem (by rw [← HN.out.2.1]; exact hltm)⟩
                  obtain ⟨tb, tf, uA, uc, e, t0, t1, _, _, _⟩ := HRT.out m t htm
                  cases e
                  have hths := there_succ (id := b.track) htm
                  obtain ⟨th, hth⟩ : ∃ c, c = thereM b.track (s.ts.take m) := ⟨_, rfl⟩
                  rw [← hth] at hths ⊢
                  have HTHS := Lib.hid hths
                  have HTM := Lib.hid htm
                  have HGM := Lib.hid hgm
                  have hltmi : (m : Int) < (i : Int) := by omega
                  have hwm : IntKind.i64.wrap ((m : Int) + 1) = (m : Int) + 1 := IntWalk.i64_in _ (by omega)
                  clear hth hths htm hgm
                  by_cases hid : t.id = b.track
                  · have HID := Lib.hid hid
                    rw [hid] at t0
                    clear hid
                    obtain ⟨gB, rfl⟩ : ∃ gB : Nat, gB = gk := ⟨gk, rfl⟩
                    go_wp2_with fail
                    go_quiet (fail)
                    go_wp2
                    rw [drew_two]
                    obtain ⟨q5, hq5⟩ : ∃ q, q = q4 + nq := ⟨_, rfl⟩
                    rw [← hq5]
                    clear hq5
                    go_loopg [16, 17, 18] n1 (fun gk x16 x17 x18 wx => ∃ r : Nat, r ≤ n1 ∧ n1 ≤ r + gk ∧ x18 = .int .i64 r ∧ x16 = .int .i64 (roomM (seesM b.who) (s.ps.take r)) ∧ x17 = .int .i64 (roomM (isM t.owner) (s.ps.take r)) ∧ ∃ q, wx = W.drewN q)
                    case atStart => exact ⟨0, Nat.zero_le _, by omega, rfl, rfl, rfl, q5, rfl⟩
                    case round => as_aux_lemma =>
                      obtain ⟨r, hr, hgr, rfl, rfl, rfl, q6, rfl⟩ := hrel
                      by_cases hltr : r < n1
                      · obtain ⟨p, hpr⟩ : ∃ p, s.ps[r]? = some p := ⟨_, List.getElem?_eq_getElem (by rw [← HN.out.1]; exact hltr)⟩
                        obtain ⟨pb, po, e, p0, p1, p2⟩ := HRP.out r p hpr
                        cases e
                        have h1 := room_succ (f := seesM b.who) hpr
                        have h2 := room_succ (f := isM t.owner) hpr
                        obtain ⟨ra, hra⟩ : ∃ c, c = roomM (seesM b.who) (s.ps.take r) := ⟨_, rfl⟩
                        obtain ⟨rb, hrb⟩ : ∃ c, c = roomM (isM t.owner) (s.ps.take r) := ⟨_, rfl⟩
                        rw [← hra] at h1 ⊢
                        rw [← hrb] at h2 ⊢
                        unfold seesM at h1
                        unfold isM at h2
                        have HGR := Lib.hid hgr
                        have hltri : (r : Int) < (n1 : Int) := by omega
                        have hwr : IntKind.i64.wrap ((r : Int) + 1) = (r : Int) + 1 := IntWalk.i64_in _ (by omega)
                        clear hra hrb hpr hgr
                        have HFIN : Hid (∀ (x y : Int) (q' : Nat), (if (decide (p.who = b.who) && decide (1 < p.rights)) = true then p.room else ra) = x → (if decide (p.who = t.owner) = true then p.room else rb) = y → ∃ r' : Nat, r' ≤ n1 ∧ n1 ≤ r' + (gk - 1) ∧ Value.int .i64 ((r : Int) + 1) = .int .i64 r' ∧ Value.int .i64 x = .int .i64 (roomM (seesM b.who) (s.ps.take r')) ∧ Value.int .i64 y = .int .i64 (roomM (isM t.owner) (s.ps.take r')) ∧ ∃ q, W.drewN q' = W.drewN q) :=
                          Lib.hid (fun x y q' hx hy => ⟨r + 1, by omega, by have := HGR.out; omega, by go_num, by rw [← hx]; exact congrArg _ h1.symm, by rw [← hy]; exact congrArg _ h2.symm, q', rfl⟩)
                        clear h1 h2
                        go_upto_region 46 with fail
                        go_cut [236] (fun v wc => v = .bool (decide (p.who = b.who) && decide (1 < p.rights)) ∧ ∃ q, wc = W.drewN q)
                        case first =>
                          by_cases a1 : p.who = b.who
                          · by_cases a2 : 1 < p.rights
                            · have a3 : decide (1 < p.rights) = true := by simpa using a2
                              rw [a1] at p0
                              go_wp2_with fail
                              go_quiet (fail)
                              go_wp2
                              go_meet
                              case rel => exact ⟨by simp [a1, a2], by first | exact ⟨_, rfl⟩ | exact ⟨_, drew_two _ _ _⟩⟩
                            · have a3 : decide (1 < p.rights) = false := by simpa using a2
                              rw [a1] at p0
                              go_wp2_with fail
                              go_quiet (fail)
                              go_wp2
                              go_meet
                              case rel => exact ⟨by simp [a1, a2], by first | exact ⟨_, rfl⟩ | exact ⟨_, drew_two _ _ _⟩⟩
                          · have a3 : (p.who == b.who) = false := by simpa using a1
                            go_wp2_with fail
                            go_quiet (fail)
                            go_wp2
                            go_meet
                            case rel => exact ⟨by simp [a1], by first | exact ⟨_, rfl⟩ | exact ⟨_, drew_two _ _ _⟩⟩
                        obtain ⟨rfl, q7, rfl⟩ := hcut
                        obtain ⟨f1, hf1⟩ : ∃ f, f = (decide (p.who = b.who) && decide (1 < p.rights)) := ⟨_, rfl⟩
                        rw [← hf1] at HFIN ⊢
                        clear hf1
                        go_upto_if 236 with fail
                        go_cut [16] (fun v wc => v = .int .i64 (if f1 = true then p.room else ra) ∧ wc = W.drewN q7)
                        case first =>
                          cases f1
                          all_goals
                            go_wp2
                            go_meet
                            case rel => exact ⟨rfl, rfl⟩
                        obtain ⟨rfl, hwc⟩ := hcut
                        subst hwc
                        obtain ⟨xa, hxa⟩ : ∃ x, x = (if f1 = true then p.room else ra) := ⟨_, rfl⟩
                        rw [← hxa] at HFIN ⊢
                        clear hxa
                        by_cases a4 : p.who = t.owner
                        · rw [a4] at p0
                          have HF2 := Lib.hid (fun q' => HFIN.out xa p.room q' rfl (by simp [a4]))
                          clear HFIN a4
                          go_wp2_with fail
                          go_quiet (fail)
                          go_wp2
                          go_roundg (gk - 1)
                          case measure => have := HGR.out; omega
                          case rel => first | exact HF2.out _ | (rw [drew_two]; exact HF2.out _)
                        · have a5 : (p.who == t.owner) = false := by simpa using a4
                          have HF2 := Lib.hid (fun q' => HFIN.out xa rb q' rfl (by simp [a4]))
                          clear HFIN a4
                          go_wp2_with fail
                          go_quiet (fail)
                          go_wp2
                          go_roundg (gk - 1)
                          case measure => have := HGR.out; omega
                          case rel => first | exact HF2.out _ | (rw [drew_two]; exact HF2.out _)
                      · obtain rfl : r = n1 := by omega
                        have hrs := room_same HI.out (List.mem_of_getElem? HBJ.out) (List.mem_of_getElem? HTM.out) HID.out
                        rw [show s.ps.take r = s.ps by rw [HN.out.1]; exact List.take_length, ← hrs.2]
                        obtain ⟨ra, hra⟩ : ∃ c, c = roomM (seesM b.who) s.ps := ⟨_, rfl⟩
                        rw [← hra] at hrs ⊢
                        have hpos := hrs.1
                        clear hra hrs hgr hr hltr
                        go_wp2
                        go_roundg (gB - 1)
                        case measure => have := HGM.out; omega
                        case rel => exact ⟨m + 1, by omega, by have := HGM.out; omega, by go_num, by rw [HTHS.out, HID.out]; simp, _, rfl⟩
                  · have hidb : (t.id == b.track) = false := by simpa using hid
                    have HID := Lib.hid hid
                    clear hid
                    go_wp2_with fail
                    go_quiet (fail)
                    go_wp2
                    go_roundg (gk - 1)
                    case measure => have := HGM.out; omega
                    case rel => exact ⟨m + 1, by omega, by have := HGM.out; omega, by go_num, by rw [HTHS.out]; simp [HID.out], by first | exact ⟨_, rfl⟩ | exact ⟨_, drew_two _ _ _⟩⟩
                · obtain rfl : m = i := by omega
                  have hth := there_all HI.out (List.mem_of_getElem? HBJ.out)
                  rw [show s.ts.take m = s.ts by rw [HN.out.2.1]; exact List.take_length, hth]
                  clear hth hgm hm hltm
                  go_wp2
                  go_roundg (gA - 1)
                  case measure => have := HGJ.out; omega
                  case rel => exact ⟨j + 1, by omega, by have := HGJ.out; omega, by go_num, by first | exact ⟨_, rfl⟩ | exact ⟨_, drew_two _ _ _⟩⟩
        · obtain rfl : j = n3 := by omega
          clear hgj hj hlt
          go_wp2
          go_ret
          exact ⟨rfl, HU.out.drewN _⟩
end Go.Proofs.Ytjcbaelefacolaa
/- The laws' 'few' and 'begun' of the layer delta. Condition: no more requests than an int counts. -/
namespace Go.Proofs.Ytjcbaelefacolaa
open Go Go.RowKit
set_option maxHeartbeats 400000

def encQ (x : Rq × SH) : List Value := qcells x.1 x.2
theorem encQ_len (x : Rq × SH) : (encQ x).length = 8 := rfl
def fewQ (l : List Rq) : Bool := l.all (fun q => decide (q.ss.length ≤ 6)) && decide (l.length ≤ 150)
set_option maxRecDepth 100000 in
set_option maxHeartbeats 2000000 in
theorem few_any {w : World} {lo : Nat} {A : Option Addr} {cap : Nat} {l : List (Rq × SH)} (hc : CellsIn w lo w.heap.size 8 A l.length (l.flatMap encQ)) (hl : l.length ≤ 9223372036854775807) :
    Calls Try.prog 10 #[.slice A l.length cap] w fun e w' => e = .returned (.bool (fewQ (l.map (·.1)))) ∧ w' = w := by
  have HC := Lib.hid hc
  obtain ⟨L, hL⟩ : ∃ L, L = l.length := ⟨_, rfl⟩
  have HL := Lib.hid hL
  rw [← hL] at hl ⊢
  clear hc hL
  go_enter Try.func10, Try.ntmps10
  go_wp2
  go_loopg [3] L (fun gk x3 wr => ∃ (i : Nat), i ≤ L ∧ L ≤ i + gk ∧ x3 = .int .i64 i ∧ (∀ q, q ∈ (l.take i).map (·.1) → q.ss.length ≤ 6) ∧ wr = w)
  case atStart => exact ⟨0, Nat.zero_le _, by omega, rfl, by simp, rfl⟩
  case round =>
    obtain ⟨i, hi, hgi, rfl, his, rfl⟩ := hrel
    by_cases hlt : i < L
    · obtain ⟨x, hxi⟩ : ∃ p, l[i]? = some p := ⟨_, List.getElem?_eq_getElem (by rw [← HL.out]; exact hlt)⟩
      obtain ⟨b, off, rfl, hb1, hb2, hcc⟩ := HC.out.2 (by rw [← HL.out]; omega)
      have c5 := hcc (i * 8 + 5) _ (flat_get encQ_len l i 5 x hxi (by omega))
      obtain ⟨⟨kd, who, room, rights, track, ss, layer, tid⟩, ⟨qA, qc⟩⟩ := x
      simp only [encQ, qcells, List.getElem?_cons_zero, List.getElem?_cons_succ, List.getElem_cons_zero, List.getElem_cons_succ, ← Nat.add_assoc, Nat.add_zero] at c5
      have HIS := Lib.hid his
      have HXI := Lib.hid hxi
      have HLT := Lib.hid hlt
      have HGI := Lib.hid hgi
      clear hcc his hxi hgi
      have hlti : (i : Int) < (L : Int) := by omega
      have hw : IntKind.i64.wrap ((i : Int) + 1) = (i : Int) + 1 := IntWalk.i64_in _ (by omega)
      by_cases k1 : ss.length ≤ 6
      · have n1 : ¬ (6 : Int) < (ss.length : Int) := by omega
        go_wp2
        go_roundg (gk - 1)
        case measure => have := HGI.out; omega
        case rel =>
        refine ⟨i + 1, by omega, by have := HGI.out; omega, by go_num, fun m' hm' => ?_, rfl⟩
        rw [List.take_add_one, HXI.out] at hm'
        simp only [Option.toList_some, List.map_append, List.map_cons, List.map_nil, List.mem_append, List.mem_singleton] at hm'
        rcases hm' with hm' | rfl
        · exact HIS.out m' hm'
        · exact k1
      · have n1 : (6 : Int) < (ss.length : Int) := by omega
        have hno : fewQ (l.map (·.1)) = false := by
          have hmem : (⟨kd, who, room, rights, track, ss, layer, tid⟩ : Rq) ∈ l.map (·.1) := List.mem_map.2 ⟨_, List.mem_of_getElem? HXI.out, rfl⟩
          rw [fewQ, List.all_eq_false.2 ⟨_, hmem, by simp [k1]⟩]
          rfl
        have HNO := Lib.hid hno
        clear hno
        go_wp2
        exact bodyPost_res (v := .bool false) (by simp [results, Try.results10, go_sem]) rfl ⟨by rw [HNO.out], rfl⟩
    · obtain rfl : i = L := by omega
      have hall : (l.map (·.1)).all (fun q => decide (q.ss.length ≤ 6)) = true := List.all_eq_true.2 (fun m hm => by simpa using his m (by rw [HL.out, List.take_length]; exact hm))
      have hf : fewQ (l.map (·.1)) = decide ((i : Int) ≤ 150) := by
        rw [fewQ, hall, Bool.true_and, List.length_map, ← HL.out]
        exact decide_eq_decide.2 (by omega)
      clear his hgi hlt
      go_wp2
      exact bodyPost_res (v := .bool (decide ((i : Int) ≤ 150))) (by simp [results, Try.results10, go_sem]) rfl ⟨by rw [hf], rfl⟩
set_option maxRecDepth 100000 in
set_option maxHeartbeats 2000000 in
theorem begun_any (w : World) (c : Cf) :
    Calls Try.prog 11 #[.agg #[.int .i64 c.people, .int .i64 c.tracks, .int .i64 c.subs, .int .i64 c.slots]] w fun e w' =>
      e = .returned (.tuple #[.agg (scells (newM (confM c)) newHd).toArray, .agg #[.int .i64 c.people, .int .i64 c.tracks, .int .i64 c.subs, .int .i64 c.slots, .slice none 0 0, .slice none 0 0, .slice none 0 0], .bool (confOk c)]) ∧ Upd [] w w' := by
  have HN := Lib.hid (fun w => new_any w c)
  have hm : scells (newM (confM c)) newHd = [.int .i64 (confM c).people, .int .i64 (confM c).tracks, .int .i64 (confM c).subs, .int .i64 (confM c).slots, .slice none 0 0, .slice none 0 0, .slice none 0 0] := rfl
  rw [hm] at HN ⊢
  obtain ⟨⟨m1, m2, m3, m4⟩, hmm⟩ : ∃ m, m = confM c := ⟨_, rfl⟩
  obtain ⟨er, her⟩ : ∃ er, er = (if confOk c then (0 : Int) else 1) := ⟨_, rfl⟩
  have hok : confOk c = (er == 0) := by rw [her]; cases confOk c <;> rfl
  rw [← hmm, ← her] at HN
  rw [← hmm, hok]
  obtain ⟨a, b, d, e⟩ := c
  dsimp only at HN ⊢
  clear hm hmm her hok
  obtain ⟨g, hg⟩ : ∃ g, g = w.heap.size := ⟨_, rfl⟩
  obtain ⟨W0, hW0⟩ : ∃ W, W = w.alloc (.cells #[.int .i64 a, .int .i64 b, .int .i64 d, .int .i64 e] 23) := ⟨_, rfl⟩
  obtain ⟨W1, hW1⟩ : ∃ W, W = W0.alloc (.cells #[.int .i64 0, .int .i64 0, .int .i64 0, .int .i64 0, .slice none 0 0, .slice none 0 0, .slice none 0 0] 31) := ⟨_, rfl⟩
  obtain ⟨W2, hW2⟩ : ∃ W, W = W1.alloc (.cells #[.int .i64 0, .int .i64 0, .int .i64 0, .int .i64 0, .slice none 0 0, .slice none 0 0, .slice none 0 0] 37) := ⟨_, rfl⟩
  have u0 : Upd [] w W0 := by rw [hW0]; exact (Upd.refl [] w).alloc _
  have u1 : Upd [] W0 W1 := by rw [hW1]; exact (Upd.refl [] W0).alloc _
  have u2 : Upd [] W1 W2 := by rw [hW2]; exact (Upd.refl [] W1).alloc _
  have z0 : W0.heap.size = g + 1 := by rw [hW0, World.size_alloc, hg]
  have z1 : W1.heap.size = g + 1 + 1 := by rw [hW1, World.size_alloc, z0]
  have k0 : Blk W2 g 23 #[.int .i64 a, .int .i64 b, .int .i64 d, .int .i64 e] := by
    have : Blk W0 g 23 #[.int .i64 a, .int .i64 b, .int .i64 d, .int .i64 e] := by rw [hW0, hg]; exact Blk.new _ _ _
    exact (this.upd u1 (by simp)).upd u2 (by simp)
  have k1 : Blk W2 (g + 1) 31 #[.int .i64 0, .int .i64 0, .int .i64 0, .int .i64 0, .slice none 0 0, .slice none 0 0, .slice none 0 0] := by
    have : Blk W1 (g + 1) 31 #[.int .i64 0, .int .i64 0, .int .i64 0, .int .i64 0, .slice none 0 0, .slice none 0 0, .slice none 0 0] := by rw [hW1, ← z0]; exact Blk.new _ _ _
    exact this.upd u2 (by simp)
  have k2 : Blk W2 (g + 1 + 1) 37 #[.int .i64 0, .int .i64 0, .int .i64 0, .int .i64 0, .slice none 0 0, .slice none 0 0, .slice none 0 0] := by rw [hW2, ← z1]; exact Blk.new _ _ _
  have HU0 := Lib.hid ((u0.next u1).next u2)
  have HG := Lib.hid hg
  have HK0 := Lib.hid k0
  have HK1 := Lib.hid k1
  have HK2 := Lib.hid k2
  have p0 : W2.cell? ⟨g, 0, none⟩ = some (.int .i64 a) := k0.cell 0
  have p1 : W2.cell? ⟨g, 1, none⟩ = some (.int .i64 b) := k0.cell 1
  have p2 : W2.cell? ⟨g, 2, none⟩ = some (.int .i64 d) := k0.cell 2
  have p3 : W2.cell? ⟨g, 3, none⟩ = some (.int .i64 e) := k0.cell 3
  clear u0 u1 u2 z0 z1 k0 k1 k2
  go_enter Try.func11, Try.ntmps11
  go_upto_region 1 with fail
  rw [← hW0, ← hW1, ← hW2, ← hg]
  clear hW0 hW1 hW2 hg
  go_wp2_with fail
  refine (HN.out _).mono ?_
  rintro _ w3 ⟨rfl, hu3⟩
  have HU3 := Lib.hid hu3
  have HB0 := Lib.hid (HK0.out.upd hu3 (by simp))
  have HB1 := Lib.hid (HK1.out.upd hu3 (by simp))
  have HB2 := Lib.hid (HK2.out.upd hu3 (by simp))
  clear hu3 p0 p1 p2 p3 HK0 HK1 HK2 HN
  go_upto_region 2 with fail
  obtain ⟨s, hs⟩ : ∃ s, s = w3.heap.size := ⟨_, rfl⟩
  obtain ⟨w4, hw4⟩ : ∃ W, W = w3.alloc (.cells #[.int .i64 m1, .int .i64 m2, .int .i64 m3, .int .i64 m4, .slice none 0 0, .slice none 0 0, .slice none 0 0] 31) := ⟨_, rfl⟩
  rw [← hw4, ← hs]
  have u4 : Upd [] w3 w4 := by rw [hw4]; exact (Upd.refl [] w3).alloc _
  have k3 : Blk w4 s 31 #[.int .i64 m1, .int .i64 m2, .int .i64 m3, .int .i64 m4, .slice none 0 0, .slice none 0 0, .slice none 0 0] := by rw [hw4, hs]; exact Blk.new _ _ _
  have k0 := HB0.out.upd u4 (by simp)
  have k1 := HB1.out.upd u4 (by simp)
  have k2 := HB2.out.upd u4 (by simp)
  have HU4 := Lib.hid ((HU0.out.next HU3.out).next u4)
  have hlg := k0.lt
  have hls := k3.lt
  have hgs : ¬ (s = g + 1) ∧ ¬ (s = g + 1 + 1) := ⟨fun e => by have := HB1.out.lt; omega, fun e => by have := HB2.out.lt; omega⟩
  have p0 : ∀ z : Cls (Upd [g + 1, g + 1 + 1] w4), z.w.cell? ⟨g, 0, none⟩ = some (.int .i64 a) := fun z => (z.h.cell (p := ⟨g, 0, none⟩) hlg (by simp; omega)).trans (k0.cell 0)
  have p1 : ∀ z : Cls (Upd [g + 1, g + 1 + 1] w4), z.w.cell? ⟨g, 1, none⟩ = some (.int .i64 b) := fun z => (z.h.cell (p := ⟨g, 1, none⟩) hlg (by simp; omega)).trans (k0.cell 1)
  have p2 : ∀ z : Cls (Upd [g + 1, g + 1 + 1] w4), z.w.cell? ⟨g, 2, none⟩ = some (.int .i64 d) := fun z => (z.h.cell (p := ⟨g, 2, none⟩) hlg (by simp; omega)).trans (k0.cell 2)
  have p3 : ∀ z : Cls (Upd [g + 1, g + 1 + 1] w4), z.w.cell? ⟨g, 3, none⟩ = some (.int .i64 e) := fun z => (z.h.cell (p := ⟨g, 3, none⟩) hlg (by simp; omega)).trans (k0.cell 3)
  have q0 : ∀ z : Cls (Upd [g + 1, g + 1 + 1] w4), z.w.cell? ⟨s, 0, none⟩ = some (.int .i64 m1) := fun z => (z.h.cell (p := ⟨s, 0, none⟩) hls (by simp; exact hgs)).trans (k3.cell 0)
  have q1 : ∀ z : Cls (Upd [g + 1, g + 1 + 1] w4), z.w.cell? ⟨s, 1, none⟩ = some (.int .i64 m2) := fun z => (z.h.cell (p := ⟨s, 1, none⟩) hls (by simp; exact hgs)).trans (k3.cell 1)
  have q2 : ∀ z : Cls (Upd [g + 1, g + 1 + 1] w4), z.w.cell? ⟨s, 2, none⟩ = some (.int .i64 m3) := fun z => (z.h.cell (p := ⟨s, 2, none⟩) hls (by simp; exact hgs)).trans (k3.cell 2)
  have q3 : ∀ z : Cls (Upd [g + 1, g + 1 + 1] w4), z.w.cell? ⟨s, 3, none⟩ = some (.int .i64 m4) := fun z => (z.h.cell (p := ⟨s, 3, none⟩) hls (by simp; exact hgs)).trans (k3.cell 3)
  have q4 : ∀ z : Cls (Upd [g + 1, g + 1 + 1] w4), z.w.cell? ⟨s, 4, none⟩ = some (.slice none 0 0) := fun z => (z.h.cell (p := ⟨s, 4, none⟩) hls (by simp; exact hgs)).trans (k3.cell 4)
  have q5 : ∀ z : Cls (Upd [g + 1, g + 1 + 1] w4), z.w.cell? ⟨s, 5, none⟩ = some (.slice none 0 0) := fun z => (z.h.cell (p := ⟨s, 5, none⟩) hls (by simp; exact hgs)).trans (k3.cell 5)
  have q6 : ∀ z : Cls (Upd [g + 1, g + 1 + 1] w4), z.w.cell? ⟨s, 6, none⟩ = some (.slice none 0 0) := fun z => (z.h.cell (p := ⟨s, 6, none⟩) hls (by simp; exact hgs)).trans (k3.cell 6)
  have HK1 := Lib.hid k1
  have HK2 := Lib.hid k2
  clear hs hw4 u4 k0 k1 k2 k3 HB0 HB1 HB2 HU0 HU3 hlg hls hgs
  refine wp_held_tail (Upd [g + 1, g + 1 + 1] w4) ((Upd.refl _ _).drewN 1) [0, 1, 2, 3, 4, 5, 6, 7, 8, 9, 10, 11, 12] [13, 14, 15] (by kernel_rfl) (by kernel_rfl) (fun _ _ _ _ h => h) ?_
  intro hne
  simp only [pick3, List.map_cons, List.map_nil, List.getElem?_cons_zero, List.getElem?_cons_succ, Option.getD_some]
  repeat (go_big_quiet_step (fail))
  refine wpQuiet_nil ?_
  obtain ⟨w5, hw5⟩ : ∃ W, W = w4.drewN 1 := ⟨_, rfl⟩
  have h1 := HK1.out.drewN 1
  have h2 := HK2.out.drewN 1
  have hu5 := HU4.out.drewN 1
  have hC5 : Upd [g + 1, g + 1 + 1] w4 w5 := by rw [hw5]; exact (Upd.refl _ _).drewN 1
  rw [← hw5] at h1 h2 hu5 ⊢
  clear hw5 p0 p1 p2 p3 q0 q1 q2 q3 q4 q5 q6 HU4 HK1 HK2
  obtain ⟨kx, ux⟩ := blk7 h1 (.int .i64 m1) (.int .i64 m2) (.int .i64 m3) (.int .i64 m4) (.slice none 0 0) (.slice none 0 0) (.slice none 0 0)
  obtain ⟨w6, hw6⟩ : ∃ w6, w6 = (((((((w5.setCell ⟨g + 1, 0, none⟩ (.int .i64 m1)).setCell ⟨g + 1, 1, none⟩ (.int .i64 m2)).setCell ⟨g + 1, 2, none⟩ (.int .i64 m3)).setCell ⟨g + 1, 3, none⟩ (.int .i64 m4)).setCell ⟨g + 1, 4, none⟩ (.slice none 0 0)).setCell ⟨g + 1, 5, none⟩ (.slice none 0 0)).setCell ⟨g + 1, 6, none⟩ (.slice none 0 0)) := ⟨_, rfl⟩
  rw [← hw6] at kx ux
  have h26 := h2.upd ux (by simp)
  obtain ⟨ky, uy⟩ := blk7 h26 (.int .i64 a) (.int .i64 b) (.int .i64 d) (.int .i64 e) (.slice none 0 0) (.slice none 0 0) (.slice none 0 0)
  obtain ⟨w7, hw7⟩ : ∃ w7, w7 = (((((((w6.setCell ⟨g + 1 + 1, 0, none⟩ (.int .i64 a)).setCell ⟨g + 1 + 1, 1, none⟩ (.int .i64 b)).setCell ⟨g + 1 + 1, 2, none⟩ (.int .i64 d)).setCell ⟨g + 1 + 1, 3, none⟩ (.int .i64 e)).setCell ⟨g + 1 + 1, 4, none⟩ (.slice none 0 0)).setCell ⟨g + 1 + 1, 5, none⟩ (.slice none 0 0)).setCell ⟨g + 1 + 1, 6, none⟩ (.slice none 0 0)) := ⟨_, rfl⟩
  rw [← hw7] at ky uy
  have kx7 := kx.upd uy (by simp)
  have hfin : Upd [] w w7 := Upd.of_below ((hu5.below (B := w.heap.size) (Nat.le_refl _) (by simp)).trans ((ux.below (B := w.heap.size) hu5.size (fun t ht => by rw [List.mem_singleton] at ht; subst ht; rw [← HG.out]; omega)).trans (uy.below (B := w.heap.size) (Nat.le_trans hu5.size ux.size) (fun t ht => by rw [List.mem_singleton] at ht; subst ht; rw [← HG.out]; omega))))
  have HFIN := Lib.hid hfin
  have HX := Lib.hid kx7
  have HY := Lib.hid ky
  have HW6 := Lib.hid hw6
  have HW7 := Lib.hid hw7
  have c0 := h1.cell 0
  have c1 := h1.cell 1
  have c2 := h1.cell 2
  have c3 := h1.cell 3
  have c4 := h1.cell 4
  have c5 := h1.cell 5
  have c6 := h1.cell 6
  have f0 := h1.frozen 0
  have f1 := h1.frozen 1
  have f2 := h1.frozen 2
  have f3 := h1.frozen 3
  have f4 := h1.frozen 4
  have f5 := h1.frozen 5
  have f6 := h1.frozen 6
  have d0 := h26.cell 0
  have d1 := h26.cell 1
  have d2 := h26.cell 2
  have d3 := h26.cell 3
  have d4 := h26.cell 4
  have d5 := h26.cell 5
  have d6 := h26.cell 6
  have e0 := h26.frozen 0
  have e1 := h26.frozen 1
  have e2 := h26.frozen 2
  have e3 := h26.frozen 3
  have e4 := h26.frozen 4
  have e5 := h26.frozen 5
  have e6 := h26.frozen 6
  simp only [List.getElem?_toArray, List.getElem?_cons_zero, List.getElem?_cons_succ] at c0 c1 c2 c3 c4 c5 c6 d0 d1 d2 d3 d4 d5 d6
  have hC6 : Upd [g + 1, g + 1 + 1] w4 w6 := hC5.next (ux.more (by simp))
  have HC6 := Lib.hid hC6
  have HC7 := Lib.hid (hC6.next (uy.more (by simp)))
  clear h1 h2 h26 hu5 kx ux ky uy kx7 hfin hw6 hw7 hC5 hC6
  refine wpHeld_step rfl fun K hK => ?_
  go_simp
  rw [← HW6.out]
  refine hK.out _ _ (.inr ⟨⟨w6, HC6.out⟩, rfl⟩) ?_
  clear hK K c0 c1 c2 c3 c4 c5 c6 f0 f1 f2 f3 f4 f5 f6
  refine wpHeld_step rfl fun K hK => ?_
  go_simp
  rw [← HW7.out]
  refine hK.out _ _ (.inr ⟨⟨w7, HC7.out⟩, rfl⟩) ?_
  clear hK K
  refine wpHeld_last ?_
  go_wp2
  have r0 := HX.out.cell 0
  have r1 := HX.out.cell 1
  have r2 := HX.out.cell 2
  have r3 := HX.out.cell 3
  have r4 := HX.out.cell 4
  have r5 := HX.out.cell 5
  have r6 := HX.out.cell 6
  have s0 := HY.out.cell 0
  have s1 := HY.out.cell 1
  have s2 := HY.out.cell 2
  have s3 := HY.out.cell 3
  have s4 := HY.out.cell 4
  have s5 := HY.out.cell 5
  have s6 := HY.out.cell 6
  simp only [List.getElem?_toArray, List.getElem?_cons_zero, List.getElem?_cons_succ] at r0 r1 r2 r3 r4 r5 r6 s0 s1 s2 s3 s4 s5 s6
  exact bodyPost_res (v := .tuple #[.agg #[.int .i64 m1, .int .i64 m2, .int .i64 m3, .int .i64 m4, .slice none 0 0, .slice none 0 0, .slice none 0 0], .agg #[.int .i64 a, .int .i64 b, .int .i64 d, .int .i64 e, .slice none 0 0, .slice none 0 0, .slice none 0 0], .bool (er == 0)]) (by simp [results, Try.results11, go_sem, Addr.add, r0, r1, r2, r3, r4, r5, r6, s0, s1, s2, s3, s4, s5, s6]) rfl ⟨rfl, HFIN.out⟩
end Go.Proofs.Ytjcbaelefacolaa
/- slices.IndexFunc at louver/delta.Sub, by the function value louver/delta.Gone$1: the first place. Conditions: what the function value answers; no more than 100000. -/
namespace Go.Proofs.Ytjcbaelefacolaa
open Go Go.RowKit
set_option maxHeartbeats 400000

set_option maxRecDepth 100000 in
theorem idxS4_any {w : World} {A : Option Addr} {n c : Nat} {R : List Sb} (p : Sb → Bool) (z : Option Addr) (h : CellsIn w 0 w.heap.size 5 A n (R.flatMap encB)) (hn : R.length = n) (hl : n ≤ 100000)
    (hp : ∀ W, Upd [] w W → ∀ x, x ∈ R → Calls Try.prog 43 #[.agg (encB x).toArray, .pointer z] W fun e W' => e = .returned (.bool (p x)) ∧ Upd [] W W') :
    Calls Try.prog 73 #[.slice A n c, .func (.func 43) #[] #[.pointer z]] w fun e w' => e = .returned (.int .i64 (idxM p R)) ∧ Upd [] w w' := by
  have HC := Lib.hid h
  have HN := Lib.hid hn
  have HP := Lib.hid hp
  obtain ⟨r, hr⟩ : ∃ r, r = idxM p R := ⟨_, rfl⟩
  rw [← hr]
  have HR := Lib.hid hr
  clear h hn hp hr
  go_enter Try.func73, Try.ntmps73
  go_wp2
  go_loopg [8] n (fun gk x8 wr => ∃ k : Nat, k ≤ n ∧ n ≤ k + gk ∧ x8 = .int .i64 k ∧ (∀ x, x ∈ R.take k → p x = false) ∧ Upd [] w wr)
  case atStart => exact ⟨0, Nat.zero_le _, by omega, rfl, by simp, Upd.refl _ _⟩
  case round =>
    obtain ⟨k, hk, hgk, rfl, hall, hu⟩ := hrel
    by_cases hlt : k < n
    · have hlti : (k : Int) < (n : Int) := by omega
      have hw : IntKind.i64.wrap ((k : Int) + 1) = (k : Int) + 1 := IntWalk.i64_in _ (by omega)
      obtain ⟨x, hx⟩ : ∃ x, R[k]? = some x := ⟨_, List.getElem?_eq_getElem (by rw [HN.out]; exact hlt)⟩
      obtain ⟨b, off, rfl, _, hb, hcc⟩ := HC.out.2 (by omega)
      have HCL := Lib.hid (HP.out wr hu x (List.mem_of_getElem? hx))
      obtain ⟨y, hy⟩ : ∃ y, y = p x := ⟨_, rfl⟩
      rw [← hy] at HCL
      have HX : Hid (y = true → r = (k : Int)) := Lib.hid (fun h => by
        rw [HR.out]
        exact idxM_at hx (by rw [← hy]; exact h) hall)
      have HALL : Hid (y = false → ∀ x, x ∈ R.take (k + 1) → p x = false) := Lib.hid (fun h a ha => by
        rw [List.take_add_one, hx, List.mem_append] at ha
        rcases ha with ha | ha
        · exact hall a ha
        · simp at ha
          rw [ha, ← hy]; exact h)
      have c0 := (hu.cell (p := ⟨b, off + (k * 5 + 0), none⟩) hb (by simp)).trans (hcc (k * 5 + 0) _ (flat_get encB_len R k 0 x hx (by omega)))
      have c1 := (hu.cell (p := ⟨b, off + (k * 5 + 1), none⟩) hb (by simp)).trans (hcc (k * 5 + 1) _ (flat_get encB_len R k 1 x hx (by omega)))
      have c2 := (hu.cell (p := ⟨b, off + (k * 5 + 2), none⟩) hb (by simp)).trans (hcc (k * 5 + 2) _ (flat_get encB_len R k 2 x hx (by omega)))
      have c3 := (hu.cell (p := ⟨b, off + (k * 5 + 3), none⟩) hb (by simp)).trans (hcc (k * 5 + 3) _ (flat_get encB_len R k 3 x hx (by omega)))
      have c4 := (hu.cell (p := ⟨b, off + (k * 5 + 4), none⟩) hb (by simp)).trans (hcc (k * 5 + 4) _ (flat_get encB_len R k 4 x hx (by omega)))
      obtain ⟨x0, x1, x2, x3, x4⟩ := x
      simp only [encB, List.getElem?_cons_zero, List.getElem?_cons_succ, List.getElem_cons_zero, List.getElem_cons_succ, ← Nat.add_assoc, Nat.add_zero] at c0 c1 c2 c3 c4
      simp only [encB] at HCL
      have HU := Lib.hid hu
      clear hall hu hx hb hcc hy
      go_wp2_with fail
      refine HCL.out.mono ?_
      rintro e w1 ⟨rfl, hu1⟩
      have HU1 := Lib.hid (HU.out.next hu1)
      clear hu1 HCL c0 c1 c2 c3 c4
      cases y with
      | true =>
        go_wp2
        go_ret
        exact ⟨ret_int (HX.out (by trivial)).symm, HU1.out⟩
      | false =>
        go_wp2
        go_roundg (gk - 1)
        case measure => omega
        case rel => exact ⟨k + 1, by omega, by omega, by go_num, HALL.out (by trivial), HU1.out⟩
    · obtain rfl : k = n := by omega
      have HU := Lib.hid hu
      have HX : Hid (r = -1) := Lib.hid (by
        rw [HR.out]
        refine idxM_no ?_
        rw [← HN.out, List.take_length] at hall
        exact hall)
      clear hall hu
      go_wp2
      go_ret
      exact ⟨ret_int HX.out.symm, HU.out⟩
end Go.Proofs.Ytjcbaelefacolaa
/- slices.DeleteFunc at louver/delta.Sub, by the function value louver/delta.Gone$1: what stays, in place. Conditions: what the function value answers; no more than 100000. -/
namespace Go.Proofs.Ytjcbaelefacolaa
open Go Go.RowKit
set_option maxHeartbeats 400000

/-- one element stored -/
def delS4_set (w : World) (b i : Nat) (x : Sb) : World := (((((w.setCell ⟨b, i * 5, none⟩ (.int .i64 x.who)).setCell ⟨b, i * 5 + 1, none⟩ (.int .i64 x.track)).setCell ⟨b, i * 5 + 2, none⟩ (.int .i64 x.layer)).setCell ⟨b, i * 5 + 3, none⟩ (.int .i64 x.tid)).setCell ⟨b, i * 5 + 4, none⟩ (.bool x.muted))
theorem delS4_row {w : World} {N b n c i : Nat} {X : List Sb} (h : w.ownsRow N 55 5 (.slice (some ⟨b, 0, none⟩) n c) n (X.flatMap encB)) (hi : i < X.length) (x : Sb) :
    (delS4_set w b i x).ownsRow N 55 5 (.slice (some ⟨b, 0, none⟩) n c) n ((X.set i x).flatMap encB) ∧ Upd [b] w (delS4_set w b i x) := by
  have hy : X[i]? = some X[i] := List.getElem?_eq_getElem hi
  have h1 := (h.stored (i * 5 + 0) (.int .i64 x.who)).1
  rw [flat_set encB_len X i 0 X[i] (⟨x.who, X[i].track, X[i].layer, X[i].tid, X[i].muted⟩ : Sb) _ hy (by omega) rfl] at h1
  have h2 := (h1.stored (i * 5 + 1) (.int .i64 x.track)).1
  rw [flat_set encB_len _ i 1 (⟨x.who, X[i].track, X[i].layer, X[i].tid, X[i].muted⟩ : Sb) (⟨x.who, x.track, X[i].layer, X[i].tid, X[i].muted⟩ : Sb) _ (by rw [List.getElem?_set_self hi]) (by omega) rfl, List.set_set] at h2
  have h3 := (h2.stored (i * 5 + 2) (.int .i64 x.layer)).1
  rw [flat_set encB_len _ i 2 (⟨x.who, x.track, X[i].layer, X[i].tid, X[i].muted⟩ : Sb) (⟨x.who, x.track, x.layer, X[i].tid, X[i].muted⟩ : Sb) _ (by rw [List.getElem?_set_self hi]) (by omega) rfl, List.set_set] at h3
  have h4 := (h3.stored (i * 5 + 3) (.int .i64 x.tid)).1
  rw [flat_set encB_len _ i 3 (⟨x.who, x.track, x.layer, X[i].tid, X[i].muted⟩ : Sb) (⟨x.who, x.track, x.layer, x.tid, X[i].muted⟩ : Sb) _ (by rw [List.getElem?_set_self hi]) (by omega) rfl, List.set_set] at h4
  have h5 := (h4.stored (i * 5 + 4) (.bool x.muted)).1
  rw [flat_set encB_len _ i 4 (⟨x.who, x.track, x.layer, x.tid, X[i].muted⟩ : Sb) x _ (by rw [List.getElem?_set_self hi]) (by omega) rfl, List.set_set] at h5
  exact ⟨h5, (((((Upd.refl [b] w).setCell (p := ⟨b, i * 5, none⟩) (.inl (List.mem_singleton.2 rfl)) _).setCell (p := ⟨b, i * 5 + 1, none⟩) (.inl (List.mem_singleton.2 rfl)) _).setCell (p := ⟨b, i * 5 + 2, none⟩) (.inl (List.mem_singleton.2 rfl)) _).setCell (p := ⟨b, i * 5 + 3, none⟩) (.inl (List.mem_singleton.2 rfl)) _).setCell (p := ⟨b, i * 5 + 4, none⟩) (.inl (List.mem_singleton.2 rfl)) _⟩
set_option maxRecDepth 100000 in
theorem delS4_any {w : World} {N : Nat} {A : Option Addr} {n c : Nat} {R : List Sb} (p : Sb → Bool) (z : Option Addr) (h : w.ownsRow N 55 5 (.slice A n c) n (R.flatMap encB)) (hn : R.length = n) (hl : n ≤ 100000)
    (hp : ∀ W, Upd (A.toList.map (·.block)) w W → ∀ x, x ∈ R → Calls Try.prog 43 #[.agg (encB x).toArray, .pointer z] W fun e W' => e = .returned (.bool (p x)) ∧ Upd [] W W') :
    Calls Try.prog 41 #[.slice A n c, .func (.func 43) #[] #[.pointer z]] w fun e w' =>
      e = .returned (.slice A (R.filter (fun x => !p x)).length c) ∧ w'.ownsRow N 55 5 (.slice A (R.filter (fun x => !p x)).length c) (R.filter (fun x => !p x)).length ((R.filter (fun x => !p x)).flatMap encB) ∧ Upd (A.toList.map (·.block)) w w' := by
  have HO := Lib.hid h
  have HN := Lib.hid hn
  have HP := Lib.hid hp
  have HI := Lib.hid (idxS4_any p z ((CellsIn.of_own h).more (Nat.zero_le _) (Nat.le_refl _)) hn hl (c := c) (fun W u x hx => hp W (u.more (by simp)) x hx))
  obtain ⟨F, hF⟩ : ∃ F, F = R.filter (fun x => !p x) := ⟨_, rfl⟩
  rw [← hF]
  have HF := Lib.hid hF
  clear h hn hp hF
  go_enter Try.func41, Try.ntmps41
  go_wp2_with fail
  refine HI.out.mono ?_
  rintro e w1 ⟨rfl, hu1⟩
  have HU1 := Lib.hid hu1
  clear hu1 HI
  rcases idxM_or p R with ⟨hr, hall⟩ | ⟨i, x, hr, hi, hx, hpx, hall⟩
  · rw [hr]
    have HE : Hid (F = R) := Lib.hid (by rw [HF.out]; exact List.filter_eq_self.2 (fun y hy => by rw [hall y hy]; rfl))
    clear hr hall
    have HG : Hid (F.length = n ∧ w1.ownsRow N 55 5 (.slice A n c) n (F.flatMap encB) ∧ Upd (A.toList.map (·.block)) w w1) :=
      Lib.hid ⟨by rw [HE.out, HN.out], by rw [HE.out]; exact ownsRow_upd HO.out HU1.out (by simp), HU1.out.more (by simp)⟩
    go_wp2
    go_ret
    rw [HG.out.1]
    exact ⟨rfl, HG.out.2⟩
  · rw [hr]
    have hib : i < n := by rw [← HN.out]; exact (List.getElem?_eq_some_iff.1 hx).1
    obtain ⟨A', c', hve, hnc, hA, _⟩ := own_form HO.out
    injection hve with e1 _ e3
    subst e1
    subst e3
    obtain ⟨b, hb, hb1, hb2⟩ := hA (by omega)
    subst hb
    have hwi : IntKind.i64.wrap ((i : Int) + 1) = (i : Int) + 1 := IntWalk.i64_in _ (by omega)
    have hne1 : ¬ (i : Int) = -1 := by omega
    have HM : Hid (∃ X : List Sb, X.length = n ∧ X.take i = (R.take (i + 1)).filter (fun x => !p x) ∧ X.drop (i + 1) = R.drop (i + 1) ∧ w1.ownsRow N 55 5 (.slice (some ⟨b, 0, none⟩) n c) n (X.flatMap encB)) := by
      refine Lib.hid ⟨R, HN.out, ?_, rfl, ownsRow_upd HO.out HU1.out (by simp)⟩
      rw [List.take_add_one, hx, List.filter_append, List.filter_eq_self.2 (fun y hy => by rw [hall y hy]; rfl)]
      simp [hpx]
    clear hr hall hpx hx hA
    go_wp2
    go_loopg [5, 6] n (fun gk x5 x6 wr => ∃ i j : Nat, x5 = .int .i64 i ∧ x6 = .int .i64 j ∧ i < j ∧ j ≤ n ∧ n ≤ j + gk ∧
      (∃ X : List Sb, X.length = n ∧ X.take i = (R.take j).filter (fun x => !p x) ∧ X.drop j = R.drop j ∧ wr.ownsRow N 55 5 (.slice (some ⟨b, 0, none⟩) n c) n (X.flatMap encB)) ∧ Upd [b] w wr)
    case atStart => exact ⟨i, i + 1, rfl, by go_num, by omega, by omega, by omega, HM.out, HU1.out.more (by simp)⟩
    case round =>
      obtain ⟨i, j, rfl, rfl, hij, hjn, hgj, ⟨X, hXl, hXt, hXd, hXr⟩, hu⟩ := hrel
      by_cases hlt : j < n
      · have hltj : (j : Int) < (n : Int) := by omega
        have hin : (i : Int) < (n : Int) := by omega
        have hwj : IntKind.i64.wrap ((j : Int) + 1) = (j : Int) + 1 := IntWalk.i64_in _ (by omega)
        have hwi2 : IntKind.i64.wrap ((i : Int) + 1) = (i : Int) + 1 := IntWalk.i64_in _ (by omega)
        obtain ⟨x, hx⟩ : ∃ x, X[j]? = some x := ⟨_, List.getElem?_eq_getElem (by rw [hXl]; exact hlt)⟩
        have hRx : R[j]? = some x := by
          have := congrArg (fun l => l[0]?) hXd
          simp only [List.getElem?_drop] at this
          rw [← hx]; simpa using this.symm
        have hcell := fun (k : Nat) (u : Value) (hu : (X.flatMap encB)[k]? = some u) => (by
          have := hXr.cells (g := b) rfl k u hu
          by_cases hk : k = 0
          · subst hk; exact this
          · simpa [Addr.add, hk] using this : wr.cell? ⟨b, k, none⟩ = some u)
        have hbw : b < wr.heap.size := (own_block_lt hXr (g := b) rfl).2
        obtain ⟨y, hy⟩ : ∃ y, y = p x := ⟨_, rfl⟩
        have hcl := fun (o : Obj) => HP.out (wr.alloc o) (hu.alloc o) x (List.mem_of_getElem? hRx)
        rw [← hy] at hcl
        have HCL := Lib.hid hcl
        have HXX := Lib.hid (And.intro hXl (And.intro hXt (And.intro hXd hXr)))
        have HSK : Hid (y = true → X.take i = (R.take (j + 1)).filter (fun x => !p x) ∧ X.drop (j + 1) = R.drop (j + 1)) := Lib.hid (fun h => by
          refine ⟨?_, ?_⟩
          · rw [List.take_add_one, hRx, List.filter_append, hXt]
            simp [← hy, h]
          · have := congrArg (List.drop 1) hXd
            simpa [List.drop_drop] using this)
        have HST : Hid (y = false → (X.set i x).take (i + 1) = (R.take (j + 1)).filter (fun x => !p x) ∧ (X.set i x).drop (j + 1) = R.drop (j + 1) ∧ (X.set i x).length = n) := Lib.hid (fun h => by
          refine ⟨?_, ?_, by rw [List.length_set, hXl]⟩
          · have hl : (X.set i x).take (i + 1) = X.take i ++ [x] := by
              rw [List.take_add_one, List.getElem?_set_self (by omega), List.take_set_of_le (Nat.le_refl _)]
              rfl
            rw [hl, List.take_add_one (l := R), hRx, List.filter_append, ← hXt]
            simp [← hy, h]
          · rw [List.drop_set_of_lt (by omega)]
            have := congrArg (List.drop 1) hXd
            simpa [List.drop_drop] using this)
        have HXX2 := Lib.hid hx
        have HU := Lib.hid hu
        have HFILL := Lib.hid (fun (w2 : World) (u : Upd [] wr w2) => delS4_row (ownsRow_upd hXr u (by simp)) (i := i) (by rw [hXl]; omega) x)
        unfold delS4_set at HFILL
        have c0 := hcell (j * 5 + 0) _ (flat_get encB_len X j 0 x hx (by omega))
        have c1 := hcell (j * 5 + 1) _ (flat_get encB_len X j 1 x hx (by omega))
        have c2 := hcell (j * 5 + 2) _ (flat_get encB_len X j 2 x hx (by omega))
        have c3 := hcell (j * 5 + 3) _ (flat_get encB_len X j 3 x hx (by omega))
        have c4 := hcell (j * 5 + 4) _ (flat_get encB_len X j 4 x hx (by omega))
        obtain ⟨x0, x1, x2, x3, x4⟩ := x
        simp only [encB, List.getElem?_cons_zero, List.getElem?_cons_succ, List.getElem_cons_zero, List.getElem_cons_succ, ← Nat.add_assoc, Nat.add_zero] at c0 c1 c2 c3 c4
        simp only [encB] at HCL
        have HCELL := Lib.hid hcell
        have HBN := Lib.hid hbw
        clear hcell hcl hx hRx hXl hXt hXd hXr hu hy
        go_upto_region 8 with fail
        obtain ⟨w2, hw2⟩ : ∃ w2, w2 = wr.alloc (.cells #[.int .i64 x0, .int .i64 x1, .int .i64 x2, .int .i64 x3, .bool x4] 55) := ⟨_, rfl⟩
        obtain ⟨V, hV⟩ : ∃ V, V = wr.heap.size := ⟨_, rfl⟩
        have hBv : Blk w2 V 55 #[.int .i64 x0, .int .i64 x1, .int .i64 x2, .int .i64 x3, .bool x4] := by rw [hw2, hV]; exact Blk.new _ _ _
        have hu2 : Upd [] wr w2 := by rw [hw2]; exact (Upd.refl [] wr).alloc _
        have hcl2 := HCL.out (.cells #[.int .i64 x0, .int .i64 x1, .int .i64 x2, .int .i64 x3, .bool x4] 55)
        rw [← hw2] at hcl2
        rw [← hw2, ← hV]
        have HCL2 := Lib.hid hcl2
        have HBV := Lib.hid hBv
        have HU2 := Lib.hid hu2
        have HVN : Hid (b ≠ V) := Lib.hid (by rw [hV]; have := HBN.out; omega)
        clear hw2 hV hcl2 hu2 HCL c0 c1 c2 c3 c4
        have v0 := hBv.cell 0
        have v1 := hBv.cell 1
        have v2 := hBv.cell 2
        have v3 := hBv.cell 3
        have v4 := hBv.cell 4
        simp only [List.getElem?_toArray, List.getElem?_cons_zero, List.getElem?_cons_succ] at v0 v1 v2 v3 v4
        clear hBv
        go_wp2_with fail
        refine HCL2.out.mono ?_
        rintro e w3 ⟨rfl, hu3⟩
        have HU3 := Lib.hid (HU2.out.next hu3)
        have HU3' := Lib.hid hu3
        clear hu3 HCL2 v0 v1 v2 v3 v4
        cases y with
        | true =>
          have HS := HSK.out (by trivial)
          have HREL : Hid (∃ X : List Sb, X.length = n ∧ X.take i = (R.take (j + 1)).filter (fun x => !p x) ∧ X.drop (j + 1) = R.drop (j + 1) ∧ w3.ownsRow N 55 5 (.slice (some ⟨b, 0, none⟩) n c) n (X.flatMap encB)) :=
            Lib.hid ⟨X, HXX.out.1, HS.1, HS.2, ownsRow_upd HXX.out.2.2.2 HU3.out (by simp)⟩
          clear HS
          go_wp2
          go_roundg (gk - 1)
          case measure => omega
          case rel => exact ⟨i, j + 1, rfl, by go_num, by omega, by omega, by omega, HREL.out, HU.out.next (HU3.out.more (by simp))⟩
        | false =>
          have HS := HST.out (by trivial)
          have hf3 := HFILL.out w3 HU3.out
          obtain ⟨y, hy⟩ : ∃ y, X[i]? = some y := ⟨_, List.getElem?_eq_getElem (by rw [HXX.out.1]; omega)⟩
          have hX3 := ownsRow_upd HXX.out.2.2.2 HU3.out (by simp)
          have hcell2 := fun (k : Nat) (u : Value) (hu : (X.flatMap encB)[k]? = some u) => (by
            have := hX3.cells (g := b) rfl k u hu
            by_cases hk : k = 0
            · subst hk; exact this
            · simpa [Addr.add, hk] using this : w3.cell? ⟨b, k, none⟩ = some u)
          have hfz2 := fun (k : Nat) => (by
            have := hX3.frozenAt k
            by_cases hk : k = 0
            · subst hk; exact this
            · simpa [Addr.add, hk] using this : w3.frozen? ⟨b, k, none⟩ = false)
          have hBx := HBV.out.upd HU3'.out (by simp)
          have e0 := hcell2 (i * 5 + 0) _ (flat_get encB_len X i 0 y hy (by omega))
          have f0 := hfz2 (i * 5 + 0)
          have b0 := hBx.cell 0
          have e1 := hcell2 (i * 5 + 1) _ (flat_get encB_len X i 1 y hy (by omega))
          have f1 := hfz2 (i * 5 + 1)
          have b1 := hBx.cell 1
          have e2 := hcell2 (i * 5 + 2) _ (flat_get encB_len X i 2 y hy (by omega))
          have f2 := hfz2 (i * 5 + 2)
          have b2 := hBx.cell 2
          have e3 := hcell2 (i * 5 + 3) _ (flat_get encB_len X i 3 y hy (by omega))
          have f3 := hfz2 (i * 5 + 3)
          have b3 := hBx.cell 3
          have e4 := hcell2 (i * 5 + 4) _ (flat_get encB_len X i 4 y hy (by omega))
          have f4 := hfz2 (i * 5 + 4)
          have b4 := hBx.cell 4
          simp only [List.getElem?_toArray, List.getElem?_cons_zero, List.getElem?_cons_succ] at b0 b1 b2 b3 b4
          simp only [encB, List.getElem?_cons_zero, List.getElem?_cons_succ, List.getElem_cons_zero, List.getElem_cons_succ, ← Nat.add_assoc, Nat.add_zero] at e0 e1 e2 e3 e4
          simp only [← Nat.add_assoc, Nat.add_zero] at f0 f1 f2 f3 f4
          have hbne := HVN.out
          obtain ⟨w4, hw4⟩ : ∃ w4, w4 = delS4_set w3 b i (⟨x0, x1, x2, x3, x4⟩ : Sb) := ⟨_, rfl⟩
          unfold delS4_set at hw4
          dsimp only at hw4 hf3
          rw [← hw4] at hf3
          have HREL : Hid ((∃ X : List Sb, X.length = n ∧ X.take (i + 1) = (R.take (j + 1)).filter (fun x => !p x) ∧ X.drop (j + 1) = R.drop (j + 1) ∧ w4.ownsRow N 55 5 (.slice (some ⟨b, 0, none⟩) n c) n (X.flatMap encB)) ∧ Upd [b] w w4) :=
            Lib.hid ⟨⟨X.set i (⟨x0, x1, x2, x3, x4⟩ : Sb), HS.2.2, HS.1, HS.2.1, hf3.1⟩, (HU.out.next (HU3.out.more (by simp))).next hf3.2⟩
          clear HS hf3 hX3 hcell2 hfz2 hBx hy HFILL HCELL
          go_upto_region 10 with fail
          rw [← hw4]
          clear hw4 e0 f0 b0 e1 f1 b1 e2 f2 b2 e3 f3 b3 e4 f4 b4
          go_wp2
          go_roundg (gk - 1)
          case measure => omega
          case rel => exact ⟨i + 1, j + 1, by go_num, by go_num, by omega, by omega, by omega, HREL.out.1, HREL.out.2⟩
      · obtain rfl : j = n := by omega
        rw [← HN.out, List.take_length] at hXt
        have hif : i = F.length := by rw [HF.out, ← hXt, List.length_take, hXl]; omega
        obtain ⟨w3, hclr, hrow, hu3⟩ := run_clear_tail (i := i) (size := 5) (P := Try.prog) (t := 29) (ty := 0) (zc := [.int .i64 0, .int .i64 0, .int .i64 0, .int .i64 0, .bool false]) Try.underlying29 (fun w => by kernel_rfl) rfl (by decide) hXr (by omega) (c - i)
        rw [flat_take encB_len, hXt, ← HF.out] at hrow
        have HG := Lib.hid (And.intro hif (And.intro hrow (hu.next hu3)))
        have hcn := hnc
        have hini : (i : Int) < (j : Int) := by omega
        clear hXl hXt hXd hXr hu hrow hu3 hif
        go_wp2
        go_ret
        rw [← HG.out.1]
        exact ⟨rfl, HG.out.2.1, HG.out.2.2⟩
end Go.Proofs.Ytjcbaelefacolaa
/- The layer delta: Gone. Conditions: two states in memory; the second one's subs rise. -/
namespace Go.Proofs.Ytjcbaelefacolaa
open Go Go.RowKit
set_option maxHeartbeats 400000

def goneM (a b : St) : List Sb := a.bs.filter (fun x => !has (cB x.who x.track) b.bs)
theorem RwIn.below {w w' : World} {size n c : Nat} {A : Option Addr} {xs : List Value} (h : RwIn w 0 size A n c xs) (u : Below w.heap.size w w') : RwIn w' 0 size A n c xs :=
  ⟨(h.l.below u (Nat.le_refl _)).more (Nat.le_refl _) u.size, h.nl, h.le, h.cm⟩
theorem StIn.below {w w' : World} {s : St} {h : SHd} (k : StIn w s h) (u : Below w.heap.size w w') : StIn w' s h :=
  ⟨k.p.below u, k.t.below u, k.b.below u, k.tx, fun x hx => (k.ss x hx).below u⟩
set_option maxRecDepth 100000 in
set_option maxHeartbeats 2000000 in
theorem gone_any {w : World} {a b : St} {ha hb : SHd} (hA : StIn w a ha) (hB : StIn w b hb) (hla : a.bs.length ≤ 100000) (hlb : b.bs.length ≤ 100000) (hu : UpB b.bs) :
    Calls Try.prog 17 #[.agg (scells a ha).toArray, .agg (scells b hb).toArray] w fun e w' => ∃ A c, e = .returned (.slice A (goneM a b).length c) ∧ RwIn w' 0 5 A (goneM a b).length c ((goneM a b).flatMap encB) ∧ Upd [] w w' := by
  obtain ⟨W0, hW0⟩ : ∃ W, W = w.alloc (.cells (scells a ha).toArray 31) := ⟨_, rfl⟩
  obtain ⟨W1, hW1⟩ : ∃ W, W = W0.alloc (.cells (scells b hb).toArray 31) := ⟨_, rfl⟩
  obtain ⟨g, hg⟩ : ∃ g, g = w.heap.size := ⟨_, rfl⟩
  have u0 : Upd [] w W0 := by rw [hW0]; exact (Upd.refl [] w).alloc _
  have u1 : Upd [] W0 W1 := by rw [hW1]; exact (Upd.refl [] W0).alloc _
  have z0 : W0.heap.size = g + 1 := by rw [hW0, World.size_alloc, hg]
  have k0 : Blk W1 g 31 (scells a ha).toArray := by
    have : Blk W0 g 31 (scells a ha).toArray := by rw [hW0, hg]; exact Blk.new _ _ _
    exact this.upd u1 (by simp)
  have k1 : Blk W1 (g + 1) 31 (scells b hb).toArray := by rw [hW1, ← z0]; exact Blk.new _ _ _
  have u01 := u0.next u1
  have hc1 := cloneS_any (hA.b.upd u01) hla (flat_ones encB_one a.bs)
  have HF : Hid (∀ (w1 : World) (A' : Option Addr) (c' : Nat), w1.ownsRow W1.heap.size 55 5 (.slice A' a.bs.length c') a.bs.length (a.bs.flatMap encB) → Upd [] W1 w1 →
      Calls Try.prog 41 #[.slice A' a.bs.length c', .func (.func 43) #[] #[.pointer (some ⟨g + 1, 0, none⟩)]] w1 fun e w' =>
        ∃ A c, e = .returned (.slice A (goneM a b).length c) ∧ RwIn w' 0 5 A (goneM a b).length c ((goneM a b).flatMap encB) ∧ Upd [] w w') := Lib.hid (by
    intro w1 A' c' ho hu1
    have u2 := u01.next hu1
    have hlt := k1.lt
    refine (delS4_any (w := w1) (fun x => has (cB x.who x.track) b.bs) (some ⟨g + 1, 0, none⟩) ho rfl hla (fun W2 u x _ => ?_)).mono ?_
    · have hbel : Below w.heap.size w1 W2 := u.below u2.size (fun s hs => by have := (own_in ho s hs).2; have := u01.size; omega)
      exact gone1_any ((k1.upd hu1 (by simp)).upd u (fun hm => by have := (own_in ho _ hm).2; omega)) (hB.b.below ((u2.below (Nat.le_refl _) (by simp)).trans hbel)) hlb hu x
    · rintro e w' ⟨rfl, ho', hu'⟩
      exact ⟨A', c', rfl, (RwIn.of_own ho').more (Nat.zero_le _), Upd.of_below ((u2.below (Nat.le_refl _) (by simp)).trans (hu'.below u2.size (fun s hs => by have := (own_in ho s hs).2; have := u01.size; omega)))⟩)
  have z3 : W1.cell? ⟨g, 6, none⟩ = some (.slice ha.bA a.bs.length ha.bc) := k0.cell 6
  have HC1 := Lib.hid hc1
  obtain ⟨r, hr⟩ : ∃ r, r = goneM a b := ⟨_, rfl⟩
  rw [← hr] at HF ⊢
  clear hc1 k0 k1 u01 u0 u1 z0 hA hB hla hlb hu hr
  unfold scells at hW0 hW1 ⊢
  obtain ⟨n1, hn1⟩ : ∃ n, n = a.ps.length := ⟨_, rfl⟩
  obtain ⟨n2, hn2⟩ : ∃ n, n = a.ts.length := ⟨_, rfl⟩
  obtain ⟨n3, hn3⟩ : ∃ n, n = a.bs.length := ⟨_, rfl⟩
  obtain ⟨m1, hm1⟩ : ∃ n, n = b.ps.length := ⟨_, rfl⟩
  obtain ⟨m2, hm2⟩ : ∃ n, n = b.ts.length := ⟨_, rfl⟩
  obtain ⟨m3, hm3⟩ : ∃ n, n = b.bs.length := ⟨_, rfl⟩
  rw [← hn1, ← hn2, ← hn3] at hW0 ⊢
  rw [← hm1, ← hm2, ← hm3] at hW1 ⊢
  rw [← hn3] at HF HC1 z3
  clear hn1 hn2 hn3 hm1 hm2 hm3
  go_enter Try.func17, Try.ntmps17
  go_upto_region 1 with fail
  rw [← hW0, ← hW1, ← hg]
  clear hW0 hW1 hg
  go_wp2_with fail
  refine HC1.out.mono ?_
  rintro e w1 ⟨A', c', rfl, ho, hu1⟩
  have HD := Lib.hid (HF.out w1 A' c' ho hu1)
  clear ho hu1 HC1 HF z3
  go_wp2_with fail
  refine HD.out.mono ?_
  rintro e w2 ⟨A2, c2, rfl, hr2, hu2⟩
  have HR := Lib.hid hr2
  have HU := Lib.hid hu2
  clear hr2 hu2 HD
  go_wp2
  go_ret
  exact ⟨_, _, rfl, HR.out, HU.out⟩
end Go.Proofs.Ytjcbaelefacolaa
/- The layer delta: the laws' awake answers true. No condition. -/
namespace Go.Proofs.Ytjcbaelefacolaa
open Go Go.RowKit
set_option maxHeartbeats 400000

theorem do_av {w : World} {g : Nat} {s s' : St} {h : SHd} {q : Rq} {qh : SH} {er : Int} (hd : doM s q = (s', er)) (hs : StAv w g s h) (hl : g < w.heap.size) (hi : Inv s) (hQ : QIn w w.heap.size q qh) :
    Calls Try.prog 12 #[.agg (scells s h).toArray, .agg (qcells q qh).toArray] w fun e w' => ∃ h', e = .returned (.tuple #[.agg (scells s' h').toArray, .int .i64 er]) ∧ StAv w' g s' h' ∧ Upd [] w w' := by
  have := do_any hs.st hi hQ
  rw [hd] at this
  exact this.mono fun e w' ⟨h', he, hk, ha, hu⟩ => ⟨h', he, ⟨hk, ha g hl hs.av⟩, hu⟩
theorem inv_is {s s' : St} {q : Rq} {er : Int} (hd : doM s q = (s', er)) (hi : Inv s) : Inv s' := by
  have := inv_do hi q
  rw [hd] at this
  exact this
/-- the state stored into its box, another one's seven cells -/
theorem box7 {w : World} {S : Nat} {s s' : St} {h h' : SHd} (hb : Blk w S 31 (scells s h).toArray) :
    Blk (((((((w.setCell ⟨S, 0, none⟩ (.int .i64 s'.c.people)).setCell ⟨S, 1, none⟩ (.int .i64 s'.c.tracks)).setCell ⟨S, 2, none⟩ (.int .i64 s'.c.subs)).setCell ⟨S, 3, none⟩ (.int .i64 s'.c.slots)).setCell ⟨S, 4, none⟩ (.slice h'.pA s'.ps.length h'.pc)).setCell ⟨S, 5, none⟩ (.slice h'.tA s'.ts.length h'.tc)).setCell ⟨S, 6, none⟩ (.slice h'.bA s'.bs.length h'.bc)) S 31 (scells s' h').toArray
    ∧ Upd [S] w (((((((w.setCell ⟨S, 0, none⟩ (.int .i64 s'.c.people)).setCell ⟨S, 1, none⟩ (.int .i64 s'.c.tracks)).setCell ⟨S, 2, none⟩ (.int .i64 s'.c.subs)).setCell ⟨S, 3, none⟩ (.int .i64 s'.c.slots)).setCell ⟨S, 4, none⟩ (.slice h'.pA s'.ps.length h'.pc)).setCell ⟨S, 5, none⟩ (.slice h'.tA s'.ts.length h'.tc)).setCell ⟨S, 6, none⟩ (.slice h'.bA s'.bs.length h'.bc)) :=
  blk7 (c0 := .int .i64 s.c.people) (c1 := .int .i64 s.c.tracks) (c2 := .int .i64 s.c.subs) (c3 := .int .i64 s.c.slots) (c4 := .slice h.pA s.ps.length h.pc) (c5 := .slice h.tA s.ts.length h.tc) (c6 := .slice h.bA s.bs.length h.bc) hb _ _ _ _ _ _ _
theorem qin_nil (w : World) (B : Nat) (kd who room rights track layer tid : Int) : QIn w B ⟨kd, who, room, rights, track, [], layer, tid⟩ ⟨none, 0⟩ :=
  ⟨CellsIn.nil _ _ _ _ _, fun _ => ⟨rfl, rfl⟩, Nat.le_refl _, by dsimp only; omega, fun x hx => (by cases hx), by simp⟩
theorem qin_one {w : World} {g : Nat} {x : Int} (hx : 0 ≤ x) (h : Blk w g 64 #[.int .u32 x]) (kd who room rights track layer tid : Int) : QIn w w.heap.size ⟨kd, who, room, rights, track, [x], layer, tid⟩ ⟨some ⟨g, 0, none⟩, 1⟩ :=
  ⟨⟨rfl, fun _ => ⟨g, 0, rfl, Nat.zero_le _, h.lt, fun j u hj => by rw [Nat.zero_add, h.cell j]; simpa using hj⟩⟩, fun e => (by cases e), Nat.le_refl _, by dsimp only; omega, fun y hy => by rw [List.mem_singleton] at hy; omega, by simp⟩
def aw0 : St := newM ⟨3, 3, 3, 3⟩
def aw1 : St := ⟨⟨3, 3, 3, 3⟩, [⟨1, 2, 1⟩], [], []⟩
def aw2 : St := ⟨⟨3, 3, 3, 3⟩, [⟨1, 2, 1⟩, ⟨5, 2, 2⟩], [], []⟩
def aw3 : St := ⟨⟨3, 3, 3, 3⟩, [⟨1, 2, 1⟩, ⟨5, 2, 2⟩], [⟨7, 1, 0, [4]⟩], []⟩
def aw4 : St := ⟨⟨3, 3, 3, 3⟩, [⟨1, 2, 1⟩, ⟨5, 2, 2⟩], [⟨7, 1, 0, [4]⟩], [⟨5, 7, 0, 0, false⟩]⟩
def aw5 : St := ⟨⟨3, 3, 3, 3⟩, [⟨5, 2, 2⟩], [], []⟩
theorem aw1_do : doM aw0 ⟨0, 1, 2, 1, 0, [], 0, 0⟩ = (aw1, 0) := by rfl
theorem aw2_do : doM aw1 ⟨0, 5, 2, 2, 0, [], 0, 0⟩ = (aw2, 0) := by rfl
theorem aw3_do : doM aw2 ⟨2, 1, 0, 0, 7, [4], 0, 0⟩ = (aw3, 0) := by rfl
theorem aw4_do : doM aw3 ⟨5, 5, 0, 0, 7, [], 0, 0⟩ = (aw4, 0) := by rfl
theorem aw5_do : doM aw4 ⟨1, 1, 0, 0, 0, [], 0, 0⟩ = (aw5, 0) := by rfl
theorem aw6_do : doM aw4 ⟨2, 5, 0, 0, 8, [5], 0, 0⟩ = (aw4, 24) := by rfl
theorem aw_gone : goneM aw4 aw5 = [⟨5, 7, 0, 0, false⟩] := by rfl
theorem aw0_inv : Inv aw0 := inv_new _ ⟨by decide, by decide⟩ ⟨by decide, by decide⟩ ⟨by decide, by decide⟩ ⟨by decide, by decide⟩
theorem aw1_inv : Inv aw1 := inv_is aw1_do aw0_inv
theorem aw2_inv : Inv aw2 := inv_is aw2_do aw1_inv
theorem aw3_inv : Inv aw3 := inv_is aw3_do aw2_inv
theorem aw4_inv : Inv aw4 := inv_is aw4_do aw3_inv
theorem aw5_inv : Inv aw5 := inv_is aw5_do aw4_inv
theorem confOk3 : confOk ⟨3, 3, 3, 3⟩ = true := by rfl
set_option maxRecDepth 100000 in
set_option maxHeartbeats 4000000 in
theorem awake_any (w : World) : Calls Try.prog 9 #[] w fun e w' => e = .returned (.bool true) ∧ Upd [] w w' := by
  have hn := new_any w ⟨3, 3, 3, 3⟩
  rw [show confM ⟨3, 3, 3, 3⟩ = ⟨3, 3, 3, 3⟩ from rfl, confOk3] at hn
  have HN := Lib.hid hn
  clear hn
  go_enter Try.func9, Try.ntmps9
  go_wp2_with fail
  refine HN.out.mono ?_
  rintro e v0 ⟨rfl, hu0⟩
  have HU0 := Lib.hid hu0
  clear HN hu0
  rw [show scells (newM ⟨3, 3, 3, 3⟩) newHd = [.int .i64 3, .int .i64 3, .int .i64 3, .int .i64 3, .slice none 0 0, .slice none 0 0, .slice none 0 0] from rfl]
  go_upto_region 2 with fail
  obtain ⟨S, hS⟩ : ∃ S, S = v0.heap.size := ⟨_, rfl⟩
  obtain ⟨w0, hw0⟩ : ∃ W, W = v0.alloc (.cells #[.int .i64 3, .int .i64 3, .int .i64 3, .int .i64 3, .slice none 0 0, .slice none 0 0, .slice none 0 0] 31) := ⟨_, rfl⟩
  rw [← hS, ← hw0]
  have hx0 : Upd [] w w0 := HU0.out.next (by rw [hw0]; exact (Upd.refl [] v0).alloc _)
  have HX0 : Hid (Below w.heap.size w w0) := Lib.hid (hx0.below (Nat.le_refl _) (by simp))
  have HWS : Hid (w.heap.size ≤ S) := Lib.hid (by rw [hS]; exact HU0.out.size)
  obtain ⟨h0, hh0⟩ : ∃ h : SHd, h = newHd := ⟨_, rfl⟩
  have HB0 : Hid (Blk w0 S 31 (scells aw0 h0).toArray) := Lib.hid (by rw [hw0, hS, hh0]; exact Blk.new _ _ _)
  have HS0 : Hid (StAv w0 S aw0 h0) := Lib.hid (by rw [hh0]; exact ⟨⟨⟨CellsIn.nil _ _ _ _ _, fun _ => ⟨rfl, rfl⟩, Nat.le_refl _, by unfold newHd; dsimp only; omega⟩, ⟨CellsIn.nil _ _ _ _ _, fun _ => ⟨rfl, rfl⟩, Nat.le_refl _, by unfold newHd; dsimp only; omega⟩, ⟨CellsIn.nil _ _ _ _ _, fun _ => ⟨rfl, rfl⟩, Nat.le_refl _, by unfold newHd; dsimp only; omega⟩, rfl, fun x hx => (by cases hx)⟩, ⟨fun hn => absurd hn (by decide), fun hn => absurd hn (by decide), fun hn => absurd hn (by decide), fun x hx => (by cases hx)⟩⟩)
  clear hS hw0 hx0 hh0 HU0
  have p0 : w0.cell? ⟨S, 0, none⟩ = some (.int .i64 3) := HB0.out.cell 0
  have p1 : w0.cell? ⟨S, 1, none⟩ = some (.int .i64 3) := HB0.out.cell 1
  have p2 : w0.cell? ⟨S, 2, none⟩ = some (.int .i64 3) := HB0.out.cell 2
  have p3 : w0.cell? ⟨S, 3, none⟩ = some (.int .i64 3) := HB0.out.cell 3
  have p4 : w0.cell? ⟨S, 4, none⟩ = some (.slice h0.pA 0 h0.pc) := HB0.out.cell 4
  have p5 : w0.cell? ⟨S, 5, none⟩ = some (.slice h0.tA 0 h0.tc) := HB0.out.cell 5
  have p6 : w0.cell? ⟨S, 6, none⟩ = some (.slice h0.bA 0 h0.bc) := HB0.out.cell 6
  have HD : Hid _ := Lib.hid (do_av aw1_do HS0.out HB0.out.lt aw0_inv (qin_nil w0 w0.heap.size _ _ _ _ _ _ _))
  unfold qcells at HD
  dsimp only [List.length_nil, List.length_cons] at HD
  rw [show scells aw0 h0 = [.int .i64 3, .int .i64 3, .int .i64 3, .int .i64 3, .slice h0.pA 0 h0.pc, .slice h0.tA 0 h0.tc, .slice h0.bA 0 h0.bc] from rfl] at HD
  go_wp2_with fail
  refine HD.out.mono ?_
  rintro e v1 ⟨h1, rfl, hst, hu⟩
  rw [show scells aw1 h1 = [.int .i64 3, .int .i64 3, .int .i64 3, .int .i64 3, .slice h1.pA 1 h1.pc, .slice h1.tA 0 h1.tc, .slice h1.bA 0 h1.bc] from rfl]
  have HST := Lib.hid hst
  have HU : Hid (Upd [] w0 v1) := Lib.hid (hu)
  clear hst hu HD p0 p1 p2 p3 p4 p5 p6
  have hbk := HB0.out.upd HU.out (by simp)
  have c0 : v1.cell? ⟨S, 0, none⟩ = some (.int .i64 3) := hbk.cell 0
  have c1 : v1.cell? ⟨S, 1, none⟩ = some (.int .i64 3) := hbk.cell 1
  have c2 : v1.cell? ⟨S, 2, none⟩ = some (.int .i64 3) := hbk.cell 2
  have c3 : v1.cell? ⟨S, 3, none⟩ = some (.int .i64 3) := hbk.cell 3
  have c4 : v1.cell? ⟨S, 4, none⟩ = some (.slice h0.pA 0 h0.pc) := hbk.cell 4
  have c5 : v1.cell? ⟨S, 5, none⟩ = some (.slice h0.tA 0 h0.tc) := hbk.cell 5
  have c6 : v1.cell? ⟨S, 6, none⟩ = some (.slice h0.bA 0 h0.bc) := hbk.cell 6
  have f0 := hbk.frozen 0
  have f1 := hbk.frozen 1
  have f2 := hbk.frozen 2
  have f3 := hbk.frozen 3
  have f4 := hbk.frozen 4
  have f5 := hbk.frozen 5
  have f6 := hbk.frozen 6
  have hb7 := box7 (s' := aw1) (h' := h1) hbk
  obtain ⟨w1, hw1⟩ : ∃ W, W = (((((((v1.setCell ⟨S, 0, none⟩ (.int .i64 3)).setCell ⟨S, 1, none⟩ (.int .i64 3)).setCell ⟨S, 2, none⟩ (.int .i64 3)).setCell ⟨S, 3, none⟩ (.int .i64 3)).setCell ⟨S, 4, none⟩ (.slice h1.pA 1 h1.pc)).setCell ⟨S, 5, none⟩ (.slice h1.tA 0 h1.tc)).setCell ⟨S, 6, none⟩ (.slice h1.bA 0 h1.bc)) := ⟨_, rfl⟩
  replace hb7 : Blk w1 S 31 (scells aw1 h1).toArray ∧ Upd [S] v1 w1 := by rw [hw1]; exact hb7
  have HW := Lib.hid hw1
  have HB1 := Lib.hid hb7.1
  have HX1 : Hid (Below w.heap.size w w1) := Lib.hid ((HX0.out.trans (HU.out.below HX0.out.size (by simp))).trans (hb7.2.below (Nat.le_trans HX0.out.size HU.out.size) (fun t ht => by rw [List.mem_singleton] at ht; subst ht; exact HWS.out)))
  have HS1 : Hid (StAv w1 S aw1 h1) := Lib.hid (HST.out.past hb7.2)
  clear hbk hb7 hw1 HST HU HB0 HS0 HX0
  go_upto_region 3 with fail
  rw [← HW.out]
  clear HW c0 c1 c2 c3 c4 c5 c6 f0 f1 f2 f3 f4 f5 f6
  have p0 : w1.cell? ⟨S, 0, none⟩ = some (.int .i64 3) := HB1.out.cell 0
  have p1 : w1.cell? ⟨S, 1, none⟩ = some (.int .i64 3) := HB1.out.cell 1
  have p2 : w1.cell? ⟨S, 2, none⟩ = some (.int .i64 3) := HB1.out.cell 2
  have p3 : w1.cell? ⟨S, 3, none⟩ = some (.int .i64 3) := HB1.out.cell 3
  have p4 : w1.cell? ⟨S, 4, none⟩ = some (.slice h1.pA 1 h1.pc) := HB1.out.cell 4
  have p5 : w1.cell? ⟨S, 5, none⟩ = some (.slice h1.tA 0 h1.tc) := HB1.out.cell 5
  have p6 : w1.cell? ⟨S, 6, none⟩ = some (.slice h1.bA 0 h1.bc) := HB1.out.cell 6
  have HD : Hid _ := Lib.hid (do_av aw2_do HS1.out HB1.out.lt aw1_inv (qin_nil w1 w1.heap.size _ _ _ _ _ _ _))
  unfold qcells at HD
  dsimp only [List.length_nil, List.length_cons] at HD
  rw [show scells aw1 h1 = [.int .i64 3, .int .i64 3, .int .i64 3, .int .i64 3, .slice h1.pA 1 h1.pc, .slice h1.tA 0 h1.tc, .slice h1.bA 0 h1.bc] from rfl] at HD
  go_wp2_with fail
  refine HD.out.mono ?_
  rintro e v2 ⟨h2, rfl, hst, hu⟩
  rw [show scells aw2 h2 = [.int .i64 3, .int .i64 3, .int .i64 3, .int .i64 3, .slice h2.pA 2 h2.pc, .slice h2.tA 0 h2.tc, .slice h2.bA 0 h2.bc] from rfl]
  have HST := Lib.hid hst
  have HU : Hid (Upd [] w1 v2) := Lib.hid (hu)
  clear hst hu HD p0 p1 p2 p3 p4 p5 p6
  have hbk := HB1.out.upd HU.out (by simp)
  have c0 : v2.cell? ⟨S, 0, none⟩ = some (.int .i64 3) := hbk.cell 0
  have c1 : v2.cell? ⟨S, 1, none⟩ = some (.int .i64 3) := hbk.cell 1
  have c2 : v2.cell? ⟨S, 2, none⟩ = some (.int .i64 3) := hbk.cell 2
  have c3 : v2.cell? ⟨S, 3, none⟩ = some (.int .i64 3) := hbk.cell 3
  have c4 : v2.cell? ⟨S, 4, none⟩ = some (.slice h1.pA 1 h1.pc) := hbk.cell 4
  have c5 : v2.cell? ⟨S, 5, none⟩ = some (.slice h1.tA 0 h1.tc) := hbk.cell 5
  have c6 : v2.cell? ⟨S, 6, none⟩ = some (.slice h1.bA 0 h1.bc) := hbk.cell 6
  have f0 := hbk.frozen 0
  have f1 := hbk.frozen 1
  have f2 := hbk.frozen 2
  have f3 := hbk.frozen 3
  have f4 := hbk.frozen 4
  have f5 := hbk.frozen 5
  have f6 := hbk.frozen 6
  have hb7 := box7 (s' := aw2) (h' := h2) hbk
  obtain ⟨w2, hw2⟩ : ∃ W, W = (((((((v2.setCell ⟨S, 0, none⟩ (.int .i64 3)).setCell ⟨S, 1, none⟩ (.int .i64 3)).setCell ⟨S, 2, none⟩ (.int .i64 3)).setCell ⟨S, 3, none⟩ (.int .i64 3)).setCell ⟨S, 4, none⟩ (.slice h2.pA 2 h2.pc)).setCell ⟨S, 5, none⟩ (.slice h2.tA 0 h2.tc)).setCell ⟨S, 6, none⟩ (.slice h2.bA 0 h2.bc)) := ⟨_, rfl⟩
  replace hb7 : Blk w2 S 31 (scells aw2 h2).toArray ∧ Upd [S] v2 w2 := by rw [hw2]; exact hb7
  have HW := Lib.hid hw2
  have HB2 := Lib.hid hb7.1
  have HX2 : Hid (Below w.heap.size w w2) := Lib.hid ((HX1.out.trans (HU.out.below HX1.out.size (by simp))).trans (hb7.2.below (Nat.le_trans HX1.out.size HU.out.size) (fun t ht => by rw [List.mem_singleton] at ht; subst ht; exact HWS.out)))
  have HS2 : Hid (StAv w2 S aw2 h2) := Lib.hid (HST.out.past hb7.2)
  clear hbk hb7 hw2 HST HU HB1 HS1 HX1
  go_upto_region 4 with fail
  rw [← HW.out]
  clear HW c0 c1 c2 c3 c4 c5 c6 f0 f1 f2 f3 f4 f5 f6
  have p0 : w2.cell? ⟨S, 0, none⟩ = some (.int .i64 3) := HB2.out.cell 0
  have p1 : w2.cell? ⟨S, 1, none⟩ = some (.int .i64 3) := HB2.out.cell 1
  have p2 : w2.cell? ⟨S, 2, none⟩ = some (.int .i64 3) := HB2.out.cell 2
  have p3 : w2.cell? ⟨S, 3, none⟩ = some (.int .i64 3) := HB2.out.cell 3
  have p4 : w2.cell? ⟨S, 4, none⟩ = some (.slice h2.pA 2 h2.pc) := HB2.out.cell 4
  have p5 : w2.cell? ⟨S, 5, none⟩ = some (.slice h2.tA 0 h2.tc) := HB2.out.cell 5
  have p6 : w2.cell? ⟨S, 6, none⟩ = some (.slice h2.bA 0 h2.bc) := HB2.out.cell 6
  obtain ⟨y3, hy3⟩ : ∃ W, W = w2.alloc (.cells #[.int .u32 4] 64) := ⟨_, rfl⟩
  obtain ⟨gy, hgy⟩ : ∃ g, g = w2.heap.size := ⟨_, rfl⟩
  have hyu : Upd [] w2 y3 := by rw [hy3]; exact (Upd.refl [] w2).alloc _
  have hyb : Blk y3 gy 64 #[.int .u32 4] := by rw [hy3, hgy]; exact Blk.new _ _ _
  have HD : Hid _ := Lib.hid (do_av aw3_do (HS2.out.upd hyu) (Nat.le_trans HB2.out.lt hyu.size) aw2_inv (qin_one (by decide) hyb _ _ _ _ _ _ _))
  have HYU := Lib.hid hyu
  unfold qcells at HD
  dsimp only [List.length_nil, List.length_cons] at HD
  rw [show scells aw2 h2 = [.int .i64 3, .int .i64 3, .int .i64 3, .int .i64 3, .slice h2.pA 2 h2.pc, .slice h2.tA 0 h2.tc, .slice h2.bA 0 h2.bc] from rfl] at HD
  have HYE := Lib.hid hy3
  have HGE := Lib.hid hgy
  clear hyu hyb hy3 hgy
  go_wp2_with fail
  rw [← HYE.out, ← HGE.out]
  refine HD.out.mono ?_
  rintro e v3 ⟨h3, rfl, hst, hu⟩
  rw [show scells aw3 h3 = [.int .i64 3, .int .i64 3, .int .i64 3, .int .i64 3, .slice h3.pA 2 h3.pc, .slice h3.tA 1 h3.tc, .slice h3.bA 0 h3.bc] from rfl]
  have HST := Lib.hid hst
  have HU : Hid (Upd [] w2 v3) := Lib.hid (HYU.out.next hu)
  clear hst hu HD p0 p1 p2 p3 p4 p5 p6
  have hbk := HB2.out.upd HU.out (by simp)
  have c0 : v3.cell? ⟨S, 0, none⟩ = some (.int .i64 3) := hbk.cell 0
  have c1 : v3.cell? ⟨S, 1, none⟩ = some (.int .i64 3) := hbk.cell 1
  have c2 : v3.cell? ⟨S, 2, none⟩ = some (.int .i64 3) := hbk.cell 2
  have c3 : v3.cell? ⟨S, 3, none⟩ = some (.int .i64 3) := hbk.cell 3
  have c4 : v3.cell? ⟨S, 4, none⟩ = some (.slice h2.pA 2 h2.pc) := hbk.cell 4
  have c5 : v3.cell? ⟨S, 5, none⟩ = some (.slice h2.tA 0 h2.tc) := hbk.cell 5
  have c6 : v3.cell? ⟨S, 6, none⟩ = some (.slice h2.bA 0 h2.bc) := hbk.cell 6
  have f0 := hbk.frozen 0
  have f1 := hbk.frozen 1
  have f2 := hbk.frozen 2
  have f3 := hbk.frozen 3
  have f4 := hbk.frozen 4
  have f5 := hbk.frozen 5
  have f6 := hbk.frozen 6
  have hb7 := box7 (s' := aw3) (h' := h3) hbk
  obtain ⟨w3, hw3⟩ : ∃ W, W = (((((((v3.setCell ⟨S, 0, none⟩ (.int .i64 3)).setCell ⟨S, 1, none⟩ (.int .i64 3)).setCell ⟨S, 2, none⟩ (.int .i64 3)).setCell ⟨S, 3, none⟩ (.int .i64 3)).setCell ⟨S, 4, none⟩ (.slice h3.pA 2 h3.pc)).setCell ⟨S, 5, none⟩ (.slice h3.tA 1 h3.tc)).setCell ⟨S, 6, none⟩ (.slice h3.bA 0 h3.bc)) := ⟨_, rfl⟩
  replace hb7 : Blk w3 S 31 (scells aw3 h3).toArray ∧ Upd [S] v3 w3 := by rw [hw3]; exact hb7
  have HW := Lib.hid hw3
  have HB3 := Lib.hid hb7.1
  have HX3 : Hid (Below w.heap.size w w3) := Lib.hid ((HX2.out.trans (HU.out.below HX2.out.size (by simp))).trans (hb7.2.below (Nat.le_trans HX2.out.size HU.out.size) (fun t ht => by rw [List.mem_singleton] at ht; subst ht; exact HWS.out)))
  have HS3 : Hid (StAv w3 S aw3 h3) := Lib.hid (HST.out.past hb7.2)
  clear hbk hb7 hw3 HST HU HB2 HS2 HX2
  go_upto_region 5 with fail
  rw [← HW.out]
  clear HW c0 c1 c2 c3 c4 c5 c6 f0 f1 f2 f3 f4 f5 f6
  clear HYE HGE HYU
  have p0 : w3.cell? ⟨S, 0, none⟩ = some (.int .i64 3) := HB3.out.cell 0
  have p1 : w3.cell? ⟨S, 1, none⟩ = some (.int .i64 3) := HB3.out.cell 1
  have p2 : w3.cell? ⟨S, 2, none⟩ = some (.int .i64 3) := HB3.out.cell 2
  have p3 : w3.cell? ⟨S, 3, none⟩ = some (.int .i64 3) := HB3.out.cell 3
  have p4 : w3.cell? ⟨S, 4, none⟩ = some (.slice h3.pA 2 h3.pc) := HB3.out.cell 4
  have p5 : w3.cell? ⟨S, 5, none⟩ = some (.slice h3.tA 1 h3.tc) := HB3.out.cell 5
  have p6 : w3.cell? ⟨S, 6, none⟩ = some (.slice h3.bA 0 h3.bc) := HB3.out.cell 6
  have HD : Hid _ := Lib.hid (do_av aw4_do HS3.out HB3.out.lt aw3_inv (qin_nil w3 w3.heap.size _ _ _ _ _ _ _))
  unfold qcells at HD
  dsimp only [List.length_nil, List.length_cons] at HD
  rw [show scells aw3 h3 = [.int .i64 3, .int .i64 3, .int .i64 3, .int .i64 3, .slice h3.pA 2 h3.pc, .slice h3.tA 1 h3.tc, .slice h3.bA 0 h3.bc] from rfl] at HD
  go_wp2_with fail
  refine HD.out.mono ?_
  rintro e v4 ⟨h4, rfl, hst, hu⟩
  rw [show scells aw4 h4 = [.int .i64 3, .int .i64 3, .int .i64 3, .int .i64 3, .slice h4.pA 2 h4.pc, .slice h4.tA 1 h4.tc, .slice h4.bA 1 h4.bc] from rfl]
  have HST := Lib.hid hst
  have HU : Hid (Upd [] w3 v4) := Lib.hid (hu)
  clear hst hu HD p0 p1 p2 p3 p4 p5 p6
  have hbk := HB3.out.upd HU.out (by simp)
  have c0 : v4.cell? ⟨S, 0, none⟩ = some (.int .i64 3) := hbk.cell 0
  have c1 : v4.cell? ⟨S, 1, none⟩ = some (.int .i64 3) := hbk.cell 1
  have c2 : v4.cell? ⟨S, 2, none⟩ = some (.int .i64 3) := hbk.cell 2
  have c3 : v4.cell? ⟨S, 3, none⟩ = some (.int .i64 3) := hbk.cell 3
  have c4 : v4.cell? ⟨S, 4, none⟩ = some (.slice h3.pA 2 h3.pc) := hbk.cell 4
  have c5 : v4.cell? ⟨S, 5, none⟩ = some (.slice h3.tA 1 h3.tc) := hbk.cell 5
  have c6 : v4.cell? ⟨S, 6, none⟩ = some (.slice h3.bA 0 h3.bc) := hbk.cell 6
  have f0 := hbk.frozen 0
  have f1 := hbk.frozen 1
  have f2 := hbk.frozen 2
  have f3 := hbk.frozen 3
  have f4 := hbk.frozen 4
  have f5 := hbk.frozen 5
  have f6 := hbk.frozen 6
  have hb7 := box7 (s' := aw4) (h' := h4) hbk
  obtain ⟨w4, hw4⟩ : ∃ W, W = (((((((v4.setCell ⟨S, 0, none⟩ (.int .i64 3)).setCell ⟨S, 1, none⟩ (.int .i64 3)).setCell ⟨S, 2, none⟩ (.int .i64 3)).setCell ⟨S, 3, none⟩ (.int .i64 3)).setCell ⟨S, 4, none⟩ (.slice h4.pA 2 h4.pc)).setCell ⟨S, 5, none⟩ (.slice h4.tA 1 h4.tc)).setCell ⟨S, 6, none⟩ (.slice h4.bA 1 h4.bc)) := ⟨_, rfl⟩
  replace hb7 : Blk w4 S 31 (scells aw4 h4).toArray ∧ Upd [S] v4 w4 := by rw [hw4]; exact hb7
  have HW := Lib.hid hw4
  have HB4 := Lib.hid hb7.1
  have HX4 : Hid (Below w.heap.size w w4) := Lib.hid ((HX3.out.trans (HU.out.below HX3.out.size (by simp))).trans (hb7.2.below (Nat.le_trans HX3.out.size HU.out.size) (fun t ht => by rw [List.mem_singleton] at ht; subst ht; exact HWS.out)))
  have HS4 : Hid (StAv w4 S aw4 h4) := Lib.hid (HST.out.past hb7.2)
  clear hbk hb7 hw4 HST HU HB3 HS3 HX3
  go_upto_region 6 with fail
  rw [← HW.out]
  clear HW c0 c1 c2 c3 c4 c5 c6 f0 f1 f2 f3 f4 f5 f6
  have p0 : w4.cell? ⟨S, 0, none⟩ = some (.int .i64 3) := HB4.out.cell 0
  have p1 : w4.cell? ⟨S, 1, none⟩ = some (.int .i64 3) := HB4.out.cell 1
  have p2 : w4.cell? ⟨S, 2, none⟩ = some (.int .i64 3) := HB4.out.cell 2
  have p3 : w4.cell? ⟨S, 3, none⟩ = some (.int .i64 3) := HB4.out.cell 3
  have p4 : w4.cell? ⟨S, 4, none⟩ = some (.slice h4.pA 2 h4.pc) := HB4.out.cell 4
  have p5 : w4.cell? ⟨S, 5, none⟩ = some (.slice h4.tA 1 h4.tc) := HB4.out.cell 5
  have p6 : w4.cell? ⟨S, 6, none⟩ = some (.slice h4.bA 1 h4.bc) := HB4.out.cell 6
  have HD : Hid _ := Lib.hid (do_av aw5_do HS4.out HB4.out.lt aw4_inv (qin_nil w4 w4.heap.size _ _ _ _ _ _ _))
  unfold qcells at HD
  dsimp only [List.length_nil, List.length_cons] at HD
  rw [show scells aw4 h4 = [.int .i64 3, .int .i64 3, .int .i64 3, .int .i64 3, .slice h4.pA 2 h4.pc, .slice h4.tA 1 h4.tc, .slice h4.bA 1 h4.bc] from rfl] at HD
  go_wp2_with fail
  refine HD.out.mono ?_
  rintro e v5 ⟨h5, rfl, hst, hu⟩
  rw [show scells aw5 h5 = [.int .i64 3, .int .i64 3, .int .i64 3, .int .i64 3, .slice h5.pA 1 h5.pc, .slice h5.tA 0 h5.tc, .slice h5.bA 0 h5.bc] from rfl]
  have HST := Lib.hid hst
  have HU : Hid (Upd [] w4 v5) := Lib.hid (hu)
  clear hst hu HD p0 p1 p2 p3 p4 p5 p6
  go_upto_region 7 with fail
  obtain ⟨V, hV⟩ : ∃ V, V = v5.heap.size := ⟨_, rfl⟩
  obtain ⟨w5, hw5⟩ : ∃ W, W = v5.alloc (.cells #[.int .i64 3, .int .i64 3, .int .i64 3, .int .i64 3, .slice h5.pA 1 h5.pc, .slice h5.tA 0 h5.tc, .slice h5.bA 0 h5.bc] 31) := ⟨_, rfl⟩
  rw [← hV, ← hw5]
  have u5 : Upd [] v5 w5 := by rw [hw5]; exact (Upd.refl [] v5).alloc _
  have u45 := HU.out.next u5
  have HB5 : Hid (Blk w5 S 31 (scells aw4 h4).toArray) := Lib.hid (HB4.out.upd u45 (by simp))
  have HV5 : Hid (Blk w5 V 31 (scells aw5 h5).toArray) := Lib.hid (by rw [hw5, hV]; exact Blk.new _ _ _)
  have HS5 : Hid (StAv w5 S aw4 h4) := Lib.hid (HS4.out.upd u45)
  have HT5 : Hid (StAv w5 S aw5 h5) := Lib.hid (HST.out.upd u5)
  have HX5 : Hid (Below w.heap.size w w5) := Lib.hid (HX4.out.trans (u45.below HX4.out.size (by simp)))
  clear hV hw5 u5 u45 HU HST HB4 HS4 HX4
  have p0 : w5.cell? ⟨S, 0, none⟩ = some (.int .i64 3) := HB5.out.cell 0
  have p1 : w5.cell? ⟨S, 1, none⟩ = some (.int .i64 3) := HB5.out.cell 1
  have p2 : w5.cell? ⟨S, 2, none⟩ = some (.int .i64 3) := HB5.out.cell 2
  have p3 : w5.cell? ⟨S, 3, none⟩ = some (.int .i64 3) := HB5.out.cell 3
  have p4 : w5.cell? ⟨S, 4, none⟩ = some (.slice h4.pA 2 h4.pc) := HB5.out.cell 4
  have p5 : w5.cell? ⟨S, 5, none⟩ = some (.slice h4.tA 1 h4.tc) := HB5.out.cell 5
  have p6 : w5.cell? ⟨S, 6, none⟩ = some (.slice h4.bA 1 h4.bc) := HB5.out.cell 6
  have q0 : w5.cell? ⟨V, 0, none⟩ = some (.int .i64 3) := HV5.out.cell 0
  have q1 : w5.cell? ⟨V, 1, none⟩ = some (.int .i64 3) := HV5.out.cell 1
  have q2 : w5.cell? ⟨V, 2, none⟩ = some (.int .i64 3) := HV5.out.cell 2
  have q3 : w5.cell? ⟨V, 3, none⟩ = some (.int .i64 3) := HV5.out.cell 3
  have q4 : w5.cell? ⟨V, 4, none⟩ = some (.slice h5.pA 1 h5.pc) := HV5.out.cell 4
  have q5 : w5.cell? ⟨V, 5, none⟩ = some (.slice h5.tA 0 h5.tc) := HV5.out.cell 5
  have q6 : w5.cell? ⟨V, 6, none⟩ = some (.slice h5.bA 0 h5.bc) := HV5.out.cell 6
  have HD := Lib.hid (gone_any HS5.out.st HT5.out.st (by decide) (by decide) aw5_inv.ub)
  rw [show scells aw4 h4 = [.int .i64 3, .int .i64 3, .int .i64 3, .int .i64 3, .slice h4.pA 2 h4.pc, .slice h4.tA 1 h4.tc, .slice h4.bA 1 h4.bc] from rfl, show scells aw5 h5 = [.int .i64 3, .int .i64 3, .int .i64 3, .int .i64 3, .slice h5.pA 1 h5.pc, .slice h5.tA 0 h5.tc, .slice h5.bA 0 h5.bc] from rfl, aw_gone] at HD
  dsimp only [List.length_nil, List.length_cons] at HD
  go_wp2_with fail
  refine HD.out.mono ?_
  rintro e v6 ⟨GA, gc, rfl, hgr, hu6⟩
  have HB6 := Lib.hid (HB5.out.upd hu6 (by simp))
  have HV6 := Lib.hid (HV5.out.upd hu6 (by simp))
  have HS6 := Lib.hid (HS5.out.upd hu6)
  have HX6 : Hid (Below w.heap.size w v6) := Lib.hid (HX5.out.trans (hu6.below HX5.out.size (by simp)))
  have HG6 := Lib.hid hgr
  clear hgr hu6 HD HB5 HV5 HS5 HX5 HT5 p0 p1 p2 p3 p4 p5 p6 q0 q1 q2 q3 q4 q5 q6
  go_upto_region 8 with fail
  have p0 : v6.cell? ⟨S, 0, none⟩ = some (.int .i64 3) := HB6.out.cell 0
  have p1 : v6.cell? ⟨S, 1, none⟩ = some (.int .i64 3) := HB6.out.cell 1
  have p2 : v6.cell? ⟨S, 2, none⟩ = some (.int .i64 3) := HB6.out.cell 2
  have p3 : v6.cell? ⟨S, 3, none⟩ = some (.int .i64 3) := HB6.out.cell 3
  have p4 : v6.cell? ⟨S, 4, none⟩ = some (.slice h4.pA 2 h4.pc) := HB6.out.cell 4
  have p5 : v6.cell? ⟨S, 5, none⟩ = some (.slice h4.tA 1 h4.tc) := HB6.out.cell 5
  have p6 : v6.cell? ⟨S, 6, none⟩ = some (.slice h4.bA 1 h4.bc) := HB6.out.cell 6
  obtain ⟨y7, hy7⟩ : ∃ W, W = v6.alloc (.cells #[.int .u32 5] 64) := ⟨_, rfl⟩
  obtain ⟨gy, hgy⟩ : ∃ g, g = v6.heap.size := ⟨_, rfl⟩
  have hyu : Upd [] v6 y7 := by rw [hy7]; exact (Upd.refl [] v6).alloc _
  have hyb : Blk y7 gy 64 #[.int .u32 5] := by rw [hy7, hgy]; exact Blk.new _ _ _
  have HD : Hid _ := Lib.hid (do_av aw6_do (HS6.out.upd hyu) (Nat.le_trans HB6.out.lt hyu.size) aw4_inv (qin_one (by decide) hyb _ _ _ _ _ _ _))
  have HYU := Lib.hid hyu
  unfold qcells at HD
  dsimp only [List.length_nil, List.length_cons] at HD
  rw [show scells aw4 h4 = [.int .i64 3, .int .i64 3, .int .i64 3, .int .i64 3, .slice h4.pA 2 h4.pc, .slice h4.tA 1 h4.tc, .slice h4.bA 1 h4.bc] from rfl] at HD
  have HYE := Lib.hid hy7
  have HGE := Lib.hid hgy
  clear hyu hyb hy7 hgy
  go_wp2_with fail
  rw [← HYE.out, ← HGE.out]
  refine HD.out.mono ?_
  rintro e v7 ⟨h7, rfl, hst, hu⟩
  rw [show scells aw4 h7 = [.int .i64 3, .int .i64 3, .int .i64 3, .int .i64 3, .slice h7.pA 2 h7.pc, .slice h7.tA 1 h7.tc, .slice h7.bA 1 h7.bc] from rfl]
  have HST := Lib.hid hst
  have HU : Hid (Upd [] v6 v7) := Lib.hid (HYU.out.next hu)
  clear hst hu HD p0 p1 p2 p3 p4 p5 p6
  clear HYE HGE HYU
  go_upto_region 9 with fail
  obtain ⟨w7, hw7⟩ : ∃ W, W = v7.alloc (.cells #[.int .i64 3, .int .i64 3, .int .i64 3, .int .i64 3, .slice h7.pA 2 h7.pc, .slice h7.tA 1 h7.tc, .slice h7.bA 1 h7.bc] 31) := ⟨_, rfl⟩
  rw [← hw7]
  have u7 : Upd [] v7 w7 := by rw [hw7]; exact (Upd.refl [] v7).alloc _
  have u67 := HU.out.next u7
  have HX7 : Hid (Below w.heap.size w w7) := Lib.hid (HX6.out.trans (u67.below HX6.out.size (by simp)))
  have hb7 := HB6.out.upd u67 (by simp)
  have hv7 := HV6.out.upd u67 (by simp)
  have hg7 := HG6.out.upd u67
  have p6 : w7.cell? ⟨S, 6, none⟩ = some (.slice h4.bA 1 h4.bc) := hb7.cell 6
  have q4 : w7.cell? ⟨V, 4, none⟩ = some (.slice h5.pA 1 h5.pc) := hv7.cell 4
  have q5 : w7.cell? ⟨V, 5, none⟩ = some (.slice h5.tA 0 h5.tc) := hv7.cell 5
  have q6 : w7.cell? ⟨V, 6, none⟩ = some (.slice h5.bA 0 h5.bc) := hv7.cell 6
  obtain ⟨gb, go, rfl, _, _, hcc⟩ := hg7.l.2 (by omega)
  have g0 : w7.cell? ⟨gb, go, none⟩ = some (.int .i64 5) := hcc 0 _ rfl
  clear hb7 hv7 hg7 hcc hw7 u7 u67 HB6 HV6 HS6 HX6 HG6 HU HST
  go_wp2
  go_ret
  exact ⟨rfl, Upd.of_below HX7.out⟩
end Go.Proofs.Ytjcbaelefacolaa
/- Arguments opened to cells: integers, slices of elements of so many one-cell parts. Plain laws on readings. -/
namespace Go.Proofs.Ytjcbaelefacolaa
open Go Go.RowKit Go.ChangeShapes Go.WideShapes Go.Deep

theorem flat_one {α β : Type} (f : α → β) (l : List α) : l.flatMap (fun a => [f a]) = l.map f := by
  induction l with
  | nil => rfl
  | cons a l ih => rw [List.flatMap_cons, ih]; rfl

theorem cell_lt {w : World} {a : Addr} {v : Value} (h : w.cell? a = some v) : a.block < w.heap.size := by
  rcases Nat.lt_or_ge a.block w.heap.size with h1 | h1
  · exact h1
  · exfalso
    have h2 : w.heap[a.block]? = none := Array.getElem?_eq_none h1
    have h3 := World.cell?_of_block (w := w) (w' := { w with heap := #[] }) (a := a) (by rw [h2]; rfl)
    rw [h] at h3
    have h4 : (({ w with heap := #[] } : World).cell? a) = none := by simp [World.cell?]
    rw [h4] at h3
    cases h3

section
variable {H : Type} {enc : TypeId × Value → H} {P : Program} {w : World} {base : Nat} {spare : Nat → Bool} {held : Bool}

/-- A slice, element by element: whatever of an element's cells the reading tells. -/
theorem rd_slice {α : Type} {t e : TypeId} {size fuel : Nat} {cs : List Value} {x : DataW H × List MemPlace} (R : List Value → α → Prop) (ht : P.underlying t = some (.slice e)) (hC : P.cellsOf e = size) (h0 : 0 < size)
    (hR : ∀ n cs' y, cs'.length = size → DataW.trod enc P w base spare held n e cs' = some y → ∃ z, R cs' z) (hf : DataW.trod enc P w base spare held fuel t cs = some x) :
    ∃ (A : Option Addr) (len cap : Nat) (l : List α), cs = [.slice A len cap] ∧ len ≤ cap ∧ cap ≤ maxLen ∧ l.length = len ∧
      (0 < len → ∃ b off, A = some ⟨b, off, none⟩ ∧ b < w.heap.size ∧ ∀ (i : Nat) (z : α), l[i]? = some z → ∃ ci, R ci z ∧ ci.length = size ∧ ∀ j, j < size → w.cell? ⟨b, off + i * size + j, none⟩ = ci[j]?) := by
  rcases open_slice ht hf with ⟨hcs, _⟩ | ⟨a, len, cap, m, n, D, Pl, hcs, hb, hl, hm, hmm, hx, hi⟩
  · exact ⟨none, 0, 0, [], hcs, Nat.le_refl _, Nat.zero_le _, rfl, fun h => absurd h (Nat.lt_irrefl 0)⟩
  · have hlm : len ≤ m := by rw [hmm]; split <;> omega
    have each : ∀ i, i < len → ∃ z ci, R ci z ∧ ci.length = size ∧ ∀ j, j < size → w.cell? ((a.add (i * size)).add j) = ci[j]? := by
      intro i hil
      obtain ⟨cs', hc, ht'⟩ := hi i (by omega)
      rw [hC] at hc
      obtain ⟨_, hcl, hat⟩ := World.cells?_some hc
      obtain ⟨z, hz⟩ := hR n cs' _ hcl ht'
      exact ⟨z, cs', hz, hcl, hat⟩
    have list : ∀ k, k ≤ len → ∃ l : List α, l.length = k ∧ ∀ (i : Nat) (z : α), l[i]? = some z → ∃ ci, R ci z ∧ ci.length = size ∧ ∀ j, j < size → w.cell? ((a.add (i * size)).add j) = ci[j]? := by
      intro k
      induction k with
      | zero => intro _; exact ⟨[], rfl, fun i z h => by simp at h⟩
      | succ k ih =>
        intro hk
        obtain ⟨l, hll, hla⟩ := ih (by omega)
        obtain ⟨z, hz⟩ := each k (by omega)
        refine ⟨l ++ [z], by simp [hll], fun i y hy => ?_⟩
        rcases Nat.lt_or_ge i l.length with h1 | h1
        · rw [List.getElem?_append_left h1] at hy
          exact hla i y hy
        · rw [List.getElem?_append_right h1] at hy
          have h2 : i - l.length = 0 := by
            rcases Nat.eq_zero_or_pos (i - l.length) with h | h
            · exact h
            · rw [List.getElem?_eq_none (by simp; omega)] at hy; cases hy
          rw [h2] at hy
          obtain rfl : z = y := by simpa using hy
          obtain rfl : i = k := by omega
          exact hz
    obtain ⟨l, hll, hla⟩ := list len (Nat.le_refl _)
    refine ⟨some a, len, cap, l, hcs, hl, hm, hll, fun hpos => ?_⟩
    have hl0 : 0 < l.length := by omega
    obtain ⟨c0, _, hcl, h00⟩ := hla 0 l[0] (List.getElem?_eq_getElem hl0)
    have hcell := h00 0 h0
    rw [List.getElem?_eq_getElem (by omega)] at hcell
    have hadd : (a.add (0 * size)).add 0 = a := by simp [Addr.add]
    rw [hadd] at hcell
    have hspot := World.cell?_spot hcell
    obtain ⟨b, off, spot⟩ := a
    dsimp only at hspot
    subst hspot
    refine ⟨b, off, rfl, cell_lt hcell, fun i z hz => ?_⟩
    obtain ⟨ci, hr, hc1, hc2⟩ := hla i z hz
    refine ⟨ci, hr, hc1, fun j hj => ?_⟩
    have := hc2 j hj
    rw [← this]
    unfold Addr.add
    by_cases e1 : i * size = 0 <;> by_cases e2 : j = 0 <;> simp [e1, e2, Nat.add_assoc]

/-- .. where the cells are a function of what they read as. -/
theorem rd_cells {α : Type} {t e : TypeId} {size fuel : Nat} {cs : List Value} {x : DataW H × List MemPlace} (f : α → List Value) (ht : P.underlying t = some (.slice e)) (hC : P.cellsOf e = size) (h0 : 0 < size)
    (hR : ∀ n cs' y, cs'.length = size → DataW.trod enc P w base spare held n e cs' = some y → ∃ z, cs' = f z) (hlen : ∀ z, (f z).length = size) (hf : DataW.trod enc P w base spare held fuel t cs = some x) :
    ∃ (A : Option Addr) (len cap : Nat) (l : List α), cs = [.slice A len cap] ∧ len ≤ cap ∧ cap ≤ maxLen ∧ l.length = len ∧ Cells w w.heap.size size A len (l.flatMap f) := by
  obtain ⟨A, len, cap, l, h1, h2, h3, h4, h5⟩ := rd_slice (fun c z => c = f z) ht hC h0 hR hf
  have hfl : ∀ l : List α, (l.flatMap f).length = l.length * size := by
    intro l
    induction l with
    | nil => simp
    | cons a l ih => rw [List.flatMap_cons, List.length_append, ih, hlen, List.length_cons, Nat.succ_mul, Nat.add_comm]
  have hget : ∀ (l : List α) (i j : Nat) (z : α), l[i]? = some z → j < size → (l.flatMap f)[i * size + j]? = (f z)[j]? := by
    intro l
    induction l with
    | nil => intro i j z h; simp at h
    | cons a l ih =>
      intro i j z h hj
      rw [List.flatMap_cons]
      cases i with
      | zero =>
        obtain rfl : a = z := by simpa using h
        rw [Nat.zero_mul, Nat.zero_add, List.getElem?_append_left (by rw [hlen]; exact hj)]
      | succ i =>
        rw [List.getElem?_append_right (by rw [hlen, Nat.succ_mul]; omega), hlen, Nat.succ_mul, show i * size + size + j - size = i * size + j by omega]
        exact ih i j z (by simpa using h) hj
  refine ⟨A, len, cap, l, h1, h2, h3, h4, by rw [hfl, h4], fun hpos => ?_⟩
  obtain ⟨b, off, hA, hb, hc⟩ := h5 hpos
  refine ⟨b, off, hA, hb, fun j u hu => ?_⟩
  have hjl : j < l.length * size := by
    rcases Nat.lt_or_ge j (l.length * size) with h | h
    · exact h
    · rw [List.getElem?_eq_none (by rw [hfl]; exact h)] at hu; cases hu
  have hdiv : j / size < l.length := Nat.div_lt_of_lt_mul (by rw [Nat.mul_comm]; exact hjl)
  have hmod : j % size < size := Nat.mod_lt _ h0
  have hj : j = j / size * size + j % size := by rw [Nat.mul_comm]; exact (Nat.div_add_mod j size).symm
  obtain ⟨ci, hci, _, hcj⟩ := hc (j / size) l[j / size] (List.getElem?_eq_getElem hdiv)
  have h6 := hcj (j % size) hmod
  rw [Nat.add_assoc, ← hj] at h6
  rw [h6, hci]
  rw [hj, hget l _ _ _ (List.getElem?_eq_getElem hdiv) hmod] at hu
  exact hu

theorem rd_int {t : TypeId} {n : Nat} {cs : List Value} {y : DataW H × List MemPlace} {k : IntKind} (ht : P.underlying t = some (.int k)) (h : DataW.trod enc P w base spare held n t cs = some y) :
    ∃ z : Int, cs = [.int k z] ∧ (Lit.int k z).wf = true := by
  obtain ⟨z, h1, _, h3⟩ := DataW.trod_int ht h
  exact ⟨z, h1, h3⟩

/-- A struct of one-cell fields: each field's cell, with its own reading. -/
theorem rd_struct {t : TypeId} {fs : Array Field} {n : Nat} {cs : List Value} {y : DataW H × List MemPlace} (ht : P.underlying t = some (.struct fs)) (hone : oneCellFields P fs = true)
    (h : DataW.trod enc P w base spare held n t cs = some y) : ∃ m, ∀ (j : Nat) (f : Field) (v : Value), fs[j]? = some f → cs[j]? = some v → ∃ z, DataW.trod enc P w base spare held m f.type [v] = some z := by
  obtain ⟨ys, n', _, _, _, hyl, hf⟩ := DataW.trod_struct ht h
  refine ⟨n', fun j f v hj hv => ?_⟩
  obtain ⟨ho, hk⟩ := hone_of hone j f hj
  have h1 := hf j f hj
  rw [ho, hk] at h1
  have hjl : j < fs.size := (Array.getElem?_eq_some_iff.1 hj).1
  obtain ⟨hjc, hv'⟩ := List.getElem?_eq_some_iff.1 hv
  have h2 : (cs.drop j).take 1 = [v] := by
    rw [List.drop_eq_getElem_cons hjc, hv']; rfl
  rw [h2, List.getElem?_eq_getElem (by omega)] at h1
  exact ⟨_, h1⟩
end

end Go.Proofs.Ytjcbaelefacolaa
/- A struct with fields of several cells, field by field. Plain law on readings. -/
namespace Go.Proofs.Ytjcbaelefacolaa
open Go Go.RowKit Go.ChangeShapes Go.WideShapes Go.Deep

section
variable {H : Type} {enc : TypeId × Value → H} {P : Program} {w : World} {base : Nat} {spare : Nat → Bool} {held : Bool}
theorem rd_fields {t : TypeId} {fs : Array Field} {n : Nat} {cs : List Value} {y : DataW H × List MemPlace} (ht : P.underlying t = some (.struct fs))
    (h : DataW.trod enc P w base spare held n t cs = some y) : ∃ m, ∀ (j : Nat) (f : Field) (e : TypeId) (o k : Nat), fs[j]? = some f → f.type = e → f.offset = o → P.cellsOf e = k → ∃ z, DataW.trod enc P w base spare held m e ((cs.drop o).take k) = some z := by
  obtain ⟨ys, n', _, _, _, hyl, hf⟩ := DataW.trod_struct ht h
  refine ⟨n', fun j f e o k hj he ho hk => ?_⟩
  have h1 := hf j f hj
  rw [ho, he, hk] at h1
  have hjl : j < fs.size := (Array.getElem?_eq_some_iff.1 hj).1
  rw [List.getElem?_eq_getElem (by omega)] at h1
  exact ⟨_, h1⟩
end
end Go.Proofs.Ytjcbaelefacolaa
