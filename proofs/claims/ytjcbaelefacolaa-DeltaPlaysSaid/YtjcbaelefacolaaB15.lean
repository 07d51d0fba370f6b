/- Parts of the proof, one behind the other: DPlays. No condition of their own. -/
import Derived.Test.YtjcbaelefacolaaB13
import Derived.Test.YtjcbaelefacolaaB14
import Derived.Test.YtjcbaelefacolaaB7
import Derived.Test.YtjcbaelefacolaaB6
/- DeltaPlays: the walk. -/
namespace Go.Proofs.Ytjcbaelefacolaa
open Go Go.RowKit
set_option maxHeartbeats 400000
/-- the document's state in memory, beside the program's -/
structure DocIn (w : World) (S : Nat) (s : St) (h hd : SHd) : Prop where
  box : Blk w (S + 1) 37 (scells s hd).toArray
  st : StIn w s hd
  a0 : Av S s hd
  a1 : Av (S + 1) s hd
  p1 : Av (S + 1) s h
theorem DocIn.upd {w w' : World} {S : Nat} {s : St} {h hd : SHd} (k : DocIn w S s h hd) (u : Upd [] w w') : DocIn w' S s h hd := ⟨k.box.upd u (by simp), k.st.upd u, k.a0, k.a1, k.p1⟩

set_option maxRecDepth 100000 in
set_option maxHeartbeats 16000000 in
theorem plays_any (c : Cf) (A : Option Addr) (cap : Nat) (l : List (Rq × SH)) (w : World) (hl : l.length ≤ 9223372036854775807) (hc : CellsIn w 0 w.heap.size 8 A l.length (l.flatMap encQ)) (hx : ∀ x, x ∈ l → RqIn w x.1 x.2) :
    Calls Try.prog 3 #[.agg #[.int .i64 c.people, .int .i64 c.tracks, .int .i64 c.subs, .int .i64 c.slots], .slice A l.length cap] w fun e w' => e = .returned (.bool true) ∧ Below w.heap.size w w' := by
  obtain ⟨W0, hW0⟩ : ∃ W, W = w.alloc (.cells #[.int .i64 c.people, .int .i64 c.tracks, .int .i64 c.subs, .int .i64 c.slots] 23) := ⟨_, rfl⟩
  obtain ⟨g, hg⟩ : ∃ g, g = w.heap.size := ⟨_, rfl⟩
  have hu0 : Upd [] w W0 := by rw [hW0]; exact (Upd.refl [] w).alloc _
  have hb0 : Blk W0 g 23 #[.int .i64 c.people, .int .i64 c.tracks, .int .i64 c.subs, .int .i64 c.slots] := by rw [hW0, hg]; exact Blk.new _ _ _
  have HC := Lib.hid hc
  have HRX := Lib.hid hx
  have HU0 := Lib.hid hu0
  have HB0 := Lib.hid hb0
  have HF := Lib.hid (fun (W : World) (u : Upd [] w W) => few_any (cap := cap) ((hc.below (u.below (Nat.le_refl _) (by simp)) (Nat.le_refl _)).more (Nat.le_refl _) u.size) hl)
  obtain ⟨L, hL⟩ : ∃ L, L = l.length := ⟨_, rfl⟩
  have HL := Lib.hid hL
  obtain ⟨b1, hb1⟩ : ∃ b, b = fewQ (l.map (·.1)) := ⟨_, rfl⟩
  have HB1 := Lib.hid hb1
  obtain ⟨b2, hb2⟩ : ∃ b, b = confOk c := ⟨_, rfl⟩
  have HB2 := Lib.hid hb2
  have HBG := Lib.hid (fun (W : World) => begun_any W c)
  rw [← hb2] at HBG
  rw [← hb1, ← hL] at HF
  rw [← hL] at hl ⊢
  clear hb1 hb2 hL hc hx hu0 hb0
  go_enter Try.func3, Try.ntmps3
  go_upto_region 1 with fail
  rw [← hW0, ← hg]
  have HG := Lib.hid hg
  clear hW0 hg
  go_wp2_with fail
  refine (awake_any _).mono ?_
  rintro _ w1 ⟨rfl, hu1⟩
  have HU1 := Lib.hid (HU0.out.next hu1)
  have HB01 := Lib.hid (HB0.out.upd hu1 (by simp))
  clear hu1 HU0 HB0
  go_wp2_with fail
  refine (HF.out _ HU1.out).mono ?_
  rintro _ w1' ⟨rfl, hw1⟩
  replace hw1 := hw1.symm
  subst hw1
  go_upto_region 5 with fail
  have g0 : w1.cell? ⟨g, 0, none⟩ = some (.int .i64 c.people) := HB01.out.cell 0
  have g1 : w1.cell? ⟨g, 1, none⟩ = some (.int .i64 c.tracks) := HB01.out.cell 1
  have g2 : w1.cell? ⟨g, 2, none⟩ = some (.int .i64 c.subs) := HB01.out.cell 2
  have g3 : w1.cell? ⟨g, 3, none⟩ = some (.int .i64 c.slots) := HB01.out.cell 3
  rw [show scells (newM (confM c)) newHd = [.int .i64 (confM c).people, .int .i64 (confM c).tracks, .int .i64 (confM c).subs, .int .i64 (confM c).slots, .slice none 0 0, .slice none 0 0, .slice none 0 0] from rfl] at HBG
  go_wp2_with fail
  refine (HBG.out _).mono ?_
  rintro _ w2 ⟨rfl, hu2⟩
  have HU2 := Lib.hid (HU1.out.next hu2)
  have HBC2 := Lib.hid (HB01.out.upd hu2 (by simp))
  clear hu2 HU1 HB01 g0 g1 g2 g3 HF HBG
  go_upto_region 6 with fail
  obtain ⟨S, hS⟩ : ∃ S, S = w2.heap.size := ⟨_, rfl⟩
  obtain ⟨m, hm⟩ : ∃ m, m = confM c := ⟨_, rfl⟩
  rw [← hm]
  obtain ⟨w3, hw3⟩ : ∃ W, W = w2.alloc (.cells #[.int .i64 m.people, .int .i64 m.tracks, .int .i64 m.subs, .int .i64 m.slots, .slice none 0 0, .slice none 0 0, .slice none 0 0] 31) := ⟨_, rfl⟩
  obtain ⟨w4, hw4⟩ : ∃ W, W = w3.alloc (.cells #[.int .i64 c.people, .int .i64 c.tracks, .int .i64 c.subs, .int .i64 c.slots, .slice none 0 0, .slice none 0 0, .slice none 0 0] 37) := ⟨_, rfl⟩
  rw [← hS, ← hw3, ← hw4]
  have u3 : Upd [] w2 w3 := by rw [hw3]; exact (Upd.refl [] w2).alloc _
  have u4 : Upd [] w3 w4 := by rw [hw4]; exact (Upd.refl [] w3).alloc _
  have HU4 : Hid (Upd [] w w4) := Lib.hid ((HU2.out.next u3).next u4)
  have HB4 : Hid (Blk w4 S 31 (scells (newM m) newHd).toArray) := Lib.hid (by
    have : Blk w3 S 31 (scells (newM m) newHd).toArray := by rw [hw3, hS]; exact Blk.new _ _ _
    exact this.upd u4 (by simp))
  have HWS : Hid (w.heap.size ≤ S) := Lib.hid (by rw [hS]; exact HU2.out.size)
  have HM := Lib.hid hm
  have s3 : w3.heap.size = S + 1 := by rw [hw3, World.size_alloc, hS]
  have HD4 : Hid (Blk w4 (S + 1) 37 #[.int .i64 c.people, .int .i64 c.tracks, .int .i64 c.subs, .int .i64 c.slots, .slice none 0 0, .slice none 0 0, .slice none 0 0]) := Lib.hid (by rw [hw4, ← s3]; exact Blk.new _ _ _)
  have HBC4 := Lib.hid ((HBC2.out.upd u3 (by simp)).upd u4 (by simp))
  clear s3 HBC2
  clear hS hw3 hw4 u3 u4 HU2 hm
  have g0 : w4.cell? ⟨g, 0, none⟩ = some (.int .i64 c.people) := HBC4.out.cell 0
  have g1 : w4.cell? ⟨g, 1, none⟩ = some (.int .i64 c.tracks) := HBC4.out.cell 1
  have g2 : w4.cell? ⟨g, 2, none⟩ = some (.int .i64 c.subs) := HBC4.out.cell 2
  have g3 : w4.cell? ⟨g, 3, none⟩ = some (.int .i64 c.slots) := HBC4.out.cell 3
  go_cut [10] (fun v wd => v = .bool b2 ∧ w4 = wd)
  case first =>
    by_cases a0 : 1 ≤ c.people
    · have d0 : decide (1 ≤ c.people) = true := decide_eq_true a0
      by_cases a1 : c.people ≤ 16
      · have d1 : decide (c.people ≤ 16) = true := decide_eq_true a1
        by_cases a2 : 1 ≤ c.tracks
        · have d2 : decide (1 ≤ c.tracks) = true := decide_eq_true a2
          by_cases a3 : c.tracks ≤ 16
          · have d3 : decide (c.tracks ≤ 16) = true := decide_eq_true a3
            by_cases a4 : 1 ≤ c.subs
            · have d4 : decide (1 ≤ c.subs) = true := decide_eq_true a4
              by_cases a5 : c.subs ≤ 16
              · have d5 : decide (c.subs ≤ 16) = true := decide_eq_true a5
                by_cases a6 : 1 ≤ c.slots
                · have d6 : decide (1 ≤ c.slots) = true := decide_eq_true a6
                  by_cases a7 : c.slots ≤ 64
                  · have d7 : decide (c.slots ≤ 64) = true := decide_eq_true a7
                    have h9 : Hid (b2 = true) := Lib.hid (by rw [HB2.out]; unfold confOk; rw [decide_eq_true_eq]; omega)
                    clear HB2
                    go_wp2
                    go_meet
                    case rel => exact ⟨by rw [h9.out], rfl⟩
                  · have d7 : decide (c.slots ≤ 64) = false := decide_eq_false a7
                    have h9 : Hid (b2 = false) := Lib.hid (by rw [HB2.out]; unfold confOk; rw [decide_eq_false_iff_not]; omega)
                    clear HB2
                    go_wp2
                    go_meet
                    case rel => exact ⟨by rw [h9.out], rfl⟩
                · have d6 : decide (1 ≤ c.slots) = false := decide_eq_false a6
                  have h9 : Hid (b2 = false) := Lib.hid (by rw [HB2.out]; unfold confOk; rw [decide_eq_false_iff_not]; omega)
                  clear HB2
                  go_wp2
                  go_meet
                  case rel => exact ⟨by rw [h9.out], rfl⟩
              · have d5 : decide (c.subs ≤ 16) = false := decide_eq_false a5
                have h9 : Hid (b2 = false) := Lib.hid (by rw [HB2.out]; unfold confOk; rw [decide_eq_false_iff_not]; omega)
                clear HB2
                go_wp2
                go_meet
                case rel => exact ⟨by rw [h9.out], rfl⟩
            · have d4 : decide (1 ≤ c.subs) = false := decide_eq_false a4
              have h9 : Hid (b2 = false) := Lib.hid (by rw [HB2.out]; unfold confOk; rw [decide_eq_false_iff_not]; omega)
              clear HB2
              go_wp2
              go_meet
              case rel => exact ⟨by rw [h9.out], rfl⟩
          · have d3 : decide (c.tracks ≤ 16) = false := decide_eq_false a3
            have h9 : Hid (b2 = false) := Lib.hid (by rw [HB2.out]; unfold confOk; rw [decide_eq_false_iff_not]; omega)
            clear HB2
            go_wp2
            go_meet
            case rel => exact ⟨by rw [h9.out], rfl⟩
        · have d2 : decide (1 ≤ c.tracks) = false := decide_eq_false a2
          have h9 : Hid (b2 = false) := Lib.hid (by rw [HB2.out]; unfold confOk; rw [decide_eq_false_iff_not]; omega)
          clear HB2
          go_wp2
          go_meet
          case rel => exact ⟨by rw [h9.out], rfl⟩
      · have d1 : decide (c.people ≤ 16) = false := decide_eq_false a1
        have h9 : Hid (b2 = false) := Lib.hid (by rw [HB2.out]; unfold confOk; rw [decide_eq_false_iff_not]; omega)
        clear HB2
        go_wp2
        go_meet
        case rel => exact ⟨by rw [h9.out], rfl⟩
    · have d0 : decide (1 ≤ c.people) = false := decide_eq_false a0
      have h9 : Hid (b2 = false) := Lib.hid (by rw [HB2.out]; unfold confOk; rw [decide_eq_false_iff_not]; omega)
      clear HB2
      go_wp2
      go_meet
      case rel => exact ⟨by rw [h9.out], rfl⟩
  obtain ⟨rfl, hwc⟩ := hcut
  subst hwc
  clear g0 g1 g2 g3 HBC4
  cases b1 with
  | false =>
    cases b2 <;> (
    go_wp2
    go_ret
    exact ⟨rfl, HU4.out.below (Nat.le_refl _) (by simp)⟩)
  | true =>
  cases b2 with
  | false =>
    go_wp2
    go_ret
    exact ⟨rfl, HU4.out.below (Nat.le_refl _) (by simp)⟩
  | true =>
  have hmc : m = c := by rw [HM.out]; unfold confM; rw [← HB2.out]; rfl
  subst hmc
  have HIV : Hid (Inv (newM m)) := Lib.hid (by
    have := HB2.out.symm
    unfold confOk at this
    simp only [decide_eq_true_eq] at this
    exact inv_new m ⟨by omega, by omega⟩ ⟨by omega, by omega⟩ ⟨by omega, by omega⟩ ⟨by omega, by omega⟩)
  have HQ6 : Hid (∀ x, x ∈ l → x.1.ss.length ≤ 6) := Lib.hid (fun x hx => by
    have := HB1.out.symm
    unfold fewQ at this
    simp only [Bool.and_eq_true, List.all_eq_true, decide_eq_true_eq] at this
    exact this.1 x.1 (List.mem_map.2 ⟨x, hx, rfl⟩))
  have HS4 : Hid (StAv w4 S (newM m) newHd) := Lib.hid ⟨⟨⟨CellsIn.nil _ _ _ _ _, fun _ => ⟨rfl, rfl⟩, Nat.le_refl _, by unfold newHd; dsimp only; omega⟩, ⟨CellsIn.nil _ _ _ _ _, fun _ => ⟨rfl, rfl⟩, Nat.le_refl _, by unfold newHd; dsimp only; omega⟩, ⟨CellsIn.nil _ _ _ _ _, fun _ => ⟨rfl, rfl⟩, Nat.le_refl _, by unfold newHd; dsimp only; omega⟩, rfl, fun x hx => (by cases hx)⟩, ⟨fun hn => absurd hn (Nat.lt_irrefl 0), fun hn => absurd hn (Nat.lt_irrefl 0), fun hn => absurd hn (Nat.lt_irrefl 0), fun x hx => (by cases hx)⟩⟩
  have HBW : Hid (Below w.heap.size w w4) := Lib.hid (HU4.out.below (Nat.le_refl _) (by simp))
  clear HM HB2 HB1 HU4
  go_wp2
  go_loopg [11] L (fun gk x10 wr => ∃ i : Nat, i ≤ L ∧ L ≤ i + gk ∧ x10 = .int .i64 i ∧ ∃ s h, Inv s ∧ Blk wr S 31 (scells s h).toArray ∧ StAv wr S s h ∧ Below w.heap.size w wr ∧ ∃ hd, DocIn wr S s h hd)
  case atStart => exact ⟨0, Nat.zero_le _, by omega, rfl, _, _, HIV.out, HB4.out, HS4.out, HBW.out, newHd, HD4.out, HS4.out.st, HS4.out.av, ⟨fun hn => absurd hn (Nat.lt_irrefl 0), fun hn => absurd hn (Nat.lt_irrefl 0), fun hn => absurd hn (Nat.lt_irrefl 0), fun x hx => (by cases hx)⟩, ⟨fun hn => absurd hn (Nat.lt_irrefl 0), fun hn => absurd hn (Nat.lt_irrefl 0), fun hn => absurd hn (Nat.lt_irrefl 0), fun x hx => (by cases hx)⟩⟩
  case round =>
    obtain ⟨i, hi, hgi, rfl, s, h, hiv, hbk, hst, hbw, hd, hdc⟩ := hrel
    by_cases hlt : i < L
    · obtain ⟨x, hxi⟩ : ∃ p, l[i]? = some p := ⟨_, List.getElem?_eq_getElem (by rw [← HL.out]; exact hlt)⟩
      obtain ⟨b, off, rfl, hb1, hb2, hcc⟩ := HC.out.2 (by rw [← HL.out]; omega)
      have hxm := List.mem_of_getElem? hxi
      have hbwr : b < wr.heap.size := Nat.lt_of_lt_of_le hb2 hbw.size
      have c0 := (hbw.cell (p := ⟨b, off + (i * 8 + 0), none⟩) hb2).trans (hcc (i * 8 + 0) _ (flat_get encQ_len l i 0 x hxi (by omega)))
      have c1 := (hbw.cell (p := ⟨b, off + (i * 8 + 1), none⟩) hb2).trans (hcc (i * 8 + 1) _ (flat_get encQ_len l i 1 x hxi (by omega)))
      have c2 := (hbw.cell (p := ⟨b, off + (i * 8 + 2), none⟩) hb2).trans (hcc (i * 8 + 2) _ (flat_get encQ_len l i 2 x hxi (by omega)))
      have c3 := (hbw.cell (p := ⟨b, off + (i * 8 + 3), none⟩) hb2).trans (hcc (i * 8 + 3) _ (flat_get encQ_len l i 3 x hxi (by omega)))
      have c4 := (hbw.cell (p := ⟨b, off + (i * 8 + 4), none⟩) hb2).trans (hcc (i * 8 + 4) _ (flat_get encQ_len l i 4 x hxi (by omega)))
      have c5 := (hbw.cell (p := ⟨b, off + (i * 8 + 5), none⟩) hb2).trans (hcc (i * 8 + 5) _ (flat_get encQ_len l i 5 x hxi (by omega)))
      have c6 := (hbw.cell (p := ⟨b, off + (i * 8 + 6), none⟩) hb2).trans (hcc (i * 8 + 6) _ (flat_get encQ_len l i 6 x hxi (by omega)))
      have c7 := (hbw.cell (p := ⟨b, off + (i * 8 + 7), none⟩) hb2).trans (hcc (i * 8 + 7) _ (flat_get encQ_len l i 7 x hxi (by omega)))
      have hrq := (HRX.out x hxm).below (hbw)
      have hqlow := HRX.out x hxm
      have hfew := HQ6.out x hxm
      have hdo := fun (W : World) (u : Upd [] wr W) => do_any (hst.upd u).st hiv ((hrq.below (u.below (Nat.le_refl _) (by simp))).q (HQ6.out x hxm))
      obtain ⟨⟨kd, who, room, rights, track, ss, layer, tid⟩, ⟨qA, qc⟩⟩ := x
      simp only [encQ, qcells, List.getElem?_cons_zero, List.getElem?_cons_succ, List.getElem_cons_zero, List.getElem_cons_succ, ← Nat.add_assoc, Nat.add_zero] at c0 c1 c2 c3 c4 c5 c6 c7
      unfold qcells at hdo
      dsimp only at hdo
      have HFEW := Lib.hid hfew
      have HRQ := Lib.hid hrq
      have HQV : Hid (∀ g, w.heap.size ≤ g → QAv g ⟨kd, who, room, rights, track, ss, layer, tid⟩ ⟨qA, qc⟩) := Lib.hid (fun g hg hn a ha => by
        have h9 := hqlow.row.l.2 hn
        obtain ⟨b9, o9, e9, _, hlt9, _⟩ := h9
        dsimp only at ha e9
        rw [e9] at ha
        obtain rfl := Option.some.inj ha
        dsimp only
        omega)
      have HDC := Lib.hid hdc
      have HIV0 := Lib.hid hiv
      clear hdc hqlow hfew
      obtain ⟨ql, hql⟩ : ∃ n, n = ss.length := ⟨_, rfl⟩
      have HQLN := Lib.hid hql
      obtain ⟨n1, hn1⟩ : ∃ n, n = s.ps.length := ⟨_, rfl⟩
      obtain ⟨n2, hn2⟩ : ∃ n, n = s.ts.length := ⟨_, rfl⟩
      obtain ⟨n3, hn3⟩ : ∃ n, n = s.bs.length := ⟨_, rfl⟩
      obtain ⟨r, hr⟩ : ∃ r, r = doM s ⟨kd, who, room, rights, track, ss, layer, tid⟩ := ⟨_, rfl⟩
      obtain ⟨t, er⟩ := r
      rw [show scells s h = [.int .i64 s.c.people, .int .i64 s.c.tracks, .int .i64 s.c.subs, .int .i64 s.c.slots, .slice h.pA n1 h.pc, .slice h.tA n2 h.tc, .slice h.bA n3 h.bc] by unfold scells; rw [← hn1, ← hn2, ← hn3]] at hbk hdo
      rw [← hql] at hdo c5
      rw [← hr] at hdo
      dsimp only at hdo
      obtain ⟨m1, hm1⟩ : ∃ n, n = t.ps.length := ⟨_, rfl⟩
      obtain ⟨m2, hm2⟩ : ∃ n, n = t.ts.length := ⟨_, rfl⟩
      obtain ⟨m3, hm3⟩ : ∃ n, n = t.bs.length := ⟨_, rfl⟩
      have hsc : ∀ h', scells t h' = [.int .i64 t.c.people, .int .i64 t.c.tracks, .int .i64 t.c.subs, .int .i64 t.c.slots, .slice h'.pA m1 h'.pc, .slice h'.tA m2 h'.tc, .slice h'.bA m3 h'.bc] := fun h' => by unfold scells; rw [← hm1, ← hm2, ← hm3]
      have HDO : Hid (∀ W, Upd [] wr W → Calls Try.prog 12 #[.agg #[.int .i64 s.c.people, .int .i64 s.c.tracks, .int .i64 s.c.subs, .int .i64 s.c.slots, .slice h.pA n1 h.pc, .slice h.tA n2 h.tc, .slice h.bA n3 h.bc], .agg #[.int .i64 kd, .int .i64 who, .int .i64 room, .int .i64 rights, .int .i64 track, .slice qA ql qc, .int .i64 layer, .int .i64 tid]] W fun e w' =>
          ∃ h', e = .returned (.tuple #[.agg #[.int .i64 t.c.people, .int .i64 t.c.tracks, .int .i64 t.c.subs, .int .i64 t.c.slots, .slice h'.pA m1 h'.pc, .slice h'.tA m2 h'.tc, .slice h'.bA m3 h'.bc], .int .i64 er]) ∧ StIn w' t h' ∧ (∀ g, g < W.heap.size → Av g s h → Av g t h') ∧ Upd [] W w') := Lib.hid (fun W u => (hdo W u).mono fun e w' ⟨h', he, hk, ha, hu⟩ => ⟨h', by rw [he, hsc], hk, ha, hu⟩)
      have HBK := Lib.hid hbk
      have HST := Lib.hid hst
      have HBW := Lib.hid hbw
      have HINV := Lib.hid hiv
      have HI2 : Hid (Inv t) := Lib.hid (by have := inv_do hiv ⟨kd, who, room, rights, track, ss, layer, tid⟩; rw [← hr] at this; exact this)
      have HR := Lib.hid hr
      have HSC := Lib.hid hsc
      have HN := Lib.hid (And.intro hn1 (And.intro hn2 hn3))
      have HM := Lib.hid (And.intro hm1 (And.intro hm2 hm3))
      have HXI := Lib.hid hxi
      have hsl := hbk.lt
      have p0 : wr.cell? ⟨S, 0, none⟩ = some (.int .i64 s.c.people) := hbk.cell 0
      have p1 : wr.cell? ⟨S, 1, none⟩ = some (.int .i64 s.c.tracks) := hbk.cell 1
      have p2 : wr.cell? ⟨S, 2, none⟩ = some (.int .i64 s.c.subs) := hbk.cell 2
      have p3 : wr.cell? ⟨S, 3, none⟩ = some (.int .i64 s.c.slots) := hbk.cell 3
      have p4 : wr.cell? ⟨S, 4, none⟩ = some (.slice h.pA n1 h.pc) := hbk.cell 4
      have p5 : wr.cell? ⟨S, 5, none⟩ = some (.slice h.tA n2 h.tc) := hbk.cell 5
      have p6 : wr.cell? ⟨S, 6, none⟩ = some (.slice h.bA n3 h.bc) := hbk.cell 6
      have HC0 := Lib.hid (And.intro c0 (And.intro c1 (And.intro c2 (And.intro c3 (And.intro c4 (And.intro c5 (And.intro c6 c7)))))))
      have HP0 := Lib.hid (And.intro p0 (And.intro p1 (And.intro p2 (And.intro p3 (And.intro p4 (And.intro p5 p6))))))
      have hwi : IntKind.i64.wrap ((i : Int) + 1) = (i : Int) + 1 := IntWalk.i64_in _ (by omega)
      have hi0 : (i : Int) < (L : Int) := by omega
      clear hbk hst hbw hiv hr hsc hn1 hn2 hn3 hm1 hm2 hm3 hql hxi hdo hcc hxm hrq hb1 hb2
      go_upto_region 14 with fail
      go_cut [12, 13] (fun s1 s2 wc => ∃ T h', s1 = .pointer (some ⟨T, 0, none⟩) ∧ s2 = .int .i64 er ∧ Blk wc T 31 #[.int .i64 t.c.people, .int .i64 t.c.tracks, .int .i64 t.c.subs, .int .i64 t.c.slots, .slice h'.pA m1 h'.pc, .slice h'.tA m2 h'.tc, .slice h'.bA m3 h'.bc] ∧ StAv wc S t h' ∧ Upd [] wr wc ∧ wr.heap.size ≤ T ∧ (∀ g, g < wr.heap.size → Av g s h → Av g t h'))
      case first =>
        have HC1 : Hid (Upd [] wr (wr.drewN 1)) := Lib.hid ((Upd.refl _ _).drewN 1)
        clear p0 p1 p2 p3 p4 p5 p6 c0 c1 c2 c3 c4 c5 c6 c7
        have q0 : ∀ z : Cls (Upd [] wr), z.w.cell? ⟨S, 0, none⟩ = some (.int .i64 s.c.people) := fun z => (z.h.cell (p := ⟨S, 0, none⟩) hsl (by simp)).trans (HBK.out.cell 0)
        have q1 : ∀ z : Cls (Upd [] wr), z.w.cell? ⟨S, 1, none⟩ = some (.int .i64 s.c.tracks) := fun z => (z.h.cell (p := ⟨S, 1, none⟩) hsl (by simp)).trans (HBK.out.cell 1)
        have q2 : ∀ z : Cls (Upd [] wr), z.w.cell? ⟨S, 2, none⟩ = some (.int .i64 s.c.subs) := fun z => (z.h.cell (p := ⟨S, 2, none⟩) hsl (by simp)).trans (HBK.out.cell 2)
        have q3 : ∀ z : Cls (Upd [] wr), z.w.cell? ⟨S, 3, none⟩ = some (.int .i64 s.c.slots) := fun z => (z.h.cell (p := ⟨S, 3, none⟩) hsl (by simp)).trans (HBK.out.cell 3)
        have q4 : ∀ z : Cls (Upd [] wr), z.w.cell? ⟨S, 4, none⟩ = some (.slice h.pA n1 h.pc) := fun z => (z.h.cell (p := ⟨S, 4, none⟩) hsl (by simp)).trans (HBK.out.cell 4)
        have q5 : ∀ z : Cls (Upd [] wr), z.w.cell? ⟨S, 5, none⟩ = some (.slice h.tA n2 h.tc) := fun z => (z.h.cell (p := ⟨S, 5, none⟩) hsl (by simp)).trans (HBK.out.cell 5)
        have q6 : ∀ z : Cls (Upd [] wr), z.w.cell? ⟨S, 6, none⟩ = some (.slice h.bA n3 h.bc) := fun z => (z.h.cell (p := ⟨S, 6, none⟩) hsl (by simp)).trans (HBK.out.cell 6)
        have r0 : ∀ z : Cls (Upd [] wr), z.w.cell? ⟨b, off + i * 8, none⟩ = some (.int .i64 kd) := fun z => (z.h.cell (p := ⟨b, off + i * 8, none⟩) hbwr (by simp)).trans HC0.out.1
        have r1 : ∀ z : Cls (Upd [] wr), z.w.cell? ⟨b, off + i * 8 + 1, none⟩ = some (.int .i64 who) := fun z => (z.h.cell (p := ⟨b, off + i * 8 + 1, none⟩) hbwr (by simp)).trans HC0.out.2.1
        have r2 : ∀ z : Cls (Upd [] wr), z.w.cell? ⟨b, off + i * 8 + 2, none⟩ = some (.int .i64 room) := fun z => (z.h.cell (p := ⟨b, off + i * 8 + 2, none⟩) hbwr (by simp)).trans HC0.out.2.2.1
        have r3 : ∀ z : Cls (Upd [] wr), z.w.cell? ⟨b, off + i * 8 + 3, none⟩ = some (.int .i64 rights) := fun z => (z.h.cell (p := ⟨b, off + i * 8 + 3, none⟩) hbwr (by simp)).trans HC0.out.2.2.2.1
        have r4 : ∀ z : Cls (Upd [] wr), z.w.cell? ⟨b, off + i * 8 + 4, none⟩ = some (.int .i64 track) := fun z => (z.h.cell (p := ⟨b, off + i * 8 + 4, none⟩) hbwr (by simp)).trans HC0.out.2.2.2.2.1
        have r5 : ∀ z : Cls (Upd [] wr), z.w.cell? ⟨b, off + i * 8 + 5, none⟩ = some (.slice qA ql qc) := fun z => (z.h.cell (p := ⟨b, off + i * 8 + 5, none⟩) hbwr (by simp)).trans HC0.out.2.2.2.2.2.1
        have r6 : ∀ z : Cls (Upd [] wr), z.w.cell? ⟨b, off + i * 8 + 6, none⟩ = some (.int .i64 layer) := fun z => (z.h.cell (p := ⟨b, off + i * 8 + 6, none⟩) hbwr (by simp)).trans HC0.out.2.2.2.2.2.2.1
        have r7 : ∀ z : Cls (Upd [] wr), z.w.cell? ⟨b, off + i * 8 + 7, none⟩ = some (.int .i64 tid) := fun z => (z.h.cell (p := ⟨b, off + i * 8 + 7, none⟩) hbwr (by simp)).trans HC0.out.2.2.2.2.2.2.2
        refine wp_new_call (Upd [] wr) ((Upd.refl _ _).drewN 1) [0, 1, 2, 3, 4] 5 9 [6, 7, 8] [10, 11] (by kernel_rfl) (by kernel_rfl) (fun _ _ _ _ h => h) ?_
        intro hne
        simp only [pick3, List.map_cons, List.map_nil, List.getElem?_cons_zero, List.getElem?_cons_succ, Option.getD_some]
        repeat (go_big_quiet_step (fail))
        refine wpQuiet_nil ?_
        clear q0 q1 q2 q3 q4 q5 q6 r0 r1 r2 r3 r4 r5 r6 r7
        obtain ⟨wd, hwd⟩ : ∃ W, W = wr.drewN 1 := ⟨_, rfl⟩
        rw [← hwd] at HC1 ⊢
        clear hwd
        constructor
        · refine wpHeldK_step rfl fun K hK => ?_
          go_simp
          obtain ⟨T, hT⟩ : ∃ T, T = wd.heap.size := ⟨_, rfl⟩
          obtain ⟨V, hV⟩ : ∃ V, V = wd.alloc (.cells #[.int .i64 0, .int .i64 0, .int .i64 0, .int .i64 0, .slice none 0 0, .slice none 0 0, .slice none 0 0] 31) := ⟨_, rfl⟩
          rw [← hV, ← hT]
          have hVu : Upd [] wr V := HC1.out.next (by rw [hV]; exact (Upd.refl [] wd).alloc _)
          have hVB : Blk V T 31 #[.int .i64 0, .int .i64 0, .int .i64 0, .int .i64 0, .slice none 0 0, .slice none 0 0, .slice none 0 0] := by rw [hV, hT]; exact Blk.new _ _ _
          have HT : Hid (wr.heap.size ≤ T) := Lib.hid (by rw [hT]; exact HC1.out.size)
          have HVB := Lib.hid hVB
          have HVU := Lib.hid hVu
          clear hT hV hVB hVu
          refine hK.out _ _ ⟨⟨V, HVU.out⟩, rfl⟩ ?_
          clear hK K
          refine wpHeldK_step rfl fun K hK => ?_
          go_simp
          refine (HDO.out V HVU.out).mono ?_
          rintro e w5 ⟨h', rfl, hk5, ha5, hu5⟩
          have HAV : Hid (∀ g, g < wr.heap.size → Av g s h → Av g t h') := Lib.hid (fun g hg ha => ha5 g (Nat.lt_of_lt_of_le hg HVU.out.size) ha)
          have HA5 : Hid (Av T t h' ∧ Av S t h') := Lib.hid ⟨ha5 T HVB.out.lt (Av.fresh HST.out.st HT.out), ha5 S (Nat.lt_of_lt_of_le HBK.out.lt HVU.out.size) HST.out.av⟩
          clear ha5
          have HU5 := Lib.hid (HVU.out.next hu5)
          have HK5 := Lib.hid hk5
          have HB5 := Lib.hid (HVB.out.upd hu5 (by simp))
          clear hk5 hu5 HVB HVU
          refine hK.out _ _ ⟨⟨w5, HU5.out⟩, rfl⟩ ?_
          clear hK K
          refine wpQuiet_then ?_
          repeat (go_big_quiet_step (fail))
          refine wpQuiet_nil ?_
          have y0 := HB5.out.cell 0
          have y1 := HB5.out.cell 1
          have y2 := HB5.out.cell 2
          have y3 := HB5.out.cell 3
          have y4 := HB5.out.cell 4
          have y5 := HB5.out.cell 5
          have y6 := HB5.out.cell 6
          have z0 := HB5.out.frozen 0
          have z1 := HB5.out.frozen 1
          have z2 := HB5.out.frozen 2
          have z3 := HB5.out.frozen 3
          have z4 := HB5.out.frozen 4
          have z5 := HB5.out.frozen 5
          have z6 := HB5.out.frozen 6
          simp only [List.getElem?_toArray, List.getElem?_cons_zero, List.getElem?_cons_succ] at y0 y1 y2 y3 y4 y5 y6
          obtain ⟨kx, ux⟩ := blk7 HB5.out (.int .i64 t.c.people) (.int .i64 t.c.tracks) (.int .i64 t.c.subs) (.int .i64 t.c.slots) (.slice h'.pA m1 h'.pc) (.slice h'.tA m2 h'.tc) (.slice h'.bA m3 h'.bc)
          obtain ⟨w6, hw6⟩ : ∃ w6, w6 = (((((((w5.setCell ⟨T, 0, none⟩ (.int .i64 t.c.people)).setCell ⟨T, 1, none⟩ (.int .i64 t.c.tracks)).setCell ⟨T, 2, none⟩ (.int .i64 t.c.subs)).setCell ⟨T, 3, none⟩ (.int .i64 t.c.slots)).setCell ⟨T, 4, none⟩ (.slice h'.pA m1 h'.pc)).setCell ⟨T, 5, none⟩ (.slice h'.tA m2 h'.tc)).setCell ⟨T, 6, none⟩ (.slice h'.bA m3 h'.bc)) := ⟨_, rfl⟩
          rw [← hw6] at kx ux
          have HW6 := Lib.hid hw6
          have HKX := Lib.hid kx
          have HU6 : Hid (Upd [] wr w6) := Lib.hid (Upd.of_below ((HU5.out.below (Nat.le_refl _) (by simp)).trans (ux.below HU5.out.size (fun s hs => by rw [List.mem_singleton] at hs; subst hs; exact HT.out))))
          have HK6 : Hid (StAv w6 S t h') := Lib.hid ⟨HK5.out.past ux HA5.out.1, HA5.out.2⟩
          clear hw6 kx ux
          refine wpHeld_step rfl fun K hK => ?_
          go_simp
          rw [← HW6.out]
          refine hK.out _ _ (.inr ⟨⟨w6, HU6.out⟩, rfl⟩) ?_
          clear hK K y0 y1 y2 y3 y4 y5 y6 z0 z1 z2 z3 z4 z5 z6
          refine wpHeld_last ?_
          go_wp2
          go_meet
          case rel => exact ⟨_, _, rfl, rfl, HKX.out, HK6.out, HU6.out, HT.out, HAV.out⟩
        · refine wpHeldK_step rfl fun K hK => ?_
          go_simp
          refine (HDO.out wd HC1.out).mono ?_
          rintro e w4 ⟨h', rfl, hk4, ha4, hu4⟩
          have HAV : Hid (∀ g, g < wr.heap.size → Av g s h → Av g t h') := Lib.hid (fun g hg ha => ha4 g (Nat.lt_of_lt_of_le hg HC1.out.size) ha)
          have HA4 : Hid (Av S t h') := Lib.hid (ha4 S (Nat.lt_of_lt_of_le HBK.out.lt HC1.out.size) HST.out.av)
          clear ha4
          have HU4 := Lib.hid (HC1.out.next hu4)
          have HK4 := Lib.hid hk4
          clear hk4 hu4
          refine hK.out _ _ ⟨⟨w4, HU4.out⟩, rfl⟩ ?_
          clear hK K
          refine wpQuiet_then ?_
          repeat (go_big_quiet_step (fail))
          refine wpQuiet_nil ?_
          refine wpHeld_step rfl fun K hK => ?_
          go_simp
          obtain ⟨T, hT⟩ : ∃ T, T = w4.heap.size := ⟨_, rfl⟩
          obtain ⟨w5, hV⟩ : ∃ V, V = w4.alloc (.cells #[.int .i64 0, .int .i64 0, .int .i64 0, .int .i64 0, .slice none 0 0, .slice none 0 0, .slice none 0 0] 31) := ⟨_, rfl⟩
          rw [← hV, ← hT]
          have hVu : Upd [] w4 w5 := by rw [hV]; exact (Upd.refl [] w4).alloc _
          have hVB : Blk w5 T 31 #[.int .i64 0, .int .i64 0, .int .i64 0, .int .i64 0, .slice none 0 0, .slice none 0 0, .slice none 0 0] := by rw [hV, hT]; exact Blk.new _ _ _
          have HT : Hid (wr.heap.size ≤ T) := Lib.hid (by rw [hT]; exact HU4.out.size)
          have HB5 := Lib.hid hVB
          have HU5 := Lib.hid (HU4.out.next hVu)
          have HA5 : Hid (Av T t h' ∧ Av S t h') := Lib.hid ⟨Av.fresh HK4.out (by rw [hT]; exact Nat.le_refl _), HA4.out⟩
          have HK5 := Lib.hid (HK4.out.upd hVu)
          clear HA4 hT hV hVB hVu HU4 HK4
          refine hK.out _ _ (.inr ⟨⟨w5, HU5.out⟩, rfl⟩) ?_
          clear hK K
          have y0 := HB5.out.cell 0
          have y1 := HB5.out.cell 1
          have y2 := HB5.out.cell 2
          have y3 := HB5.out.cell 3
          have y4 := HB5.out.cell 4
          have y5 := HB5.out.cell 5
          have y6 := HB5.out.cell 6
          have z0 := HB5.out.frozen 0
          have z1 := HB5.out.frozen 1
          have z2 := HB5.out.frozen 2
          have z3 := HB5.out.frozen 3
          have z4 := HB5.out.frozen 4
          have z5 := HB5.out.frozen 5
          have z6 := HB5.out.frozen 6
          simp only [List.getElem?_toArray, List.getElem?_cons_zero, List.getElem?_cons_succ] at y0 y1 y2 y3 y4 y5 y6
          obtain ⟨kx, ux⟩ := blk7 HB5.out (.int .i64 t.c.people) (.int .i64 t.c.tracks) (.int .i64 t.c.subs) (.int .i64 t.c.slots) (.slice h'.pA m1 h'.pc) (.slice h'.tA m2 h'.tc) (.slice h'.bA m3 h'.bc)
          obtain ⟨w6, hw6⟩ : ∃ w6, w6 = (((((((w5.setCell ⟨T, 0, none⟩ (.int .i64 t.c.people)).setCell ⟨T, 1, none⟩ (.int .i64 t.c.tracks)).setCell ⟨T, 2, none⟩ (.int .i64 t.c.subs)).setCell ⟨T, 3, none⟩ (.int .i64 t.c.slots)).setCell ⟨T, 4, none⟩ (.slice h'.pA m1 h'.pc)).setCell ⟨T, 5, none⟩ (.slice h'.tA m2 h'.tc)).setCell ⟨T, 6, none⟩ (.slice h'.bA m3 h'.bc)) := ⟨_, rfl⟩
          rw [← hw6] at kx ux
          have HW6 := Lib.hid hw6
          have HKX := Lib.hid kx
          have HU6 : Hid (Upd [] wr w6) := Lib.hid (Upd.of_below ((HU5.out.below (Nat.le_refl _) (by simp)).trans (ux.below HU5.out.size (fun s hs => by rw [List.mem_singleton] at hs; subst hs; exact HT.out))))
          have HK6 : Hid (StAv w6 S t h') := Lib.hid ⟨HK5.out.past ux HA5.out.1, HA5.out.2⟩
          clear hw6 kx ux
          refine wpHeld_step rfl fun K hK => ?_
          go_simp
          rw [← HW6.out]
          refine hK.out _ _ (.inr ⟨⟨w6, HU6.out⟩, rfl⟩) ?_
          clear hK K y0 y1 y2 y3 y4 y5 y6 z0 z1 z2 z3 z4 z5 z6
          refine wpHeld_last ?_
          go_wp2
          go_meet
          case rel => exact ⟨_, _, rfl, rfl, HKX.out, HK6.out, HU6.out, HT.out, HAV.out⟩
      obtain ⟨T, h', rfl, rfl, hbT, hkT, huT, hT, hAV⟩ := hcut
      clear p0 p1 p2 p3 p4 p5 p6 c0 c1 c2 c3 c4 c5 c6 c7
      obtain ⟨w9, hw9⟩ : ∃ x : World, x = wc := ⟨_, rfl⟩
      rw [← hw9] at hbT hkT huT ⊢
      clear hw9
      have HT9 := Lib.hid hbT
      have HK9 := Lib.hid hkT
      have HU9 := Lib.hid huT
      have HTT := Lib.hid hT
      have HAV := Lib.hid hAV
      have HGI := Lib.hid hgi
      have HD9 := Lib.hid (HDC.out.upd huT)
      have hdb : Blk w9 (S + 1) 37 #[.int .i64 s.c.people, .int .i64 s.c.tracks, .int .i64 s.c.subs, .int .i64 s.c.slots, .slice hd.pA n1 hd.pc, .slice hd.tA n2 hd.tc, .slice hd.bA n3 hd.bc] := by
        have h9 := HD9.out.box
        rw [show scells s hd = [.int .i64 s.c.people, .int .i64 s.c.tracks, .int .i64 s.c.subs, .int .i64 s.c.slots, .slice hd.pA n1 hd.pc, .slice hd.tA n2 hd.tc, .slice hd.bA n3 hd.bc] by unfold scells; rw [← HN.out.1, ← HN.out.2.1, ← HN.out.2.2]] at h9
        exact h9
      have HDB := Lib.hid hdb
      have HRQC : Hid (∀ W : World, Calls Try.prog 14 #[.agg #[.int .i64 kd, .int .i64 who, .int .i64 room, .int .i64 rights, .int .i64 track, .slice qA ql qc, .int .i64 layer, .int .i64 tid]] W fun e w' => e = .returned (.agg #[.int .i64 kd, .int .i64 who, .int .i64 room, .int .i64 rights, .int .i64 track, .slice qA ql qc, .int .i64 layer, .int .i64 tid]) ∧ Upd [] W w') := Lib.hid (fun W => req_any W kd who room rights track layer tid qA ql qc)
      have HDOC : Hid (∀ W, Upd [] w9 W → Calls Try.prog 13 #[.agg #[.int .i64 s.c.people, .int .i64 s.c.tracks, .int .i64 s.c.subs, .int .i64 s.c.slots, .slice hd.pA n1 hd.pc, .slice hd.tA n2 hd.tc, .slice hd.bA n3 hd.bc], .agg #[.int .i64 kd, .int .i64 who, .int .i64 room, .int .i64 rights, .int .i64 track, .slice qA ql qc, .int .i64 layer, .int .i64 tid]] W fun e w' => ∃ hv, e = .returned (.tuple #[.agg #[.int .i64 t.c.people, .int .i64 t.c.tracks, .int .i64 t.c.subs, .int .i64 t.c.slots, .slice hv.pA m1 hv.pc, .slice hv.tA m2 hv.tc, .slice hv.bA m3 hv.bc], .int .i64 er]) ∧ StIn w' t hv ∧ (∀ g, g < W.heap.size → w.heap.size ≤ g → Av g s hd → Av g t hv) ∧ Upd [] W w') := Lib.hid (fun W u => by
        have h9 := rDo_any (q := ⟨kd, who, room, rights, track, ss, layer, tid⟩) (qh := ⟨qA, qc⟩) (HD9.out.st.upd u) HINV.out (by
          have k := ((HRQ.out.below (HU9.out.below (Nat.le_refl _) (by simp))).below (u.below (Nat.le_refl _) (by simp)))
          exact k.row)
        rw [show scells s hd = [.int .i64 s.c.people, .int .i64 s.c.tracks, .int .i64 s.c.subs, .int .i64 s.c.slots, .slice hd.pA n1 hd.pc, .slice hd.tA n2 hd.tc, .slice hd.bA n3 hd.bc] by unfold scells; rw [← HN.out.1, ← HN.out.2.1, ← HN.out.2.2], show qcells ⟨kd, who, room, rights, track, ss, layer, tid⟩ ⟨qA, qc⟩ = [.int .i64 kd, .int .i64 who, .int .i64 room, .int .i64 rights, .int .i64 track, .slice qA ql qc, .int .i64 layer, .int .i64 tid] by unfold qcells; rw [HQLN.out]] at h9
        rw [← HR.out] at h9
        dsimp only at h9
        exact h9.mono fun e w' ⟨hv, he, hk, ha, hu⟩ => ⟨hv, by rw [he, HSC.out], hk, fun g hg hw a => ha g hg (HQV.out g hw) a, hu⟩)
      have hb9 : b < w9.heap.size := Nat.lt_of_lt_of_le hbwr huT.size
      have hs9 := hdb.lt
      clear hbT hkT huT hT hAV hgi hdb hsl
      have q0 : ∀ z : Cls (Upd [] w9), z.w.cell? ⟨S + 1, 0, none⟩ = some (.int .i64 s.c.people) := fun z => (z.h.cell (p := ⟨S + 1, 0, none⟩) hs9 (by simp)).trans (HDB.out.cell 0)
      have q1 : ∀ z : Cls (Upd [] w9), z.w.cell? ⟨S + 1, 1, none⟩ = some (.int .i64 s.c.tracks) := fun z => (z.h.cell (p := ⟨S + 1, 1, none⟩) hs9 (by simp)).trans (HDB.out.cell 1)
      have q2 : ∀ z : Cls (Upd [] w9), z.w.cell? ⟨S + 1, 2, none⟩ = some (.int .i64 s.c.subs) := fun z => (z.h.cell (p := ⟨S + 1, 2, none⟩) hs9 (by simp)).trans (HDB.out.cell 2)
      have q3 : ∀ z : Cls (Upd [] w9), z.w.cell? ⟨S + 1, 3, none⟩ = some (.int .i64 s.c.slots) := fun z => (z.h.cell (p := ⟨S + 1, 3, none⟩) hs9 (by simp)).trans (HDB.out.cell 3)
      have q4 : ∀ z : Cls (Upd [] w9), z.w.cell? ⟨S + 1, 4, none⟩ = some (.slice hd.pA n1 hd.pc) := fun z => (z.h.cell (p := ⟨S + 1, 4, none⟩) hs9 (by simp)).trans (HDB.out.cell 4)
      have q5 : ∀ z : Cls (Upd [] w9), z.w.cell? ⟨S + 1, 5, none⟩ = some (.slice hd.tA n2 hd.tc) := fun z => (z.h.cell (p := ⟨S + 1, 5, none⟩) hs9 (by simp)).trans (HDB.out.cell 5)
      have q6 : ∀ z : Cls (Upd [] w9), z.w.cell? ⟨S + 1, 6, none⟩ = some (.slice hd.bA n3 hd.bc) := fun z => (z.h.cell (p := ⟨S + 1, 6, none⟩) hs9 (by simp)).trans (HDB.out.cell 6)
      have r0 : ∀ z : Cls (Upd [] w9), z.w.cell? ⟨b, off + i * 8, none⟩ = some (.int .i64 kd) := fun z => ((HU9.out.next z.h).cell (p := ⟨b, off + i * 8, none⟩) hbwr (by simp)).trans HC0.out.1
      have r1 : ∀ z : Cls (Upd [] w9), z.w.cell? ⟨b, off + i * 8 + 1, none⟩ = some (.int .i64 who) := fun z => ((HU9.out.next z.h).cell (p := ⟨b, off + i * 8 + 1, none⟩) hbwr (by simp)).trans HC0.out.2.1
      have r2 : ∀ z : Cls (Upd [] w9), z.w.cell? ⟨b, off + i * 8 + 2, none⟩ = some (.int .i64 room) := fun z => ((HU9.out.next z.h).cell (p := ⟨b, off + i * 8 + 2, none⟩) hbwr (by simp)).trans HC0.out.2.2.1
      have r3 : ∀ z : Cls (Upd [] w9), z.w.cell? ⟨b, off + i * 8 + 3, none⟩ = some (.int .i64 rights) := fun z => ((HU9.out.next z.h).cell (p := ⟨b, off + i * 8 + 3, none⟩) hbwr (by simp)).trans HC0.out.2.2.2.1
      have r4 : ∀ z : Cls (Upd [] w9), z.w.cell? ⟨b, off + i * 8 + 4, none⟩ = some (.int .i64 track) := fun z => ((HU9.out.next z.h).cell (p := ⟨b, off + i * 8 + 4, none⟩) hbwr (by simp)).trans HC0.out.2.2.2.2.1
      have r5 : ∀ z : Cls (Upd [] w9), z.w.cell? ⟨b, off + i * 8 + 5, none⟩ = some (.slice qA ql qc) := fun z => ((HU9.out.next z.h).cell (p := ⟨b, off + i * 8 + 5, none⟩) hbwr (by simp)).trans HC0.out.2.2.2.2.2.1
      have r6 : ∀ z : Cls (Upd [] w9), z.w.cell? ⟨b, off + i * 8 + 6, none⟩ = some (.int .i64 layer) := fun z => ((HU9.out.next z.h).cell (p := ⟨b, off + i * 8 + 6, none⟩) hbwr (by simp)).trans HC0.out.2.2.2.2.2.2.1
      have r7 : ∀ z : Cls (Upd [] w9), z.w.cell? ⟨b, off + i * 8 + 7, none⟩ = some (.int .i64 tid) := fun z => ((HU9.out.next z.h).cell (p := ⟨b, off + i * 8 + 7, none⟩) hbwr (by simp)).trans HC0.out.2.2.2.2.2.2.2
      go_upto_region 15 with fail
      go_cut [14, 15] (fun s1 s2 wd => ∃ V hv, s1 = .pointer (some ⟨V, 0, none⟩) ∧ s2 = .int .i64 er ∧ Blk wd V 37 #[.int .i64 t.c.people, .int .i64 t.c.tracks, .int .i64 t.c.subs, .int .i64 t.c.slots, .slice hv.pA m1 hv.pc, .slice hv.tA m2 hv.tc, .slice hv.bA m3 hv.bc] ∧ StIn wd t hv ∧ Av S t hv ∧ Av (S + 1) t hv ∧ Upd [] w9 wd)
      case first =>
        have HC1 : Hid (Upd [] w9 (w9.drewN 1)) := Lib.hid ((Upd.refl _ _).drewN 1)
        have HSS : Hid (w.heap.size ≤ S ∧ S + 1 < w9.heap.size) := Lib.hid ⟨HWS.out, hs9⟩
        refine wp_new_calls (Upd [] w9) ((Upd.refl _ _).drewN 1) [0, 1, 2, 3, 4] 5 6 10 [7, 8, 9] [11, 12] (by kernel_rfl) (by kernel_rfl) (fun _ _ _ _ h => h) ?_
        intro hne
        simp only [pick3, List.map_cons, List.map_nil, List.getElem?_cons_zero, List.getElem?_cons_succ, Option.getD_some]
        repeat (go_big_quiet_step (fail))
        refine wpQuiet_nil ?_
        clear q0 q1 q2 q3 q4 q5 q6 r0 r1 r2 r3 r4 r5 r6 r7
        obtain ⟨wd, hwd⟩ : ∃ W, W = w9.drewN 1 := ⟨_, rfl⟩
        rw [← hwd] at HC1 ⊢
        clear hwd
        constructor
        · refine wpHeldK_step rfl fun K hK => ?_
          go_simp
          obtain ⟨V, hV⟩ : ∃ V, V = wd.heap.size := ⟨_, rfl⟩
          obtain ⟨wv, hwv⟩ : ∃ W, W = wd.alloc (.cells #[.int .i64 0, .int .i64 0, .int .i64 0, .int .i64 0, .slice none 0 0, .slice none 0 0, .slice none 0 0] 37) := ⟨_, rfl⟩
          rw [← hwv, ← hV]
          have hVu : Upd [] w9 wv := HC1.out.next (by rw [hwv]; exact (Upd.refl [] wd).alloc _)
          have hVB : Blk wv V 37 #[.int .i64 0, .int .i64 0, .int .i64 0, .int .i64 0, .slice none 0 0, .slice none 0 0, .slice none 0 0] := by rw [hwv, hV]; exact Blk.new _ _ _
          have HV9 : Hid (w9.heap.size ≤ V) := Lib.hid (by rw [hV]; exact HC1.out.size)
          have HVX : Hid (V = wd.heap.size) := Lib.hid hV
          have HVW : Hid (Upd [] wd wv) := Lib.hid (by rw [hwv]; exact (Upd.refl [] wd).alloc _)
          have HVB := Lib.hid hVB
          have HVU := Lib.hid hVu
          clear hV hwv hVB hVu
          refine hK.out _ _ ⟨⟨wv, HVU.out⟩, rfl⟩ ?_
          clear hK K
          refine wpHeldK_step rfl fun K hK => ?_
          go_simp
          refine (HRQC.out wv).mono ?_
          rintro e wq ⟨rfl, hux⟩
          have HUQ := Lib.hid (HVU.out.next hux)
          have HUXwq := Lib.hid hux
          clear hux
          refine hK.out _ _ ⟨⟨wq, HUQ.out⟩, rfl⟩ ?_
          clear hK K
          refine wpHeldK_step rfl fun K hK => ?_
          go_simp
          refine (HDOC.out wq HUQ.out).mono ?_
          rintro e we ⟨hv, rfl, hkv, hav, hux⟩
          have HUE := Lib.hid (HUQ.out.next hux)
          have HKV := Lib.hid hkv
          have HAVV : Hid (Av S t hv ∧ Av (S + 1) t hv ∧ ∀ g, w9.heap.size ≤ g → g < wq.heap.size → w.heap.size ≤ g → Av g s hd → Av g t hv) := Lib.hid ⟨hav S (by have := HUQ.out.size; have := HSS.out; omega) HSS.out.1 HDC.out.a0, hav (S + 1) (by have := HUQ.out.size; have := HSS.out; omega) (by have := HSS.out.1; omega) HDC.out.a1, fun g _ hg hw a => hav g hg hw a⟩
          have HUXwe := Lib.hid hux
          clear hkv hav hux
          refine hK.out _ _ ⟨⟨we, HUE.out⟩, rfl⟩ ?_
          clear hK K
          refine wpQuiet_then ?_
          repeat (go_big_quiet_step (fail))
          refine wpQuiet_nil ?_
          have HBE := Lib.hid ((HVB.out.upd HUXwq.out (by simp)).upd HUXwe.out (by simp))
          have HAVG : Hid (Av V t hv) := Lib.hid (HAVV.out.2.2 V HV9.out (by have := HUXwq.out.size; have := HVB.out.lt; omega) (by have := HV9.out; have := HSS.out; omega) (Av.fresh HD9.out.st HV9.out))
          have y0 := HBE.out.cell 0
          have z0 := HBE.out.frozen 0
          have y1 := HBE.out.cell 1
          have z1 := HBE.out.frozen 1
          have y2 := HBE.out.cell 2
          have z2 := HBE.out.frozen 2
          have y3 := HBE.out.cell 3
          have z3 := HBE.out.frozen 3
          have y4 := HBE.out.cell 4
          have z4 := HBE.out.frozen 4
          have y5 := HBE.out.cell 5
          have z5 := HBE.out.frozen 5
          have y6 := HBE.out.cell 6
          have z6 := HBE.out.frozen 6
          simp only [List.getElem?_toArray, List.getElem?_cons_zero, List.getElem?_cons_succ] at y0 y1 y2 y3 y4 y5 y6
          obtain ⟨kx, ux⟩ := blk7 HBE.out (.int .i64 t.c.people) (.int .i64 t.c.tracks) (.int .i64 t.c.subs) (.int .i64 t.c.slots) (.slice hv.pA m1 hv.pc) (.slice hv.tA m2 hv.tc) (.slice hv.bA m3 hv.bc)
          obtain ⟨wz, hwz⟩ : ∃ x, x = (((((((we.setCell ⟨V, 0, none⟩ (.int .i64 t.c.people)).setCell ⟨V, 1, none⟩ (.int .i64 t.c.tracks)).setCell ⟨V, 2, none⟩ (.int .i64 t.c.subs)).setCell ⟨V, 3, none⟩ (.int .i64 t.c.slots)).setCell ⟨V, 4, none⟩ (.slice hv.pA m1 hv.pc)).setCell ⟨V, 5, none⟩ (.slice hv.tA m2 hv.tc)).setCell ⟨V, 6, none⟩ (.slice hv.bA m3 hv.bc)) := ⟨_, rfl⟩
          rw [← hwz] at kx ux
          have HWZ := Lib.hid hwz
          have HKX := Lib.hid kx
          have HUZ : Hid (Upd [] w9 wz) := Lib.hid (HUE.out.box' ux HV9.out)
          have HKZ : Hid (StIn wz t hv) := Lib.hid (HKV.out.past ux HAVG.out)
          clear hwz kx ux
          refine wpHeld_step rfl fun K hK => ?_
          go_simp
          rw [← HWZ.out]
          refine hK.out _ _ (.inr ⟨⟨wz, HUZ.out⟩, rfl⟩) ?_
          clear hK K y0 y1 y2 y3 y4 y5 y6 z0 z1 z2 z3 z4 z5 z6
          refine wpHeld_last ?_
          go_wp2
          go_meet
          case rel => exact ⟨_, _, rfl, rfl, HKX.out, HKZ.out, HAVV.out.1, HAVV.out.2.1, HUZ.out⟩
        · refine wpHeldK_step rfl fun K hK => ?_
          go_simp
          refine (HRQC.out wd).mono ?_
          rintro e wq ⟨rfl, hux⟩
          have HUQ := Lib.hid (HC1.out.next hux)
          have HUXwq := Lib.hid hux
          clear hux
          refine hK.out _ _ ⟨⟨wq, HUQ.out⟩, rfl⟩ ?_
          clear hK K
          refine ⟨?_, ?_⟩
          · refine wpHeldK_step rfl fun K hK => ?_
            go_simp
            obtain ⟨V, hV⟩ : ∃ V, V = wq.heap.size := ⟨_, rfl⟩
            obtain ⟨wv, hwv⟩ : ∃ W, W = wq.alloc (.cells #[.int .i64 0, .int .i64 0, .int .i64 0, .int .i64 0, .slice none 0 0, .slice none 0 0, .slice none 0 0] 37) := ⟨_, rfl⟩
            rw [← hwv, ← hV]
            have hVu : Upd [] w9 wv := HUQ.out.next (by rw [hwv]; exact (Upd.refl [] wq).alloc _)
            have hVB : Blk wv V 37 #[.int .i64 0, .int .i64 0, .int .i64 0, .int .i64 0, .slice none 0 0, .slice none 0 0, .slice none 0 0] := by rw [hwv, hV]; exact Blk.new _ _ _
            have HV9 : Hid (w9.heap.size ≤ V) := Lib.hid (by rw [hV]; exact HUQ.out.size)
            have HVX : Hid (V = wq.heap.size) := Lib.hid hV
            have HVW : Hid (Upd [] wq wv) := Lib.hid (by rw [hwv]; exact (Upd.refl [] wq).alloc _)
            have HVB := Lib.hid hVB
            have HVU := Lib.hid hVu
            clear hV hwv hVB hVu
            refine hK.out _ _ ⟨⟨wv, HVU.out⟩, rfl⟩ ?_
            clear hK K
            refine wpHeldK_step rfl fun K hK => ?_
            go_simp
            refine (HDOC.out wv HVU.out).mono ?_
            rintro e we ⟨hv, rfl, hkv, hav, hux⟩
            have HUE := Lib.hid (HVU.out.next hux)
            have HKV := Lib.hid hkv
            have HAVV : Hid (Av S t hv ∧ Av (S + 1) t hv ∧ ∀ g, w9.heap.size ≤ g → g < wv.heap.size → w.heap.size ≤ g → Av g s hd → Av g t hv) := Lib.hid ⟨hav S (by have := HVU.out.size; have := HSS.out; omega) HSS.out.1 HDC.out.a0, hav (S + 1) (by have := HVU.out.size; have := HSS.out; omega) (by have := HSS.out.1; omega) HDC.out.a1, fun g _ hg hw a => hav g hg hw a⟩
            have HUXwe := Lib.hid hux
            clear hkv hav hux
            refine hK.out _ _ ⟨⟨we, HUE.out⟩, rfl⟩ ?_
            clear hK K
            refine wpQuiet_then ?_
            repeat (go_big_quiet_step (fail))
            refine wpQuiet_nil ?_
            have HBE := Lib.hid (HVB.out.upd HUXwe.out (by simp))
            have HAVG : Hid (Av V t hv) := Lib.hid (HAVV.out.2.2 V HV9.out HVB.out.lt (by have := HV9.out; have := HSS.out; omega) (Av.fresh HD9.out.st HV9.out))
            have y0 := HBE.out.cell 0
            have z0 := HBE.out.frozen 0
            have y1 := HBE.out.cell 1
            have z1 := HBE.out.frozen 1
            have y2 := HBE.out.cell 2
            have z2 := HBE.out.frozen 2
            have y3 := HBE.out.cell 3
            have z3 := HBE.out.frozen 3
            have y4 := HBE.out.cell 4
            have z4 := HBE.out.frozen 4
            have y5 := HBE.out.cell 5
            have z5 := HBE.out.frozen 5
            have y6 := HBE.out.cell 6
            have z6 := HBE.out.frozen 6
            simp only [List.getElem?_toArray, List.getElem?_cons_zero, List.getElem?_cons_succ] at y0 y1 y2 y3 y4 y5 y6
            obtain ⟨kx, ux⟩ := blk7 HBE.out (.int .i64 t.c.people) (.int .i64 t.c.tracks) (.int .i64 t.c.subs) (.int .i64 t.c.slots) (.slice hv.pA m1 hv.pc) (.slice hv.tA m2 hv.tc) (.slice hv.bA m3 hv.bc)
            obtain ⟨wz, hwz⟩ : ∃ x, x = (((((((we.setCell ⟨V, 0, none⟩ (.int .i64 t.c.people)).setCell ⟨V, 1, none⟩ (.int .i64 t.c.tracks)).setCell ⟨V, 2, none⟩ (.int .i64 t.c.subs)).setCell ⟨V, 3, none⟩ (.int .i64 t.c.slots)).setCell ⟨V, 4, none⟩ (.slice hv.pA m1 hv.pc)).setCell ⟨V, 5, none⟩ (.slice hv.tA m2 hv.tc)).setCell ⟨V, 6, none⟩ (.slice hv.bA m3 hv.bc)) := ⟨_, rfl⟩
            rw [← hwz] at kx ux
            have HWZ := Lib.hid hwz
            have HKX := Lib.hid kx
            have HUZ : Hid (Upd [] w9 wz) := Lib.hid (HUE.out.box' ux HV9.out)
            have HKZ : Hid (StIn wz t hv) := Lib.hid (HKV.out.past ux HAVG.out)
            clear hwz kx ux
            refine wpHeld_step rfl fun K hK => ?_
            go_simp
            rw [← HWZ.out]
            refine hK.out _ _ (.inr ⟨⟨wz, HUZ.out⟩, rfl⟩) ?_
            clear hK K y0 y1 y2 y3 y4 y5 y6 z0 z1 z2 z3 z4 z5 z6
            refine wpHeld_last ?_
            go_wp2
            go_meet
            case rel => exact ⟨_, _, rfl, rfl, HKX.out, HKZ.out, HAVV.out.1, HAVV.out.2.1, HUZ.out⟩
          · refine wpHeldK_step rfl fun K hK => ?_
            go_simp
            refine (HDOC.out wq HUQ.out).mono ?_
            rintro e we ⟨hv, rfl, hkv, hav, hux⟩
            have HUE := Lib.hid (HUQ.out.next hux)
            have HKV := Lib.hid hkv
            have HAVV : Hid (Av S t hv ∧ Av (S + 1) t hv ∧ ∀ g, w9.heap.size ≤ g → g < wq.heap.size → w.heap.size ≤ g → Av g s hd → Av g t hv) := Lib.hid ⟨hav S (by have := HUQ.out.size; have := HSS.out; omega) HSS.out.1 HDC.out.a0, hav (S + 1) (by have := HUQ.out.size; have := HSS.out; omega) (by have := HSS.out.1; omega) HDC.out.a1, fun g _ hg hw a => hav g hg hw a⟩
            have HUXwe := Lib.hid hux
            clear hkv hav hux
            refine hK.out _ _ ⟨⟨we, HUE.out⟩, rfl⟩ ?_
            clear hK K
            refine wpQuiet_then ?_
            repeat (go_big_quiet_step (fail))
            refine wpQuiet_nil ?_
            refine wpHeld_step rfl fun K hK => ?_
            go_simp
            obtain ⟨V, hV⟩ : ∃ V, V = we.heap.size := ⟨_, rfl⟩
            obtain ⟨wv, hwv⟩ : ∃ W, W = we.alloc (.cells #[.int .i64 0, .int .i64 0, .int .i64 0, .int .i64 0, .slice none 0 0, .slice none 0 0, .slice none 0 0] 37) := ⟨_, rfl⟩
            rw [← hwv, ← hV]
            have hVu : Upd [] w9 wv := HUE.out.next (by rw [hwv]; exact (Upd.refl [] we).alloc _)
            have hVB : Blk wv V 37 #[.int .i64 0, .int .i64 0, .int .i64 0, .int .i64 0, .slice none 0 0, .slice none 0 0, .slice none 0 0] := by rw [hwv, hV]; exact Blk.new _ _ _
            have HV9 : Hid (w9.heap.size ≤ V) := Lib.hid (by rw [hV]; exact HUE.out.size)
            have HVX : Hid (V = we.heap.size) := Lib.hid hV
            have HVW : Hid (Upd [] we wv) := Lib.hid (by rw [hwv]; exact (Upd.refl [] we).alloc _)
            have HVB := Lib.hid hVB
            have HVU := Lib.hid hVu
            clear hV hwv hVB hVu
            refine hK.out _ _ (.inr ⟨⟨wv, HVU.out⟩, rfl⟩) ?_
            clear hK K
            have HAVG : Hid (Av V t hv) := Lib.hid (Av.fresh HKV.out (by rw [HVX.out]; exact Nat.le_refl _))
            have HKV2 := Lib.hid (HKV.out.upd HVW.out)
            have y0 := HVB.out.cell 0
            have z0 := HVB.out.frozen 0
            have y1 := HVB.out.cell 1
            have z1 := HVB.out.frozen 1
            have y2 := HVB.out.cell 2
            have z2 := HVB.out.frozen 2
            have y3 := HVB.out.cell 3
            have z3 := HVB.out.frozen 3
            have y4 := HVB.out.cell 4
            have z4 := HVB.out.frozen 4
            have y5 := HVB.out.cell 5
            have z5 := HVB.out.frozen 5
            have y6 := HVB.out.cell 6
            have z6 := HVB.out.frozen 6
            simp only [List.getElem?_toArray, List.getElem?_cons_zero, List.getElem?_cons_succ] at y0 y1 y2 y3 y4 y5 y6
            obtain ⟨kx, ux⟩ := blk7 HVB.out (.int .i64 t.c.people) (.int .i64 t.c.tracks) (.int .i64 t.c.subs) (.int .i64 t.c.slots) (.slice hv.pA m1 hv.pc) (.slice hv.tA m2 hv.tc) (.slice hv.bA m3 hv.bc)
            obtain ⟨wz, hwz⟩ : ∃ x, x = (((((((wv.setCell ⟨V, 0, none⟩ (.int .i64 t.c.people)).setCell ⟨V, 1, none⟩ (.int .i64 t.c.tracks)).setCell ⟨V, 2, none⟩ (.int .i64 t.c.subs)).setCell ⟨V, 3, none⟩ (.int .i64 t.c.slots)).setCell ⟨V, 4, none⟩ (.slice hv.pA m1 hv.pc)).setCell ⟨V, 5, none⟩ (.slice hv.tA m2 hv.tc)).setCell ⟨V, 6, none⟩ (.slice hv.bA m3 hv.bc)) := ⟨_, rfl⟩
            rw [← hwz] at kx ux
            have HWZ := Lib.hid hwz
            have HKX := Lib.hid kx
            have HUZ : Hid (Upd [] w9 wz) := Lib.hid (HVU.out.box' ux HV9.out)
            have HKZ : Hid (StIn wz t hv) := Lib.hid (HKV2.out.past ux HAVG.out)
            clear hwz kx ux
            refine wpHeld_step rfl fun K hK => ?_
            go_simp
            rw [← HWZ.out]
            refine hK.out _ _ (.inr ⟨⟨wz, HUZ.out⟩, rfl⟩) ?_
            clear hK K y0 y1 y2 y3 y4 y5 y6 z0 z1 z2 z3 z4 z5 z6
            refine wpHeld_last ?_
            go_wp2
            go_meet
            case rel => exact ⟨_, _, rfl, rfl, HKX.out, HKZ.out, HAVV.out.1, HAVV.out.2.1, HUZ.out⟩
      obtain ⟨V, hv, rfl, rfl, hbV, hkV, hav0, hav1, hud⟩ := hcut
      obtain ⟨wa, hwa⟩ : ∃ x : World, x = wc := ⟨_, rfl⟩
      rw [← hwa] at hbV hkV hud ⊢
      have HVA := Lib.hid hbV
      have HKVA := Lib.hid hkV
      have HAV2 := Lib.hid (And.intro hav0 hav1)
      have HUA := Lib.hid (HU9.out.next hud)
      have HTA := Lib.hid (HT9.out.upd hud (by simp))
      have HKA := Lib.hid (HK9.out.upd hud)
      have HDA := Lib.hid (HD9.out.upd hud)
      clear hwa hbV hkV hav0 hav1 hud q0 q1 q2 q3 q4 q5 q6 r0 r1 r2 r3 r4 r5 r6 r7 HDOC HRQC hs9 hb9
      have HLEN : Hid (t.ps.length ≤ 1000 ∧ t.ts.length ≤ 1000 ∧ t.bs.length ≤ 1000) := Lib.hid (by
        have := HI2.out.np; have := HI2.out.nt; have := HI2.out.nb; have := HI2.out.cp; have := HI2.out.ct; have := HI2.out.cl
        omega)
      have HOF : Hid (∀ W, Upd [] wa W → Calls Try.prog 16 #[.agg #[.int .i64 t.c.people, .int .i64 t.c.tracks, .int .i64 t.c.subs, .int .i64 t.c.slots, .slice h'.pA m1 h'.pc, .slice h'.tA m2 h'.tc, .slice h'.bA m3 h'.bc]] W fun e w' => ∃ h2, e = .returned (.agg #[.int .i64 t.c.people, .int .i64 t.c.tracks, .int .i64 t.c.subs, .int .i64 t.c.slots, .slice h2.pA m1 h2.pc, .slice h2.tA m2 h2.tc, .slice h2.bA m3 h2.bc]) ∧ StIn w' t h2 ∧ Upd [] wa w') := Lib.hid (fun W u => by
        have := of_any (HKA.out.st.upd u) HLEN.out.1 HLEN.out.2.1 HLEN.out.2.2
        rw [HSC.out h'] at this
        exact this.mono fun e w' ⟨h2, he, _, k, u2⟩ => ⟨h2, by rw [he, HSC.out], k, u.next u2⟩)
      have HSM : Hid (∀ W h2, StIn W t h2 → Upd [] wa W → Calls Try.prog 15 #[.agg #[.int .i64 t.c.people, .int .i64 t.c.tracks, .int .i64 t.c.subs, .int .i64 t.c.slots, .slice h2.pA m1 h2.pc, .slice h2.tA m2 h2.tc, .slice h2.bA m3 h2.bc], .agg #[.int .i64 t.c.people, .int .i64 t.c.tracks, .int .i64 t.c.subs, .int .i64 t.c.slots, .slice hv.pA m1 hv.pc, .slice hv.tA m2 hv.tc, .slice hv.bA m3 hv.bc]] W fun e w' => e = .returned (.bool true) ∧ Upd [] wa w') := Lib.hid (fun W h2 k2' u => by
        have := same_any k2' (HKVA.out.upd u) HLEN.out.1 HLEN.out.2.1 HLEN.out.2.2
        rw [HSC.out h2, HSC.out] at this
        exact this.mono fun e w' ⟨he, u2⟩ => ⟨he, u.next u2⟩)
      have HDR : Hid (Upd [] wa wa.drew) := Lib.hid ((Upd.refl [] wa).drewN 1)
      have htl' := HTA.out.lt
      have hvl' := HVA.out.lt
      have HKEEP : Hid (∀ w', Upd [] wa w' → (w'.cell? ⟨T, 0, none⟩ = some (.int .i64 t.c.people) ∧ w'.cell? ⟨T, 1, none⟩ = some (.int .i64 t.c.tracks) ∧ w'.cell? ⟨T, 2, none⟩ = some (.int .i64 t.c.subs) ∧ w'.cell? ⟨T, 3, none⟩ = some (.int .i64 t.c.slots) ∧ w'.cell? ⟨T, 4, none⟩ = some (.slice h'.pA m1 h'.pc) ∧ w'.cell? ⟨T, 5, none⟩ = some (.slice h'.tA m2 h'.tc) ∧ w'.cell? ⟨T, 6, none⟩ = some (.slice h'.bA m3 h'.bc) ∧ w'.cell? ⟨V, 0, none⟩ = some (.int .i64 t.c.people) ∧ w'.cell? ⟨V, 1, none⟩ = some (.int .i64 t.c.tracks) ∧ w'.cell? ⟨V, 2, none⟩ = some (.int .i64 t.c.subs) ∧ w'.cell? ⟨V, 3, none⟩ = some (.int .i64 t.c.slots) ∧ w'.cell? ⟨V, 4, none⟩ = some (.slice hv.pA m1 hv.pc) ∧ w'.cell? ⟨V, 5, none⟩ = some (.slice hv.tA m2 hv.tc) ∧ w'.cell? ⟨V, 6, none⟩ = some (.slice hv.bA m3 hv.bc))) := Lib.hid (fun w' u => ⟨(u.cell (p := ⟨T, 0, none⟩) htl' (by simp)).trans (HTA.out.cell 0), (u.cell (p := ⟨T, 1, none⟩) htl' (by simp)).trans (HTA.out.cell 1), (u.cell (p := ⟨T, 2, none⟩) htl' (by simp)).trans (HTA.out.cell 2), (u.cell (p := ⟨T, 3, none⟩) htl' (by simp)).trans (HTA.out.cell 3), (u.cell (p := ⟨T, 4, none⟩) htl' (by simp)).trans (HTA.out.cell 4), (u.cell (p := ⟨T, 5, none⟩) htl' (by simp)).trans (HTA.out.cell 5), (u.cell (p := ⟨T, 6, none⟩) htl' (by simp)).trans (HTA.out.cell 6), (u.cell (p := ⟨V, 0, none⟩) hvl' (by simp)).trans (HVA.out.cell 0), (u.cell (p := ⟨V, 1, none⟩) hvl' (by simp)).trans (HVA.out.cell 1), (u.cell (p := ⟨V, 2, none⟩) hvl' (by simp)).trans (HVA.out.cell 2), (u.cell (p := ⟨V, 3, none⟩) hvl' (by simp)).trans (HVA.out.cell 3), (u.cell (p := ⟨V, 4, none⟩) hvl' (by simp)).trans (HVA.out.cell 4), (u.cell (p := ⟨V, 5, none⟩) hvl' (by simp)).trans (HVA.out.cell 5), (u.cell (p := ⟨V, 6, none⟩) hvl' (by simp)).trans (HVA.out.cell 6)⟩)
      have he0 : (er != er) = false := by simp
      clear htl' hvl'
      go_upto_region 16 with fail
      go_cut [111] (fun v wd => v = .bool false ∧ Upd [] wa wd)
      case first =>
        have hk0 := HKEEP.out wa (Upd.refl [] wa)
        obtain ⟨p0, p1, p2, p3, p4, p5, p6, r0, r1, r2, r3, r4, r5, r6⟩ := hk0
        go_region_law (first
          | (go_simp; go_at_call 16; with_reducible refine (HOF.out _ (by first | with_reducible assumption | with_reducible exact HDR.out)).mono ?_; rintro e wf ⟨h2, rfl, hst2, huf⟩; have kk := HKEEP.out wf huf; obtain ⟨s0, s1, s2, s3, s4, s5, s6, u0, u1, u2, u3, u4, u5, u6⟩ := kk)
          | (go_simp; go_at_call 15; with_reducible refine (HSM.out _ _ (by assumption) (by assumption)).mono ?_; rintro e wg ⟨rfl, hug⟩))
        all_goals
          go_wp2
          go_meet
          case rel => exact ⟨rfl, hug⟩
      obtain ⟨rfl, hud⟩ := hcut
      obtain ⟨wb, hwb⟩ : ∃ x : World, x = wc := ⟨_, rfl⟩
      rw [← hwb] at hud ⊢
      have HUAB := Lib.hid hud
      clear hwb he0 HOF HSM HDR HKEEP
      have HUB := Lib.hid (HUA.out.next hud)
      have HTB := Lib.hid (HTA.out.upd hud (by simp))
      have HVB := Lib.hid (HVA.out.upd hud (by simp))
      have HSB := Lib.hid (HBK.out.upd HUB.out (by simp))
      have HDBB : Hid (Blk wb (S + 1) 37 #[.int .i64 s.c.people, .int .i64 s.c.tracks, .int .i64 s.c.subs, .int .i64 s.c.slots, .slice hd.pA n1 hd.pc, .slice hd.tA n2 hd.tc, .slice hd.bA n3 hd.bc]) := Lib.hid (by
        have h9 := (HDA.out.upd hud).box
        rw [show scells s hd = [.int .i64 s.c.people, .int .i64 s.c.tracks, .int .i64 s.c.subs, .int .i64 s.c.slots, .slice hd.pA n1 hd.pc, .slice hd.tA n2 hd.tc, .slice hd.bA n3 hd.bc] by unfold scells; rw [← HN.out.1, ← HN.out.2.1, ← HN.out.2.2]] at h9
        exact h9)
      clear hud
      obtain ⟨gl, hgl⟩ : ∃ n, n = (goneM s t).length := ⟨_, rfl⟩
      have HGL := Lib.hid hgl
      have hgll : gl ≤ 64 := by
        rw [hgl]
        have h9 : (goneM s t).length ≤ s.bs.length := by unfold goneM; exact List.length_filter_le _ _
        have := HINV.out.nb; have := HINV.out.cl
        omega
      have HGN : Hid (Calls Try.prog 17 #[.agg #[.int .i64 s.c.people, .int .i64 s.c.tracks, .int .i64 s.c.subs, .int .i64 s.c.slots, .slice h.pA n1 h.pc, .slice h.tA n2 h.tc, .slice h.bA n3 h.bc], .agg #[.int .i64 t.c.people, .int .i64 t.c.tracks, .int .i64 t.c.subs, .int .i64 t.c.slots, .slice h'.pA m1 h'.pc, .slice h'.tA m2 h'.tc, .slice h'.bA m3 h'.bc]] wb fun e w' => ∃ A c, e = .returned (.slice A gl c) ∧ RwIn w' 0 5 A gl c ((goneM s t).flatMap encB) ∧ Upd [] wb w') := Lib.hid (by
        have h9 := gone_any (HST.out.st.upd HUB.out) (HKA.out.st.upd HUAB.out) (by have := HINV.out.nb; have := HINV.out.cl; omega) (by have := HI2.out.nb; have := HI2.out.cl; omega) HI2.out.ub
        rw [show scells s h = [.int .i64 s.c.people, .int .i64 s.c.tracks, .int .i64 s.c.subs, .int .i64 s.c.slots, .slice h.pA n1 h.pc, .slice h.tA n2 h.tc, .slice h.bA n3 h.bc] by unfold scells; rw [← HN.out.1, ← HN.out.2.1, ← HN.out.2.2], HSC.out h', ← hgl] at h9
        exact h9)
      have HGD : Hid (∀ W, Upd [] wb W → Calls Try.prog 18 #[.agg #[.int .i64 s.c.people, .int .i64 s.c.tracks, .int .i64 s.c.subs, .int .i64 s.c.slots, .slice hd.pA n1 hd.pc, .slice hd.tA n2 hd.tc, .slice hd.bA n3 hd.bc], .agg #[.int .i64 t.c.people, .int .i64 t.c.tracks, .int .i64 t.c.subs, .int .i64 t.c.slots, .slice hv.pA m1 hv.pc, .slice hv.tA m2 hv.tc, .slice hv.bA m3 hv.bc]] W fun e w' => ∃ A c, e = .returned (.slice A gl c) ∧ RwIn w' 0 5 A gl c ((goneM s t).flatMap encB) ∧ Upd [] W w') := Lib.hid (fun W u => by
        have h9 := rgone_any ((HDA.out.st.upd HUAB.out).upd u) ((HKVA.out.upd HUAB.out).upd u) (by have := HINV.out.nb; have := HINV.out.cl; omega) (by have := HI2.out.nb; have := HI2.out.cl; omega) HI2.out.ub
        rw [show scells s hd = [.int .i64 s.c.people, .int .i64 s.c.tracks, .int .i64 s.c.subs, .int .i64 s.c.slots, .slice hd.pA n1 hd.pc, .slice hd.tA n2 hd.tc, .slice hd.bA n3 hd.bc] by unfold scells; rw [← HN.out.1, ← HN.out.2.1, ← HN.out.2.2], HSC.out hv, ← hgl] at h9
        exact h9)
      clear hgl
      have p0 : wb.cell? ⟨S, 0, none⟩ = some (.int .i64 s.c.people) := HSB.out.cell 0
      have p1 : wb.cell? ⟨S, 1, none⟩ = some (.int .i64 s.c.tracks) := HSB.out.cell 1
      have p2 : wb.cell? ⟨S, 2, none⟩ = some (.int .i64 s.c.subs) := HSB.out.cell 2
      have p3 : wb.cell? ⟨S, 3, none⟩ = some (.int .i64 s.c.slots) := HSB.out.cell 3
      have p4 : wb.cell? ⟨S, 4, none⟩ = some (.slice h.pA n1 h.pc) := HSB.out.cell 4
      have p5 : wb.cell? ⟨S, 5, none⟩ = some (.slice h.tA n2 h.tc) := HSB.out.cell 5
      have p6 : wb.cell? ⟨S, 6, none⟩ = some (.slice h.bA n3 h.bc) := HSB.out.cell 6
      have q0 : wb.cell? ⟨T, 0, none⟩ = some (.int .i64 t.c.people) := HTB.out.cell 0
      have q1 : wb.cell? ⟨T, 1, none⟩ = some (.int .i64 t.c.tracks) := HTB.out.cell 1
      have q2 : wb.cell? ⟨T, 2, none⟩ = some (.int .i64 t.c.subs) := HTB.out.cell 2
      have q3 : wb.cell? ⟨T, 3, none⟩ = some (.int .i64 t.c.slots) := HTB.out.cell 3
      have q4 : wb.cell? ⟨T, 4, none⟩ = some (.slice h'.pA m1 h'.pc) := HTB.out.cell 4
      have q5 : wb.cell? ⟨T, 5, none⟩ = some (.slice h'.tA m2 h'.tc) := HTB.out.cell 5
      have q6 : wb.cell? ⟨T, 6, none⟩ = some (.slice h'.bA m3 h'.bc) := HTB.out.cell 6
      go_wp2_with fail
      refine HGN.out.mono ?_
      rintro e wg ⟨GA, gc, rfl, hgr, hug⟩
      clear p0 p1 p2 p3 p4 p5 p6 q0 q1 q2 q3 q4 q5 q6
      have HUG := Lib.hid hug
      have HGR := Lib.hid hgr
      have p0 : wg.cell? ⟨S + 1, 0, none⟩ = some (.int .i64 s.c.people) := (HDBB.out.upd hug (by simp)).cell 0
      have p1 : wg.cell? ⟨S + 1, 1, none⟩ = some (.int .i64 s.c.tracks) := (HDBB.out.upd hug (by simp)).cell 1
      have p2 : wg.cell? ⟨S + 1, 2, none⟩ = some (.int .i64 s.c.subs) := (HDBB.out.upd hug (by simp)).cell 2
      have p3 : wg.cell? ⟨S + 1, 3, none⟩ = some (.int .i64 s.c.slots) := (HDBB.out.upd hug (by simp)).cell 3
      have p4 : wg.cell? ⟨S + 1, 4, none⟩ = some (.slice hd.pA n1 hd.pc) := (HDBB.out.upd hug (by simp)).cell 4
      have p5 : wg.cell? ⟨S + 1, 5, none⟩ = some (.slice hd.tA n2 hd.tc) := (HDBB.out.upd hug (by simp)).cell 5
      have p6 : wg.cell? ⟨S + 1, 6, none⟩ = some (.slice hd.bA n3 hd.bc) := (HDBB.out.upd hug (by simp)).cell 6
      have q0 : wg.cell? ⟨V, 0, none⟩ = some (.int .i64 t.c.people) := (HVB.out.upd hug (by simp)).cell 0
      have q1 : wg.cell? ⟨V, 1, none⟩ = some (.int .i64 t.c.tracks) := (HVB.out.upd hug (by simp)).cell 1
      have q2 : wg.cell? ⟨V, 2, none⟩ = some (.int .i64 t.c.subs) := (HVB.out.upd hug (by simp)).cell 2
      have q3 : wg.cell? ⟨V, 3, none⟩ = some (.int .i64 t.c.slots) := (HVB.out.upd hug (by simp)).cell 3
      have q4 : wg.cell? ⟨V, 4, none⟩ = some (.slice hv.pA m1 hv.pc) := (HVB.out.upd hug (by simp)).cell 4
      have q5 : wg.cell? ⟨V, 5, none⟩ = some (.slice hv.tA m2 hv.tc) := (HVB.out.upd hug (by simp)).cell 5
      have q6 : wg.cell? ⟨V, 6, none⟩ = some (.slice hv.bA m3 hv.bc) := (HVB.out.upd hug (by simp)).cell 6
      clear hug hgr HGN
      go_wp2_with fail
      refine (HGD.out _ HUG.out).mono ?_
      rintro e wh ⟨GD, gd, rfl, hgr, hug⟩
      clear p0 p1 p2 p3 p4 p5 p6 q0 q1 q2 q3 q4 q5 q6 HGD
      have HR1 := Lib.hid (rowB (HGR.out.upd hug) HGL.out.symm)
      have HR2 := Lib.hid (rowB hgr HGL.out.symm)
      have HUH := Lib.hid (HUG.out.next hug)
      clear hgr hug HGR HUG
      have hl0 : ((gl : Int) != (gl : Int)) = false := by simp
      go_wp2
      clear hl0
      obtain ⟨gA, rfl⟩ : ∃ gA : Nat, gA = gk := ⟨gk, rfl⟩
      obtain ⟨wy, rfl⟩ : ∃ x : World, x = wr := ⟨wr, rfl⟩
      go_loopg [18] gl (fun gj x18 wx => ∃ n : Nat, n ≤ gl ∧ gl ≤ n + gj ∧ x18 = .int .i64 n ∧ Upd [] wh wx)
      case atStart => exact ⟨0, Nat.zero_le _, by omega, rfl, Upd.refl _ _⟩
      case round =>
        obtain ⟨n, hn, hgn, rfl, hur⟩ := hrel
        by_cases hltn : n < gl
        · obtain ⟨x, hxn⟩ : ∃ x, (goneM s t)[n]? = some x := ⟨_, List.getElem?_eq_getElem (by rw [← HGL.out]; exact hltn)⟩
          obtain ⟨b1, o1, e, e0, e1, _⟩ := HR1.out n x hxn
          cases e
          obtain ⟨b2, o2, e, f0, f1, _⟩ := HR2.out n x hxn
          cases e
          have hl1 := cellD_lt e0
          have hl2 := cellD_lt f0
          replace e0 := (hur.cell (p := ⟨b1, o1 + n * 5, none⟩) hl1 (by simp)).trans e0
          replace e1 := (hur.cell (p := ⟨b1, o1 + n * 5 + 1, none⟩) hl1 (by simp)).trans e1
          replace f0 := (hur.cell (p := ⟨b2, o2 + n * 5, none⟩) hl2 (by simp)).trans f0
          replace f1 := (hur.cell (p := ⟨b2, o2 + n * 5 + 1, none⟩) hl2 (by simp)).trans f1
          obtain ⟨x0, x1, x2, x3, x4⟩ := x
          dsimp only at e0 e1 f0 f1
          have hq0 : (x0 != x0) = false := by simp
          have hq1 : (x1 != x1) = false := by simp
          have hltni : (n : Int) < (gl : Int) := by omega
          have hwn : IntKind.i64.wrap ((n : Int) + 1) = (n : Int) + 1 := IntWalk.i64_in _ (by omega)
          have HGN := Lib.hid hgn
          have HUR := Lib.hid hur
          clear hxn hl1 hl2 hgn hur
          go_wp2_with fail
          go_quiet (fail)
          go_wp2
          go_roundg (gk - 1)
          case measure => have := HGN.out; omega
          case rel => exact ⟨n + 1, by omega, by have := HGN.out; omega, by go_num, HUR.out.drewN _⟩
        · obtain ⟨wk, rfl⟩ : ∃ x : World, x = wr := ⟨wr, rfl⟩
          have huk := HUH.out.next hur
          have hbS := HSB.out.upd huk (by simp)
          have hbD := HDBB.out.upd huk (by simp)
          have hbT := HTB.out.upd huk (by simp)
          have hbV := HVB.out.upd huk (by simp)
          have p0 : wk.cell? ⟨S, 0, none⟩ = some (.int .i64 s.c.people) := hbS.cell 0
          have p1 : wk.cell? ⟨S, 1, none⟩ = some (.int .i64 s.c.tracks) := hbS.cell 1
          have p2 : wk.cell? ⟨S, 2, none⟩ = some (.int .i64 s.c.subs) := hbS.cell 2
          have p3 : wk.cell? ⟨S, 3, none⟩ = some (.int .i64 s.c.slots) := hbS.cell 3
          have p4 : wk.cell? ⟨S, 4, none⟩ = some (.slice h.pA n1 h.pc) := hbS.cell 4
          have p5 : wk.cell? ⟨S, 5, none⟩ = some (.slice h.tA n2 h.tc) := hbS.cell 5
          have p6 : wk.cell? ⟨S, 6, none⟩ = some (.slice h.bA n3 h.bc) := hbS.cell 6
          have q0 : wk.cell? ⟨T, 0, none⟩ = some (.int .i64 t.c.people) := hbT.cell 0
          have q1 : wk.cell? ⟨T, 1, none⟩ = some (.int .i64 t.c.tracks) := hbT.cell 1
          have q2 : wk.cell? ⟨T, 2, none⟩ = some (.int .i64 t.c.subs) := hbT.cell 2
          have q3 : wk.cell? ⟨T, 3, none⟩ = some (.int .i64 t.c.slots) := hbT.cell 3
          have q4 : wk.cell? ⟨T, 4, none⟩ = some (.slice h'.pA m1 h'.pc) := hbT.cell 4
          have q5 : wk.cell? ⟨T, 5, none⟩ = some (.slice h'.tA m2 h'.tc) := hbT.cell 5
          have q6 : wk.cell? ⟨T, 6, none⟩ = some (.slice h'.bA m3 h'.bc) := hbT.cell 6
          have f0 := hbS.frozen 0
          have f1 := hbS.frozen 1
          have f2 := hbS.frozen 2
          have f3 := hbS.frozen 3
          have f4 := hbS.frozen 4
          have f5 := hbS.frozen 5
          have f6 := hbS.frozen 6
          obtain ⟨kx, ux⟩ := blk7 hbS (.int .i64 t.c.people) (.int .i64 t.c.tracks) (.int .i64 t.c.subs) (.int .i64 t.c.slots) (.slice h'.pA m1 h'.pc) (.slice h'.tA m2 h'.tc) (.slice h'.bA m3 h'.bc)
          obtain ⟨wx, hwx⟩ : ∃ W, W = (((((((wk.setCell ⟨S, 0, none⟩ (.int .i64 t.c.people)).setCell ⟨S, 1, none⟩ (.int .i64 t.c.tracks)).setCell ⟨S, 2, none⟩ (.int .i64 t.c.subs)).setCell ⟨S, 3, none⟩ (.int .i64 t.c.slots)).setCell ⟨S, 4, none⟩ (.slice h'.pA m1 h'.pc)).setCell ⟨S, 5, none⟩ (.slice h'.tA m2 h'.tc)).setCell ⟨S, 6, none⟩ (.slice h'.bA m3 h'.bc)) := ⟨_, rfl⟩
          rw [← hwx] at kx ux
          have hbD2 := hbD.upd ux (by simp)
          have hbV2 : Blk wx V 37 #[.int .i64 t.c.people, .int .i64 t.c.tracks, .int .i64 t.c.subs, .int .i64 t.c.slots, .slice hv.pA m1 hv.pc, .slice hv.tA m2 hv.tc, .slice hv.bA m3 hv.bc] := hbV.upd ux (by
            rw [List.mem_singleton]
            intro e9
            have k1 : wk.heap[V]? = some (.cells _ 37 (0, 0)) := hbV
            have k2 : wk.heap[S]? = some (.cells _ 31 (0, 0)) := hbS
            rw [e9, k2] at k1
            injection k1 with k1
            injection k1 with _ k1
            revert k1
            decide)
          obtain ⟨ky, uy⟩ := blk7 hbD2 (.int .i64 t.c.people) (.int .i64 t.c.tracks) (.int .i64 t.c.subs) (.int .i64 t.c.slots) (.slice hv.pA m1 hv.pc) (.slice hv.tA m2 hv.tc) (.slice hv.bA m3 hv.bc)
          obtain ⟨wz, hwz⟩ : ∃ W, W = (((((((wx.setCell ⟨S + 1, 0, none⟩ (.int .i64 t.c.people)).setCell ⟨S + 1, 1, none⟩ (.int .i64 t.c.tracks)).setCell ⟨S + 1, 2, none⟩ (.int .i64 t.c.subs)).setCell ⟨S + 1, 3, none⟩ (.int .i64 t.c.slots)).setCell ⟨S + 1, 4, none⟩ (.slice hv.pA m1 hv.pc)).setCell ⟨S + 1, 5, none⟩ (.slice hv.tA m2 hv.tc)).setCell ⟨S + 1, 6, none⟩ (.slice hv.bA m3 hv.bc)) := ⟨_, rfl⟩
          rw [← hwz] at ky uy
          have HFIN : Hid (∃ s h, Inv s ∧ Blk wz S 31 (scells s h).toArray ∧ StAv wz S s h ∧ Below w.heap.size w wz ∧ ∃ hd, DocIn wz S s h hd) := Lib.hid (by
            have hp1 : Av (S + 1) t h' := HAV.out (S + 1) (HDC.out.box.lt) HDC.out.p1
            have hsA : StAv wk S t h' := (HKA.out.upd HUAB.out).upd huk
            have hsB : StIn wz t h' := (hsA.st.past ux hsA.av).past uy hp1
            have hsV : StIn wz t hv := (((HKVA.out.upd HUAB.out).upd huk).past ux HAV2.out.1).past uy HAV2.out.2
            refine ⟨t, h', HI2.out, ?_, ⟨hsB, hsA.av⟩, ?_, hv, ?_, hsV, HAV2.out.1, HAV2.out.2, hp1⟩
            · rw [HSC.out]
              exact kx.upd uy (by simp)
            · have hb9 := HBW.out.trans ((HUB.out.next huk).below HBW.out.size (by simp))
              exact (hb9.trans (ux.below hb9.size (fun s hs => by rw [List.mem_singleton] at hs; subst hs; exact HWS.out))).trans (uy.below (Nat.le_trans hb9.size ux.size) (fun s hs => by rw [List.mem_singleton] at hs; subst hs; have := HWS.out; omega))
            · rw [HSC.out]
              exact ky)
          have HWX := Lib.hid hwx
          have HWZ := Lib.hid hwz
          have HBD2 := Lib.hid hbD2
          have HBV2 := Lib.hid hbV2
          clear kx ux ky uy hwx hwz hbD2 hbV2 hbS hbD hbT hbV huk hur hgn
          go_upto_region 28 with fail
          rw [← HWX.out]
          clear p0 p1 p2 p3 p4 p5 p6 q0 q1 q2 q3 q4 q5 q6 f0 f1 f2 f3 f4 f5 f6
          have p0 : wx.cell? ⟨S + 1, 0, none⟩ = some (.int .i64 s.c.people) := HBD2.out.cell 0
          have p1 : wx.cell? ⟨S + 1, 1, none⟩ = some (.int .i64 s.c.tracks) := HBD2.out.cell 1
          have p2 : wx.cell? ⟨S + 1, 2, none⟩ = some (.int .i64 s.c.subs) := HBD2.out.cell 2
          have p3 : wx.cell? ⟨S + 1, 3, none⟩ = some (.int .i64 s.c.slots) := HBD2.out.cell 3
          have p4 : wx.cell? ⟨S + 1, 4, none⟩ = some (.slice hd.pA n1 hd.pc) := HBD2.out.cell 4
          have p5 : wx.cell? ⟨S + 1, 5, none⟩ = some (.slice hd.tA n2 hd.tc) := HBD2.out.cell 5
          have p6 : wx.cell? ⟨S + 1, 6, none⟩ = some (.slice hd.bA n3 hd.bc) := HBD2.out.cell 6
          have q0 : wx.cell? ⟨V, 0, none⟩ = some (.int .i64 t.c.people) := HBV2.out.cell 0
          have q1 : wx.cell? ⟨V, 1, none⟩ = some (.int .i64 t.c.tracks) := HBV2.out.cell 1
          have q2 : wx.cell? ⟨V, 2, none⟩ = some (.int .i64 t.c.subs) := HBV2.out.cell 2
          have q3 : wx.cell? ⟨V, 3, none⟩ = some (.int .i64 t.c.slots) := HBV2.out.cell 3
          have q4 : wx.cell? ⟨V, 4, none⟩ = some (.slice hv.pA m1 hv.pc) := HBV2.out.cell 4
          have q5 : wx.cell? ⟨V, 5, none⟩ = some (.slice hv.tA m2 hv.tc) := HBV2.out.cell 5
          have q6 : wx.cell? ⟨V, 6, none⟩ = some (.slice hv.bA m3 hv.bc) := HBV2.out.cell 6
          have f0 := HBD2.out.frozen 0
          have f1 := HBD2.out.frozen 1
          have f2 := HBD2.out.frozen 2
          have f3 := HBD2.out.frozen 3
          have f4 := HBD2.out.frozen 4
          have f5 := HBD2.out.frozen 5
          have f6 := HBD2.out.frozen 6
          have hwi : IntKind.i64.wrap ((i : Int) + 1) = (i : Int) + 1 := IntWalk.i64_in _ (by omega)
          go_wp2
          rw [← HWZ.out]
          obtain ⟨gk, rfl⟩ : ∃ g : Nat, g = gA := ⟨gA, rfl⟩
          go_roundg (gk - 1)
          case measure => have := HGI.out; omega
          case rel => exact ⟨i + 1, by omega, by have := HGI.out; omega, by go_num, HFIN.out⟩
    · go_wp2
      go_ret
      exact ⟨rfl, hbw⟩
end Go.Proofs.Ytjcbaelefacolaa
