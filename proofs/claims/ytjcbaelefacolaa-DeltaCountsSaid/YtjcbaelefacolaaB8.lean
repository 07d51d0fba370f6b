/- Parts of the proof, one behind the other: DCounts. No condition of their own. -/
import Derived.Test.YtjcbaelefacolaaB1
import Derived.Test.YtjcbaelefacolaaB7
/- DeltaCounts: the walk. -/
namespace Go.Proofs.Ytjcbaelefacolaa
open Go Go.RowKit
set_option maxHeartbeats 400000

set_option maxRecDepth 100000 in
set_option maxHeartbeats 4000000 in
theorem counts_any (c : Cf) (A : Option Addr) (cap : Nat) (l : List (Rq × SH)) (w : World) (hl : l.length ≤ 9223372036854775807) (hc : CellsIn w 0 w.heap.size 8 A l.length (l.flatMap encQ)) (hx : ∀ x, x ∈ l → RqIn w x.1 x.2) :
    Calls Try.prog 7 #[.agg #[.int .i64 c.people, .int .i64 c.tracks, .int .i64 c.subs, .int .i64 c.slots], .slice A l.length cap] w fun e w' => e = .returned (.bool true) ∧ Below w.heap.size w w' := by
  obtain ⟨W0, hW0⟩ : ∃ W, W = w.alloc (.cells #[.int .i64 c.people, .int .i64 c.tracks, .int .i64 c.subs, .int .i64 c.slots] 23) := ⟨_, rfl⟩
  obtain ⟨g, hg⟩ : ∃ g, g = w.heap.size := ⟨_, rfl⟩
  have hu0 : Upd [] w W0 := by rw [hW0]; exact (Upd.refl [] w).alloc _
  have hb0 : Blk W0 g 23 #[.int .i64 c.people, .int .i64 c.tracks, .int .i64 c.subs, .int .i64 c.slots] := by rw [hW0, hg]; exact Blk.new _ _ _
  have HC := Lib.hid hc
  have HRX := Lib.hid hx
  have HU0 := Lib.hid hu0
  have HB0 := Lib.hid hb0
  have HF := Lib.hid (fun (W : World) (u : Upd [] w W) => few_any (cap := cap) ((hc.below (u.below (Nat.le_refl _) (by simp)) (Nat.le_refl _)).more (Nat.le_refl _) u.size) hl)
  obtain ⟨L, hL⟩ : ∃ L, L = l.length := ⟨_, rfl⟩
  have HL := Lib.hid hL
  obtain ⟨b1, hb1⟩ : ∃ b, b = fewQ (l.map (·.1)) := ⟨_, rfl⟩
  have HB1 := Lib.hid hb1
  obtain ⟨b2, hb2⟩ : ∃ b, b = confOk c := ⟨_, rfl⟩
  have HB2 := Lib.hid hb2
  have HBG := Lib.hid (fun (W : World) => begun_any W c)
  rw [← hb2] at HBG
  rw [← hb1, ← hL] at HF
  rw [← hL] at hl ⊢
  clear hb1 hb2 hL hc hx hu0 hb0
  go_enter Try.func7, Try.ntmps7
  go_upto_region 1 with fail
  rw [← hW0, ← hg]
  have HG := Lib.hid hg
  clear hW0 hg
  go_wp2_with fail
  refine (awake_any _).mono ?_
  rintro _ w1 ⟨rfl, hu1⟩
  have HU1 := Lib.hid (HU0.out.next hu1)
  have HB01 := Lib.hid (HB0.out.upd hu1 (by simp))
  clear hu1 HU0 HB0
  go_wp2_with fail
  refine (HF.out _ HU1.out).mono ?_
  rintro _ w1' ⟨rfl, hw1⟩
  replace hw1 := hw1.symm
  subst hw1
  go_upto_region 5 with fail
  have g0 : w1.cell? ⟨g, 0, none⟩ = some (.int .i64 c.people) := HB01.out.cell 0
  have g1 : w1.cell? ⟨g, 1, none⟩ = some (.int .i64 c.tracks) := HB01.out.cell 1
  have g2 : w1.cell? ⟨g, 2, none⟩ = some (.int .i64 c.subs) := HB01.out.cell 2
  have g3 : w1.cell? ⟨g, 3, none⟩ = some (.int .i64 c.slots) := HB01.out.cell 3
  rw [show scells (newM (confM c)) newHd = [.int .i64 (confM c).people, .int .i64 (confM c).tracks, .int .i64 (confM c).subs, .int .i64 (confM c).slots, .slice none 0 0, .slice none 0 0, .slice none 0 0] from rfl] at HBG
  go_wp2_with fail
  refine (HBG.out _).mono ?_
  rintro _ w2 ⟨rfl, hu2⟩
  have HU2 := Lib.hid (HU1.out.next hu2)
  clear hu2 HU1 HB01 g0 g1 g2 g3 HF HBG
  go_upto_region 6 with fail
  obtain ⟨S, hS⟩ : ∃ S, S = w2.heap.size := ⟨_, rfl⟩
  obtain ⟨m, hm⟩ : ∃ m, m = confM c := ⟨_, rfl⟩
  rw [← hm]
  obtain ⟨w3, hw3⟩ : ∃ W, W = w2.alloc (.cells #[.int .i64 m.people, .int .i64 m.tracks, .int .i64 m.subs, .int .i64 m.slots, .slice none 0 0, .slice none 0 0, .slice none 0 0] 31) := ⟨_, rfl⟩
  obtain ⟨w4, hw4⟩ : ∃ W, W = w3.alloc (.cells #[.int .i64 c.people, .int .i64 c.tracks, .int .i64 c.subs, .int .i64 c.slots, .slice none 0 0, .slice none 0 0, .slice none 0 0] 37) := ⟨_, rfl⟩
  rw [← hS, ← hw3, ← hw4]
  have u3 : Upd [] w2 w3 := by rw [hw3]; exact (Upd.refl [] w2).alloc _
  have u4 : Upd [] w3 w4 := by rw [hw4]; exact (Upd.refl [] w3).alloc _
  have HU4 : Hid (Upd [] w w4) := Lib.hid ((HU2.out.next u3).next u4)
  have HB4 : Hid (Blk w4 S 31 (scells (newM m) newHd).toArray) := Lib.hid (by
    have : Blk w3 S 31 (scells (newM m) newHd).toArray := by rw [hw3, hS]; exact Blk.new _ _ _
    exact this.upd u4 (by simp))
  have HWS : Hid (w.heap.size ≤ S) := Lib.hid (by rw [hS]; exact HU2.out.size)
  have HM := Lib.hid hm
  clear hS hw3 hw4 u3 u4 HU2 hm
  cases b1 with
  | false =>
    go_wp2
    go_ret
    exact ⟨rfl, HU4.out.below (Nat.le_refl _) (by simp)⟩
  | true =>
  cases b2 with
  | false =>
    go_wp2
    go_ret
    exact ⟨rfl, HU4.out.below (Nat.le_refl _) (by simp)⟩
  | true =>
  have hmc : m = c := by rw [HM.out]; unfold confM; rw [← HB2.out]; rfl
  subst hmc
  have HIV : Hid (Inv (newM m)) := Lib.hid (by
    have := HB2.out.symm
    unfold confOk at this
    simp only [decide_eq_true_eq] at this
    exact inv_new m ⟨by omega, by omega⟩ ⟨by omega, by omega⟩ ⟨by omega, by omega⟩ ⟨by omega, by omega⟩)
  have HQ6 : Hid (∀ x, x ∈ l → x.1.ss.length ≤ 6) := Lib.hid (fun x hx => by
    have := HB1.out.symm
    unfold fewQ at this
    simp only [Bool.and_eq_true, List.all_eq_true, decide_eq_true_eq] at this
    exact this.1 x.1 (List.mem_map.2 ⟨x, hx, rfl⟩))
  have HS4 : Hid (StAv w4 S (newM m) newHd) := Lib.hid ⟨⟨⟨CellsIn.nil _ _ _ _ _, fun _ => ⟨rfl, rfl⟩, Nat.le_refl _, by unfold newHd; dsimp only; omega⟩, ⟨CellsIn.nil _ _ _ _ _, fun _ => ⟨rfl, rfl⟩, Nat.le_refl _, by unfold newHd; dsimp only; omega⟩, ⟨CellsIn.nil _ _ _ _ _, fun _ => ⟨rfl, rfl⟩, Nat.le_refl _, by unfold newHd; dsimp only; omega⟩, rfl, fun x hx => (by cases hx)⟩, ⟨fun hn => absurd hn (Nat.lt_irrefl 0), fun hn => absurd hn (Nat.lt_irrefl 0), fun hn => absurd hn (Nat.lt_irrefl 0), fun x hx => (by cases hx)⟩⟩
  have HBW : Hid (Below w.heap.size w w4) := Lib.hid (HU4.out.below (Nat.le_refl _) (by simp))
  clear HM HB2 HB1 HU4
  go_wp2
  go_loopg [10] L (fun gk x10 wr => ∃ i : Nat, i ≤ L ∧ L ≤ i + gk ∧ x10 = .int .i64 i ∧ ∃ s h, Inv s ∧ Blk wr S 31 (scells s h).toArray ∧ StAv wr S s h ∧ Below w.heap.size w wr)
  case atStart => exact ⟨0, Nat.zero_le _, by omega, rfl, _, _, HIV.out, HB4.out, HS4.out, HBW.out⟩
  case round =>
    obtain ⟨i, hi, hgi, rfl, s, h, hiv, hbk, hst, hbw⟩ := hrel
    by_cases hlt : i < L
    · obtain ⟨x, hxi⟩ : ∃ p, l[i]? = some p := ⟨_, List.getElem?_eq_getElem (by rw [← HL.out]; exact hlt)⟩
      obtain ⟨b, off, rfl, hb1, hb2, hcc⟩ := HC.out.2 (by rw [← HL.out]; omega)
      have hxm := List.mem_of_getElem? hxi
      have hbwr : b < wr.heap.size := Nat.lt_of_lt_of_le hb2 hbw.size
      have c0 := (hbw.cell (p := ⟨b, off + (i * 8 + 0), none⟩) hb2).trans (hcc (i * 8 + 0) _ (flat_get encQ_len l i 0 x hxi (by omega)))
      have c1 := (hbw.cell (p := ⟨b, off + (i * 8 + 1), none⟩) hb2).trans (hcc (i * 8 + 1) _ (flat_get encQ_len l i 1 x hxi (by omega)))
      have c2 := (hbw.cell (p := ⟨b, off + (i * 8 + 2), none⟩) hb2).trans (hcc (i * 8 + 2) _ (flat_get encQ_len l i 2 x hxi (by omega)))
      have c3 := (hbw.cell (p := ⟨b, off + (i * 8 + 3), none⟩) hb2).trans (hcc (i * 8 + 3) _ (flat_get encQ_len l i 3 x hxi (by omega)))
      have c4 := (hbw.cell (p := ⟨b, off + (i * 8 + 4), none⟩) hb2).trans (hcc (i * 8 + 4) _ (flat_get encQ_len l i 4 x hxi (by omega)))
      have c5 := (hbw.cell (p := ⟨b, off + (i * 8 + 5), none⟩) hb2).trans (hcc (i * 8 + 5) _ (flat_get encQ_len l i 5 x hxi (by omega)))
      have c6 := (hbw.cell (p := ⟨b, off + (i * 8 + 6), none⟩) hb2).trans (hcc (i * 8 + 6) _ (flat_get encQ_len l i 6 x hxi (by omega)))
      have c7 := (hbw.cell (p := ⟨b, off + (i * 8 + 7), none⟩) hb2).trans (hcc (i * 8 + 7) _ (flat_get encQ_len l i 7 x hxi (by omega)))
      have hrq := (HRX.out x hxm).below (hbw)
      have hdo := fun (W : World) (u : Upd [] wr W) => do_any (hst.upd u).st hiv ((hrq.below (u.below (Nat.le_refl _) (by simp))).q (HQ6.out x hxm))
      obtain ⟨⟨kd, who, room, rights, track, ss, layer, tid⟩, ⟨qA, qc⟩⟩ := x
      simp only [encQ, qcells, List.getElem?_cons_zero, List.getElem?_cons_succ, List.getElem_cons_zero, List.getElem_cons_succ, ← Nat.add_assoc, Nat.add_zero] at c0 c1 c2 c3 c4 c5 c6 c7
      unfold qcells at hdo
      dsimp only at hdo
      obtain ⟨ql, hql⟩ : ∃ n, n = ss.length := ⟨_, rfl⟩
      obtain ⟨n1, hn1⟩ : ∃ n, n = s.ps.length := ⟨_, rfl⟩
      obtain ⟨n2, hn2⟩ : ∃ n, n = s.ts.length := ⟨_, rfl⟩
      obtain ⟨n3, hn3⟩ : ∃ n, n = s.bs.length := ⟨_, rfl⟩
      obtain ⟨r, hr⟩ : ∃ r, r = doM s ⟨kd, who, room, rights, track, ss, layer, tid⟩ := ⟨_, rfl⟩
      obtain ⟨t, er⟩ := r
      rw [show scells s h = [.int .i64 s.c.people, .int .i64 s.c.tracks, .int .i64 s.c.subs, .int .i64 s.c.slots, .slice h.pA n1 h.pc, .slice h.tA n2 h.tc, .slice h.bA n3 h.bc] by unfold scells; rw [← hn1, ← hn2, ← hn3]] at hbk hdo
      rw [← hql] at hdo c5
      rw [← hr] at hdo
      dsimp only at hdo
      obtain ⟨m1, hm1⟩ : ∃ n, n = t.ps.length := ⟨_, rfl⟩
      obtain ⟨m2, hm2⟩ : ∃ n, n = t.ts.length := ⟨_, rfl⟩
      obtain ⟨m3, hm3⟩ : ∃ n, n = t.bs.length := ⟨_, rfl⟩
      have hsc : ∀ h', scells t h' = [.int .i64 t.c.people, .int .i64 t.c.tracks, .int .i64 t.c.subs, .int .i64 t.c.slots, .slice h'.pA m1 h'.pc, .slice h'.tA m2 h'.tc, .slice h'.bA m3 h'.bc] := fun h' => by unfold scells; rw [← hm1, ← hm2, ← hm3]
      have HDO : Hid (∀ W, Upd [] wr W → Calls Try.prog 12 #[.agg #[.int .i64 s.c.people, .int .i64 s.c.tracks, .int .i64 s.c.subs, .int .i64 s.c.slots, .slice h.pA n1 h.pc, .slice h.tA n2 h.tc, .slice h.bA n3 h.bc], .agg #[.int .i64 kd, .int .i64 who, .int .i64 room, .int .i64 rights, .int .i64 track, .slice qA ql qc, .int .i64 layer, .int .i64 tid]] W fun e w' =>
          ∃ h', e = .returned (.tuple #[.agg #[.int .i64 t.c.people, .int .i64 t.c.tracks, .int .i64 t.c.subs, .int .i64 t.c.slots, .slice h'.pA m1 h'.pc, .slice h'.tA m2 h'.tc, .slice h'.bA m3 h'.bc], .int .i64 er]) ∧ StIn w' t h' ∧ (∀ g, g < W.heap.size → Av g s h → Av g t h') ∧ Upd [] W w') := Lib.hid (fun W u => (hdo W u).mono fun e w' ⟨h', he, hk, ha, hu⟩ => ⟨h', by rw [he, hsc], hk, ha, hu⟩)
      have HBK := Lib.hid hbk
      have HST := Lib.hid hst
      have HBW := Lib.hid hbw
      have HINV := Lib.hid hiv
      have HI2 : Hid (Inv t) := Lib.hid (by have := inv_do hiv ⟨kd, who, room, rights, track, ss, layer, tid⟩; rw [← hr] at this; exact this)
      have HR := Lib.hid hr
      have HSC := Lib.hid hsc
      have HN := Lib.hid (And.intro hn1 (And.intro hn2 hn3))
      have HM := Lib.hid (And.intro hm1 (And.intro hm2 hm3))
      have HXI := Lib.hid hxi
      have hsl := hbk.lt
      have p0 : wr.cell? ⟨S, 0, none⟩ = some (.int .i64 s.c.people) := hbk.cell 0
      have p1 : wr.cell? ⟨S, 1, none⟩ = some (.int .i64 s.c.tracks) := hbk.cell 1
      have p2 : wr.cell? ⟨S, 2, none⟩ = some (.int .i64 s.c.subs) := hbk.cell 2
      have p3 : wr.cell? ⟨S, 3, none⟩ = some (.int .i64 s.c.slots) := hbk.cell 3
      have p4 : wr.cell? ⟨S, 4, none⟩ = some (.slice h.pA n1 h.pc) := hbk.cell 4
      have p5 : wr.cell? ⟨S, 5, none⟩ = some (.slice h.tA n2 h.tc) := hbk.cell 5
      have p6 : wr.cell? ⟨S, 6, none⟩ = some (.slice h.bA n3 h.bc) := hbk.cell 6
      have HC0 := Lib.hid (And.intro c0 (And.intro c1 (And.intro c2 (And.intro c3 (And.intro c4 (And.intro c5 (And.intro c6 c7)))))))
      have HP0 := Lib.hid (And.intro p0 (And.intro p1 (And.intro p2 (And.intro p3 (And.intro p4 (And.intro p5 p6))))))
      have hwi : IntKind.i64.wrap ((i : Int) + 1) = (i : Int) + 1 := IntWalk.i64_in _ (by omega)
      have hi0 : (i : Int) < (L : Int) := by omega
      clear hbk hst hbw hiv hr hsc hn1 hn2 hn3 hm1 hm2 hm3 hql hxi hdo hcc hxm hrq hb1 hb2
      go_upto_region 11 with fail
      go_cut [11, 12] (fun s1 s2 wc => ∃ T h', s1 = .pointer (some ⟨T, 0, none⟩) ∧ s2 = .int .i64 er ∧ Blk wc T 31 #[.int .i64 t.c.people, .int .i64 t.c.tracks, .int .i64 t.c.subs, .int .i64 t.c.slots, .slice h'.pA m1 h'.pc, .slice h'.tA m2 h'.tc, .slice h'.bA m3 h'.bc] ∧ StAv wc S t h' ∧ Upd [] wr wc ∧ wr.heap.size ≤ T)
      case first =>
        have HC1 : Hid (Upd [] wr (wr.drewN 1)) := Lib.hid ((Upd.refl _ _).drewN 1)
        clear p0 p1 p2 p3 p4 p5 p6 c0 c1 c2 c3 c4 c5 c6 c7
        have q0 : ∀ z : Cls (Upd [] wr), z.w.cell? ⟨S, 0, none⟩ = some (.int .i64 s.c.people) := fun z => (z.h.cell (p := ⟨S, 0, none⟩) hsl (by simp)).trans (HBK.out.cell 0)
        have q1 : ∀ z : Cls (Upd [] wr), z.w.cell? ⟨S, 1, none⟩ = some (.int .i64 s.c.tracks) := fun z => (z.h.cell (p := ⟨S, 1, none⟩) hsl (by simp)).trans (HBK.out.cell 1)
        have q2 : ∀ z : Cls (Upd [] wr), z.w.cell? ⟨S, 2, none⟩ = some (.int .i64 s.c.subs) := fun z => (z.h.cell (p := ⟨S, 2, none⟩) hsl (by simp)).trans (HBK.out.cell 2)
        have q3 : ∀ z : Cls (Upd [] wr), z.w.cell? ⟨S, 3, none⟩ = some (.int .i64 s.c.slots) := fun z => (z.h.cell (p := ⟨S, 3, none⟩) hsl (by simp)).trans (HBK.out.cell 3)
        have q4 : ∀ z : Cls (Upd [] wr), z.w.cell? ⟨S, 4, none⟩ = some (.slice h.pA n1 h.pc) := fun z => (z.h.cell (p := ⟨S, 4, none⟩) hsl (by simp)).trans (HBK.out.cell 4)
        have q5 : ∀ z : Cls (Upd [] wr), z.w.cell? ⟨S, 5, none⟩ = some (.slice h.tA n2 h.tc) := fun z => (z.h.cell (p := ⟨S, 5, none⟩) hsl (by simp)).trans (HBK.out.cell 5)
        have q6 : ∀ z : Cls (Upd [] wr), z.w.cell? ⟨S, 6, none⟩ = some (.slice h.bA n3 h.bc) := fun z => (z.h.cell (p := ⟨S, 6, none⟩) hsl (by simp)).trans (HBK.out.cell 6)
        have r0 : ∀ z : Cls (Upd [] wr), z.w.cell? ⟨b, off + i * 8, none⟩ = some (.int .i64 kd) := fun z => (z.h.cell (p := ⟨b, off + i * 8, none⟩) hbwr (by simp)).trans HC0.out.1
        have r1 : ∀ z : Cls (Upd [] wr), z.w.cell? ⟨b, off + i * 8 + 1, none⟩ = some (.int .i64 who) := fun z => (z.h.cell (p := ⟨b, off + i * 8 + 1, none⟩) hbwr (by simp)).trans HC0.out.2.1
        have r2 : ∀ z : Cls (Upd [] wr), z.w.cell? ⟨b, off + i * 8 + 2, none⟩ = some (.int .i64 room) := fun z => (z.h.cell (p := ⟨b, off + i * 8 + 2, none⟩) hbwr (by simp)).trans HC0.out.2.2.1
        have r3 : ∀ z : Cls (Upd [] wr), z.w.cell? ⟨b, off + i * 8 + 3, none⟩ = some (.int .i64 rights) := fun z => (z.h.cell (p := ⟨b, off + i * 8 + 3, none⟩) hbwr (by simp)).trans HC0.out.2.2.2.1
        have r4 : ∀ z : Cls (Upd [] wr), z.w.cell? ⟨b, off + i * 8 + 4, none⟩ = some (.int .i64 track) := fun z => (z.h.cell (p := ⟨b, off + i * 8 + 4, none⟩) hbwr (by simp)).trans HC0.out.2.2.2.2.1
        have r5 : ∀ z : Cls (Upd [] wr), z.w.cell? ⟨b, off + i * 8 + 5, none⟩ = some (.slice qA ql qc) := fun z => (z.h.cell (p := ⟨b, off + i * 8 + 5, none⟩) hbwr (by simp)).trans HC0.out.2.2.2.2.2.1
        have r6 : ∀ z : Cls (Upd [] wr), z.w.cell? ⟨b, off + i * 8 + 6, none⟩ = some (.int .i64 layer) := fun z => (z.h.cell (p := ⟨b, off + i * 8 + 6, none⟩) hbwr (by simp)).trans HC0.out.2.2.2.2.2.2.1
        have r7 : ∀ z : Cls (Upd [] wr), z.w.cell? ⟨b, off + i * 8 + 7, none⟩ = some (.int .i64 tid) := fun z => (z.h.cell (p := ⟨b, off + i * 8 + 7, none⟩) hbwr (by simp)).trans HC0.out.2.2.2.2.2.2.2
        refine wp_new_call (Upd [] wr) ((Upd.refl _ _).drewN 1) [0, 1, 2, 3, 4] 5 9 [6, 7, 8] [10, 11] (by kernel_rfl) (by kernel_rfl) (fun _ _ _ _ h => h) ?_
        intro hne
        simp only [pick3, List.map_cons, List.map_nil, List.getElem?_cons_zero, List.getElem?_cons_succ, Option.getD_some]
        repeat (go_big_quiet_step (fail))
        refine wpQuiet_nil ?_
        clear q0 q1 q2 q3 q4 q5 q6 r0 r1 r2 r3 r4 r5 r6 r7
        obtain ⟨wd, hwd⟩ : ∃ W, W = wr.drewN 1 := ⟨_, rfl⟩
        rw [← hwd] at HC1 ⊢
        clear hwd
        constructor
        · refine wpHeldK_step rfl fun K hK => ?_
          go_simp
          obtain ⟨T, hT⟩ : ∃ T, T = wd.heap.size := ⟨_, rfl⟩
          obtain ⟨V, hV⟩ : ∃ V, V = wd.alloc (.cells #[.int .i64 0, .int .i64 0, .int .i64 0, .int .i64 0, .slice none 0 0, .slice none 0 0, .slice none 0 0] 31) := ⟨_, rfl⟩
          rw [← hV, ← hT]
          have hVu : Upd [] wr V := HC1.out.next (by rw [hV]; exact (Upd.refl [] wd).alloc _)
          have hVB : Blk V T 31 #[.int .i64 0, .int .i64 0, .int .i64 0, .int .i64 0, .slice none 0 0, .slice none 0 0, .slice none 0 0] := by rw [hV, hT]; exact Blk.new _ _ _
          have HT : Hid (wr.heap.size ≤ T) := Lib.hid (by rw [hT]; exact HC1.out.size)
          have HVB := Lib.hid hVB
          have HVU := Lib.hid hVu
          clear hT hV hVB hVu
          refine hK.out _ _ ⟨⟨V, HVU.out⟩, rfl⟩ ?_
          clear hK K
          refine wpHeldK_step rfl fun K hK => ?_
          go_simp
          refine (HDO.out V HVU.out).mono ?_
          rintro e w5 ⟨h', rfl, hk5, ha5, hu5⟩
          have HA5 : Hid (Av T t h' ∧ Av S t h') := Lib.hid ⟨ha5 T HVB.out.lt (Av.fresh HST.out.st HT.out), ha5 S (Nat.lt_of_lt_of_le HBK.out.lt HVU.out.size) HST.out.av⟩
          clear ha5
          have HU5 := Lib.hid (HVU.out.next hu5)
          have HK5 := Lib.hid hk5
          have HB5 := Lib.hid (HVB.out.upd hu5 (by simp))
          clear hk5 hu5 HVB HVU
          refine hK.out _ _ ⟨⟨w5, HU5.out⟩, rfl⟩ ?_
          clear hK K
          refine wpQuiet_then ?_
          repeat (go_big_quiet_step (fail))
          refine wpQuiet_nil ?_
          have y0 := HB5.out.cell 0
          have y1 := HB5.out.cell 1
          have y2 := HB5.out.cell 2
          have y3 := HB5.out.cell 3
          have y4 := HB5.out.cell 4
          have y5 := HB5.out.cell 5
          have y6 := HB5.out.cell 6
          have z0 := HB5.out.frozen 0
          have z1 := HB5.out.frozen 1
          have z2 := HB5.out.frozen 2
          have z3 := HB5.out.frozen 3
          have z4 := HB5.out.frozen 4
          have z5 := HB5.out.frozen 5
          have z6 := HB5.out.frozen 6
          simp only [List.getElem?_toArray, List.getElem?_cons_zero, List.getElem?_cons_succ] at y0 y1 y2 y3 y4 y5 y6
          obtain ⟨kx, ux⟩ := blk7 HB5.out (.int .i64 t.c.people) (.int .i64 t.c.tracks) (.int .i64 t.c.subs) (.int .i64 t.c.slots) (.slice h'.pA m1 h'.pc) (.slice h'.tA m2 h'.tc) (.slice h'.bA m3 h'.bc)
          obtain ⟨w6, hw6⟩ : ∃ w6, w6 = (((((((w5.setCell ⟨T, 0, none⟩ (.int .i64 t.c.people)).setCell ⟨T, 1, none⟩ (.int .i64 t.c.tracks)).setCell ⟨T, 2, none⟩ (.int .i64 t.c.subs)).setCell ⟨T, 3, none⟩ (.int .i64 t.c.slots)).setCell ⟨T, 4, none⟩ (.slice h'.pA m1 h'.pc)).setCell ⟨T, 5, none⟩ (.slice h'.tA m2 h'.tc)).setCell ⟨T, 6, none⟩ (.slice h'.bA m3 h'.bc)) := ⟨_, rfl⟩
          rw [← hw6] at kx ux
          have HW6 := Lib.hid hw6
          have HKX := Lib.hid kx
          have HU6 : Hid (Upd [] wr w6) := Lib.hid (Upd.of_below ((HU5.out.below (Nat.le_refl _) (by simp)).trans (ux.below HU5.out.size (fun s hs => by rw [List.mem_singleton] at hs; subst hs; exact HT.out))))
          have HK6 : Hid (StAv w6 S t h') := Lib.hid ⟨HK5.out.past ux HA5.out.1, HA5.out.2⟩
          clear hw6 kx ux
          refine wpHeld_step rfl fun K hK => ?_
          go_simp
          rw [← HW6.out]
          refine hK.out _ _ (.inr ⟨⟨w6, HU6.out⟩, rfl⟩) ?_
          clear hK K y0 y1 y2 y3 y4 y5 y6 z0 z1 z2 z3 z4 z5 z6
          refine wpHeld_last ?_
          go_wp2
          go_meet
          case rel => exact ⟨_, _, rfl, rfl, HKX.out, HK6.out, HU6.out, HT.out⟩
        · refine wpHeldK_step rfl fun K hK => ?_
          go_simp
          refine (HDO.out wd HC1.out).mono ?_
          rintro e w4 ⟨h', rfl, hk4, ha4, hu4⟩
          have HA4 : Hid (Av S t h') := Lib.hid (ha4 S (Nat.lt_of_lt_of_le HBK.out.lt HC1.out.size) HST.out.av)
          clear ha4
          have HU4 := Lib.hid (HC1.out.next hu4)
          have HK4 := Lib.hid hk4
          clear hk4 hu4
          refine hK.out _ _ ⟨⟨w4, HU4.out⟩, rfl⟩ ?_
          clear hK K
          refine wpQuiet_then ?_
          repeat (go_big_quiet_step (fail))
          refine wpQuiet_nil ?_
          refine wpHeld_step rfl fun K hK => ?_
          go_simp
          obtain ⟨T, hT⟩ : ∃ T, T = w4.heap.size := ⟨_, rfl⟩
          obtain ⟨w5, hV⟩ : ∃ V, V = w4.alloc (.cells #[.int .i64 0, .int .i64 0, .int .i64 0, .int .i64 0, .slice none 0 0, .slice none 0 0, .slice none 0 0] 31) := ⟨_, rfl⟩
          rw [← hV, ← hT]
          have hVu : Upd [] w4 w5 := by rw [hV]; exact (Upd.refl [] w4).alloc _
          have hVB : Blk w5 T 31 #[.int .i64 0, .int .i64 0, .int .i64 0, .int .i64 0, .slice none 0 0, .slice none 0 0, .slice none 0 0] := by rw [hV, hT]; exact Blk.new _ _ _
          have HT : Hid (wr.heap.size ≤ T) := Lib.hid (by rw [hT]; exact HU4.out.size)
          have HB5 := Lib.hid hVB
          have HU5 := Lib.hid (HU4.out.next hVu)
          have HA5 : Hid (Av T t h' ∧ Av S t h') := Lib.hid ⟨Av.fresh HK4.out (by rw [hT]; exact Nat.le_refl _), HA4.out⟩
          have HK5 := Lib.hid (HK4.out.upd hVu)
          clear HA4 hT hV hVB hVu HU4 HK4
          refine hK.out _ _ (.inr ⟨⟨w5, HU5.out⟩, rfl⟩) ?_
          clear hK K
          have y0 := HB5.out.cell 0
          have y1 := HB5.out.cell 1
          have y2 := HB5.out.cell 2
          have y3 := HB5.out.cell 3
          have y4 := HB5.out.cell 4
          have y5 := HB5.out.cell 5
          have y6 := HB5.out.cell 6
          have z0 := HB5.out.frozen 0
          have z1 := HB5.out.frozen 1
          have z2 := HB5.out.frozen 2
          have z3 := HB5.out.frozen 3
          have z4 := HB5.out.frozen 4
          have z5 := HB5.out.frozen 5
          have z6 := HB5.out.frozen 6
          simp only [List.getElem?_toArray, List.getElem?_cons_zero, List.getElem?_cons_succ] at y0 y1 y2 y3 y4 y5 y6
          obtain ⟨kx, ux⟩ := blk7 HB5.out (.int .i64 t.c.people) (.int .i64 t.c.tracks) (.int .i64 t.c.subs) (.int .i64 t.c.slots) (.slice h'.pA m1 h'.pc) (.slice h'.tA m2 h'.tc) (.slice h'.bA m3 h'.bc)
          obtain ⟨w6, hw6⟩ : ∃ w6, w6 = (((((((w5.setCell ⟨T, 0, none⟩ (.int .i64 t.c.people)).setCell ⟨T, 1, none⟩ (.int .i64 t.c.tracks)).setCell ⟨T, 2, none⟩ (.int .i64 t.c.subs)).setCell ⟨T, 3, none⟩ (.int .i64 t.c.slots)).setCell ⟨T, 4, none⟩ (.slice h'.pA m1 h'.pc)).setCell ⟨T, 5, none⟩ (.slice h'.tA m2 h'.tc)).setCell ⟨T, 6, none⟩ (.slice h'.bA m3 h'.bc)) := ⟨_, rfl⟩
          rw [← hw6] at kx ux
          have HW6 := Lib.hid hw6
          have HKX := Lib.hid kx
          have HU6 : Hid (Upd [] wr w6) := Lib.hid (Upd.of_below ((HU5.out.below (Nat.le_refl _) (by simp)).trans (ux.below HU5.out.size (fun s hs => by rw [List.mem_singleton] at hs; subst hs; exact HT.out))))
          have HK6 : Hid (StAv w6 S t h') := Lib.hid ⟨HK5.out.past ux HA5.out.1, HA5.out.2⟩
          clear hw6 kx ux
          refine wpHeld_step rfl fun K hK => ?_
          go_simp
          rw [← HW6.out]
          refine hK.out _ _ (.inr ⟨⟨w6, HU6.out⟩, rfl⟩) ?_
          clear hK K y0 y1 y2 y3 y4 y5 y6 z0 z1 z2 z3 z4 z5 z6
          refine wpHeld_last ?_
          go_wp2
          go_meet
          case rel => exact ⟨_, _, rfl, rfl, HKX.out, HK6.out, HU6.out, HT.out⟩
      obtain ⟨T, h', rfl, rfl, hbT, hkT, huT, hT⟩ := hcut
      clear p0 p1 p2 p3 p4 p5 p6 c0 c1 c2 c3 c4 c5 c6 c7
      have hcnt := do_counts HINV.out ⟨kd, who, room, rights, track, ss, layer, tid⟩
      rw [← HR.out] at hcnt
      dsimp only at hcnt
      rw [← HN.out.1, ← HN.out.2.1, ← HN.out.2.2, ← HM.out.1, ← HM.out.2.1, ← HM.out.2.2] at hcnt
      have hbS := HBK.out.upd huT (by simp)
      rw [hcnt.1] at hbT
      have p0 : wc.cell? ⟨S, 0, none⟩ = some (.int .i64 s.c.people) := hbS.cell 0
      have p1 : wc.cell? ⟨S, 1, none⟩ = some (.int .i64 s.c.tracks) := hbS.cell 1
      have p2 : wc.cell? ⟨S, 2, none⟩ = some (.int .i64 s.c.subs) := hbS.cell 2
      have p3 : wc.cell? ⟨S, 3, none⟩ = some (.int .i64 s.c.slots) := hbS.cell 3
      have p4 : wc.cell? ⟨S, 4, none⟩ = some (.slice h.pA n1 h.pc) := hbS.cell 4
      have p5 : wc.cell? ⟨S, 5, none⟩ = some (.slice h.tA n2 h.tc) := hbS.cell 5
      have p6 : wc.cell? ⟨S, 6, none⟩ = some (.slice h.bA n3 h.bc) := hbS.cell 6
      have q0 : wc.cell? ⟨T, 0, none⟩ = some (.int .i64 s.c.people) := hbT.cell 0
      have q1 : wc.cell? ⟨T, 1, none⟩ = some (.int .i64 s.c.tracks) := hbT.cell 1
      have q2 : wc.cell? ⟨T, 2, none⟩ = some (.int .i64 s.c.subs) := hbT.cell 2
      have q3 : wc.cell? ⟨T, 3, none⟩ = some (.int .i64 s.c.slots) := hbT.cell 3
      have q4 : wc.cell? ⟨T, 4, none⟩ = some (.slice h'.pA m1 h'.pc) := hbT.cell 4
      have q5 : wc.cell? ⟨T, 5, none⟩ = some (.slice h'.tA m2 h'.tc) := hbT.cell 5
      have q6 : wc.cell? ⟨T, 6, none⟩ = some (.slice h'.bA m3 h'.bc) := hbT.cell 6
      have f0 := hbS.frozen 0
      have f1 := hbS.frozen 1
      have f2 := hbS.frozen 2
      have f3 := hbS.frozen 3
      have f4 := hbS.frozen 4
      have f5 := hbS.frozen 5
      have f6 := hbS.frozen 6
      have k0 := (huT.cell (p := ⟨b, off + i * 8, none⟩) hbwr (by simp)).trans HC0.out.1
      have hb1 := HINV.out.np
      have hb2 := HINV.out.nt
      have hb3 := HINV.out.nb
      have hb4 := HI2.out.np
      have hb5 := HI2.out.nt
      have hb6 := HI2.out.nb
      have hb7 := HINV.out.cp
      have hb8 := HINV.out.ct
      have hb9 := HINV.out.cl
      rw [hcnt.1] at hb4 hb5 hb6
      rw [← HN.out.1] at hb1
      rw [← HN.out.2.1] at hb2
      rw [← HN.out.2.2] at hb3
      rw [← HM.out.1] at hb4
      rw [← HM.out.2.1] at hb5
      rw [← HM.out.2.2] at hb6
      obtain ⟨d1, hd1⟩ : ∃ p, p = (m1 : Int) - (n1 : Int) := ⟨_, rfl⟩
      obtain ⟨d2, hd2⟩ : ∃ p, p = (m2 : Int) - (n2 : Int) := ⟨_, rfl⟩
      obtain ⟨d3, hd3⟩ : ∃ p, p = (m3 : Int) - (n3 : Int) := ⟨_, rfl⟩
      have e1 : IntKind.i64.wrap ((m1 : Int) - (n1 : Int)) = d1 := by rw [IntWalk.i64_in _ (by omega), hd1]
      have e2 : IntKind.i64.wrap ((m2 : Int) - (n2 : Int)) = d2 := by rw [IntWalk.i64_in _ (by omega), hd2]
      have e3 : IntKind.i64.wrap ((m3 : Int) - (n3 : Int)) = d3 := by rw [IntWalk.i64_in _ (by omega), hd3]
      rw [← hd1, ← hd2, ← hd3] at hcnt
      have HBS : Hid (Blk wc S 31 #[.int .i64 s.c.people, .int .i64 s.c.tracks, .int .i64 s.c.subs, .int .i64 s.c.slots, .slice h.pA n1 h.pc, .slice h.tA n2 h.tc, .slice h.bA n3 h.bc]) := Lib.hid (HBK.out.upd huT (by simp))
      have HFN : Hid (∀ wx, Upd [S] wc wx → Blk wx S 31 (scells t h').toArray → ∃ s h, Inv s ∧ Blk wx S 31 (scells s h).toArray ∧ StAv wx S s h ∧ Below w.heap.size w wx) := Lib.hid (fun wx ux hbx => ⟨t, h', HI2.out, hbx, hkT.past ux, (HBW.out.trans (huT.below HBW.out.size (by simp))).trans (ux.below (Nat.le_trans HBW.out.size huT.size) (fun s hs => by rw [List.mem_singleton] at hs; subst hs; exact HWS.out))⟩)
      obtain ⟨kx, ux⟩ := blk7 HBS.out (.int .i64 s.c.people) (.int .i64 s.c.tracks) (.int .i64 s.c.subs) (.int .i64 s.c.slots) (.slice h'.pA m1 h'.pc) (.slice h'.tA m2 h'.tc) (.slice h'.bA m3 h'.bc)
      obtain ⟨wx, hwx⟩ : ∃ W, W = (((((((wc.setCell ⟨S, 0, none⟩ (.int .i64 s.c.people)).setCell ⟨S, 1, none⟩ (.int .i64 s.c.tracks)).setCell ⟨S, 2, none⟩ (.int .i64 s.c.subs)).setCell ⟨S, 3, none⟩ (.int .i64 s.c.slots)).setCell ⟨S, 4, none⟩ (.slice h'.pA m1 h'.pc)).setCell ⟨S, 5, none⟩ (.slice h'.tA m2 h'.tc)).setCell ⟨S, 6, none⟩ (.slice h'.bA m3 h'.bc)) := ⟨_, rfl⟩
      rw [← hwx] at kx ux
      have hsc2 := HSC.out h'
      rw [hcnt.1] at hsc2
      rw [← hsc2] at kx
      have HF2 := Lib.hid (HFN.out wx ux kx)
      have HWX := Lib.hid hwx
      have HCNT := Lib.hid hcnt.2
      have HGI := Lib.hid hgi
      have HE : Hid (er ≠ 0 → d1 = 0 ∧ d2 = 0 ∧ d3 = 0) := Lib.hid (fun he => by
        have h2 := err_same s ⟨kd, who, room, rights, track, ss, layer, tid⟩ (by rw [← HR.out]; exact he)
        rw [← HR.out] at h2
        dsimp only at h2
        rw [h2, ← HN.out.1, ← HN.out.2.1, ← HN.out.2.2] at HM
        have g1 := HM.out.1
        have g2 := HM.out.2.1
        have g3 := HM.out.2.2
        omega)
      clear hcnt hwx kx ux hsc2 hgi hb1 hb2 hb3 hb4 hb5 hb6 hb7 hb8 hb9 hd1 hd2 hd3 hbT hkT huT hbS hT HFN HBS
      by_cases h0 : er = 0
      · subst h0
        have hf := HCNT.out rfl
        clear HE HCNT
        go_upto_if 85 with fail
        go_cut [16] (fun s16 wd => s16 = .bool true ∧ wd = wc)
        case first =>
          have hk : kd = 0 ∨ kd = 1 ∨ kd = 2 ∨ kd = 3 ∨ kd = 5 ∨ kd = 6 ∨ (¬ kd = 0 ∧ ¬ kd = 1 ∧ ¬ kd = 2 ∧ ¬ kd = 3 ∧ ¬ kd = 5 ∧ ¬ kd = 6) := by omega
          clear p0 p1 p2 p3 p4 p5 p6 q0 q1 q2 q3 q4 q5 q6 f0 f1 f2 f3 f4 f5 f6 e1 e2 e3
          rcases hk with rfl | rfl | rfl | rfl | rfl | rfl | ⟨x0, x1, x2, x3, x5, x6⟩
          case' inr.inr.inr.inr.inr.inr =>
            have x0' : (kd == 0) = false := by simpa using x0
            have x1' : (kd == 1) = false := by simpa using x1
            have x2' : (kd == 2) = false := by simpa using x2
            have x3' : (kd == 3) = false := by simpa using x3
            have x5' : (kd == 5) = false := by simpa using x5
            have x6' : (kd == 6) = false := by simpa using x6
          all_goals
            unfold fineM at hf
            simp only [*, if_false, if_true, Int.reduceEq, Bool.and_eq_true, decide_eq_true_eq, and_assoc] at hf
            obtain ⟨rfl, y2, y3⟩ := hf
            try subst y2
            try subst y3
            go_wp2
            go_meet
            case rel => exact ⟨rfl, rfl⟩
        obtain ⟨rfl, hwd⟩ := hcut
        subst hwd
        go_wp2
        rw [← HWX.out]
        go_roundg (gk - 1)
        case measure => have := HGI.out; omega
        case rel => exact ⟨i + 1, by omega, by have := HGI.out; omega, by go_num, HF2.out⟩
      · obtain ⟨rfl, rfl, rfl⟩ := HE.out h0
        have h0b : (er != 0) = true := by simpa using h0
        have h0c : (er == 0) = false := by simpa using h0
        clear HE HCNT h0
        go_wp2
        rw [← HWX.out]
        go_roundg (gk - 1)
        case measure => have := HGI.out; omega
        case rel => exact ⟨i + 1, by omega, by have := HGI.out; omega, by go_num, HF2.out⟩
    · go_wp2
      go_ret
      exact ⟨rfl, hbw⟩
end Go.Proofs.Ytjcbaelefacolaa
