/- Parts of the proof, one behind the other: DGoes. No condition of their own. -/
import Derived.Test.YtjcbaelefacolaaB3
import Derived.Test.YtjcbaelefacolaaB7
/- DeltaGoes: the walk. -/
namespace Go.Proofs.Ytjcbaelefacolaa
open Go Go.RowKit
set_option maxHeartbeats 400000

set_option maxRecDepth 100000 in
set_option maxHeartbeats 4000000 in
theorem goes_any (c : Cf) (A : Option Addr) (cap : Nat) (l : List (Rq × SH)) (w : World) (hl : l.length ≤ 9223372036854775807) (hc : CellsIn w 0 w.heap.size 8 A l.length (l.flatMap encQ)) (hx : ∀ x, x ∈ l → RqIn w x.1 x.2) :
    Calls Try.prog 8 #[.agg #[.int .i64 c.people, .int .i64 c.tracks, .int .i64 c.subs, .int .i64 c.slots], .slice A l.length cap] w fun e w' => e = .returned (.bool true) ∧ Below w.heap.size w w' := by
  obtain ⟨W0, hW0⟩ : ∃ W, W = w.alloc (.cells #[.int .i64 c.people, .int .i64 c.tracks, .int .i64 c.subs, .int .i64 c.slots] 23) := ⟨_, rfl⟩
  obtain ⟨g, hg⟩ : ∃ g, g = w.heap.size := ⟨_, rfl⟩
  have hu0 : Upd [] w W0 := by rw [hW0]; exact (Upd.refl [] w).alloc _
  have hb0 : Blk W0 g 23 #[.int .i64 c.people, .int .i64 c.tracks, .int .i64 c.subs, .int .i64 c.slots] := by rw [hW0, hg]; exact Blk.new _ _ _
  have HC := Lib.hid hc
  have HRX := Lib.hid hx
  have HU0 := Lib.hid hu0
  have HB0 := Lib.hid hb0
  have HF := Lib.hid (fun (W : World) (u : Upd [] w W) => few_any (cap := cap) ((hc.below (u.below (Nat.le_refl _) (by simp)) (Nat.le_refl _)).more (Nat.le_refl _) u.size) hl)
  obtain ⟨L, hL⟩ : ∃ L, L = l.length := ⟨_, rfl⟩
  have HL := Lib.hid hL
  obtain ⟨b1, hb1⟩ : ∃ b, b = fewQ (l.map (·.1)) := ⟨_, rfl⟩
  have HB1 := Lib.hid hb1
  obtain ⟨b2, hb2⟩ : ∃ b, b = confOk c := ⟨_, rfl⟩
  have HB2 := Lib.hid hb2
  have HBG := Lib.hid (fun (W : World) => begun_any W c)
  rw [← hb2] at HBG
  rw [← hb1, ← hL] at HF
  rw [← hL] at hl ⊢
  clear hb1 hb2 hL hc hx hu0 hb0
  go_enter Try.func8, Try.ntmps8
  go_upto_region 1 with fail
  rw [← hW0, ← hg]
  have HG := Lib.hid hg
  clear hW0 hg
  go_wp2_with fail
  refine (awake_any _).mono ?_
  rintro _ w1 ⟨rfl, hu1⟩
  have HU1 := Lib.hid (HU0.out.next hu1)
  have HB01 := Lib.hid (HB0.out.upd hu1 (by simp))
  clear hu1 HU0 HB0
  go_wp2_with fail
  refine (HF.out _ HU1.out).mono ?_
  rintro _ w1' ⟨rfl, hw1⟩
  replace hw1 := hw1.symm
  subst hw1
  go_upto_region 5 with fail
  have g0 : w1.cell? ⟨g, 0, none⟩ = some (.int .i64 c.people) := HB01.out.cell 0
  have g1 : w1.cell? ⟨g, 1, none⟩ = some (.int .i64 c.tracks) := HB01.out.cell 1
  have g2 : w1.cell? ⟨g, 2, none⟩ = some (.int .i64 c.subs) := HB01.out.cell 2
  have g3 : w1.cell? ⟨g, 3, none⟩ = some (.int .i64 c.slots) := HB01.out.cell 3
  rw [show scells (newM (confM c)) newHd = [.int .i64 (confM c).people, .int .i64 (confM c).tracks, .int .i64 (confM c).subs, .int .i64 (confM c).slots, .slice none 0 0, .slice none 0 0, .slice none 0 0] from rfl] at HBG
  go_wp2_with fail
  refine (HBG.out _).mono ?_
  rintro _ w2 ⟨rfl, hu2⟩
  have HU2 := Lib.hid (HU1.out.next hu2)
  clear hu2 HU1 HB01 g0 g1 g2 g3 HF HBG
  go_upto_region 6 with fail
  obtain ⟨S, hS⟩ : ∃ S, S = w2.heap.size := ⟨_, rfl⟩
  obtain ⟨m, hm⟩ : ∃ m, m = confM c := ⟨_, rfl⟩
  rw [← hm]
  obtain ⟨w3, hw3⟩ : ∃ W, W = w2.alloc (.cells #[.int .i64 m.people, .int .i64 m.tracks, .int .i64 m.subs, .int .i64 m.slots, .slice none 0 0, .slice none 0 0, .slice none 0 0] 31) := ⟨_, rfl⟩
  obtain ⟨w4, hw4⟩ : ∃ W, W = w3.alloc (.cells #[.int .i64 c.people, .int .i64 c.tracks, .int .i64 c.subs, .int .i64 c.slots, .slice none 0 0, .slice none 0 0, .slice none 0 0] 37) := ⟨_, rfl⟩
  rw [← hS, ← hw3, ← hw4]
  have u3 : Upd [] w2 w3 := by rw [hw3]; exact (Upd.refl [] w2).alloc _
  have u4 : Upd [] w3 w4 := by rw [hw4]; exact (Upd.refl [] w3).alloc _
  have HU4 : Hid (Upd [] w w4) := Lib.hid ((HU2.out.next u3).next u4)
  have HB4 : Hid (Blk w4 S 31 (scells (newM m) newHd).toArray) := Lib.hid (by
    have : Blk w3 S 31 (scells (newM m) newHd).toArray := by rw [hw3, hS]; exact Blk.new _ _ _
    exact this.upd u4 (by simp))
  have HWS : Hid (w.heap.size ≤ S) := Lib.hid (by rw [hS]; exact HU2.out.size)
  have HM := Lib.hid hm
  clear hS hw3 hw4 u3 u4 HU2 hm
  cases b1 with
  | false =>
    go_wp2
    go_ret
    exact ⟨rfl, HU4.out.below (Nat.le_refl _) (by simp)⟩
  | true =>
  cases b2 with
  | false =>
    go_wp2
    go_ret
    exact ⟨rfl, HU4.out.below (Nat.le_refl _) (by simp)⟩
  | true =>
  have hmc : m = c := by rw [HM.out]; unfold confM; rw [← HB2.out]; rfl
  subst hmc
  have HIV : Hid (Inv (newM m)) := Lib.hid (by
    have := HB2.out.symm
    unfold confOk at this
    simp only [decide_eq_true_eq] at this
    exact inv_new m ⟨by omega, by omega⟩ ⟨by omega, by omega⟩ ⟨by omega, by omega⟩ ⟨by omega, by omega⟩)
  have HQ6 : Hid (∀ x, x ∈ l → x.1.ss.length ≤ 6) := Lib.hid (fun x hx => by
    have := HB1.out.symm
    unfold fewQ at this
    simp only [Bool.and_eq_true, List.all_eq_true, decide_eq_true_eq] at this
    exact this.1 x.1 (List.mem_map.2 ⟨x, hx, rfl⟩))
  have HS4 : Hid (StAv w4 S (newM m) newHd) := Lib.hid ⟨⟨⟨CellsIn.nil _ _ _ _ _, fun _ => ⟨rfl, rfl⟩, Nat.le_refl _, by unfold newHd; dsimp only; omega⟩, ⟨CellsIn.nil _ _ _ _ _, fun _ => ⟨rfl, rfl⟩, Nat.le_refl _, by unfold newHd; dsimp only; omega⟩, ⟨CellsIn.nil _ _ _ _ _, fun _ => ⟨rfl, rfl⟩, Nat.le_refl _, by unfold newHd; dsimp only; omega⟩, rfl, fun x hx => (by cases hx)⟩, ⟨fun hn => absurd hn (Nat.lt_irrefl 0), fun hn => absurd hn (Nat.lt_irrefl 0), fun hn => absurd hn (Nat.lt_irrefl 0), fun x hx => (by cases hx)⟩⟩
  have HBW : Hid (Below w.heap.size w w4) := Lib.hid (HU4.out.below (Nat.le_refl _) (by simp))
  clear HM HB2 HB1 HU4
  go_wp2
  go_loopg [10] L (fun gk x10 wr => ∃ i : Nat, i ≤ L ∧ L ≤ i + gk ∧ x10 = .int .i64 i ∧ ∃ s h, Inv s ∧ Blk wr S 31 (scells s h).toArray ∧ StAv wr S s h ∧ Below w.heap.size w wr)
  case atStart => exact ⟨0, Nat.zero_le _, by omega, rfl, _, _, HIV.out, HB4.out, HS4.out, HBW.out⟩
  case round =>
    obtain ⟨i, hi, hgi, rfl, s, h, hiv, hbk, hst, hbw⟩ := hrel
    by_cases hlt : i < L
    · obtain ⟨x, hxi⟩ : ∃ p, l[i]? = some p := ⟨_, List.getElem?_eq_getElem (by rw [← HL.out]; exact hlt)⟩
      obtain ⟨b, off, rfl, hb1, hb2, hcc⟩ := HC.out.2 (by rw [← HL.out]; omega)
      have hxm := List.mem_of_getElem? hxi
      have hbwr : b < wr.heap.size := Nat.lt_of_lt_of_le hb2 hbw.size
      have c0 := (hbw.cell (p := ⟨b, off + (i * 8 + 0), none⟩) hb2).trans (hcc (i * 8 + 0) _ (flat_get encQ_len l i 0 x hxi (by omega)))
      have c1 := (hbw.cell (p := ⟨b, off + (i * 8 + 1), none⟩) hb2).trans (hcc (i * 8 + 1) _ (flat_get encQ_len l i 1 x hxi (by omega)))
      have c2 := (hbw.cell (p := ⟨b, off + (i * 8 + 2), none⟩) hb2).trans (hcc (i * 8 + 2) _ (flat_get encQ_len l i 2 x hxi (by omega)))
      have c3 := (hbw.cell (p := ⟨b, off + (i * 8 + 3), none⟩) hb2).trans (hcc (i * 8 + 3) _ (flat_get encQ_len l i 3 x hxi (by omega)))
      have c4 := (hbw.cell (p := ⟨b, off + (i * 8 + 4), none⟩) hb2).trans (hcc (i * 8 + 4) _ (flat_get encQ_len l i 4 x hxi (by omega)))
      have c5 := (hbw.cell (p := ⟨b, off + (i * 8 + 5), none⟩) hb2).trans (hcc (i * 8 + 5) _ (flat_get encQ_len l i 5 x hxi (by omega)))
      have c6 := (hbw.cell (p := ⟨b, off + (i * 8 + 6), none⟩) hb2).trans (hcc (i * 8 + 6) _ (flat_get encQ_len l i 6 x hxi (by omega)))
      have c7 := (hbw.cell (p := ⟨b, off + (i * 8 + 7), none⟩) hb2).trans (hcc (i * 8 + 7) _ (flat_get encQ_len l i 7 x hxi (by omega)))
      have hrq := (HRX.out x hxm).below (hbw)
      have hdo := fun (W : World) (u : Upd [] wr W) => do_any (hst.upd u).st hiv ((hrq.below (u.below (Nat.le_refl _) (by simp))).q (HQ6.out x hxm))
      obtain ⟨⟨kd, who, room, rights, track, ss, layer, tid⟩, ⟨qA, qc⟩⟩ := x
      simp only [encQ, qcells, List.getElem?_cons_zero, List.getElem?_cons_succ, List.getElem_cons_zero, List.getElem_cons_succ, ← Nat.add_assoc, Nat.add_zero] at c0 c1 c2 c3 c4 c5 c6 c7
      unfold qcells at hdo
      dsimp only at hdo
      obtain ⟨ql, hql⟩ : ∃ n, n = ss.length := ⟨_, rfl⟩
      obtain ⟨n1, hn1⟩ : ∃ n, n = s.ps.length := ⟨_, rfl⟩
      obtain ⟨n2, hn2⟩ : ∃ n, n = s.ts.length := ⟨_, rfl⟩
      obtain ⟨n3, hn3⟩ : ∃ n, n = s.bs.length := ⟨_, rfl⟩
      obtain ⟨r, hr⟩ : ∃ r, r = doM s ⟨kd, who, room, rights, track, ss, layer, tid⟩ := ⟨_, rfl⟩
      obtain ⟨t, er⟩ := r
      rw [show scells s h = [.int .i64 s.c.people, .int .i64 s.c.tracks, .int .i64 s.c.subs, .int .i64 s.c.slots, .slice h.pA n1 h.pc, .slice h.tA n2 h.tc, .slice h.bA n3 h.bc] by unfold scells; rw [← hn1, ← hn2, ← hn3]] at hbk hdo
      rw [← hql] at hdo c5
      rw [← hr] at hdo
      dsimp only at hdo
      obtain ⟨m1, hm1⟩ : ∃ n, n = t.ps.length := ⟨_, rfl⟩
      obtain ⟨m2, hm2⟩ : ∃ n, n = t.ts.length := ⟨_, rfl⟩
      obtain ⟨m3, hm3⟩ : ∃ n, n = t.bs.length := ⟨_, rfl⟩
      have hsc : ∀ h', scells t h' = [.int .i64 t.c.people, .int .i64 t.c.tracks, .int .i64 t.c.subs, .int .i64 t.c.slots, .slice h'.pA m1 h'.pc, .slice h'.tA m2 h'.tc, .slice h'.bA m3 h'.bc] := fun h' => by unfold scells; rw [← hm1, ← hm2, ← hm3]
      have HDO : Hid (∀ W, Upd [] wr W → Calls Try.prog 12 #[.agg #[.int .i64 s.c.people, .int .i64 s.c.tracks, .int .i64 s.c.subs, .int .i64 s.c.slots, .slice h.pA n1 h.pc, .slice h.tA n2 h.tc, .slice h.bA n3 h.bc], .agg #[.int .i64 kd, .int .i64 who, .int .i64 room, .int .i64 rights, .int .i64 track, .slice qA ql qc, .int .i64 layer, .int .i64 tid]] W fun e w' =>
          ∃ h', e = .returned (.tuple #[.agg #[.int .i64 t.c.people, .int .i64 t.c.tracks, .int .i64 t.c.subs, .int .i64 t.c.slots, .slice h'.pA m1 h'.pc, .slice h'.tA m2 h'.tc, .slice h'.bA m3 h'.bc], .int .i64 er]) ∧ StIn w' t h' ∧ (∀ g, g < W.heap.size → Av g s h → Av g t h') ∧ Upd [] W w') := Lib.hid (fun W u => (hdo W u).mono fun e w' ⟨h', he, hk, ha, hu⟩ => ⟨h', by rw [he, hsc], hk, ha, hu⟩)
      have HBK := Lib.hid hbk
      have HST := Lib.hid hst
      have HBW := Lib.hid hbw
      have HINV := Lib.hid hiv
      have HI2 : Hid (Inv t) := Lib.hid (by have := inv_do hiv ⟨kd, who, room, rights, track, ss, layer, tid⟩; rw [← hr] at this; exact this)
      have HR := Lib.hid hr
      have HSC := Lib.hid hsc
      have HN := Lib.hid (And.intro hn1 (And.intro hn2 hn3))
      have HM := Lib.hid (And.intro hm1 (And.intro hm2 hm3))
      have HXI := Lib.hid hxi
      have hsl := hbk.lt
      have p0 : wr.cell? ⟨S, 0, none⟩ = some (.int .i64 s.c.people) := hbk.cell 0
      have p1 : wr.cell? ⟨S, 1, none⟩ = some (.int .i64 s.c.tracks) := hbk.cell 1
      have p2 : wr.cell? ⟨S, 2, none⟩ = some (.int .i64 s.c.subs) := hbk.cell 2
      have p3 : wr.cell? ⟨S, 3, none⟩ = some (.int .i64 s.c.slots) := hbk.cell 3
      have p4 : wr.cell? ⟨S, 4, none⟩ = some (.slice h.pA n1 h.pc) := hbk.cell 4
      have p5 : wr.cell? ⟨S, 5, none⟩ = some (.slice h.tA n2 h.tc) := hbk.cell 5
      have p6 : wr.cell? ⟨S, 6, none⟩ = some (.slice h.bA n3 h.bc) := hbk.cell 6
      have HC0 := Lib.hid (And.intro c0 (And.intro c1 (And.intro c2 (And.intro c3 (And.intro c4 (And.intro c5 (And.intro c6 c7)))))))
      have HP0 := Lib.hid (And.intro p0 (And.intro p1 (And.intro p2 (And.intro p3 (And.intro p4 (And.intro p5 p6))))))
      have hwi : IntKind.i64.wrap ((i : Int) + 1) = (i : Int) + 1 := IntWalk.i64_in _ (by omega)
      have hi0 : (i : Int) < (L : Int) := by omega
      clear hbk hst hbw hiv hr hsc hn1 hn2 hn3 hm1 hm2 hm3 hql hxi hdo hcc hxm hrq hb1 hb2
      have hgi0 := hgi
      go_upto_region 12 with fail
      obtain ⟨Z, hZ⟩ : ∃ Z, Z = wr.heap.size := ⟨_, rfl⟩
      obtain ⟨w5, hw5⟩ : ∃ W, W = wr.alloc (.cells #[.int .i64 kd, .int .i64 who, .int .i64 room, .int .i64 rights, .int .i64 track, .slice qA ql qc, .int .i64 layer, .int .i64 tid] 45) := ⟨_, rfl⟩
      rw [← hZ, ← hw5]
      have u5 : Upd [] wr w5 := by rw [hw5]; exact (Upd.refl [] wr).alloc _
      have hZB : Blk w5 Z 45 #[.int .i64 kd, .int .i64 who, .int .i64 room, .int .i64 rights, .int .i64 track, .slice qA ql qc, .int .i64 layer, .int .i64 tid] := by rw [hw5, hZ]; exact Blk.new _ _ _
      have HU5 := Lib.hid u5
      have HZB := Lib.hid hZB
      have hbS := HBK.out.upd u5 (by simp)
      clear hZ hw5 u5 p0 p1 p2 p3 p4 p5 p6 c0 c1 c2 c3 c4 c5 c6 c7
      have p0 : w5.cell? ⟨S, 0, none⟩ = some (.int .i64 s.c.people) := hbS.cell 0
      have p1 : w5.cell? ⟨S, 1, none⟩ = some (.int .i64 s.c.tracks) := hbS.cell 1
      have p2 : w5.cell? ⟨S, 2, none⟩ = some (.int .i64 s.c.subs) := hbS.cell 2
      have p3 : w5.cell? ⟨S, 3, none⟩ = some (.int .i64 s.c.slots) := hbS.cell 3
      have p4 : w5.cell? ⟨S, 4, none⟩ = some (.slice h.pA n1 h.pc) := hbS.cell 4
      have p5 : w5.cell? ⟨S, 5, none⟩ = some (.slice h.tA n2 h.tc) := hbS.cell 5
      have p6 : w5.cell? ⟨S, 6, none⟩ = some (.slice h.bA n3 h.bc) := hbS.cell 6
      have z0 : w5.cell? ⟨Z, 0, none⟩ = some (.int .i64 kd) := hZB.cell 0
      have z1 : w5.cell? ⟨Z, 1, none⟩ = some (.int .i64 who) := hZB.cell 1
      have z2 : w5.cell? ⟨Z, 2, none⟩ = some (.int .i64 room) := hZB.cell 2
      have z3 : w5.cell? ⟨Z, 3, none⟩ = some (.int .i64 rights) := hZB.cell 3
      have z4 : w5.cell? ⟨Z, 4, none⟩ = some (.int .i64 track) := hZB.cell 4
      have z5 : w5.cell? ⟨Z, 5, none⟩ = some (.slice qA ql qc) := hZB.cell 5
      have z6 : w5.cell? ⟨Z, 6, none⟩ = some (.int .i64 layer) := hZB.cell 6
      have z7 : w5.cell? ⟨Z, 7, none⟩ = some (.int .i64 tid) := hZB.cell 7
      clear hbS hZB
      go_wp2_with fail
      refine (HDO.out w5 HU5.out).mono ?_
      rintro e w6 ⟨h', rfl, hk6, ha6, hu6⟩
      have HK6 := Lib.hid hk6
      have HU6 := Lib.hid (HU5.out.next hu6)
      have HZ6 := Lib.hid (HZB.out.upd hu6 (by simp))
      have HA6 : Hid (Av S t h') := Lib.hid (ha6 S (Nat.lt_of_lt_of_le HBK.out.lt HU5.out.size) HST.out.av)
      clear hk6 ha6 hu6 HZB p0 p1 p2 p3 p4 p5 p6 z0 z1 z2 z3 z4 z5 z6 z7
      go_upto_region 13 with fail
      obtain ⟨T, hT⟩ : ∃ T, T = w6.heap.size := ⟨_, rfl⟩
      obtain ⟨w7, hw7⟩ : ∃ W, W = w6.alloc (.cells #[.int .i64 t.c.people, .int .i64 t.c.tracks, .int .i64 t.c.subs, .int .i64 t.c.slots, .slice h'.pA m1 h'.pc, .slice h'.tA m2 h'.tc, .slice h'.bA m3 h'.bc] 31) := ⟨_, rfl⟩
      rw [← hT, ← hw7]
      have u7 : Upd [] w6 w7 := by rw [hw7]; exact (Upd.refl [] w6).alloc _
      have HT7 : Hid (Blk w7 T 31 #[.int .i64 t.c.people, .int .i64 t.c.tracks, .int .i64 t.c.subs, .int .i64 t.c.slots, .slice h'.pA m1 h'.pc, .slice h'.tA m2 h'.tc, .slice h'.bA m3 h'.bc]) := Lib.hid (by rw [hw7, hT]; exact Blk.new _ _ _)
      have HU7 := Lib.hid (HU6.out.next u7)
      have HZ7 := Lib.hid (HZ6.out.upd u7 (by simp))
      have HK7 := Lib.hid (HK6.out.upd u7)
      have hbS := HBK.out.upd HU7.out (by simp)
      clear hT hw7 u7 HZ6 HK6 HU6
      have p0 : w7.cell? ⟨S, 0, none⟩ = some (.int .i64 s.c.people) := hbS.cell 0
      have p1 : w7.cell? ⟨S, 1, none⟩ = some (.int .i64 s.c.tracks) := hbS.cell 1
      have p2 : w7.cell? ⟨S, 2, none⟩ = some (.int .i64 s.c.subs) := hbS.cell 2
      have p3 : w7.cell? ⟨S, 3, none⟩ = some (.int .i64 s.c.slots) := hbS.cell 3
      have p4 : w7.cell? ⟨S, 4, none⟩ = some (.slice h.pA n1 h.pc) := hbS.cell 4
      have p5 : w7.cell? ⟨S, 5, none⟩ = some (.slice h.tA n2 h.tc) := hbS.cell 5
      have p6 : w7.cell? ⟨S, 6, none⟩ = some (.slice h.bA n3 h.bc) := hbS.cell 6
      have q0 : w7.cell? ⟨T, 0, none⟩ = some (.int .i64 t.c.people) := HT7.out.cell 0
      have q1 : w7.cell? ⟨T, 1, none⟩ = some (.int .i64 t.c.tracks) := HT7.out.cell 1
      have q2 : w7.cell? ⟨T, 2, none⟩ = some (.int .i64 t.c.subs) := HT7.out.cell 2
      have q3 : w7.cell? ⟨T, 3, none⟩ = some (.int .i64 t.c.slots) := HT7.out.cell 3
      have q4 : w7.cell? ⟨T, 4, none⟩ = some (.slice h'.pA m1 h'.pc) := HT7.out.cell 4
      have q5 : w7.cell? ⟨T, 5, none⟩ = some (.slice h'.tA m2 h'.tc) := HT7.out.cell 5
      have q6 : w7.cell? ⟨T, 6, none⟩ = some (.slice h'.bA m3 h'.bc) := HT7.out.cell 6
      have hgn := gone_any (HST.out.upd HU7.out).st HK7.out (by have := HINV.out.nb; have := HINV.out.cl; omega) (by have := HI2.out.nb; have := HI2.out.cl; omega) HI2.out.ub
      rw [show scells s h = [.int .i64 s.c.people, .int .i64 s.c.tracks, .int .i64 s.c.subs, .int .i64 s.c.slots, .slice h.pA n1 h.pc, .slice h.tA n2 h.tc, .slice h.bA n3 h.bc] by unfold scells; rw [← HN.out.1, ← HN.out.2.1, ← HN.out.2.2], HSC.out h'] at hgn
      obtain ⟨gl, hgl⟩ : ∃ n, n = (goneM s t).length := ⟨_, rfl⟩
      rw [← hgl] at hgn
      have HGL := Lib.hid hgl
      have HGN := Lib.hid hgn
      clear hbS hgn hgl
      go_wp2_with fail
      refine HGN.out.mono ?_
      rintro e w8 ⟨GA, gc, rfl, hgr, hu8⟩
      have HU8 := Lib.hid (HU7.out.next hu8)
      have HZ8 := Lib.hid (HZ7.out.upd hu8 (by simp))
      have HT8 := Lib.hid (HT7.out.upd hu8 (by simp))
      have HK8 := Lib.hid (HK7.out.upd hu8)
      have HS8 := Lib.hid (HST.out.upd HU8.out)
      have HB8 := Lib.hid (HBK.out.upd HU8.out (by simp))
      have HRG := Lib.hid (rowB hgr HGL.out.symm)
      have HRS := Lib.hid (rowB HS8.out.st.b rfl)
      have HRT := Lib.hid (rowB HK8.out.b rfl)
      obtain ⟨pA, pc, tx, tA, tc, bA, bc⟩ := h
      obtain ⟨pA', pc', tx', tA', tc', bA', bc'⟩ := h'
      dsimp only at HRS HRT
      clear hgr hu8 HGN HT7 HZ7 HK7 HU7 p0 p1 p2 p3 p4 p5 p6 q0 q1 q2 q3 q4 q5 q6
      have hn3 : n3 ≤ 64 := by have := HINV.out.nb; have := HINV.out.cl; have := HN.out.2.2; omega
      have hm3 : m3 ≤ 64 := by have := HI2.out.nb; have := HI2.out.cl; have := HM.out.2.2; omega
      have HGI := Lib.hid hgi0
      clear hgi hgi0
      go_wp2
      obtain ⟨gA, rfl⟩ : ∃ gA : Nat, gA = gk := ⟨gk, rfl⟩
      obtain ⟨wa, rfl⟩ : ∃ wa : World, wa = wr := ⟨wr, rfl⟩
      go_loopg [15, 16] n3 (fun gj x15 x16 wx => ∃ j : Nat, j ≤ n3 ∧ n3 ≤ j + gj ∧ x16 = .int .i64 j ∧ x15 = .int .i64 (gonesM s t j : Nat) ∧ Upd [] w8 wx)
      case atStart => exact ⟨0, Nat.zero_le _, by omega, rfl, rfl, Upd.refl _ _⟩
      case round =>
        obtain ⟨j, hj, hgj, rfl, rfl, hur⟩ := hrel
        have hbS := HB8.out.upd hur (by simp)
        have hbT := HT8.out.upd hur (by simp)
        have p6 : wr.cell? ⟨S, 6, none⟩ = some (.slice bA n3 bc) := hbS.cell 6
        have hgle := gones_le s t j
        by_cases hltj : j < n3
        · obtain ⟨x, hxj⟩ : ∃ x, s.bs[j]? = some x := ⟨_, List.getElem?_eq_getElem (by rw [← HN.out.2.2]; exact hltj)⟩
          obtain ⟨b1, o1, e, e0, e1, e2, e3, e4⟩ := HRS.out j x hxj
          cases e
          have hl1 := cellD_lt e0
          replace e0 := (hur.cell (p := ⟨b1, o1 + j * 5, none⟩) hl1 (by simp)).trans e0
          replace e1 := (hur.cell (p := ⟨b1, o1 + j * 5 + 1, none⟩) hl1 (by simp)).trans e1
          replace e2 := (hur.cell (p := ⟨b1, o1 + j * 5 + 2, none⟩) hl1 (by simp)).trans e2
          replace e3 := (hur.cell (p := ⟨b1, o1 + j * 5 + 3, none⟩) hl1 (by simp)).trans e3
          replace e4 := (hur.cell (p := ⟨b1, o1 + j * 5 + 4, none⟩) hl1 (by simp)).trans e4
          have hgs := gones_succ (t := t) hxj
          have hgg := fun hn => gones_get (t := t) hxj hn
          have HXJ := Lib.hid (List.mem_of_getElem? hxj)
          obtain ⟨x0, x1, x2, x3, x4⟩ := x
          dsimp only at e0 e1 e2 e3 e4 hgs hgg
          obtain ⟨gn, hgn⟩ : ∃ n, n = gonesM s t j := ⟨_, rfl⟩
          rw [← hgn] at hgs hgg hgle ⊢
          have HGS := Lib.hid hgs
          have HGG := Lib.hid hgg
          have HGJ := Lib.hid hgj
          have HUR := Lib.hid hur
          have hltji : (j : Int) < (n3 : Int) := by omega
          have hwj : IntKind.i64.wrap ((j : Int) + 1) = (j : Int) + 1 := IntWalk.i64_in _ (by omega)
          have hwg : IntKind.i64.wrap ((gn : Int) + 1) = (gn : Int) + 1 := IntWalk.i64_in _ (by omega)
          clear hxj hgs hgg hgn hgj hl1
          go_upto_region 19 with fail
          obtain ⟨X, hX⟩ : ∃ X, X = wr.heap.size := ⟨_, rfl⟩
          obtain ⟨W9, hW9⟩ : ∃ W, W = wr.alloc (.cells #[.int .i64 x0, .int .i64 x1, .int .i64 x2, .int .i64 x3, .bool x4] 55) := ⟨_, rfl⟩
          rw [← hX, ← hW9]
          have u9 : Upd [] wr W9 := by rw [hW9]; exact (Upd.refl [] wr).alloc _
          have hXB : Blk W9 X 55 #[.int .i64 x0, .int .i64 x1, .int .i64 x2, .int .i64 x3, .bool x4] := by rw [hW9, hX]; exact Blk.new _ _ _
          have HU9 := Lib.hid (HUR.out.next u9)
          have HXB := Lib.hid hXB
          have q6 : W9.cell? ⟨T, 6, none⟩ = some (.slice bA' m3 bc') := (hbT.upd u9 (by simp)).cell 6
          have q69 := Lib.hid q6
          clear hX hW9 u9 hXB hbS hbT p6 hur e0 e1 e2 e3 e4 q6
          go_wp2
          obtain ⟨gB, rfl⟩ : ∃ gB : Nat, gB = gk := ⟨gk, rfl⟩
          obtain ⟨wb, rfl⟩ : ∃ wb : World, wb = wr := ⟨wr, rfl⟩
          go_loopg [18, 19] m3 (fun gj x18 x19 wx => ∃ n : Nat, n ≤ m3 ∧ m3 ≤ n + gj ∧ x19 = .int .i64 n ∧ x18 = .bool (has (cB x0 x1) (t.bs.take n)) ∧ Upd [] W9 wx)
          case atStart => exact ⟨0, Nat.zero_le _, by omega, rfl, rfl, Upd.refl _ _⟩
          case round =>
            obtain ⟨n, hn, hgn, rfl, rfl, hur⟩ := hrel
            have q6 := (hur.cell (p := ⟨T, 6, none⟩) (cellD_lt q69.out) (by simp)).trans q69.out
            by_cases hltn : n < m3
            · obtain ⟨y, hyn⟩ : ∃ y, t.bs[n]? = some y := ⟨_, List.getElem?_eq_getElem (by rw [← HM.out.2.2]; exact hltn)⟩
              obtain ⟨b2, o2, e, e0, e1, e2, e3, e4⟩ := HRT.out n y hyn
              cases e
              have hl2 := cellD_lt e0
              have hu29 := HU9.out.next hur
              replace e0 := (hu29.cell (p := ⟨b2, o2 + n * 5, none⟩) hl2 (by simp)).trans e0
              replace e1 := (hu29.cell (p := ⟨b2, o2 + n * 5 + 1, none⟩) hl2 (by simp)).trans e1
              replace e2 := (hu29.cell (p := ⟨b2, o2 + n * 5 + 2, none⟩) hl2 (by simp)).trans e2
              replace e3 := (hu29.cell (p := ⟨b2, o2 + n * 5 + 3, none⟩) hl2 (by simp)).trans e3
              replace e4 := (hu29.cell (p := ⟨b2, o2 + n * 5 + 4, none⟩) hl2 (by simp)).trans e4
              have hhs := has_succ (c := cB x0 x1) hyn
              have hkp := do_keeps HINV.out ⟨kd, who, room, rights, track, ss, layer, tid⟩ ⟨x0, x1, x2, x3, x4⟩ y HXJ.out (by rw [← HR.out]; exact List.mem_of_getElem? hyn)
              obtain ⟨y0, y1, y2, y3, y4⟩ := y
              dsimp only at e0 e1 e2 e3 e4 hkp
              obtain ⟨hb, hhb⟩ : ∃ b, b = has (cB x0 x1) (t.bs.take n) := ⟨_, rfl⟩
              rw [← hhb] at hhs ⊢
              have hcz : decide (cB x0 x1 (⟨y0, y1, y2, y3, y4⟩ : Sb) = 0) = (decide (y0 = x0) && decide (y1 = x1)) := by
                rw [Bool.eq_iff_iff]
                simp only [Bool.and_eq_true, decide_eq_true_eq]
                exact cB_zero
              rw [hcz] at hhs
              have HHS := Lib.hid hhs
              have HKP := Lib.hid hkp
              have HGN := Lib.hid hgn
              have HUR2 := Lib.hid hur
              have hltni : (n : Int) < (m3 : Int) := by omega
              have hwn : IntKind.i64.wrap ((n : Int) + 1) = (n : Int) + 1 := IntWalk.i64_in _ (by omega)
              clear hyn hhb hcz hhs hkp hgn hl2 hu29
              go_upto_region 24 with fail
              obtain ⟨Y, hY⟩ : ∃ Y, Y = wr.heap.size := ⟨_, rfl⟩
              obtain ⟨Wt, hWt⟩ : ∃ W, W = wr.alloc (.cells #[.int .i64 y0, .int .i64 y1, .int .i64 y2, .int .i64 y3, .bool y4] 55) := ⟨_, rfl⟩
              rw [← hY, ← hWt]
              have ut : Upd [] wr Wt := by rw [hWt]; exact (Upd.refl [] wr).alloc _
              have hYB : Blk Wt Y 55 #[.int .i64 y0, .int .i64 y1, .int .i64 y2, .int .i64 y3, .bool y4] := by rw [hWt, hY]; exact Blk.new _ _ _
              have hXt := (HXB.out.upd HUR2.out (by simp)).upd ut (by simp)
              have hZt := ((HZ8.out.upd HU9.out (by simp)).upd HUR2.out (by simp)).upd ut (by simp)
              have HUT := Lib.hid (HUR2.out.next ut)
              have k0 : Wt.cell? ⟨X, 0, none⟩ = some (.int .i64 x0) := hXt.cell 0
              have k1 : Wt.cell? ⟨X, 1, none⟩ = some (.int .i64 x1) := hXt.cell 1
              have k2 : Wt.cell? ⟨X, 2, none⟩ = some (.int .i64 x2) := hXt.cell 2
              have k3 : Wt.cell? ⟨X, 3, none⟩ = some (.int .i64 x3) := hXt.cell 3
              have k4 : Wt.cell? ⟨X, 4, none⟩ = some (.bool x4) := hXt.cell 4
              have l0 : Wt.cell? ⟨Y, 0, none⟩ = some (.int .i64 y0) := hYB.cell 0
              have l1 : Wt.cell? ⟨Y, 1, none⟩ = some (.int .i64 y1) := hYB.cell 1
              have l2 : Wt.cell? ⟨Y, 2, none⟩ = some (.int .i64 y2) := hYB.cell 2
              have l3 : Wt.cell? ⟨Y, 3, none⟩ = some (.int .i64 y3) := hYB.cell 3
              have l4 : Wt.cell? ⟨Y, 4, none⟩ = some (.bool y4) := hYB.cell 4
              have z0 : Wt.cell? ⟨Z, 0, none⟩ = some (.int .i64 kd) := hZt.cell 0
              have z1 : Wt.cell? ⟨Z, 1, none⟩ = some (.int .i64 who) := hZt.cell 1
              have z4 : Wt.cell? ⟨Z, 4, none⟩ = some (.int .i64 track) := hZt.cell 4
              clear hY hWt ut hYB hXt hZt hur q6 e0 e1 e2 e3 e4
              have HFIN : Hid (∀ (v : Bool), (hb || (decide (y0 = x0) && decide (y1 = x1))) = v → ∃ n' : Nat, n' ≤ m3 ∧ m3 ≤ n' + (gk - 1) ∧ Value.int .i64 ((n : Int) + 1) = .int .i64 n' ∧ Value.bool v = .bool (has (cB x0 x1) (t.bs.take n')) ∧ Upd [] W9 Wt) := Lib.hid (fun v hv => ⟨n + 1, by omega, by have := HGN.out; omega, by go_num, by rw [HHS.out, hv], HUT.out⟩)
              by_cases hw : y0 = x0
              · subst hw
                by_cases ht : y1 = x1
                · subst ht
                  go_upto_region 26 with fail
                  go_cut [21] (fun v wc => v = .bool (decide (who = y0) && decide (track = y1) && decide (7 ≤ kd)) ∧ wc = Wt)
                  case first =>
                    by_cases a1 : who = y0
                    · by_cases a2 : track = y1
                      · have a3 : decide ((7 : Int) ≤ kd) = true ∨ decide ((7 : Int) ≤ kd) = false := by cases decide ((7 : Int) ≤ kd) <;> simp
                        rcases a3 with a3 | a3
                        all_goals
                          subst a1 a2
                          go_wp2
                          go_meet
                          case rel => exact ⟨by simp [a3], rfl⟩
                      · have a4 : (track == y1) = false := by simpa using a2
                        subst a1
                        go_wp2
                        go_meet
                        case rel => exact ⟨by simp [a2], rfl⟩
                    · have a4 : (who == y0) = false := by simpa using a1
                      go_wp2
                      go_meet
                      case rel => exact ⟨by simp [a1], rfl⟩
                  obtain ⟨rfl, hwc⟩ := hcut
                  subst hwc
                  obtain ⟨ow, how⟩ : ∃ b, b = (decide (who = y0) && decide (track = y1) && decide (7 ≤ kd)) := ⟨_, rfl⟩
                  rw [← how]
                  have hkp := HKP.out rfl rfl
                  have HFY := Lib.hid (HFIN.out true (by simp))
                  have hsame : (y2 = x2 ∧ y3 = x3 ∧ y4 = x4) ∨ (¬ (y2 = x2 ∧ y3 = x3 ∧ y4 = x4) ∧ ow = true) := by
                    by_cases hs : y2 = x2 ∧ y3 = x3 ∧ y4 = x4
                    · exact .inl hs
                    · refine .inr ⟨hs, ?_⟩
                      rcases hkp with hk | ⟨a1, a2, a3⟩
                      · injection hk with _ _ k1 k2 k3
                        exact absurd ⟨k1, k2, k3⟩ hs
                      · rw [how]; simp [a1, a2, a3]
                  clear hkp how
                  rcases hsame with ⟨rfl, rfl, rfl⟩ | ⟨hs, rfl⟩
                  · cases ow
                    all_goals
                      go_wp2
                      go_roundg (gk - 1)
                      case measure => have := HGN.out; omega
                      case rel => exact HFY.out
                  · go_wp2
                    all_goals
                      go_roundg (gk - 1)
                      case measure => have := HGN.out; omega
                      case rel => exact HFY.out
                · have htb : (y1 == x1) = false := by simpa using ht
                  go_wp2
                  go_roundg (gk - 1)
                  case measure => have := HGN.out; omega
                  case rel => exact HFIN.out _ (by simp [ht])
              · have hwb : (y0 == x0) = false := by simpa using hw
                go_wp2
                go_roundg (gk - 1)
                case measure => have := HGN.out; omega
                case rel => exact HFIN.out _ (by simp [hw])
            · obtain rfl : m3 = n := by omega
              rw [show t.bs.take m3 = t.bs by rw [HM.out.2.2]; exact List.take_length]
              have hXr := HXB.out.upd hur (by simp)
              have hfin : Upd [] w8 wr := HU9.out.next hur
              have HFU := Lib.hid hfin
              have k0 : wr.cell? ⟨X, 0, none⟩ = some (.int .i64 x0) := hXr.cell 0
              have k1 : wr.cell? ⟨X, 1, none⟩ = some (.int .i64 x1) := hXr.cell 1
              have k2 : wr.cell? ⟨X, 2, none⟩ = some (.int .i64 x2) := hXr.cell 2
              have k3 : wr.cell? ⟨X, 3, none⟩ = some (.int .i64 x3) := hXr.cell 3
              have k4 : wr.cell? ⟨X, 4, none⟩ = some (.bool x4) := hXr.cell 4
              clear hgn hn hltn
              cases hth : has (cB x0 x1) t.bs
              case true =>
                have HG2 : Hid (gonesM s t (j + 1) = gn) := Lib.hid (by rw [HGS.out, hth]; simp)
                clear hth hXr hfin hur
                go_wp2
                go_roundg (gB - 1)
                case measure => have := HGJ.out; omega
                case rel => exact ⟨j + 1, by omega, by have := HGJ.out; omega, by go_num, by rw [HG2.out], HFU.out⟩
              case false =>
                have HG2 : Hid (gonesM s t (j + 1) = gn + 1) := Lib.hid (by rw [HGS.out, hth]; simp)
                have hgx := HGG.out hth
                have hgll : gn < gl := by rw [HGL.out]; exact (List.getElem?_eq_some_iff.1 hgx).1
                obtain ⟨b3, o3, e, e0, e1, e2, e3, e4⟩ := HRG.out gn _ hgx
                cases e
                have hl3 := cellD_lt e0
                dsimp only at e0 e1 e2 e3 e4
                replace e0 := (hfin.cell (p := ⟨b3, o3 + gn * 5, none⟩) hl3 (by simp)).trans e0
                replace e1 := (hfin.cell (p := ⟨b3, o3 + gn * 5 + 1, none⟩) hl3 (by simp)).trans e1
                replace e2 := (hfin.cell (p := ⟨b3, o3 + gn * 5 + 2, none⟩) hl3 (by simp)).trans e2
                replace e3 := (hfin.cell (p := ⟨b3, o3 + gn * 5 + 3, none⟩) hl3 (by simp)).trans e3
                replace e4 := (hfin.cell (p := ⟨b3, o3 + gn * 5 + 4, none⟩) hl3 (by simp)).trans e4
                have hgi1 : (gn : Int) < (gl : Int) := by omega
                have hgd : decide ((gl : Int) ≤ (gn : Int)) = false := by simp; omega
                have hgn2 : ¬ gl ≤ gn := by omega
                clear hth hXr hfin hur hgx hl3
                go_wp2_with fail
                go_quiet (fail)
                go_wp2
                go_roundg (gB - 1)
                case measure => have := HGJ.out; omega
                case rel => exact ⟨j + 1, by omega, by have := HGJ.out; omega, by go_num, by rw [HG2.out]; go_num, HFU.out.drewN _⟩
        · obtain rfl : n3 = j := by omega
          have hga : gonesM s t n3 = gl := by rw [HN.out.2.2, HGL.out]; exact gones_all s t
          rw [hga]
          have HUR := Lib.hid hur
          have HGT := Lib.hid (gone_any (HK8.out.upd hur) (HK8.out.upd hur) (by have := HI2.out.nb; have := HI2.out.cl; omega) (by have := HI2.out.nb; have := HI2.out.cl; omega) HI2.out.ub)
          rw [HSC.out, gone_self] at HGT
          dsimp only [List.length_nil] at HGT
          clear hga hgle hltj hgj hj p6
          have p0 : wr.cell? ⟨S, 0, none⟩ = some (.int .i64 s.c.people) := hbS.cell 0
          have p1 : wr.cell? ⟨S, 1, none⟩ = some (.int .i64 s.c.tracks) := hbS.cell 1
          have p2 : wr.cell? ⟨S, 2, none⟩ = some (.int .i64 s.c.subs) := hbS.cell 2
          have p3 : wr.cell? ⟨S, 3, none⟩ = some (.int .i64 s.c.slots) := hbS.cell 3
          have p4 : wr.cell? ⟨S, 4, none⟩ = some (.slice pA n1 pc) := hbS.cell 4
          have p5 : wr.cell? ⟨S, 5, none⟩ = some (.slice tA n2 tc) := hbS.cell 5
          have p6 : wr.cell? ⟨S, 6, none⟩ = some (.slice bA n3 bc) := hbS.cell 6
          have q0 : wr.cell? ⟨T, 0, none⟩ = some (.int .i64 t.c.people) := hbT.cell 0
          have q1 : wr.cell? ⟨T, 1, none⟩ = some (.int .i64 t.c.tracks) := hbT.cell 1
          have q2 : wr.cell? ⟨T, 2, none⟩ = some (.int .i64 t.c.subs) := hbT.cell 2
          have q3 : wr.cell? ⟨T, 3, none⟩ = some (.int .i64 t.c.slots) := hbT.cell 3
          have q4 : wr.cell? ⟨T, 4, none⟩ = some (.slice pA' m1 pc') := hbT.cell 4
          have q5 : wr.cell? ⟨T, 5, none⟩ = some (.slice tA' m2 tc') := hbT.cell 5
          have q6 : wr.cell? ⟨T, 6, none⟩ = some (.slice bA' m3 bc') := hbT.cell 6
          have hgl2 : gl ≤ 64 := by rw [HGL.out, ← gones_all]; have := gones_le s t s.bs.length; have := HN.out.2.2; omega
          clear hbS hbT
          go_wp2_with fail
          refine HGT.out.mono ?_
          rintro e wy ⟨_, _, rfl, _, huy⟩
          have HUY := Lib.hid (HUR.out.next huy)
          have HUW : Hid (Upd [] wa wy) := Lib.hid (HU8.out.next HUY.out)
          have hbS := HB8.out.upd HUY.out (by simp)
          have hbT := HT8.out.upd HUY.out (by simp)
          have hkT : StAv wy S t ⟨pA', pc', tx', tA', tc', bA', bc'⟩ := ⟨HK8.out.upd HUY.out, HA6.out⟩
          clear p0 p1 p2 p3 p4 p5 p6 q0 q1 q2 q3 q4 q5 q6 HGT hur huy
          have p0 : wy.cell? ⟨S, 0, none⟩ = some (.int .i64 s.c.people) := hbS.cell 0
          have p1 : wy.cell? ⟨S, 1, none⟩ = some (.int .i64 s.c.tracks) := hbS.cell 1
          have p2 : wy.cell? ⟨S, 2, none⟩ = some (.int .i64 s.c.subs) := hbS.cell 2
          have p3 : wy.cell? ⟨S, 3, none⟩ = some (.int .i64 s.c.slots) := hbS.cell 3
          have p4 : wy.cell? ⟨S, 4, none⟩ = some (.slice pA n1 pc) := hbS.cell 4
          have p5 : wy.cell? ⟨S, 5, none⟩ = some (.slice tA n2 tc) := hbS.cell 5
          have p6 : wy.cell? ⟨S, 6, none⟩ = some (.slice bA n3 bc) := hbS.cell 6
          have q0 : wy.cell? ⟨T, 0, none⟩ = some (.int .i64 t.c.people) := hbT.cell 0
          have q1 : wy.cell? ⟨T, 1, none⟩ = some (.int .i64 t.c.tracks) := hbT.cell 1
          have q2 : wy.cell? ⟨T, 2, none⟩ = some (.int .i64 t.c.subs) := hbT.cell 2
          have q3 : wy.cell? ⟨T, 3, none⟩ = some (.int .i64 t.c.slots) := hbT.cell 3
          have q4 : wy.cell? ⟨T, 4, none⟩ = some (.slice pA' m1 pc') := hbT.cell 4
          have q5 : wy.cell? ⟨T, 5, none⟩ = some (.slice tA' m2 tc') := hbT.cell 5
          have q6 : wy.cell? ⟨T, 6, none⟩ = some (.slice bA' m3 bc') := hbT.cell 6
          have f0 := hbS.frozen 0
          have f1 := hbS.frozen 1
          have f2 := hbS.frozen 2
          have f3 := hbS.frozen 3
          have f4 := hbS.frozen 4
          have f5 := hbS.frozen 5
          have f6 := hbS.frozen 6
          obtain ⟨kx, ux⟩ := blk7 hbS (.int .i64 t.c.people) (.int .i64 t.c.tracks) (.int .i64 t.c.subs) (.int .i64 t.c.slots) (.slice pA' m1 pc') (.slice tA' m2 tc') (.slice bA' m3 bc')
          obtain ⟨wx, hwx⟩ : ∃ W, W = (((((((wy.setCell ⟨S, 0, none⟩ (.int .i64 t.c.people)).setCell ⟨S, 1, none⟩ (.int .i64 t.c.tracks)).setCell ⟨S, 2, none⟩ (.int .i64 t.c.subs)).setCell ⟨S, 3, none⟩ (.int .i64 t.c.slots)).setCell ⟨S, 4, none⟩ (.slice pA' m1 pc')).setCell ⟨S, 5, none⟩ (.slice tA' m2 tc')).setCell ⟨S, 6, none⟩ (.slice bA' m3 bc')) := ⟨_, rfl⟩
          rw [← hwx] at kx ux
          have HFN : Hid (∃ s h, Inv s ∧ Blk wx S 31 (scells s h).toArray ∧ StAv wx S s h ∧ Below w.heap.size w wx) := Lib.hid ⟨t, ⟨pA', pc', tx', tA', tc', bA', bc'⟩, HI2.out, by rw [HSC.out]; exact kx, hkT.past ux, (HBW.out.trans (HUW.out.below HBW.out.size (by simp))).trans (ux.below (Nat.le_trans HBW.out.size HUW.out.size) (fun s hs => by rw [List.mem_singleton] at hs; subst hs; exact HWS.out))⟩
          have HWX := Lib.hid hwx
          clear hwx kx ux hkT hbS hbT
          go_wp2
          rw [← HWX.out]
          go_roundg (gA - 1)
          case measure => have := HGI.out; omega
          case rel => exact ⟨i + 1, by omega, by have := HGI.out; omega, by go_num, HFN.out⟩
    · go_wp2
      go_ret
      exact ⟨rfl, hbw⟩
end Go.Proofs.Ytjcbaelefacolaa
