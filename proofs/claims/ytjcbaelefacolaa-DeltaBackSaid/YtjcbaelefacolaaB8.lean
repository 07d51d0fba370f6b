/- Parts of the proof, one behind the other: DAwake, Open, Open2, DOpen, DBack. No condition of their own. -/
import Derived.Test.YtjcbaelefacolaaB7
import Derived.Test.YtjcbaelefacolaaB1
import Derived.Deep.Slices
import Derived.Deep.Fields
import Derived.ChangeSame
import Derived.ProofKit
import Derived.OpenShut
import Derived.Deep.RegionHeld3
/- The layer delta: the laws' awake answers true. No condition. -/
namespace Go.Proofs.Ytjcbaelefacolaa
open Go Go.RowKit
set_option maxHeartbeats 400000

theorem do_av {w : World} {g : Nat} {s s' : St} {h : SHd} {q : Rq} {qh : SH} {er : Int} (hd : doM s q = (s', er)) (hs : StAv w g s h) (hl : g < w.heap.size) (hi : Inv s) (hQ : QIn w w.heap.size q qh) :
    Calls Try.prog 12 #[.agg (scells s h).toArray, .agg (qcells q qh).toArray] w fun e w' => ∃ h', e = .returned (.tuple #[.agg (scells s' h').toArray, .int .i64 er]) ∧ StAv w' g s' h' ∧ Upd [] w w' := by
  have := do_any hs.st hi hQ
  rw [hd] at this
  exact this.mono fun e w' ⟨h', he, hk, ha, hu⟩ => ⟨h', he, ⟨hk, ha g hl hs.av⟩, hu⟩
theorem inv_is {s s' : St} {q : Rq} {er : Int} (hd : doM s q = (s', er)) (hi : Inv s) : Inv s' := by
  have := inv_do hi q
  rw [hd] at this
  exact this
/-- the state stored into its box, another one's seven cells -/
theorem box7 {w : World} {S : Nat} {s s' : St} {h h' : SHd} (hb : Blk w S 31 (scells s h).toArray) :
    Blk (((((((w.setCell ⟨S, 0, none⟩ (.int .i64 s'.c.people)).setCell ⟨S, 1, none⟩ (.int .i64 s'.c.tracks)).setCell ⟨S, 2, none⟩ (.int .i64 s'.c.subs)).setCell ⟨S, 3, none⟩ (.int .i64 s'.c.slots)).setCell ⟨S, 4, none⟩ (.slice h'.pA s'.ps.length h'.pc)).setCell ⟨S, 5, none⟩ (.slice h'.tA s'.ts.length h'.tc)).setCell ⟨S, 6, none⟩ (.slice h'.bA s'.bs.length h'.bc)) S 31 (scells s' h').toArray
    ∧ Upd [S] w (((((((w.setCell ⟨S, 0, none⟩ (.int .i64 s'.c.people)).setCell ⟨S, 1, none⟩ (.int .i64 s'.c.tracks)).setCell ⟨S, 2, none⟩ (.int .i64 s'.c.subs)).setCell ⟨S, 3, none⟩ (.int .i64 s'.c.slots)).setCell ⟨S, 4, none⟩ (.slice h'.pA s'.ps.length h'.pc)).setCell ⟨S, 5, none⟩ (.slice h'.tA s'.ts.length h'.tc)).setCell ⟨S, 6, none⟩ (.slice h'.bA s'.bs.length h'.bc)) :=
  blk7 (c0 := .int .i64 s.c.people) (c1 := .int .i64 s.c.tracks) (c2 := .int .i64 s.c.subs) (c3 := .int .i64 s.c.slots) (c4 := .slice h.pA s.ps.length h.pc) (c5 := .slice h.tA s.ts.length h.tc) (c6 := .slice h.bA s.bs.length h.bc) hb _ _ _ _ _ _ _
theorem qin_nil (w : World) (B : Nat) (kd who room rights track layer tid : Int) : QIn w B ⟨kd, who, room, rights, track, [], layer, tid⟩ ⟨none, 0⟩ :=
  ⟨CellsIn.nil _ _ _ _ _, fun _ => ⟨rfl, rfl⟩, Nat.le_refl _, by dsimp only; omega, fun x hx => (by cases hx), by simp⟩
theorem qin_one {w : World} {g : Nat} {x : Int} (hx : 0 ≤ x) (h : Blk w g 64 #[.int .u32 x]) (kd who room rights track layer tid : Int) : QIn w w.heap.size ⟨kd, who, room, rights, track, [x], layer, tid⟩ ⟨some ⟨g, 0, none⟩, 1⟩ :=
  ⟨⟨rfl, fun _ => ⟨g, 0, rfl, Nat.zero_le _, h.lt, fun j u hj => by rw [Nat.zero_add, h.cell j]; simpa using hj⟩⟩, fun e => (by cases e), Nat.le_refl _, by dsimp only; omega, fun y hy => by rw [List.mem_singleton] at hy; omega, by simp⟩
def aw0 : St := newM ⟨3, 3, 3, 3⟩
def aw1 : St := ⟨⟨3, 3, 3, 3⟩, [⟨1, 2, 1⟩], [], []⟩
def aw2 : St := ⟨⟨3, 3, 3, 3⟩, [⟨1, 2, 1⟩, ⟨5, 2, 2⟩], [], []⟩
def aw3 : St := ⟨⟨3, 3, 3, 3⟩, [⟨1, 2, 1⟩, ⟨5, 2, 2⟩], [⟨7, 1, 0, [4]⟩], []⟩
def aw4 : St := ⟨⟨3, 3, 3, 3⟩, [⟨1, 2, 1⟩, ⟨5, 2, 2⟩], [⟨7, 1, 0, [4]⟩], [⟨5, 7, 0, 0, false⟩]⟩
def aw5 : St := ⟨⟨3, 3, 3, 3⟩, [⟨5, 2, 2⟩], [], []⟩
theorem aw1_do : doM aw0 ⟨0, 1, 2, 1, 0, [], 0, 0⟩ = (aw1, 0) := by rfl
theorem aw2_do : doM aw1 ⟨0, 5, 2, 2, 0, [], 0, 0⟩ = (aw2, 0) := by rfl
theorem aw3_do : doM aw2 ⟨2, 1, 0, 0, 7, [4], 0, 0⟩ = (aw3, 0) := by rfl
theorem aw4_do : doM aw3 ⟨5, 5, 0, 0, 7, [], 0, 0⟩ = (aw4, 0) := by rfl
theorem aw5_do : doM aw4 ⟨1, 1, 0, 0, 0, [], 0, 0⟩ = (aw5, 0) := by rfl
theorem aw6_do : doM aw4 ⟨2, 5, 0, 0, 8, [5], 0, 0⟩ = (aw4, 24) := by rfl
theorem aw_gone : goneM aw4 aw5 = [⟨5, 7, 0, 0, false⟩] := by rfl
theorem aw0_inv : Inv aw0 := inv_new _ ⟨by decide, by decide⟩ ⟨by decide, by decide⟩ ⟨by decide, by decide⟩ ⟨by decide, by decide⟩
theorem aw1_inv : Inv aw1 := inv_is aw1_do aw0_inv
theorem aw2_inv : Inv aw2 := inv_is aw2_do aw1_inv
theorem aw3_inv : Inv aw3 := inv_is aw3_do aw2_inv
theorem aw4_inv : Inv aw4 := inv_is aw4_do aw3_inv
theorem aw5_inv : Inv aw5 := inv_is aw5_do aw4_inv
theorem confOk3 : confOk ⟨3, 3, 3, 3⟩ = true := by rfl
set_option maxRecDepth 100000 in
set_option maxHeartbeats 4000000 in
theorem awake_any (w : World) : Calls Try.prog 9 #[] w fun e w' => e = .returned (.bool true) ∧ Upd [] w w' := by
  have hn := new_any w ⟨3, 3, 3, 3⟩
  rw [show confM ⟨3, 3, 3, 3⟩ = ⟨3, 3, 3, 3⟩ from rfl, confOk3] at hn
  have HN := Lib.hid hn
  clear hn
  go_enter Try.func9, Try.ntmps9
  go_wp2_with fail
  refine HN.out.mono ?_
  rintro e v0 ⟨rfl, hu0⟩
  have HU0 := Lib.hid hu0
  clear HN hu0
  rw [show scells (newM ⟨3, 3, 3, 3⟩) newHd = [.int .i64 3, .int .i64 3, .int .i64 3, .int .i64 3, .slice none 0 0, .slice none 0 0, .slice none 0 0] from rfl]
  go_upto_region 2 with fail
  obtain ⟨S, hS⟩ : ∃ S, S = v0.heap.size := ⟨_, rfl⟩
  obtain ⟨w0, hw0⟩ : ∃ W, W = v0.alloc (.cells #[.int .i64 3, .int .i64 3, .int .i64 3, .int .i64 3, .slice none 0 0, .slice none 0 0, .slice none 0 0] 31) := ⟨_, rfl⟩
  rw [← hS, ← hw0]
  have hx0 : Upd [] w w0 := HU0.out.next (by rw [hw0]; exact (Upd.refl [] v0).alloc _)
  have HX0 : Hid (Below w.heap.size w w0) := Lib.hid (hx0.below (Nat.le_refl _) (by simp))
  have HWS : Hid (w.heap.size ≤ S) := Lib.hid (by rw [hS]; exact HU0.out.size)
  obtain ⟨h0, hh0⟩ : ∃ h : SHd, h = newHd := ⟨_, rfl⟩
  have HB0 : Hid (Blk w0 S 31 (scells aw0 h0).toArray) := Lib.hid (by rw [hw0, hS, hh0]; exact Blk.new _ _ _)
  have HS0 : Hid (StAv w0 S aw0 h0) := Lib.hid (by rw [hh0]; exact ⟨⟨⟨CellsIn.nil _ _ _ _ _, fun _ => ⟨rfl, rfl⟩, Nat.le_refl _, by unfold newHd; dsimp only; omega⟩, ⟨CellsIn.nil _ _ _ _ _, fun _ => ⟨rfl, rfl⟩, Nat.le_refl _, by unfold newHd; dsimp only; omega⟩, ⟨CellsIn.nil _ _ _ _ _, fun _ => ⟨rfl, rfl⟩, Nat.le_refl _, by unfold newHd; dsimp only; omega⟩, rfl, fun x hx => (by cases hx)⟩, ⟨fun hn => absurd hn (by decide), fun hn => absurd hn (by decide), fun hn => absurd hn (by decide), fun x hx => (by cases hx)⟩⟩)
  clear hS hw0 hx0 hh0 HU0
  have p0 : w0.cell? ⟨S, 0, none⟩ = some (.int .i64 3) := HB0.out.cell 0
  have p1 : w0.cell? ⟨S, 1, none⟩ = some (.int .i64 3) := HB0.out.cell 1
  have p2 : w0.cell? ⟨S, 2, none⟩ = some (.int .i64 3) := HB0.out.cell 2
  have p3 : w0.cell? ⟨S, 3, none⟩ = some (.int .i64 3) := HB0.out.cell 3
  have p4 : w0.cell? ⟨S, 4, none⟩ = some (.slice h0.pA 0 h0.pc) := HB0.out.cell 4
  have p5 : w0.cell? ⟨S, 5, none⟩ = some (.slice h0.tA 0 h0.tc) := HB0.out.cell 5
  have p6 : w0.cell? ⟨S, 6, none⟩ = some (.slice h0.bA 0 h0.bc) := HB0.out.cell 6
  have HD : Hid _ := Lib.hid (do_av aw1_do HS0.out HB0.out.lt aw0_inv (qin_nil w0 w0.heap.size _ _ _ _ _ _ _))
  unfold qcells at HD
  dsimp only [List.length_nil, List.length_cons] at HD
  rw [show scells aw0 h0 = [.int .i64 3, .int .i64 3, .int .i64 3, .int .i64 3, .slice h0.pA 0 h0.pc, .slice h0.tA 0 h0.tc, .slice h0.bA 0 h0.bc] from rfl] at HD
  go_wp2_with fail
  refine HD.out.mono ?_
  rintro e v1 ⟨h1, rfl, hst, hu⟩
  rw [show scells aw1 h1 = [.int .i64 3, .int .i64 3, .int .i64 3, .int .i64 3, .slice h1.pA 1 h1.pc, .slice h1.tA 0 h1.tc, .slice h1.bA 0 h1.bc] from rfl]
  have HST := Lib.hid hst
  have HU : Hid (Upd [] w0 v1) := Lib.hid (hu)
  clear hst hu HD p0 p1 p2 p3 p4 p5 p6
  have hbk := HB0.out.upd HU.out (by simp)
  have c0 : v1.cell? ⟨S, 0, none⟩ = some (.int .i64 3) := hbk.cell 0
  have c1 : v1.cell? ⟨S, 1, none⟩ = some (.int .i64 3) := hbk.cell 1
  have c2 : v1.cell? ⟨S, 2, none⟩ = some (.int .i64 3) := hbk.cell 2
  have c3 : v1.cell? ⟨S, 3, none⟩ = some (.int .i64 3) := hbk.cell 3
  have c4 : v1.cell? ⟨S, 4, none⟩ = some (.slice h0.pA 0 h0.pc) := hbk.cell 4
  have c5 : v1.cell? ⟨S, 5, none⟩ = some (.slice h0.tA 0 h0.tc) := hbk.cell 5
  have c6 : v1.cell? ⟨S, 6, none⟩ = some (.slice h0.bA 0 h0.bc) := hbk.cell 6
  have f0 := hbk.frozen 0
  have f1 := hbk.frozen 1
  have f2 := hbk.frozen 2
  have f3 := hbk.frozen 3
  have f4 := hbk.frozen 4
  have f5 := hbk.frozen 5
  have f6 := hbk.frozen 6
  have hb7 := box7 (s' := aw1) (h' := h1) hbk
  obtain ⟨w1, hw1⟩ : ∃ W, W = (((((((v1.setCell ⟨S, 0, none⟩ (.int .i64 3)).setCell ⟨S, 1, none⟩ (.int .i64 3)).setCell ⟨S, 2, none⟩ (.int .i64 3)).setCell ⟨S, 3, none⟩ (.int .i64 3)).setCell ⟨S, 4, none⟩ (.slice h1.pA 1 h1.pc)).setCell ⟨S, 5, none⟩ (.slice h1.tA 0 h1.tc)).setCell ⟨S, 6, none⟩ (.slice h1.bA 0 h1.bc)) := ⟨_, rfl⟩
  replace hb7 : Blk w1 S 31 (scells aw1 h1).toArray ∧ Upd [S] v1 w1 := by rw [hw1]; exact hb7
  have HW := Lib.hid hw1
  have HB1 := Lib.hid hb7.1
  have HX1 : Hid (Below w.heap.size w w1) := Lib.hid ((HX0.out.trans (HU.out.below HX0.out.size (by simp))).trans (hb7.2.below (Nat.le_trans HX0.out.size HU.out.size) (fun t ht => by rw [List.mem_singleton] at ht; subst ht; exact HWS.out)))
  have HS1 : Hid (StAv w1 S aw1 h1) := Lib.hid (HST.out.past hb7.2)
  clear hbk hb7 hw1 HST HU HB0 HS0 HX0
  go_upto_region 3 with fail
  rw [← HW.out]
  clear HW c0 c1 c2 c3 c4 c5 c6 f0 f1 f2 f3 f4 f5 f6
  have p0 : w1.cell? ⟨S, 0, none⟩ = some (.int .i64 3) := HB1.out.cell 0
  have p1 : w1.cell? ⟨S, 1, none⟩ = some (.int .i64 3) := HB1.out.cell 1
  have p2 : w1.cell? ⟨S, 2, none⟩ = some (.int .i64 3) := HB1.out.cell 2
  have p3 : w1.cell? ⟨S, 3, none⟩ = some (.int .i64 3) := HB1.out.cell 3
  have p4 : w1.cell? ⟨S, 4, none⟩ = some (.slice h1.pA 1 h1.pc) := HB1.out.cell 4
  have p5 : w1.cell? ⟨S, 5, none⟩ = some (.slice h1.tA 0 h1.tc) := HB1.out.cell 5
  have p6 : w1.cell? ⟨S, 6, none⟩ = some (.slice h1.bA 0 h1.bc) := HB1.out.cell 6
  have HD : Hid _ := Lib.hid (do_av aw2_do HS1.out HB1.out.lt aw1_inv (qin_nil w1 w1.heap.size _ _ _ _ _ _ _))
  unfold qcells at HD
  dsimp only [List.length_nil, List.length_cons] at HD
  rw [show scells aw1 h1 = [.int .i64 3, .int .i64 3, .int .i64 3, .int .i64 3, .slice h1.pA 1 h1.pc, .slice h1.tA 0 h1.tc, .slice h1.bA 0 h1.bc] from rfl] at HD
  go_wp2_with fail
  refine HD.out.mono ?_
  rintro e v2 ⟨h2, rfl, hst, hu⟩
  rw [show scells aw2 h2 = [.int .i64 3, .int .i64 3, .int .i64 3, .int .i64 3, .slice h2.pA 2 h2.pc, .slice h2.tA 0 h2.tc, .slice h2.bA 0 h2.bc] from rfl]
  have HST := Lib.hid hst
  have HU : Hid (Upd [] w1 v2) := Lib.hid (hu)
  clear hst hu HD p0 p1 p2 p3 p4 p5 p6
  have hbk := HB1.out.upd HU.out (by simp)
  have c0 : v2.cell? ⟨S, 0, none⟩ = some (.int .i64 3) := hbk.cell 0
  have c1 : v2.cell? ⟨S, 1, none⟩ = some (.int .i64 3) := hbk.cell 1
  have c2 : v2.cell? ⟨S, 2, none⟩ = some (.int .i64 3) := hbk.cell 2
  have c3 : v2.cell? ⟨S, 3, none⟩ = some (.int .i64 3) := hbk.cell 3
  have c4 : v2.cell? ⟨S, 4, none⟩ = some (.slice h1.pA 1 h1.pc) := hbk.cell 4
  have c5 : v2.cell? ⟨S, 5, none⟩ = some (.slice h1.tA 0 h1.tc) := hbk.cell 5
  have c6 : v2.cell? ⟨S, 6, none⟩ = some (.slice h1.bA 0 h1.bc) := hbk.cell 6
  have f0 := hbk.frozen 0
  have f1 := hbk.frozen 1
  have f2 := hbk.frozen 2
  have f3 := hbk.frozen 3
  have f4 := hbk.frozen 4
  have f5 := hbk.frozen 5
  have f6 := hbk.frozen 6
  have hb7 := box7 (s' := aw2) (h' := h2) hbk
  obtain ⟨w2, hw2⟩ : ∃ W, W = (((((((v2.setCell ⟨S, 0, none⟩ (.int .i64 3)).setCell ⟨S, 1, none⟩ (.int .i64 3)).setCell ⟨S, 2, none⟩ (.int .i64 3)).setCell ⟨S, 3, none⟩ (.int .i64 3)).setCell ⟨S, 4, none⟩ (.slice h2.pA 2 h2.pc)).setCell ⟨S, 5, none⟩ (.slice h2.tA 0 h2.tc)).setCell ⟨S, 6, none⟩ (.slice h2.bA 0 h2.bc)) := ⟨_, rfl⟩
  replace hb7 : Blk w2 S 31 (scells aw2 h2).toArray ∧ Upd [S] v2 w2 := by rw [hw2]; exact hb7
  have HW := Lib.hid hw2
  have HB2 := Lib.hid hb7.1
  have HX2 : Hid (Below w.heap.size w w2) := Lib.hid ((HX1.out.trans (HU.out.below HX1.out.size (by simp))).trans (hb7.2.below (Nat.le_trans HX1.out.size HU.out.size) (fun t ht => by rw [List.mem_singleton] at ht; subst ht; exact HWS.out)))
  have HS2 : Hid (StAv w2 S aw2 h2) := Lib.hid (HST.out.past hb7.2)
  clear hbk hb7 hw2 HST HU HB1 HS1 HX1
  go_upto_region 4 with fail
  rw [← HW.out]
  clear HW c0 c1 c2 c3 c4 c5 c6 f0 f1 f2 f3 f4 f5 f6
  have p0 : w2.cell? ⟨S, 0, none⟩ = some (.int .i64 3) := HB2.out.cell 0
  have p1 : w2.cell? ⟨S, 1, none⟩ = some (.int .i64 3) := HB2.out.cell 1
  have p2 : w2.cell? ⟨S, 2, none⟩ = some (.int .i64 3) := HB2.out.cell 2
  have p3 : w2.cell? ⟨S, 3, none⟩ = some (.int .i64 3) := HB2.out.cell 3
  have p4 : w2.cell? ⟨S, 4, none⟩ = some (.slice h2.pA 2 h2.pc) := HB2.out.cell 4
  have p5 : w2.cell? ⟨S, 5, none⟩ = some (.slice h2.tA 0 h2.tc) := HB2.out.cell 5
  have p6 : w2.cell? ⟨S, 6, none⟩ = some (.slice h2.bA 0 h2.bc) := HB2.out.cell 6
  obtain ⟨y3, hy3⟩ : ∃ W, W = w2.alloc (.cells #[.int .u32 4] 64) := ⟨_, rfl⟩
  obtain ⟨gy, hgy⟩ : ∃ g, g = w2.heap.size := ⟨_, rfl⟩
  have hyu : Upd [] w2 y3 := by rw [hy3]; exact (Upd.refl [] w2).alloc _
  have hyb : Blk y3 gy 64 #[.int .u32 4] := by rw [hy3, hgy]; exact Blk.new _ _ _
  have HD : Hid _ := Lib.hid (do_av aw3_do (HS2.out.upd hyu) (Nat.le_trans HB2.out.lt hyu.size) aw2_inv (qin_one (by decide) hyb _ _ _ _ _ _ _))
  have HYU := Lib.hid hyu
  unfold qcells at HD
  dsimp only [List.length_nil, List.length_cons] at HD
  rw [show scells aw2 h2 = [.int .i64 3, .int .i64 3, .int .i64 3, .int .i64 3, .slice h2.pA 2 h2.pc, .slice h2.tA 0 h2.tc, .slice h2.bA 0 h2.bc] from rfl] at HD
  have HYE := Lib.hid hy3
  have HGE := Lib.hid hgy
  clear hyu hyb hy3 hgy
  go_wp2_with fail
  rw [← HYE.out, ← HGE.out]
  refine HD.out.mono ?_
  rintro e v3 ⟨h3, rfl, hst, hu⟩
  rw [show scells aw3 h3 = [.int .i64 3, .int .i64 3, .int .i64 3, .int .i64 3, .slice h3.pA 2 h3.pc, .slice h3.tA 1 h3.tc, .slice h3.bA 0 h3.bc] from rfl]
  have HST := Lib.hid hst
  have HU : Hid (Upd [] w2 v3) := Lib.hid (HYU.out.next hu)
  clear hst hu HD p0 p1 p2 p3 p4 p5 p6
  have hbk := HB2.out.upd HU.out (by simp)
  have c0 : v3.cell? ⟨S, 0, none⟩ = some (.int .i64 3) := hbk.cell 0
  have c1 : v3.cell? ⟨S, 1, none⟩ = some (.int .i64 3) := hbk.cell 1
  have c2 : v3.cell? ⟨S, 2, none⟩ = some (.int .i64 3) := hbk.cell 2
  have c3 : v3.cell? ⟨S, 3, none⟩ = some (.int .i64 3) := hbk.cell 3
  have c4 : v3.cell? ⟨S, 4, none⟩ = some (.slice h2.pA 2 h2.pc) := hbk.cell 4
  have c5 : v3.cell? ⟨S, 5, none⟩ = some (.slice h2.tA 0 h2.tc) := hbk.cell 5
  have c6 : v3.cell? ⟨S, 6, none⟩ = some (.slice h2.bA 0 h2.bc) := hbk.cell 6
  have f0 := hbk.frozen 0
  have f1 := hbk.frozen 1
  have f2 := hbk.frozen 2
  have f3 := hbk.frozen 3
  have f4 := hbk.frozen 4
  have f5 := hbk.frozen 5
  have f6 := hbk.frozen 6
  have hb7 := box7 (s' := aw3) (h' := h3) hbk
  obtain ⟨w3, hw3⟩ : ∃ W, W = (((((((v3.setCell ⟨S, 0, none⟩ (.int .i64 3)).setCell ⟨S, 1, none⟩ (.int .i64 3)).setCell ⟨S, 2, none⟩ (.int .i64 3)).setCell ⟨S, 3, none⟩ (.int .i64 3)).setCell ⟨S, 4, none⟩ (.slice h3.pA 2 h3.pc)).setCell ⟨S, 5, none⟩ (.slice h3.tA 1 h3.tc)).setCell ⟨S, 6, none⟩ (.slice h3.bA 0 h3.bc)) := ⟨_, rfl⟩
  replace hb7 : Blk w3 S 31 (scells aw3 h3).toArray ∧ Upd [S] v3 w3 := by rw [hw3]; exact hb7
  have HW := Lib.hid hw3
  have HB3 := Lib.hid hb7.1
  have HX3 : Hid (Below w.heap.size w w3) := Lib.hid ((HX2.out.trans (HU.out.below HX2.out.size (by simp))).trans (hb7.2.below (Nat.le_trans HX2.out.size HU.out.size) (fun t ht => by rw [List.mem_singleton] at ht; subst ht; exact HWS.out)))
  have HS3 : Hid (StAv w3 S aw3 h3) := Lib.hid (HST.out.past hb7.2)
  clear hbk hb7 hw3 HST HU HB2 HS2 HX2
  go_upto_region 5 with fail
  rw [← HW.out]
  clear HW c0 c1 c2 c3 c4 c5 c6 f0 f1 f2 f3 f4 f5 f6
  clear HYE HGE HYU
  have p0 : w3.cell? ⟨S, 0, none⟩ = some (.int .i64 3) := HB3.out.cell 0
  have p1 : w3.cell? ⟨S, 1, none⟩ = some (.int .i64 3) := HB3.out.cell 1
  have p2 : w3.cell? ⟨S, 2, none⟩ = some (.int .i64 3) := HB3.out.cell 2
  have p3 : w3.cell? ⟨S, 3, none⟩ = some (.int .i64 3) := HB3.out.cell 3
  have p4 : w3.cell? ⟨S, 4, none⟩ = some (.slice h3.pA 2 h3.pc) := HB3.out.cell 4
  have p5 : w3.cell? ⟨S, 5, none⟩ = some (.slice h3.tA 1 h3.tc) := HB3.out.cell 5
  have p6 : w3.cell? ⟨S, 6, none⟩ = some (.slice h3.bA 0 h3.bc) := HB3.out.cell 6
  have HD : Hid _ := Lib.hid (do_av aw4_do HS3.out HB3.out.lt aw3_inv (qin_nil w3 w3.heap.size _ _ _ _ _ _ _))
  unfold qcells at HD
  dsimp only [List.length_nil, List.length_cons] at HD
  rw [show scells aw3 h3 = [.int .i64 3, .int .i64 3, .int .i64 3, .int .i64 3, .slice h3.pA 2 h3.pc, .slice h3.tA 1 h3.tc, .slice h3.bA 0 h3.bc] from rfl] at HD
  go_wp2_with fail
  refine HD.out.mono ?_
  rintro e v4 ⟨h4, rfl, hst, hu⟩
  rw [show scells aw4 h4 = [.int .i64 3, .int .i64 3, .int .i64 3, .int .i64 3, .slice h4.pA 2 h4.pc, .slice h4.tA 1 h4.tc, .slice h4.bA 1 h4.bc] from rfl]
  have HST := Lib.hid hst
  have HU : Hid (Upd [] w3 v4) := Lib.hid (hu)
  clear hst hu HD p0 p1 p2 p3 p4 p5 p6
  have hbk := HB3.out.upd HU.out (by simp)
  have c0 : v4.cell? ⟨S, 0, none⟩ = some (.int .i64 3) := hbk.cell 0
  have c1 : v4.cell? ⟨S, 1, none⟩ = some (.int .i64 3) := hbk.cell 1
  have c2 : v4.cell? ⟨S, 2, none⟩ = some (.int .i64 3) := hbk.cell 2
  have c3 : v4.cell? ⟨S, 3, none⟩ = some (.int .i64 3) := hbk.cell 3
  have c4 : v4.cell? ⟨S, 4, none⟩ = some (.slice h3.pA 2 h3.pc) := hbk.cell 4
  have c5 : v4.cell? ⟨S, 5, none⟩ = some (.slice h3.tA 1 h3.tc) := hbk.cell 5
  have c6 : v4.cell? ⟨S, 6, none⟩ = some (.slice h3.bA 0 h3.bc) := hbk.cell 6
  have f0 := hbk.frozen 0
  have f1 := hbk.frozen 1
  have f2 := hbk.frozen 2
  have f3 := hbk.frozen 3
  have f4 := hbk.frozen 4
  have f5 := hbk.frozen 5
  have f6 := hbk.frozen 6
  have hb7 := box7 (s' := aw4) (h' := h4) hbk
  obtain ⟨w4, hw4⟩ : ∃ W, W = (((((((v4.setCell ⟨S, 0, none⟩ (.int .i64 3)).setCell ⟨S, 1, none⟩ (.int .i64 3)).setCell ⟨S, 2, none⟩ (.int .i64 3)).setCell ⟨S, 3, none⟩ (.int .i64 3)).setCell ⟨S, 4, none⟩ (.slice h4.pA 2 h4.pc)).setCell ⟨S, 5, none⟩ (.slice h4.tA 1 h4.tc)).setCell ⟨S, 6, none⟩ (.slice h4.bA 1 h4.bc)) := ⟨_, rfl⟩
  replace hb7 : Blk w4 S 31 (scells aw4 h4).toArray ∧ Upd [S] v4 w4 := by rw [hw4]; exact hb7
  have HW := Lib.hid hw4
  have HB4 := Lib.hid hb7.1
  have HX4 : Hid (Below w.heap.size w w4) := Lib.hid ((HX3.out.trans (HU.out.below HX3.out.size (by simp))).trans (hb7.2.below (Nat.le_trans HX3.out.size HU.out.size) (fun t ht => by rw [List.mem_singleton] at ht; subst ht; exact HWS.out)))
  have HS4 : Hid (StAv w4 S aw4 h4) := Lib.hid (HST.out.past hb7.2)
  clear hbk hb7 hw4 HST HU HB3 HS3 HX3
  go_upto_region 6 with fail
  rw [← HW.out]
  clear HW c0 c1 c2 c3 c4 c5 c6 f0 f1 f2 f3 f4 f5 f6
  have p0 : w4.cell? ⟨S, 0, none⟩ = some (.int .i64 3) := HB4.out.cell 0
  have p1 : w4.cell? ⟨S, 1, none⟩ = some (.int .i64 3) := HB4.out.cell 1
  have p2 : w4.cell? ⟨S, 2, none⟩ = some (.int .i64 3) := HB4.out.cell 2
  have p3 : w4.cell? ⟨S, 3, none⟩ = some (.int .i64 3) := HB4.out.cell 3
  have p4 : w4.cell? ⟨S, 4, none⟩ = some (.slice h4.pA 2 h4.pc) := HB4.out.cell 4
  have p5 : w4.cell? ⟨S, 5, none⟩ = some (.slice h4.tA 1 h4.tc) := HB4.out.cell 5
  have p6 : w4.cell? ⟨S, 6, none⟩ = some (.slice h4.bA 1 h4.bc) := HB4.out.cell 6
  have HD : Hid _ := Lib.hid (do_av aw5_do HS4.out HB4.out.lt aw4_inv (qin_nil w4 w4.heap.size _ _ _ _ _ _ _))
  unfold qcells at HD
  dsimp only [List.length_nil, List.length_cons] at HD
  rw [show scells aw4 h4 = [.int .i64 3, .int .i64 3, .int .i64 3, .int .i64 3, .slice h4.pA 2 h4.pc, .slice h4.tA 1 h4.tc, .slice h4.bA 1 h4.bc] from rfl] at HD
  go_wp2_with fail
  refine HD.out.mono ?_
  rintro e v5 ⟨h5, rfl, hst, hu⟩
  rw [show scells aw5 h5 = [.int .i64 3, .int .i64 3, .int .i64 3, .int .i64 3, .slice h5.pA 1 h5.pc, .slice h5.tA 0 h5.tc, .slice h5.bA 0 h5.bc] from rfl]
  have HST := Lib.hid hst
  have HU : Hid (Upd [] w4 v5) := Lib.hid (hu)
  clear hst hu HD p0 p1 p2 p3 p4 p5 p6
  go_upto_region 7 with fail
  obtain ⟨V, hV⟩ : ∃ V, V = v5.heap.size := ⟨_, rfl⟩
  obtain ⟨w5, hw5⟩ : ∃ W, W = v5.alloc (.cells #[.int .i64 3, .int .i64 3, .int .i64 3, .int .i64 3, .slice h5.pA 1 h5.pc, .slice h5.tA 0 h5.tc, .slice h5.bA 0 h5.bc] 31) := ⟨_, rfl⟩
  rw [← hV, ← hw5]
  have u5 : Upd [] v5 w5 := by rw [hw5]; exact (Upd.refl [] v5).alloc _
  have u45 := HU.out.next u5
  have HB5 : Hid (Blk w5 S 31 (scells aw4 h4).toArray) := Lib.hid (HB4.out.upd u45 (by simp))
  have HV5 : Hid (Blk w5 V 31 (scells aw5 h5).toArray) := Lib.hid (by rw [hw5, hV]; exact Blk.new _ _ _)
  have HS5 : Hid (StAv w5 S aw4 h4) := Lib.hid (HS4.out.upd u45)
  have HT5 : Hid (StAv w5 S aw5 h5) := Lib.hid (HST.out.upd u5)
  have HX5 : Hid (Below w.heap.size w w5) := Lib.hid (HX4.out.trans (u45.below HX4.out.size (by simp)))
  clear hV hw5 u5 u45 HU HST HB4 HS4 HX4
  have p0 : w5.cell? ⟨S, 0, none⟩ = some (.int .i64 3) := HB5.out.cell 0
  have p1 : w5.cell? ⟨S, 1, none⟩ = some (.int .i64 3) := HB5.out.cell 1
  have p2 : w5.cell? ⟨S, 2, none⟩ = some (.int .i64 3) := HB5.out.cell 2
  have p3 : w5.cell? ⟨S, 3, none⟩ = some (.int .i64 3) := HB5.out.cell 3
  have p4 : w5.cell? ⟨S, 4, none⟩ = some (.slice h4.pA 2 h4.pc) := HB5.out.cell 4
  have p5 : w5.cell? ⟨S, 5, none⟩ = some (.slice h4.tA 1 h4.tc) := HB5.out.cell 5
  have p6 : w5.cell? ⟨S, 6, none⟩ = some (.slice h4.bA 1 h4.bc) := HB5.out.cell 6
  have q0 : w5.cell? ⟨V, 0, none⟩ = some (.int .i64 3) := HV5.out.cell 0
  have q1 : w5.cell? ⟨V, 1, none⟩ = some (.int .i64 3) := HV5.out.cell 1
  have q2 : w5.cell? ⟨V, 2, none⟩ = some (.int .i64 3) := HV5.out.cell 2
  have q3 : w5.cell? ⟨V, 3, none⟩ = some (.int .i64 3) := HV5.out.cell 3
  have q4 : w5.cell? ⟨V, 4, none⟩ = some (.slice h5.pA 1 h5.pc) := HV5.out.cell 4
  have q5 : w5.cell? ⟨V, 5, none⟩ = some (.slice h5.tA 0 h5.tc) := HV5.out.cell 5
  have q6 : w5.cell? ⟨V, 6, none⟩ = some (.slice h5.bA 0 h5.bc) := HV5.out.cell 6
  have HD := Lib.hid (gone_any HS5.out.st HT5.out.st (by decide) (by decide) aw5_inv.ub)
  rw [show scells aw4 h4 = [.int .i64 3, .int .i64 3, .int .i64 3, .int .i64 3, .slice h4.pA 2 h4.pc, .slice h4.tA 1 h4.tc, .slice h4.bA 1 h4.bc] from rfl, show scells aw5 h5 = [.int .i64 3, .int .i64 3, .int .i64 3, .int .i64 3, .slice h5.pA 1 h5.pc, .slice h5.tA 0 h5.tc, .slice h5.bA 0 h5.bc] from rfl, aw_gone] at HD
  dsimp only [List.length_nil, List.length_cons] at HD
  go_wp2_with fail
  refine HD.out.mono ?_
  rintro e v6 ⟨GA, gc, rfl, hgr, hu6⟩
  have HB6 := Lib.hid (HB5.out.upd hu6 (by simp))
  have HV6 := Lib.hid (HV5.out.upd hu6 (by simp))
  have HS6 := Lib.hid (HS5.out.upd hu6)
  have HX6 : Hid (Below w.heap.size w v6) := Lib.hid (HX5.out.trans (hu6.below HX5.out.size (by simp)))
  have HG6 := Lib.hid hgr
  clear hgr hu6 HD HB5 HV5 HS5 HX5 HT5 p0 p1 p2 p3 p4 p5 p6 q0 q1 q2 q3 q4 q5 q6
  go_upto_region 8 with fail
  have p0 : v6.cell? ⟨S, 0, none⟩ = some (.int .i64 3) := HB6.out.cell 0
  have p1 : v6.cell? ⟨S, 1, none⟩ = some (.int .i64 3) := HB6.out.cell 1
  have p2 : v6.cell? ⟨S, 2, none⟩ = some (.int .i64 3) := HB6.out.cell 2
  have p3 : v6.cell? ⟨S, 3, none⟩ = some (.int .i64 3) := HB6.out.cell 3
  have p4 : v6.cell? ⟨S, 4, none⟩ = some (.slice h4.pA 2 h4.pc) := HB6.out.cell 4
  have p5 : v6.cell? ⟨S, 5, none⟩ = some (.slice h4.tA 1 h4.tc) := HB6.out.cell 5
  have p6 : v6.cell? ⟨S, 6, none⟩ = some (.slice h4.bA 1 h4.bc) := HB6.out.cell 6
  obtain ⟨y7, hy7⟩ : ∃ W, W = v6.alloc (.cells #[.int .u32 5] 64) := ⟨_, rfl⟩
  obtain ⟨gy, hgy⟩ : ∃ g, g = v6.heap.size := ⟨_, rfl⟩
  have hyu : Upd [] v6 y7 := by rw [hy7]; exact (Upd.refl [] v6).alloc _
  have hyb : Blk y7 gy 64 #[.int .u32 5] := by rw [hy7, hgy]; exact Blk.new _ _ _
  have HD : Hid _ := Lib.hid (do_av aw6_do (HS6.out.upd hyu) (Nat.le_trans HB6.out.lt hyu.size) aw4_inv (qin_one (by decide) hyb _ _ _ _ _ _ _))
  have HYU := Lib.hid hyu
  unfold qcells at HD
  dsimp only [List.length_nil, List.length_cons] at HD
  rw [show scells aw4 h4 = [.int .i64 3, .int .i64 3, .int .i64 3, .int .i64 3, .slice h4.pA 2 h4.pc, .slice h4.tA 1 h4.tc, .slice h4.bA 1 h4.bc] from rfl] at HD
  have HYE := Lib.hid hy7
  have HGE := Lib.hid hgy
  clear hyu hyb hy7 hgy
  go_wp2_with fail
  rw [← HYE.out, ← HGE.out]
  refine HD.out.mono ?_
  rintro e v7 ⟨h7, rfl, hst, hu⟩
  rw [show scells aw4 h7 = [.int .i64 3, .int .i64 3, .int .i64 3, .int .i64 3, .slice h7.pA 2 h7.pc, .slice h7.tA 1 h7.tc, .slice h7.bA 1 h7.bc] from rfl]
  have HST := Lib.hid hst
  have HU : Hid (Upd [] v6 v7) := Lib.hid (HYU.out.next hu)
  clear hst hu HD p0 p1 p2 p3 p4 p5 p6
  clear HYE HGE HYU
  go_upto_region 9 with fail
  obtain ⟨w7, hw7⟩ : ∃ W, W = v7.alloc (.cells #[.int .i64 3, .int .i64 3, .int .i64 3, .int .i64 3, .slice h7.pA 2 h7.pc, .slice h7.tA 1 h7.tc, .slice h7.bA 1 h7.bc] 31) := ⟨_, rfl⟩
  rw [← hw7]
  have u7 : Upd [] v7 w7 := by rw [hw7]; exact (Upd.refl [] v7).alloc _
  have u67 := HU.out.next u7
  have HX7 : Hid (Below w.heap.size w w7) := Lib.hid (HX6.out.trans (u67.below HX6.out.size (by simp)))
  have hb7 := HB6.out.upd u67 (by simp)
  have hv7 := HV6.out.upd u67 (by simp)
  have hg7 := HG6.out.upd u67
  have p6 : w7.cell? ⟨S, 6, none⟩ = some (.slice h4.bA 1 h4.bc) := hb7.cell 6
  have q4 : w7.cell? ⟨V, 4, none⟩ = some (.slice h5.pA 1 h5.pc) := hv7.cell 4
  have q5 : w7.cell? ⟨V, 5, none⟩ = some (.slice h5.tA 0 h5.tc) := hv7.cell 5
  have q6 : w7.cell? ⟨V, 6, none⟩ = some (.slice h5.bA 0 h5.bc) := hv7.cell 6
  obtain ⟨gb, go, rfl, _, _, hcc⟩ := hg7.l.2 (by omega)
  have g0 : w7.cell? ⟨gb, go, none⟩ = some (.int .i64 5) := hcc 0 _ rfl
  clear hb7 hv7 hg7 hcc hw7 u7 u67 HB6 HV6 HS6 HX6 HG6 HU HST
  go_wp2
  go_ret
  exact ⟨rfl, Upd.of_below HX7.out⟩
end Go.Proofs.Ytjcbaelefacolaa
/- Arguments opened to cells: integers, slices of elements of so many one-cell parts. Plain laws on readings. -/
namespace Go.Proofs.Ytjcbaelefacolaa
open Go Go.RowKit Go.ChangeShapes Go.WideShapes Go.Deep

theorem flat_one {α β : Type} (f : α → β) (l : List α) : l.flatMap (fun a => [f a]) = l.map f := by
  induction l with
  | nil => rfl
  | cons a l ih => rw [List.flatMap_cons, ih]; rfl

theorem cell_lt {w : World} {a : Addr} {v : Value} (h : w.cell? a = some v) : a.block < w.heap.size := by
  rcases Nat.lt_or_ge a.block w.heap.size with h1 | h1
  · exact h1
  · exfalso
    have h2 : w.heap[a.block]? = none := Array.getElem?_eq_none h1
    have h3 := World.cell?_of_block (w := w) (w' := { w with heap := #[] }) (a := a) (by rw [h2]; rfl)
    rw [h] at h3
    have h4 : (({ w with heap := #[] } : World).cell? a) = none := by simp [World.cell?]
    rw [h4] at h3
    cases h3

section
variable {H : Type} {enc : TypeId × Value → H} {P : Program} {w : World} {base : Nat} {spare : Nat → Bool} {held : Bool}

/-- A slice, element by element: whatever of an element's cells the reading tells. -/
theorem rd_slice {α : Type} {t e : TypeId} {size fuel : Nat} {cs : List Value} {x : DataW H × List MemPlace} (R : List Value → α → Prop) (ht : P.underlying t = some (.slice e)) (hC : P.cellsOf e = size) (h0 : 0 < size)
    (hR : ∀ n cs' y, cs'.length = size → DataW.trod enc P w base spare held n e cs' = some y → ∃ z, R cs' z) (hf : DataW.trod enc P w base spare held fuel t cs = some x) :
    ∃ (A : Option Addr) (len cap : Nat) (l : List α), cs = [.slice A len cap] ∧ len ≤ cap ∧ cap ≤ maxLen ∧ l.length = len ∧
      (0 < len → ∃ b off, A = some ⟨b, off, none⟩ ∧ b < w.heap.size ∧ ∀ (i : Nat) (z : α), l[i]? = some z → ∃ ci, R ci z ∧ ci.length = size ∧ ∀ j, j < size → w.cell? ⟨b, off + i * size + j, none⟩ = ci[j]?) := by
  rcases open_slice ht hf with ⟨hcs, _⟩ | ⟨a, len, cap, m, n, D, Pl, hcs, hb, hl, hm, hmm, hx, hi⟩
  · exact ⟨none, 0, 0, [], hcs, Nat.le_refl _, Nat.zero_le _, rfl, fun h => absurd h (Nat.lt_irrefl 0)⟩
  · have hlm : len ≤ m := by rw [hmm]; split <;> omega
    have each : ∀ i, i < len → ∃ z ci, R ci z ∧ ci.length = size ∧ ∀ j, j < size → w.cell? ((a.add (i * size)).add j) = ci[j]? := by
      intro i hil
      obtain ⟨cs', hc, ht'⟩ := hi i (by omega)
      rw [hC] at hc
      obtain ⟨_, hcl, hat⟩ := World.cells?_some hc
      obtain ⟨z, hz⟩ := hR n cs' _ hcl ht'
      exact ⟨z, cs', hz, hcl, hat⟩
    have list : ∀ k, k ≤ len → ∃ l : List α, l.length = k ∧ ∀ (i : Nat) (z : α), l[i]? = some z → ∃ ci, R ci z ∧ ci.length = size ∧ ∀ j, j < size → w.cell? ((a.add (i * size)).add j) = ci[j]? := by
      intro k
      induction k with
      | zero => intro _; exact ⟨[], rfl, fun i z h => by simp at h⟩
      | succ k ih =>
        intro hk
        obtain ⟨l, hll, hla⟩ := ih (by omega)
        obtain ⟨z, hz⟩ := each k (by omega)
        refine ⟨l ++ [z], by simp [hll], fun i y hy => ?_⟩
        rcases Nat.lt_or_ge i l.length with h1 | h1
        · rw [List.getElem?_append_left h1] at hy
          exact hla i y hy
        · rw [List.getElem?_append_right h1] at hy
          have h2 : i - l.length = 0 := by
            rcases Nat.eq_zero_or_pos (i - l.length) with h | h
            · exact h
            · rw [List.getElem?_eq_none (by simp; omega)] at hy; cases hy
          rw [h2] at hy
          obtain rfl : z = y := by simpa using hy
          obtain rfl : i = k := by omega
          exact hz
    obtain ⟨l, hll, hla⟩ := list len (Nat.le_refl _)
    refine ⟨some a, len, cap, l, hcs, hl, hm, hll, fun hpos => ?_⟩
    have hl0 : 0 < l.length := by omega
    obtain ⟨c0, _, hcl, h00⟩ := hla 0 l[0] (List.getElem?_eq_getElem hl0)
    have hcell := h00 0 h0
    rw [List.getElem?_eq_getElem (by omega)] at hcell
    have hadd : (a.add (0 * size)).add 0 = a := by simp [Addr.add]
    rw [hadd] at hcell
    have hspot := World.cell?_spot hcell
    obtain ⟨b, off, spot⟩ := a
    dsimp only at hspot
    subst hspot
    refine ⟨b, off, rfl, cell_lt hcell, fun i z hz => ?_⟩
    obtain ⟨ci, hr, hc1, hc2⟩ := hla i z hz
    refine ⟨ci, hr, hc1, fun j hj => ?_⟩
    have := hc2 j hj
    rw [← this]
    unfold Addr.add
    by_cases e1 : i * size = 0 <;> by_cases e2 : j = 0 <;> simp [e1, e2, Nat.add_assoc]

/-- .. where the cells are a function of what they read as. -/
theorem rd_cells {α : Type} {t e : TypeId} {size fuel : Nat} {cs : List Value} {x : DataW H × List MemPlace} (f : α → List Value) (ht : P.underlying t = some (.slice e)) (hC : P.cellsOf e = size) (h0 : 0 < size)
    (hR : ∀ n cs' y, cs'.length = size → DataW.trod enc P w base spare held n e cs' = some y → ∃ z, cs' = f z) (hlen : ∀ z, (f z).length = size) (hf : DataW.trod enc P w base spare held fuel t cs = some x) :
    ∃ (A : Option Addr) (len cap : Nat) (l : List α), cs = [.slice A len cap] ∧ len ≤ cap ∧ cap ≤ maxLen ∧ l.length = len ∧ Cells w w.heap.size size A len (l.flatMap f) := by
  obtain ⟨A, len, cap, l, h1, h2, h3, h4, h5⟩ := rd_slice (fun c z => c = f z) ht hC h0 hR hf
  have hfl : ∀ l : List α, (l.flatMap f).length = l.length * size := by
    intro l
    induction l with
    | nil => simp
    | cons a l ih => rw [List.flatMap_cons, List.length_append, ih, hlen, List.length_cons, Nat.succ_mul, Nat.add_comm]
  have hget : ∀ (l : List α) (i j : Nat) (z : α), l[i]? = some z → j < size → (l.flatMap f)[i * size + j]? = (f z)[j]? := by
    intro l
    induction l with
    | nil => intro i j z h; simp at h
    | cons a l ih =>
      intro i j z h hj
      rw [List.flatMap_cons]
      cases i with
      | zero =>
        obtain rfl : a = z := by simpa using h
        rw [Nat.zero_mul, Nat.zero_add, List.getElem?_append_left (by rw [hlen]; exact hj)]
      | succ i =>
        rw [List.getElem?_append_right (by rw [hlen, Nat.succ_mul]; omega), hlen, Nat.succ_mul, show i * size + size + j - size = i * size + j by omega]
        exact ih i j z (by simpa using h) hj
  refine ⟨A, len, cap, l, h1, h2, h3, h4, by rw [hfl, h4], fun hpos => ?_⟩
  obtain ⟨b, off, hA, hb, hc⟩ := h5 hpos
  refine ⟨b, off, hA, hb, fun j u hu => ?_⟩
  have hjl : j < l.length * size := by
    rcases Nat.lt_or_ge j (l.length * size) with h | h
    · exact h
    · rw [List.getElem?_eq_none (by rw [hfl]; exact h)] at hu; cases hu
  have hdiv : j / size < l.length := Nat.div_lt_of_lt_mul (by rw [Nat.mul_comm]; exact hjl)
  have hmod : j % size < size := Nat.mod_lt _ h0
  have hj : j = j / size * size + j % size := by rw [Nat.mul_comm]; exact (Nat.div_add_mod j size).symm
  obtain ⟨ci, hci, _, hcj⟩ := hc (j / size) l[j / size] (List.getElem?_eq_getElem hdiv)
  have h6 := hcj (j % size) hmod
  rw [Nat.add_assoc, ← hj] at h6
  rw [h6, hci]
  rw [hj, hget l _ _ _ (List.getElem?_eq_getElem hdiv) hmod] at hu
  exact hu

theorem rd_int {t : TypeId} {n : Nat} {cs : List Value} {y : DataW H × List MemPlace} {k : IntKind} (ht : P.underlying t = some (.int k)) (h : DataW.trod enc P w base spare held n t cs = some y) :
    ∃ z : Int, cs = [.int k z] ∧ (Lit.int k z).wf = true := by
  obtain ⟨z, h1, _, h3⟩ := DataW.trod_int ht h
  exact ⟨z, h1, h3⟩

/-- A struct of one-cell fields: each field's cell, with its own reading. -/
theorem rd_struct {t : TypeId} {fs : Array Field} {n : Nat} {cs : List Value} {y : DataW H × List MemPlace} (ht : P.underlying t = some (.struct fs)) (hone : oneCellFields P fs = true)
    (h : DataW.trod enc P w base spare held n t cs = some y) : ∃ m, ∀ (j : Nat) (f : Field) (v : Value), fs[j]? = some f → cs[j]? = some v → ∃ z, DataW.trod enc P w base spare held m f.type [v] = some z := by
  obtain ⟨ys, n', _, _, _, hyl, hf⟩ := DataW.trod_struct ht h
  refine ⟨n', fun j f v hj hv => ?_⟩
  obtain ⟨ho, hk⟩ := hone_of hone j f hj
  have h1 := hf j f hj
  rw [ho, hk] at h1
  have hjl : j < fs.size := (Array.getElem?_eq_some_iff.1 hj).1
  obtain ⟨hjc, hv'⟩ := List.getElem?_eq_some_iff.1 hv
  have h2 : (cs.drop j).take 1 = [v] := by
    rw [List.drop_eq_getElem_cons hjc, hv']; rfl
  rw [h2, List.getElem?_eq_getElem (by omega)] at h1
  exact ⟨_, h1⟩
end

end Go.Proofs.Ytjcbaelefacolaa
/- A struct with fields of several cells, field by field. Plain law on readings. -/
namespace Go.Proofs.Ytjcbaelefacolaa
open Go Go.RowKit Go.ChangeShapes Go.WideShapes Go.Deep

section
variable {H : Type} {enc : TypeId × Value → H} {P : Program} {w : World} {base : Nat} {spare : Nat → Bool} {held : Bool}
theorem rd_fields {t : TypeId} {fs : Array Field} {n : Nat} {cs : List Value} {y : DataW H × List MemPlace} (ht : P.underlying t = some (.struct fs))
    (h : DataW.trod enc P w base spare held n t cs = some y) : ∃ m, ∀ (j : Nat) (f : Field) (e : TypeId) (o k : Nat), fs[j]? = some f → f.type = e → f.offset = o → P.cellsOf e = k → ∃ z, DataW.trod enc P w base spare held m e ((cs.drop o).take k) = some z := by
  obtain ⟨ys, n', _, _, _, hyl, hf⟩ := DataW.trod_struct ht h
  refine ⟨n', fun j f e o k hj he ho hk => ?_⟩
  have h1 := hf j f hj
  rw [ho, he, hk] at h1
  have hjl : j < fs.size := (Array.getElem?_eq_some_iff.1 hj).1
  rw [List.getElem?_eq_getElem (by omega)] at h1
  exact ⟨_, h1⟩
end
end Go.Proofs.Ytjcbaelefacolaa
/- Requests, and how many there may be, that came in as arguments: where they and their rows lie. Plain law on readings. -/
namespace Go.Proofs.Ytjcbaelefacolaa
open Go Go.RowKit Go.ChangeShapes Go.WideShapes Go.Deep
set_option maxHeartbeats 1000000

theorem CellsIn.came {w : World} {size n : Nat} {A : Option Addr} {xs : List Value} (h : Cells w w.heap.size size A n xs) : CellsIn w 0 w.heap.size size A n xs :=
  ⟨h.1, fun hn => by
    obtain ⟨b, off, e, hlt, hc⟩ := h.2 hn
    exact ⟨b, off, e, Nat.zero_le _, hlt, hc⟩⟩
theorem wf_u32n {z : Int} (h : (Lit.int .u32 z).wf = true) : 0 ≤ z := by
  have := bounds_u32 h
  omega
/-- a request that came in: its SSRCs lie in memory -/
structure RqIn (w : World) (q : Rq) (h : SH) : Prop where
  row : RwIn w 0 1 h.A q.ss.length h.c (q.ss.map (Value.int .u32))
  pos : ∀ x, x ∈ q.ss → 0 ≤ x
theorem RqIn.below {w w' : World} {q : Rq} {h : SH} (k : RqIn w q h) (u : Below w.heap.size w w') : RqIn w' q h := ⟨k.row.below u, k.pos⟩
theorem RqIn.q {w : World} {q : Rq} {h : SH} (k : RqIn w q h) (hf : q.ss.length ≤ 6) : QIn w w.heap.size q h := ⟨k.row.l, k.row.nl, k.row.le, k.row.cm, k.pos, hf⟩
section
variable {H : Type} {enc : TypeId × Value → H} {w : World} {base : Nat} {spare : Nat → Bool} {held : Bool}
theorem rd_nil {P : Program} {t e : TypeId} {fuel : Nat} {A : Option Addr} {n c : Nat} {x : DataW H × List MemPlace} (ht : P.underlying t = some (.slice e)) (hf : DataW.trod enc P w base spare held fuel t [.slice A n c] = some x) : A = none → n = 0 ∧ c = 0 := by
  rintro rfl
  rcases open_slice ht hf with ⟨hcs, _⟩ | ⟨a, len, cap, m, n', D, Pl, hcs, _⟩
  · simp at hcs; exact hcs
  · simp at hcs
theorem rd_ss {fuel : Nat} {cs : List Value} {x : DataW H × List MemPlace} (hf : DataW.trod enc Try.prog w base spare held fuel 43 cs = some x) :
    ∃ (h : SH) (l : List Int), cs = [.slice h.A l.length h.c] ∧ RwIn w 0 1 h.A l.length h.c (l.map (Value.int .u32)) ∧ ∀ x ∈ l, 0 ≤ x := by
  obtain ⟨A, len, cap, l, hcs, hlc, hm, hll, hc⟩ := rd_cells (α := { x : Int // 0 ≤ x }) (fun a => [.int .u32 a.1]) (size := 1) Try.underlying43 (by kernel_rfl) (by omega) (fun n cs y hcl hy => by
    obtain ⟨z, e, wz⟩ := rd_int Try.underlying64 hy
    exact ⟨⟨z, wf_u32n wz⟩, e⟩) (fun _ => rfl) hf
  have hl' : (l.map (·.1)).length = len := by rw [List.length_map]; exact hll
  subst hcs
  have hnl := rd_nil Try.underlying43 hf
  refine ⟨⟨A, cap⟩, l.map (·.1), by rw [hl'], ⟨?_, ?_, by rw [hl']; exact hlc, by unfold maxLen at hm; dsimp only; omega⟩, fun r hr => ?_⟩
  · have e : (l.map (·.1)).map (Value.int .u32) = l.flatMap fun a => [.int .u32 a.1] := by
      rw [flat_one (fun a : { x : Int // 0 ≤ x } => Value.int .u32 a.1), List.map_map]; rfl
    rw [hl', e]; exact CellsIn.came hc
  · rw [hl']; exact hnl
  · obtain ⟨a, _, rfl⟩ := List.mem_map.1 hr
    exact a.2
theorem rd_req {n : Nat} {cs : List Value} {y : DataW H × List MemPlace} (hcl : cs.length = 8) (hy : DataW.trod enc Try.prog w base spare held n 45 cs = some y) : ∃ z : { x : Rq × SH // RqIn w x.1 x.2 }, cs = encQ z.1 := by
  obtain ⟨m, hm⟩ := rd_fields (n := n) (fs := _) Try.underlying45 hy
  match cs, hcl with
  | [c0, c1, c2, c3, c4, c5, c6, c7], _ =>
    obtain ⟨y0, hy0⟩ := hm 0 _ 3 0 1 rfl rfl rfl (by kernel_rfl)
    obtain ⟨y1, hy1⟩ := hm 1 _ 3 1 1 rfl rfl rfl (by kernel_rfl)
    obtain ⟨y2, hy2⟩ := hm 2 _ 3 2 1 rfl rfl rfl (by kernel_rfl)
    obtain ⟨y3, hy3⟩ := hm 3 _ 3 3 1 rfl rfl rfl (by kernel_rfl)
    obtain ⟨y4, hy4⟩ := hm 4 _ 3 4 1 rfl rfl rfl (by kernel_rfl)
    obtain ⟨y5, hy5⟩ := hm 5 _ 43 5 1 rfl rfl rfl (by kernel_rfl)
    obtain ⟨y6, hy6⟩ := hm 6 _ 3 6 1 rfl rfl rfl (by kernel_rfl)
    obtain ⟨y7, hy7⟩ := hm 7 _ 3 7 1 rfl rfl rfl (by kernel_rfl)
    obtain ⟨z0, e0, _⟩ := rd_int Try.underlying3 hy0
    obtain ⟨z1, e1, _⟩ := rd_int Try.underlying3 hy1
    obtain ⟨z2, e2, _⟩ := rd_int Try.underlying3 hy2
    obtain ⟨z3, e3, _⟩ := rd_int Try.underlying3 hy3
    obtain ⟨z4, e4, _⟩ := rd_int Try.underlying3 hy4
    obtain ⟨h5, l5, e5, r5, n5⟩ := rd_ss hy5
    obtain ⟨z6, e6, _⟩ := rd_int Try.underlying3 hy6
    obtain ⟨z7, e7, _⟩ := rd_int Try.underlying3 hy7
    have f0 : c0 = _ := (List.cons.inj e0).1
    have f1 : c1 = _ := (List.cons.inj e1).1
    have f2 : c2 = _ := (List.cons.inj e2).1
    have f3 : c3 = _ := (List.cons.inj e3).1
    have f4 : c4 = _ := (List.cons.inj e4).1
    have f5 : c5 = _ := (List.cons.inj e5).1
    have f6 : c6 = _ := (List.cons.inj e6).1
    have f7 : c7 = _ := (List.cons.inj e7).1
    exact ⟨⟨(⟨z0, z1, z2, z3, z4, l5, z6, z7⟩, h5), ⟨r5, n5⟩⟩, by rw [f0, f1, f2, f3, f4, f5, f6, f7]; rfl⟩
theorem open_reqs {fuel : Nat} {cs : List Value} {x : DataW H × List MemPlace} (hf : DataW.trod enc Try.prog w base spare held fuel 24 cs = some x) :
    ∃ (A : Option Addr) (c : Nat) (l : List (Rq × SH)), cs = [.slice A l.length c] ∧ l.length ≤ c ∧ c ≤ maxLen ∧ CellsIn w 0 w.heap.size 8 A l.length (l.flatMap encQ) ∧ ∀ x ∈ l, RqIn w x.1 x.2 := by
  obtain ⟨A, len, cap, l, hcs, hlc, hm, hll, hc⟩ := rd_cells (α := { x : Rq × SH // RqIn w x.1 x.2 }) (fun a => encQ a.1) (size := 8) Try.underlying24 (by kernel_rfl) (by omega) (fun n cs y hcl hy => rd_req hcl hy) (fun _ => rfl) hf
  have hl' : (l.map (·.1)).length = len := by rw [List.length_map]; exact hll
  refine ⟨A, cap, l.map (·.1), by rw [hl']; exact hcs, by rw [hl']; exact hlc, hm, ?_, fun r hr => ?_⟩
  · rw [hl', List.flatMap_map]; exact CellsIn.came hc
  · obtain ⟨a, _, rfl⟩ := List.mem_map.1 hr
    exact a.2
theorem open_conf {fuel : Nat} {cs : List Value} {x : DataW H × List MemPlace} (hcl : cs.length = 4) (hf : DataW.trod enc Try.prog w base spare held fuel 23 cs = some x) :
    ∃ c : Cf, cs = [.int .i64 c.people, .int .i64 c.tracks, .int .i64 c.subs, .int .i64 c.slots] := by
  obtain ⟨m, hm⟩ := rd_fields (n := fuel) (fs := _) Try.underlying23 hf
  match cs, hcl with
  | [c0, c1, c2, c3], _ =>
    obtain ⟨y0, hy0⟩ := hm 0 _ 3 0 1 rfl rfl rfl (by kernel_rfl)
    obtain ⟨y1, hy1⟩ := hm 1 _ 3 1 1 rfl rfl rfl (by kernel_rfl)
    obtain ⟨y2, hy2⟩ := hm 2 _ 3 2 1 rfl rfl rfl (by kernel_rfl)
    obtain ⟨y3, hy3⟩ := hm 3 _ 3 3 1 rfl rfl rfl (by kernel_rfl)
    obtain ⟨z0, e0, _⟩ := rd_int Try.underlying3 hy0
    obtain ⟨z1, e1, _⟩ := rd_int Try.underlying3 hy1
    obtain ⟨z2, e2, _⟩ := rd_int Try.underlying3 hy2
    obtain ⟨z3, e3, _⟩ := rd_int Try.underlying3 hy3
    have f0 : c0 = _ := (List.cons.inj e0).1
    have f1 : c1 = _ := (List.cons.inj e1).1
    have f2 : c2 = _ := (List.cons.inj e2).1
    have f3 : c3 = _ := (List.cons.inj e3).1
    exact ⟨⟨z0, z1, z2, z3⟩, by rw [f0, f1, f2, f3]⟩
end
end Go.Proofs.Ytjcbaelefacolaa
/- DeltaBack: the walk. -/
namespace Go.Proofs.Ytjcbaelefacolaa
open Go Go.RowKit
set_option maxHeartbeats 400000

set_option maxRecDepth 100000 in
set_option maxHeartbeats 4000000 in
theorem back_any (c : Cf) (A : Option Addr) (cap : Nat) (l : List (Rq × SH)) (q : Rq) (qh : SH) (w : World) (hl : l.length ≤ 9223372036854775807) (hc : CellsIn w 0 w.heap.size 8 A l.length (l.flatMap encQ)) (hx : ∀ x, x ∈ l → RqIn w x.1 x.2) (hq : RqIn w q qh) :
    Calls Try.prog 6 #[.agg #[.int .i64 c.people, .int .i64 c.tracks, .int .i64 c.subs, .int .i64 c.slots], .slice A l.length cap, .agg (encQ (q, qh)).toArray] w fun e w' => e = .returned (.bool true) ∧ Below w.heap.size w w' := by
  unfold encQ qcells
  dsimp only
  obtain ⟨ol, hol⟩ : ∃ n, n = q.ss.length := ⟨_, rfl⟩
  rw [← hol]
  have HOL := Lib.hid hol
  have HRQQ := Lib.hid hq
  obtain ⟨W00, hW00⟩ : ∃ W, W = w.alloc (.cells #[.int .i64 c.people, .int .i64 c.tracks, .int .i64 c.subs, .int .i64 c.slots] 23) := ⟨_, rfl⟩
  obtain ⟨W0, hW0⟩ : ∃ W, W = W00.alloc (.cells #[.int .i64 q.kind, .int .i64 q.who, .int .i64 q.room, .int .i64 q.rights, .int .i64 q.track, .slice qh.A ol qh.c, .int .i64 q.layer, .int .i64 q.tid] 45) := ⟨_, rfl⟩
  obtain ⟨g, hg⟩ : ∃ g, g = w.heap.size := ⟨_, rfl⟩
  have hu00 : Upd [] w W00 := by rw [hW00]; exact (Upd.refl [] w).alloc _
  have hu01 : Upd [] W00 W0 := by rw [hW0]; exact (Upd.refl [] W00).alloc _
  have hz00 : W00.heap.size = g + 1 := by rw [hW00, World.size_alloc, hg]
  have hu0 : Upd [] w W0 := hu00.next hu01
  have hb0 : Blk W0 g 23 #[.int .i64 c.people, .int .i64 c.tracks, .int .i64 c.subs, .int .i64 c.slots] := by
    have : Blk W00 g 23 #[.int .i64 c.people, .int .i64 c.tracks, .int .i64 c.subs, .int .i64 c.slots] := by rw [hW00, hg]; exact Blk.new _ _ _
    exact this.upd hu01 (by simp)
  have HQ0 : Hid (Blk W0 (g + 1) 45 #[.int .i64 q.kind, .int .i64 q.who, .int .i64 q.room, .int .i64 q.rights, .int .i64 q.track, .slice qh.A ol qh.c, .int .i64 q.layer, .int .i64 q.tid]) := Lib.hid (by rw [hW0, ← hz00]; exact Blk.new _ _ _)
  clear hol hq hu00 hu01
  have HC := Lib.hid hc
  have HRX := Lib.hid hx
  have HU0 := Lib.hid hu0
  have HB0 := Lib.hid hb0
  have HF := Lib.hid (fun (W : World) (u : Upd [] w W) => few_any (cap := cap) ((hc.below (u.below (Nat.le_refl _) (by simp)) (Nat.le_refl _)).more (Nat.le_refl _) u.size) hl)
  obtain ⟨L, hL⟩ : ∃ L, L = l.length := ⟨_, rfl⟩
  have HL := Lib.hid hL
  obtain ⟨b1, hb1⟩ : ∃ b, b = fewQ (l.map (·.1)) := ⟨_, rfl⟩
  have HB1 := Lib.hid hb1
  obtain ⟨b2, hb2⟩ : ∃ b, b = confOk c := ⟨_, rfl⟩
  have HB2 := Lib.hid hb2
  have HBG := Lib.hid (fun (W : World) => begun_any W c)
  rw [← hb2] at HBG
  rw [← hb1, ← hL] at HF
  rw [← hL] at hl ⊢
  clear hb1 hb2 hL hc hx hu0 hb0
  go_enter Try.func6, Try.ntmps6
  go_upto_region 1 with fail
  rw [← hW00, ← hW0, ← hg]
  have HG := Lib.hid hg
  clear hW0 hg hW00 hz00
  go_wp2_with fail
  refine (awake_any _).mono ?_
  rintro _ w1 ⟨rfl, hu1⟩
  have HU1 := Lib.hid (HU0.out.next hu1)
  have HB01 := Lib.hid (HB0.out.upd hu1 (by simp))
  have HQ1 := Lib.hid (HQ0.out.upd hu1 (by simp))
  clear HQ0
  clear hu1 HU0 HB0
  go_wp2_with fail
  refine (HF.out _ HU1.out).mono ?_
  rintro _ w1' ⟨rfl, hw1⟩
  replace hw1 := hw1.symm
  subst hw1
  go_upto_region 5 with fail
  have g0 : w1.cell? ⟨g, 0, none⟩ = some (.int .i64 c.people) := HB01.out.cell 0
  have g1 : w1.cell? ⟨g, 1, none⟩ = some (.int .i64 c.tracks) := HB01.out.cell 1
  have g2 : w1.cell? ⟨g, 2, none⟩ = some (.int .i64 c.subs) := HB01.out.cell 2
  have g3 : w1.cell? ⟨g, 3, none⟩ = some (.int .i64 c.slots) := HB01.out.cell 3
  rw [show scells (newM (confM c)) newHd = [.int .i64 (confM c).people, .int .i64 (confM c).tracks, .int .i64 (confM c).subs, .int .i64 (confM c).slots, .slice none 0 0, .slice none 0 0, .slice none 0 0] from rfl] at HBG
  go_wp2_with fail
  refine (HBG.out _).mono ?_
  rintro _ w2 ⟨rfl, hu2⟩
  have HU2 := Lib.hid (HU1.out.next hu2)
  have HQ2 := Lib.hid (HQ1.out.upd hu2 (by simp))
  clear HQ1
  clear hu2 HU1 HB01 g0 g1 g2 g3 HF HBG
  go_upto_region 6 with fail
  obtain ⟨S, hS⟩ : ∃ S, S = w2.heap.size := ⟨_, rfl⟩
  obtain ⟨m, hm⟩ : ∃ m, m = confM c := ⟨_, rfl⟩
  rw [← hm]
  obtain ⟨w3, hw3⟩ : ∃ W, W = w2.alloc (.cells #[.int .i64 m.people, .int .i64 m.tracks, .int .i64 m.subs, .int .i64 m.slots, .slice none 0 0, .slice none 0 0, .slice none 0 0] 31) := ⟨_, rfl⟩
  obtain ⟨w4, hw4⟩ : ∃ W, W = w3.alloc (.cells #[.int .i64 c.people, .int .i64 c.tracks, .int .i64 c.subs, .int .i64 c.slots, .slice none 0 0, .slice none 0 0, .slice none 0 0] 37) := ⟨_, rfl⟩
  rw [← hS, ← hw3, ← hw4]
  have u3 : Upd [] w2 w3 := by rw [hw3]; exact (Upd.refl [] w2).alloc _
  have u4 : Upd [] w3 w4 := by rw [hw4]; exact (Upd.refl [] w3).alloc _
  have HU4 : Hid (Upd [] w w4) := Lib.hid ((HU2.out.next u3).next u4)
  have HB4 : Hid (Blk w4 S 31 (scells (newM m) newHd).toArray) := Lib.hid (by
    have : Blk w3 S 31 (scells (newM m) newHd).toArray := by rw [hw3, hS]; exact Blk.new _ _ _
    exact this.upd u4 (by simp))
  have HWS : Hid (w.heap.size ≤ S) := Lib.hid (by rw [hS]; exact HU2.out.size)
  have HM := Lib.hid hm
  have HQ4 := Lib.hid ((HQ2.out.upd u3 (by simp)).upd u4 (by simp))
  have HWG : Hid (w.heap.size ≤ g + 1) := Lib.hid (by rw [← HG.out]; omega)
  have y5 : w4.cell? ⟨g + 1, 5, none⟩ = some (.slice qh.A ol qh.c) := HQ4.out.cell 5
  clear hS hw3 hw4 u3 u4 HU2 hm HQ2
  cases b1 with
  | false =>
    go_wp2
    go_ret
    exact ⟨rfl, HU4.out.below (Nat.le_refl _) (by simp)⟩
  | true =>
  cases b2 with
  | false =>
    go_wp2
    go_ret
    exact ⟨rfl, HU4.out.below (Nat.le_refl _) (by simp)⟩
  | true =>
  by_cases hol6 : ol ≤ 6
  case neg =>
    have h6 : (6 : Int) < (ol : Int) := by omega
    go_wp2
    go_ret
    exact ⟨rfl, HU4.out.below (Nat.le_refl _) (by simp)⟩
  have h6 : ¬ (6 : Int) < (ol : Int) := by omega
  have hmc : m = c := by rw [HM.out]; unfold confM; rw [← HB2.out]; rfl
  subst hmc
  have HIV : Hid (Inv (newM m)) := Lib.hid (by
    have := HB2.out.symm
    unfold confOk at this
    simp only [decide_eq_true_eq] at this
    exact inv_new m ⟨by omega, by omega⟩ ⟨by omega, by omega⟩ ⟨by omega, by omega⟩ ⟨by omega, by omega⟩)
  have HQ6 : Hid (∀ x, x ∈ l → x.1.ss.length ≤ 6) := Lib.hid (fun x hx => by
    have := HB1.out.symm
    unfold fewQ at this
    simp only [Bool.and_eq_true, List.all_eq_true, decide_eq_true_eq] at this
    exact this.1 x.1 (List.mem_map.2 ⟨x, hx, rfl⟩))
  have HS4 : Hid (StAv w4 S (newM m) newHd) := Lib.hid ⟨⟨⟨CellsIn.nil _ _ _ _ _, fun _ => ⟨rfl, rfl⟩, Nat.le_refl _, by unfold newHd; dsimp only; omega⟩, ⟨CellsIn.nil _ _ _ _ _, fun _ => ⟨rfl, rfl⟩, Nat.le_refl _, by unfold newHd; dsimp only; omega⟩, ⟨CellsIn.nil _ _ _ _ _, fun _ => ⟨rfl, rfl⟩, Nat.le_refl _, by unfold newHd; dsimp only; omega⟩, rfl, fun x hx => (by cases hx)⟩, ⟨fun hn => absurd hn (Nat.lt_irrefl 0), fun hn => absurd hn (Nat.lt_irrefl 0), fun hn => absurd hn (Nat.lt_irrefl 0), fun x hx => (by cases hx)⟩⟩
  have HBW : Hid (Below w.heap.size w w4) := Lib.hid (HU4.out.below (Nat.le_refl _) (by simp))
  clear HM HB2 HB1 HU4
  go_upto_region 8 with fail
  clear y5 h6
  go_wp2
  go_loopg [12] L (fun gk x10 wr => ∃ i : Nat, i ≤ L ∧ L ≤ i + gk ∧ x10 = .int .i64 i ∧ ∃ s h, Inv s ∧ Blk wr S 31 (scells s h).toArray ∧ StAv wr S s h ∧ Below w.heap.size w wr ∧ Blk wr (g + 1) 45 #[.int .i64 q.kind, .int .i64 q.who, .int .i64 q.room, .int .i64 q.rights, .int .i64 q.track, .slice qh.A ol qh.c, .int .i64 q.layer, .int .i64 q.tid] ∧ Av (g + 1) s h)
  case atStart => exact ⟨0, Nat.zero_le _, by omega, rfl, _, _, HIV.out, HB4.out, HS4.out, HBW.out, HQ4.out, ⟨fun hn => absurd hn (Nat.lt_irrefl 0), fun hn => absurd hn (Nat.lt_irrefl 0), fun hn => absurd hn (Nat.lt_irrefl 0), fun x hx => (by cases hx)⟩⟩
  case round =>
    obtain ⟨i, hi, hgi, rfl, s, h, hiv, hbk, hst, hbw, hbq, hav⟩ := hrel
    by_cases hlt : i < L
    · obtain ⟨x, hxi⟩ : ∃ p, l[i]? = some p := ⟨_, List.getElem?_eq_getElem (by rw [← HL.out]; exact hlt)⟩
      obtain ⟨b, off, rfl, hb1, hb2, hcc⟩ := HC.out.2 (by rw [← HL.out]; omega)
      have hxm := List.mem_of_getElem? hxi
      have HBQ := Lib.hid hbq
      have HAVS := Lib.hid hav
      clear hbq hav
      have hbwr : b < wr.heap.size := Nat.lt_of_lt_of_le hb2 hbw.size
      have c0 := (hbw.cell (p := ⟨b, off + (i * 8 + 0), none⟩) hb2).trans (hcc (i * 8 + 0) _ (flat_get encQ_len l i 0 x hxi (by omega)))
      have c1 := (hbw.cell (p := ⟨b, off + (i * 8 + 1), none⟩) hb2).trans (hcc (i * 8 + 1) _ (flat_get encQ_len l i 1 x hxi (by omega)))
      have c2 := (hbw.cell (p := ⟨b, off + (i * 8 + 2), none⟩) hb2).trans (hcc (i * 8 + 2) _ (flat_get encQ_len l i 2 x hxi (by omega)))
      have c3 := (hbw.cell (p := ⟨b, off + (i * 8 + 3), none⟩) hb2).trans (hcc (i * 8 + 3) _ (flat_get encQ_len l i 3 x hxi (by omega)))
      have c4 := (hbw.cell (p := ⟨b, off + (i * 8 + 4), none⟩) hb2).trans (hcc (i * 8 + 4) _ (flat_get encQ_len l i 4 x hxi (by omega)))
      have c5 := (hbw.cell (p := ⟨b, off + (i * 8 + 5), none⟩) hb2).trans (hcc (i * 8 + 5) _ (flat_get encQ_len l i 5 x hxi (by omega)))
      have c6 := (hbw.cell (p := ⟨b, off + (i * 8 + 6), none⟩) hb2).trans (hcc (i * 8 + 6) _ (flat_get encQ_len l i 6 x hxi (by omega)))
      have c7 := (hbw.cell (p := ⟨b, off + (i * 8 + 7), none⟩) hb2).trans (hcc (i * 8 + 7) _ (flat_get encQ_len l i 7 x hxi (by omega)))
      have hrq := (HRX.out x hxm).below (hbw)
      have hdo := fun (W : World) (u : Upd [] wr W) => do_any (hst.upd u).st hiv ((hrq.below (u.below (Nat.le_refl _) (by simp))).q (HQ6.out x hxm))
      obtain ⟨⟨kd, who, room, rights, track, ss, layer, tid⟩, ⟨qA, qc⟩⟩ := x
      simp only [encQ, qcells, List.getElem?_cons_zero, List.getElem?_cons_succ, List.getElem_cons_zero, List.getElem_cons_succ, ← Nat.add_assoc, Nat.add_zero] at c0 c1 c2 c3 c4 c5 c6 c7
      unfold qcells at hdo
      dsimp only at hdo
      obtain ⟨ql, hql⟩ : ∃ n, n = ss.length := ⟨_, rfl⟩
      obtain ⟨n1, hn1⟩ : ∃ n, n = s.ps.length := ⟨_, rfl⟩
      obtain ⟨n2, hn2⟩ : ∃ n, n = s.ts.length := ⟨_, rfl⟩
      obtain ⟨n3, hn3⟩ : ∃ n, n = s.bs.length := ⟨_, rfl⟩
      obtain ⟨r, hr⟩ : ∃ r, r = doM s ⟨kd, who, room, rights, track, ss, layer, tid⟩ := ⟨_, rfl⟩
      obtain ⟨t, er⟩ := r
      rw [show scells s h = [.int .i64 s.c.people, .int .i64 s.c.tracks, .int .i64 s.c.subs, .int .i64 s.c.slots, .slice h.pA n1 h.pc, .slice h.tA n2 h.tc, .slice h.bA n3 h.bc] by unfold scells; rw [← hn1, ← hn2, ← hn3]] at hbk hdo
      rw [← hql] at hdo c5
      rw [← hr] at hdo
      dsimp only at hdo
      obtain ⟨m1, hm1⟩ : ∃ n, n = t.ps.length := ⟨_, rfl⟩
      obtain ⟨m2, hm2⟩ : ∃ n, n = t.ts.length := ⟨_, rfl⟩
      obtain ⟨m3, hm3⟩ : ∃ n, n = t.bs.length := ⟨_, rfl⟩
      have hsc : ∀ h', scells t h' = [.int .i64 t.c.people, .int .i64 t.c.tracks, .int .i64 t.c.subs, .int .i64 t.c.slots, .slice h'.pA m1 h'.pc, .slice h'.tA m2 h'.tc, .slice h'.bA m3 h'.bc] := fun h' => by unfold scells; rw [← hm1, ← hm2, ← hm3]
      have HDO : Hid (∀ W, Upd [] wr W → Calls Try.prog 12 #[.agg #[.int .i64 s.c.people, .int .i64 s.c.tracks, .int .i64 s.c.subs, .int .i64 s.c.slots, .slice h.pA n1 h.pc, .slice h.tA n2 h.tc, .slice h.bA n3 h.bc], .agg #[.int .i64 kd, .int .i64 who, .int .i64 room, .int .i64 rights, .int .i64 track, .slice qA ql qc, .int .i64 layer, .int .i64 tid]] W fun e w' =>
          ∃ h', e = .returned (.tuple #[.agg #[.int .i64 t.c.people, .int .i64 t.c.tracks, .int .i64 t.c.subs, .int .i64 t.c.slots, .slice h'.pA m1 h'.pc, .slice h'.tA m2 h'.tc, .slice h'.bA m3 h'.bc], .int .i64 er]) ∧ StIn w' t h' ∧ (∀ g, g < W.heap.size → Av g s h → Av g t h') ∧ Upd [] W w') := Lib.hid (fun W u => (hdo W u).mono fun e w' ⟨h', he, hk, ha, hu⟩ => ⟨h', by rw [he, hsc], hk, ha, hu⟩)
      have HBK := Lib.hid hbk
      have HST := Lib.hid hst
      have HBW := Lib.hid hbw
      have HINV := Lib.hid hiv
      have HI2 : Hid (Inv t) := Lib.hid (by have := inv_do hiv ⟨kd, who, room, rights, track, ss, layer, tid⟩; rw [← hr] at this; exact this)
      have HR := Lib.hid hr
      have HSC := Lib.hid hsc
      have HN := Lib.hid (And.intro hn1 (And.intro hn2 hn3))
      have HM := Lib.hid (And.intro hm1 (And.intro hm2 hm3))
      have HXI := Lib.hid hxi
      have hsl := hbk.lt
      have p0 : wr.cell? ⟨S, 0, none⟩ = some (.int .i64 s.c.people) := hbk.cell 0
      have p1 : wr.cell? ⟨S, 1, none⟩ = some (.int .i64 s.c.tracks) := hbk.cell 1
      have p2 : wr.cell? ⟨S, 2, none⟩ = some (.int .i64 s.c.subs) := hbk.cell 2
      have p3 : wr.cell? ⟨S, 3, none⟩ = some (.int .i64 s.c.slots) := hbk.cell 3
      have p4 : wr.cell? ⟨S, 4, none⟩ = some (.slice h.pA n1 h.pc) := hbk.cell 4
      have p5 : wr.cell? ⟨S, 5, none⟩ = some (.slice h.tA n2 h.tc) := hbk.cell 5
      have p6 : wr.cell? ⟨S, 6, none⟩ = some (.slice h.bA n3 h.bc) := hbk.cell 6
      have HC0 := Lib.hid (And.intro c0 (And.intro c1 (And.intro c2 (And.intro c3 (And.intro c4 (And.intro c5 (And.intro c6 c7)))))))
      have HP0 := Lib.hid (And.intro p0 (And.intro p1 (And.intro p2 (And.intro p3 (And.intro p4 (And.intro p5 p6))))))
      have hwi : IntKind.i64.wrap ((i : Int) + 1) = (i : Int) + 1 := IntWalk.i64_in _ (by omega)
      have hi0 : (i : Int) < (L : Int) := by omega
      clear hbk hst hbw hiv hr hsc hn1 hn2 hn3 hm1 hm2 hm3 hql hxi hdo hcc hxm hrq hb1 hb2
      go_upto_region 11 with fail
      go_cut [13, 14] (fun s1 s2 wc => ∃ T h', s1 = .pointer (some ⟨T, 0, none⟩) ∧ s2 = .int .i64 er ∧ Blk wc T 31 #[.int .i64 t.c.people, .int .i64 t.c.tracks, .int .i64 t.c.subs, .int .i64 t.c.slots, .slice h'.pA m1 h'.pc, .slice h'.tA m2 h'.tc, .slice h'.bA m3 h'.bc] ∧ StAv wc S t h' ∧ Upd [] wr wc ∧ wr.heap.size ≤ T ∧ (∀ g, g < wr.heap.size → Av g s h → Av g t h'))
      case first =>
        have HC1 : Hid (Upd [] wr (wr.drewN 1)) := Lib.hid ((Upd.refl _ _).drewN 1)
        clear p0 p1 p2 p3 p4 p5 p6 c0 c1 c2 c3 c4 c5 c6 c7
        have q0 : ∀ z : Cls (Upd [] wr), z.w.cell? ⟨S, 0, none⟩ = some (.int .i64 s.c.people) := fun z => (z.h.cell (p := ⟨S, 0, none⟩) hsl (by simp)).trans (HBK.out.cell 0)
        have q1 : ∀ z : Cls (Upd [] wr), z.w.cell? ⟨S, 1, none⟩ = some (.int .i64 s.c.tracks) := fun z => (z.h.cell (p := ⟨S, 1, none⟩) hsl (by simp)).trans (HBK.out.cell 1)
        have q2 : ∀ z : Cls (Upd [] wr), z.w.cell? ⟨S, 2, none⟩ = some (.int .i64 s.c.subs) := fun z => (z.h.cell (p := ⟨S, 2, none⟩) hsl (by simp)).trans (HBK.out.cell 2)
        have q3 : ∀ z : Cls (Upd [] wr), z.w.cell? ⟨S, 3, none⟩ = some (.int .i64 s.c.slots) := fun z => (z.h.cell (p := ⟨S, 3, none⟩) hsl (by simp)).trans (HBK.out.cell 3)
        have q4 : ∀ z : Cls (Upd [] wr), z.w.cell? ⟨S, 4, none⟩ = some (.slice h.pA n1 h.pc) := fun z => (z.h.cell (p := ⟨S, 4, none⟩) hsl (by simp)).trans (HBK.out.cell 4)
        have q5 : ∀ z : Cls (Upd [] wr), z.w.cell? ⟨S, 5, none⟩ = some (.slice h.tA n2 h.tc) := fun z => (z.h.cell (p := ⟨S, 5, none⟩) hsl (by simp)).trans (HBK.out.cell 5)
        have q6 : ∀ z : Cls (Upd [] wr), z.w.cell? ⟨S, 6, none⟩ = some (.slice h.bA n3 h.bc) := fun z => (z.h.cell (p := ⟨S, 6, none⟩) hsl (by simp)).trans (HBK.out.cell 6)
        have r0 : ∀ z : Cls (Upd [] wr), z.w.cell? ⟨b, off + i * 8, none⟩ = some (.int .i64 kd) := fun z => (z.h.cell (p := ⟨b, off + i * 8, none⟩) hbwr (by simp)).trans HC0.out.1
        have r1 : ∀ z : Cls (Upd [] wr), z.w.cell? ⟨b, off + i * 8 + 1, none⟩ = some (.int .i64 who) := fun z => (z.h.cell (p := ⟨b, off + i * 8 + 1, none⟩) hbwr (by simp)).trans HC0.out.2.1
        have r2 : ∀ z : Cls (Upd [] wr), z.w.cell? ⟨b, off + i * 8 + 2, none⟩ = some (.int .i64 room) := fun z => (z.h.cell (p := ⟨b, off + i * 8 + 2, none⟩) hbwr (by simp)).trans HC0.out.2.2.1
        have r3 : ∀ z : Cls (Upd [] wr), z.w.cell? ⟨b, off + i * 8 + 3, none⟩ = some (.int .i64 rights) := fun z => (z.h.cell (p := ⟨b, off + i * 8 + 3, none⟩) hbwr (by simp)).trans HC0.out.2.2.2.1
        have r4 : ∀ z : Cls (Upd [] wr), z.w.cell? ⟨b, off + i * 8 + 4, none⟩ = some (.int .i64 track) := fun z => (z.h.cell (p := ⟨b, off + i * 8 + 4, none⟩) hbwr (by simp)).trans HC0.out.2.2.2.2.1
        have r5 : ∀ z : Cls (Upd [] wr), z.w.cell? ⟨b, off + i * 8 + 5, none⟩ = some (.slice qA ql qc) := fun z => (z.h.cell (p := ⟨b, off + i * 8 + 5, none⟩) hbwr (by simp)).trans HC0.out.2.2.2.2.2.1
        have r6 : ∀ z : Cls (Upd [] wr), z.w.cell? ⟨b, off + i * 8 + 6, none⟩ = some (.int .i64 layer) := fun z => (z.h.cell (p := ⟨b, off + i * 8 + 6, none⟩) hbwr (by simp)).trans HC0.out.2.2.2.2.2.2.1
        have r7 : ∀ z : Cls (Upd [] wr), z.w.cell? ⟨b, off + i * 8 + 7, none⟩ = some (.int .i64 tid) := fun z => (z.h.cell (p := ⟨b, off + i * 8 + 7, none⟩) hbwr (by simp)).trans HC0.out.2.2.2.2.2.2.2
        refine wp_new_call (Upd [] wr) ((Upd.refl _ _).drewN 1) [0, 1, 2, 3, 4] 5 9 [6, 7, 8] [10, 11] (by kernel_rfl) (by kernel_rfl) (fun _ _ _ _ h => h) ?_
        intro hne
        simp only [pick3, List.map_cons, List.map_nil, List.getElem?_cons_zero, List.getElem?_cons_succ, Option.getD_some]
        repeat (go_big_quiet_step (fail))
        refine wpQuiet_nil ?_
        clear q0 q1 q2 q3 q4 q5 q6 r0 r1 r2 r3 r4 r5 r6 r7
        obtain ⟨wd, hwd⟩ : ∃ W, W = wr.drewN 1 := ⟨_, rfl⟩
        rw [← hwd] at HC1 ⊢
        clear hwd
        constructor
        · refine wpHeldK_step rfl fun K hK => ?_
          go_simp
          obtain ⟨T, hT⟩ : ∃ T, T = wd.heap.size := ⟨_, rfl⟩
          obtain ⟨V, hV⟩ : ∃ V, V = wd.alloc (.cells #[.int .i64 0, .int .i64 0, .int .i64 0, .int .i64 0, .slice none 0 0, .slice none 0 0, .slice none 0 0] 31) := ⟨_, rfl⟩
          rw [← hV, ← hT]
          have hVu : Upd [] wr V := HC1.out.next (by rw [hV]; exact (Upd.refl [] wd).alloc _)
          have hVB : Blk V T 31 #[.int .i64 0, .int .i64 0, .int .i64 0, .int .i64 0, .slice none 0 0, .slice none 0 0, .slice none 0 0] := by rw [hV, hT]; exact Blk.new _ _ _
          have HT : Hid (wr.heap.size ≤ T) := Lib.hid (by rw [hT]; exact HC1.out.size)
          have HVB := Lib.hid hVB
          have HVU := Lib.hid hVu
          clear hT hV hVB hVu
          refine hK.out _ _ ⟨⟨V, HVU.out⟩, rfl⟩ ?_
          clear hK K
          refine wpHeldK_step rfl fun K hK => ?_
          go_simp
          refine (HDO.out V HVU.out).mono ?_
          rintro e w5 ⟨h', rfl, hk5, ha5, hu5⟩
          have HAV : Hid (∀ g, g < wr.heap.size → Av g s h → Av g t h') := Lib.hid (fun g hg ha => ha5 g (Nat.lt_of_lt_of_le hg HVU.out.size) ha)
          have HA5 : Hid (Av T t h' ∧ Av S t h') := Lib.hid ⟨ha5 T HVB.out.lt (Av.fresh HST.out.st HT.out), ha5 S (Nat.lt_of_lt_of_le HBK.out.lt HVU.out.size) HST.out.av⟩
          clear ha5
          have HU5 := Lib.hid (HVU.out.next hu5)
          have HK5 := Lib.hid hk5
          have HB5 := Lib.hid (HVB.out.upd hu5 (by simp))
          clear hk5 hu5 HVB HVU
          refine hK.out _ _ ⟨⟨w5, HU5.out⟩, rfl⟩ ?_
          clear hK K
          refine wpQuiet_then ?_
          repeat (go_big_quiet_step (fail))
          refine wpQuiet_nil ?_
          have y0 := HB5.out.cell 0
          have y1 := HB5.out.cell 1
          have y2 := HB5.out.cell 2
          have y3 := HB5.out.cell 3
          have y4 := HB5.out.cell 4
          have y5 := HB5.out.cell 5
          have y6 := HB5.out.cell 6
          have z0 := HB5.out.frozen 0
          have z1 := HB5.out.frozen 1
          have z2 := HB5.out.frozen 2
          have z3 := HB5.out.frozen 3
          have z4 := HB5.out.frozen 4
          have z5 := HB5.out.frozen 5
          have z6 := HB5.out.frozen 6
          simp only [List.getElem?_toArray, List.getElem?_cons_zero, List.getElem?_cons_succ] at y0 y1 y2 y3 y4 y5 y6
          obtain ⟨kx, ux⟩ := blk7 HB5.out (.int .i64 t.c.people) (.int .i64 t.c.tracks) (.int .i64 t.c.subs) (.int .i64 t.c.slots) (.slice h'.pA m1 h'.pc) (.slice h'.tA m2 h'.tc) (.slice h'.bA m3 h'.bc)
          obtain ⟨w6, hw6⟩ : ∃ w6, w6 = (((((((w5.setCell ⟨T, 0, none⟩ (.int .i64 t.c.people)).setCell ⟨T, 1, none⟩ (.int .i64 t.c.tracks)).setCell ⟨T, 2, none⟩ (.int .i64 t.c.subs)).setCell ⟨T, 3, none⟩ (.int .i64 t.c.slots)).setCell ⟨T, 4, none⟩ (.slice h'.pA m1 h'.pc)).setCell ⟨T, 5, none⟩ (.slice h'.tA m2 h'.tc)).setCell ⟨T, 6, none⟩ (.slice h'.bA m3 h'.bc)) := ⟨_, rfl⟩
          rw [← hw6] at kx ux
          have HW6 := Lib.hid hw6
          have HKX := Lib.hid kx
          have HU6 : Hid (Upd [] wr w6) := Lib.hid (Upd.of_below ((HU5.out.below (Nat.le_refl _) (by simp)).trans (ux.below HU5.out.size (fun s hs => by rw [List.mem_singleton] at hs; subst hs; exact HT.out))))
          have HK6 : Hid (StAv w6 S t h') := Lib.hid ⟨HK5.out.past ux HA5.out.1, HA5.out.2⟩
          clear hw6 kx ux
          refine wpHeld_step rfl fun K hK => ?_
          go_simp
          rw [← HW6.out]
          refine hK.out _ _ (.inr ⟨⟨w6, HU6.out⟩, rfl⟩) ?_
          clear hK K y0 y1 y2 y3 y4 y5 y6 z0 z1 z2 z3 z4 z5 z6
          refine wpHeld_last ?_
          go_wp2
          go_meet
          case rel => exact ⟨_, _, rfl, rfl, HKX.out, HK6.out, HU6.out, HT.out, HAV.out⟩
        · refine wpHeldK_step rfl fun K hK => ?_
          go_simp
          refine (HDO.out wd HC1.out).mono ?_
          rintro e w4 ⟨h', rfl, hk4, ha4, hu4⟩
          have HAV : Hid (∀ g, g < wr.heap.size → Av g s h → Av g t h') := Lib.hid (fun g hg ha => ha4 g (Nat.lt_of_lt_of_le hg HC1.out.size) ha)
          have HA4 : Hid (Av S t h') := Lib.hid (ha4 S (Nat.lt_of_lt_of_le HBK.out.lt HC1.out.size) HST.out.av)
          clear ha4
          have HU4 := Lib.hid (HC1.out.next hu4)
          have HK4 := Lib.hid hk4
          clear hk4 hu4
          refine hK.out _ _ ⟨⟨w4, HU4.out⟩, rfl⟩ ?_
          clear hK K
          refine wpQuiet_then ?_
          repeat (go_big_quiet_step (fail))
          refine wpQuiet_nil ?_
          refine wpHeld_step rfl fun K hK => ?_
          go_simp
          obtain ⟨T, hT⟩ : ∃ T, T = w4.heap.size := ⟨_, rfl⟩
          obtain ⟨w5, hV⟩ : ∃ V, V = w4.alloc (.cells #[.int .i64 0, .int .i64 0, .int .i64 0, .int .i64 0, .slice none 0 0, .slice none 0 0, .slice none 0 0] 31) := ⟨_, rfl⟩
          rw [← hV, ← hT]
          have hVu : Upd [] w4 w5 := by rw [hV]; exact (Upd.refl [] w4).alloc _
          have hVB : Blk w5 T 31 #[.int .i64 0, .int .i64 0, .int .i64 0, .int .i64 0, .slice none 0 0, .slice none 0 0, .slice none 0 0] := by rw [hV, hT]; exact Blk.new _ _ _
          have HT : Hid (wr.heap.size ≤ T) := Lib.hid (by rw [hT]; exact HU4.out.size)
          have HB5 := Lib.hid hVB
          have HU5 := Lib.hid (HU4.out.next hVu)
          have HA5 : Hid (Av T t h' ∧ Av S t h') := Lib.hid ⟨Av.fresh HK4.out (by rw [hT]; exact Nat.le_refl _), HA4.out⟩
          have HK5 := Lib.hid (HK4.out.upd hVu)
          clear HA4 hT hV hVB hVu HU4 HK4
          refine hK.out _ _ (.inr ⟨⟨w5, HU5.out⟩, rfl⟩) ?_
          clear hK K
          have y0 := HB5.out.cell 0
          have y1 := HB5.out.cell 1
          have y2 := HB5.out.cell 2
          have y3 := HB5.out.cell 3
          have y4 := HB5.out.cell 4
          have y5 := HB5.out.cell 5
          have y6 := HB5.out.cell 6
          have z0 := HB5.out.frozen 0
          have z1 := HB5.out.frozen 1
          have z2 := HB5.out.frozen 2
          have z3 := HB5.out.frozen 3
          have z4 := HB5.out.frozen 4
          have z5 := HB5.out.frozen 5
          have z6 := HB5.out.frozen 6
          simp only [List.getElem?_toArray, List.getElem?_cons_zero, List.getElem?_cons_succ] at y0 y1 y2 y3 y4 y5 y6
          obtain ⟨kx, ux⟩ := blk7 HB5.out (.int .i64 t.c.people) (.int .i64 t.c.tracks) (.int .i64 t.c.subs) (.int .i64 t.c.slots) (.slice h'.pA m1 h'.pc) (.slice h'.tA m2 h'.tc) (.slice h'.bA m3 h'.bc)
          obtain ⟨w6, hw6⟩ : ∃ w6, w6 = (((((((w5.setCell ⟨T, 0, none⟩ (.int .i64 t.c.people)).setCell ⟨T, 1, none⟩ (.int .i64 t.c.tracks)).setCell ⟨T, 2, none⟩ (.int .i64 t.c.subs)).setCell ⟨T, 3, none⟩ (.int .i64 t.c.slots)).setCell ⟨T, 4, none⟩ (.slice h'.pA m1 h'.pc)).setCell ⟨T, 5, none⟩ (.slice h'.tA m2 h'.tc)).setCell ⟨T, 6, none⟩ (.slice h'.bA m3 h'.bc)) := ⟨_, rfl⟩
          rw [← hw6] at kx ux
          have HW6 := Lib.hid hw6
          have HKX := Lib.hid kx
          have HU6 : Hid (Upd [] wr w6) := Lib.hid (Upd.of_below ((HU5.out.below (Nat.le_refl _) (by simp)).trans (ux.below HU5.out.size (fun s hs => by rw [List.mem_singleton] at hs; subst hs; exact HT.out))))
          have HK6 : Hid (StAv w6 S t h') := Lib.hid ⟨HK5.out.past ux HA5.out.1, HA5.out.2⟩
          clear hw6 kx ux
          refine wpHeld_step rfl fun K hK => ?_
          go_simp
          rw [← HW6.out]
          refine hK.out _ _ (.inr ⟨⟨w6, HU6.out⟩, rfl⟩) ?_
          clear hK K y0 y1 y2 y3 y4 y5 y6 z0 z1 z2 z3 z4 z5 z6
          refine wpHeld_last ?_
          go_wp2
          go_meet
          case rel => exact ⟨_, _, rfl, rfl, HKX.out, HK6.out, HU6.out, HT.out, HAV.out⟩
      obtain ⟨T, h', rfl, rfl, hbT, hkT, huT, hT, hAV⟩ := hcut
      clear p0 p1 p2 p3 p4 p5 p6 c0 c1 c2 c3 c4 c5 c6 c7
      have hbS := HBK.out.upd huT (by simp)
      have p0 : wc.cell? ⟨S, 0, none⟩ = some (.int .i64 s.c.people) := hbS.cell 0
      have p1 : wc.cell? ⟨S, 1, none⟩ = some (.int .i64 s.c.tracks) := hbS.cell 1
      have p2 : wc.cell? ⟨S, 2, none⟩ = some (.int .i64 s.c.subs) := hbS.cell 2
      have p3 : wc.cell? ⟨S, 3, none⟩ = some (.int .i64 s.c.slots) := hbS.cell 3
      have p4 : wc.cell? ⟨S, 4, none⟩ = some (.slice h.pA n1 h.pc) := hbS.cell 4
      have p5 : wc.cell? ⟨S, 5, none⟩ = some (.slice h.tA n2 h.tc) := hbS.cell 5
      have p6 : wc.cell? ⟨S, 6, none⟩ = some (.slice h.bA n3 h.bc) := hbS.cell 6
      have q0 : wc.cell? ⟨T, 0, none⟩ = some (.int .i64 t.c.people) := hbT.cell 0
      have q1 : wc.cell? ⟨T, 1, none⟩ = some (.int .i64 t.c.tracks) := hbT.cell 1
      have q2 : wc.cell? ⟨T, 2, none⟩ = some (.int .i64 t.c.subs) := hbT.cell 2
      have q3 : wc.cell? ⟨T, 3, none⟩ = some (.int .i64 t.c.slots) := hbT.cell 3
      have q4 : wc.cell? ⟨T, 4, none⟩ = some (.slice h'.pA m1 h'.pc) := hbT.cell 4
      have q5 : wc.cell? ⟨T, 5, none⟩ = some (.slice h'.tA m2 h'.tc) := hbT.cell 5
      have q6 : wc.cell? ⟨T, 6, none⟩ = some (.slice h'.bA m3 h'.bc) := hbT.cell 6
      have f0 := hbS.frozen 0
      have f1 := hbS.frozen 1
      have f2 := hbS.frozen 2
      have f3 := hbS.frozen 3
      have f4 := hbS.frozen 4
      have f5 := hbS.frozen 5
      have f6 := hbS.frozen 6
      obtain ⟨kx, ux⟩ := blk7 hbS (.int .i64 t.c.people) (.int .i64 t.c.tracks) (.int .i64 t.c.subs) (.int .i64 t.c.slots) (.slice h'.pA m1 h'.pc) (.slice h'.tA m2 h'.tc) (.slice h'.bA m3 h'.bc)
      obtain ⟨wx, hwx⟩ : ∃ W, W = (((((((wc.setCell ⟨S, 0, none⟩ (.int .i64 t.c.people)).setCell ⟨S, 1, none⟩ (.int .i64 t.c.tracks)).setCell ⟨S, 2, none⟩ (.int .i64 t.c.subs)).setCell ⟨S, 3, none⟩ (.int .i64 t.c.slots)).setCell ⟨S, 4, none⟩ (.slice h'.pA m1 h'.pc)).setCell ⟨S, 5, none⟩ (.slice h'.tA m2 h'.tc)).setCell ⟨S, 6, none⟩ (.slice h'.bA m3 h'.bc)) := ⟨_, rfl⟩
      rw [← hwx] at kx ux
      have HFN : Hid (∀ wx, Upd [S] wc wx → Blk wx S 31 (scells t h').toArray → ∃ s h, Inv s ∧ Blk wx S 31 (scells s h).toArray ∧ StAv wx S s h ∧ Below w.heap.size w wx ∧ Blk wx (g + 1) 45 #[.int .i64 q.kind, .int .i64 q.who, .int .i64 q.room, .int .i64 q.rights, .int .i64 q.track, .slice qh.A ol qh.c, .int .i64 q.layer, .int .i64 q.tid] ∧ Av (g + 1) s h) := Lib.hid (fun wx ux hbx => ⟨t, h', HI2.out, hbx, hkT.past ux, (HBW.out.trans (huT.below HBW.out.size (by simp))).trans (ux.below (Nat.le_trans HBW.out.size huT.size) (fun s hs => by rw [List.mem_singleton] at hs; subst hs; exact HWS.out)), (HBQ.out.upd huT (by simp)).upd ux (fun hm => by rw [List.mem_singleton] at hm; exact (HBQ.out.ne HBK.out (by decide)) hm), hAV (g + 1) HBQ.out.lt HAVS.out⟩)
      have hho : True := trivial
      have HWX := Lib.hid hwx
      have HKX := Lib.hid kx
      have UX := Lib.hid ux
      have HGI := Lib.hid hgi
      clear hwx kx ux hgi hbT hkT huT hbS hT hho
      go_wp2
      rw [← HWX.out]
      have HFY := Lib.hid (HFN.out _ UX.out (by rw [HSC.out h']; exact HKX.out))
      go_roundg (gk - 1)
      case measure => have := HGI.out; omega
      case rel => exact ⟨i + 1, by omega, by have := HGI.out; omega, by go_num, HFY.out⟩
    · obtain rfl : L = i := by omega
      obtain ⟨n1, hn1⟩ : ∃ n, n = s.ps.length := ⟨_, rfl⟩
      obtain ⟨n2, hn2⟩ : ∃ n, n = s.ts.length := ⟨_, rfl⟩
      obtain ⟨n3, hn3⟩ : ∃ n, n = s.bs.length := ⟨_, rfl⟩
      have hsc : ∀ h', scells s h' = [.int .i64 s.c.people, .int .i64 s.c.tracks, .int .i64 s.c.subs, .int .i64 s.c.slots, .slice h'.pA n1 h'.pc, .slice h'.tA n2 h'.tc, .slice h'.bA n3 h'.bc] := fun h' => by unfold scells; rw [← hn1, ← hn2, ← hn3]
      have hlen : s.ps.length ≤ 1000 ∧ s.ts.length ≤ 1000 ∧ s.bs.length ≤ 1000 := by
        have := hiv.np; have := hiv.nt; have := hiv.nb; have := hiv.cp; have := hiv.ct; have := hiv.cl
        omega
      have hofc := of_av hst.st hlen.1 hlen.2.1 hlen.2.2
      rw [hsc h] at hofc hbk
      have HOFC : Hid (Calls Try.prog 16 #[.agg #[.int .i64 s.c.people, .int .i64 s.c.tracks, .int .i64 s.c.subs, .int .i64 s.c.slots, .slice h.pA n1 h.pc, .slice h.tA n2 h.tc, .slice h.bA n3 h.bc]] wr fun e w' => ∃ h', e = .returned (.agg #[.int .i64 s.c.people, .int .i64 s.c.tracks, .int .i64 s.c.subs, .int .i64 s.c.slots, .slice h'.pA n1 h'.pc, .slice h'.tA n2 h'.tc, .slice h'.bA n3 h'.bc]) ∧ StIn w' s h' ∧ Av (g + 1) s h' ∧ Upd [] wr w') := Lib.hid (hofc.mono fun e w' ⟨h', he, _, k, ka, u⟩ => ⟨h', by rw [he, hsc], k, ka (g + 1) hbq.lt hav, u⟩)
      have HSC := Lib.hid hsc
      have HN := Lib.hid (And.intro hn1 (And.intro hn2 hn3))
      have HLEN := Lib.hid hlen
      have HINV := Lib.hid hiv
      have HST := Lib.hid hst
      have HBK := Lib.hid hbk
      have HBW2 := Lib.hid hbw
      have HBQ := Lib.hid hbq
      have HAVS := Lib.hid hav
      have p0 : wr.cell? ⟨S, 0, none⟩ = some (.int .i64 s.c.people) := hbk.cell 0
      have p1 : wr.cell? ⟨S, 1, none⟩ = some (.int .i64 s.c.tracks) := hbk.cell 1
      have p2 : wr.cell? ⟨S, 2, none⟩ = some (.int .i64 s.c.subs) := hbk.cell 2
      have p3 : wr.cell? ⟨S, 3, none⟩ = some (.int .i64 s.c.slots) := hbk.cell 3
      have p4 : wr.cell? ⟨S, 4, none⟩ = some (.slice h.pA n1 h.pc) := hbk.cell 4
      have p5 : wr.cell? ⟨S, 5, none⟩ = some (.slice h.tA n2 h.tc) := hbk.cell 5
      have p6 : wr.cell? ⟨S, 6, none⟩ = some (.slice h.bA n3 h.bc) := hbk.cell 6
      clear hn1 hn2 hn3 hsc hlen hofc hiv hst hbk hbw hbq hav hgi hi hlt
      go_wp2_with fail
      refine HOFC.out.mono ?_
      rintro e w5 ⟨⟨p5A, p5c, tx5, t5A, t5c, b5A, b5c⟩, rfl, hst5, hav5, hu5⟩
      have HA5 := Lib.hid hav5
      clear hav5
      have HST5 := Lib.hid hst5
      have HU5 := Lib.hid hu5
      clear hst5 hu5 HOFC p0 p1 p2 p3 p4 p5 p6
      dsimp only
      go_upto_region 14 with fail
      obtain ⟨M, hM⟩ : ∃ M, M = w5.heap.size := ⟨_, rfl⟩
      obtain ⟨w6, hw6⟩ : ∃ W, W = w5.alloc (.cells #[.int .i64 s.c.people, .int .i64 s.c.tracks, .int .i64 s.c.subs, .int .i64 s.c.slots, .slice p5A n1 p5c, .slice t5A n2 t5c, .slice b5A n3 b5c] 37) := ⟨_, rfl⟩
      rw [← hM, ← hw6]
      have u6 : Upd [] w5 w6 := by rw [hw6]; exact (Upd.refl [] w5).alloc _
      have HBM6 : Hid (Blk w6 M 37 #[.int .i64 s.c.people, .int .i64 s.c.tracks, .int .i64 s.c.subs, .int .i64 s.c.slots, .slice p5A n1 p5c, .slice t5A n2 t5c, .slice b5A n3 b5c]) := Lib.hid (by rw [hw6, hM]; exact Blk.new _ _ _)
      have HU6 := Lib.hid u6
      have S6 : Hid (w6.heap.size = M + 1) := Lib.hid (by rw [hw6, World.size_alloc, hM])
      have HMM := Lib.hid hM
      clear hw6 u6 hM
      go_upto_region 15 with fail
      obtain ⟨w7, hw7⟩ : ∃ W, W = w6.alloc (.cells #[.int .i64 0, .int .i64 2, .int .i64 5, .int .i64 7, .int .i64 8] 3) := ⟨_, rfl⟩
      rw [← hw7, S6.out]
      have u7 : Upd [] w6 w7 := by rw [hw7]; exact (Upd.refl [] w6).alloc _
      have HBK7 : Hid (Blk w7 (M + 1) 3 #[.int .i64 0, .int .i64 2, .int .i64 5, .int .i64 7, .int .i64 8]) := Lib.hid (by rw [hw7, ← S6.out]; exact Blk.new _ _ _)
      have HU7 := Lib.hid u7
      have S7 : Hid (w7.heap.size = M + 1 + 1) := Lib.hid (by rw [hw7, World.size_alloc, S6.out])
      clear hw7 u7
      go_upto_region 16 with fail
      obtain ⟨w8, hw8⟩ : ∃ W, W = w7.alloc (.cells #[.int .i64 1, .int .i64 3, .int .i64 6, .int .i64 8, .int .i64 7] 3) := ⟨_, rfl⟩
      rw [← hw8, S7.out]
      have u8 : Upd [] w7 w8 := by rw [hw8]; exact (Upd.refl [] w7).alloc _
      have HBL8 : Hid (Blk w8 (M + 1 + 1) 3 #[.int .i64 1, .int .i64 3, .int .i64 6, .int .i64 8, .int .i64 7]) := Lib.hid (by rw [hw8, ← S7.out]; exact Blk.new _ _ _)
      have HBK8 := Lib.hid (HBK7.out.upd u8 (by simp))
      have HU58 := Lib.hid ((HU6.out.next HU7.out).next u8)
      have HBM8 := Lib.hid ((HBM6.out.upd HU7.out (by simp)).upd u8 (by simp))
      have HU8 := Lib.hid (HU5.out.next HU58.out)
      have HWM : Hid (g + 1 < M) := Lib.hid (by rw [HMM.out]; have := HBQ.out.lt; have := HU5.out.size; omega)
      have HB8 := Lib.hid (HBK.out.upd HU8.out (by simp))
      have HQ8 := Lib.hid (HBQ.out.upd HU8.out (by simp))
      have HS8 := Lib.hid (HST.out.upd HU8.out)
      have HT8 := Lib.hid (HST5.out.upd HU58.out)
      clear hw8 u8 S6 S7 HBM6 HBK7 HU7 HU6
      have HQI : Hid (∀ W, Upd [g + 1] w8 W → ∀ k, QIn W W.heap.size (kindQ q k) qh) := Lib.hid (fun W u k => by
        have h1 := HRQQ.out.below ((HBW2.out.trans (HU8.out.below HBW2.out.size (by simp))).trans (u.below (Nat.le_trans HBW2.out.size HU8.out.size) (fun s hs => by rw [List.mem_singleton] at hs; subst hs; exact HWG.out)))
        have h2 : RqIn W (kindQ q k) qh := ⟨h1.row, h1.pos⟩
        exact h2.q (by show q.ss.length ≤ 6; rw [← HOL.out]; exact hol6))
      go_wp2
      go_loopg [18] 5 (fun gk x wx => ∃ j : Nat, j ≤ 5 ∧ 5 ≤ j + gk ∧ x = .int .i64 j ∧ Upd [g + 1] w8 wx ∧ ∃ kd, Blk wx (g + 1) 45 #[.int .i64 kd, .int .i64 q.who, .int .i64 q.room, .int .i64 q.rights, .int .i64 q.track, .slice qh.A ol qh.c, .int .i64 q.layer, .int .i64 q.tid])
      case atStart => exact ⟨0, Nat.zero_le _, by omega, rfl, Upd.refl _ _, _, HQ8.out⟩
      case round =>
        obtain ⟨j, hj, hgj, rfl, hur, kd, hbq⟩ := hrel
        by_cases hlt : j < 5
        · obtain ⟨k, b, hkk, hbb, hpair⟩ : ∃ k b : Int, (#[.int .i64 0, .int .i64 2, .int .i64 5, .int .i64 7, .int .i64 8] : Array Value)[j]? = some (.int .i64 k) ∧ (#[.int .i64 1, .int .i64 3, .int .i64 6, .int .i64 8, .int .i64 7] : Array Value)[j]? = some (.int .i64 b) ∧ ((k = 0 ∧ b = 1) ∨ (k = 2 ∧ b = 3) ∨ (k = 5 ∧ b = 6) ∨ (k = 7 ∧ b = 8) ∨ (k = 8 ∧ b = 7)) := by
            have : j = 0 ∨ j = 1 ∨ j = 2 ∨ j = 3 ∨ j = 4 := by omega
            rcases this with rfl | rfl | rfl | rfl | rfl
            · exact ⟨0, 1, rfl, rfl, by simp⟩
            · exact ⟨2, 3, rfl, rfl, by simp⟩
            · exact ⟨5, 6, rfl, rfl, by simp⟩
            · exact ⟨7, 8, rfl, rfl, by simp⟩
            · exact ⟨8, 7, rfl, rfl, by simp⟩
          have HPAIR := Lib.hid hpair
          have hnm1 : ¬ M + 1 ∈ [g + 1] := by rw [List.mem_singleton]; have := HWM.out; omega
          have hnm2 : ¬ M + 1 + 1 ∈ [g + 1] := by rw [List.mem_singleton]; have := HWM.out; omega
          have hkc : wr.cell? ⟨M + 1, j, none⟩ = some (.int .i64 k) := ((HBK8.out.upd hur hnm1).cell j).trans hkk
          have HBB : Hid (∀ W, Upd [g + 1] w8 W → W.cell? ⟨M + 1 + 1, j, none⟩ = some (.int .i64 b)) := Lib.hid (fun W u => ((HBL8.out.upd u hnm2).cell j).trans hbb)
          have hnS : ¬ S ∈ [g + 1] := fun hm => by rw [List.mem_singleton] at hm; exact (HB8.out.ne HQ8.out (by decide)) hm
          have hnM : ¬ M ∈ [g + 1] := by rw [List.mem_singleton]; have := HWM.out; omega
          have HNS := Lib.hid (And.intro hnS hnM)
          have y0 : wr.cell? ⟨g + 1, 0, none⟩ = some (.int .i64 kd) := hbq.cell 0
          have f0 := hbq.frozen 0
          have hj0 : (0 : Int) ≤ (j : Int) := by omega
          have hj1 : (j : Int) < 5 := by omega
          have hwj : IntKind.i64.wrap ((j : Int) + 1) = (j : Int) + 1 := IntWalk.i64_in _ (by omega)
          have HGJ := Lib.hid hgj
          obtain ⟨w9, hw9⟩ : ∃ W, W = wr.setCell ⟨g + 1, 0, none⟩ (.int .i64 k) := ⟨_, rfl⟩
          have u9 : Upd [g + 1] w8 w9 := by rw [hw9]; exact hur.setCell (.inl (by simp)) _
          have hbq9 : Blk w9 (g + 1) 45 #[.int .i64 k, .int .i64 q.who, .int .i64 q.room, .int .i64 q.rights, .int .i64 q.track, .slice qh.A ol qh.c, .int .i64 q.layer, .int .i64 q.tid] := by rw [hw9]; exact hbq.store 0 _
          have HU9 := Lib.hid u9
          have HBQ9 := Lib.hid hbq9
          have HW9 := Lib.hid hw9
          clear hkk hbb hpair hnm1 hnm2 hnS hnM hgj hw9 u9 hbq9 hbq hur
          obtain ⟨r, hr⟩ : ∃ r, r = doM s (kindQ q k) := ⟨_, rfl⟩
          obtain ⟨t, er⟩ := r
          have HR := Lib.hid hr
          obtain ⟨m1, hm1⟩ : ∃ n, n = t.ps.length := ⟨_, rfl⟩
          obtain ⟨m2, hm2⟩ : ∃ n, n = t.ts.length := ⟨_, rfl⟩
          obtain ⟨m3, hm3⟩ : ∃ n, n = t.bs.length := ⟨_, rfl⟩
          have HSCT : Hid (∀ h', scells t h' = [.int .i64 t.c.people, .int .i64 t.c.tracks, .int .i64 t.c.subs, .int .i64 t.c.slots, .slice h'.pA m1 h'.pc, .slice h'.tA m2 h'.tc, .slice h'.bA m3 h'.bc]) := Lib.hid (fun h' => by unfold scells; rw [← hm1, ← hm2, ← hm3])
          have HI2 : Hid (Inv t) := Lib.hid (by have := inv_do HINV.out (kindQ q k); rw [← hr] at this; exact this)
          have HD1 : Hid (Calls Try.prog 12 #[.agg #[.int .i64 s.c.people, .int .i64 s.c.tracks, .int .i64 s.c.subs, .int .i64 s.c.slots, .slice h.pA n1 h.pc, .slice h.tA n2 h.tc, .slice h.bA n3 h.bc], .agg #[.int .i64 k, .int .i64 q.who, .int .i64 q.room, .int .i64 q.rights, .int .i64 q.track, .slice qh.A ol qh.c, .int .i64 q.layer, .int .i64 q.tid]] w9 fun e w' => ∃ h', e = .returned (.tuple #[.agg #[.int .i64 t.c.people, .int .i64 t.c.tracks, .int .i64 t.c.subs, .int .i64 t.c.slots, .slice h'.pA m1 h'.pc, .slice h'.tA m2 h'.tc, .slice h'.bA m3 h'.bc], .int .i64 er]) ∧ StIn w' t h' ∧ Av (g + 1) t h' ∧ Upd [] w9 w') := Lib.hid (by
            have := do_any (HS8.out.st.past HU9.out HAVS.out) HINV.out (HQI.out w9 HU9.out k)
            rw [HSC.out h, ← hr] at this
            unfold qcells kindQ at this
            dsimp only at this
            rw [← HOL.out] at this
            exact this.mono fun e w' ⟨h', he, k1, ka, u⟩ => ⟨h', by rw [he, HSCT.out], k1, ka (g + 1) HBQ9.out.lt HAVS.out, u⟩)
          clear hr hm1 hm2 hm3
          have hbS := HB8.out.upd HU9.out HNS.out.1
          go_upto_region 20 with fail
          rw [← HW9.out]
          clear HW9 y0 f0 hkc
          have p0 : w9.cell? ⟨S, 0, none⟩ = some (.int .i64 s.c.people) := hbS.cell 0
          have p1 : w9.cell? ⟨S, 1, none⟩ = some (.int .i64 s.c.tracks) := hbS.cell 1
          have p2 : w9.cell? ⟨S, 2, none⟩ = some (.int .i64 s.c.subs) := hbS.cell 2
          have p3 : w9.cell? ⟨S, 3, none⟩ = some (.int .i64 s.c.slots) := hbS.cell 3
          have p4 : w9.cell? ⟨S, 4, none⟩ = some (.slice h.pA n1 h.pc) := hbS.cell 4
          have p5 : w9.cell? ⟨S, 5, none⟩ = some (.slice h.tA n2 h.tc) := hbS.cell 5
          have p6 : w9.cell? ⟨S, 6, none⟩ = some (.slice h.bA n3 h.bc) := hbS.cell 6
          have z0 : w9.cell? ⟨g + 1, 0, none⟩ = some (.int .i64 k) := HBQ9.out.cell 0
          have z1 : w9.cell? ⟨g + 1, 1, none⟩ = some (.int .i64 q.who) := HBQ9.out.cell 1
          have z2 : w9.cell? ⟨g + 1, 2, none⟩ = some (.int .i64 q.room) := HBQ9.out.cell 2
          have z3 : w9.cell? ⟨g + 1, 3, none⟩ = some (.int .i64 q.rights) := HBQ9.out.cell 3
          have z4 : w9.cell? ⟨g + 1, 4, none⟩ = some (.int .i64 q.track) := HBQ9.out.cell 4
          have z5 : w9.cell? ⟨g + 1, 5, none⟩ = some (.slice qh.A ol qh.c) := HBQ9.out.cell 5
          have z6 : w9.cell? ⟨g + 1, 6, none⟩ = some (.int .i64 q.layer) := HBQ9.out.cell 6
          have z7 : w9.cell? ⟨g + 1, 7, none⟩ = some (.int .i64 q.tid) := HBQ9.out.cell 7
          clear hbS
          go_wp2_with fail
          refine HD1.out.mono ?_
          rintro e v1 ⟨h1, rfl, hk1, ha1, hu1⟩
          have HK1 := Lib.hid hk1
          have HA1 := Lib.hid ha1
          have HU1 := Lib.hid hu1
          clear hk1 ha1 hu1 HD1 p0 p1 p2 p3 p4 p5 p6 z0 z1 z2 z3 z4 z5 z6 z7
          go_upto_region 21 with fail
          obtain ⟨T, hT⟩ : ∃ T, T = v1.heap.size := ⟨_, rfl⟩
          obtain ⟨v2, hv2⟩ : ∃ W, W = v1.alloc (.cells #[.int .i64 t.c.people, .int .i64 t.c.tracks, .int .i64 t.c.subs, .int .i64 t.c.slots, .slice h1.pA m1 h1.pc, .slice h1.tA m2 h1.tc, .slice h1.bA m3 h1.bc] 31) := ⟨_, rfl⟩
          rw [← hT, ← hv2]
          have u2 : Upd [] v1 v2 := by rw [hv2]; exact (Upd.refl [] v1).alloc _
          have HT2 : Hid (Blk v2 T 31 #[.int .i64 t.c.people, .int .i64 t.c.tracks, .int .i64 t.c.subs, .int .i64 t.c.slots, .slice h1.pA m1 h1.pc, .slice h1.tA m2 h1.tc, .slice h1.bA m3 h1.bc]) := Lib.hid (by rw [hv2, hT]; exact Blk.new _ _ _)
          have HV2 : Hid (Upd [g + 1] w8 v2) := Lib.hid ((HU9.out.next (HU1.out.more (by simp))).next (u2.more (by simp)))
          have HQ2 := Lib.hid ((HBQ9.out.upd HU1.out (by simp)).upd u2 (by simp))
          have HK2 := Lib.hid (HK1.out.upd u2)
          clear hT hv2 u2 HK1 HU1 HBQ9
          by_cases h0 : er = 0
          case neg =>
            have he0 : (er != 0) = true := by simpa using h0
            clear h0
            go_wp2
            go_roundg (gk - 1)
            case measure => have := HGJ.out; omega
            case rel => exact ⟨j + 1, by omega, by have := HGJ.out; omega, by go_num, HV2.out, k, HQ2.out⟩
          case pos =>
            have he0 : (er != 0) = false := by simp [h0]
            have hback := do_back HINV.out q HPAIR.out (by rw [← HR.out]; exact h0)
            rw [← HR.out] at hback
            dsimp only at hback
            obtain ⟨r2, hr2⟩ : ∃ r, r = doM t (kindQ q k) := ⟨_, rfl⟩
            rw [← hr2] at hback
            obtain ⟨t2, er2⟩ := r2
            have HER2 : Hid (er2 ≠ 0) := Lib.hid hback.1
            have HB3 := Lib.hid hback.2
            have HD2 : Hid (Calls Try.prog 12 #[.agg #[.int .i64 t.c.people, .int .i64 t.c.tracks, .int .i64 t.c.subs, .int .i64 t.c.slots, .slice h1.pA m1 h1.pc, .slice h1.tA m2 h1.tc, .slice h1.bA m3 h1.bc], .agg #[.int .i64 k, .int .i64 q.who, .int .i64 q.room, .int .i64 q.rights, .int .i64 q.track, .slice qh.A ol qh.c, .int .i64 q.layer, .int .i64 q.tid]] v2 fun e w' => ∃ h', e = .returned (.tuple #[.agg (scells t2 h').toArray, .int .i64 er2]) ∧ Upd [] v2 w') := Lib.hid (by
              have := do_any HK2.out HI2.out (HQI.out v2 HV2.out k)
              rw [HSCT.out h1, ← hr2] at this
              unfold qcells kindQ at this
              dsimp only at this
              rw [← HOL.out] at this
              exact this.mono fun e w' ⟨h', he, _, _, u⟩ => ⟨h', he, u⟩)
            clear hback hr2 h0
            have q0 : v2.cell? ⟨T, 0, none⟩ = some (.int .i64 t.c.people) := HT2.out.cell 0
            have q1 : v2.cell? ⟨T, 1, none⟩ = some (.int .i64 t.c.tracks) := HT2.out.cell 1
            have q2 : v2.cell? ⟨T, 2, none⟩ = some (.int .i64 t.c.subs) := HT2.out.cell 2
            have q3 : v2.cell? ⟨T, 3, none⟩ = some (.int .i64 t.c.slots) := HT2.out.cell 3
            have q4 : v2.cell? ⟨T, 4, none⟩ = some (.slice h1.pA m1 h1.pc) := HT2.out.cell 4
            have q5 : v2.cell? ⟨T, 5, none⟩ = some (.slice h1.tA m2 h1.tc) := HT2.out.cell 5
            have q6 : v2.cell? ⟨T, 6, none⟩ = some (.slice h1.bA m3 h1.bc) := HT2.out.cell 6
            have z0 : v2.cell? ⟨g + 1, 0, none⟩ = some (.int .i64 k) := HQ2.out.cell 0
            have z1 : v2.cell? ⟨g + 1, 1, none⟩ = some (.int .i64 q.who) := HQ2.out.cell 1
            have z2 : v2.cell? ⟨g + 1, 2, none⟩ = some (.int .i64 q.room) := HQ2.out.cell 2
            have z3 : v2.cell? ⟨g + 1, 3, none⟩ = some (.int .i64 q.rights) := HQ2.out.cell 3
            have z4 : v2.cell? ⟨g + 1, 4, none⟩ = some (.int .i64 q.track) := HQ2.out.cell 4
            have z5 : v2.cell? ⟨g + 1, 5, none⟩ = some (.slice qh.A ol qh.c) := HQ2.out.cell 5
            have z6 : v2.cell? ⟨g + 1, 6, none⟩ = some (.int .i64 q.layer) := HQ2.out.cell 6
            have z7 : v2.cell? ⟨g + 1, 7, none⟩ = some (.int .i64 q.tid) := HQ2.out.cell 7
            go_wp2_with fail
            refine HD2.out.mono ?_
            rintro e v3 ⟨h2, rfl, hu3⟩
            have HU3 := Lib.hid hu3
            clear hu3 HD2 q0 q1 q2 q3 q4 q5 q6 z0 z1 z2 z3 z4 z5 z6 z7
            unfold scells
            go_upto_region 23 with fail
            obtain ⟨v4, hv4⟩ : ∃ W, W = v3.alloc (.cells #[.int .i64 t2.c.people, .int .i64 t2.c.tracks, .int .i64 t2.c.subs, .int .i64 t2.c.slots, .slice h2.pA t2.ps.length h2.pc, .slice h2.tA t2.ts.length h2.tc, .slice h2.bA t2.bs.length h2.bc] 31) := ⟨_, rfl⟩
            rw [← hv4]
            have u4 : Upd [] v3 v4 := by rw [hv4]; exact (Upd.refl [] v3).alloc _
            have u24 := HU3.out.next u4
            have HV4 : Hid (Upd [g + 1] w8 v4) := Lib.hid (HV2.out.next (u24.more (by simp)))
            have HT4 := Lib.hid (HT2.out.upd u24 (by simp))
            have hq4 := HQ2.out.upd u24 (by simp)
            have HK4 := Lib.hid (HK2.out.upd u24)
            have y0 : v4.cell? ⟨g + 1, 0, none⟩ = some (.int .i64 k) := hq4.cell 0
            have f0 := hq4.frozen 0
            have hbc := HBB.out v4 HV4.out
            obtain ⟨v5, hv5⟩ : ∃ W, W = v4.setCell ⟨g + 1, 0, none⟩ (.int .i64 b) := ⟨_, rfl⟩
            have us5 : Upd [g + 1] v4 v5 := by rw [hv5]; exact (Upd.refl _ _).setCell (.inl (by simp)) _
            have HQ5 : Hid (Blk v5 (g + 1) 45 #[.int .i64 b, .int .i64 q.who, .int .i64 q.room, .int .i64 q.rights, .int .i64 q.track, .slice qh.A ol qh.c, .int .i64 q.layer, .int .i64 q.tid]) := Lib.hid (by rw [hv5]; exact hq4.store 0 _)
            have HV5 : Hid (Upd [g + 1] w8 v5) := Lib.hid (HV4.out.next us5)
            have HT5 := Lib.hid (HT4.out.upd us5 (fun hm => by rw [List.mem_singleton] at hm; exact (HT4.out.ne hq4 (by decide)) hm))
            have HK5 := Lib.hid (HK4.out.past us5 HA1.out)
            have HW5 := Lib.hid hv5
            clear hv4 u4 u24 hq4 us5 hv5
            go_upto_region 24 with fail
            rw [← HW5.out]
            clear HW5 y0 f0 hbc HT4 HK4 HT2 HK2 HU3
            have HD3 : Hid (Calls Try.prog 12 #[.agg #[.int .i64 t.c.people, .int .i64 t.c.tracks, .int .i64 t.c.subs, .int .i64 t.c.slots, .slice h1.pA m1 h1.pc, .slice h1.tA m2 h1.tc, .slice h1.bA m3 h1.bc], .agg #[.int .i64 b, .int .i64 q.who, .int .i64 q.room, .int .i64 q.rights, .int .i64 q.track, .slice qh.A ol qh.c, .int .i64 q.layer, .int .i64 q.tid]] v5 fun e w' => ∃ h', e = .returned (.tuple #[.agg #[.int .i64 s.c.people, .int .i64 s.c.tracks, .int .i64 s.c.subs, .int .i64 s.c.slots, .slice h'.pA n1 h'.pc, .slice h'.tA n2 h'.tc, .slice h'.bA n3 h'.bc], .int .i64 0]) ∧ StIn w' s h' ∧ Upd [] v5 w') := Lib.hid (by
              have := do_any HK5.out HI2.out (HQI.out v5 HV5.out b)
              rw [HSCT.out h1, HB3.out] at this
              unfold qcells kindQ at this
              dsimp only at this
              rw [← HOL.out] at this
              exact this.mono fun e w' ⟨h', he, k1, _, u⟩ => ⟨h', by rw [he, HSC.out], k1, u⟩)
            have q0 : v5.cell? ⟨T, 0, none⟩ = some (.int .i64 t.c.people) := HT5.out.cell 0
            have q1 : v5.cell? ⟨T, 1, none⟩ = some (.int .i64 t.c.tracks) := HT5.out.cell 1
            have q2 : v5.cell? ⟨T, 2, none⟩ = some (.int .i64 t.c.subs) := HT5.out.cell 2
            have q3 : v5.cell? ⟨T, 3, none⟩ = some (.int .i64 t.c.slots) := HT5.out.cell 3
            have q4 : v5.cell? ⟨T, 4, none⟩ = some (.slice h1.pA m1 h1.pc) := HT5.out.cell 4
            have q5 : v5.cell? ⟨T, 5, none⟩ = some (.slice h1.tA m2 h1.tc) := HT5.out.cell 5
            have q6 : v5.cell? ⟨T, 6, none⟩ = some (.slice h1.bA m3 h1.bc) := HT5.out.cell 6
            have z0 : v5.cell? ⟨g + 1, 0, none⟩ = some (.int .i64 b) := HQ5.out.cell 0
            have z1 : v5.cell? ⟨g + 1, 1, none⟩ = some (.int .i64 q.who) := HQ5.out.cell 1
            have z2 : v5.cell? ⟨g + 1, 2, none⟩ = some (.int .i64 q.room) := HQ5.out.cell 2
            have z3 : v5.cell? ⟨g + 1, 3, none⟩ = some (.int .i64 q.rights) := HQ5.out.cell 3
            have z4 : v5.cell? ⟨g + 1, 4, none⟩ = some (.int .i64 q.track) := HQ5.out.cell 4
            have z5 : v5.cell? ⟨g + 1, 5, none⟩ = some (.slice qh.A ol qh.c) := HQ5.out.cell 5
            have z6 : v5.cell? ⟨g + 1, 6, none⟩ = some (.int .i64 q.layer) := HQ5.out.cell 6
            have z7 : v5.cell? ⟨g + 1, 7, none⟩ = some (.int .i64 q.tid) := HQ5.out.cell 7
            go_wp2_with fail
            refine HD3.out.mono ?_
            rintro e v6 ⟨h3, rfl, hk6, hu6⟩
            have HK6 := Lib.hid hk6
            have HU6 := Lib.hid hu6
            clear hk6 hu6 HD3 q0 q1 q2 q3 q4 q5 q6 z0 z1 z2 z3 z4 z5 z6 z7
            go_upto_region 25 with fail
            obtain ⟨U, hU⟩ : ∃ U, U = v6.heap.size := ⟨_, rfl⟩
            obtain ⟨v7, hv7⟩ : ∃ W, W = v6.alloc (.cells #[.int .i64 s.c.people, .int .i64 s.c.tracks, .int .i64 s.c.subs, .int .i64 s.c.slots, .slice h3.pA n1 h3.pc, .slice h3.tA n2 h3.tc, .slice h3.bA n3 h3.bc] 31) := ⟨_, rfl⟩
            rw [← hU, ← hv7]
            have u7 : Upd [] v6 v7 := by rw [hv7]; exact (Upd.refl [] v6).alloc _
            have hbU : Blk v7 U 31 #[.int .i64 s.c.people, .int .i64 s.c.tracks, .int .i64 s.c.subs, .int .i64 s.c.slots, .slice h3.pA n1 h3.pc, .slice h3.tA n2 h3.tc, .slice h3.bA n3 h3.bc] := by rw [hv7, hU]; exact Blk.new _ _ _
            have HV7 : Hid (Upd [g + 1] w8 v7) := Lib.hid (HV5.out.next ((HU6.out.next u7).more (by simp)))
            have HQ7 := Lib.hid ((HQ5.out.upd HU6.out (by simp)).upd u7 (by simp))
            have HK7 := Lib.hid (HK6.out.upd u7)
            have HM7 := Lib.hid (HBM8.out.upd HV7.out HNS.out.2)
            have HT7 := Lib.hid (HT8.out.past HV7.out HA5.out)
            have hul := hbU.lt
            have hml := HM7.out.lt
            have he2 : (er2 == 0) = false := by simpa using HER2.out
            have p0 : v7.cell? ⟨U, 0, none⟩ = some (.int .i64 s.c.people) := hbU.cell 0
            have p1 : v7.cell? ⟨U, 1, none⟩ = some (.int .i64 s.c.tracks) := hbU.cell 1
            have p2 : v7.cell? ⟨U, 2, none⟩ = some (.int .i64 s.c.subs) := hbU.cell 2
            have p3 : v7.cell? ⟨U, 3, none⟩ = some (.int .i64 s.c.slots) := hbU.cell 3
            have p4 : v7.cell? ⟨U, 4, none⟩ = some (.slice h3.pA n1 h3.pc) := hbU.cell 4
            have p5 : v7.cell? ⟨U, 5, none⟩ = some (.slice h3.tA n2 h3.tc) := hbU.cell 5
            have p6 : v7.cell? ⟨U, 6, none⟩ = some (.slice h3.bA n3 h3.bc) := hbU.cell 6
            have q0 : v7.cell? ⟨M, 0, none⟩ = some (.int .i64 s.c.people) := HM7.out.cell 0
            have q1 : v7.cell? ⟨M, 1, none⟩ = some (.int .i64 s.c.tracks) := HM7.out.cell 1
            have q2 : v7.cell? ⟨M, 2, none⟩ = some (.int .i64 s.c.subs) := HM7.out.cell 2
            have q3 : v7.cell? ⟨M, 3, none⟩ = some (.int .i64 s.c.slots) := HM7.out.cell 3
            have q4 : v7.cell? ⟨M, 4, none⟩ = some (.slice p5A n1 p5c) := HM7.out.cell 4
            have q5 : v7.cell? ⟨M, 5, none⟩ = some (.slice t5A n2 t5c) := HM7.out.cell 5
            have q6 : v7.cell? ⟨M, 6, none⟩ = some (.slice b5A n3 b5c) := HM7.out.cell 6
            have HKEEP : Hid (∀ w', Upd [] v7 w' → (w'.cell? ⟨U, 0, none⟩ = some (.int .i64 s.c.people) ∧ w'.cell? ⟨U, 1, none⟩ = some (.int .i64 s.c.tracks) ∧ w'.cell? ⟨U, 2, none⟩ = some (.int .i64 s.c.subs) ∧ w'.cell? ⟨U, 3, none⟩ = some (.int .i64 s.c.slots) ∧ w'.cell? ⟨U, 4, none⟩ = some (.slice h3.pA n1 h3.pc) ∧ w'.cell? ⟨U, 5, none⟩ = some (.slice h3.tA n2 h3.tc) ∧ w'.cell? ⟨U, 6, none⟩ = some (.slice h3.bA n3 h3.bc) ∧ w'.cell? ⟨M, 0, none⟩ = some (.int .i64 s.c.people) ∧ w'.cell? ⟨M, 1, none⟩ = some (.int .i64 s.c.tracks) ∧ w'.cell? ⟨M, 2, none⟩ = some (.int .i64 s.c.subs) ∧ w'.cell? ⟨M, 3, none⟩ = some (.int .i64 s.c.slots) ∧ w'.cell? ⟨M, 4, none⟩ = some (.slice p5A n1 p5c) ∧ w'.cell? ⟨M, 5, none⟩ = some (.slice t5A n2 t5c) ∧ w'.cell? ⟨M, 6, none⟩ = some (.slice b5A n3 b5c))) := Lib.hid (fun w' u => ⟨(u.cell (p := ⟨U, 0, none⟩) hul (by simp)).trans p0, (u.cell (p := ⟨U, 1, none⟩) hul (by simp)).trans p1, (u.cell (p := ⟨U, 2, none⟩) hul (by simp)).trans p2, (u.cell (p := ⟨U, 3, none⟩) hul (by simp)).trans p3, (u.cell (p := ⟨U, 4, none⟩) hul (by simp)).trans p4, (u.cell (p := ⟨U, 5, none⟩) hul (by simp)).trans p5, (u.cell (p := ⟨U, 6, none⟩) hul (by simp)).trans p6, (u.cell (p := ⟨M, 0, none⟩) hml (by simp)).trans q0, (u.cell (p := ⟨M, 1, none⟩) hml (by simp)).trans q1, (u.cell (p := ⟨M, 2, none⟩) hml (by simp)).trans q2, (u.cell (p := ⟨M, 3, none⟩) hml (by simp)).trans q3, (u.cell (p := ⟨M, 4, none⟩) hml (by simp)).trans q4, (u.cell (p := ⟨M, 5, none⟩) hml (by simp)).trans q5, (u.cell (p := ⟨M, 6, none⟩) hml (by simp)).trans q6⟩)
            have HOF : Hid (∀ W, Upd [] v7 W → Calls Try.prog 16 #[.agg #[.int .i64 s.c.people, .int .i64 s.c.tracks, .int .i64 s.c.subs, .int .i64 s.c.slots, .slice h3.pA n1 h3.pc, .slice h3.tA n2 h3.tc, .slice h3.bA n3 h3.bc]] W fun e w' => ∃ h2, e = .returned (.agg #[.int .i64 s.c.people, .int .i64 s.c.tracks, .int .i64 s.c.subs, .int .i64 s.c.slots, .slice h2.pA n1 h2.pc, .slice h2.tA n2 h2.tc, .slice h2.bA n3 h2.bc]) ∧ StIn w' s h2 ∧ Upd [] v7 w') := Lib.hid (fun W u => by
              have := of_any (HK7.out.upd u) HLEN.out.1 HLEN.out.2.1 HLEN.out.2.2
              rw [HSC.out h3] at this
              exact this.mono fun e w' ⟨h2, he, _, k, u2⟩ => ⟨h2, by rw [he, HSC.out], k, u.next u2⟩)
            have HSM : Hid (∀ W h2, StIn W s h2 → Upd [] v7 W → Calls Try.prog 15 #[.agg #[.int .i64 s.c.people, .int .i64 s.c.tracks, .int .i64 s.c.subs, .int .i64 s.c.slots, .slice h2.pA n1 h2.pc, .slice h2.tA n2 h2.tc, .slice h2.bA n3 h2.bc], .agg #[.int .i64 s.c.people, .int .i64 s.c.tracks, .int .i64 s.c.subs, .int .i64 s.c.slots, .slice p5A n1 p5c, .slice t5A n2 t5c, .slice b5A n3 b5c]] W fun e w' => e = .returned (.bool true) ∧ Upd [] v7 w') := Lib.hid (fun W h2 k2' u => by
              have := same_any k2' (HT7.out.upd u) HLEN.out.1 HLEN.out.2.1 HLEN.out.2.2
              rw [HSC.out h2, HSC.out] at this
              exact this.mono fun e w' ⟨he, u2⟩ => ⟨he, u.next u2⟩)
            have HDR : Hid (Upd [] v7 v7.drew) := Lib.hid ((Upd.refl [] v7).drewN 1)
            clear hU hv7 u7 hbU
            go_region_held3 (fun w' => w'.cell? ⟨U, 0, none⟩ = some (.int .i64 s.c.people) ∧ w'.cell? ⟨U, 1, none⟩ = some (.int .i64 s.c.tracks) ∧ w'.cell? ⟨U, 2, none⟩ = some (.int .i64 s.c.subs) ∧ w'.cell? ⟨U, 3, none⟩ = some (.int .i64 s.c.slots) ∧ w'.cell? ⟨U, 4, none⟩ = some (.slice h3.pA n1 h3.pc) ∧ w'.cell? ⟨U, 5, none⟩ = some (.slice h3.tA n2 h3.tc) ∧ w'.cell? ⟨U, 6, none⟩ = some (.slice h3.bA n3 h3.bc) ∧ w'.cell? ⟨M, 0, none⟩ = some (.int .i64 s.c.people) ∧ w'.cell? ⟨M, 1, none⟩ = some (.int .i64 s.c.tracks) ∧ w'.cell? ⟨M, 2, none⟩ = some (.int .i64 s.c.subs) ∧ w'.cell? ⟨M, 3, none⟩ = some (.int .i64 s.c.slots) ∧ w'.cell? ⟨M, 4, none⟩ = some (.slice p5A n1 p5c) ∧ w'.cell? ⟨M, 5, none⟩ = some (.slice t5A n2 t5c) ∧ w'.cell? ⟨M, 6, none⟩ = some (.slice b5A n3 b5c))
              (first | go_keep | exact HKEEP.out _ (by assumption))
              (first | (go_at_call 16; with_reducible refine (HOF.out _ (by first | with_reducible assumption | with_reducible exact HDR.out)).mono ?_; rintro e wf ⟨h9, rfl, hst2, huf⟩) | (go_at_call 15; with_reducible refine (HSM.out _ _ (by assumption) (by assumption)).mono ?_; rintro e wg ⟨rfl, hug⟩))
            all_goals
              have HUG := Lib.hid hug
              clear hug
              go_wp2
              go_roundg (gk - 1)
              case measure => have := HGJ.out; omega
              case rel => exact ⟨j + 1, by omega, by have := HGJ.out; omega, by go_num, HV7.out.next (HUG.out.more (by simp)), b, HQ7.out.upd HUG.out (by simp)⟩
        · obtain rfl : j = 5 := by omega
          have HUR := Lib.hid hur
          clear hgj hj hlt hur hbq
          go_wp2
          go_ret
          exact ⟨rfl, (HBW2.out.trans (HU8.out.below HBW2.out.size (by simp))).trans (HUR.out.below (Nat.le_trans HBW2.out.size HU8.out.size) (fun s hs => by rw [List.mem_singleton] at hs; subst hs; exact HWG.out))⟩
end Go.Proofs.Ytjcbaelefacolaa
