/- Parts of the proof, one behind the other: DDo, DHoldsRows, DFew, DAwake, Open, Open2, DOpen, Tail5. No condition of their own. -/
import Derived.Test.YtjcbaelefacolaaB6
import Derived.Test.YtjcbaelefacolaaB4
import Derived.Laws.EntriesVeiled
import Derived.Test.YtjcbaelefacolaaB2
import Derived.Test.YtjcbaelefacolaaB3
import Derived.Test.YtjcbaelefacolaaB1
import Derived.Deep.Slices
import Derived.Deep.Fields
import Derived.ChangeSame
import Derived.ProofKit
import Derived.OpenShut
/- The layer delta: Do. Conditions: what always holds of a state; the state in a box. -/
namespace Go.Proofs.Ytjcbaelefacolaa
open Go Go.RowKit
set_option maxHeartbeats 400000

/-- no row of a state lies in block g -/
structure Av (g : Nat) (s : St) (h : SHd) : Prop where
  p : 0 < s.ps.length → ∀ a, h.pA = some a → a.block ≠ g
  t : 0 < s.ts.length → ∀ a, h.tA = some a → a.block ≠ g
  b : 0 < s.bs.length → ∀ a, h.bA = some a → a.block ≠ g
  ss : ∀ x, x ∈ h.tx → 0 < x.1.ss.length → ∀ a, x.2.A = some a → a.block ≠ g
theorem RwIn.av {w : World} {lo size n c g : Nat} {A : Option Addr} {xs : List Value} (h : RwIn w lo size A n c xs) (hg : w.heap.size ≤ g) : 0 < n → ∀ a, A = some a → a.block ≠ g := fun hn a ha => by
  obtain ⟨b, off, hA, _, hb, _⟩ := h.l.2 hn
  rw [hA] at ha
  obtain rfl := Option.some.inj ha
  dsimp only
  omega
theorem Av.fresh {w : World} {s : St} {h : SHd} {g : Nat} (k : StIn w s h) (hg : w.heap.size ≤ g) : Av g s h := ⟨k.p.av hg, k.t.av hg, k.b.av hg, fun x hx => (k.ss x hx).av hg⟩
theorem RwIn.past {w w' : World} {size n c g : Nat} {A : Option Addr} {xs : List Value} (h : RwIn w 0 size A n c xs) (u : Upd [g] w w') (hS : 0 < n → ∀ a, A = some a → a.block ≠ g) : RwIn w' 0 size A n c xs :=
  ⟨(h.l.upd2 u (Nat.le_refl _) (fun s hs hn a ha => by rw [List.mem_singleton] at hs; subst hs; exact hS hn a ha)).more (Nat.le_refl _) u.size, h.nl, h.le, h.cm⟩
/-- a state in memory, its rows elsewhere than in block g -/
structure StAv (w : World) (g : Nat) (s : St) (h : SHd) : Prop where
  st : StIn w s h
  av : Av g s h
theorem StIn.past {w w' : World} {s : St} {h : SHd} {g : Nat} (k : StIn w s h) (u : Upd [g] w w') (a : Av g s h) : StIn w' s h :=
  ⟨k.p.past u a.p, k.t.past u a.t, k.b.past u a.b, k.tx, fun x hx => (k.ss x hx).past u (a.ss x hx)⟩
theorem StAv.upd {w w' : World} {g : Nat} {s : St} {h : SHd} (k : StAv w g s h) (u : Upd [] w w') : StAv w' g s h := ⟨k.st.upd u, k.av⟩
theorem StAv.past {w w' : World} {g : Nat} {s : St} {h : SHd} (k : StAv w g s h) (u : Upd [g] w w') : StAv w' g s h := ⟨k.st.past u k.av, k.av⟩
theorem own_av {w : World} {B size n c g : Nat} {e : TypeId} {A : Option Addr} {xs : List Value} (h : w.ownsRow B e size (.slice A n c) n xs) (hg : g < B) : 0 < n → ∀ a, A = some a → a.block ≠ g := fun _ a ha => by
  subst ha
  have := (own_block_lt h (g := a.block) rfl).1
  omega
theorem TR.av {w : World} {B g : Nat} {s : St} {h : SHd} (k : TR w B s h) (hl : g < B) : Av g s h := ⟨own_av k.p hl, own_av k.t hl, own_av k.b hl, fun x hx => own_av (k.ss x hx) hl⟩
theorem callFunc_go {P : Program} {f : FuncId} {fn : Func} (hf : P.funcs[f]? = some fn) (hn : (fn.name == "runtime.NumGoroutine") = false) (hb : fn.body.isNone = false) (args : Array Value) (w : World) :
    (callFunc f args).run P w = .ok (.enter f args) w := by
  have hb' : fn.body ≠ none := by intro h; rw [h] at hb; cases hb
  have hn' : fn.name ≠ "runtime.NumGoroutine" := by intro h; rw [h] at hn; revert hn; decide
  simp [callFunc, hf, hn', hb', go_sem]
theorem call_op {kn : Nat} (hk : kn ≤ 9) (args : Array Value) (w : World) : (callFunc (22 + kn) args).run Try.prog w = .ok (.enter (22 + kn) args) w := by
  have hc : kn = 0 ∨ kn = 1 ∨ kn = 2 ∨ kn = 3 ∨ kn = 4 ∨ kn = 5 ∨ kn = 6 ∨ kn = 7 ∨ kn = 8 ∨ kn = 9 := by omega
  rcases hc with rfl | rfl | rfl | rfl | rfl | rfl | rfl | rfl | rfl | rfl
  · exact callFunc_go Try.func22 (by kernel_rfl) (by kernel_rfl) _ _
  · exact callFunc_go Try.func23 (by kernel_rfl) (by kernel_rfl) _ _
  · exact callFunc_go Try.func24 (by kernel_rfl) (by kernel_rfl) _ _
  · exact callFunc_go Try.func25 (by kernel_rfl) (by kernel_rfl) _ _
  · exact callFunc_go Try.func26 (by kernel_rfl) (by kernel_rfl) _ _
  · exact callFunc_go Try.func27 (by kernel_rfl) (by kernel_rfl) _ _
  · exact callFunc_go Try.func28 (by kernel_rfl) (by kernel_rfl) _ _
  · exact callFunc_go Try.func29 (by kernel_rfl) (by kernel_rfl) _ _
  · exact callFunc_go Try.func30 (by kernel_rfl) (by kernel_rfl) _ _
  · exact callFunc_go Try.func31 (by kernel_rfl) (by kernel_rfl) _ _
theorem TR.upd_low {w w' : World} {B : Nat} {s : St} {h : SHd} {S : List Nat} (k : TR w B s h) (u : Upd S w w') (hS : ∀ t, t ∈ S → t < B) : TR w' B s h :=
  have f : ∀ {size n : Nat} {e : TypeId} {v : Value} {xs : List Value}, w.ownsRow B e size v n xs → w'.ownsRow B e size v n xs := fun h => ownsRow_upd h u (fun s hs hg => by have := (own_block_lt h hg).1; have := hS s hs; omega)
  ⟨f k.p, f k.t, f k.b, k.tx, fun x hx => f (k.ss x hx)⟩
theorem blk7 {w : World} {R : Nat} {e : TypeId} {c0 c1 c2 c3 c4 c5 c6 : Value} (h : Blk w R e #[c0, c1, c2, c3, c4, c5, c6]) (v0 v1 v2 v3 v4 v5 v6 : Value) :
    Blk (((((((w.setCell ⟨R, 0, none⟩ v0).setCell ⟨R, 1, none⟩ v1).setCell ⟨R, 2, none⟩ v2).setCell ⟨R, 3, none⟩ v3).setCell ⟨R, 4, none⟩ v4).setCell ⟨R, 5, none⟩ v5).setCell ⟨R, 6, none⟩ v6) R e #[v0, v1, v2, v3, v4, v5, v6]
    ∧ Upd [R] w (((((((w.setCell ⟨R, 0, none⟩ v0).setCell ⟨R, 1, none⟩ v1).setCell ⟨R, 2, none⟩ v2).setCell ⟨R, 3, none⟩ v3).setCell ⟨R, 4, none⟩ v4).setCell ⟨R, 5, none⟩ v5).setCell ⟨R, 6, none⟩ v6) := by
  refine ⟨((((((h.store 0 v0).store 1 v1).store 2 v2).store 3 v3).store 4 v4).store 5 v5).store 6 v6, ?_⟩
  exact (((((((Upd.refl [R] w).setCell (p := ⟨R, 0, none⟩) (.inl (by simp)) _).setCell (p := ⟨R, 1, none⟩) (.inl (by simp)) _).setCell (p := ⟨R, 2, none⟩) (.inl (by simp)) _).setCell (p := ⟨R, 3, none⟩) (.inl (by simp)) _).setCell (p := ⟨R, 4, none⟩) (.inl (by simp)) _).setCell (p := ⟨R, 5, none⟩) (.inl (by simp)) _).setCell (p := ⟨R, 6, none⟩) (.inl (by simp)) _
set_option maxRecDepth 100000 in
set_option maxHeartbeats 4000000 in
theorem do_any {w : World} {s : St} {h : SHd} {q : Rq} {qh : SH} (hs : StIn w s h) (hi : Inv s) (hQ : QIn w w.heap.size q qh) :
    Calls Try.prog 12 #[.agg (scells s h).toArray, .agg (qcells q qh).toArray] w fun e w' => ∃ h', e = .returned (.tuple #[.agg (scells (doM s q).1 h').toArray, .int .i64 (doM s q).2]) ∧ StIn w' (doM s q).1 h' ∧ (∀ g, g < w.heap.size → Av g s h → Av g (doM s q).1 h') ∧ Upd [] w w' := by
  have HS := Lib.hid hs
  have HI := Lib.hid hi
  have HQ := Lib.hid hQ
  obtain ⟨r, hr⟩ : ∃ r, r = doM s q := ⟨_, rfl⟩
  rw [← hr]
  have HR := Lib.hid hr
  clear hr
  obtain ⟨kd, who, room, rights, track, ss, layer, tid⟩ := q
  obtain ⟨qA, qc⟩ := qh
  obtain ⟨ql, hql⟩ : ∃ ql, ql = ss.length := ⟨_, rfl⟩
  obtain ⟨n, hn⟩ : ∃ n, n = s.ps.length := ⟨_, rfl⟩
  obtain ⟨n2, hn2⟩ : ∃ n2, n2 = s.ts.length := ⟨_, rfl⟩
  obtain ⟨n3, hn3⟩ : ∃ n3, n3 = s.bs.length := ⟨_, rfl⟩
  have HN := Lib.hid (And.intro hn (And.intro hn2 hn3))
  have HQL := Lib.hid hql
  unfold qcells
  rw [show scells s h = [.int .i64 s.c.people, .int .i64 s.c.tracks, .int .i64 s.c.subs, .int .i64 s.c.slots, .slice h.pA n h.pc, .slice h.tA n2 h.tc, .slice h.bA n3 h.bc] by unfold scells; rw [← hn, ← hn2, ← hn3]]
  dsimp only
  rw [← hql]
  have hnp : s.ps.length ≤ 1000 := by have := hi.np; have := hi.cp; omega
  have hnt : s.ts.length ≤ 1000 := by have := hi.nt; have := hi.ct; omega
  have hnb : s.bs.length ≤ 1000 := by have := hi.nb; have := hi.cl; omega
  have hss : ∀ t, t ∈ s.ts → t.ss.length ≤ 1000 := fun t ht => by
    have := (hi.trk t ht).2.2
    unfold maySS at this
    simp only [Bool.and_eq_true, decide_eq_true_eq] at this
    omega
  obtain ⟨W0, hW0⟩ : ∃ W0, W0 = w.alloc (.cells #[.int .i64 s.c.people, .int .i64 s.c.tracks, .int .i64 s.c.subs, .int .i64 s.c.slots, .slice h.pA n h.pc, .slice h.tA n2 h.tc, .slice h.bA n3 h.bc] 31) := ⟨_, rfl⟩
  obtain ⟨W1, hW1⟩ : ∃ W1, W1 = W0.alloc (.cells #[.int .i64 kd, .int .i64 who, .int .i64 room, .int .i64 rights, .int .i64 track, .slice qA ql qc, .int .i64 layer, .int .i64 tid] 45) := ⟨_, rfl⟩
  obtain ⟨W, hW⟩ : ∃ W, W = W1.alloc (.cells #[.int .i64 0, .int .i64 0, .int .i64 0, .int .i64 0, .slice none 0 0, .slice none 0 0, .slice none 0 0] 31) := ⟨_, rfl⟩
  obtain ⟨b, hb⟩ : ∃ b, b = w.heap.size := ⟨_, rfl⟩
  have u0 : Upd [] w W0 := by rw [hW0]; exact (Upd.refl [] w).alloc _
  have u1 : Upd [] W0 W1 := by rw [hW1]; exact (Upd.refl [] W0).alloc _
  have u2 : Upd [] W1 W := by rw [hW]; exact (Upd.refl [] W1).alloc _
  have z0 : W0.heap.size = b + 1 := by rw [hW0, World.size_alloc, hb]
  have z1 : W1.heap.size = b + 1 + 1 := by rw [hW1, World.size_alloc, z0]
  have z2 : W.heap.size = b + 1 + 1 + 1 := by rw [hW, World.size_alloc, z1]
  have hSB : Blk W b 31 (#[.int .i64 s.c.people, .int .i64 s.c.tracks, .int .i64 s.c.subs, .int .i64 s.c.slots, .slice h.pA n h.pc, .slice h.tA n2 h.tc, .slice h.bA n3 h.bc]) := by
    have : Blk W0 b 31 (#[.int .i64 s.c.people, .int .i64 s.c.tracks, .int .i64 s.c.subs, .int .i64 s.c.slots, .slice h.pA n h.pc, .slice h.tA n2 h.tc, .slice h.bA n3 h.bc]) := by rw [hW0, hb]; exact Blk.new _ _ _
    exact (this.upd u1 (by simp)).upd u2 (by simp)
  have hZB : Blk W (b + 1) 45 #[.int .i64 kd, .int .i64 who, .int .i64 room, .int .i64 rights, .int .i64 track, .slice qA ql qc, .int .i64 layer, .int .i64 tid] := by
    have : Blk W1 (b + 1) 45 #[.int .i64 kd, .int .i64 who, .int .i64 room, .int .i64 rights, .int .i64 track, .slice qA ql qc, .int .i64 layer, .int .i64 tid] := by rw [hW1, ← z0]; exact Blk.new _ _ _
    exact this.upd u2 (by simp)
  have hRB : Blk W (b + 1 + 1) 31 #[.int .i64 0, .int .i64 0, .int .i64 0, .int .i64 0, .slice none 0 0, .slice none 0 0, .slice none 0 0] := by rw [hW, ← z1]; exact Blk.new _ _ _
  have hu0 : Upd [] w W := (u0.next u1).next u2
  have HU0 := Lib.hid hu0
  have HSZ := Lib.hid z2
  have HBB := Lib.hid hb
  have HSB := Lib.hid hSB
  have HZB := Lib.hid hZB
  have HRB := Lib.hid hRB
  have hcl := sclone_any (hs.upd hu0) hnp hnt hnb hss
  rw [show scells s h = [.int .i64 s.c.people, .int .i64 s.c.tracks, .int .i64 s.c.subs, .int .i64 s.c.slots, .slice h.pA n h.pc, .slice h.tA n2 h.tc, .slice h.bA n3 h.bc] by unfold scells; rw [← hn, ← hn2, ← hn3]] at hcl
  have HCL := Lib.hid hcl
  clear hcl hSB hZB hRB u0 u1 u2 z0 z1 hu0 hnp hnt hnb hss hs hi hQ hql hn hn2 hn3
  go_enter Try.func12, Try.ntmps12
  go_upto_region 1 with fail
  rw [← hW0, ← hW1, ← hW, ← hb]
  clear hW0 hW1 hW hb
  have p0 := HSB.out.cell 0
  have p1 := HSB.out.cell 1
  have p2 := HSB.out.cell 2
  have p3 := HSB.out.cell 3
  have p4 := HSB.out.cell 4
  have p5 := HSB.out.cell 5
  have p6 := HSB.out.cell 6
  simp only [List.getElem?_toArray, List.getElem?_cons_zero, List.getElem?_cons_succ] at p0 p1 p2 p3 p4 p5 p6
  go_wp2_with fail
  refine HCL.out.mono ?_
  rintro e w1 ⟨h1, rfl, htr, hu1⟩
  clear HCL p0 p1 p2 p3 p4 p5 p6
  have HTR := Lib.hid htr
  have HU1 := Lib.hid hu1
  clear htr hu1
  unfold scells
  go_upto_region 3 with fail
  rw [← HN.out.1, ← HN.out.2.1, ← HN.out.2.2]
  obtain ⟨TB, hTB⟩ : ∃ TB, TB = w1.heap.size := ⟨_, rfl⟩
  obtain ⟨w2, hw2⟩ : ∃ w2, w2 = w1.alloc (.cells #[.int .i64 s.c.people, .int .i64 s.c.tracks, .int .i64 s.c.subs, .int .i64 s.c.slots, .slice h1.pA n h1.pc, .slice h1.tA n2 h1.tc, .slice h1.bA n3 h1.bc] 31) := ⟨_, rfl⟩
  rw [← hTB, ← hw2]
  obtain ⟨fs, hfs⟩ : ∃ fs : Array Value, fs = #[.func (.func 22) #[.pointer (some ⟨TB, 0, none⟩)] #[], .func (.func 23) #[.pointer (some ⟨TB, 0, none⟩)] #[], .func (.func 24) #[.pointer (some ⟨TB, 0, none⟩)] #[], .func (.func 25) #[.pointer (some ⟨TB, 0, none⟩)] #[], .func (.func 26) #[.pointer (some ⟨TB, 0, none⟩)] #[], .func (.func 27) #[.pointer (some ⟨TB, 0, none⟩)] #[], .func (.func 28) #[.pointer (some ⟨TB, 0, none⟩)] #[], .func (.func 29) #[.pointer (some ⟨TB, 0, none⟩)] #[], .func (.func 30) #[.pointer (some ⟨TB, 0, none⟩)] #[], .func (.func 31) #[.pointer (some ⟨TB, 0, none⟩)] #[]] := ⟨_, rfl⟩
  rw [← hfs]
  obtain ⟨w3, hw3⟩ : ∃ w3, w3 = w2.alloc (.cells fs 67) := ⟨_, rfl⟩
  rw [← hw3]
  have u12 : Upd [] w1 w2 := by rw [hw2]; exact (Upd.refl [] w1).alloc _
  have u23 : Upd [] w2 w3 := by rw [hw3]; exact (Upd.refl [] w2).alloc _
  have zs2 : w2.heap.size = TB + 1 := by rw [hw2, World.size_alloc, hTB]
  have hTBk : Blk w3 TB 31 (scells s h1).toArray := by
    have : Blk w2 TB 31 (scells s h1).toArray := by rw [hw2, hTB, show (scells s h1).toArray = #[.int .i64 s.c.people, .int .i64 s.c.tracks, .int .i64 s.c.subs, .int .i64 s.c.slots, .slice h1.pA n h1.pc, .slice h1.tA n2 h1.tc, .slice h1.bA n3 h1.bc] by unfold scells; rw [← HN.out.1, ← HN.out.2.1, ← HN.out.2.2]]; exact Blk.new _ _ _
    exact this.upd u23 (by simp)
  have hFB : Blk w3 (TB + 1) 67 fs := by rw [hw3, ← zs2]; exact Blk.new _ _ _
  have u13 : Upd [] W w3 := (HU1.out.next u12).next u23
  have hbW : b ≤ W.heap.size := by have := HSZ.out; omega
  have HTIN : Hid (TIn w3 W.heap.size TB s h1) := Lib.hid ⟨hTBk, by have := HU1.out.size; rw [hTB]; omega, ⟨own_lower (ownsRow_upd (ownsRow_upd HTR.out.p u12 (by simp)) u23 (by simp)) (Nat.le_refl _), own_lower (ownsRow_upd (ownsRow_upd HTR.out.t u12 (by simp)) u23 (by simp)) (Nat.le_refl _), own_lower (ownsRow_upd (ownsRow_upd HTR.out.b u12 (by simp)) u23 (by simp)) (Nat.le_refl _), HTR.out.tx, fun x hx => own_lower (ownsRow_upd (ownsRow_upd (HTR.out.ss x hx) u12 (by simp)) u23 (by simp)) (Nat.le_refl _)⟩⟩
  have HU3 : Hid (Upd [] w w3) := Lib.hid (HU0.out.next u13)
  have HS3 := Lib.hid (HSB.out.upd u13 (by simp))
  have HZ3 := Lib.hid (HZB.out.upd u13 (by simp))
  have HR3 := Lib.hid (HRB.out.upd u13 (by simp))
  have HF3 := Lib.hid hFB
  have hQb := HQ.out.below (HU3.out.below (Nat.le_refl _) (by simp))
  have HQ3 : Hid (QIn w3 W.heap.size _ _) := Lib.hid ⟨hQb.l.more (Nat.le_refl _) (by rw [← HBB.out]; exact hbW), hQb.nl, hQb.le, hQb.cm, hQb.pos, hQb.few⟩
  have HW3 : Hid (W.heap.size ≤ w3.heap.size) := Lib.hid u13.size
  have HFS := Lib.hid hfs
  clear hQb hTBk hFB u12 u23 zs2 hw2 hw3 hfs hTB u13 hbW HTR HU1 HSB HZB HRB HU0
  obtain ⟨b1, hb1⟩ : ∃ x, x = (decide ((0 : Int) ≤ kd) && decide (kd ≤ 9)) := ⟨_, rfl⟩
  have H1 : Hid (Calls Try.prog 32 #[.int .i64 kd, .int .i64 0, .int .i64 9] w3 fun e w' => e = .returned (.bool b1) ∧ w3 = w') := Lib.hid (by rw [hb1]; exact in_any w3 kd 0 9)
  have HB1 := Lib.hid hb1
  have t0 := HZ3.out.cell 0
  simp only [List.getElem?_toArray, List.getElem?_cons_zero, List.getElem?_cons_succ] at t0
  clear hb1
  go_wp2_with fail
  refine H1.out.mono ?_
  rintro _ _ ⟨rfl, rfl⟩
  clear t0 H1
  cases b1 with
  | false =>
    have HX : Hid (r = (s, 1)) := Lib.hid (by
      rw [HR.out]
      unfold doM
      rw [if_pos]
      have := HB1.out.symm
      simp only [Bool.and_eq_false_iff, decide_eq_false_iff_not] at this
      dsimp only
      omega)
    have p0 := HS3.out.cell 0
    have p1 := HS3.out.cell 1
    have p2 := HS3.out.cell 2
    have p3 := HS3.out.cell 3
    have p4 := HS3.out.cell 4
    have p5 := HS3.out.cell 5
    have p6 := HS3.out.cell 6
    have c0 := HR3.out.cell 0
    have c1 := HR3.out.cell 1
    have c2 := HR3.out.cell 2
    have c3 := HR3.out.cell 3
    have c4 := HR3.out.cell 4
    have c5 := HR3.out.cell 5
    have c6 := HR3.out.cell 6
    have f0 := HR3.out.frozen 0
    have f1 := HR3.out.frozen 1
    have f2 := HR3.out.frozen 2
    have f3 := HR3.out.frozen 3
    have f4 := HR3.out.frozen 4
    have f5 := HR3.out.frozen 5
    have f6 := HR3.out.frozen 6
    simp only [List.getElem?_toArray, List.getElem?_cons_zero, List.getElem?_cons_succ] at p0 p1 p2 p3 p4 p5 p6 c0 c1 c2 c3 c4 c5 c6
    obtain ⟨k4, u4⟩ := blk7 HR3.out (.int .i64 s.c.people) (.int .i64 s.c.tracks) (.int .i64 s.c.subs) (.int .i64 s.c.slots) (.slice h.pA n h.pc) (.slice h.tA n2 h.tc) (.slice h.bA n3 h.bc)
    go_wp2
    obtain ⟨w4, hw4⟩ : ∃ w4, w4 = (((((((w3.setCell ⟨b + 1 + 1, 0, none⟩ (.int .i64 s.c.people)).setCell ⟨b + 1 + 1, 1, none⟩ (.int .i64 s.c.tracks)).setCell ⟨b + 1 + 1, 2, none⟩ (.int .i64 s.c.subs)).setCell ⟨b + 1 + 1, 3, none⟩ (.int .i64 s.c.slots)).setCell ⟨b + 1 + 1, 4, none⟩ (.slice h.pA n h.pc)).setCell ⟨b + 1 + 1, 5, none⟩ (.slice h.tA n2 h.tc)).setCell ⟨b + 1 + 1, 6, none⟩ (.slice h.bA n3 h.bc)) := ⟨_, rfl⟩
    rw [← hw4] at k4 u4 ⊢
    clear hw4 p0 p1 p2 p3 p4 p5 p6 c0 c1 c2 c3 c4 c5 c6 f0 f1 f2 f3 f4 f5 f6
    have hu4 : Upd [] w w4 := Upd.of_below ((HU3.out.below (B := w.heap.size) (Nat.le_refl _) (by simp)).trans (u4.below (Nat.le_trans (Nat.le_refl _) HU3.out.size) (fun t ht => by rw [List.mem_singleton] at ht; subst ht; rw [← HBB.out]; omega)))
    have r0 := k4.cell 0
    have r1 := k4.cell 1
    have r2 := k4.cell 2
    have r3 := k4.cell 3
    have r4 := k4.cell 4
    have r5 := k4.cell 5
    have r6 := k4.cell 6
    simp only [List.getElem?_toArray, List.getElem?_cons_zero, List.getElem?_cons_succ] at r0 r1 r2 r3 r4 r5 r6
    refine bodyPost_res (v := .tuple #[.agg (scells s h).toArray, .int .i64 1]) (by unfold scells; rw [← HN.out.1, ← HN.out.2.1, ← HN.out.2.2]; simp [results, Try.results12, go_sem, Addr.add, r0, r1, r2, r3, r4, r5, r6]) rfl ?_
    exact ⟨h, by rw [HX.out], by rw [HX.out]; exact HS.out.upd hu4, by rw [HX.out]; exact fun _ _ k => k, hu4⟩
  | true =>
  have HKD : Hid (0 ≤ kd ∧ kd ≤ 9) := Lib.hid (by
    have := HB1.out.symm
    simp only [Bool.and_eq_true, decide_eq_true_eq] at this
    exact this)
  have p0 := HS3.out.cell 0
  have p1 := HS3.out.cell 1
  have p2 := HS3.out.cell 2
  have p3 := HS3.out.cell 3
  have p4 := HS3.out.cell 4
  have p5 := HS3.out.cell 5
  have p6 := HS3.out.cell 6
  have t0 := HZ3.out.cell 0
  have t1 := HZ3.out.cell 1
  simp only [List.getElem?_toArray, List.getElem?_cons_zero, List.getElem?_cons_succ] at p0 p1 p2 p3 p4 p5 p6 t0 t1
  obtain ⟨lo, hlo⟩ : ∃ lo, lo = low (cP who) s.ps := ⟨_, rfl⟩
  obtain ⟨ha, hha⟩ : ∃ ha, ha = has (cP who) s.ps := ⟨_, rfl⟩
  have HHA := Lib.hid hha
  have hpc := person_any (h := h) (HS.out.upd HU3.out).p (by have := HI.out.np; have := HI.out.cp; omega) HI.out.up who
  rw [← hlo, ← hha, show scells s h = [.int .i64 s.c.people, .int .i64 s.c.tracks, .int .i64 s.c.subs, .int .i64 s.c.slots, .slice h.pA n h.pc, .slice h.tA n2 h.tc, .slice h.bA n3 h.bc] by unfold scells; rw [← HN.out.1, ← HN.out.2.1, ← HN.out.2.2]] at hpc
  have HPC := Lib.hid hpc
  clear hlo hha hpc
  go_wp2_with fail
  refine HPC.out.mono ?_
  rintro e w4 ⟨rfl, hu4⟩
  have HS4 := Lib.hid (HS3.out.upd hu4 (by simp))
  have HZ4 := Lib.hid (HZ3.out.upd hu4 (by simp))
  have HR4 := Lib.hid (HR3.out.upd hu4 (by simp))
  have HF4 := Lib.hid (HF3.out.upd hu4 (by simp))
  have HU4 := Lib.hid (HU3.out.next hu4)
  have HT4 := Lib.hid (HTIN.out.upd hu4)
  have HW4 := Lib.hid (Nat.le_trans HW3.out hu4.size)
  have HQ4 := Lib.hid (HQ3.out.below (hu4.below HW3.out (by simp)))
  clear hu4 HPC p0 p1 p2 p3 p4 p5 p6 t0 t1
  have t0 := HZ4.out.cell 0
  simp only [List.getElem?_toArray, List.getElem?_cons_zero, List.getElem?_cons_succ] at t0
  by_cases hbad : kd ≠ 0 ∧ ha = false
  · obtain ⟨hk0, hha0⟩ := hbad
    have HX : Hid (r = (s, 21)) := Lib.hid (by
      rw [HR.out]
      unfold doM
      dsimp only
      rw [if_neg (by have := HKD.out; omega), if_pos ⟨hk0, by rw [← HHA.out]; exact hha0⟩])
    have hkb : (kd != 0) = true := by simpa using hk0
    subst hha0
    clear hk0
    have p0 := HS4.out.cell 0
    have p1 := HS4.out.cell 1
    have p2 := HS4.out.cell 2
    have p3 := HS4.out.cell 3
    have p4 := HS4.out.cell 4
    have p5 := HS4.out.cell 5
    have p6 := HS4.out.cell 6
    have c0 := HR4.out.cell 0
    have c1 := HR4.out.cell 1
    have c2 := HR4.out.cell 2
    have c3 := HR4.out.cell 3
    have c4 := HR4.out.cell 4
    have c5 := HR4.out.cell 5
    have c6 := HR4.out.cell 6
    have f0 := HR4.out.frozen 0
    have f1 := HR4.out.frozen 1
    have f2 := HR4.out.frozen 2
    have f3 := HR4.out.frozen 3
    have f4 := HR4.out.frozen 4
    have f5 := HR4.out.frozen 5
    have f6 := HR4.out.frozen 6
    simp only [List.getElem?_toArray, List.getElem?_cons_zero, List.getElem?_cons_succ] at p0 p1 p2 p3 p4 p5 p6 c0 c1 c2 c3 c4 c5 c6
    obtain ⟨kx, ux⟩ := blk7 HR4.out (.int .i64 s.c.people) (.int .i64 s.c.tracks) (.int .i64 s.c.subs) (.int .i64 s.c.slots) (.slice h.pA n h.pc) (.slice h.tA n2 h.tc) (.slice h.bA n3 h.bc)
    go_wp2
    obtain ⟨w5, hw5⟩ : ∃ w5, w5 = (((((((w4.setCell ⟨b + 1 + 1, 0, none⟩ (.int .i64 s.c.people)).setCell ⟨b + 1 + 1, 1, none⟩ (.int .i64 s.c.tracks)).setCell ⟨b + 1 + 1, 2, none⟩ (.int .i64 s.c.subs)).setCell ⟨b + 1 + 1, 3, none⟩ (.int .i64 s.c.slots)).setCell ⟨b + 1 + 1, 4, none⟩ (.slice h.pA n h.pc)).setCell ⟨b + 1 + 1, 5, none⟩ (.slice h.tA n2 h.tc)).setCell ⟨b + 1 + 1, 6, none⟩ (.slice h.bA n3 h.bc)) := ⟨_, rfl⟩
    rw [← hw5] at kx ux ⊢
    clear hw5 p0 p1 p2 p3 p4 p5 p6 c0 c1 c2 c3 c4 c5 c6 f0 f1 f2 f3 f4 f5 f6
    have hux : Upd [] w w5 := Upd.of_below ((HU4.out.below (B := w.heap.size) (Nat.le_refl _) (by simp)).trans (ux.below (Nat.le_trans (Nat.le_refl _) HU4.out.size) (fun t ht => by rw [List.mem_singleton] at ht; subst ht; rw [← HBB.out]; omega)))
    have r0 := kx.cell 0
    have r1 := kx.cell 1
    have r2 := kx.cell 2
    have r3 := kx.cell 3
    have r4 := kx.cell 4
    have r5 := kx.cell 5
    have r6 := kx.cell 6
    simp only [List.getElem?_toArray, List.getElem?_cons_zero, List.getElem?_cons_succ] at r0 r1 r2 r3 r4 r5 r6
    refine bodyPost_res (v := .tuple #[.agg (scells s h).toArray, .int .i64 21]) (by unfold scells; rw [← HN.out.1, ← HN.out.2.1, ← HN.out.2.2]; simp [results, Try.results12, go_sem, Addr.add, r0, r1, r2, r3, r4, r5, r6]) rfl ?_
    exact ⟨h, by rw [HX.out], by rw [HX.out]; exact HS.out.upd hux, by rw [HX.out]; exact fun _ _ k => k, hux⟩
  have HGOOD : Hid (kd ≠ 0 → ha = true) := Lib.hid (fun hk => by
    cases ha with
    | true => rfl
    | false => exact absurd ⟨hk, rfl⟩ hbad)
  have HOP := Lib.hid (fun (W' : World) (u : Upd [] w4 W') => op_any (f := 22 + kd.toNat) (q := ⟨kd, who, room, rights, track, ss, layer, tid⟩) (HT4.out.upd u) HI.out (Nat.le_trans HW4.out u.size) (HQ4.out.below (u.below HW4.out (by simp))) HKD.out.1 HKD.out.2 (fun hk => by rw [← HHA.out]; exact HGOOD.out hk) rfl)
  obtain ⟨kn, hkn⟩ : ∃ kn : Nat, kd = (kn : Int) := ⟨kd.toNat, by have := HKD.out; omega⟩
  have HKN : Hid (kn ≤ 9) := Lib.hid (by have := HKD.out; omega)
  have HKK := Lib.hid hkn
  clear hbad hkn
  obtain ⟨d, hd⟩ : ∃ d, d = (kd != 0) := ⟨_, rfl⟩
  have hd' := hd.symm
  have HD : Hid (d = true → ha = true) := Lib.hid (fun h => HGOOD.out (by rw [hd] at h; simpa using h))
  clear hd
  cases d
  case' true => obtain rfl : ha = true := HD.out rfl
  all_goals
    go_upto_region 8 with fail
    clear hd' t0
    have hkk := HKK.out
    subst hkk
    have HOP2 : Hid _ := Lib.hid HOP.out
    have hZl := HZ4.out.lt
    have hFl := HF4.out.lt
    have q0 : ∀ z : Cls (Upd [] w4), z.w.cell? ⟨b + 1, 0, none⟩ = some (.int .i64 (kn : Int)) := fun z => (z.h.cell (p := ⟨b + 1, 0, none⟩) hZl (by simp)).trans (HZ4.out.cell 0)
    have q1 : ∀ z : Cls (Upd [] w4), z.w.cell? ⟨b + 1, 1, none⟩ = some (.int .i64 who) := fun z => (z.h.cell (p := ⟨b + 1, 1, none⟩) hZl (by simp)).trans (HZ4.out.cell 1)
    have q2 : ∀ z : Cls (Upd [] w4), z.w.cell? ⟨b + 1, 2, none⟩ = some (.int .i64 room) := fun z => (z.h.cell (p := ⟨b + 1, 2, none⟩) hZl (by simp)).trans (HZ4.out.cell 2)
    have q3 : ∀ z : Cls (Upd [] w4), z.w.cell? ⟨b + 1, 3, none⟩ = some (.int .i64 rights) := fun z => (z.h.cell (p := ⟨b + 1, 3, none⟩) hZl (by simp)).trans (HZ4.out.cell 3)
    have q4 : ∀ z : Cls (Upd [] w4), z.w.cell? ⟨b + 1, 4, none⟩ = some (.int .i64 track) := fun z => (z.h.cell (p := ⟨b + 1, 4, none⟩) hZl (by simp)).trans (HZ4.out.cell 4)
    have q5 : ∀ z : Cls (Upd [] w4), z.w.cell? ⟨b + 1, 5, none⟩ = some (.slice qA ql qc) := fun z => (z.h.cell (p := ⟨b + 1, 5, none⟩) hZl (by simp)).trans (HZ4.out.cell 5)
    have q6 : ∀ z : Cls (Upd [] w4), z.w.cell? ⟨b + 1, 6, none⟩ = some (.int .i64 layer) := fun z => (z.h.cell (p := ⟨b + 1, 6, none⟩) hZl (by simp)).trans (HZ4.out.cell 6)
    have q7 : ∀ z : Cls (Upd [] w4), z.w.cell? ⟨b + 1, 7, none⟩ = some (.int .i64 tid) := fun z => (z.h.cell (p := ⟨b + 1, 7, none⟩) hZl (by simp)).trans (HZ4.out.cell 7)
    have hfk : fs[kn]? = some (.func (.func (22 + kn)) #[.pointer (some ⟨TB, 0, none⟩)] #[]) := by
      rw [HFS.out]
      have := HKN.out
      have hc : kn = 0 ∨ kn = 1 ∨ kn = 2 ∨ kn = 3 ∨ kn = 4 ∨ kn = 5 ∨ kn = 6 ∨ kn = 7 ∨ kn = 8 ∨ kn = 9 := by omega
      rcases hc with rfl | rfl | rfl | rfl | rfl | rfl | rfl | rfl | rfl | rfl <;> rfl
    have yf : ∀ z : Cls (Upd [] w4), z.w.cell? ⟨TB + 1, kn, none⟩ = some (.func (.func (22 + kn)) #[.pointer (some ⟨TB, 0, none⟩)] #[]) := fun z => (z.h.cell (p := ⟨TB + 1, kn, none⟩) hFl (by simp)).trans ((HF4.out.cell kn).trans hfk)
    have hkl : (kn : Int) < 10 := by have := HKN.out; omega
    clear hfk
    refine wp_class_tail (Upd [] w4) ((Upd.refl _ _).drewN 1) 5 (by kernel_rfl) (by kernel_rfl) (fun _ _ _ _ h => h) ?_
    intro hne
    simp only [List.take_succ_cons, List.take_zero, List.drop_succ_cons, List.drop_zero]
    repeat (go_big_quiet_step (fail))
    refine wpQuiet_nil ?_
    rintro _ ⟨xe, rfl⟩
    have hop := HOP.out xe.w xe.h
    have hbx := HW4.out
    rw [Int.toNat_natCast, ← HR.out] at hop
    unfold qcells at hop
    dsimp only at hop
    rw [← HQL.out] at hop
    obtain ⟨ec, hec⟩ : ∃ ec, ec = r.2 := ⟨_, rfl⟩
    rw [← hec] at hop
    have HOPX := Lib.hid hop
    have HEC := Lib.hid hec
    have HSX := Lib.hid (HS4.out.upd xe.h (by simp))
    have HRX := Lib.hid (HR4.out.upd xe.h (by simp))
    have HUX := Lib.hid (HU4.out.next xe.h)
    clear hop hec hbx HOP HOP2 q0 q1 q2 q3 q4 q5 q6 q7 yf hZl hFl hkl
    go_wp2_with fail
    rw [call_op HKN.out, Oper.upon_enter]
    refine HOPX.out.mono ?_
    rintro e w5 ⟨rfl, hti, hbl⟩
    have hlb : b + 1 + 1 < W.heap.size := by have := HSZ.out; omega
    have HS5 := Lib.hid (HSX.out.below hbl (by omega))
    have HR5 := Lib.hid (HRX.out.below hbl hlb)
    have HBL := Lib.hid hbl
    have HTI := Lib.hid hti
    have HU5 : Hid (Upd [] w w5) := Lib.hid (Upd.of_below ((HUX.out.below (B := w.heap.size) (Nat.le_refl _) (by simp)).trans (hbl.mono (by have := HSZ.out; rw [← HBB.out]; omega))))
    clear hti hbl hlb HOPX
    by_cases h0 : ec = 0
    case' neg =>
      have HX : Hid (r = (s, ec)) := Lib.hid (by
        have h2 := err_same s ⟨(kn : Int), who, room, rights, track, ss, layer, tid⟩ (by rw [← HR.out, ← HEC.out]; exact h0)
        rw [← HR.out] at h2
        rw [HEC.out, ← h2])
      have hkb : (ec != 0) = true := by simpa using h0
      clear h0
      have p0 := HS5.out.cell 0
      have p1 := HS5.out.cell 1
      have p2 := HS5.out.cell 2
      have p3 := HS5.out.cell 3
      have p4 := HS5.out.cell 4
      have p5 := HS5.out.cell 5
      have p6 := HS5.out.cell 6
      have c0 := HR5.out.cell 0
      have c1 := HR5.out.cell 1
      have c2 := HR5.out.cell 2
      have c3 := HR5.out.cell 3
      have c4 := HR5.out.cell 4
      have c5 := HR5.out.cell 5
      have c6 := HR5.out.cell 6
      have f0 := HR5.out.frozen 0
      have f1 := HR5.out.frozen 1
      have f2 := HR5.out.frozen 2
      have f3 := HR5.out.frozen 3
      have f4 := HR5.out.frozen 4
      have f5 := HR5.out.frozen 5
      have f6 := HR5.out.frozen 6
      simp only [List.getElem?_toArray, List.getElem?_cons_zero, List.getElem?_cons_succ] at p0 p1 p2 p3 p4 p5 p6 c0 c1 c2 c3 c4 c5 c6
      obtain ⟨kx, ux⟩ := blk7 HR5.out (.int .i64 s.c.people) (.int .i64 s.c.tracks) (.int .i64 s.c.subs) (.int .i64 s.c.slots) (.slice h.pA n h.pc) (.slice h.tA n2 h.tc) (.slice h.bA n3 h.bc)
      go_wp2
      obtain ⟨w6, hw6⟩ : ∃ w6, w6 = (((((((w5.setCell ⟨b + 1 + 1, 0, none⟩ (.int .i64 s.c.people)).setCell ⟨b + 1 + 1, 1, none⟩ (.int .i64 s.c.tracks)).setCell ⟨b + 1 + 1, 2, none⟩ (.int .i64 s.c.subs)).setCell ⟨b + 1 + 1, 3, none⟩ (.int .i64 s.c.slots)).setCell ⟨b + 1 + 1, 4, none⟩ (.slice h.pA n h.pc)).setCell ⟨b + 1 + 1, 5, none⟩ (.slice h.tA n2 h.tc)).setCell ⟨b + 1 + 1, 6, none⟩ (.slice h.bA n3 h.bc)) := ⟨_, rfl⟩
      rw [← hw6] at kx ux ⊢
      clear hw6 p0 p1 p2 p3 p4 p5 p6 c0 c1 c2 c3 c4 c5 c6 f0 f1 f2 f3 f4 f5 f6
      have hux : Upd [] w w6 := Upd.of_below ((HU5.out.below (B := w.heap.size) (Nat.le_refl _) (by simp)).trans (ux.below (Nat.le_trans (Nat.le_refl _) HU5.out.size) (fun t ht => by rw [List.mem_singleton] at ht; subst ht; rw [← HBB.out]; omega)))
      have r0 := kx.cell 0
      have r1 := kx.cell 1
      have r2 := kx.cell 2
      have r3 := kx.cell 3
      have r4 := kx.cell 4
      have r5 := kx.cell 5
      have r6 := kx.cell 6
      simp only [List.getElem?_toArray, List.getElem?_cons_zero, List.getElem?_cons_succ] at r0 r1 r2 r3 r4 r5 r6
      refine bodyPost_res (v := .tuple #[.agg (scells s h).toArray, .int .i64 ec]) (by unfold scells; rw [← HN.out.1, ← HN.out.2.1, ← HN.out.2.2]; simp [results, Try.results12, go_sem, Addr.add, r0, r1, r2, r3, r4, r5, r6]) rfl ?_
      exact ⟨h, by rw [HX.out], by rw [HX.out]; exact HS.out.upd hux, by rw [HX.out]; exact fun _ _ k => k, hux⟩
    subst h0
    obtain ⟨h2, hti⟩ := HTI.out rfl
    obtain ⟨s2, hs2⟩ : ∃ s2, s2 = r.1 := ⟨_, rfl⟩
    rw [← hs2] at hti
    have HRS : Hid (r = (s2, 0)) := Lib.hid (by rw [hs2, HEC.out])
    obtain ⟨m, hm⟩ : ∃ m, m = s2.ps.length := ⟨_, rfl⟩
    obtain ⟨m2, hm2⟩ : ∃ m, m = s2.ts.length := ⟨_, rfl⟩
    obtain ⟨m3, hm3⟩ : ∃ m, m = s2.bs.length := ⟨_, rfl⟩
    have HM := Lib.hid (And.intro hm (And.intro hm2 hm3))
    have HST := Lib.hid hti.r
    have htb := hti.box
    rw [show scells s2 h2 = [.int .i64 s2.c.people, .int .i64 s2.c.tracks, .int .i64 s2.c.subs, .int .i64 s2.c.slots, .slice h2.pA m h2.pc, .slice h2.tA m2 h2.tc, .slice h2.bA m3 h2.bc] by unfold scells; rw [← hm, ← hm2, ← hm3]] at htb
    have HTB := Lib.hid htb
    clear hs2 hm hm2 hm3 hti htb HTI
    have p0 := HTB.out.cell 0
    have p1 := HTB.out.cell 1
    have p2 := HTB.out.cell 2
    have p3 := HTB.out.cell 3
    have p4 := HTB.out.cell 4
    have p5 := HTB.out.cell 5
    have p6 := HTB.out.cell 6
    have c0 := HR5.out.cell 0
    have c1 := HR5.out.cell 1
    have c2 := HR5.out.cell 2
    have c3 := HR5.out.cell 3
    have c4 := HR5.out.cell 4
    have c5 := HR5.out.cell 5
    have c6 := HR5.out.cell 6
    have f0 := HR5.out.frozen 0
    have f1 := HR5.out.frozen 1
    have f2 := HR5.out.frozen 2
    have f3 := HR5.out.frozen 3
    have f4 := HR5.out.frozen 4
    have f5 := HR5.out.frozen 5
    have f6 := HR5.out.frozen 6
    simp only [List.getElem?_toArray, List.getElem?_cons_zero, List.getElem?_cons_succ] at p0 p1 p2 p3 p4 p5 p6 c0 c1 c2 c3 c4 c5 c6
    obtain ⟨kx, ux⟩ := blk7 HR5.out (.int .i64 s2.c.people) (.int .i64 s2.c.tracks) (.int .i64 s2.c.subs) (.int .i64 s2.c.slots) (.slice h2.pA m h2.pc) (.slice h2.tA m2 h2.tc) (.slice h2.bA m3 h2.bc)
    go_wp2
    obtain ⟨w6, hw6⟩ : ∃ w6, w6 = (((((((w5.setCell ⟨b + 1 + 1, 0, none⟩ (.int .i64 s2.c.people)).setCell ⟨b + 1 + 1, 1, none⟩ (.int .i64 s2.c.tracks)).setCell ⟨b + 1 + 1, 2, none⟩ (.int .i64 s2.c.subs)).setCell ⟨b + 1 + 1, 3, none⟩ (.int .i64 s2.c.slots)).setCell ⟨b + 1 + 1, 4, none⟩ (.slice h2.pA m h2.pc)).setCell ⟨b + 1 + 1, 5, none⟩ (.slice h2.tA m2 h2.tc)).setCell ⟨b + 1 + 1, 6, none⟩ (.slice h2.bA m3 h2.bc)) := ⟨_, rfl⟩
    rw [← hw6] at kx ux ⊢
    clear hw6 p0 p1 p2 p3 p4 p5 p6 c0 c1 c2 c3 c4 c5 c6 f0 f1 f2 f3 f4 f5 f6
    have hux : Upd [] w w6 := Upd.of_below ((HU5.out.below (B := w.heap.size) (Nat.le_refl _) (by simp)).trans (ux.below (Nat.le_trans (Nat.le_refl _) HU5.out.size) (fun t ht => by rw [List.mem_singleton] at ht; subst ht; rw [← HBB.out]; omega)))
    have r0 := kx.cell 0
    have r1 := kx.cell 1
    have r2 := kx.cell 2
    have r3 := kx.cell 3
    have r4 := kx.cell 4
    have r5 := kx.cell 5
    have r6 := kx.cell 6
    simp only [List.getElem?_toArray, List.getElem?_cons_zero, List.getElem?_cons_succ] at r0 r1 r2 r3 r4 r5 r6
    refine bodyPost_res (v := .tuple #[.agg (scells s2 h2).toArray, .int .i64 0]) (by unfold scells; rw [← HM.out.1, ← HM.out.2.1, ← HM.out.2.2]; simp [results, Try.results12, go_sem, Addr.add, r0, r1, r2, r3, r4, r5, r6]) rfl ?_
    exact ⟨h2, by rw [HRS.out], by rw [HRS.out]; exact (HST.out.upd_low ux (fun t ht => by rw [List.mem_singleton] at ht; subst ht; have := HSZ.out; omega)).st, by rw [HRS.out]; exact fun g hg _ => HST.out.av (by have := HSZ.out; have := HBB.out; omega), hux⟩
end Go.Proofs.Ytjcbaelefacolaa
/- The layer delta: the cells of a state's rows. Conditions: the rows lie in memory. -/
namespace Go.Proofs.Ytjcbaelefacolaa
open Go Go.RowKit
set_option maxHeartbeats 400000

theorem drew_two (w : World) (a b : Nat) : (w.drewN a).drewN b = w.drewN (a + b) := by unfold World.drewN; simp [Nat.add_assoc]
theorem rowP {w : World} {A : Option Addr} {n c : Nat} {l : List Per} (h : RwIn w 0 3 A n c (l.flatMap encP)) (hn : l.length = n) : ∀ k p, l[k]? = some p → ∃ b off, A = some ⟨b, off, none⟩ ∧ w.cell? ⟨b, off + k * 3, none⟩ = some (.int .i64 p.who) ∧ w.cell? ⟨b, off + k * 3 + 1, none⟩ = some (.int .i64 p.room) ∧ w.cell? ⟨b, off + k * 3 + 2, none⟩ = some (.int .i64 p.rights) := by
  intro k p hk
  have hlt := (List.getElem?_eq_some_iff.1 hk).1
  obtain ⟨b, off, e, _, _, hcc⟩ := h.l.2 (by omega)
  exact ⟨b, off, e, hcc (k * 3 + 0) _ (flat_get encP_len l k 0 p hk (by omega)), hcc (k * 3 + 1) _ (flat_get encP_len l k 1 p hk (by omega)), hcc (k * 3 + 2) _ (flat_get encP_len l k 2 p hk (by omega))⟩
theorem rowB {w : World} {A : Option Addr} {n c : Nat} {l : List Sb} (h : RwIn w 0 5 A n c (l.flatMap encB)) (hn : l.length = n) : ∀ k p, l[k]? = some p → ∃ b off, A = some ⟨b, off, none⟩ ∧ w.cell? ⟨b, off + k * 5, none⟩ = some (.int .i64 p.who) ∧ w.cell? ⟨b, off + k * 5 + 1, none⟩ = some (.int .i64 p.track) ∧ w.cell? ⟨b, off + k * 5 + 2, none⟩ = some (.int .i64 p.layer) ∧ w.cell? ⟨b, off + k * 5 + 3, none⟩ = some (.int .i64 p.tid) ∧ w.cell? ⟨b, off + k * 5 + 4, none⟩ = some (.bool p.muted) := by
  intro k p hk
  have hlt := (List.getElem?_eq_some_iff.1 hk).1
  obtain ⟨b, off, e, _, _, hcc⟩ := h.l.2 (by omega)
  exact ⟨b, off, e, hcc (k * 5 + 0) _ (flat_get encB_len l k 0 p hk (by omega)), hcc (k * 5 + 1) _ (flat_get encB_len l k 1 p hk (by omega)), hcc (k * 5 + 2) _ (flat_get encB_len l k 2 p hk (by omega)), hcc (k * 5 + 3) _ (flat_get encB_len l k 3 p hk (by omega)), hcc (k * 5 + 4) _ (flat_get encB_len l k 4 p hk (by omega))⟩
theorem rowT {w : World} {s : St} {h : SHd} (hs : StIn w s h) : ∀ k t, s.ts[k]? = some t → ∃ b off B d, h.tA = some ⟨b, off, none⟩ ∧ w.cell? ⟨b, off + k * 4, none⟩ = some (.int .i64 t.id) ∧ w.cell? ⟨b, off + k * 4 + 1, none⟩ = some (.int .i64 t.owner) ∧ w.cell? ⟨b, off + k * 4 + 2, none⟩ = some (.int .i64 t.frm) ∧ w.cell? ⟨b, off + k * 4 + 3, none⟩ = some (.slice B t.ss.length d) ∧
    RwIn w 0 1 B t.ss.length d (t.ss.map (Value.int .u32)) := by
  intro k t hk
  have hlt := (List.getElem?_eq_some_iff.1 hk).1
  obtain ⟨b, off, e, _, _, hcc⟩ := hs.t.l.2 (by omega)
  rw [← hs.tx, List.getElem?_map] at hk
  obtain ⟨x, hx, hxe⟩ : ∃ x, h.tx[k]? = some x ∧ x.1 = t := by
    cases hx : h.tx[k]? with
    | none => rw [hx] at hk; cases hk
    | some x => rw [hx] at hk; exact ⟨x, rfl, by simpa using hk⟩
  subst hxe
  exact ⟨b, off, x.2.A, x.2.c, e, hcc (k * 4 + 0) _ (flat_get encT_len h.tx k 0 x hx (by omega)), hcc (k * 4 + 1) _ (flat_get encT_len h.tx k 1 x hx (by omega)), hcc (k * 4 + 2) _ (flat_get encT_len h.tx k 2 x hx (by omega)), hcc (k * 4 + 3) _ (flat_get encT_len h.tx k 3 x hx (by omega)), hs.ss x (List.mem_of_getElem? hx)⟩
theorem rowU {w : World} {A : Option Addr} {n c : Nat} {l : List Int} (h : RwIn w 0 1 A n c (l.map (Value.int .u32))) (hn : l.length = n) : ∀ k x, l[k]? = some x → ∃ b off, A = some ⟨b, off, none⟩ ∧ w.cell? ⟨b, off + k, none⟩ = some (.int .u32 x) := by
  intro k x hk
  have hlt := (List.getElem?_eq_some_iff.1 hk).1
  obtain ⟨b, off, e, _, _, hcc⟩ := h.l.2 (by omega)
  exact ⟨b, off, e, hcc k _ (by rw [List.getElem?_map, hk]; rfl)⟩
end Go.Proofs.Ytjcbaelefacolaa
/- The laws' 'few' and 'begun' of the layer delta. Condition: no more requests than an int counts. -/
namespace Go.Proofs.Ytjcbaelefacolaa
open Go Go.RowKit
set_option maxHeartbeats 400000

def encQ (x : Rq × SH) : List Value := qcells x.1 x.2
theorem encQ_len (x : Rq × SH) : (encQ x).length = 8 := rfl
def fewQ (l : List Rq) : Bool := l.all (fun q => decide (q.ss.length ≤ 6)) && decide (l.length ≤ 150)
set_option maxRecDepth 100000 in
set_option maxHeartbeats 2000000 in
theorem few_any {w : World} {lo : Nat} {A : Option Addr} {cap : Nat} {l : List (Rq × SH)} (hc : CellsIn w lo w.heap.size 8 A l.length (l.flatMap encQ)) (hl : l.length ≤ 9223372036854775807) :
    Calls Try.prog 10 #[.slice A l.length cap] w fun e w' => e = .returned (.bool (fewQ (l.map (·.1)))) ∧ w' = w := by
  have HC := Lib.hid hc
  obtain ⟨L, hL⟩ : ∃ L, L = l.length := ⟨_, rfl⟩
  have HL := Lib.hid hL
  rw [← hL] at hl ⊢
  clear hc hL
  go_enter Try.func10, Try.ntmps10
  go_wp2
  go_loopg [3] L (fun gk x3 wr => ∃ (i : Nat), i ≤ L ∧ L ≤ i + gk ∧ x3 = .int .i64 i ∧ (∀ q, q ∈ (l.take i).map (·.1) → q.ss.length ≤ 6) ∧ wr = w)
  case atStart => exact ⟨0, Nat.zero_le _, by omega, rfl, by simp, rfl⟩
  case round =>
    obtain ⟨i, hi, hgi, rfl, his, rfl⟩ := hrel
    by_cases hlt : i < L
    · obtain ⟨x, hxi⟩ : ∃ p, l[i]? = some p := ⟨_, List.getElem?_eq_getElem (by rw [← HL.out]; exact hlt)⟩
      obtain ⟨b, off, rfl, hb1, hb2, hcc⟩ := HC.out.2 (by rw [← HL.out]; omega)
      have c5 := hcc (i * 8 + 5) _ (flat_get encQ_len l i 5 x hxi (by omega))
      obtain ⟨⟨kd, who, room, rights, track, ss, layer, tid⟩, ⟨qA, qc⟩⟩ := x
      simp only [encQ, qcells, List.getElem?_cons_zero, List.getElem?_cons_succ, List.getElem_cons_zero, List.getElem_cons_succ, ← Nat.add_assoc, Nat.add_zero] at c5
      have HIS := Lib.hid his
      have HXI := Lib.hid hxi
      have HLT := Lib.hid hlt
      have HGI := Lib.hid hgi
      clear hcc his hxi hgi
      have hlti : (i : Int) < (L : Int) := by omega
      have hw : IntKind.i64.wrap ((i : Int) + 1) = (i : Int) + 1 := IntWalk.i64_in _ (by omega)
      by_cases k1 : ss.length ≤ 6
      · have n1 : ¬ (6 : Int) < (ss.length : Int) := by omega
        go_wp2
        go_roundg (gk - 1)
        case measure => have := HGI.out; omega
        case rel =>
        refine ⟨i + 1, by omega, by have := HGI.out; omega, by go_num, fun m' hm' => ?_, rfl⟩
        rw [List.take_add_one, HXI.out] at hm'
        simp only [Option.toList_some, List.map_append, List.map_cons, List.map_nil, List.mem_append, List.mem_singleton] at hm'
        rcases hm' with hm' | rfl
        · exact HIS.out m' hm'
        · exact k1
      · have n1 : (6 : Int) < (ss.length : Int) := by omega
        have hno : fewQ (l.map (·.1)) = false := by
          have hmem : (⟨kd, who, room, rights, track, ss, layer, tid⟩ : Rq) ∈ l.map (·.1) := List.mem_map.2 ⟨_, List.mem_of_getElem? HXI.out, rfl⟩
          rw [fewQ, List.all_eq_false.2 ⟨_, hmem, by simp [k1]⟩]
          rfl
        have HNO := Lib.hid hno
        clear hno
        go_wp2
        exact bodyPost_res (v := .bool false) (by simp [results, Try.results10, go_sem]) rfl ⟨by rw [HNO.out], rfl⟩
    · obtain rfl : i = L := by omega
      have hall : (l.map (·.1)).all (fun q => decide (q.ss.length ≤ 6)) = true := List.all_eq_true.2 (fun m hm => by simpa using his m (by rw [HL.out, List.take_length]; exact hm))
      have hf : fewQ (l.map (·.1)) = decide ((i : Int) ≤ 150) := by
        rw [fewQ, hall, Bool.true_and, List.length_map, ← HL.out]
        exact decide_eq_decide.2 (by omega)
      clear his hgi hlt
      go_wp2
      exact bodyPost_res (v := .bool (decide ((i : Int) ≤ 150))) (by simp [results, Try.results10, go_sem]) rfl ⟨by rw [hf], rfl⟩
set_option maxRecDepth 100000 in
set_option maxHeartbeats 2000000 in
theorem begun_any (w : World) (c : Cf) :
    Calls Try.prog 11 #[.agg #[.int .i64 c.people, .int .i64 c.tracks, .int .i64 c.subs, .int .i64 c.slots]] w fun e w' =>
      e = .returned (.tuple #[.agg (scells (newM (confM c)) newHd).toArray, .agg #[.int .i64 c.people, .int .i64 c.tracks, .int .i64 c.subs, .int .i64 c.slots, .slice none 0 0, .slice none 0 0, .slice none 0 0], .bool (confOk c)]) ∧ Upd [] w w' := by
  have HN := Lib.hid (fun w => new_any w c)
  have hm : scells (newM (confM c)) newHd = [.int .i64 (confM c).people, .int .i64 (confM c).tracks, .int .i64 (confM c).subs, .int .i64 (confM c).slots, .slice none 0 0, .slice none 0 0, .slice none 0 0] := rfl
  rw [hm] at HN ⊢
  obtain ⟨⟨m1, m2, m3, m4⟩, hmm⟩ : ∃ m, m = confM c := ⟨_, rfl⟩
  obtain ⟨er, her⟩ : ∃ er, er = (if confOk c then (0 : Int) else 1) := ⟨_, rfl⟩
  have hok : confOk c = (er == 0) := by rw [her]; cases confOk c <;> rfl
  rw [← hmm, ← her] at HN
  rw [← hmm, hok]
  obtain ⟨a, b, d, e⟩ := c
  dsimp only at HN ⊢
  clear hm hmm her hok
  obtain ⟨g, hg⟩ : ∃ g, g = w.heap.size := ⟨_, rfl⟩
  obtain ⟨W0, hW0⟩ : ∃ W, W = w.alloc (.cells #[.int .i64 a, .int .i64 b, .int .i64 d, .int .i64 e] 23) := ⟨_, rfl⟩
  obtain ⟨W1, hW1⟩ : ∃ W, W = W0.alloc (.cells #[.int .i64 0, .int .i64 0, .int .i64 0, .int .i64 0, .slice none 0 0, .slice none 0 0, .slice none 0 0] 31) := ⟨_, rfl⟩
  obtain ⟨W2, hW2⟩ : ∃ W, W = W1.alloc (.cells #[.int .i64 0, .int .i64 0, .int .i64 0, .int .i64 0, .slice none 0 0, .slice none 0 0, .slice none 0 0] 37) := ⟨_, rfl⟩
  have u0 : Upd [] w W0 := by rw [hW0]; exact (Upd.refl [] w).alloc _
  have u1 : Upd [] W0 W1 := by rw [hW1]; exact (Upd.refl [] W0).alloc _
  have u2 : Upd [] W1 W2 := by rw [hW2]; exact (Upd.refl [] W1).alloc _
  have z0 : W0.heap.size = g + 1 := by rw [hW0, World.size_alloc, hg]
  have z1 : W1.heap.size = g + 1 + 1 := by rw [hW1, World.size_alloc, z0]
  have k0 : Blk W2 g 23 #[.int .i64 a, .int .i64 b, .int .i64 d, .int .i64 e] := by
    have : Blk W0 g 23 #[.int .i64 a, .int .i64 b, .int .i64 d, .int .i64 e] := by rw [hW0, hg]; exact Blk.new _ _ _
    exact (this.upd u1 (by simp)).upd u2 (by simp)
  have k1 : Blk W2 (g + 1) 31 #[.int .i64 0, .int .i64 0, .int .i64 0, .int .i64 0, .slice none 0 0, .slice none 0 0, .slice none 0 0] := by
    have : Blk W1 (g + 1) 31 #[.int .i64 0, .int .i64 0, .int .i64 0, .int .i64 0, .slice none 0 0, .slice none 0 0, .slice none 0 0] := by rw [hW1, ← z0]; exact Blk.new _ _ _
    exact this.upd u2 (by simp)
  have k2 : Blk W2 (g + 1 + 1) 37 #[.int .i64 0, .int .i64 0, .int .i64 0, .int .i64 0, .slice none 0 0, .slice none 0 0, .slice none 0 0] := by rw [hW2, ← z1]; exact Blk.new _ _ _
  have HU0 := Lib.hid ((u0.next u1).next u2)
  have HG := Lib.hid hg
  have HK0 := Lib.hid k0
  have HK1 := Lib.hid k1
  have HK2 := Lib.hid k2
  have p0 : W2.cell? ⟨g, 0, none⟩ = some (.int .i64 a) := k0.cell 0
  have p1 : W2.cell? ⟨g, 1, none⟩ = some (.int .i64 b) := k0.cell 1
  have p2 : W2.cell? ⟨g, 2, none⟩ = some (.int .i64 d) := k0.cell 2
  have p3 : W2.cell? ⟨g, 3, none⟩ = some (.int .i64 e) := k0.cell 3
  clear u0 u1 u2 z0 z1 k0 k1 k2
  go_enter Try.func11, Try.ntmps11
  go_upto_region 1 with fail
  rw [← hW0, ← hW1, ← hW2, ← hg]
  clear hW0 hW1 hW2 hg
  go_wp2_with fail
  refine (HN.out _).mono ?_
  rintro _ w3 ⟨rfl, hu3⟩
  have HU3 := Lib.hid hu3
  have HB0 := Lib.hid (HK0.out.upd hu3 (by simp))
  have HB1 := Lib.hid (HK1.out.upd hu3 (by simp))
  have HB2 := Lib.hid (HK2.out.upd hu3 (by simp))
  clear hu3 p0 p1 p2 p3 HK0 HK1 HK2 HN
  go_upto_region 2 with fail
  obtain ⟨s, hs⟩ : ∃ s, s = w3.heap.size := ⟨_, rfl⟩
  obtain ⟨w4, hw4⟩ : ∃ W, W = w3.alloc (.cells #[.int .i64 m1, .int .i64 m2, .int .i64 m3, .int .i64 m4, .slice none 0 0, .slice none 0 0, .slice none 0 0] 31) := ⟨_, rfl⟩
  rw [← hw4, ← hs]
  have u4 : Upd [] w3 w4 := by rw [hw4]; exact (Upd.refl [] w3).alloc _
  have k3 : Blk w4 s 31 #[.int .i64 m1, .int .i64 m2, .int .i64 m3, .int .i64 m4, .slice none 0 0, .slice none 0 0, .slice none 0 0] := by rw [hw4, hs]; exact Blk.new _ _ _
  have k0 := HB0.out.upd u4 (by simp)
  have k1 := HB1.out.upd u4 (by simp)
  have k2 := HB2.out.upd u4 (by simp)
  have HU4 := Lib.hid ((HU0.out.next HU3.out).next u4)
  have hlg := k0.lt
  have hls := k3.lt
  have hgs : ¬ (s = g + 1) ∧ ¬ (s = g + 1 + 1) := ⟨fun e => by have := HB1.out.lt; omega, fun e => by have := HB2.out.lt; omega⟩
  have p0 : ∀ z : Cls (Upd [g + 1, g + 1 + 1] w4), z.w.cell? ⟨g, 0, none⟩ = some (.int .i64 a) := fun z => (z.h.cell (p := ⟨g, 0, none⟩) hlg (by simp; omega)).trans (k0.cell 0)
  have p1 : ∀ z : Cls (Upd [g + 1, g + 1 + 1] w4), z.w.cell? ⟨g, 1, none⟩ = some (.int .i64 b) := fun z => (z.h.cell (p := ⟨g, 1, none⟩) hlg (by simp; omega)).trans (k0.cell 1)
  have p2 : ∀ z : Cls (Upd [g + 1, g + 1 + 1] w4), z.w.cell? ⟨g, 2, none⟩ = some (.int .i64 d) := fun z => (z.h.cell (p := ⟨g, 2, none⟩) hlg (by simp; omega)).trans (k0.cell 2)
  have p3 : ∀ z : Cls (Upd [g + 1, g + 1 + 1] w4), z.w.cell? ⟨g, 3, none⟩ = some (.int .i64 e) := fun z => (z.h.cell (p := ⟨g, 3, none⟩) hlg (by simp; omega)).trans (k0.cell 3)
  have q0 : ∀ z : Cls (Upd [g + 1, g + 1 + 1] w4), z.w.cell? ⟨s, 0, none⟩ = some (.int .i64 m1) := fun z => (z.h.cell (p := ⟨s, 0, none⟩) hls (by simp; exact hgs)).trans (k3.cell 0)
  have q1 : ∀ z : Cls (Upd [g + 1, g + 1 + 1] w4), z.w.cell? ⟨s, 1, none⟩ = some (.int .i64 m2) := fun z => (z.h.cell (p := ⟨s, 1, none⟩) hls (by simp; exact hgs)).trans (k3.cell 1)
  have q2 : ∀ z : Cls (Upd [g + 1, g + 1 + 1] w4), z.w.cell? ⟨s, 2, none⟩ = some (.int .i64 m3) := fun z => (z.h.cell (p := ⟨s, 2, none⟩) hls (by simp; exact hgs)).trans (k3.cell 2)
  have q3 : ∀ z : Cls (Upd [g + 1, g + 1 + 1] w4), z.w.cell? ⟨s, 3, none⟩ = some (.int .i64 m4) := fun z => (z.h.cell (p := ⟨s, 3, none⟩) hls (by simp; exact hgs)).trans (k3.cell 3)
  have q4 : ∀ z : Cls (Upd [g + 1, g + 1 + 1] w4), z.w.cell? ⟨s, 4, none⟩ = some (.slice none 0 0) := fun z => (z.h.cell (p := ⟨s, 4, none⟩) hls (by simp; exact hgs)).trans (k3.cell 4)
  have q5 : ∀ z : Cls (Upd [g + 1, g + 1 + 1] w4), z.w.cell? ⟨s, 5, none⟩ = some (.slice none 0 0) := fun z => (z.h.cell (p := ⟨s, 5, none⟩) hls (by simp; exact hgs)).trans (k3.cell 5)
  have q6 : ∀ z : Cls (Upd [g + 1, g + 1 + 1] w4), z.w.cell? ⟨s, 6, none⟩ = some (.slice none 0 0) := fun z => (z.h.cell (p := ⟨s, 6, none⟩) hls (by simp; exact hgs)).trans (k3.cell 6)
  have HK1 := Lib.hid k1
  have HK2 := Lib.hid k2
  clear hs hw4 u4 k0 k1 k2 k3 HB0 HB1 HB2 HU0 HU3 hlg hls hgs
  refine wp_held_tail (Upd [g + 1, g + 1 + 1] w4) ((Upd.refl _ _).drewN 1) [0, 1, 2, 3, 4, 5, 6, 7, 8, 9, 10, 11, 12] [13, 14, 15] (by kernel_rfl) (by kernel_rfl) (fun _ _ _ _ h => h) ?_
  intro hne
  simp only [pick3, List.map_cons, List.map_nil, List.getElem?_cons_zero, List.getElem?_cons_succ, Option.getD_some]
  repeat (go_big_quiet_step (fail))
  refine wpQuiet_nil ?_
  obtain ⟨w5, hw5⟩ : ∃ W, W = w4.drewN 1 := ⟨_, rfl⟩
  have h1 := HK1.out.drewN 1
  have h2 := HK2.out.drewN 1
  have hu5 := HU4.out.drewN 1
  have hC5 : Upd [g + 1, g + 1 + 1] w4 w5 := by rw [hw5]; exact (Upd.refl _ _).drewN 1
  rw [← hw5] at h1 h2 hu5 ⊢
  clear hw5 p0 p1 p2 p3 q0 q1 q2 q3 q4 q5 q6 HU4 HK1 HK2
  obtain ⟨kx, ux⟩ := blk7 h1 (.int .i64 m1) (.int .i64 m2) (.int .i64 m3) (.int .i64 m4) (.slice none 0 0) (.slice none 0 0) (.slice none 0 0)
  obtain ⟨w6, hw6⟩ : ∃ w6, w6 = (((((((w5.setCell ⟨g + 1, 0, none⟩ (.int .i64 m1)).setCell ⟨g + 1, 1, none⟩ (.int .i64 m2)).setCell ⟨g + 1, 2, none⟩ (.int .i64 m3)).setCell ⟨g + 1, 3, none⟩ (.int .i64 m4)).setCell ⟨g + 1, 4, none⟩ (.slice none 0 0)).setCell ⟨g + 1, 5, none⟩ (.slice none 0 0)).setCell ⟨g + 1, 6, none⟩ (.slice none 0 0)) := ⟨_, rfl⟩
  rw [← hw6] at kx ux
  have h26 := h2.upd ux (by simp)
  obtain ⟨ky, uy⟩ := blk7 h26 (.int .i64 a) (.int .i64 b) (.int .i64 d) (.int .i64 e) (.slice none 0 0) (.slice none 0 0) (.slice none 0 0)
  obtain ⟨w7, hw7⟩ : ∃ w7, w7 = (((((((w6.setCell ⟨g + 1 + 1, 0, none⟩ (.int .i64 a)).setCell ⟨g + 1 + 1, 1, none⟩ (.int .i64 b)).setCell ⟨g + 1 + 1, 2, none⟩ (.int .i64 d)).setCell ⟨g + 1 + 1, 3, none⟩ (.int .i64 e)).setCell ⟨g + 1 + 1, 4, none⟩ (.slice none 0 0)).setCell ⟨g + 1 + 1, 5, none⟩ (.slice none 0 0)).setCell ⟨g + 1 + 1, 6, none⟩ (.slice none 0 0)) := ⟨_, rfl⟩
  rw [← hw7] at ky uy
  have kx7 := kx.upd uy (by simp)
  have hfin : Upd [] w w7 := Upd.of_below ((hu5.below (B := w.heap.size) (Nat.le_refl _) (by simp)).trans ((ux.below (B := w.heap.size) hu5.size (fun t ht => by rw [List.mem_singleton] at ht; subst ht; rw [← HG.out]; omega)).trans (uy.below (B := w.heap.size) (Nat.le_trans hu5.size ux.size) (fun t ht => by rw [List.mem_singleton] at ht; subst ht; rw [← HG.out]; omega))))
  have HFIN := Lib.hid hfin
  have HX := Lib.hid kx7
  have HY := Lib.hid ky
  have HW6 := Lib.hid hw6
  have HW7 := Lib.hid hw7
  have c0 := h1.cell 0
  have c1 := h1.cell 1
  have c2 := h1.cell 2
  have c3 := h1.cell 3
  have c4 := h1.cell 4
  have c5 := h1.cell 5
  have c6 := h1.cell 6
  have f0 := h1.frozen 0
  have f1 := h1.frozen 1
  have f2 := h1.frozen 2
  have f3 := h1.frozen 3
  have f4 := h1.frozen 4
  have f5 := h1.frozen 5
  have f6 := h1.frozen 6
  have d0 := h26.cell 0
  have d1 := h26.cell 1
  have d2 := h26.cell 2
  have d3 := h26.cell 3
  have d4 := h26.cell 4
  have d5 := h26.cell 5
  have d6 := h26.cell 6
  have e0 := h26.frozen 0
  have e1 := h26.frozen 1
  have e2 := h26.frozen 2
  have e3 := h26.frozen 3
  have e4 := h26.frozen 4
  have e5 := h26.frozen 5
  have e6 := h26.frozen 6
  simp only [List.getElem?_toArray, List.getElem?_cons_zero, List.getElem?_cons_succ] at c0 c1 c2 c3 c4 c5 c6 d0 d1 d2 d3 d4 d5 d6
  have hC6 : Upd [g + 1, g + 1 + 1] w4 w6 := hC5.next (ux.more (by simp))
  have HC6 := Lib.hid hC6
  have HC7 := Lib.hid (hC6.next (uy.more (by simp)))
  clear h1 h2 h26 hu5 kx ux ky uy kx7 hfin hw6 hw7 hC5 hC6
  refine wpHeld_step rfl fun K hK => ?_
  go_simp
  rw [← HW6.out]
  refine hK.out _ _ (.inr ⟨⟨w6, HC6.out⟩, rfl⟩) ?_
  clear hK K c0 c1 c2 c3 c4 c5 c6 f0 f1 f2 f3 f4 f5 f6
  refine wpHeld_step rfl fun K hK => ?_
  go_simp
  rw [← HW7.out]
  refine hK.out _ _ (.inr ⟨⟨w7, HC7.out⟩, rfl⟩) ?_
  clear hK K
  refine wpHeld_last ?_
  go_wp2
  have r0 := HX.out.cell 0
  have r1 := HX.out.cell 1
  have r2 := HX.out.cell 2
  have r3 := HX.out.cell 3
  have r4 := HX.out.cell 4
  have r5 := HX.out.cell 5
  have r6 := HX.out.cell 6
  have s0 := HY.out.cell 0
  have s1 := HY.out.cell 1
  have s2 := HY.out.cell 2
  have s3 := HY.out.cell 3
  have s4 := HY.out.cell 4
  have s5 := HY.out.cell 5
  have s6 := HY.out.cell 6
  simp only [List.getElem?_toArray, List.getElem?_cons_zero, List.getElem?_cons_succ] at r0 r1 r2 r3 r4 r5 r6 s0 s1 s2 s3 s4 s5 s6
  exact bodyPost_res (v := .tuple #[.agg #[.int .i64 m1, .int .i64 m2, .int .i64 m3, .int .i64 m4, .slice none 0 0, .slice none 0 0, .slice none 0 0], .agg #[.int .i64 a, .int .i64 b, .int .i64 d, .int .i64 e, .slice none 0 0, .slice none 0 0, .slice none 0 0], .bool (er == 0)]) (by simp [results, Try.results11, go_sem, Addr.add, r0, r1, r2, r3, r4, r5, r6, s0, s1, s2, s3, s4, s5, s6]) rfl ⟨rfl, HFIN.out⟩
end Go.Proofs.Ytjcbaelefacolaa
/- The layer delta: the laws' awake answers true. No condition. -/
namespace Go.Proofs.Ytjcbaelefacolaa
open Go Go.RowKit
set_option maxHeartbeats 400000

theorem do_av {w : World} {g : Nat} {s s' : St} {h : SHd} {q : Rq} {qh : SH} {er : Int} (hd : doM s q = (s', er)) (hs : StAv w g s h) (hl : g < w.heap.size) (hi : Inv s) (hQ : QIn w w.heap.size q qh) :
    Calls Try.prog 12 #[.agg (scells s h).toArray, .agg (qcells q qh).toArray] w fun e w' => ∃ h', e = .returned (.tuple #[.agg (scells s' h').toArray, .int .i64 er]) ∧ StAv w' g s' h' ∧ Upd [] w w' := by
  have := do_any hs.st hi hQ
  rw [hd] at this
  exact this.mono fun e w' ⟨h', he, hk, ha, hu⟩ => ⟨h', he, ⟨hk, ha g hl hs.av⟩, hu⟩
theorem inv_is {s s' : St} {q : Rq} {er : Int} (hd : doM s q = (s', er)) (hi : Inv s) : Inv s' := by
  have := inv_do hi q
  rw [hd] at this
  exact this
/-- the state stored into its box, another one's seven cells -/
theorem box7 {w : World} {S : Nat} {s s' : St} {h h' : SHd} (hb : Blk w S 31 (scells s h).toArray) :
    Blk (((((((w.setCell ⟨S, 0, none⟩ (.int .i64 s'.c.people)).setCell ⟨S, 1, none⟩ (.int .i64 s'.c.tracks)).setCell ⟨S, 2, none⟩ (.int .i64 s'.c.subs)).setCell ⟨S, 3, none⟩ (.int .i64 s'.c.slots)).setCell ⟨S, 4, none⟩ (.slice h'.pA s'.ps.length h'.pc)).setCell ⟨S, 5, none⟩ (.slice h'.tA s'.ts.length h'.tc)).setCell ⟨S, 6, none⟩ (.slice h'.bA s'.bs.length h'.bc)) S 31 (scells s' h').toArray
    ∧ Upd [S] w (((((((w.setCell ⟨S, 0, none⟩ (.int .i64 s'.c.people)).setCell ⟨S, 1, none⟩ (.int .i64 s'.c.tracks)).setCell ⟨S, 2, none⟩ (.int .i64 s'.c.subs)).setCell ⟨S, 3, none⟩ (.int .i64 s'.c.slots)).setCell ⟨S, 4, none⟩ (.slice h'.pA s'.ps.length h'.pc)).setCell ⟨S, 5, none⟩ (.slice h'.tA s'.ts.length h'.tc)).setCell ⟨S, 6, none⟩ (.slice h'.bA s'.bs.length h'.bc)) :=
  blk7 (c0 := .int .i64 s.c.people) (c1 := .int .i64 s.c.tracks) (c2 := .int .i64 s.c.subs) (c3 := .int .i64 s.c.slots) (c4 := .slice h.pA s.ps.length h.pc) (c5 := .slice h.tA s.ts.length h.tc) (c6 := .slice h.bA s.bs.length h.bc) hb _ _ _ _ _ _ _
theorem qin_nil (w : World) (B : Nat) (kd who room rights track layer tid : Int) : QIn w B ⟨kd, who, room, rights, track, [], layer, tid⟩ ⟨none, 0⟩ :=
  ⟨CellsIn.nil _ _ _ _ _, fun _ => ⟨rfl, rfl⟩, Nat.le_refl _, by dsimp only; omega, fun x hx => (by cases hx), by simp⟩
theorem qin_one {w : World} {g : Nat} {x : Int} (hx : 0 ≤ x) (h : Blk w g 64 #[.int .u32 x]) (kd who room rights track layer tid : Int) : QIn w w.heap.size ⟨kd, who, room, rights, track, [x], layer, tid⟩ ⟨some ⟨g, 0, none⟩, 1⟩ :=
  ⟨⟨rfl, fun _ => ⟨g, 0, rfl, Nat.zero_le _, h.lt, fun j u hj => by rw [Nat.zero_add, h.cell j]; simpa using hj⟩⟩, fun e => (by cases e), Nat.le_refl _, by dsimp only; omega, fun y hy => by rw [List.mem_singleton] at hy; omega, by simp⟩
def aw0 : St := newM ⟨3, 3, 3, 3⟩
def aw1 : St := ⟨⟨3, 3, 3, 3⟩, [⟨1, 2, 1⟩], [], []⟩
def aw2 : St := ⟨⟨3, 3, 3, 3⟩, [⟨1, 2, 1⟩, ⟨5, 2, 2⟩], [], []⟩
def aw3 : St := ⟨⟨3, 3, 3, 3⟩, [⟨1, 2, 1⟩, ⟨5, 2, 2⟩], [⟨7, 1, 0, [4]⟩], []⟩
def aw4 : St := ⟨⟨3, 3, 3, 3⟩, [⟨1, 2, 1⟩, ⟨5, 2, 2⟩], [⟨7, 1, 0, [4]⟩], [⟨5, 7, 0, 0, false⟩]⟩
def aw5 : St := ⟨⟨3, 3, 3, 3⟩, [⟨5, 2, 2⟩], [], []⟩
theorem aw1_do : doM aw0 ⟨0, 1, 2, 1, 0, [], 0, 0⟩ = (aw1, 0) := by rfl
theorem aw2_do : doM aw1 ⟨0, 5, 2, 2, 0, [], 0, 0⟩ = (aw2, 0) := by rfl
theorem aw3_do : doM aw2 ⟨2, 1, 0, 0, 7, [4], 0, 0⟩ = (aw3, 0) := by rfl
theorem aw4_do : doM aw3 ⟨5, 5, 0, 0, 7, [], 0, 0⟩ = (aw4, 0) := by rfl
theorem aw5_do : doM aw4 ⟨1, 1, 0, 0, 0, [], 0, 0⟩ = (aw5, 0) := by rfl
theorem aw6_do : doM aw4 ⟨2, 5, 0, 0, 8, [5], 0, 0⟩ = (aw4, 24) := by rfl
theorem aw_gone : goneM aw4 aw5 = [⟨5, 7, 0, 0, false⟩] := by rfl
theorem aw0_inv : Inv aw0 := inv_new _ ⟨by decide, by decide⟩ ⟨by decide, by decide⟩ ⟨by decide, by decide⟩ ⟨by decide, by decide⟩
theorem aw1_inv : Inv aw1 := inv_is aw1_do aw0_inv
theorem aw2_inv : Inv aw2 := inv_is aw2_do aw1_inv
theorem aw3_inv : Inv aw3 := inv_is aw3_do aw2_inv
theorem aw4_inv : Inv aw4 := inv_is aw4_do aw3_inv
theorem aw5_inv : Inv aw5 := inv_is aw5_do aw4_inv
theorem confOk3 : confOk ⟨3, 3, 3, 3⟩ = true := by rfl
set_option maxRecDepth 100000 in
set_option maxHeartbeats 4000000 in
theorem awake_any (w : World) : Calls Try.prog 9 #[] w fun e w' => e = .returned (.bool true) ∧ Upd [] w w' := by
  have hn := new_any w ⟨3, 3, 3, 3⟩
  rw [show confM ⟨3, 3, 3, 3⟩ = ⟨3, 3, 3, 3⟩ from rfl, confOk3] at hn
  have HN := Lib.hid hn
  clear hn
  go_enter Try.func9, Try.ntmps9
  go_wp2_with fail
  refine HN.out.mono ?_
  rintro e v0 ⟨rfl, hu0⟩
  have HU0 := Lib.hid hu0
  clear HN hu0
  rw [show scells (newM ⟨3, 3, 3, 3⟩) newHd = [.int .i64 3, .int .i64 3, .int .i64 3, .int .i64 3, .slice none 0 0, .slice none 0 0, .slice none 0 0] from rfl]
  go_upto_region 2 with fail
  obtain ⟨S, hS⟩ : ∃ S, S = v0.heap.size := ⟨_, rfl⟩
  obtain ⟨w0, hw0⟩ : ∃ W, W = v0.alloc (.cells #[.int .i64 3, .int .i64 3, .int .i64 3, .int .i64 3, .slice none 0 0, .slice none 0 0, .slice none 0 0] 31) := ⟨_, rfl⟩
  rw [← hS, ← hw0]
  have hx0 : Upd [] w w0 := HU0.out.next (by rw [hw0]; exact (Upd.refl [] v0).alloc _)
  have HX0 : Hid (Below w.heap.size w w0) := Lib.hid (hx0.below (Nat.le_refl _) (by simp))
  have HWS : Hid (w.heap.size ≤ S) := Lib.hid (by rw [hS]; exact HU0.out.size)
  obtain ⟨h0, hh0⟩ : ∃ h : SHd, h = newHd := ⟨_, rfl⟩
  have HB0 : Hid (Blk w0 S 31 (scells aw0 h0).toArray) := Lib.hid (by rw [hw0, hS, hh0]; exact Blk.new _ _ _)
  have HS0 : Hid (StAv w0 S aw0 h0) := Lib.hid (by rw [hh0]; exact ⟨⟨⟨CellsIn.nil _ _ _ _ _, fun _ => ⟨rfl, rfl⟩, Nat.le_refl _, by unfold newHd; dsimp only; omega⟩, ⟨CellsIn.nil _ _ _ _ _, fun _ => ⟨rfl, rfl⟩, Nat.le_refl _, by unfold newHd; dsimp only; omega⟩, ⟨CellsIn.nil _ _ _ _ _, fun _ => ⟨rfl, rfl⟩, Nat.le_refl _, by unfold newHd; dsimp only; omega⟩, rfl, fun x hx => (by cases hx)⟩, ⟨fun hn => absurd hn (by decide), fun hn => absurd hn (by decide), fun hn => absurd hn (by decide), fun x hx => (by cases hx)⟩⟩)
  clear hS hw0 hx0 hh0 HU0
  have p0 : w0.cell? ⟨S, 0, none⟩ = some (.int .i64 3) := HB0.out.cell 0
  have p1 : w0.cell? ⟨S, 1, none⟩ = some (.int .i64 3) := HB0.out.cell 1
  have p2 : w0.cell? ⟨S, 2, none⟩ = some (.int .i64 3) := HB0.out.cell 2
  have p3 : w0.cell? ⟨S, 3, none⟩ = some (.int .i64 3) := HB0.out.cell 3
  have p4 : w0.cell? ⟨S, 4, none⟩ = some (.slice h0.pA 0 h0.pc) := HB0.out.cell 4
  have p5 : w0.cell? ⟨S, 5, none⟩ = some (.slice h0.tA 0 h0.tc) := HB0.out.cell 5
  have p6 : w0.cell? ⟨S, 6, none⟩ = some (.slice h0.bA 0 h0.bc) := HB0.out.cell 6
  have HD : Hid _ := Lib.hid (do_av aw1_do HS0.out HB0.out.lt aw0_inv (qin_nil w0 w0.heap.size _ _ _ _ _ _ _))
  unfold qcells at HD
  dsimp only [List.length_nil, List.length_cons] at HD
  rw [show scells aw0 h0 = [.int .i64 3, .int .i64 3, .int .i64 3, .int .i64 3, .slice h0.pA 0 h0.pc, .slice h0.tA 0 h0.tc, .slice h0.bA 0 h0.bc] from rfl] at HD
  go_wp2_with fail
  refine HD.out.mono ?_
  rintro e v1 ⟨h1, rfl, hst, hu⟩
  rw [show scells aw1 h1 = [.int .i64 3, .int .i64 3, .int .i64 3, .int .i64 3, .slice h1.pA 1 h1.pc, .slice h1.tA 0 h1.tc, .slice h1.bA 0 h1.bc] from rfl]
  have HST := Lib.hid hst
  have HU : Hid (Upd [] w0 v1) := Lib.hid (hu)
  clear hst hu HD p0 p1 p2 p3 p4 p5 p6
  have hbk := HB0.out.upd HU.out (by simp)
  have c0 : v1.cell? ⟨S, 0, none⟩ = some (.int .i64 3) := hbk.cell 0
  have c1 : v1.cell? ⟨S, 1, none⟩ = some (.int .i64 3) := hbk.cell 1
  have c2 : v1.cell? ⟨S, 2, none⟩ = some (.int .i64 3) := hbk.cell 2
  have c3 : v1.cell? ⟨S, 3, none⟩ = some (.int .i64 3) := hbk.cell 3
  have c4 : v1.cell? ⟨S, 4, none⟩ = some (.slice h0.pA 0 h0.pc) := hbk.cell 4
  have c5 : v1.cell? ⟨S, 5, none⟩ = some (.slice h0.tA 0 h0.tc) := hbk.cell 5
  have c6 : v1.cell? ⟨S, 6, none⟩ = some (.slice h0.bA 0 h0.bc) := hbk.cell 6
  have f0 := hbk.frozen 0
  have f1 := hbk.frozen 1
  have f2 := hbk.frozen 2
  have f3 := hbk.frozen 3
  have f4 := hbk.frozen 4
  have f5 := hbk.frozen 5
  have f6 := hbk.frozen 6
  have hb7 := box7 (s' := aw1) (h' := h1) hbk
  obtain ⟨w1, hw1⟩ : ∃ W, W = (((((((v1.setCell ⟨S, 0, none⟩ (.int .i64 3)).setCell ⟨S, 1, none⟩ (.int .i64 3)).setCell ⟨S, 2, none⟩ (.int .i64 3)).setCell ⟨S, 3, none⟩ (.int .i64 3)).setCell ⟨S, 4, none⟩ (.slice h1.pA 1 h1.pc)).setCell ⟨S, 5, none⟩ (.slice h1.tA 0 h1.tc)).setCell ⟨S, 6, none⟩ (.slice h1.bA 0 h1.bc)) := ⟨_, rfl⟩
  replace hb7 : Blk w1 S 31 (scells aw1 h1).toArray ∧ Upd [S] v1 w1 := by rw [hw1]; exact hb7
  have HW := Lib.hid hw1
  have HB1 := Lib.hid hb7.1
  have HX1 : Hid (Below w.heap.size w w1) := Lib.hid ((HX0.out.trans (HU.out.below HX0.out.size (by simp))).trans (hb7.2.below (Nat.le_trans HX0.out.size HU.out.size) (fun t ht => by rw [List.mem_singleton] at ht; subst ht; exact HWS.out)))
  have HS1 : Hid (StAv w1 S aw1 h1) := Lib.hid (HST.out.past hb7.2)
  clear hbk hb7 hw1 HST HU HB0 HS0 HX0
  go_upto_region 3 with fail
  rw [← HW.out]
  clear HW c0 c1 c2 c3 c4 c5 c6 f0 f1 f2 f3 f4 f5 f6
  have p0 : w1.cell? ⟨S, 0, none⟩ = some (.int .i64 3) := HB1.out.cell 0
  have p1 : w1.cell? ⟨S, 1, none⟩ = some (.int .i64 3) := HB1.out.cell 1
  have p2 : w1.cell? ⟨S, 2, none⟩ = some (.int .i64 3) := HB1.out.cell 2
  have p3 : w1.cell? ⟨S, 3, none⟩ = some (.int .i64 3) := HB1.out.cell 3
  have p4 : w1.cell? ⟨S, 4, none⟩ = some (.slice h1.pA 1 h1.pc) := HB1.out.cell 4
  have p5 : w1.cell? ⟨S, 5, none⟩ = some (.slice h1.tA 0 h1.tc) := HB1.out.cell 5
  have p6 : w1.cell? ⟨S, 6, none⟩ = some (.slice h1.bA 0 h1.bc) := HB1.out.cell 6
  have HD : Hid _ := Lib.hid (do_av aw2_do HS1.out HB1.out.lt aw1_inv (qin_nil w1 w1.heap.size _ _ _ _ _ _ _))
  unfold qcells at HD
  dsimp only [List.length_nil, List.length_cons] at HD
  rw [show scells aw1 h1 = [.int .i64 3, .int .i64 3, .int .i64 3, .int .i64 3, .slice h1.pA 1 h1.pc, .slice h1.tA 0 h1.tc, .slice h1.bA 0 h1.bc] from rfl] at HD
  go_wp2_with fail
  refine HD.out.mono ?_
  rintro e v2 ⟨h2, rfl, hst, hu⟩
  rw [show scells aw2 h2 = [.int .i64 3, .int .i64 3, .int .i64 3, .int .i64 3, .slice h2.pA 2 h2.pc, .slice h2.tA 0 h2.tc, .slice h2.bA 0 h2.bc] from rfl]
  have HST := Lib.hid hst
  have HU : Hid (Upd [] w1 v2) := Lib.hid (hu)
  clear hst hu HD p0 p1 p2 p3 p4 p5 p6
  have hbk := HB1.out.upd HU.out (by simp)
  have c0 : v2.cell? ⟨S, 0, none⟩ = some (.int .i64 3) := hbk.cell 0
  have c1 : v2.cell? ⟨S, 1, none⟩ = some (.int .i64 3) := hbk.cell 1
  have c2 : v2.cell? ⟨S, 2, none⟩ = some (.int .i64 3) := hbk.cell 2
  have c3 : v2.cell? ⟨S, 3, none⟩ = some (.int .i64 3) := hbk.cell 3
  have c4 : v2.cell? ⟨S, 4, none⟩ = some (.slice h1.pA 1 h1.pc) := hbk.cell 4
  have c5 : v2.cell? ⟨S, 5, none⟩ = some (.slice h1.tA 0 h1.tc) := hbk.cell 5
  have c6 : v2.cell? ⟨S, 6, none⟩ = some (.slice h1.bA 0 h1.bc) := hbk.cell 6
  have f0 := hbk.frozen 0
  have f1 := hbk.frozen 1
  have f2 := hbk.frozen 2
  have f3 := hbk.frozen 3
  have f4 := hbk.frozen 4
  have f5 := hbk.frozen 5
  have f6 := hbk.frozen 6
  have hb7 := box7 (s' := aw2) (h' := h2) hbk
  obtain ⟨w2, hw2⟩ : ∃ W, W = (((((((v2.setCell ⟨S, 0, none⟩ (.int .i64 3)).setCell ⟨S, 1, none⟩ (.int .i64 3)).setCell ⟨S, 2, none⟩ (.int .i64 3)).setCell ⟨S, 3, none⟩ (.int .i64 3)).setCell ⟨S, 4, none⟩ (.slice h2.pA 2 h2.pc)).setCell ⟨S, 5, none⟩ (.slice h2.tA 0 h2.tc)).setCell ⟨S, 6, none⟩ (.slice h2.bA 0 h2.bc)) := ⟨_, rfl⟩
  replace hb7 : Blk w2 S 31 (scells aw2 h2).toArray ∧ Upd [S] v2 w2 := by rw [hw2]; exact hb7
  have HW := Lib.hid hw2
  have HB2 := Lib.hid hb7.1
  have HX2 : Hid (Below w.heap.size w w2) := Lib.hid ((HX1.out.trans (HU.out.below HX1.out.size (by simp))).trans (hb7.2.below (Nat.le_trans HX1.out.size HU.out.size) (fun t ht => by rw [List.mem_singleton] at ht; subst ht; exact HWS.out)))
  have HS2 : Hid (StAv w2 S aw2 h2) := Lib.hid (HST.out.past hb7.2)
  clear hbk hb7 hw2 HST HU HB1 HS1 HX1
  go_upto_region 4 with fail
  rw [← HW.out]
  clear HW c0 c1 c2 c3 c4 c5 c6 f0 f1 f2 f3 f4 f5 f6
  have p0 : w2.cell? ⟨S, 0, none⟩ = some (.int .i64 3) := HB2.out.cell 0
  have p1 : w2.cell? ⟨S, 1, none⟩ = some (.int .i64 3) := HB2.out.cell 1
  have p2 : w2.cell? ⟨S, 2, none⟩ = some (.int .i64 3) := HB2.out.cell 2
  have p3 : w2.cell? ⟨S, 3, none⟩ = some (.int .i64 3) := HB2.out.cell 3
  have p4 : w2.cell? ⟨S, 4, none⟩ = some (.slice h2.pA 2 h2.pc) := HB2.out.cell 4
  have p5 : w2.cell? ⟨S, 5, none⟩ = some (.slice h2.tA 0 h2.tc) := HB2.out.cell 5
  have p6 : w2.cell? ⟨S, 6, none⟩ = some (.slice h2.bA 0 h2.bc) := HB2.out.cell 6
  obtain ⟨y3, hy3⟩ : ∃ W, W = w2.alloc (.cells #[.int .u32 4] 64) := ⟨_, rfl⟩
  obtain ⟨gy, hgy⟩ : ∃ g, g = w2.heap.size := ⟨_, rfl⟩
  have hyu : Upd [] w2 y3 := by rw [hy3]; exact (Upd.refl [] w2).alloc _
  have hyb : Blk y3 gy 64 #[.int .u32 4] := by rw [hy3, hgy]; exact Blk.new _ _ _
  have HD : Hid _ := Lib.hid (do_av aw3_do (HS2.out.upd hyu) (Nat.le_trans HB2.out.lt hyu.size) aw2_inv (qin_one (by decide) hyb _ _ _ _ _ _ _))
  have HYU := Lib.hid hyu
  unfold qcells at HD
  dsimp only [List.length_nil, List.length_cons] at HD
  rw [show scells aw2 h2 = [.int .i64 3, .int .i64 3, .int .i64 3, .int .i64 3, .slice h2.pA 2 h2.pc, .slice h2.tA 0 h2.tc, .slice h2.bA 0 h2.bc] from rfl] at HD
  have HYE := Lib.hid hy3
  have HGE := Lib.hid hgy
  clear hyu hyb hy3 hgy
  go_wp2_with fail
  rw [← HYE.out, ← HGE.out]
  refine HD.out.mono ?_
  rintro e v3 ⟨h3, rfl, hst, hu⟩
  rw [show scells aw3 h3 = [.int .i64 3, .int .i64 3, .int .i64 3, .int .i64 3, .slice h3.pA 2 h3.pc, .slice h3.tA 1 h3.tc, .slice h3.bA 0 h3.bc] from rfl]
  have HST := Lib.hid hst
  have HU : Hid (Upd [] w2 v3) := Lib.hid (HYU.out.next hu)
  clear hst hu HD p0 p1 p2 p3 p4 p5 p6
  have hbk := HB2.out.upd HU.out (by simp)
  have c0 : v3.cell? ⟨S, 0, none⟩ = some (.int .i64 3) := hbk.cell 0
  have c1 : v3.cell? ⟨S, 1, none⟩ = some (.int .i64 3) := hbk.cell 1
  have c2 : v3.cell? ⟨S, 2, none⟩ = some (.int .i64 3) := hbk.cell 2
  have c3 : v3.cell? ⟨S, 3, none⟩ = some (.int .i64 3) := hbk.cell 3
  have c4 : v3.cell? ⟨S, 4, none⟩ = some (.slice h2.pA 2 h2.pc) := hbk.cell 4
  have c5 : v3.cell? ⟨S, 5, none⟩ = some (.slice h2.tA 0 h2.tc) := hbk.cell 5
  have c6 : v3.cell? ⟨S, 6, none⟩ = some (.slice h2.bA 0 h2.bc) := hbk.cell 6
  have f0 := hbk.frozen 0
  have f1 := hbk.frozen 1
  have f2 := hbk.frozen 2
  have f3 := hbk.frozen 3
  have f4 := hbk.frozen 4
  have f5 := hbk.frozen 5
  have f6 := hbk.frozen 6
  have hb7 := box7 (s' := aw3) (h' := h3) hbk
  obtain ⟨w3, hw3⟩ : ∃ W, W = (((((((v3.setCell ⟨S, 0, none⟩ (.int .i64 3)).setCell ⟨S, 1, none⟩ (.int .i64 3)).setCell ⟨S, 2, none⟩ (.int .i64 3)).setCell ⟨S, 3, none⟩ (.int .i64 3)).setCell ⟨S, 4, none⟩ (.slice h3.pA 2 h3.pc)).setCell ⟨S, 5, none⟩ (.slice h3.tA 1 h3.tc)).setCell ⟨S, 6, none⟩ (.slice h3.bA 0 h3.bc)) := ⟨_, rfl⟩
  replace hb7 : Blk w3 S 31 (scells aw3 h3).toArray ∧ Upd [S] v3 w3 := by rw [hw3]; exact hb7
  have HW := Lib.hid hw3
  have HB3 := Lib.hid hb7.1
  have HX3 : Hid (Below w.heap.size w w3) := Lib.hid ((HX2.out.trans (HU.out.below HX2.out.size (by simp))).trans (hb7.2.below (Nat.le_trans HX2.out.size HU.out.size) (fun t ht => by rw [List.mem_singleton] at ht; subst ht; exact HWS.out)))
  have HS3 : Hid (StAv w3 S aw3 h3) := Lib.hid (HST.out.past hb7.2)
  clear hbk hb7 hw3 HST HU HB2 HS2 HX2
  go_upto_region 5 with fail
  rw [← HW.out]
  clear HW c0 c1 c2 c3 c4 c5 c6 f0 f1 f2 f3 f4 f5 f6
  clear HYE HGE HYU
  have p0 : w3.cell? ⟨S, 0, none⟩ = some (.int .i64 3) := HB3.out.cell 0
  have p1 : w3.cell? ⟨S, 1, none⟩ = some (.int .i64 3) := HB3.out.cell 1
  have p2 : w3.cell? ⟨S, 2, none⟩ = some (.int .i64 3) := HB3.out.cell 2
  have p3 : w3.cell? ⟨S, 3, none⟩ = some (.int .i64 3) := HB3.out.cell 3
  have p4 : w3.cell? ⟨S, 4, none⟩ = some (.slice h3.pA 2 h3.pc) := HB3.out.cell 4
  have p5 : w3.cell? ⟨S, 5, none⟩ = some (.slice h3.tA 1 h3.tc) := HB3.out.cell 5
  have p6 : w3.cell? ⟨S, 6, none⟩ = some (.slice h3.bA 0 h3.bc) := HB3.out.cell 6
  have HD : Hid _ := Lib.hid (do_av aw4_do HS3.out HB3.out.lt aw3_inv (qin_nil w3 w3.heap.size _ _ _ _ _ _ _))
  unfold qcells at HD
  dsimp only [List.length_nil, List.length_cons] at HD
  rw [show scells aw3 h3 = [.int .i64 3, .int .i64 3, .int .i64 3, .int .i64 3, .slice h3.pA 2 h3.pc, .slice h3.tA 1 h3.tc, .slice h3.bA 0 h3.bc] from rfl] at HD
  go_wp2_with fail
  refine HD.out.mono ?_
  rintro e v4 ⟨h4, rfl, hst, hu⟩
  rw [show scells aw4 h4 = [.int .i64 3, .int .i64 3, .int .i64 3, .int .i64 3, .slice h4.pA 2 h4.pc, .slice h4.tA 1 h4.tc, .slice h4.bA 1 h4.bc] from rfl]
  have HST := Lib.hid hst
  have HU : Hid (Upd [] w3 v4) := Lib.hid (hu)
  clear hst hu HD p0 p1 p2 p3 p4 p5 p6
  have hbk := HB3.out.upd HU.out (by simp)
  have c0 : v4.cell? ⟨S, 0, none⟩ = some (.int .i64 3) := hbk.cell 0
  have c1 : v4.cell? ⟨S, 1, none⟩ = some (.int .i64 3) := hbk.cell 1
  have c2 : v4.cell? ⟨S, 2, none⟩ = some (.int .i64 3) := hbk.cell 2
  have c3 : v4.cell? ⟨S, 3, none⟩ = some (.int .i64 3) := hbk.cell 3
  have c4 : v4.cell? ⟨S, 4, none⟩ = some (.slice h3.pA 2 h3.pc) := hbk.cell 4
  have c5 : v4.cell? ⟨S, 5, none⟩ = some (.slice h3.tA 1 h3.tc) := hbk.cell 5
  have c6 : v4.cell? ⟨S, 6, none⟩ = some (.slice h3.bA 0 h3.bc) := hbk.cell 6
  have f0 := hbk.frozen 0
  have f1 := hbk.frozen 1
  have f2 := hbk.frozen 2
  have f3 := hbk.frozen 3
  have f4 := hbk.frozen 4
  have f5 := hbk.frozen 5
  have f6 := hbk.frozen 6
  have hb7 := box7 (s' := aw4) (h' := h4) hbk
  obtain ⟨w4, hw4⟩ : ∃ W, W = (((((((v4.setCell ⟨S, 0, none⟩ (.int .i64 3)).setCell ⟨S, 1, none⟩ (.int .i64 3)).setCell ⟨S, 2, none⟩ (.int .i64 3)).setCell ⟨S, 3, none⟩ (.int .i64 3)).setCell ⟨S, 4, none⟩ (.slice h4.pA 2 h4.pc)).setCell ⟨S, 5, none⟩ (.slice h4.tA 1 h4.tc)).setCell ⟨S, 6, none⟩ (.slice h4.bA 1 h4.bc)) := ⟨_, rfl⟩
  replace hb7 : Blk w4 S 31 (scells aw4 h4).toArray ∧ Upd [S] v4 w4 := by rw [hw4]; exact hb7
  have HW := Lib.hid hw4
  have HB4 := Lib.hid hb7.1
  have HX4 : Hid (Below w.heap.size w w4) := Lib.hid ((HX3.out.trans (HU.out.below HX3.out.size (by simp))).trans (hb7.2.below (Nat.le_trans HX3.out.size HU.out.size) (fun t ht => by rw [List.mem_singleton] at ht; subst ht; exact HWS.out)))
  have HS4 : Hid (StAv w4 S aw4 h4) := Lib.hid (HST.out.past hb7.2)
  clear hbk hb7 hw4 HST HU HB3 HS3 HX3
  go_upto_region 6 with fail
  rw [← HW.out]
  clear HW c0 c1 c2 c3 c4 c5 c6 f0 f1 f2 f3 f4 f5 f6
  have p0 : w4.cell? ⟨S, 0, none⟩ = some (.int .i64 3) := HB4.out.cell 0
  have p1 : w4.cell? ⟨S, 1, none⟩ = some (.int .i64 3) := HB4.out.cell 1
  have p2 : w4.cell? ⟨S, 2, none⟩ = some (.int .i64 3) := HB4.out.cell 2
  have p3 : w4.cell? ⟨S, 3, none⟩ = some (.int .i64 3) := HB4.out.cell 3
  have p4 : w4.cell? ⟨S, 4, none⟩ = some (.slice h4.pA 2 h4.pc) := HB4.out.cell 4
  have p5 : w4.cell? ⟨S, 5, none⟩ = some (.slice h4.tA 1 h4.tc) := HB4.out.cell 5
  have p6 : w4.cell? ⟨S, 6, none⟩ = some (.slice h4.bA 1 h4.bc) := HB4.out.cell 6
  have HD : Hid _ := Lib.hid (do_av aw5_do HS4.out HB4.out.lt aw4_inv (qin_nil w4 w4.heap.size _ _ _ _ _ _ _))
  unfold qcells at HD
  dsimp only [List.length_nil, List.length_cons] at HD
  rw [show scells aw4 h4 = [.int .i64 3, .int .i64 3, .int .i64 3, .int .i64 3, .slice h4.pA 2 h4.pc, .slice h4.tA 1 h4.tc, .slice h4.bA 1 h4.bc] from rfl] at HD
  go_wp2_with fail
  refine HD.out.mono ?_
  rintro e v5 ⟨h5, rfl, hst, hu⟩
  rw [show scells aw5 h5 = [.int .i64 3, .int .i64 3, .int .i64 3, .int .i64 3, .slice h5.pA 1 h5.pc, .slice h5.tA 0 h5.tc, .slice h5.bA 0 h5.bc] from rfl]
  have HST := Lib.hid hst
  have HU : Hid (Upd [] w4 v5) := Lib.hid (hu)
  clear hst hu HD p0 p1 p2 p3 p4 p5 p6
  go_upto_region 7 with fail
  obtain ⟨V, hV⟩ : ∃ V, V = v5.heap.size := ⟨_, rfl⟩
  obtain ⟨w5, hw5⟩ : ∃ W, W = v5.alloc (.cells #[.int .i64 3, .int .i64 3, .int .i64 3, .int .i64 3, .slice h5.pA 1 h5.pc, .slice h5.tA 0 h5.tc, .slice h5.bA 0 h5.bc] 31) := ⟨_, rfl⟩
  rw [← hV, ← hw5]
  have u5 : Upd [] v5 w5 := by rw [hw5]; exact (Upd.refl [] v5).alloc _
  have u45 := HU.out.next u5
  have HB5 : Hid (Blk w5 S 31 (scells aw4 h4).toArray) := Lib.hid (HB4.out.upd u45 (by simp))
  have HV5 : Hid (Blk w5 V 31 (scells aw5 h5).toArray) := Lib.hid (by rw [hw5, hV]; exact Blk.new _ _ _)
  have HS5 : Hid (StAv w5 S aw4 h4) := Lib.hid (HS4.out.upd u45)
  have HT5 : Hid (StAv w5 S aw5 h5) := Lib.hid (HST.out.upd u5)
  have HX5 : Hid (Below w.heap.size w w5) := Lib.hid (HX4.out.trans (u45.below HX4.out.size (by simp)))
  clear hV hw5 u5 u45 HU HST HB4 HS4 HX4
  have p0 : w5.cell? ⟨S, 0, none⟩ = some (.int .i64 3) := HB5.out.cell 0
  have p1 : w5.cell? ⟨S, 1, none⟩ = some (.int .i64 3) := HB5.out.cell 1
  have p2 : w5.cell? ⟨S, 2, none⟩ = some (.int .i64 3) := HB5.out.cell 2
  have p3 : w5.cell? ⟨S, 3, none⟩ = some (.int .i64 3) := HB5.out.cell 3
  have p4 : w5.cell? ⟨S, 4, none⟩ = some (.slice h4.pA 2 h4.pc) := HB5.out.cell 4
  have p5 : w5.cell? ⟨S, 5, none⟩ = some (.slice h4.tA 1 h4.tc) := HB5.out.cell 5
  have p6 : w5.cell? ⟨S, 6, none⟩ = some (.slice h4.bA 1 h4.bc) := HB5.out.cell 6
  have q0 : w5.cell? ⟨V, 0, none⟩ = some (.int .i64 3) := HV5.out.cell 0
  have q1 : w5.cell? ⟨V, 1, none⟩ = some (.int .i64 3) := HV5.out.cell 1
  have q2 : w5.cell? ⟨V, 2, none⟩ = some (.int .i64 3) := HV5.out.cell 2
  have q3 : w5.cell? ⟨V, 3, none⟩ = some (.int .i64 3) := HV5.out.cell 3
  have q4 : w5.cell? ⟨V, 4, none⟩ = some (.slice h5.pA 1 h5.pc) := HV5.out.cell 4
  have q5 : w5.cell? ⟨V, 5, none⟩ = some (.slice h5.tA 0 h5.tc) := HV5.out.cell 5
  have q6 : w5.cell? ⟨V, 6, none⟩ = some (.slice h5.bA 0 h5.bc) := HV5.out.cell 6
  have HD := Lib.hid (gone_any HS5.out.st HT5.out.st (by decide) (by decide) aw5_inv.ub)
  rw [show scells aw4 h4 = [.int .i64 3, .int .i64 3, .int .i64 3, .int .i64 3, .slice h4.pA 2 h4.pc, .slice h4.tA 1 h4.tc, .slice h4.bA 1 h4.bc] from rfl, show scells aw5 h5 = [.int .i64 3, .int .i64 3, .int .i64 3, .int .i64 3, .slice h5.pA 1 h5.pc, .slice h5.tA 0 h5.tc, .slice h5.bA 0 h5.bc] from rfl, aw_gone] at HD
  dsimp only [List.length_nil, List.length_cons] at HD
  go_wp2_with fail
  refine HD.out.mono ?_
  rintro e v6 ⟨GA, gc, rfl, hgr, hu6⟩
  have HB6 := Lib.hid (HB5.out.upd hu6 (by simp))
  have HV6 := Lib.hid (HV5.out.upd hu6 (by simp))
  have HS6 := Lib.hid (HS5.out.upd hu6)
  have HX6 : Hid (Below w.heap.size w v6) := Lib.hid (HX5.out.trans (hu6.below HX5.out.size (by simp)))
  have HG6 := Lib.hid hgr
  clear hgr hu6 HD HB5 HV5 HS5 HX5 HT5 p0 p1 p2 p3 p4 p5 p6 q0 q1 q2 q3 q4 q5 q6
  go_upto_region 8 with fail
  have p0 : v6.cell? ⟨S, 0, none⟩ = some (.int .i64 3) := HB6.out.cell 0
  have p1 : v6.cell? ⟨S, 1, none⟩ = some (.int .i64 3) := HB6.out.cell 1
  have p2 : v6.cell? ⟨S, 2, none⟩ = some (.int .i64 3) := HB6.out.cell 2
  have p3 : v6.cell? ⟨S, 3, none⟩ = some (.int .i64 3) := HB6.out.cell 3
  have p4 : v6.cell? ⟨S, 4, none⟩ = some (.slice h4.pA 2 h4.pc) := HB6.out.cell 4
  have p5 : v6.cell? ⟨S, 5, none⟩ = some (.slice h4.tA 1 h4.tc) := HB6.out.cell 5
  have p6 : v6.cell? ⟨S, 6, none⟩ = some (.slice h4.bA 1 h4.bc) := HB6.out.cell 6
  obtain ⟨y7, hy7⟩ : ∃ W, W = v6.alloc (.cells #[.int .u32 5] 64) := ⟨_, rfl⟩
  obtain ⟨gy, hgy⟩ : ∃ g, g = v6.heap.size := ⟨_, rfl⟩
  have hyu : Upd [] v6 y7 := by rw [hy7]; exact (Upd.refl [] v6).alloc _
  have hyb : Blk y7 gy 64 #[.int .u32 5] := by rw [hy7, hgy]; exact Blk.new _ _ _
  have HD : Hid _ := Lib.hid (do_av aw6_do (HS6.out.upd hyu) (Nat.le_trans HB6.out.lt hyu.size) aw4_inv (qin_one (by decide) hyb _ _ _ _ _ _ _))
  have HYU := Lib.hid hyu
  unfold qcells at HD
  dsimp only [List.length_nil, List.length_cons] at HD
  rw [show scells aw4 h4 = [.int .i64 3, .int .i64 3, .int .i64 3, .int .i64 3, .slice h4.pA 2 h4.pc, .slice h4.tA 1 h4.tc, .slice h4.bA 1 h4.bc] from rfl] at HD
  have HYE := Lib.hid hy7
  have HGE := Lib.hid hgy
  clear hyu hyb hy7 hgy
  go_wp2_with fail
  rw [← HYE.out, ← HGE.out]
  refine HD.out.mono ?_
  rintro e v7 ⟨h7, rfl, hst, hu⟩
  rw [show scells aw4 h7 = [.int .i64 3, .int .i64 3, .int .i64 3, .int .i64 3, .slice h7.pA 2 h7.pc, .slice h7.tA 1 h7.tc, .slice h7.bA 1 h7.bc] from rfl]
  have HST := Lib.hid hst
  have HU : Hid (Upd [] v6 v7) := Lib.hid (HYU.out.next hu)
  clear hst hu HD p0 p1 p2 p3 p4 p5 p6
  clear HYE HGE HYU
  go_upto_region 9 with fail
  obtain ⟨w7, hw7⟩ : ∃ W, W = v7.alloc (.cells #[.int .i64 3, .int .i64 3, .int .i64 3, .int .i64 3, .slice h7.pA 2 h7.pc, .slice h7.tA 1 h7.tc, .slice h7.bA 1 h7.bc] 31) := ⟨_, rfl⟩
  rw [← hw7]
  have u7 : Upd [] v7 w7 := by rw [hw7]; exact (Upd.refl [] v7).alloc _
  have u67 := HU.out.next u7
  have HX7 : Hid (Below w.heap.size w w7) := Lib.hid (HX6.out.trans (u67.below HX6.out.size (by simp)))
  have hb7 := HB6.out.upd u67 (by simp)
  have hv7 := HV6.out.upd u67 (by simp)
  have hg7 := HG6.out.upd u67
  have p6 : w7.cell? ⟨S, 6, none⟩ = some (.slice h4.bA 1 h4.bc) := hb7.cell 6
  have q4 : w7.cell? ⟨V, 4, none⟩ = some (.slice h5.pA 1 h5.pc) := hv7.cell 4
  have q5 : w7.cell? ⟨V, 5, none⟩ = some (.slice h5.tA 0 h5.tc) := hv7.cell 5
  have q6 : w7.cell? ⟨V, 6, none⟩ = some (.slice h5.bA 0 h5.bc) := hv7.cell 6
  obtain ⟨gb, go, rfl, _, _, hcc⟩ := hg7.l.2 (by omega)
  have g0 : w7.cell? ⟨gb, go, none⟩ = some (.int .i64 5) := hcc 0 _ rfl
  clear hb7 hv7 hg7 hcc hw7 u7 u67 HB6 HV6 HS6 HX6 HG6 HU HST
  go_wp2
  go_ret
  exact ⟨rfl, Upd.of_below HX7.out⟩
end Go.Proofs.Ytjcbaelefacolaa
/- Arguments opened to cells: integers, slices of elements of so many one-cell parts. Plain laws on readings. -/
namespace Go.Proofs.Ytjcbaelefacolaa
open Go Go.RowKit Go.ChangeShapes Go.WideShapes Go.Deep

theorem flat_one {α β : Type} (f : α → β) (l : List α) : l.flatMap (fun a => [f a]) = l.map f := by
  induction l with
  | nil => rfl
  | cons a l ih => rw [List.flatMap_cons, ih]; rfl

theorem cell_lt {w : World} {a : Addr} {v : Value} (h : w.cell? a = some v) : a.block < w.heap.size := by
  rcases Nat.lt_or_ge a.block w.heap.size with h1 | h1
  · exact h1
  · exfalso
    have h2 : w.heap[a.block]? = none := Array.getElem?_eq_none h1
    have h3 := World.cell?_of_block (w := w) (w' := { w with heap := #[] }) (a := a) (by rw [h2]; rfl)
    rw [h] at h3
    have h4 : (({ w with heap := #[] } : World).cell? a) = none := by simp [World.cell?]
    rw [h4] at h3
    cases h3

section
variable {H : Type} {enc : TypeId × Value → H} {P : Program} {w : World} {base : Nat} {spare : Nat → Bool} {held : Bool}

/-- A slice, element by element: whatever of an element's cells the reading tells. -/
theorem rd_slice {α : Type} {t e : TypeId} {size fuel : Nat} {cs : List Value} {x : DataW H × List MemPlace} (R : List Value → α → Prop) (ht : P.underlying t = some (.slice e)) (hC : P.cellsOf e = size) (h0 : 0 < size)
    (hR : ∀ n cs' y, cs'.length = size → DataW.trod enc P w base spare held n e cs' = some y → ∃ z, R cs' z) (hf : DataW.trod enc P w base spare held fuel t cs = some x) :
    ∃ (A : Option Addr) (len cap : Nat) (l : List α), cs = [.slice A len cap] ∧ len ≤ cap ∧ cap ≤ maxLen ∧ l.length = len ∧
      (0 < len → ∃ b off, A = some ⟨b, off, none⟩ ∧ b < w.heap.size ∧ ∀ (i : Nat) (z : α), l[i]? = some z → ∃ ci, R ci z ∧ ci.length = size ∧ ∀ j, j < size → w.cell? ⟨b, off + i * size + j, none⟩ = ci[j]?) := by
  rcases open_slice ht hf with ⟨hcs, _⟩ | ⟨a, len, cap, m, n, D, Pl, hcs, hb, hl, hm, hmm, hx, hi⟩
  · exact ⟨none, 0, 0, [], hcs, Nat.le_refl _, Nat.zero_le _, rfl, fun h => absurd h (Nat.lt_irrefl 0)⟩
  · have hlm : len ≤ m := by rw [hmm]; split <;> omega
    have each : ∀ i, i < len → ∃ z ci, R ci z ∧ ci.length = size ∧ ∀ j, j < size → w.cell? ((a.add (i * size)).add j) = ci[j]? := by
      intro i hil
      obtain ⟨cs', hc, ht'⟩ := hi i (by omega)
      rw [hC] at hc
      obtain ⟨_, hcl, hat⟩ := World.cells?_some hc
      obtain ⟨z, hz⟩ := hR n cs' _ hcl ht'
      exact ⟨z, cs', hz, hcl, hat⟩
    have list : ∀ k, k ≤ len → ∃ l : List α, l.length = k ∧ ∀ (i : Nat) (z : α), l[i]? = some z → ∃ ci, R ci z ∧ ci.length = size ∧ ∀ j, j < size → w.cell? ((a.add (i * size)).add j) = ci[j]? := by
      intro k
      induction k with
      | zero => intro _; exact ⟨[], rfl, fun i z h => by simp at h⟩
      | succ k ih =>
        intro hk
        obtain ⟨l, hll, hla⟩ := ih (by omega)
        obtain ⟨z, hz⟩ := each k (by omega)
        refine ⟨l ++ [z], by simp [hll], fun i y hy => ?_⟩
        rcases Nat.lt_or_ge i l.length with h1 | h1
        · rw [List.getElem?_append_left h1] at hy
          exact hla i y hy
        · rw [List.getElem?_append_right h1] at hy
          have h2 : i - l.length = 0 := by
            rcases Nat.eq_zero_or_pos (i - l.length) with h | h
            · exact h
            · rw [List.getElem?_eq_none (by simp; omega)] at hy; cases hy
          rw [h2] at hy
          obtain rfl : z = y := by simpa using hy
          obtain rfl : i = k := by omega
          exact hz
    obtain ⟨l, hll, hla⟩ := list len (Nat.le_refl _)
    refine ⟨some a, len, cap, l, hcs, hl, hm, hll, fun hpos => ?_⟩
    have hl0 : 0 < l.length := by omega
    obtain ⟨c0, _, hcl, h00⟩ := hla 0 l[0] (List.getElem?_eq_getElem hl0)
    have hcell := h00 0 h0
    rw [List.getElem?_eq_getElem (by omega)] at hcell
    have hadd : (a.add (0 * size)).add 0 = a := by simp [Addr.add]
    rw [hadd] at hcell
    have hspot := World.cell?_spot hcell
    obtain ⟨b, off, spot⟩ := a
    dsimp only at hspot
    subst hspot
    refine ⟨b, off, rfl, cell_lt hcell, fun i z hz => ?_⟩
    obtain ⟨ci, hr, hc1, hc2⟩ := hla i z hz
    refine ⟨ci, hr, hc1, fun j hj => ?_⟩
    have := hc2 j hj
    rw [← this]
    unfold Addr.add
    by_cases e1 : i * size = 0 <;> by_cases e2 : j = 0 <;> simp [e1, e2, Nat.add_assoc]

/-- .. where the cells are a function of what they read as. -/
theorem rd_cells {α : Type} {t e : TypeId} {size fuel : Nat} {cs : List Value} {x : DataW H × List MemPlace} (f : α → List Value) (ht : P.underlying t = some (.slice e)) (hC : P.cellsOf e = size) (h0 : 0 < size)
    (hR : ∀ n cs' y, cs'.length = size → DataW.trod enc P w base spare held n e cs' = some y → ∃ z, cs' = f z) (hlen : ∀ z, (f z).length = size) (hf : DataW.trod enc P w base spare held fuel t cs = some x) :
    ∃ (A : Option Addr) (len cap : Nat) (l : List α), cs = [.slice A len cap] ∧ len ≤ cap ∧ cap ≤ maxLen ∧ l.length = len ∧ Cells w w.heap.size size A len (l.flatMap f) := by
  obtain ⟨A, len, cap, l, h1, h2, h3, h4, h5⟩ := rd_slice (fun c z => c = f z) ht hC h0 hR hf
  have hfl : ∀ l : List α, (l.flatMap f).length = l.length * size := by
    intro l
    induction l with
    | nil => simp
    | cons a l ih => rw [List.flatMap_cons, List.length_append, ih, hlen, List.length_cons, Nat.succ_mul, Nat.add_comm]
  have hget : ∀ (l : List α) (i j : Nat) (z : α), l[i]? = some z → j < size → (l.flatMap f)[i * size + j]? = (f z)[j]? := by
    intro l
    induction l with
    | nil => intro i j z h; simp at h
    | cons a l ih =>
      intro i j z h hj
      rw [List.flatMap_cons]
      cases i with
      | zero =>
        obtain rfl : a = z := by simpa using h
        rw [Nat.zero_mul, Nat.zero_add, List.getElem?_append_left (by rw [hlen]; exact hj)]
      | succ i =>
        rw [List.getElem?_append_right (by rw [hlen, Nat.succ_mul]; omega), hlen, Nat.succ_mul, show i * size + size + j - size = i * size + j by omega]
        exact ih i j z (by simpa using h) hj
  refine ⟨A, len, cap, l, h1, h2, h3, h4, by rw [hfl, h4], fun hpos => ?_⟩
  obtain ⟨b, off, hA, hb, hc⟩ := h5 hpos
  refine ⟨b, off, hA, hb, fun j u hu => ?_⟩
  have hjl : j < l.length * size := by
    rcases Nat.lt_or_ge j (l.length * size) with h | h
    · exact h
    · rw [List.getElem?_eq_none (by rw [hfl]; exact h)] at hu; cases hu
  have hdiv : j / size < l.length := Nat.div_lt_of_lt_mul (by rw [Nat.mul_comm]; exact hjl)
  have hmod : j % size < size := Nat.mod_lt _ h0
  have hj : j = j / size * size + j % size := by rw [Nat.mul_comm]; exact (Nat.div_add_mod j size).symm
  obtain ⟨ci, hci, _, hcj⟩ := hc (j / size) l[j / size] (List.getElem?_eq_getElem hdiv)
  have h6 := hcj (j % size) hmod
  rw [Nat.add_assoc, ← hj] at h6
  rw [h6, hci]
  rw [hj, hget l _ _ _ (List.getElem?_eq_getElem hdiv) hmod] at hu
  exact hu

theorem rd_int {t : TypeId} {n : Nat} {cs : List Value} {y : DataW H × List MemPlace} {k : IntKind} (ht : P.underlying t = some (.int k)) (h : DataW.trod enc P w base spare held n t cs = some y) :
    ∃ z : Int, cs = [.int k z] ∧ (Lit.int k z).wf = true := by
  obtain ⟨z, h1, _, h3⟩ := DataW.trod_int ht h
  exact ⟨z, h1, h3⟩

/-- A struct of one-cell fields: each field's cell, with its own reading. -/
theorem rd_struct {t : TypeId} {fs : Array Field} {n : Nat} {cs : List Value} {y : DataW H × List MemPlace} (ht : P.underlying t = some (.struct fs)) (hone : oneCellFields P fs = true)
    (h : DataW.trod enc P w base spare held n t cs = some y) : ∃ m, ∀ (j : Nat) (f : Field) (v : Value), fs[j]? = some f → cs[j]? = some v → ∃ z, DataW.trod enc P w base spare held m f.type [v] = some z := by
  obtain ⟨ys, n', _, _, _, hyl, hf⟩ := DataW.trod_struct ht h
  refine ⟨n', fun j f v hj hv => ?_⟩
  obtain ⟨ho, hk⟩ := hone_of hone j f hj
  have h1 := hf j f hj
  rw [ho, hk] at h1
  have hjl : j < fs.size := (Array.getElem?_eq_some_iff.1 hj).1
  obtain ⟨hjc, hv'⟩ := List.getElem?_eq_some_iff.1 hv
  have h2 : (cs.drop j).take 1 = [v] := by
    rw [List.drop_eq_getElem_cons hjc, hv']; rfl
  rw [h2, List.getElem?_eq_getElem (by omega)] at h1
  exact ⟨_, h1⟩
end

end Go.Proofs.Ytjcbaelefacolaa
/- A struct with fields of several cells, field by field. Plain law on readings. -/
namespace Go.Proofs.Ytjcbaelefacolaa
open Go Go.RowKit Go.ChangeShapes Go.WideShapes Go.Deep

section
variable {H : Type} {enc : TypeId × Value → H} {P : Program} {w : World} {base : Nat} {spare : Nat → Bool} {held : Bool}
theorem rd_fields {t : TypeId} {fs : Array Field} {n : Nat} {cs : List Value} {y : DataW H × List MemPlace} (ht : P.underlying t = some (.struct fs))
    (h : DataW.trod enc P w base spare held n t cs = some y) : ∃ m, ∀ (j : Nat) (f : Field) (e : TypeId) (o k : Nat), fs[j]? = some f → f.type = e → f.offset = o → P.cellsOf e = k → ∃ z, DataW.trod enc P w base spare held m e ((cs.drop o).take k) = some z := by
  obtain ⟨ys, n', _, _, _, hyl, hf⟩ := DataW.trod_struct ht h
  refine ⟨n', fun j f e o k hj he ho hk => ?_⟩
  have h1 := hf j f hj
  rw [ho, he, hk] at h1
  have hjl : j < fs.size := (Array.getElem?_eq_some_iff.1 hj).1
  rw [List.getElem?_eq_getElem (by omega)] at h1
  exact ⟨_, h1⟩
end
end Go.Proofs.Ytjcbaelefacolaa
/- Requests, and how many there may be, that came in as arguments: where they and their rows lie. Plain law on readings. -/
namespace Go.Proofs.Ytjcbaelefacolaa
open Go Go.RowKit Go.ChangeShapes Go.WideShapes Go.Deep
set_option maxHeartbeats 1000000

theorem CellsIn.came {w : World} {size n : Nat} {A : Option Addr} {xs : List Value} (h : Cells w w.heap.size size A n xs) : CellsIn w 0 w.heap.size size A n xs :=
  ⟨h.1, fun hn => by
    obtain ⟨b, off, e, hlt, hc⟩ := h.2 hn
    exact ⟨b, off, e, Nat.zero_le _, hlt, hc⟩⟩
theorem wf_u32n {z : Int} (h : (Lit.int .u32 z).wf = true) : 0 ≤ z := by
  have := bounds_u32 h
  omega
/-- a request that came in: its SSRCs lie in memory -/
structure RqIn (w : World) (q : Rq) (h : SH) : Prop where
  row : RwIn w 0 1 h.A q.ss.length h.c (q.ss.map (Value.int .u32))
  pos : ∀ x, x ∈ q.ss → 0 ≤ x
theorem RqIn.below {w w' : World} {q : Rq} {h : SH} (k : RqIn w q h) (u : Below w.heap.size w w') : RqIn w' q h := ⟨k.row.below u, k.pos⟩
theorem RqIn.q {w : World} {q : Rq} {h : SH} (k : RqIn w q h) (hf : q.ss.length ≤ 6) : QIn w w.heap.size q h := ⟨k.row.l, k.row.nl, k.row.le, k.row.cm, k.pos, hf⟩
section
variable {H : Type} {enc : TypeId × Value → H} {w : World} {base : Nat} {spare : Nat → Bool} {held : Bool}
theorem rd_nil {P : Program} {t e : TypeId} {fuel : Nat} {A : Option Addr} {n c : Nat} {x : DataW H × List MemPlace} (ht : P.underlying t = some (.slice e)) (hf : DataW.trod enc P w base spare held fuel t [.slice A n c] = some x) : A = none → n = 0 ∧ c = 0 := by
  rintro rfl
  rcases open_slice ht hf with ⟨hcs, _⟩ | ⟨a, len, cap, m, n', D, Pl, hcs, _⟩
  · simp at hcs; exact hcs
  · simp at hcs
theorem rd_ss {fuel : Nat} {cs : List Value} {x : DataW H × List MemPlace} (hf : DataW.trod enc Try.prog w base spare held fuel 43 cs = some x) :
    ∃ (h : SH) (l : List Int), cs = [.slice h.A l.length h.c] ∧ RwIn w 0 1 h.A l.length h.c (l.map (Value.int .u32)) ∧ ∀ x ∈ l, 0 ≤ x := by
  obtain ⟨A, len, cap, l, hcs, hlc, hm, hll, hc⟩ := rd_cells (α := { x : Int // 0 ≤ x }) (fun a => [.int .u32 a.1]) (size := 1) Try.underlying43 (by kernel_rfl) (by omega) (fun n cs y hcl hy => by
    obtain ⟨z, e, wz⟩ := rd_int Try.underlying64 hy
    exact ⟨⟨z, wf_u32n wz⟩, e⟩) (fun _ => rfl) hf
  have hl' : (l.map (·.1)).length = len := by rw [List.length_map]; exact hll
  subst hcs
  have hnl := rd_nil Try.underlying43 hf
  refine ⟨⟨A, cap⟩, l.map (·.1), by rw [hl'], ⟨?_, ?_, by rw [hl']; exact hlc, by unfold maxLen at hm; dsimp only; omega⟩, fun r hr => ?_⟩
  · have e : (l.map (·.1)).map (Value.int .u32) = l.flatMap fun a => [.int .u32 a.1] := by
      rw [flat_one (fun a : { x : Int // 0 ≤ x } => Value.int .u32 a.1), List.map_map]; rfl
    rw [hl', e]; exact CellsIn.came hc
  · rw [hl']; exact hnl
  · obtain ⟨a, _, rfl⟩ := List.mem_map.1 hr
    exact a.2
theorem rd_req {n : Nat} {cs : List Value} {y : DataW H × List MemPlace} (hcl : cs.length = 8) (hy : DataW.trod enc Try.prog w base spare held n 45 cs = some y) : ∃ z : { x : Rq × SH // RqIn w x.1 x.2 }, cs = encQ z.1 := by
  obtain ⟨m, hm⟩ := rd_fields (n := n) (fs := _) Try.underlying45 hy
  match cs, hcl with
  | [c0, c1, c2, c3, c4, c5, c6, c7], _ =>
    obtain ⟨y0, hy0⟩ := hm 0 _ 3 0 1 rfl rfl rfl (by kernel_rfl)
    obtain ⟨y1, hy1⟩ := hm 1 _ 3 1 1 rfl rfl rfl (by kernel_rfl)
    obtain ⟨y2, hy2⟩ := hm 2 _ 3 2 1 rfl rfl rfl (by kernel_rfl)
    obtain ⟨y3, hy3⟩ := hm 3 _ 3 3 1 rfl rfl rfl (by kernel_rfl)
    obtain ⟨y4, hy4⟩ := hm 4 _ 3 4 1 rfl rfl rfl (by kernel_rfl)
    obtain ⟨y5, hy5⟩ := hm 5 _ 43 5 1 rfl rfl rfl (by kernel_rfl)
    obtain ⟨y6, hy6⟩ := hm 6 _ 3 6 1 rfl rfl rfl (by kernel_rfl)
    obtain ⟨y7, hy7⟩ := hm 7 _ 3 7 1 rfl rfl rfl (by kernel_rfl)
    obtain ⟨z0, e0, _⟩ := rd_int Try.underlying3 hy0
    obtain ⟨z1, e1, _⟩ := rd_int Try.underlying3 hy1
    obtain ⟨z2, e2, _⟩ := rd_int Try.underlying3 hy2
    obtain ⟨z3, e3, _⟩ := rd_int Try.underlying3 hy3
    obtain ⟨z4, e4, _⟩ := rd_int Try.underlying3 hy4
    obtain ⟨h5, l5, e5, r5, n5⟩ := rd_ss hy5
    obtain ⟨z6, e6, _⟩ := rd_int Try.underlying3 hy6
    obtain ⟨z7, e7, _⟩ := rd_int Try.underlying3 hy7
    have f0 : c0 = _ := (List.cons.inj e0).1
    have f1 : c1 = _ := (List.cons.inj e1).1
    have f2 : c2 = _ := (List.cons.inj e2).1
    have f3 : c3 = _ := (List.cons.inj e3).1
    have f4 : c4 = _ := (List.cons.inj e4).1
    have f5 : c5 = _ := (List.cons.inj e5).1
    have f6 : c6 = _ := (List.cons.inj e6).1
    have f7 : c7 = _ := (List.cons.inj e7).1
    exact ⟨⟨(⟨z0, z1, z2, z3, z4, l5, z6, z7⟩, h5), ⟨r5, n5⟩⟩, by rw [f0, f1, f2, f3, f4, f5, f6, f7]; rfl⟩
theorem open_reqs {fuel : Nat} {cs : List Value} {x : DataW H × List MemPlace} (hf : DataW.trod enc Try.prog w base spare held fuel 24 cs = some x) :
    ∃ (A : Option Addr) (c : Nat) (l : List (Rq × SH)), cs = [.slice A l.length c] ∧ l.length ≤ c ∧ c ≤ maxLen ∧ CellsIn w 0 w.heap.size 8 A l.length (l.flatMap encQ) ∧ ∀ x ∈ l, RqIn w x.1 x.2 := by
  obtain ⟨A, len, cap, l, hcs, hlc, hm, hll, hc⟩ := rd_cells (α := { x : Rq × SH // RqIn w x.1 x.2 }) (fun a => encQ a.1) (size := 8) Try.underlying24 (by kernel_rfl) (by omega) (fun n cs y hcl hy => rd_req hcl hy) (fun _ => rfl) hf
  have hl' : (l.map (·.1)).length = len := by rw [List.length_map]; exact hll
  refine ⟨A, cap, l.map (·.1), by rw [hl']; exact hcs, by rw [hl']; exact hlc, hm, ?_, fun r hr => ?_⟩
  · rw [hl', List.flatMap_map]; exact CellsIn.came hc
  · obtain ⟨a, _, rfl⟩ := List.mem_map.1 hr
    exact a.2
theorem open_conf {fuel : Nat} {cs : List Value} {x : DataW H × List MemPlace} (hcl : cs.length = 4) (hf : DataW.trod enc Try.prog w base spare held fuel 23 cs = some x) :
    ∃ c : Cf, cs = [.int .i64 c.people, .int .i64 c.tracks, .int .i64 c.subs, .int .i64 c.slots] := by
  obtain ⟨m, hm⟩ := rd_fields (n := fuel) (fs := _) Try.underlying23 hf
  match cs, hcl with
  | [c0, c1, c2, c3], _ =>
    obtain ⟨y0, hy0⟩ := hm 0 _ 3 0 1 rfl rfl rfl (by kernel_rfl)
    obtain ⟨y1, hy1⟩ := hm 1 _ 3 1 1 rfl rfl rfl (by kernel_rfl)
    obtain ⟨y2, hy2⟩ := hm 2 _ 3 2 1 rfl rfl rfl (by kernel_rfl)
    obtain ⟨y3, hy3⟩ := hm 3 _ 3 3 1 rfl rfl rfl (by kernel_rfl)
    obtain ⟨z0, e0, _⟩ := rd_int Try.underlying3 hy0
    obtain ⟨z1, e1, _⟩ := rd_int Try.underlying3 hy1
    obtain ⟨z2, e2, _⟩ := rd_int Try.underlying3 hy2
    obtain ⟨z3, e3, _⟩ := rd_int Try.underlying3 hy3
    have f0 : c0 = _ := (List.cons.inj e0).1
    have f1 : c1 = _ := (List.cons.inj e1).1
    have f2 : c2 = _ := (List.cons.inj e2).1
    have f3 : c3 = _ := (List.cons.inj e3).1
    exact ⟨⟨z0, z1, z2, z3⟩, by rw [f0, f1, f2, f3]⟩
end
end Go.Proofs.Ytjcbaelefacolaa
/- A region that draws its order: reads first, wherever they stand; then a call, beside which an alloc floats; then copies; then a tail in one forced order. Two walks serve every order: the alloc ahead of the call, and behind it.
   Conditions: the Bool over the region holds; each read is quiet in the class; the class holds behind each operation but the last. -/
namespace Go.Proofs.Ytjcbaelefacolaa
open Go

section
variable {P : Program} {ops : Array Oper} {md : Region.Mode} {S : World → Prop} {Q : Exit → Act → World → Prop}

/-- some operations in a row, the class behind each; then K -/
def wpHeldK (P : Program) (ops : Array Oper) (Q : Exit → Act → World → Prop) (S : World → Prop) (K : Act → World → Prop) : List Oper → Act → World → Prop
  | [], a, w => K a w
  | o :: rest, a, w =>
    if Region.wanted o (yielded ops a.tmps) then o.wp P a w (fun a' w' => S w' ∧ wpHeldK P ops Q S K rest a' w') Q ∨ (o.asks P a w ∧ LetsOut Q) else S w ∧ wpHeldK P ops Q S K rest (a.put o.dst undef) w
theorem wpHeldK_step {K : Act → World → Prop} {a : Act} {w : World} {o : Oper} {rest : List Oper} (hg : o.guard = none)
    (h : ∀ J : Act → World → Prop, RowKit.Hid (∀ a w, S w → wpHeldK P ops Q S K rest a w → J a w) → Oper.wp P o a w J Q) : wpHeldK P ops Q S K (o :: rest) a w := by
  unfold wpHeldK
  rw [if_pos (by simp [Region.wanted, hg])]
  exact .inl (h _ (Lib.hid (fun a w h1 h2 => ⟨h1, h2⟩)))
/-- one operation of a held tail by a law on lists -/
theorem wpHeld_list {o : Oper} {rest : List Oper} {a : Act} {w : World} (h : ∀ Q1 : Exit → Act → World → Prop, RowKit.Hid (∀ a w, (rest = [] ∨ S w) → wpHeld P ops Q S rest a w → Q1 .normal a w) → wpList P ops Q1 [o] a w) : wpHeld P ops Q S (o :: rest) a w := by
  have h1 := h (fun e a w => match e with | .normal => (rest = [] ∨ S w) ∧ wpHeld P ops Q S rest a w | e => Q e a w) (Lib.hid (fun a w k1 k2 => ⟨k1, k2⟩))
  unfold wpHeld
  unfold wpList at h1
  split
  · rename_i hw
    rw [if_pos hw] at h1
    exact h1
  · rename_i hw
    rw [if_neg hw] at h1
    exact h1
theorem wpQuiet_then {K : Act → World → Prop} {a : Act} {w : World} (h : K a w) : wpHeldK P ops Q S K [] a w := h
theorem op_of_heldK {K : Act → World → Prop} {a : Act} {w : World} {i : Nat} {o : Oper} {rest : List Oper} (h0 : ops[i]? = some o) (h : wpHeldK P ops Q S K (o :: rest) a w) : wpOp P ops Q i (fun a' w' => S w' ∧ wpHeldK P ops Q S K rest a' w') a w := by
  unfold wpOp
  simp only [h0]
  unfold wpHeldK at h
  exact h
theorem wpQuiet_imp {R R' : Act → Prop} (h : ∀ a, R a → R' a) : ∀ (l : List Oper) (a : Act), wpQuiet P ops S R l a → wpQuiet P ops S R' l a := by
  intro l
  induction l with
  | nil => intro a ha; exact h a ha
  | cons o rest ih =>
    intro a ha
    unfold wpQuiet at ha ⊢
    split
    · rename_i hw
      rw [if_pos hw] at ha
      obtain ⟨v, h1, h2⟩ := ha
      exact ⟨v, h1, ih _ h2⟩
    · rename_i hw
      rw [if_neg hw] at ha
      exact ih _ ha
/-- marked, one behind the other -/
def markAll : List Nat → Array Bool → Array Bool
  | [], done => done
  | k :: is, done => markAll is (done.setIfInBounds k true)
def pre5 (md : Region.Mode) (ops : Array Oper) : List Nat → Array Bool → Bool
  | [], _ => true
  | k :: is, done => valB ops k && decide (k < ops.size) && awaited md ops k && (Region.ready md ops done).contains k && Region.free md ops done k && pre5 md ops is (done.setIfInBounds k true)
theorem marks_all : ∀ (is : List Nat) (done : Array Bool), Marks4 md ops done → pre5 md ops is done = true → Marks4 md ops (markAll is done) := by
  intro is
  induction is with
  | nil => intro done h _; exact h
  | cons k is ih =>
    intro done h hB
    simp only [pre5, Bool.and_eq_true, decide_eq_true_eq] at hB
    exact ih _ (h.set (by simpa using hB.1.1.2)) hB.2
theorem pre_anyD2 {l : List Oper} {w : World} {m : Nat} (hsel : Region.noSelect l.toArray = true) (hQ : ∀ c tmps a w, Q (.panic c) { a with tmps := tmps } w → Q (.panic c) a w) (hS : S w) :
    ∀ (is : List Nat) (done : Array Bool) (a : Act), Marks4 md l.toArray done →
      pre5 md l.toArray is done = true → wpQuiet P l.toArray S (fun a' => wpAnyD P md l.toArray Q S m (markAll is done) a' w) (pick3 l is) a → wpAnyD P md l.toArray Q S (is.length + m) done a w := by
  intro is
  induction is with
  | nil =>
    intro done a _ _ hq
    rw [List.length_nil, Nat.zero_add]
    exact hq
  | cons k is ih =>
    intro done a hM hB hq
    simp only [pre5, Bool.and_eq_true, decide_eq_true_eq] at hB
    obtain ⟨⟨⟨⟨⟨hmv, hks⟩, haw⟩, hr⟩, hf⟩, hB'⟩ := hB
    obtain ⟨o, h0⟩ : ∃ o, l[k]? = some o := ⟨_, List.getElem?_eq_getElem (by simpa using hks)⟩
    have h0' : l.toArray[k]? = some o := by simpa using h0
    rw [pick3_cons h0] at hq
    have hr' : k ∈ Region.ready md l.toArray done := by simpa using hr
    have hq' : qOp P l.toArray S k (wpQuiet P l.toArray S (fun a' => wpAnyD P md l.toArray Q S m (markAll (k :: is) done) a' w) (pick3 l is)) a := by unfold qOp; simp only [h0']; exact hq
    obtain ⟨v, hy, hK⟩ := yieldsIn_of_qOp h0' hq'
    rw [show (k :: is).length + m = (is.length + m) + 1 by simp; omega]
    exact wpAnyD_first h0' (Region.noSelect_spec hsel) haw (fun c a' w' h' => hQ c (a'.put o.dst v).tmps a' w' (by rw [put_tmps]; exact h')) (is.length + m) done a w hM (Region.free_spec h0' hf) hr' (yieldsIf_of_val h0' hmv hy) hS
      (ih _ _ (hM.set hr') hB' hK)

def new5 (md : Region.Mode) (ops : Array Oper) (F : List Nat) (k al : Nat) (P2 T2 : List Nat) : Bool :=
  Region.noSelect ops && decide (F.length + (P2.length + T2.length + 2) = ops.size) && pre5 md ops F (Array.replicate ops.size false) && decide (k < ops.size) && decide (al < ops.size) &&
  decide (Region.ready md ops (markAll F (Array.replicate ops.size false)) = [k, al]) &&
  decide (Region.ready md ops ((markAll F (Array.replicate ops.size false)).setIfInBounds al true) = [k]) &&
  pre4 md ops T2 P2 (((markAll F (Array.replicate ops.size false)).setIfInBounds al true).setIfInBounds k true) &&
  pre4 md ops (al :: T2) P2 ((markAll F (Array.replicate ops.size false)).setIfInBounds k true)

/-- THE REGION: F is taken first; then the call and the alloc, in either order; then P2 and T2. -/
theorem wp_new_call {id : Nat} {a : Act} {w : World} {l : List Oper} (C : World → Prop) (hC : C (w.drewN 1)) (F : List Nat) (k al : Nat) (P2 T2 : List Nat) (hm : P.follows .mixedOrders = true) (hB : new5 .any l.toArray F k al P2 T2 = true)
    (hQ : ∀ c tmps a w, Q (.panic c) { a with tmps := tmps } w → Q (.panic c) a w)
    (h : Nonempty (Cls C) → wpQuiet P l.toArray (fun w' => ∃ x : Cls C, w' = x.w) (fun a' =>
      wpHeldK P l.toArray Q (fun w' => ∃ x : Cls C, w' = x.w) (fun a2 w2 => wpQuiet P l.toArray (fun w' => ∃ x : Cls C, w' = x.w) (fun a3 => wpHeld P l.toArray Q (fun w' => ∃ x : Cls C, w' = x.w) (pick3 l T2) a3 w2) (pick3 l P2) a2) (pick3 l [al, k]) a' (w.drewN 1) ∧
      wpHeldK P l.toArray Q (fun w' => ∃ x : Cls C, w' = x.w) (fun a2 w2 => wpQuiet P l.toArray (fun w' => ∃ x : Cls C, w' = x.w) (fun a3 => wpHeld P l.toArray Q (fun w' => ∃ x : Cls C, w' = x.w) (pick3 l (al :: T2)) a3 w2) (pick3 l P2) a2) (pick3 l [k]) a' (w.drewN 1)) (pick3 l F) a) :
    (Code.region id l.toArray true).wp P Q a w := by
  have h := h ⟨⟨_, hC⟩⟩
  simp only [new5, Bool.and_eq_true, decide_eq_true_eq] at hB
  obtain ⟨⟨⟨⟨⟨⟨⟨⟨hsel, hlen⟩, hpre⟩, hk⟩, hal⟩, hr0⟩, hr1⟩, hp1⟩, hp2⟩ := hB
  have inv0 : Marks4 .any l.toArray (Array.replicate l.toArray.size false) :=
    ⟨by simp, fun j oj _ hl => by rw [getD_replicate_false] at hl; exact absurd hl (by decide)⟩
  have inv1 := marks_all F _ inv0 hpre
  obtain ⟨ok, h0⟩ : ∃ o, l[k]? = some o := ⟨_, List.getElem?_eq_getElem (by simpa using hk)⟩
  have h0' : l.toArray[k]? = some ok := by simpa using h0
  obtain ⟨oa, g0⟩ : ∃ o, l[al]? = some o := ⟨_, List.getElem?_eq_getElem (by simpa using hal)⟩
  have g0' : l.toArray[al]? = some oa := by simpa using g0
  have mk : k ∈ Region.ready .any l.toArray (markAll F (Array.replicate l.toArray.size false)) := by rw [hr0]; simp
  have ma : al ∈ Region.ready .any l.toArray (markAll F (Array.replicate l.toArray.size false)) := by rw [hr0]; simp
  have mk2 : k ∈ Region.ready .any l.toArray ((markAll F (Array.replicate l.toArray.size false)).setIfInBounds al true) := by rw [hr1]; simp
  refine wp_region_any hm ?_
  have key := pre_anyD2 (P := P) (md := .any) (Q := Q) (m := P2.length + T2.length + 2) (w := { w with drawn := w.drawn + 1 }) (S := fun w' => ∃ x : Cls C, w' = x.w) hsel hQ ⟨⟨_, hC⟩, rfl⟩ F _ a inv0 hpre (wpQuiet_imp (fun a' ha' => ?_) _ _ h)
  · rw [hlen] at key
    exact wpAny_of_D _ _ _ _ key
  obtain ⟨G1, G2⟩ := ha'
  rw [pick3_cons g0, pick3_cons h0] at G1
  rw [pick3_cons h0] at G2
  refine ⟨fun hn => (by rw [hr0] at hn; cases hn), fun i hi => ?_⟩
  rw [hr0] at hi
  rcases List.mem_cons.1 hi with rfl | hi
  · refine wpOp_mono (fun a2 w2 h2 => ⟨.inr h2.1, ?_⟩) (op_of_heldK h0' G2)
    have h3 : wpQuiet P l.toArray (fun w' => ∃ x : Cls C, w' = x.w) (fun a3 => wpHeld P l.toArray Q (fun w' => ∃ x : Cls C, w' = x.w) (pick3 l (al :: T2)) a3 w2) (pick3 l P2) a2 := h2.2
    have := pre_anyD (P := P) (md := .any) (Q := Q) (T := al :: T2) (w := w2) hsel hQ h2.1 P2 _ a2 (inv1.set mk) hp2 h3
    rw [show P2.length + (al :: T2).length = P2.length + T2.length + 1 by simp; omega] at this
    exact this
  · obtain rfl : i = al := by simpa using hi
    refine wpOp_mono (fun a2 w2 h2 => ⟨.inr h2.1, ?_⟩) (op_of_heldK g0' G1)
    refine ⟨fun hn => (by rw [hr1] at hn; cases hn), fun j hj => ?_⟩
    rw [hr1] at hj
    obtain rfl : j = k := by simpa using hj
    refine wpOp_mono (fun a3 w3 h3 => ⟨.inr h3.1, ?_⟩) (op_of_heldK h0' h2.2)
    have h4 : wpQuiet P l.toArray (fun w' => ∃ x : Cls C, w' = x.w) (fun a3 => wpHeld P l.toArray Q (fun w' => ∃ x : Cls C, w' = x.w) (pick3 l T2) a3 w3) (pick3 l P2) a3 := h3.2
    exact pre_anyD (P := P) (md := .any) (Q := Q) (T := T2) (w := w3) hsel hQ h3.1 P2 _ a3 ((inv1.set ma).set mk2) hp1 h4
end
end Go.Proofs.Ytjcbaelefacolaa
