/- Parts of the proof, one behind the other: DRJoin, DRMay, DRTaken. No condition of their own. -/
import Derived.Test.YtjcbaelefacolaaB7
import Derived.Test.YtjcbaelefacolaaB1
import Derived.Test.YtjcbaelefacolaaB6
/- The layer delta, the document's side: Join. Conditions: the state in memory; what always holds of a state. -/
namespace Go.Proofs.Ytjcbaelefacolaa
open Go Go.RowKit
set_option maxHeartbeats 400000

/-- a request's SSRCs lie elsewhere than in block g -/
def QAv (g : Nat) (q : Rq) (h : SH) : Prop := 0 < q.ss.length → ∀ a, h.A = some a → a.block ≠ g
/-- a store into a block of the call's own -/
theorem Upd.box {w W w' : World} {T k : Nat} (u : Upd [] w W) (h : Upd [T + 1 + k] W w') (hT : T = w.heap.size) : Upd [] w w' :=
  Upd.of_below ((u.below (Nat.le_refl _) (by simp)).trans (h.below u.size (fun s hs => by rw [List.mem_singleton] at hs; omega)))
theorem Upd.box' {w W w' : World} {g : Nat} (u : Upd [] w W) (h : Upd [g] W w') (hg : w.heap.size ≤ g) : Upd [] w w' :=
  Upd.of_below ((u.below (Nat.le_refl _) (by simp)).trans (h.below u.size (fun s hs => by rw [List.mem_singleton] at hs; omega)))
/-- the first elements of a row, as a source of an append -/
theorem RwIn.piece0 {α : Type} {f : α → List Value} {w : World} {size n c k : Nat} {A : Option Addr} {l : List α} (h : RwIn w 0 size A n c (l.flatMap f)) (hf : ∀ z, (f z).length = size) : ∀ ad, A = some ad → ∀ (j : Nat) (u : Value), ((l.take k).flatMap f)[j]? = some u → w.cell? (ad.add j) = some u := by
  intro ad ha j u hj
  rw [← flat_take hf, List.getElem?_take] at hj
  split at hj
  · have hlt := (List.getElem?_eq_some_iff.1 hj).1
    by_cases hn : 0 < n
    · obtain ⟨b, off, e, _, _, hcc⟩ := h.l.2 hn
      rw [e] at ha
      obtain rfl := Option.some.inj ha
      rw [show (⟨b, off, none⟩ : Addr).add j = ⟨b, off + j, none⟩ by unfold Addr.add; by_cases hj : j = 0 <;> simp [hj]]
      exact hcc j u hj
    · have := h.l.1
      rw [show n = 0 by omega] at this
      omega
  · cases hj
/-- the last elements of a row, as a source of an append -/
theorem RwIn.piece1 {α : Type} {f : α → List Value} {w : World} {size n c k : Nat} {A : Option Addr} {a0 : Addr} {l : List α} (h : RwIn w 0 size A n c (l.flatMap f)) (hf : ∀ z, (f z).length = size) (hA : A = some a0) : ∀ ad, (some (a0.add (k * size))) = some ad → ∀ (j : Nat) (u : Value), ((l.drop k).flatMap f)[j]? = some u → w.cell? (ad.add j) = some u := by
  intro ad ha j u hj
  obtain rfl := Option.some.inj ha
  have h2 : (l.drop k).flatMap f = (l.flatMap f).drop (k * size) := by
    have e : (l.flatMap f) = (l.take k).flatMap f ++ (l.drop k).flatMap f := by rw [← List.flatMap_append, List.take_append_drop]
    by_cases hi : k ≤ l.length
    · rw [e, List.drop_left' (by rw [flat_length hf, List.length_take, Nat.min_eq_left hi])]
    · rw [List.drop_eq_nil_of_le (by omega), List.drop_eq_nil_of_le (by rw [flat_length hf]; exact Nat.mul_le_mul_right _ (by omega))]
      rfl
  rw [h2, List.getElem?_drop] at hj
  have hlt := (List.getElem?_eq_some_iff.1 hj).1
  by_cases hn : 0 < n
  · obtain ⟨b, off, e, _, _, hcc⟩ := h.l.2 hn
    rw [e] at hA
    obtain rfl := Option.some.inj hA
    rw [show ((⟨b, off, none⟩ : Addr).add (k * size)).add j = ⟨b, off + (k * size + j), none⟩ by unfold Addr.add; by_cases h1 : k * size = 0 <;> by_cases h2 : j = 0 <;> simp [h1, h2, Nat.add_assoc]]
    exact hcc _ u hj
  · have := h.l.1
    rw [show n = 0 by omega] at this
    omega
set_option maxRecDepth 100000 in
set_option maxHeartbeats 4000000 in
theorem rjoin_any {w : World} {s : St} {h : SHd} {q : Rq} {qh : SH} (hs : StIn w s h) (hi : Inv s) (hq : RwIn w 0 1 qh.A q.ss.length qh.c (q.ss.map (Value.int .u32))) :
    Calls Try.prog 34 #[.agg (scells s h).toArray, .agg (qcells q qh).toArray] w fun e w' => ∃ h', e = .returned (.tuple #[.agg (scells (joinM s q).1 h').toArray, .int .i64 (joinM s q).2]) ∧ StIn w' (joinM s q).1 h' ∧ (∀ g, g < w.heap.size → QAv g q qh → Av g s h → Av g (joinM s q).1 h') ∧ Upd [] w w' := by
  obtain ⟨T, hT⟩ : ∃ T, T = w.heap.size := ⟨_, rfl⟩
  obtain ⟨n1, hn1⟩ : ∃ n, n = s.ps.length := ⟨_, rfl⟩
  obtain ⟨n2, hn2⟩ : ∃ n, n = s.ts.length := ⟨_, rfl⟩
  obtain ⟨n3, hn3⟩ : ∃ n, n = s.bs.length := ⟨_, rfl⟩
  obtain ⟨r, hr⟩ : ∃ r, r = joinM s q := ⟨_, rfl⟩
  have HR := Lib.hid hr
  rw [← hr]
  clear hr
  have HS := Lib.hid hs
  have HI := Lib.hid hi
  have HQ := Lib.hid hq
  have HN := Lib.hid (And.intro hn1 (And.intro hn2 hn3))
  have hsc : scells s h = [.int .i64 s.c.people, .int .i64 s.c.tracks, .int .i64 s.c.subs, .int .i64 s.c.slots, .slice h.pA n1 h.pc, .slice h.tA n2 h.tc, .slice h.bA n3 h.bc] := by unfold scells; rw [← hn1, ← hn2, ← hn3]
  have hm1 : n1 ≤ 16 := by have := hi.np; have := hi.cp; omega
  have hm2 : n2 ≤ 16 := by have := hi.nt; have := hi.ct; omega
  have hm3 : n3 ≤ 64 := by have := hi.nb; have := hi.cl; omega
  obtain ⟨kd, who, room, rights, track, ss, layer, tid⟩ := q
  obtain ⟨qA, qc⟩ := qh
  unfold qcells
  dsimp only
  obtain ⟨ql, hql⟩ : ∃ ql, ql = ss.length := ⟨_, rfl⟩
  have HQL := Lib.hid hql
  rw [← hql]
  rw [hsc]
  have HSC := Lib.hid hsc
  obtain ⟨pA, pc, tx, tA, tc, bA, bc⟩ := h
  obtain ⟨⟨c1, c2, c3, c4⟩, hc⟩ : ∃ c, c = s.c := ⟨_, rfl⟩
  have HC := Lib.hid hc
  rw [← hc]
  dsimp only
  clear hsc hn1 hn2 hn3 hc hs hi hq hql
  obtain ⟨CS, hCS⟩ : ∃ l : List Value, l = [.int .i64 c1, .int .i64 c2, .int .i64 c3, .int .i64 c4, .slice pA n1 pc, .slice tA n2 tc, .slice bA n3 bc] := ⟨_, rfl⟩
  obtain ⟨W1, hW1⟩ : ∃ W, W = w.alloc (.cells #[.int .i64 c1, .int .i64 c2, .int .i64 c3, .int .i64 c4, .slice pA n1 pc, .slice tA n2 tc, .slice bA n3 bc] 37) := ⟨_, rfl⟩
  obtain ⟨W2, hW2⟩ : ∃ W, W = W1.alloc (.cells #[.int .i64 kd, .int .i64 who, .int .i64 room, .int .i64 rights, .int .i64 track, .slice qA ql qc, .int .i64 layer, .int .i64 tid] 48) := ⟨_, rfl⟩
  obtain ⟨W, hW⟩ : ∃ W, W = W2.alloc (.cells #[.int .i64 0, .int .i64 0, .int .i64 0, .int .i64 0, .slice none 0 0, .slice none 0 0, .slice none 0 0] 37) := ⟨_, rfl⟩
  have u1 : Upd [] w W1 := by rw [hW1]; exact (Upd.refl [] w).alloc _
  have u2 : Upd [] W1 W2 := by rw [hW2]; exact (Upd.refl [] W1).alloc _
  have u3 : Upd [] W2 W := by rw [hW]; exact (Upd.refl [] W2).alloc _
  have s1 : W1.heap.size = T + 1 := by rw [hW1, World.size_alloc, hT]
  have s2 : W2.heap.size = T + 1 + 1 := by rw [hW2, World.size_alloc, s1]
  have hbT : Blk W T 37 #[.int .i64 c1, .int .i64 c2, .int .i64 c3, .int .i64 c4, .slice pA n1 pc, .slice tA n2 tc, .slice bA n3 bc] := by
    have : Blk W1 T 37 #[.int .i64 c1, .int .i64 c2, .int .i64 c3, .int .i64 c4, .slice pA n1 pc, .slice tA n2 tc, .slice bA n3 bc] := by rw [hW1, hT]; exact Blk.new _ _ _
    exact (this.upd u2 (by simp)).upd u3 (by simp)
  have hbQ : Blk W (T + 1) 48 #[.int .i64 kd, .int .i64 who, .int .i64 room, .int .i64 rights, .int .i64 track, .slice qA ql qc, .int .i64 layer, .int .i64 tid] := by
    have : Blk W2 (T + 1) 48 #[.int .i64 kd, .int .i64 who, .int .i64 room, .int .i64 rights, .int .i64 track, .slice qA ql qc, .int .i64 layer, .int .i64 tid] := by rw [hW2, ← s1]; exact Blk.new _ _ _
    exact this.upd u3 (by simp)
  have hbR : Blk W (T + 1 + 1) 37 #[.int .i64 0, .int .i64 0, .int .i64 0, .int .i64 0, .slice none 0 0, .slice none 0 0, .slice none 0 0] := by rw [hW, ← s2]; exact Blk.new _ _ _
  have hT' := hT
  have HU := Lib.hid ((u1.next u2).next u3)
  have HBT := Lib.hid hbT
  have HBQ := Lib.hid hbQ
  have HBR := Lib.hid hbR
  have HT := Lib.hid hT
  clear hbT hbQ hbR u1 u2 u3 s1 s2 hT' hCS
  go_enter Try.func34, Try.ntmps34
  go_upto_region 1 with fail
  rw [← hW1, ← hW2, ← hW, ← hT]
  clear hW1 hW2 hW hT
  have q1 : W.cell? ⟨T + 1, 1, none⟩ = some (.int .i64 who) := HBQ.out.cell 1
  have q2 : W.cell? ⟨T + 1, 2, none⟩ = some (.int .i64 room) := HBQ.out.cell 2
  have q3 : W.cell? ⟨T + 1, 3, none⟩ = some (.int .i64 rights) := HBQ.out.cell 3
  by_cases k1 : who < 1
  · have H1 : Hid (r = (s, 1)) := Lib.hid (by rw [HR.out]; unfold joinM; rw [if_pos (by dsimp only; omega)])
    obtain ⟨kx, ux⟩ := blk7 HBR.out (.int .i64 c1) (.int .i64 c2) (.int .i64 c3) (.int .i64 c4) (.slice pA n1 pc) (.slice tA n2 tc) (.slice bA n3 bc)
    obtain ⟨wx, hwx⟩ : ∃ wx, wx = (((((((W.setCell ⟨T + 1 + 1, 0, none⟩ (.int .i64 c1)).setCell ⟨T + 1 + 1, 1, none⟩ (.int .i64 c2)).setCell ⟨T + 1 + 1, 2, none⟩ (.int .i64 c3)).setCell ⟨T + 1 + 1, 3, none⟩ (.int .i64 c4)).setCell ⟨T + 1 + 1, 4, none⟩ (.slice pA n1 pc)).setCell ⟨T + 1 + 1, 5, none⟩ (.slice tA n2 tc)).setCell ⟨T + 1 + 1, 6, none⟩ (.slice bA n3 bc)) := ⟨_, rfl⟩
    rw [← hwx] at kx ux
    have HKX := Lib.hid kx
    have HUX := Lib.hid ux
    have HWX := Lib.hid hwx
    clear kx ux hwx
    have m0 : W.cell? ⟨T, 0, none⟩ = some (.int .i64 c1) := HBT.out.cell 0
    have m1 : W.cell? ⟨T, 1, none⟩ = some (.int .i64 c2) := HBT.out.cell 1
    have m2 : W.cell? ⟨T, 2, none⟩ = some (.int .i64 c3) := HBT.out.cell 2
    have m3 : W.cell? ⟨T, 3, none⟩ = some (.int .i64 c4) := HBT.out.cell 3
    have m4 : W.cell? ⟨T, 4, none⟩ = some (.slice pA n1 pc) := HBT.out.cell 4
    have m5 : W.cell? ⟨T, 5, none⟩ = some (.slice tA n2 tc) := HBT.out.cell 5
    have m6 : W.cell? ⟨T, 6, none⟩ = some (.slice bA n3 bc) := HBT.out.cell 6
    have n10 := HBR.out.frozen 0
    have o0 : W.cell? ⟨T + 1 + 1, 0, none⟩ = some (.int .i64 0) := HBR.out.cell 0
    have n11 := HBR.out.frozen 1
    have o1 : W.cell? ⟨T + 1 + 1, 1, none⟩ = some (.int .i64 0) := HBR.out.cell 1
    have n12 := HBR.out.frozen 2
    have o2 : W.cell? ⟨T + 1 + 1, 2, none⟩ = some (.int .i64 0) := HBR.out.cell 2
    have n13 := HBR.out.frozen 3
    have o3 : W.cell? ⟨T + 1 + 1, 3, none⟩ = some (.int .i64 0) := HBR.out.cell 3
    have n14 := HBR.out.frozen 4
    have o4 : W.cell? ⟨T + 1 + 1, 4, none⟩ = some (.slice none 0 0) := HBR.out.cell 4
    have n15 := HBR.out.frozen 5
    have o5 : W.cell? ⟨T + 1 + 1, 5, none⟩ = some (.slice none 0 0) := HBR.out.cell 5
    have n16 := HBR.out.frozen 6
    have o6 : W.cell? ⟨T + 1 + 1, 6, none⟩ = some (.slice none 0 0) := HBR.out.cell 6
    go_wp2
    rw [← HWX.out]
    have g0 := HKX.out.cell 0
    have g1 := HKX.out.cell 1
    have g2 := HKX.out.cell 2
    have g3 := HKX.out.cell 3
    have g4 := HKX.out.cell 4
    have g5 := HKX.out.cell 5
    have g6 := HKX.out.cell 6
    simp only [List.getElem?_toArray, List.getElem?_cons_zero, List.getElem?_cons_succ] at g0 g1 g2 g3 g4 g5 g6
    refine bodyPost_res (v := .tuple #[.agg #[.int .i64 c1, .int .i64 c2, .int .i64 c3, .int .i64 c4, .slice pA n1 pc, .slice tA n2 tc, .slice bA n3 bc], .int .i64 1]) (by simp [results, Try.results34, go_sem, Addr.add, g0, g1, g2, g3, g4, g5, g6]) rfl ?_
    exact ⟨⟨pA, pc, tx, tA, tc, bA, bc⟩, by rw [H1.out]; dsimp only; rw [HSC.out, ← HC.out], by rw [H1.out]; exact HS.out.upd (HU.out.box HUX.out HT.out), by rw [H1.out]; exact fun _ _ _ ha => ha, HU.out.box HUX.out HT.out⟩
  by_cases k2 : 999 < who
  · have H1 : Hid (r = (s, 1)) := Lib.hid (by rw [HR.out]; unfold joinM; rw [if_pos (by dsimp only; omega)])
    obtain ⟨kx, ux⟩ := blk7 HBR.out (.int .i64 c1) (.int .i64 c2) (.int .i64 c3) (.int .i64 c4) (.slice pA n1 pc) (.slice tA n2 tc) (.slice bA n3 bc)
    obtain ⟨wx, hwx⟩ : ∃ wx, wx = (((((((W.setCell ⟨T + 1 + 1, 0, none⟩ (.int .i64 c1)).setCell ⟨T + 1 + 1, 1, none⟩ (.int .i64 c2)).setCell ⟨T + 1 + 1, 2, none⟩ (.int .i64 c3)).setCell ⟨T + 1 + 1, 3, none⟩ (.int .i64 c4)).setCell ⟨T + 1 + 1, 4, none⟩ (.slice pA n1 pc)).setCell ⟨T + 1 + 1, 5, none⟩ (.slice tA n2 tc)).setCell ⟨T + 1 + 1, 6, none⟩ (.slice bA n3 bc)) := ⟨_, rfl⟩
    rw [← hwx] at kx ux
    have HKX := Lib.hid kx
    have HUX := Lib.hid ux
    have HWX := Lib.hid hwx
    clear kx ux hwx
    have m0 : W.cell? ⟨T, 0, none⟩ = some (.int .i64 c1) := HBT.out.cell 0
    have m1 : W.cell? ⟨T, 1, none⟩ = some (.int .i64 c2) := HBT.out.cell 1
    have m2 : W.cell? ⟨T, 2, none⟩ = some (.int .i64 c3) := HBT.out.cell 2
    have m3 : W.cell? ⟨T, 3, none⟩ = some (.int .i64 c4) := HBT.out.cell 3
    have m4 : W.cell? ⟨T, 4, none⟩ = some (.slice pA n1 pc) := HBT.out.cell 4
    have m5 : W.cell? ⟨T, 5, none⟩ = some (.slice tA n2 tc) := HBT.out.cell 5
    have m6 : W.cell? ⟨T, 6, none⟩ = some (.slice bA n3 bc) := HBT.out.cell 6
    have n10 := HBR.out.frozen 0
    have o0 : W.cell? ⟨T + 1 + 1, 0, none⟩ = some (.int .i64 0) := HBR.out.cell 0
    have n11 := HBR.out.frozen 1
    have o1 : W.cell? ⟨T + 1 + 1, 1, none⟩ = some (.int .i64 0) := HBR.out.cell 1
    have n12 := HBR.out.frozen 2
    have o2 : W.cell? ⟨T + 1 + 1, 2, none⟩ = some (.int .i64 0) := HBR.out.cell 2
    have n13 := HBR.out.frozen 3
    have o3 : W.cell? ⟨T + 1 + 1, 3, none⟩ = some (.int .i64 0) := HBR.out.cell 3
    have n14 := HBR.out.frozen 4
    have o4 : W.cell? ⟨T + 1 + 1, 4, none⟩ = some (.slice none 0 0) := HBR.out.cell 4
    have n15 := HBR.out.frozen 5
    have o5 : W.cell? ⟨T + 1 + 1, 5, none⟩ = some (.slice none 0 0) := HBR.out.cell 5
    have n16 := HBR.out.frozen 6
    have o6 : W.cell? ⟨T + 1 + 1, 6, none⟩ = some (.slice none 0 0) := HBR.out.cell 6
    go_wp2
    rw [← HWX.out]
    have g0 := HKX.out.cell 0
    have g1 := HKX.out.cell 1
    have g2 := HKX.out.cell 2
    have g3 := HKX.out.cell 3
    have g4 := HKX.out.cell 4
    have g5 := HKX.out.cell 5
    have g6 := HKX.out.cell 6
    simp only [List.getElem?_toArray, List.getElem?_cons_zero, List.getElem?_cons_succ] at g0 g1 g2 g3 g4 g5 g6
    refine bodyPost_res (v := .tuple #[.agg #[.int .i64 c1, .int .i64 c2, .int .i64 c3, .int .i64 c4, .slice pA n1 pc, .slice tA n2 tc, .slice bA n3 bc], .int .i64 1]) (by simp [results, Try.results34, go_sem, Addr.add, g0, g1, g2, g3, g4, g5, g6]) rfl ?_
    exact ⟨⟨pA, pc, tx, tA, tc, bA, bc⟩, by rw [H1.out]; dsimp only; rw [HSC.out, ← HC.out], by rw [H1.out]; exact HS.out.upd (HU.out.box HUX.out HT.out), by rw [H1.out]; exact fun _ _ _ ha => ha, HU.out.box HUX.out HT.out⟩
  by_cases k3 : room < 1
  · have H1 : Hid (r = (s, 1)) := Lib.hid (by rw [HR.out]; unfold joinM; rw [if_pos (by dsimp only; omega)])
    obtain ⟨kx, ux⟩ := blk7 HBR.out (.int .i64 c1) (.int .i64 c2) (.int .i64 c3) (.int .i64 c4) (.slice pA n1 pc) (.slice tA n2 tc) (.slice bA n3 bc)
    obtain ⟨wx, hwx⟩ : ∃ wx, wx = (((((((W.setCell ⟨T + 1 + 1, 0, none⟩ (.int .i64 c1)).setCell ⟨T + 1 + 1, 1, none⟩ (.int .i64 c2)).setCell ⟨T + 1 + 1, 2, none⟩ (.int .i64 c3)).setCell ⟨T + 1 + 1, 3, none⟩ (.int .i64 c4)).setCell ⟨T + 1 + 1, 4, none⟩ (.slice pA n1 pc)).setCell ⟨T + 1 + 1, 5, none⟩ (.slice tA n2 tc)).setCell ⟨T + 1 + 1, 6, none⟩ (.slice bA n3 bc)) := ⟨_, rfl⟩
    rw [← hwx] at kx ux
    have HKX := Lib.hid kx
    have HUX := Lib.hid ux
    have HWX := Lib.hid hwx
    clear kx ux hwx
    have m0 : W.cell? ⟨T, 0, none⟩ = some (.int .i64 c1) := HBT.out.cell 0
    have m1 : W.cell? ⟨T, 1, none⟩ = some (.int .i64 c2) := HBT.out.cell 1
    have m2 : W.cell? ⟨T, 2, none⟩ = some (.int .i64 c3) := HBT.out.cell 2
    have m3 : W.cell? ⟨T, 3, none⟩ = some (.int .i64 c4) := HBT.out.cell 3
    have m4 : W.cell? ⟨T, 4, none⟩ = some (.slice pA n1 pc) := HBT.out.cell 4
    have m5 : W.cell? ⟨T, 5, none⟩ = some (.slice tA n2 tc) := HBT.out.cell 5
    have m6 : W.cell? ⟨T, 6, none⟩ = some (.slice bA n3 bc) := HBT.out.cell 6
    have n10 := HBR.out.frozen 0
    have o0 : W.cell? ⟨T + 1 + 1, 0, none⟩ = some (.int .i64 0) := HBR.out.cell 0
    have n11 := HBR.out.frozen 1
    have o1 : W.cell? ⟨T + 1 + 1, 1, none⟩ = some (.int .i64 0) := HBR.out.cell 1
    have n12 := HBR.out.frozen 2
    have o2 : W.cell? ⟨T + 1 + 1, 2, none⟩ = some (.int .i64 0) := HBR.out.cell 2
    have n13 := HBR.out.frozen 3
    have o3 : W.cell? ⟨T + 1 + 1, 3, none⟩ = some (.int .i64 0) := HBR.out.cell 3
    have n14 := HBR.out.frozen 4
    have o4 : W.cell? ⟨T + 1 + 1, 4, none⟩ = some (.slice none 0 0) := HBR.out.cell 4
    have n15 := HBR.out.frozen 5
    have o5 : W.cell? ⟨T + 1 + 1, 5, none⟩ = some (.slice none 0 0) := HBR.out.cell 5
    have n16 := HBR.out.frozen 6
    have o6 : W.cell? ⟨T + 1 + 1, 6, none⟩ = some (.slice none 0 0) := HBR.out.cell 6
    go_wp2
    rw [← HWX.out]
    have g0 := HKX.out.cell 0
    have g1 := HKX.out.cell 1
    have g2 := HKX.out.cell 2
    have g3 := HKX.out.cell 3
    have g4 := HKX.out.cell 4
    have g5 := HKX.out.cell 5
    have g6 := HKX.out.cell 6
    simp only [List.getElem?_toArray, List.getElem?_cons_zero, List.getElem?_cons_succ] at g0 g1 g2 g3 g4 g5 g6
    refine bodyPost_res (v := .tuple #[.agg #[.int .i64 c1, .int .i64 c2, .int .i64 c3, .int .i64 c4, .slice pA n1 pc, .slice tA n2 tc, .slice bA n3 bc], .int .i64 1]) (by simp [results, Try.results34, go_sem, Addr.add, g0, g1, g2, g3, g4, g5, g6]) rfl ?_
    exact ⟨⟨pA, pc, tx, tA, tc, bA, bc⟩, by rw [H1.out]; dsimp only; rw [HSC.out, ← HC.out], by rw [H1.out]; exact HS.out.upd (HU.out.box HUX.out HT.out), by rw [H1.out]; exact fun _ _ _ ha => ha, HU.out.box HUX.out HT.out⟩
  by_cases k4 : 9 < room
  · have H1 : Hid (r = (s, 1)) := Lib.hid (by rw [HR.out]; unfold joinM; rw [if_pos (by dsimp only; omega)])
    obtain ⟨kx, ux⟩ := blk7 HBR.out (.int .i64 c1) (.int .i64 c2) (.int .i64 c3) (.int .i64 c4) (.slice pA n1 pc) (.slice tA n2 tc) (.slice bA n3 bc)
    obtain ⟨wx, hwx⟩ : ∃ wx, wx = (((((((W.setCell ⟨T + 1 + 1, 0, none⟩ (.int .i64 c1)).setCell ⟨T + 1 + 1, 1, none⟩ (.int .i64 c2)).setCell ⟨T + 1 + 1, 2, none⟩ (.int .i64 c3)).setCell ⟨T + 1 + 1, 3, none⟩ (.int .i64 c4)).setCell ⟨T + 1 + 1, 4, none⟩ (.slice pA n1 pc)).setCell ⟨T + 1 + 1, 5, none⟩ (.slice tA n2 tc)).setCell ⟨T + 1 + 1, 6, none⟩ (.slice bA n3 bc)) := ⟨_, rfl⟩
    rw [← hwx] at kx ux
    have HKX := Lib.hid kx
    have HUX := Lib.hid ux
    have HWX := Lib.hid hwx
    clear kx ux hwx
    have m0 : W.cell? ⟨T, 0, none⟩ = some (.int .i64 c1) := HBT.out.cell 0
    have m1 : W.cell? ⟨T, 1, none⟩ = some (.int .i64 c2) := HBT.out.cell 1
    have m2 : W.cell? ⟨T, 2, none⟩ = some (.int .i64 c3) := HBT.out.cell 2
    have m3 : W.cell? ⟨T, 3, none⟩ = some (.int .i64 c4) := HBT.out.cell 3
    have m4 : W.cell? ⟨T, 4, none⟩ = some (.slice pA n1 pc) := HBT.out.cell 4
    have m5 : W.cell? ⟨T, 5, none⟩ = some (.slice tA n2 tc) := HBT.out.cell 5
    have m6 : W.cell? ⟨T, 6, none⟩ = some (.slice bA n3 bc) := HBT.out.cell 6
    have n10 := HBR.out.frozen 0
    have o0 : W.cell? ⟨T + 1 + 1, 0, none⟩ = some (.int .i64 0) := HBR.out.cell 0
    have n11 := HBR.out.frozen 1
    have o1 : W.cell? ⟨T + 1 + 1, 1, none⟩ = some (.int .i64 0) := HBR.out.cell 1
    have n12 := HBR.out.frozen 2
    have o2 : W.cell? ⟨T + 1 + 1, 2, none⟩ = some (.int .i64 0) := HBR.out.cell 2
    have n13 := HBR.out.frozen 3
    have o3 : W.cell? ⟨T + 1 + 1, 3, none⟩ = some (.int .i64 0) := HBR.out.cell 3
    have n14 := HBR.out.frozen 4
    have o4 : W.cell? ⟨T + 1 + 1, 4, none⟩ = some (.slice none 0 0) := HBR.out.cell 4
    have n15 := HBR.out.frozen 5
    have o5 : W.cell? ⟨T + 1 + 1, 5, none⟩ = some (.slice none 0 0) := HBR.out.cell 5
    have n16 := HBR.out.frozen 6
    have o6 : W.cell? ⟨T + 1 + 1, 6, none⟩ = some (.slice none 0 0) := HBR.out.cell 6
    go_wp2
    rw [← HWX.out]
    have g0 := HKX.out.cell 0
    have g1 := HKX.out.cell 1
    have g2 := HKX.out.cell 2
    have g3 := HKX.out.cell 3
    have g4 := HKX.out.cell 4
    have g5 := HKX.out.cell 5
    have g6 := HKX.out.cell 6
    simp only [List.getElem?_toArray, List.getElem?_cons_zero, List.getElem?_cons_succ] at g0 g1 g2 g3 g4 g5 g6
    refine bodyPost_res (v := .tuple #[.agg #[.int .i64 c1, .int .i64 c2, .int .i64 c3, .int .i64 c4, .slice pA n1 pc, .slice tA n2 tc, .slice bA n3 bc], .int .i64 1]) (by simp [results, Try.results34, go_sem, Addr.add, g0, g1, g2, g3, g4, g5, g6]) rfl ?_
    exact ⟨⟨pA, pc, tx, tA, tc, bA, bc⟩, by rw [H1.out]; dsimp only; rw [HSC.out, ← HC.out], by rw [H1.out]; exact HS.out.upd (HU.out.box HUX.out HT.out), by rw [H1.out]; exact fun _ _ _ ha => ha, HU.out.box HUX.out HT.out⟩
  by_cases k5 : rights < 0
  · have H1 : Hid (r = (s, 1)) := Lib.hid (by rw [HR.out]; unfold joinM; rw [if_pos (by dsimp only; omega)])
    obtain ⟨kx, ux⟩ := blk7 HBR.out (.int .i64 c1) (.int .i64 c2) (.int .i64 c3) (.int .i64 c4) (.slice pA n1 pc) (.slice tA n2 tc) (.slice bA n3 bc)
    obtain ⟨wx, hwx⟩ : ∃ wx, wx = (((((((W.setCell ⟨T + 1 + 1, 0, none⟩ (.int .i64 c1)).setCell ⟨T + 1 + 1, 1, none⟩ (.int .i64 c2)).setCell ⟨T + 1 + 1, 2, none⟩ (.int .i64 c3)).setCell ⟨T + 1 + 1, 3, none⟩ (.int .i64 c4)).setCell ⟨T + 1 + 1, 4, none⟩ (.slice pA n1 pc)).setCell ⟨T + 1 + 1, 5, none⟩ (.slice tA n2 tc)).setCell ⟨T + 1 + 1, 6, none⟩ (.slice bA n3 bc)) := ⟨_, rfl⟩
    rw [← hwx] at kx ux
    have HKX := Lib.hid kx
    have HUX := Lib.hid ux
    have HWX := Lib.hid hwx
    clear kx ux hwx
    have m0 : W.cell? ⟨T, 0, none⟩ = some (.int .i64 c1) := HBT.out.cell 0
    have m1 : W.cell? ⟨T, 1, none⟩ = some (.int .i64 c2) := HBT.out.cell 1
    have m2 : W.cell? ⟨T, 2, none⟩ = some (.int .i64 c3) := HBT.out.cell 2
    have m3 : W.cell? ⟨T, 3, none⟩ = some (.int .i64 c4) := HBT.out.cell 3
    have m4 : W.cell? ⟨T, 4, none⟩ = some (.slice pA n1 pc) := HBT.out.cell 4
    have m5 : W.cell? ⟨T, 5, none⟩ = some (.slice tA n2 tc) := HBT.out.cell 5
    have m6 : W.cell? ⟨T, 6, none⟩ = some (.slice bA n3 bc) := HBT.out.cell 6
    have n10 := HBR.out.frozen 0
    have o0 : W.cell? ⟨T + 1 + 1, 0, none⟩ = some (.int .i64 0) := HBR.out.cell 0
    have n11 := HBR.out.frozen 1
    have o1 : W.cell? ⟨T + 1 + 1, 1, none⟩ = some (.int .i64 0) := HBR.out.cell 1
    have n12 := HBR.out.frozen 2
    have o2 : W.cell? ⟨T + 1 + 1, 2, none⟩ = some (.int .i64 0) := HBR.out.cell 2
    have n13 := HBR.out.frozen 3
    have o3 : W.cell? ⟨T + 1 + 1, 3, none⟩ = some (.int .i64 0) := HBR.out.cell 3
    have n14 := HBR.out.frozen 4
    have o4 : W.cell? ⟨T + 1 + 1, 4, none⟩ = some (.slice none 0 0) := HBR.out.cell 4
    have n15 := HBR.out.frozen 5
    have o5 : W.cell? ⟨T + 1 + 1, 5, none⟩ = some (.slice none 0 0) := HBR.out.cell 5
    have n16 := HBR.out.frozen 6
    have o6 : W.cell? ⟨T + 1 + 1, 6, none⟩ = some (.slice none 0 0) := HBR.out.cell 6
    go_wp2
    rw [← HWX.out]
    have g0 := HKX.out.cell 0
    have g1 := HKX.out.cell 1
    have g2 := HKX.out.cell 2
    have g3 := HKX.out.cell 3
    have g4 := HKX.out.cell 4
    have g5 := HKX.out.cell 5
    have g6 := HKX.out.cell 6
    simp only [List.getElem?_toArray, List.getElem?_cons_zero, List.getElem?_cons_succ] at g0 g1 g2 g3 g4 g5 g6
    refine bodyPost_res (v := .tuple #[.agg #[.int .i64 c1, .int .i64 c2, .int .i64 c3, .int .i64 c4, .slice pA n1 pc, .slice tA n2 tc, .slice bA n3 bc], .int .i64 1]) (by simp [results, Try.results34, go_sem, Addr.add, g0, g1, g2, g3, g4, g5, g6]) rfl ?_
    exact ⟨⟨pA, pc, tx, tA, tc, bA, bc⟩, by rw [H1.out]; dsimp only; rw [HSC.out, ← HC.out], by rw [H1.out]; exact HS.out.upd (HU.out.box HUX.out HT.out), by rw [H1.out]; exact fun _ _ _ ha => ha, HU.out.box HUX.out HT.out⟩
  by_cases k6 : 3 < rights
  · have H1 : Hid (r = (s, 1)) := Lib.hid (by rw [HR.out]; unfold joinM; rw [if_pos (by dsimp only; omega)])
    obtain ⟨kx, ux⟩ := blk7 HBR.out (.int .i64 c1) (.int .i64 c2) (.int .i64 c3) (.int .i64 c4) (.slice pA n1 pc) (.slice tA n2 tc) (.slice bA n3 bc)
    obtain ⟨wx, hwx⟩ : ∃ wx, wx = (((((((W.setCell ⟨T + 1 + 1, 0, none⟩ (.int .i64 c1)).setCell ⟨T + 1 + 1, 1, none⟩ (.int .i64 c2)).setCell ⟨T + 1 + 1, 2, none⟩ (.int .i64 c3)).setCell ⟨T + 1 + 1, 3, none⟩ (.int .i64 c4)).setCell ⟨T + 1 + 1, 4, none⟩ (.slice pA n1 pc)).setCell ⟨T + 1 + 1, 5, none⟩ (.slice tA n2 tc)).setCell ⟨T + 1 + 1, 6, none⟩ (.slice bA n3 bc)) := ⟨_, rfl⟩
    rw [← hwx] at kx ux
    have HKX := Lib.hid kx
    have HUX := Lib.hid ux
    have HWX := Lib.hid hwx
    clear kx ux hwx
    have m0 : W.cell? ⟨T, 0, none⟩ = some (.int .i64 c1) := HBT.out.cell 0
    have m1 : W.cell? ⟨T, 1, none⟩ = some (.int .i64 c2) := HBT.out.cell 1
    have m2 : W.cell? ⟨T, 2, none⟩ = some (.int .i64 c3) := HBT.out.cell 2
    have m3 : W.cell? ⟨T, 3, none⟩ = some (.int .i64 c4) := HBT.out.cell 3
    have m4 : W.cell? ⟨T, 4, none⟩ = some (.slice pA n1 pc) := HBT.out.cell 4
    have m5 : W.cell? ⟨T, 5, none⟩ = some (.slice tA n2 tc) := HBT.out.cell 5
    have m6 : W.cell? ⟨T, 6, none⟩ = some (.slice bA n3 bc) := HBT.out.cell 6
    have n10 := HBR.out.frozen 0
    have o0 : W.cell? ⟨T + 1 + 1, 0, none⟩ = some (.int .i64 0) := HBR.out.cell 0
    have n11 := HBR.out.frozen 1
    have o1 : W.cell? ⟨T + 1 + 1, 1, none⟩ = some (.int .i64 0) := HBR.out.cell 1
    have n12 := HBR.out.frozen 2
    have o2 : W.cell? ⟨T + 1 + 1, 2, none⟩ = some (.int .i64 0) := HBR.out.cell 2
    have n13 := HBR.out.frozen 3
    have o3 : W.cell? ⟨T + 1 + 1, 3, none⟩ = some (.int .i64 0) := HBR.out.cell 3
    have n14 := HBR.out.frozen 4
    have o4 : W.cell? ⟨T + 1 + 1, 4, none⟩ = some (.slice none 0 0) := HBR.out.cell 4
    have n15 := HBR.out.frozen 5
    have o5 : W.cell? ⟨T + 1 + 1, 5, none⟩ = some (.slice none 0 0) := HBR.out.cell 5
    have n16 := HBR.out.frozen 6
    have o6 : W.cell? ⟨T + 1 + 1, 6, none⟩ = some (.slice none 0 0) := HBR.out.cell 6
    go_wp2
    rw [← HWX.out]
    have g0 := HKX.out.cell 0
    have g1 := HKX.out.cell 1
    have g2 := HKX.out.cell 2
    have g3 := HKX.out.cell 3
    have g4 := HKX.out.cell 4
    have g5 := HKX.out.cell 5
    have g6 := HKX.out.cell 6
    simp only [List.getElem?_toArray, List.getElem?_cons_zero, List.getElem?_cons_succ] at g0 g1 g2 g3 g4 g5 g6
    refine bodyPost_res (v := .tuple #[.agg #[.int .i64 c1, .int .i64 c2, .int .i64 c3, .int .i64 c4, .slice pA n1 pc, .slice tA n2 tc, .slice bA n3 bc], .int .i64 1]) (by simp [results, Try.results34, go_sem, Addr.add, g0, g1, g2, g3, g4, g5, g6]) rfl ?_
    exact ⟨⟨pA, pc, tx, tA, tc, bA, bc⟩, by rw [H1.out]; dsimp only; rw [HSC.out, ← HC.out], by rw [H1.out]; exact HS.out.upd (HU.out.box HUX.out HT.out), by rw [H1.out]; exact fun _ _ _ ha => ha, HU.out.box HUX.out HT.out⟩
  have H0 : Hid (¬ (who < 1 ∨ 999 < who ∨ room < 1 ∨ 9 < room ∨ rights < 0 ∨ 3 < rights)) := Lib.hid (by omega)
  obtain ⟨ix, hix⟩ : ∃ x, x = ridxM (cP who) s.ps := ⟨_, rfl⟩
  have HP : Hid (Calls Try.prog 35 #[.agg #[.int .i64 c1, .int .i64 c2, .int .i64 c3, .int .i64 c4, .slice pA n1 pc, .slice tA n2 tc, .slice bA n3 bc], .int .i64 who] W fun e w' => e = .returned (.int .i64 ix) ∧ Upd [] W w') := Lib.hid (by
    have h := rperson_any (HS.out.upd HU.out) HI.out.up (by rw [← HN.out.1]; omega) who
    rw [HSC.out, ← HC.out, ← hix] at h
    exact h)
  have HIX := Lib.hid hix
  clear hix
  have m0 : W.cell? ⟨T, 0, none⟩ = some (.int .i64 c1) := HBT.out.cell 0
  have m1 : W.cell? ⟨T, 1, none⟩ = some (.int .i64 c2) := HBT.out.cell 1
  have m2 : W.cell? ⟨T, 2, none⟩ = some (.int .i64 c3) := HBT.out.cell 2
  have m3 : W.cell? ⟨T, 3, none⟩ = some (.int .i64 c4) := HBT.out.cell 3
  have m4 : W.cell? ⟨T, 4, none⟩ = some (.slice pA n1 pc) := HBT.out.cell 4
  have m5 : W.cell? ⟨T, 5, none⟩ = some (.slice tA n2 tc) := HBT.out.cell 5
  have m6 : W.cell? ⟨T, 6, none⟩ = some (.slice bA n3 bc) := HBT.out.cell 6
  go_wp2_with fail
  refine HP.out.mono ?_
  rintro _ w1 ⟨rfl, hu1⟩
  have hbt1 := HBT.out.upd hu1 (by simp)
  have hbr1 := HBR.out.upd hu1 (by simp)
  have hbq1 := HBQ.out.upd hu1 (by simp)
  have HBT1 := Lib.hid hbt1
  have HBR1 := Lib.hid hbr1
  have HU1 := Lib.hid (HU.out.next hu1)
  clear HP m0 m1 m2 m3 m4 m5 m6 q1 q2 q3
  have q1 : w1.cell? ⟨T + 1, 1, none⟩ = some (.int .i64 who) := hbq1.cell 1
  have q2 : w1.cell? ⟨T + 1, 2, none⟩ = some (.int .i64 room) := hbq1.cell 2
  have q3 : w1.cell? ⟨T + 1, 3, none⟩ = some (.int .i64 rights) := hbq1.cell 3
  have HBQ1 := Lib.hid hbq1
  clear hbt1 hbr1 hbq1 hu1
  by_cases k7 : (0 : Int) ≤ ix
  · have H1 : Hid (r = (s, 22)) := Lib.hid (by rw [HR.out]; unfold joinM; rw [if_neg H0.out, if_pos (by have := HIX.out; unfold ridxM at this; dsimp only; split at this <;> first | assumption | omega)])
    obtain ⟨kx, ux⟩ := blk7 HBR1.out (.int .i64 c1) (.int .i64 c2) (.int .i64 c3) (.int .i64 c4) (.slice pA n1 pc) (.slice tA n2 tc) (.slice bA n3 bc)
    obtain ⟨wx, hwx⟩ : ∃ wx, wx = (((((((w1.setCell ⟨T + 1 + 1, 0, none⟩ (.int .i64 c1)).setCell ⟨T + 1 + 1, 1, none⟩ (.int .i64 c2)).setCell ⟨T + 1 + 1, 2, none⟩ (.int .i64 c3)).setCell ⟨T + 1 + 1, 3, none⟩ (.int .i64 c4)).setCell ⟨T + 1 + 1, 4, none⟩ (.slice pA n1 pc)).setCell ⟨T + 1 + 1, 5, none⟩ (.slice tA n2 tc)).setCell ⟨T + 1 + 1, 6, none⟩ (.slice bA n3 bc)) := ⟨_, rfl⟩
    rw [← hwx] at kx ux
    have HKX := Lib.hid kx
    have HUX := Lib.hid ux
    have HWX := Lib.hid hwx
    clear kx ux hwx
    have m0 : w1.cell? ⟨T, 0, none⟩ = some (.int .i64 c1) := HBT1.out.cell 0
    have m1 : w1.cell? ⟨T, 1, none⟩ = some (.int .i64 c2) := HBT1.out.cell 1
    have m2 : w1.cell? ⟨T, 2, none⟩ = some (.int .i64 c3) := HBT1.out.cell 2
    have m3 : w1.cell? ⟨T, 3, none⟩ = some (.int .i64 c4) := HBT1.out.cell 3
    have m4 : w1.cell? ⟨T, 4, none⟩ = some (.slice pA n1 pc) := HBT1.out.cell 4
    have m5 : w1.cell? ⟨T, 5, none⟩ = some (.slice tA n2 tc) := HBT1.out.cell 5
    have m6 : w1.cell? ⟨T, 6, none⟩ = some (.slice bA n3 bc) := HBT1.out.cell 6
    have n10 := HBR1.out.frozen 0
    have o0 : w1.cell? ⟨T + 1 + 1, 0, none⟩ = some (.int .i64 0) := HBR1.out.cell 0
    have n11 := HBR1.out.frozen 1
    have o1 : w1.cell? ⟨T + 1 + 1, 1, none⟩ = some (.int .i64 0) := HBR1.out.cell 1
    have n12 := HBR1.out.frozen 2
    have o2 : w1.cell? ⟨T + 1 + 1, 2, none⟩ = some (.int .i64 0) := HBR1.out.cell 2
    have n13 := HBR1.out.frozen 3
    have o3 : w1.cell? ⟨T + 1 + 1, 3, none⟩ = some (.int .i64 0) := HBR1.out.cell 3
    have n14 := HBR1.out.frozen 4
    have o4 : w1.cell? ⟨T + 1 + 1, 4, none⟩ = some (.slice none 0 0) := HBR1.out.cell 4
    have n15 := HBR1.out.frozen 5
    have o5 : w1.cell? ⟨T + 1 + 1, 5, none⟩ = some (.slice none 0 0) := HBR1.out.cell 5
    have n16 := HBR1.out.frozen 6
    have o6 : w1.cell? ⟨T + 1 + 1, 6, none⟩ = some (.slice none 0 0) := HBR1.out.cell 6
    go_wp2
    rw [← HWX.out]
    have g0 := HKX.out.cell 0
    have g1 := HKX.out.cell 1
    have g2 := HKX.out.cell 2
    have g3 := HKX.out.cell 3
    have g4 := HKX.out.cell 4
    have g5 := HKX.out.cell 5
    have g6 := HKX.out.cell 6
    simp only [List.getElem?_toArray, List.getElem?_cons_zero, List.getElem?_cons_succ] at g0 g1 g2 g3 g4 g5 g6
    refine bodyPost_res (v := .tuple #[.agg #[.int .i64 c1, .int .i64 c2, .int .i64 c3, .int .i64 c4, .slice pA n1 pc, .slice tA n2 tc, .slice bA n3 bc], .int .i64 22]) (by simp [results, Try.results34, go_sem, Addr.add, g0, g1, g2, g3, g4, g5, g6]) rfl ?_
    exact ⟨⟨pA, pc, tx, tA, tc, bA, bc⟩, by rw [H1.out]; dsimp only; rw [HSC.out, ← HC.out], by rw [H1.out]; exact HS.out.upd (HU1.out.box HUX.out HT.out), by rw [H1.out]; exact fun _ _ _ ha => ha, HU1.out.box HUX.out HT.out⟩
  have HNO : Hid (has (cP who) s.ps = false) := Lib.hid (by
    have := HIX.out
    unfold ridxM at this
    cases hh : has (cP who) s.ps
    · rfl
    · rw [hh, if_pos rfl] at this
      omega)
  have m0 : w1.cell? ⟨T, 0, none⟩ = some (.int .i64 c1) := HBT1.out.cell 0
  have m1 : w1.cell? ⟨T, 1, none⟩ = some (.int .i64 c2) := HBT1.out.cell 1
  have m2 : w1.cell? ⟨T, 2, none⟩ = some (.int .i64 c3) := HBT1.out.cell 2
  have m3 : w1.cell? ⟨T, 3, none⟩ = some (.int .i64 c4) := HBT1.out.cell 3
  have m4 : w1.cell? ⟨T, 4, none⟩ = some (.slice pA n1 pc) := HBT1.out.cell 4
  have m5 : w1.cell? ⟨T, 5, none⟩ = some (.slice tA n2 tc) := HBT1.out.cell 5
  have m6 : w1.cell? ⟨T, 6, none⟩ = some (.slice bA n3 bc) := HBT1.out.cell 6
  by_cases k8 : c1 ≤ (n1 : Int)
  · have H1 : Hid (r = (s, 20)) := Lib.hid (by rw [HR.out]; unfold joinM; rw [if_neg H0.out, if_neg (by dsimp only; rw [HNO.out]; decide), if_pos (by rw [← HC.out, ← HN.out.1]; exact k8)])
    obtain ⟨kx, ux⟩ := blk7 HBR1.out (.int .i64 c1) (.int .i64 c2) (.int .i64 c3) (.int .i64 c4) (.slice pA n1 pc) (.slice tA n2 tc) (.slice bA n3 bc)
    obtain ⟨wx, hwx⟩ : ∃ wx, wx = (((((((w1.setCell ⟨T + 1 + 1, 0, none⟩ (.int .i64 c1)).setCell ⟨T + 1 + 1, 1, none⟩ (.int .i64 c2)).setCell ⟨T + 1 + 1, 2, none⟩ (.int .i64 c3)).setCell ⟨T + 1 + 1, 3, none⟩ (.int .i64 c4)).setCell ⟨T + 1 + 1, 4, none⟩ (.slice pA n1 pc)).setCell ⟨T + 1 + 1, 5, none⟩ (.slice tA n2 tc)).setCell ⟨T + 1 + 1, 6, none⟩ (.slice bA n3 bc)) := ⟨_, rfl⟩
    rw [← hwx] at kx ux
    have HKX := Lib.hid kx
    have HUX := Lib.hid ux
    have HWX := Lib.hid hwx
    clear kx ux hwx
    have m0 : w1.cell? ⟨T, 0, none⟩ = some (.int .i64 c1) := HBT1.out.cell 0
    have m1 : w1.cell? ⟨T, 1, none⟩ = some (.int .i64 c2) := HBT1.out.cell 1
    have m2 : w1.cell? ⟨T, 2, none⟩ = some (.int .i64 c3) := HBT1.out.cell 2
    have m3 : w1.cell? ⟨T, 3, none⟩ = some (.int .i64 c4) := HBT1.out.cell 3
    have m4 : w1.cell? ⟨T, 4, none⟩ = some (.slice pA n1 pc) := HBT1.out.cell 4
    have m5 : w1.cell? ⟨T, 5, none⟩ = some (.slice tA n2 tc) := HBT1.out.cell 5
    have m6 : w1.cell? ⟨T, 6, none⟩ = some (.slice bA n3 bc) := HBT1.out.cell 6
    have n10 := HBR1.out.frozen 0
    have o0 : w1.cell? ⟨T + 1 + 1, 0, none⟩ = some (.int .i64 0) := HBR1.out.cell 0
    have n11 := HBR1.out.frozen 1
    have o1 : w1.cell? ⟨T + 1 + 1, 1, none⟩ = some (.int .i64 0) := HBR1.out.cell 1
    have n12 := HBR1.out.frozen 2
    have o2 : w1.cell? ⟨T + 1 + 1, 2, none⟩ = some (.int .i64 0) := HBR1.out.cell 2
    have n13 := HBR1.out.frozen 3
    have o3 : w1.cell? ⟨T + 1 + 1, 3, none⟩ = some (.int .i64 0) := HBR1.out.cell 3
    have n14 := HBR1.out.frozen 4
    have o4 : w1.cell? ⟨T + 1 + 1, 4, none⟩ = some (.slice none 0 0) := HBR1.out.cell 4
    have n15 := HBR1.out.frozen 5
    have o5 : w1.cell? ⟨T + 1 + 1, 5, none⟩ = some (.slice none 0 0) := HBR1.out.cell 5
    have n16 := HBR1.out.frozen 6
    have o6 : w1.cell? ⟨T + 1 + 1, 6, none⟩ = some (.slice none 0 0) := HBR1.out.cell 6
    go_wp2
    rw [← HWX.out]
    have g0 := HKX.out.cell 0
    have g1 := HKX.out.cell 1
    have g2 := HKX.out.cell 2
    have g3 := HKX.out.cell 3
    have g4 := HKX.out.cell 4
    have g5 := HKX.out.cell 5
    have g6 := HKX.out.cell 6
    simp only [List.getElem?_toArray, List.getElem?_cons_zero, List.getElem?_cons_succ] at g0 g1 g2 g3 g4 g5 g6
    refine bodyPost_res (v := .tuple #[.agg #[.int .i64 c1, .int .i64 c2, .int .i64 c3, .int .i64 c4, .slice pA n1 pc, .slice tA n2 tc, .slice bA n3 bc], .int .i64 20]) (by simp [results, Try.results34, go_sem, Addr.add, g0, g1, g2, g3, g4, g5, g6]) rfl ?_
    exact ⟨⟨pA, pc, tx, tA, tc, bA, bc⟩, by rw [H1.out]; dsimp only; rw [HSC.out, ← HC.out], by rw [H1.out]; exact HS.out.upd (HU1.out.box HUX.out HT.out), by rw [H1.out]; exact fun _ _ _ ha => ha, HU1.out.box HUX.out HT.out⟩
  have H8 : Hid (r = ({ s with ps := ins s.ps (low (cP who) s.ps) ⟨who, room, rights⟩ }, 0)) := Lib.hid (by rw [HR.out]; unfold joinM; rw [if_neg H0.out, if_neg (by dsimp only; rw [HNO.out]; decide), if_neg (by rw [← HC.out, ← HN.out.1]; exact k8)])
  have HRW := Lib.hid (rowP (HS.out.upd HU1.out).p rfl)
  go_wp2
  clear m0 m1 m2 m3 m4 m5 m6 k1 k2 k3 k4 k5 k6 HNO H0 HR q1 q2 q3
  go_loopg [6] n1 (fun gk x6 wr => ∃ i : Nat, i ≤ n1 ∧ n1 ≤ i + gk ∧ x6 = .int .i64 i ∧ (∀ k x, s.ps[k]? = some x → k < i → cP who x < 0) ∧ Upd [] w1 wr)
  case atStart => exact ⟨0, Nat.zero_le _, by omega, rfl, fun _ _ _ hm => absurd hm (Nat.not_lt_zero _), Upd.refl _ _⟩
  case round =>
    obtain ⟨i, hi, hgi, rfl, hno, hur⟩ := hrel
    have m4 : wr.cell? ⟨T, 4, none⟩ = some (.slice pA n1 pc) := (HBT1.out.upd hur (by simp)).cell 4
    have q1 : wr.cell? ⟨T + 1, 1, none⟩ = some (.int .i64 who) := (HBQ1.out.upd hur (by simp)).cell 1
    have hTw := cellD_lt m4
    have hQw := cellD_lt q1
    obtain ⟨bo, hbo⟩ : ∃ bo, bo = decide (∃ x, s.ps[i]? = some x ∧ x.who < who) := ⟨_, rfl⟩
    have HGI := Lib.hid hgi
    have HUR := Lib.hid hur
    have HNO := Lib.hid hno
    clear hgi hur hno
    go_upto_region 8 with fail
    go_cut [66] (fun v wd => v = .bool bo ∧ Upd [] wr wd)
    case first =>
      by_cases hlt : i < n1
      · obtain ⟨x, hxi⟩ : ∃ x, s.ps[i]? = some x := ⟨_, List.getElem?_eq_getElem (by rw [← HN.out.1]; exact hlt)⟩
        obtain ⟨b1, o1, e, e0, e1, e2⟩ := HRW.out i x hxi
        cases e
        have hb1l := cellD_lt e0
        replace e0 := (HUR.out.cell (p := ⟨b1, o1 + i * 3, none⟩) hb1l (by simp)).trans e0
        have hlti : (i : Int) < (n1 : Int) := by omega
        have HBO : Hid (bo = decide (x.who < who)) := Lib.hid (by rw [hbo]; simp [hxi])
        clear hbo hxi e1 e2 hb1l
        go_wp2_with fail
        go_quiet (fail)
        go_wp2
        go_meet
        case rel => exact ⟨by rw [HBO.out], (Upd.refl [] wr).drewN _⟩
      · have HBO : Hid (bo = false) := Lib.hid (by rw [hbo]; simp; intro x hx; exact absurd (List.getElem?_eq_some_iff.1 hx).1 (by rw [← HN.out.1]; exact hlt))
        have hlti : ¬ ((i : Int) < (n1 : Int)) := by omega
        clear hbo
        go_wp2_with fail
        go_quiet (fail)
        go_wp2
        go_meet
        case rel => exact ⟨by rw [HBO.out], (Upd.refl [] wr).drewN _⟩
    obtain ⟨rfl, hud⟩ := hcut
    have HUC := Lib.hid (HUR.out.next hud)
    have HBO2 := Lib.hid hbo
    clear hbo hud m4 q1 hTw hQw
    cases bo
    case true =>
      have HX : Hid (∃ x, s.ps[i]? = some x ∧ x.who < who) := Lib.hid (by simpa using HBO2.out.symm)
      have hlt : i < n1 := by
        obtain ⟨x, hx, _⟩ := HX.out
        rw [HN.out.1]
        exact (List.getElem?_eq_some_iff.1 hx).1
      have hwi : IntKind.i64.wrap ((i : Int) + 1) = (i : Int) + 1 := IntWalk.i64_in _ (by omega)
      go_wp2
      go_roundg (gk - 1)
      case measure => have := HGI.out; omega
      case rel =>
        refine ⟨i + 1, by omega, by have := HGI.out; omega, by go_num, ?_, HUC.out⟩
        intro k x hx hk
        by_cases hki : k = i
        · subst hki
          obtain ⟨y, hy, hyw⟩ := HX.out
          rw [hx] at hy
          obtain rfl := Option.some.inj hy
          unfold cP
          rw [cmpI_neg]
          exact hyw
        · exact HNO.out k x hx (by omega)
    case false =>
      have HLO : Hid (low (cP who) s.ps = i) := Lib.hid (by
        refine low_eq (by rw [← HN.out.1]; exact hi) HNO.out ?_
        intro k x hx hk
        have hb : ¬ ∃ x, s.ps[i]? = some x ∧ x.who < who := by simpa using HBO2.out.symm
        have hkn := (List.getElem?_eq_some_iff.1 hx).1
        have hlt : i < s.ps.length := by omega
        have h0 : ¬ (s.ps[i].who < who) := fun h => hb ⟨_, List.getElem?_eq_getElem hlt, h⟩
        have h1 : ¬ (x.who < who) := by
          by_cases hki : k = i
          · subst hki
            rw [List.getElem?_eq_getElem hlt] at hx
            obtain rfl := Option.some.inj hx
            exact h0
          · have := (List.pairwise_iff_getElem.1 HI.out.up) i k hlt hkn (by omega)
            rw [List.getElem?_eq_getElem hkn] at hx
            obtain rfl := Option.some.inj hx
            omega
        have : ¬ (cP who x < 0) := by unfold cP; rw [cmpI_neg]; exact h1
        omega)
      have HLN : Hid (n1 = s.ps.length) := Lib.hid HN.out.1
      have HLS := HLN
      obtain ⟨j0, hj0, hy0, hy1, hy2⟩ := info_parts infoRP
      have HRP := Lib.hid (HS.out.upd (HU1.out.next HUC.out)).p
      have hle := HRP.out.le
      have hcm := HRP.out.cm
      have hnil := HRP.out.nl
      dsimp only at hle hcm hnil
      rw [← HLS.out] at hle hnil
      have hin : (i : Int) ≤ (n1 : Int) := by omega
      have hbt2 := HBT1.out.upd HUC.out (by simp)
      have m4 : wc.cell? ⟨T, 4, none⟩ = some (.slice pA n1 pc) := hbt2.cell 4
      clear hbt2
      rcases pA with _ | a0
      · obtain ⟨hz, hzc⟩ := hnil rfl
        have hiz : i = 0 := by omega
        subst hiz
        obtain rfl := hz
        obtain rfl := hzc
        go_wp2_with (at_builtin; refine wpList_append_src wc rfl (.tmp 69) (.tmp 73) 33 rfl wc.heap.size 74 j0 _ 3 24 Try.underlying33 hj0 hy0 hy1 hy2 rfl (by decide) (.slice none 0 0) 0 [] rfl (World.ownsRow_nil _ _ _ _) none 0 0 ((s.ps.take 0).flatMap encP) rfl (fun e => by first | exact ⟨rfl, rfl⟩ | cases e) (by rw [flat_length encP_len, List.length_take, ← HLN.out, Nat.min_eq_left hi]) (fun _ e => by cases e) (flat_ones encP_one _) (by unfold maxLen; omega) (by omega) (Nat.le_refl _) ?_)
        intro v6 w6 hown6 hg6 _
        obtain ⟨A6, d6, hv6, _⟩ := own_form hown6
        subst hv6
        have HU6 : Hid (Upd [] wc w6) := Lib.hid (Upd.of_below ((Upd.of_grown hg6).below (Nat.le_refl _) (fun s hs => by
          rw [own_list] at hs
          simp at hs)))
        have HOWN6 := Lib.hid hown6
        have HW6 := Lib.hid (HU1.out.next (HUC.out.next HU6.out))
        clear hown6 hg6 m4
        have hbq6 := HBQ1.out.upd (HUC.out.next HU6.out) (by simp)
        have q1 : w6.cell? ⟨T + 1, 1, none⟩ = some (.int .i64 who) := hbq6.cell 1
        have q2 : w6.cell? ⟨T + 1, 2, none⟩ = some (.int .i64 room) := hbq6.cell 2
        have q3 : w6.cell? ⟨T + 1, 3, none⟩ = some (.int .i64 rights) := hbq6.cell 3
        clear hbq6
        obtain ⟨V, hV⟩ : ∃ V, V = w6.heap.size := ⟨_, rfl⟩
        obtain ⟨w7, hw7⟩ : ∃ W3, W3 = w6.alloc (.cells #[.int .i64 who, .int .i64 room, .int .i64 rights] 74) := ⟨_, rfl⟩
        have u7 : Upd [] w6 w7 := by rw [hw7]; exact (Upd.refl [] w6).alloc _
        have hVB : Blk w7 V 74 (encP (⟨who, room, rights⟩ : Per)).toArray := by rw [hw7, hV]; exact Blk.new _ _ _
        have HV := Lib.hid hV
        have HW7 := Lib.hid hw7
        have HU7 := Lib.hid u7
        have HVB := Lib.hid hVB
        clear hV hw7 u7 hVB
        go_wp2_with (at_builtin; go_loud (rw [← HW7.out, ← HV.out]; refine wpList_append_src w7 rfl (.tmp 75) (.tmp 83) 33 rfl wc.heap.size 74 j0 _ 3 24 Try.underlying33 hj0 hy0 hy1 hy2 rfl (by decide) (.slice A6 0 d6) 0 _ rfl (ownsRow_upd HOWN6.out HU7.out (by simp)) (some ⟨V, 0, none⟩) 1 1 (encP (⟨who, room, rights⟩ : Per)) rfl (fun e => by cases e) rfl (row_lit HVB.out) (encP_one _) (by unfold maxLen; omega) (by omega) (Nat.le_trans HU6.out.size HU7.out.size) ?_))
        intro v8 w8 hown8 hg8 _
        obtain ⟨A8, d8, hv8, _⟩ := own_form hown8
        subst hv8
        have HU8 : Hid (Upd [] wc w8) := Lib.hid (Upd.of_below (((HU6.out.next HU7.out).below (Nat.le_refl _) (by simp)).trans ((Upd.of_grown hg8).below (Nat.le_trans HU6.out.size HU7.out.size) (fun s hs => by
          rw [own_list] at hs
          exact (own_in (ownsRow_upd HOWN6.out HU7.out (by simp)) s hs).2))))
        have HOWN8 := Lib.hid hown8
        clear hown8 hg8 q1 q2 q3
        have hbt8 := HBT1.out.upd (HUC.out.next HU8.out) (by simp)
        have m4 : w8.cell? ⟨T, 4, none⟩ = some (.slice none 0 0) := hbt8.cell 4
        have HBT8 := Lib.hid hbt8
        clear hbt8
        go_wp2_with (at_builtin; go_loud (refine wpList_append_src w8 rfl (.tmp 85) (.tmp 89) 33 rfl wc.heap.size 74 j0 _ 3 24 Try.underlying33 hj0 hy0 hy1 hy2 rfl (by decide) (.slice A8 (0 + 1) d8) (0 + 1) _ rfl HOWN8.out none 0 0 ((s.ps.drop 0).flatMap encP) rfl (fun e => by first | exact ⟨rfl, rfl⟩ | cases e) (by rw [flat_length encP_len, List.length_drop, ← HLN.out]) (fun _ e => by cases e) (flat_ones encP_one _) (by unfold maxLen; omega) (by omega) HU8.out.size ?_))
        intro v10 w10 hown10 hg10 _
        obtain ⟨A10, d10, hv10, _⟩ := own_form hown10
        subst hv10
        have HU10 : Hid (Upd [] wc w10) := Lib.hid (Upd.of_below ((HU8.out.below (Nat.le_refl _) (by simp)).trans ((Upd.of_grown hg10).below HU8.out.size (fun s hs => by
          rw [own_list] at hs
          exact (own_in HOWN8.out s hs).2))))
        have hbt10 := HBT1.out.upd (HUC.out.next HU10.out) (by simp)
        have hbr10 := HBR1.out.upd (HUC.out.next HU10.out) (by simp)
        have f4 := hbt10.frozen 4
        have e4 : w10.cell? ⟨T, 4, none⟩ = some (.slice none 0 0) := hbt10.cell 4
        obtain ⟨w11, hw11⟩ : ∃ w11, w11 = w10.setCell ⟨T, 4, none⟩ (.slice A10 1 d10) := ⟨_, rfl⟩
        have us : Upd [T] w10 w11 := by rw [hw11]; exact (Upd.refl [T] w10).setCell (.inl (by simp)) _
        have HBT11 : Hid (Blk w11 T 37 #[.int .i64 c1, .int .i64 c2, .int .i64 c3, .int .i64 c4, .slice A10 1 d10, .slice tA n2 tc, .slice bA n3 bc]) := Lib.hid (by rw [hw11]; exact hbt10.store 4 _)
        have HBR11 := Lib.hid (hbr10.upd us (by simp; omega))
        have HU11 : Hid (Upd [] w w11) := Lib.hid (((HU1.out.next (HUC.out.next HU10.out))).box' us (by rw [HT.out]; exact Nat.le_refl _))
        have HOWN11 : Hid (w11.ownsRow wc.heap.size 74 3 (.slice A10 1 d10) 1 ((ins s.ps 0 (⟨who, room, rights⟩ : Per)).flatMap encP)) := Lib.hid (by
          have h := ownsRow_upd hown10 us (fun s hs hg => by rw [List.mem_singleton] at hs; subst hs; exact own_box hown10 hbt10 (by decide) hg)
          unfold ins
          simpa using h)
        have HLEN : Hid ((ins s.ps 0 (⟨who, room, rights⟩ : Per)).length = 1) := Lib.hid (by have h0 := HLN.out; unfold ins; rw [List.length_append, List.length_cons, List.length_take, List.length_drop]; omega)
        have HW11 := Lib.hid hw11
        clear hown10 hg10 us hw11 hbr10
        go_upto_region 14 with fail
        rw [← HW11.out]
        clear f4 e4 hbt10
        obtain ⟨kx, ux⟩ := blk7 HBR11.out (.int .i64 c1) (.int .i64 c2) (.int .i64 c3) (.int .i64 c4) (.slice A10 1 d10) (.slice tA n2 tc) (.slice bA n3 bc)
        obtain ⟨wx, hwx⟩ : ∃ wx, wx = (((((((w11.setCell ⟨T + 1 + 1, 0, none⟩ (.int .i64 c1)).setCell ⟨T + 1 + 1, 1, none⟩ (.int .i64 c2)).setCell ⟨T + 1 + 1, 2, none⟩ (.int .i64 c3)).setCell ⟨T + 1 + 1, 3, none⟩ (.int .i64 c4)).setCell ⟨T + 1 + 1, 4, none⟩ (.slice A10 1 d10)).setCell ⟨T + 1 + 1, 5, none⟩ (.slice tA n2 tc)).setCell ⟨T + 1 + 1, 6, none⟩ (.slice bA n3 bc)) := ⟨_, rfl⟩
        rw [← hwx] at kx ux
        have HKX := Lib.hid kx
        have HUX := Lib.hid ux
        have HWX := Lib.hid hwx
        clear kx ux hwx
        have m0 : w11.cell? ⟨T, 0, none⟩ = some (.int .i64 c1) := HBT11.out.cell 0
        have m1 : w11.cell? ⟨T, 1, none⟩ = some (.int .i64 c2) := HBT11.out.cell 1
        have m2 : w11.cell? ⟨T, 2, none⟩ = some (.int .i64 c3) := HBT11.out.cell 2
        have m3 : w11.cell? ⟨T, 3, none⟩ = some (.int .i64 c4) := HBT11.out.cell 3
        have m4 : w11.cell? ⟨T, 4, none⟩ = some (.slice A10 1 d10) := HBT11.out.cell 4
        have m5 : w11.cell? ⟨T, 5, none⟩ = some (.slice tA n2 tc) := HBT11.out.cell 5
        have m6 : w11.cell? ⟨T, 6, none⟩ = some (.slice bA n3 bc) := HBT11.out.cell 6
        have n10 := HBR11.out.frozen 0
        have o0 : w11.cell? ⟨T + 1 + 1, 0, none⟩ = some (.int .i64 0) := HBR11.out.cell 0
        have n11 := HBR11.out.frozen 1
        have o1 : w11.cell? ⟨T + 1 + 1, 1, none⟩ = some (.int .i64 0) := HBR11.out.cell 1
        have n12 := HBR11.out.frozen 2
        have o2 : w11.cell? ⟨T + 1 + 1, 2, none⟩ = some (.int .i64 0) := HBR11.out.cell 2
        have n13 := HBR11.out.frozen 3
        have o3 : w11.cell? ⟨T + 1 + 1, 3, none⟩ = some (.int .i64 0) := HBR11.out.cell 3
        have n14 := HBR11.out.frozen 4
        have o4 : w11.cell? ⟨T + 1 + 1, 4, none⟩ = some (.slice none 0 0) := HBR11.out.cell 4
        have n15 := HBR11.out.frozen 5
        have o5 : w11.cell? ⟨T + 1 + 1, 5, none⟩ = some (.slice none 0 0) := HBR11.out.cell 5
        have n16 := HBR11.out.frozen 6
        have o6 : w11.cell? ⟨T + 1 + 1, 6, none⟩ = some (.slice none 0 0) := HBR11.out.cell 6
        go_wp2
        rw [← HWX.out]
        have g0 := HKX.out.cell 0
        have g1 := HKX.out.cell 1
        have g2 := HKX.out.cell 2
        have g3 := HKX.out.cell 3
        have g4 := HKX.out.cell 4
        have g5 := HKX.out.cell 5
        have g6 := HKX.out.cell 6
        simp only [List.getElem?_toArray, List.getElem?_cons_zero, List.getElem?_cons_succ] at g0 g1 g2 g3 g4 g5 g6
        refine bodyPost_res (v := .tuple #[.agg #[.int .i64 c1, .int .i64 c2, .int .i64 c3, .int .i64 c4, .slice A10 1 d10, .slice tA n2 tc, .slice bA n3 bc], .int .i64 0]) (by simp [results, Try.results34, go_sem, Addr.add, g0, g1, g2, g3, g4, g5, g6]) rfl ?_
        have HOWN12 := ownsRow_upd HOWN11.out HUX.out (fun s hs hg => by rw [List.mem_singleton] at hs; subst hs; exact own_box HOWN11.out HBR11.out (by decide) hg)
        have HFIN := HU11.out.box HUX.out HT.out
        refine ⟨⟨A10, d10, tx, tA, tc, bA, bc⟩, ?_, ?_, ?_, HFIN⟩
        · rw [H8.out, HLO.out]
          unfold scells
          dsimp only
          rw [← HC.out, HLEN.out, ← HN.out.2.1, ← HN.out.2.2]
        · rw [H8.out, HLO.out]
          have k := HS.out.upd HFIN
          refine ⟨?_, k.t, k.b, k.tx, k.ss⟩
          dsimp only
          rw [HLEN.out]
          exact (RwIn.of_own HOWN12).more (Nat.zero_le _)
        · intro g hg _ ha
          rw [H8.out, HLO.out]
          refine ⟨?_, ha.t, ha.b, ha.ss⟩
          dsimp only
          rw [HLEN.out]
          exact own_av HOWN12 (Nat.lt_of_lt_of_le hg (HU1.out.next HUC.out).size)
      · go_wp2_with (at_builtin; refine wpList_append_src wc rfl (.tmp 69) (.tmp 73) 33 rfl wc.heap.size 74 j0 _ 3 24 Try.underlying33 hj0 hy0 hy1 hy2 rfl (by decide) (.slice none 0 0) 0 [] rfl (World.ownsRow_nil _ _ _ _) (some a0) i pc ((s.ps.take i).flatMap encP) rfl (fun e => by first | exact ⟨rfl, rfl⟩ | cases e) (by rw [flat_length encP_len, List.length_take, ← HLN.out, Nat.min_eq_left hi]) (HRP.out.piece0 encP_len) (flat_ones encP_one _) (by unfold maxLen; omega) (by omega) (Nat.le_refl _) ?_)
        intro v6 w6 hown6 hg6 _
        obtain ⟨A6, d6, hv6, _⟩ := own_form hown6
        subst hv6
        have HU6 : Hid (Upd [] wc w6) := Lib.hid (Upd.of_below ((Upd.of_grown hg6).below (Nat.le_refl _) (fun s hs => by
          rw [own_list] at hs
          simp at hs)))
        have HOWN6 := Lib.hid hown6
        have HW6 := Lib.hid (HU1.out.next (HUC.out.next HU6.out))
        clear hown6 hg6 m4
        have hbq6 := HBQ1.out.upd (HUC.out.next HU6.out) (by simp)
        have q1 : w6.cell? ⟨T + 1, 1, none⟩ = some (.int .i64 who) := hbq6.cell 1
        have q2 : w6.cell? ⟨T + 1, 2, none⟩ = some (.int .i64 room) := hbq6.cell 2
        have q3 : w6.cell? ⟨T + 1, 3, none⟩ = some (.int .i64 rights) := hbq6.cell 3
        clear hbq6
        obtain ⟨V, hV⟩ : ∃ V, V = w6.heap.size := ⟨_, rfl⟩
        obtain ⟨w7, hw7⟩ : ∃ W3, W3 = w6.alloc (.cells #[.int .i64 who, .int .i64 room, .int .i64 rights] 74) := ⟨_, rfl⟩
        have u7 : Upd [] w6 w7 := by rw [hw7]; exact (Upd.refl [] w6).alloc _
        have hVB : Blk w7 V 74 (encP (⟨who, room, rights⟩ : Per)).toArray := by rw [hw7, hV]; exact Blk.new _ _ _
        have HV := Lib.hid hV
        have HW7 := Lib.hid hw7
        have HU7 := Lib.hid u7
        have HVB := Lib.hid hVB
        clear hV hw7 u7 hVB
        go_wp2_with (at_builtin; go_loud (rw [← HW7.out, ← HV.out]; refine wpList_append_src w7 rfl (.tmp 75) (.tmp 83) 33 rfl wc.heap.size 74 j0 _ 3 24 Try.underlying33 hj0 hy0 hy1 hy2 rfl (by decide) (.slice A6 i d6) i _ rfl (ownsRow_upd HOWN6.out HU7.out (by simp)) (some ⟨V, 0, none⟩) 1 1 (encP (⟨who, room, rights⟩ : Per)) rfl (fun e => by cases e) rfl (row_lit HVB.out) (encP_one _) (by unfold maxLen; omega) (by omega) (Nat.le_trans HU6.out.size HU7.out.size) ?_))
        intro v8 w8 hown8 hg8 _
        obtain ⟨A8, d8, hv8, _⟩ := own_form hown8
        subst hv8
        have HU8 : Hid (Upd [] wc w8) := Lib.hid (Upd.of_below (((HU6.out.next HU7.out).below (Nat.le_refl _) (by simp)).trans ((Upd.of_grown hg8).below (Nat.le_trans HU6.out.size HU7.out.size) (fun s hs => by
          rw [own_list] at hs
          exact (own_in (ownsRow_upd HOWN6.out HU7.out (by simp)) s hs).2))))
        have HOWN8 := Lib.hid hown8
        clear hown8 hg8 q1 q2 q3
        have hbt8 := HBT1.out.upd (HUC.out.next HU8.out) (by simp)
        have m4 : w8.cell? ⟨T, 4, none⟩ = some (.slice (some a0) n1 pc) := hbt8.cell 4
        have HBT8 := Lib.hid hbt8
        clear hbt8
        have hle2 : n1 - i ≤ pc - i := by omega
        by_cases hpc : pc = i
        · go_wp2_with (at_builtin; go_loud (refine wpList_append_src w8 rfl (.tmp 85) (.tmp 89) 33 rfl wc.heap.size 74 j0 _ 3 24 Try.underlying33 hj0 hy0 hy1 hy2 rfl (by decide) (.slice A8 (i + 1) d8) (i + 1) _ rfl HOWN8.out (some a0) (n1 - i) 0 ((s.ps.drop i).flatMap encP) rfl (fun e => by first | exact ⟨rfl, rfl⟩ | cases e) (by rw [flat_length encP_len, List.length_drop, ← HLN.out]) (by rw [List.drop_eq_nil_of_le (by rw [← HLN.out]; omega)]; intro ad _ j u hj; simp at hj) (flat_ones encP_one _) (by unfold maxLen; omega) (by omega) HU8.out.size ?_))
          intro v10 w10 hown10 hg10 _
          obtain ⟨A10, d10, hv10, _⟩ := own_form hown10
          subst hv10
          have HU10 : Hid (Upd [] wc w10) := Lib.hid (Upd.of_below ((HU8.out.below (Nat.le_refl _) (by simp)).trans ((Upd.of_grown hg10).below HU8.out.size (fun s hs => by
            rw [own_list] at hs
            exact (own_in HOWN8.out s hs).2))))
          have hbt10 := HBT1.out.upd (HUC.out.next HU10.out) (by simp)
          have hbr10 := HBR1.out.upd (HUC.out.next HU10.out) (by simp)
          have f4 := hbt10.frozen 4
          have e4 : w10.cell? ⟨T, 4, none⟩ = some (.slice (some a0) n1 pc) := hbt10.cell 4
          obtain ⟨NN, hNN⟩ : ∃ N, N = i + 1 + (n1 - i) := ⟨_, rfl⟩
          rw [← hNN] at hown10
          obtain ⟨w11, hw11⟩ : ∃ w11, w11 = w10.setCell ⟨T, 4, none⟩ (.slice A10 NN d10) := ⟨_, rfl⟩
          have us : Upd [T] w10 w11 := by rw [hw11]; exact (Upd.refl [T] w10).setCell (.inl (by simp)) _
          have HBT11 : Hid (Blk w11 T 37 #[.int .i64 c1, .int .i64 c2, .int .i64 c3, .int .i64 c4, .slice A10 NN d10, .slice tA n2 tc, .slice bA n3 bc]) := Lib.hid (by rw [hw11]; exact hbt10.store 4 _)
          have HBR11 := Lib.hid (hbr10.upd us (by simp; omega))
          have HU11 : Hid (Upd [] w w11) := Lib.hid (((HU1.out.next (HUC.out.next HU10.out))).box' us (by rw [HT.out]; exact Nat.le_refl _))
          have HOWN11 : Hid (w11.ownsRow wc.heap.size 74 3 (.slice A10 NN d10) NN ((ins s.ps i (⟨who, room, rights⟩ : Per)).flatMap encP)) := Lib.hid (by
            have h := ownsRow_upd hown10 us (fun s hs hg => by rw [List.mem_singleton] at hs; subst hs; exact own_box hown10 hbt10 (by decide) hg)
            unfold ins
            rw [List.flatMap_append, List.flatMap_cons]
            exact h)
          have HLEN : Hid ((ins s.ps i (⟨who, room, rights⟩ : Per)).length = NN) := Lib.hid (by rw [hNN, HLN.out]; unfold ins; rw [List.length_append, List.length_cons, List.length_take, List.length_drop, Nat.min_eq_left (by rw [← HLN.out]; exact hi)]; omega)
          have HNN := Lib.hid hNN
          have HW11 := Lib.hid hw11
          clear hown10 hg10 us hw11 hbr10 hNN
          rw [← HNN.out]
          go_upto_region 14 with fail
          rw [← HW11.out]
          clear f4 e4 hbt10
          obtain ⟨kx, ux⟩ := blk7 HBR11.out (.int .i64 c1) (.int .i64 c2) (.int .i64 c3) (.int .i64 c4) (.slice A10 NN d10) (.slice tA n2 tc) (.slice bA n3 bc)
          obtain ⟨wx, hwx⟩ : ∃ wx, wx = (((((((w11.setCell ⟨T + 1 + 1, 0, none⟩ (.int .i64 c1)).setCell ⟨T + 1 + 1, 1, none⟩ (.int .i64 c2)).setCell ⟨T + 1 + 1, 2, none⟩ (.int .i64 c3)).setCell ⟨T + 1 + 1, 3, none⟩ (.int .i64 c4)).setCell ⟨T + 1 + 1, 4, none⟩ (.slice A10 NN d10)).setCell ⟨T + 1 + 1, 5, none⟩ (.slice tA n2 tc)).setCell ⟨T + 1 + 1, 6, none⟩ (.slice bA n3 bc)) := ⟨_, rfl⟩
          rw [← hwx] at kx ux
          have HKX := Lib.hid kx
          have HUX := Lib.hid ux
          have HWX := Lib.hid hwx
          clear kx ux hwx
          have m0 : w11.cell? ⟨T, 0, none⟩ = some (.int .i64 c1) := HBT11.out.cell 0
          have m1 : w11.cell? ⟨T, 1, none⟩ = some (.int .i64 c2) := HBT11.out.cell 1
          have m2 : w11.cell? ⟨T, 2, none⟩ = some (.int .i64 c3) := HBT11.out.cell 2
          have m3 : w11.cell? ⟨T, 3, none⟩ = some (.int .i64 c4) := HBT11.out.cell 3
          have m4 : w11.cell? ⟨T, 4, none⟩ = some (.slice A10 NN d10) := HBT11.out.cell 4
          have m5 : w11.cell? ⟨T, 5, none⟩ = some (.slice tA n2 tc) := HBT11.out.cell 5
          have m6 : w11.cell? ⟨T, 6, none⟩ = some (.slice bA n3 bc) := HBT11.out.cell 6
          have n10 := HBR11.out.frozen 0
          have o0 : w11.cell? ⟨T + 1 + 1, 0, none⟩ = some (.int .i64 0) := HBR11.out.cell 0
          have n11 := HBR11.out.frozen 1
          have o1 : w11.cell? ⟨T + 1 + 1, 1, none⟩ = some (.int .i64 0) := HBR11.out.cell 1
          have n12 := HBR11.out.frozen 2
          have o2 : w11.cell? ⟨T + 1 + 1, 2, none⟩ = some (.int .i64 0) := HBR11.out.cell 2
          have n13 := HBR11.out.frozen 3
          have o3 : w11.cell? ⟨T + 1 + 1, 3, none⟩ = some (.int .i64 0) := HBR11.out.cell 3
          have n14 := HBR11.out.frozen 4
          have o4 : w11.cell? ⟨T + 1 + 1, 4, none⟩ = some (.slice none 0 0) := HBR11.out.cell 4
          have n15 := HBR11.out.frozen 5
          have o5 : w11.cell? ⟨T + 1 + 1, 5, none⟩ = some (.slice none 0 0) := HBR11.out.cell 5
          have n16 := HBR11.out.frozen 6
          have o6 : w11.cell? ⟨T + 1 + 1, 6, none⟩ = some (.slice none 0 0) := HBR11.out.cell 6
          go_wp2
          rw [← HWX.out]
          have g0 := HKX.out.cell 0
          have g1 := HKX.out.cell 1
          have g2 := HKX.out.cell 2
          have g3 := HKX.out.cell 3
          have g4 := HKX.out.cell 4
          have g5 := HKX.out.cell 5
          have g6 := HKX.out.cell 6
          simp only [List.getElem?_toArray, List.getElem?_cons_zero, List.getElem?_cons_succ] at g0 g1 g2 g3 g4 g5 g6
          refine bodyPost_res (v := .tuple #[.agg #[.int .i64 c1, .int .i64 c2, .int .i64 c3, .int .i64 c4, .slice A10 NN d10, .slice tA n2 tc, .slice bA n3 bc], .int .i64 0]) (by simp [results, Try.results34, go_sem, Addr.add, g0, g1, g2, g3, g4, g5, g6]) rfl ?_
          have HOWN12 := ownsRow_upd HOWN11.out HUX.out (fun s hs hg => by rw [List.mem_singleton] at hs; subst hs; exact own_box HOWN11.out HBR11.out (by decide) hg)
          have HFIN := HU11.out.box HUX.out HT.out
          refine ⟨⟨A10, d10, tx, tA, tc, bA, bc⟩, ?_, ?_, ?_, HFIN⟩
          · rw [H8.out, HLO.out]
            unfold scells
            dsimp only
            rw [← HC.out, HLEN.out, ← HN.out.2.1, ← HN.out.2.2]
          · rw [H8.out, HLO.out]
            have k := HS.out.upd HFIN
            refine ⟨?_, k.t, k.b, k.tx, k.ss⟩
            dsimp only
            rw [HLEN.out]
            exact (RwIn.of_own HOWN12).more (Nat.zero_le _)
          · intro g hg _ ha
            rw [H8.out, HLO.out]
            refine ⟨?_, ha.t, ha.b, ha.ss⟩
            dsimp only
            rw [HLEN.out]
            exact own_av HOWN12 (Nat.lt_of_lt_of_le hg (HU1.out.next HUC.out).size)
        · go_wp2_with (at_builtin; go_loud (refine wpList_append_src w8 rfl (.tmp 85) (.tmp 89) 33 rfl wc.heap.size 74 j0 _ 3 24 Try.underlying33 hj0 hy0 hy1 hy2 rfl (by decide) (.slice A8 (i + 1) d8) (i + 1) _ rfl HOWN8.out (some (a0.add (i * 3))) (n1 - i) (pc - i) ((s.ps.drop i).flatMap encP) rfl (fun e => by first | exact ⟨rfl, rfl⟩ | cases e) (by rw [flat_length encP_len, List.length_drop, ← HLN.out]) ((HRP.out.upd HU8.out).piece1 encP_len rfl) (flat_ones encP_one _) (by unfold maxLen; omega) (by omega) HU8.out.size ?_))
          intro v10 w10 hown10 hg10 _
          obtain ⟨A10, d10, hv10, _⟩ := own_form hown10
          subst hv10
          have HU10 : Hid (Upd [] wc w10) := Lib.hid (Upd.of_below ((HU8.out.below (Nat.le_refl _) (by simp)).trans ((Upd.of_grown hg10).below HU8.out.size (fun s hs => by
            rw [own_list] at hs
            exact (own_in HOWN8.out s hs).2))))
          have hbt10 := HBT1.out.upd (HUC.out.next HU10.out) (by simp)
          have hbr10 := HBR1.out.upd (HUC.out.next HU10.out) (by simp)
          have f4 := hbt10.frozen 4
          have e4 : w10.cell? ⟨T, 4, none⟩ = some (.slice (some a0) n1 pc) := hbt10.cell 4
          obtain ⟨NN, hNN⟩ : ∃ N, N = i + 1 + (n1 - i) := ⟨_, rfl⟩
          rw [← hNN] at hown10
          obtain ⟨w11, hw11⟩ : ∃ w11, w11 = w10.setCell ⟨T, 4, none⟩ (.slice A10 NN d10) := ⟨_, rfl⟩
          have us : Upd [T] w10 w11 := by rw [hw11]; exact (Upd.refl [T] w10).setCell (.inl (by simp)) _
          have HBT11 : Hid (Blk w11 T 37 #[.int .i64 c1, .int .i64 c2, .int .i64 c3, .int .i64 c4, .slice A10 NN d10, .slice tA n2 tc, .slice bA n3 bc]) := Lib.hid (by rw [hw11]; exact hbt10.store 4 _)
          have HBR11 := Lib.hid (hbr10.upd us (by simp; omega))
          have HU11 : Hid (Upd [] w w11) := Lib.hid (((HU1.out.next (HUC.out.next HU10.out))).box' us (by rw [HT.out]; exact Nat.le_refl _))
          have HOWN11 : Hid (w11.ownsRow wc.heap.size 74 3 (.slice A10 NN d10) NN ((ins s.ps i (⟨who, room, rights⟩ : Per)).flatMap encP)) := Lib.hid (by
            have h := ownsRow_upd hown10 us (fun s hs hg => by rw [List.mem_singleton] at hs; subst hs; exact own_box hown10 hbt10 (by decide) hg)
            unfold ins
            rw [List.flatMap_append, List.flatMap_cons]
            exact h)
          have HLEN : Hid ((ins s.ps i (⟨who, room, rights⟩ : Per)).length = NN) := Lib.hid (by rw [hNN, HLN.out]; unfold ins; rw [List.length_append, List.length_cons, List.length_take, List.length_drop, Nat.min_eq_left (by rw [← HLN.out]; exact hi)]; omega)
          have HNN := Lib.hid hNN
          have HW11 := Lib.hid hw11
          clear hown10 hg10 us hw11 hbr10 hNN
          rw [← HNN.out]
          go_upto_region 14 with fail
          rw [← HW11.out]
          clear f4 e4 hbt10
          obtain ⟨kx, ux⟩ := blk7 HBR11.out (.int .i64 c1) (.int .i64 c2) (.int .i64 c3) (.int .i64 c4) (.slice A10 NN d10) (.slice tA n2 tc) (.slice bA n3 bc)
          obtain ⟨wx, hwx⟩ : ∃ wx, wx = (((((((w11.setCell ⟨T + 1 + 1, 0, none⟩ (.int .i64 c1)).setCell ⟨T + 1 + 1, 1, none⟩ (.int .i64 c2)).setCell ⟨T + 1 + 1, 2, none⟩ (.int .i64 c3)).setCell ⟨T + 1 + 1, 3, none⟩ (.int .i64 c4)).setCell ⟨T + 1 + 1, 4, none⟩ (.slice A10 NN d10)).setCell ⟨T + 1 + 1, 5, none⟩ (.slice tA n2 tc)).setCell ⟨T + 1 + 1, 6, none⟩ (.slice bA n3 bc)) := ⟨_, rfl⟩
          rw [← hwx] at kx ux
          have HKX := Lib.hid kx
          have HUX := Lib.hid ux
          have HWX := Lib.hid hwx
          clear kx ux hwx
          have m0 : w11.cell? ⟨T, 0, none⟩ = some (.int .i64 c1) := HBT11.out.cell 0
          have m1 : w11.cell? ⟨T, 1, none⟩ = some (.int .i64 c2) := HBT11.out.cell 1
          have m2 : w11.cell? ⟨T, 2, none⟩ = some (.int .i64 c3) := HBT11.out.cell 2
          have m3 : w11.cell? ⟨T, 3, none⟩ = some (.int .i64 c4) := HBT11.out.cell 3
          have m4 : w11.cell? ⟨T, 4, none⟩ = some (.slice A10 NN d10) := HBT11.out.cell 4
          have m5 : w11.cell? ⟨T, 5, none⟩ = some (.slice tA n2 tc) := HBT11.out.cell 5
          have m6 : w11.cell? ⟨T, 6, none⟩ = some (.slice bA n3 bc) := HBT11.out.cell 6
          have n10 := HBR11.out.frozen 0
          have o0 : w11.cell? ⟨T + 1 + 1, 0, none⟩ = some (.int .i64 0) := HBR11.out.cell 0
          have n11 := HBR11.out.frozen 1
          have o1 : w11.cell? ⟨T + 1 + 1, 1, none⟩ = some (.int .i64 0) := HBR11.out.cell 1
          have n12 := HBR11.out.frozen 2
          have o2 : w11.cell? ⟨T + 1 + 1, 2, none⟩ = some (.int .i64 0) := HBR11.out.cell 2
          have n13 := HBR11.out.frozen 3
          have o3 : w11.cell? ⟨T + 1 + 1, 3, none⟩ = some (.int .i64 0) := HBR11.out.cell 3
          have n14 := HBR11.out.frozen 4
          have o4 : w11.cell? ⟨T + 1 + 1, 4, none⟩ = some (.slice none 0 0) := HBR11.out.cell 4
          have n15 := HBR11.out.frozen 5
          have o5 : w11.cell? ⟨T + 1 + 1, 5, none⟩ = some (.slice none 0 0) := HBR11.out.cell 5
          have n16 := HBR11.out.frozen 6
          have o6 : w11.cell? ⟨T + 1 + 1, 6, none⟩ = some (.slice none 0 0) := HBR11.out.cell 6
          go_wp2
          rw [← HWX.out]
          have g0 := HKX.out.cell 0
          have g1 := HKX.out.cell 1
          have g2 := HKX.out.cell 2
          have g3 := HKX.out.cell 3
          have g4 := HKX.out.cell 4
          have g5 := HKX.out.cell 5
          have g6 := HKX.out.cell 6
          simp only [List.getElem?_toArray, List.getElem?_cons_zero, List.getElem?_cons_succ] at g0 g1 g2 g3 g4 g5 g6
          refine bodyPost_res (v := .tuple #[.agg #[.int .i64 c1, .int .i64 c2, .int .i64 c3, .int .i64 c4, .slice A10 NN d10, .slice tA n2 tc, .slice bA n3 bc], .int .i64 0]) (by simp [results, Try.results34, go_sem, Addr.add, g0, g1, g2, g3, g4, g5, g6]) rfl ?_
          have HOWN12 := ownsRow_upd HOWN11.out HUX.out (fun s hs hg => by rw [List.mem_singleton] at hs; subst hs; exact own_box HOWN11.out HBR11.out (by decide) hg)
          have HFIN := HU11.out.box HUX.out HT.out
          refine ⟨⟨A10, d10, tx, tA, tc, bA, bc⟩, ?_, ?_, ?_, HFIN⟩
          · rw [H8.out, HLO.out]
            unfold scells
            dsimp only
            rw [← HC.out, HLEN.out, ← HN.out.2.1, ← HN.out.2.2]
          · rw [H8.out, HLO.out]
            have k := HS.out.upd HFIN
            refine ⟨?_, k.t, k.b, k.tx, k.ss⟩
            dsimp only
            rw [HLEN.out]
            exact (RwIn.of_own HOWN12).more (Nat.zero_le _)
          · intro g hg _ ha
            rw [H8.out, HLO.out]
            refine ⟨?_, ha.t, ha.b, ha.ss⟩
            dsimp only
            rw [HLEN.out]
            exact own_av HOWN12 (Nat.lt_of_lt_of_le hg (HU1.out.next HUC.out).size)
end Go.Proofs.Ytjcbaelefacolaa
/- The layer delta, the document's side: may these SSRCs be? Condition: they lie in memory. -/
namespace Go.Proofs.Ytjcbaelefacolaa
open Go Go.RowKit
set_option maxHeartbeats 400000

theorem mayM_iff : ∀ (l seen : List Int), mayM l seen = true ↔ (∀ x, x ∈ l → 1 ≤ x ∧ x < 2147483648 ∧ ¬ x ∈ seen) ∧ l.Nodup
  | [], _ => by simp [mayM]
  | x :: r, seen => by
    have ih := mayM_iff r (seen ++ [x])
    unfold mayM
    simp only [Bool.and_eq_true, decide_eq_true_eq, Bool.not_eq_true', List.contains_eq_mem, decide_eq_false_iff_not, List.nodup_cons, List.mem_cons, ih, List.mem_append, List.mem_singleton]
    constructor
    · rintro ⟨⟨⟨h1, h2⟩, h3⟩, h4, h5⟩
      refine ⟨?_, fun hm => (h4 x hm).2.2 (.inr (.inl rfl)), h5⟩
      rintro y (rfl | hy)
      · exact ⟨h1, h2, h3⟩
      · exact ⟨(h4 y hy).1, (h4 y hy).2.1, fun hs => (h4 y hy).2.2 (.inl hs)⟩
    · rintro ⟨h1, h2, h3⟩
      refine ⟨⟨⟨(h1 x (.inl rfl)).1, (h1 x (.inl rfl)).2.1⟩, (h1 x (.inl rfl)).2.2⟩, fun y hy => ⟨(h1 y (.inr hy)).1, (h1 y (.inr hy)).2.1, ?_⟩, h3⟩
      rintro (hs | hs | hs)
      · exact (h1 y (.inr hy)).2.2 hs
      · exact h2 (hs ▸ hy)
      · cases hs
/-- so far all may be -/
def MayTo (l : List Int) (i : Nat) : Prop := (∀ x, x ∈ l.take i → 1 ≤ x ∧ x < 2147483648) ∧ (l.take i).Nodup
theorem MayTo.succ {l : List Int} {i : Nat} {x : Int} (h : MayTo l i) (hx : l[i]? = some x) (h1 : 1 ≤ x ∧ x < 2147483648) (hn : ¬ x ∈ l.take i) : MayTo l (i + 1) := by
  unfold MayTo
  rw [List.take_add_one, hx]
  refine ⟨fun y hy => ?_, ?_⟩
  · rcases List.mem_append.1 hy with hy | hy
    · exact h.1 y hy
    · have : y = x := by simpa using hy
      subst this; exact h1
  · refine List.nodup_append.2 ⟨h.2, by simp, fun a ha b hb => ?_⟩
    have : b = x := by simpa using hb
    subst this
    exact fun e => hn (e ▸ ha)
theorem may_all {l : List Int} (h : MayTo l l.length) : maySS l = (decide (1 ≤ l.length) && decide (l.length ≤ 3)) := by
  unfold MayTo at h
  rw [List.take_length] at h
  unfold maySS
  rw [(mayM_iff l []).2 ⟨fun x hx => ⟨(h.1 x hx).1, (h.1 x hx).2, by simp⟩, h.2⟩, Bool.and_true]
theorem may_bad {l : List Int} {i : Nat} {x : Int} (hx : l[i]? = some x) (h : ¬ (1 ≤ x ∧ x < 2147483648)) : maySS l = false := by
  unfold maySS
  cases hm : mayM l []
  · simp
  · have := ((mayM_iff l []).1 hm).1 x (List.mem_of_getElem? hx)
    exact absurd ⟨this.1, this.2.1⟩ h
theorem may_dup {l : List Int} {i k : Nat} {x : Int} (hx : l[i]? = some x) (hk : l[k]? = some x) (hki : k < i) : maySS l = false := by
  unfold maySS
  cases hm : mayM l []
  · simp
  · have := ((mayM_iff l []).1 hm).2
    obtain ⟨h1, e1⟩ := List.getElem?_eq_some_iff.1 hx
    obtain ⟨h2, e2⟩ := List.getElem?_eq_some_iff.1 hk
    exact absurd (e2.trans e1.symm) (List.pairwise_iff_getElem.1 this k i h2 h1 hki)
set_option maxRecDepth 100000 in
set_option maxHeartbeats 2000000 in
theorem rmay_any {W : World} {A : Option Addr} {c : Nat} {l : List Int} (h : RwIn W 0 1 A l.length c (l.map (Value.int .u32))) :
    Calls Try.prog 71 #[.slice A l.length c] W fun e w' => e = .returned (.bool (maySS l)) ∧ Upd [] W w' := by
  have HRW := Lib.hid (rowU h rfl)
  have hle := Nat.le_trans h.le h.cm
  obtain ⟨n, hn⟩ : ∃ n, n = l.length := ⟨_, rfl⟩
  rw [← hn] at hle ⊢
  have HN := Lib.hid hn
  clear h hn
  go_enter Try.func71, Try.ntmps71
  go_wp2
  go_loopg [3] n (fun gk x wr => ∃ i : Nat, i ≤ n ∧ n ≤ i + gk ∧ x = .int .i64 i ∧ MayTo l i ∧ ∃ q, wr = W.drewN q)
  case atStart => exact ⟨0, Nat.zero_le _, by omega, rfl, ⟨fun x hx => by simp at hx, by simp⟩, 0, rfl⟩
  case round =>
    obtain ⟨i, hi, hgi, rfl, hmt, q, rfl⟩ := hrel
    by_cases hlt : i < n
    · obtain ⟨x, hxi⟩ : ∃ x, l[i]? = some x := ⟨_, List.getElem?_eq_getElem (by rw [← HN.out]; exact hlt)⟩
      obtain ⟨b, o, e, e0⟩ := HRW.out i x hxi
      cases e
      have hlti : (i : Int) < (n : Int) := by omega
      have hwi : IntKind.i64.wrap ((i : Int) + 1) = (i : Int) + 1 := IntWalk.i64_in _ (by omega)
      have HGI := Lib.hid hgi
      have HXI := Lib.hid hxi
      have HMT := Lib.hid hmt
      clear hxi hgi hmt
      by_cases hr1 : x < 1
      · have HB := Lib.hid (may_bad HXI.out (by omega))
        go_wp2
        exact bodyPost_res (v := .bool false) (by simp [results, Try.results71, go_sem]) rfl ⟨by rw [HB.out], (Upd.refl [] W).drewN _⟩
      by_cases hr2 : 2147483647 < x
      · have HB := Lib.hid (may_bad HXI.out (by omega))
        go_wp2
        exact bodyPost_res (v := .bool false) (by simp [results, Try.results71, go_sem]) rfl ⟨by rw [HB.out], (Upd.refl [] W).drewN _⟩
      have HRG : Hid (1 ≤ x ∧ x < 2147483648) := Lib.hid (by omega)
      go_wp2
      obtain ⟨gA, rfl⟩ : ∃ gA : Nat, gA = gk := ⟨gk, rfl⟩
      go_loopg [4] i (fun gj x4 wx => ∃ k : Nat, k ≤ i ∧ i ≤ k + gj ∧ x4 = .int .i64 k ∧ (∀ m y, l[m]? = some y → m < k → y ≠ x) ∧ ∃ q, wx = W.drewN q)
      case atStart => exact ⟨0, Nat.zero_le _, by omega, rfl, fun _ _ _ hm => absurd hm (Nat.not_lt_zero _), q, rfl⟩
      case round =>
        obtain ⟨k, hk, hgk, rfl, hno, q2, rfl⟩ := hrel
        by_cases hltk : k < i
        · obtain ⟨y, hyk⟩ : ∃ y, l[k]? = some y := ⟨_, List.getElem?_eq_getElem (by rw [← HN.out]; omega)⟩
          obtain ⟨b', o', e, f0⟩ := HRW.out k y hyk
          cases e
          have hki : (k : Int) < (i : Int) := by omega
          have hkn : (k : Int) < (n : Int) := by omega
          have hwk : IntKind.i64.wrap ((k : Int) + 1) = (k : Int) + 1 := IntWalk.i64_in _ (by omega)
          have HGK := Lib.hid hgk
          have HYK := Lib.hid hyk
          have HNO := Lib.hid hno
          clear hyk hgk hno
          by_cases hyx : y = x
          · have HB := Lib.hid (may_dup HXI.out (by rw [← hyx]; exact HYK.out) hltk)
            rw [hyx] at f0
            clear hyx
            go_wp2_with fail
            go_quiet (fail)
            go_wp2
            exact bodyPost_res (v := .bool false) (by simp [results, Try.results71, go_sem]) rfl ⟨by rw [HB.out], by first | exact ((Upd.refl [] W).drewN _).drewN _ | exact (Upd.refl [] W).drewN _⟩
          · have hyb : (y == x) = false := by simpa using hyx
            have HYX := Lib.hid hyx
            clear hyx
            go_wp2_with fail
            go_quiet (fail)
            go_wp2
            go_roundg (gk - 1)
            case measure => have := HGK.out; omega
            case rel =>
              refine ⟨k + 1, by omega, by have := HGK.out; omega, by go_num, fun m z hz hm => ?_, by first | exact ⟨_, rfl⟩ | exact ⟨_, drew_two _ _ _⟩⟩
              by_cases hmk : m = k
              · subst hmk
                rw [HYK.out] at hz
                obtain rfl := Option.some.inj hz
                exact HYX.out
              · exact HNO.out m z hz (by omega)
        · obtain rfl : k = i := by omega
          have HM2 : Hid (MayTo l (k + 1)) := Lib.hid (HMT.out.succ HXI.out HRG.out (fun hm => by
            obtain ⟨m, hm⟩ := List.getElem?_of_mem hm
            rw [List.getElem?_take] at hm
            split at hm
            · rename_i hmk
              exact hno m x hm hmk rfl
            · cases hm))
          clear hgk hno hk hltk
          go_wp2
          go_roundg (gA - 1)
          case measure => have := HGI.out; omega
          case rel => exact ⟨k + 1, by omega, by have := HGI.out; omega, by go_num, HM2.out, q2, rfl⟩
    · obtain rfl : n = i := by omega
      have hma := may_all (by rw [← HN.out]; exact hmt)
      rw [← HN.out] at hma
      have HMA := Lib.hid hma
      clear hmt hgi hi hlt hma
      by_cases h0 : 0 < n
      · by_cases h4 : n < 4
        · have d1 : (0 : Int) < (n : Int) := by omega
          have d2 : (n : Int) < 4 := by omega
          have HV : Hid (maySS l = true) := Lib.hid (by rw [HMA.out]; simp; omega)
          clear HMA
          go_wp2
          exact bodyPost_res (v := .bool true) (by simp [results, Try.results71, go_sem]) rfl ⟨by rw [HV.out], (Upd.refl [] W).drewN _⟩
        · have d1 : (0 : Int) < (n : Int) := by omega
          have d2 : ¬ (n : Int) < 4 := by omega
          have HV : Hid (maySS l = false) := Lib.hid (by rw [HMA.out]; simp; omega)
          clear HMA
          go_wp2
          exact bodyPost_res (v := .bool false) (by simp [results, Try.results71, go_sem]) rfl ⟨by rw [HV.out], (Upd.refl [] W).drewN _⟩
      · obtain rfl : n = 0 := by omega
        have HV : Hid (maySS l = false) := Lib.hid (by rw [HMA.out]; rfl)
        clear HMA
        go_wp2
        exact bodyPost_res (v := .bool false) (by simp [results, Try.results71, go_sem]) rfl ⟨by rw [HV.out], (Upd.refl [] W).drewN _⟩
end Go.Proofs.Ytjcbaelefacolaa
/- The layer delta, the document's side: has a track one of some SSRCs? Conditions: the state and the SSRCs lie in memory; no more than 1000. -/
namespace Go.Proofs.Ytjcbaelefacolaa
open Go Go.RowKit
set_option maxHeartbeats 400000

theorem taken_yes {s : St} {l : List Int} {t : Trk} {x : Int} (ht : t ∈ s.ts) (hx : x ∈ t.ss) (hl : x ∈ l) : takenM s l = true := by
  unfold takenM
  rw [List.any_eq_true]
  exact ⟨t, ht, List.any_eq_true.2 ⟨x, hx, by simpa using hl⟩⟩
theorem taken_nobody {s : St} {l : List Int} (h : ∀ (k : Nat) (t : Trk), s.ts[k]? = some t → ∀ x, x ∈ t.ss → ¬ x ∈ l) : takenM s l = false := by
  unfold takenM
  rw [List.any_eq_false]
  intro t ht hc
  obtain ⟨k, hk⟩ := List.getElem?_of_mem ht
  obtain ⟨x, hx, hxl⟩ := List.any_eq_true.1 hc
  exact h k t hk x hx (by simpa using hxl)
set_option maxRecDepth 100000 in
set_option maxHeartbeats 2000000 in
theorem rtaken_any {w : World} {s : St} {h : SHd} {A : Option Addr} {c : Nat} {l : List Int} (hs : StIn w s h) (hl : s.ts.length ≤ 1000) (hq : RwIn w 0 1 A l.length c (l.map (Value.int .u32))) :
    Calls Try.prog 72 #[.agg (scells s h).toArray, .slice A l.length c] w fun e w' => e = .returned (.bool (takenM s l)) ∧ Upd [] w w' := by
  obtain ⟨T, hT⟩ : ∃ T, T = w.heap.size := ⟨_, rfl⟩
  obtain ⟨W, hW⟩ : ∃ W, W = w.alloc (.cells (scells s h).toArray 37) := ⟨_, rfl⟩
  have u : Upd [] w W := by rw [hW]; exact (Upd.refl [] w).alloc _
  have hb : Blk W T 37 (scells s h).toArray := by rw [hW, hT]; exact Blk.new _ _ _
  have HRT := Lib.hid (rowT (hs.upd u))
  have HRL := Lib.hid (rowU (hq.upd u) rfl)
  have HU := Lib.hid u
  have hle := Nat.le_trans hq.le hq.cm
  obtain ⟨n, hn⟩ : ∃ n, n = l.length := ⟨_, rfl⟩
  obtain ⟨n1, hn1⟩ : ∃ n, n = s.ps.length := ⟨_, rfl⟩
  obtain ⟨n2, hn2⟩ : ∃ n, n = s.ts.length := ⟨_, rfl⟩
  obtain ⟨n3, hn3⟩ : ∃ n, n = s.bs.length := ⟨_, rfl⟩
  have hsc : scells s h = [.int .i64 s.c.people, .int .i64 s.c.tracks, .int .i64 s.c.subs, .int .i64 s.c.slots, .slice h.pA n1 h.pc, .slice h.tA n2 h.tc, .slice h.bA n3 h.bc] := by unfold scells; rw [← hn1, ← hn2, ← hn3]
  rw [hsc] at hb hW ⊢
  have HN := Lib.hid (And.intro hn1 (And.intro hn2 hn3))
  have HNL := Lib.hid hn
  rw [← hn2] at hl
  rw [← hn] at hle ⊢
  obtain ⟨pA, pc, tx, tA, tc, bA, bc⟩ := h
  dsimp only at hb hW HRT ⊢
  obtain ⟨cf, hc⟩ : ∃ c, c = s.c := ⟨_, rfl⟩
  rw [← hc] at hb hW ⊢
  have zT := hb.cell 5
  simp only [List.getElem?_toArray, List.getElem?_cons_zero, List.getElem?_cons_succ] at zT
  have HT := Lib.hid hT
  clear hsc hn1 hn2 hn3 hn hc hb hs hq u
  go_enter Try.func72, Try.ntmps72
  go_upto_region 1 with fail
  rw [← hW, ← hT]
  clear hW hT
  go_wp2
  go_loopg [5] n2 (fun gk x5 wr => ∃ i : Nat, i ≤ n2 ∧ n2 ≤ i + gk ∧ x5 = .int .i64 i ∧ (∀ k t, s.ts[k]? = some t → k < i → ∀ x, x ∈ t.ss → ¬ x ∈ l) ∧ ∃ q, wr = W.drewN q)
  case atStart => exact ⟨0, Nat.zero_le _, by omega, rfl, fun _ _ _ hm => absurd hm (Nat.not_lt_zero _), 0, rfl⟩
  case round =>
    obtain ⟨i, hi, hgi, rfl, hno, q, rfl⟩ := hrel
    by_cases hlt : i < n2
    · obtain ⟨t, hti⟩ : ∃ t, s.ts[i]? = some t := ⟨_, List.getElem?_eq_getElem (by rw [← HN.out.2.1]; exact hlt)⟩
      obtain ⟨tb, tf, B, d, e, _, _, _, t3, hru⟩ := HRT.out i t hti
      cases e
      have hlti : (i : Int) < (n2 : Int) := by omega
      have hwi : IntKind.i64.wrap ((i : Int) + 1) = (i : Int) + 1 := IntWalk.i64_in _ (by omega)
      have hm1 := Nat.le_trans hru.le hru.cm
      obtain ⟨sl, hsl⟩ : ∃ n, n = t.ss.length := ⟨_, rfl⟩
      rw [← hsl] at hm1 t3
      have HSL := Lib.hid hsl
      have HRU := Lib.hid (rowU hru rfl)
      have HGI := Lib.hid hgi
      have HTI := Lib.hid hti
      have HNO := Lib.hid hno
      clear hti hgi hno hru hsl
      go_wp2
      obtain ⟨gA, rfl⟩ : ∃ gA : Nat, gA = gk := ⟨gk, rfl⟩
      go_loopg [6] sl (fun gj x6 wx => ∃ k : Nat, k ≤ sl ∧ sl ≤ k + gj ∧ x6 = .int .i64 k ∧ (∀ m x, t.ss[m]? = some x → m < k → ¬ x ∈ l) ∧ ∃ q, wx = W.drewN q)
      case atStart => exact ⟨0, Nat.zero_le _, by omega, rfl, fun _ _ _ hm => absurd hm (Nat.not_lt_zero _), q, rfl⟩
      case round =>
        obtain ⟨k, hk, hgk, rfl, hno, q2, rfl⟩ := hrel
        by_cases hltk : k < sl
        · obtain ⟨x, hxk⟩ : ∃ y, t.ss[k]? = some y := ⟨_, List.getElem?_eq_getElem (by rw [← HSL.out]; exact hltk)⟩
          obtain ⟨b', o', e, x0⟩ := HRU.out k x hxk
          cases e
          have hltki : (k : Int) < (sl : Int) := by omega
          have hwk : IntKind.i64.wrap ((k : Int) + 1) = (k : Int) + 1 := IntWalk.i64_in _ (by omega)
          have HGK := Lib.hid hgk
          have HXK := Lib.hid hxk
          have HNO2 := Lib.hid hno
          clear hxk hgk hno
          go_wp2
          obtain ⟨gB, rfl⟩ : ∃ gB : Nat, gB = gk := ⟨gk, rfl⟩
          go_loopg [7] n (fun gj x7 wx => ∃ j : Nat, j ≤ n ∧ n ≤ j + gj ∧ x7 = .int .i64 j ∧ (∀ m y, l[m]? = some y → m < j → x ≠ y) ∧ ∃ q, wx = W.drewN q)
          case atStart => exact ⟨0, Nat.zero_le _, by omega, rfl, fun _ _ _ hm => absurd hm (Nat.not_lt_zero _), q2, rfl⟩
          case round =>
            obtain ⟨j, hj, hgj, rfl, hno, q3, rfl⟩ := hrel
            by_cases hltj : j < n
            · obtain ⟨y, hyj⟩ : ∃ y, l[j]? = some y := ⟨_, List.getElem?_eq_getElem (by rw [← HNL.out]; exact hltj)⟩
              obtain ⟨lb, lo, e, y0⟩ := HRL.out j y hyj
              cases e
              have hltji : (j : Int) < (n : Int) := by omega
              have hwj : IntKind.i64.wrap ((j : Int) + 1) = (j : Int) + 1 := IntWalk.i64_in _ (by omega)
              have HGJ := Lib.hid hgj
              have HYJ := Lib.hid hyj
              have HNO3 := Lib.hid hno
              clear hyj hgj hno
              by_cases hxy : x = y
              · have HB := Lib.hid (taken_yes (List.mem_of_getElem? HTI.out) (List.mem_of_getElem? HXK.out) (by rw [hxy]; exact List.mem_of_getElem? HYJ.out))
                rw [hxy] at x0
                clear hxy
                go_wp2_with fail
                go_quiet (fail)
                go_wp2
                exact bodyPost_res (v := .bool true) (by simp [results, Try.results72, go_sem]) rfl ⟨by rw [HB.out], by first | exact ((HU.out).drewN _).drewN _ | exact (HU.out).drewN _⟩
              · have hxb : (x == y) = false := by simpa using hxy
                have HXY := Lib.hid hxy
                clear hxy
                go_wp2_with fail
                go_quiet (fail)
                go_wp2
                go_roundg (gk - 1)
                case measure => have := HGJ.out; omega
                case rel =>
                  refine ⟨j + 1, by omega, by have := HGJ.out; omega, by go_num, fun m z hz hm => ?_, by first | exact ⟨_, rfl⟩ | exact ⟨_, drew_two _ _ _⟩⟩
                  by_cases hmj : m = j
                  · subst hmj
                    rw [HYJ.out] at hz
                    obtain rfl := Option.some.inj hz
                    exact HXY.out
                  · exact HNO3.out m z hz (by omega)
            · obtain rfl : n = j := by omega
              have HNX : Hid (¬ x ∈ l) := Lib.hid (fun hm => by
                obtain ⟨m, hm⟩ := List.getElem?_of_mem hm
                exact hno m x hm (by rw [HNL.out]; exact (List.getElem?_eq_some_iff.1 hm).1) rfl)
              clear hgj hno hj hltj
              go_wp2
              go_roundg (gB - 1)
              case measure => have := HGK.out; omega
              case rel =>
                refine ⟨k + 1, by omega, by have := HGK.out; omega, by go_num, fun m z hz hm => ?_, q3, rfl⟩
                by_cases hmk : m = k
                · subst hmk
                  rw [HXK.out] at hz
                  obtain rfl := Option.some.inj hz
                  exact HNX.out
                · exact HNO2.out m z hz (by omega)
        · obtain rfl : sl = k := by omega
          have HNT : Hid (∀ x, x ∈ t.ss → ¬ x ∈ l) := Lib.hid (fun x hx => by
            obtain ⟨m, hm⟩ := List.getElem?_of_mem hx
            exact hno m x hm (by rw [HSL.out]; exact (List.getElem?_eq_some_iff.1 hm).1))
          clear hgk hno hk hltk
          go_wp2
          go_roundg (gA - 1)
          case measure => have := HGI.out; omega
          case rel =>
            refine ⟨i + 1, by omega, by have := HGI.out; omega, by go_num, fun m z hz hm => ?_, q2, rfl⟩
            by_cases hmi : m = i
            · subst hmi
              rw [HTI.out] at hz
              obtain rfl := Option.some.inj hz
              exact HNT.out
            · exact HNO.out m z hz (by omega)
    · obtain rfl : n2 = i := by omega
      have HNB := Lib.hid (taken_nobody (s := s) (l := l) (fun k t hk => hno k t hk (by rw [HN.out.2.1]; exact (List.getElem?_eq_some_iff.1 hk).1)))
      clear hgi hi hlt hno
      go_wp2
      exact bodyPost_res (v := .bool false) (by simp [results, Try.results72, go_sem]) rfl ⟨by rw [HNB.out], HU.out.drewN _⟩
end Go.Proofs.Ytjcbaelefacolaa
