/- Parts of the proof, one behind the other: DRDo, DReq, DRGone. No condition of their own. -/
import Derived.Test.YtjcbaelefacolaaB11
import Derived.Test.YtjcbaelefacolaaB12
import Derived.Test.YtjcbaelefacolaaB8
import Derived.Test.YtjcbaelefacolaaB7
import Derived.Test.YtjcbaelefacolaaB6
/- The layer delta, the document's side: Do. Conditions: the state in memory; what always holds of a state. -/
namespace Go.Proofs.Ytjcbaelefacolaa
open Go Go.RowKit
set_option maxHeartbeats 400000
theorem filter_erase {l : List Per} (h : UpP l) {i : Nat} {x : Per} (hx : l[i]? = some x) : l.filter (fun p => !decide (p.who = x.who)) = l.eraseIdx i := by
  induction l generalizing i with
  | nil => simp at hx
  | cons a l ih =>
    unfold UpP at h
    rw [List.pairwise_cons] at h
    cases i with
    | zero =>
      obtain rfl : a = x := by simpa using hx
      rw [List.eraseIdx_cons_zero, List.filter_cons_of_neg (by simp)]
      exact List.filter_eq_self.2 fun y hy => by have := h.1 y hy; simp; omega
    | succ i =>
      have hx' : l[i]? = some x := by simpa using hx
      have := h.1 x (List.mem_of_getElem? hx')
      rw [List.eraseIdx_cons_succ, List.filter_cons_of_pos (by simp; omega), ih h.2 hx']
theorem without_who {s : St} (hi : Inv s) (ps' : List Per) (who : Int) : withoutM { s with ps := ps' } 0 who who = dropM { s with ps := ps', bs := s.bs.filter (fun b => !decide (b.who = who)) } (fun t => decide (t.owner = who)) := by
  have e : s.ts.filter (staysT 0 who) = s.ts.filter (fun t => !decide (t.owner = who)) := List.filter_congr fun t ht => by
    unfold staysT
    have := (hi.trk t ht).1
    have h0 : ¬ t.id = 0 := by omega
    simp [h0]
  unfold withoutM dropM
  dsimp only
  rw [e, List.filter_filter]
  congr 1
  exact List.filter_congr fun b _ => Bool.and_comm _ _

set_option maxRecDepth 100000 in
set_option maxHeartbeats 16000000 in
theorem rDo_any {w : World} {s : St} {h : SHd} {q : Rq} {qh : SH} (hs : StIn w s h) (hi : Inv s) (hq : RwIn w 0 1 qh.A q.ss.length qh.c (q.ss.map (Value.int .u32))) :
    Calls Try.prog 13 #[.agg (scells s h).toArray, .agg (qcells q qh).toArray] w fun e w' => ∃ h', e = .returned (.tuple #[.agg (scells (doM s q).1 h').toArray, .int .i64 (doM s q).2]) ∧ StIn w' (doM s q).1 h' ∧ (∀ g, g < w.heap.size → QAv g q qh → Av g s h → Av g (doM s q).1 h') ∧ Upd [] w w' := by
  obtain ⟨T, hT⟩ : ∃ T, T = w.heap.size := ⟨_, rfl⟩
  obtain ⟨n1, hn1⟩ : ∃ n, n = s.ps.length := ⟨_, rfl⟩
  obtain ⟨n2, hn2⟩ : ∃ n, n = s.ts.length := ⟨_, rfl⟩
  obtain ⟨n3, hn3⟩ : ∃ n, n = s.bs.length := ⟨_, rfl⟩
  obtain ⟨r, hr⟩ : ∃ r, r = doM s q := ⟨_, rfl⟩
  have HR := Lib.hid hr
  rw [← hr]
  clear hr
  have HS := Lib.hid hs
  have HI := Lib.hid hi
  have HQ := Lib.hid hq
  have HN := Lib.hid (And.intro hn1 (And.intro hn2 hn3))
  have hsc : scells s h = [.int .i64 s.c.people, .int .i64 s.c.tracks, .int .i64 s.c.subs, .int .i64 s.c.slots, .slice h.pA n1 h.pc, .slice h.tA n2 h.tc, .slice h.bA n3 h.bc] := by unfold scells; rw [← hn1, ← hn2, ← hn3]
  have hm1 : n1 ≤ 16 := by have := hi.np; have := hi.cp; omega
  have hm2 : n2 ≤ 16 := by have := hi.nt; have := hi.ct; omega
  have hm3 : n3 ≤ 64 := by have := hi.nb; have := hi.cl; omega
  obtain ⟨kd, who, room, rights, track, ss, layer, tid⟩ := q
  obtain ⟨qA, qc⟩ := qh
  unfold qcells
  dsimp only
  obtain ⟨ql, hql⟩ : ∃ ql, ql = ss.length := ⟨_, rfl⟩
  have HQL := Lib.hid hql
  rw [← hql]
  rw [hsc]
  have HSC := Lib.hid hsc
  obtain ⟨pA, pc, tx, tA, tc, bA, bc⟩ := h
  obtain ⟨⟨c1, c2, c3, c4⟩, hc⟩ : ∃ c, c = s.c := ⟨_, rfl⟩
  have HC := Lib.hid hc
  rw [← hc]
  dsimp only
  clear hsc hn1 hn2 hn3 hc hs hi hq hql
  obtain ⟨CS, hCS⟩ : ∃ l : List Value, l = [.int .i64 c1, .int .i64 c2, .int .i64 c3, .int .i64 c4, .slice pA n1 pc, .slice tA n2 tc, .slice bA n3 bc] := ⟨_, rfl⟩
  obtain ⟨W1, hW1⟩ : ∃ W, W = w.alloc (.cells #[.int .i64 c1, .int .i64 c2, .int .i64 c3, .int .i64 c4, .slice pA n1 pc, .slice tA n2 tc, .slice bA n3 bc] 37) := ⟨_, rfl⟩
  obtain ⟨W2, hW2⟩ : ∃ W, W = W1.alloc (.cells #[.int .i64 kd, .int .i64 who, .int .i64 room, .int .i64 rights, .int .i64 track, .slice qA ql qc, .int .i64 layer, .int .i64 tid] 48) := ⟨_, rfl⟩
  obtain ⟨W, hW⟩ : ∃ W, W = W2.alloc (.cells #[.int .i64 0, .int .i64 0, .int .i64 0, .int .i64 0, .slice none 0 0, .slice none 0 0, .slice none 0 0] 37) := ⟨_, rfl⟩
  have u1 : Upd [] w W1 := by rw [hW1]; exact (Upd.refl [] w).alloc _
  have u2 : Upd [] W1 W2 := by rw [hW2]; exact (Upd.refl [] W1).alloc _
  have u3 : Upd [] W2 W := by rw [hW]; exact (Upd.refl [] W2).alloc _
  have s1 : W1.heap.size = T + 1 := by rw [hW1, World.size_alloc, hT]
  have s2 : W2.heap.size = T + 1 + 1 := by rw [hW2, World.size_alloc, s1]
  have hbT : Blk W T 37 #[.int .i64 c1, .int .i64 c2, .int .i64 c3, .int .i64 c4, .slice pA n1 pc, .slice tA n2 tc, .slice bA n3 bc] := by
    have : Blk W1 T 37 #[.int .i64 c1, .int .i64 c2, .int .i64 c3, .int .i64 c4, .slice pA n1 pc, .slice tA n2 tc, .slice bA n3 bc] := by rw [hW1, hT]; exact Blk.new _ _ _
    exact (this.upd u2 (by simp)).upd u3 (by simp)
  have hbQ : Blk W (T + 1) 48 #[.int .i64 kd, .int .i64 who, .int .i64 room, .int .i64 rights, .int .i64 track, .slice qA ql qc, .int .i64 layer, .int .i64 tid] := by
    have : Blk W2 (T + 1) 48 #[.int .i64 kd, .int .i64 who, .int .i64 room, .int .i64 rights, .int .i64 track, .slice qA ql qc, .int .i64 layer, .int .i64 tid] := by rw [hW2, ← s1]; exact Blk.new _ _ _
    exact this.upd u3 (by simp)
  have hbR : Blk W (T + 1 + 1) 37 #[.int .i64 0, .int .i64 0, .int .i64 0, .int .i64 0, .slice none 0 0, .slice none 0 0, .slice none 0 0] := by rw [hW, ← s2]; exact Blk.new _ _ _
  have hT' := hT
  have HU := Lib.hid ((u1.next u2).next u3)
  have HBT := Lib.hid hbT
  have HBQ := Lib.hid hbQ
  have HBR := Lib.hid hbR
  have HT := Lib.hid hT
  clear hbT hbQ hbR u1 u2 u3 s1 s2 hT' hCS
  go_enter Try.func13, Try.ntmps13
  go_upto_region 1 with fail
  rw [← hW1, ← hW2, ← hW, ← hT]
  clear hW1 hW2 hW hT
  have HBT0 := HBT
  have HBR0 := HBR
  have HBQ0 := HBQ
  have HU0 := HU
  obtain ⟨q, hq⟩ : ∃ q : Rq, q = ⟨kd, who, room, rights, track, ss, layer, tid⟩ := ⟨_, rfl⟩
  rw [← hq] at HR
  have HQQ := Lib.hid hq
  clear hq
  have q0 : W.cell? ⟨T + 1, 0, none⟩ = some (.int .i64 kd) := HBQ0.out.cell 0
  by_cases k0 : kd < 0
  · have H1 : Hid (r = (s, 1)) := Lib.hid (by rw [HR.out]; unfold doM; rw [HQQ.out, if_pos (by dsimp only; omega)])
    obtain ⟨kx, ux⟩ := blk7 HBR0.out (.int .i64 c1) (.int .i64 c2) (.int .i64 c3) (.int .i64 c4) (.slice pA n1 pc) (.slice tA n2 tc) (.slice bA n3 bc)
    obtain ⟨wx, hwx⟩ : ∃ wx, wx = (((((((W.setCell ⟨T + 1 + 1, 0, none⟩ (.int .i64 c1)).setCell ⟨T + 1 + 1, 1, none⟩ (.int .i64 c2)).setCell ⟨T + 1 + 1, 2, none⟩ (.int .i64 c3)).setCell ⟨T + 1 + 1, 3, none⟩ (.int .i64 c4)).setCell ⟨T + 1 + 1, 4, none⟩ (.slice pA n1 pc)).setCell ⟨T + 1 + 1, 5, none⟩ (.slice tA n2 tc)).setCell ⟨T + 1 + 1, 6, none⟩ (.slice bA n3 bc)) := ⟨_, rfl⟩
    rw [← hwx] at kx ux
    have HKX := Lib.hid kx
    have HUX := Lib.hid ux
    have HWX := Lib.hid hwx
    clear kx ux hwx
    have m0 : W.cell? ⟨T, 0, none⟩ = some (.int .i64 c1) := HBT0.out.cell 0
    have m1 : W.cell? ⟨T, 1, none⟩ = some (.int .i64 c2) := HBT0.out.cell 1
    have m2 : W.cell? ⟨T, 2, none⟩ = some (.int .i64 c3) := HBT0.out.cell 2
    have m3 : W.cell? ⟨T, 3, none⟩ = some (.int .i64 c4) := HBT0.out.cell 3
    have m4 : W.cell? ⟨T, 4, none⟩ = some (.slice pA n1 pc) := HBT0.out.cell 4
    have m5 : W.cell? ⟨T, 5, none⟩ = some (.slice tA n2 tc) := HBT0.out.cell 5
    have m6 : W.cell? ⟨T, 6, none⟩ = some (.slice bA n3 bc) := HBT0.out.cell 6
    have n10 := HBR0.out.frozen 0
    have o0 : W.cell? ⟨T + 1 + 1, 0, none⟩ = some (.int .i64 0) := HBR0.out.cell 0
    have n11 := HBR0.out.frozen 1
    have o1 : W.cell? ⟨T + 1 + 1, 1, none⟩ = some (.int .i64 0) := HBR0.out.cell 1
    have n12 := HBR0.out.frozen 2
    have o2 : W.cell? ⟨T + 1 + 1, 2, none⟩ = some (.int .i64 0) := HBR0.out.cell 2
    have n13 := HBR0.out.frozen 3
    have o3 : W.cell? ⟨T + 1 + 1, 3, none⟩ = some (.int .i64 0) := HBR0.out.cell 3
    have n14 := HBR0.out.frozen 4
    have o4 : W.cell? ⟨T + 1 + 1, 4, none⟩ = some (.slice none 0 0) := HBR0.out.cell 4
    have n15 := HBR0.out.frozen 5
    have o5 : W.cell? ⟨T + 1 + 1, 5, none⟩ = some (.slice none 0 0) := HBR0.out.cell 5
    have n16 := HBR0.out.frozen 6
    have o6 : W.cell? ⟨T + 1 + 1, 6, none⟩ = some (.slice none 0 0) := HBR0.out.cell 6
    go_wp2
    rw [← HWX.out]
    have g0 := HKX.out.cell 0
    have g1 := HKX.out.cell 1
    have g2 := HKX.out.cell 2
    have g3 := HKX.out.cell 3
    have g4 := HKX.out.cell 4
    have g5 := HKX.out.cell 5
    have g6 := HKX.out.cell 6
    simp only [List.getElem?_toArray, List.getElem?_cons_zero, List.getElem?_cons_succ] at g0 g1 g2 g3 g4 g5 g6
    refine bodyPost_res (v := .tuple #[.agg #[.int .i64 c1, .int .i64 c2, .int .i64 c3, .int .i64 c4, .slice pA n1 pc, .slice tA n2 tc, .slice bA n3 bc], .int .i64 1]) (by simp [results, Try.results13, go_sem, Addr.add, g0, g1, g2, g3, g4, g5, g6]) rfl ?_
    exact ⟨⟨pA, pc, tx, tA, tc, bA, bc⟩, by rw [H1.out]; dsimp only; rw [HSC.out, ← HC.out], by rw [H1.out]; exact HS.out.upd (HU0.out.box HUX.out HT.out), by rw [H1.out]; exact fun _ _ _ ha => ha, HU0.out.box HUX.out HT.out⟩
  by_cases k1 : 9 < kd
  · have H1 : Hid (r = (s, 1)) := Lib.hid (by rw [HR.out]; unfold doM; rw [HQQ.out, if_pos (by dsimp only; omega)])
    obtain ⟨kx, ux⟩ := blk7 HBR0.out (.int .i64 c1) (.int .i64 c2) (.int .i64 c3) (.int .i64 c4) (.slice pA n1 pc) (.slice tA n2 tc) (.slice bA n3 bc)
    obtain ⟨wx, hwx⟩ : ∃ wx, wx = (((((((W.setCell ⟨T + 1 + 1, 0, none⟩ (.int .i64 c1)).setCell ⟨T + 1 + 1, 1, none⟩ (.int .i64 c2)).setCell ⟨T + 1 + 1, 2, none⟩ (.int .i64 c3)).setCell ⟨T + 1 + 1, 3, none⟩ (.int .i64 c4)).setCell ⟨T + 1 + 1, 4, none⟩ (.slice pA n1 pc)).setCell ⟨T + 1 + 1, 5, none⟩ (.slice tA n2 tc)).setCell ⟨T + 1 + 1, 6, none⟩ (.slice bA n3 bc)) := ⟨_, rfl⟩
    rw [← hwx] at kx ux
    have HKX := Lib.hid kx
    have HUX := Lib.hid ux
    have HWX := Lib.hid hwx
    clear kx ux hwx
    have m0 : W.cell? ⟨T, 0, none⟩ = some (.int .i64 c1) := HBT0.out.cell 0
    have m1 : W.cell? ⟨T, 1, none⟩ = some (.int .i64 c2) := HBT0.out.cell 1
    have m2 : W.cell? ⟨T, 2, none⟩ = some (.int .i64 c3) := HBT0.out.cell 2
    have m3 : W.cell? ⟨T, 3, none⟩ = some (.int .i64 c4) := HBT0.out.cell 3
    have m4 : W.cell? ⟨T, 4, none⟩ = some (.slice pA n1 pc) := HBT0.out.cell 4
    have m5 : W.cell? ⟨T, 5, none⟩ = some (.slice tA n2 tc) := HBT0.out.cell 5
    have m6 : W.cell? ⟨T, 6, none⟩ = some (.slice bA n3 bc) := HBT0.out.cell 6
    have n10 := HBR0.out.frozen 0
    have o0 : W.cell? ⟨T + 1 + 1, 0, none⟩ = some (.int .i64 0) := HBR0.out.cell 0
    have n11 := HBR0.out.frozen 1
    have o1 : W.cell? ⟨T + 1 + 1, 1, none⟩ = some (.int .i64 0) := HBR0.out.cell 1
    have n12 := HBR0.out.frozen 2
    have o2 : W.cell? ⟨T + 1 + 1, 2, none⟩ = some (.int .i64 0) := HBR0.out.cell 2
    have n13 := HBR0.out.frozen 3
    have o3 : W.cell? ⟨T + 1 + 1, 3, none⟩ = some (.int .i64 0) := HBR0.out.cell 3
    have n14 := HBR0.out.frozen 4
    have o4 : W.cell? ⟨T + 1 + 1, 4, none⟩ = some (.slice none 0 0) := HBR0.out.cell 4
    have n15 := HBR0.out.frozen 5
    have o5 : W.cell? ⟨T + 1 + 1, 5, none⟩ = some (.slice none 0 0) := HBR0.out.cell 5
    have n16 := HBR0.out.frozen 6
    have o6 : W.cell? ⟨T + 1 + 1, 6, none⟩ = some (.slice none 0 0) := HBR0.out.cell 6
    go_wp2
    rw [← HWX.out]
    have g0 := HKX.out.cell 0
    have g1 := HKX.out.cell 1
    have g2 := HKX.out.cell 2
    have g3 := HKX.out.cell 3
    have g4 := HKX.out.cell 4
    have g5 := HKX.out.cell 5
    have g6 := HKX.out.cell 6
    simp only [List.getElem?_toArray, List.getElem?_cons_zero, List.getElem?_cons_succ] at g0 g1 g2 g3 g4 g5 g6
    refine bodyPost_res (v := .tuple #[.agg #[.int .i64 c1, .int .i64 c2, .int .i64 c3, .int .i64 c4, .slice pA n1 pc, .slice tA n2 tc, .slice bA n3 bc], .int .i64 1]) (by simp [results, Try.results13, go_sem, Addr.add, g0, g1, g2, g3, g4, g5, g6]) rfl ?_
    exact ⟨⟨pA, pc, tx, tA, tc, bA, bc⟩, by rw [H1.out]; dsimp only; rw [HSC.out, ← HC.out], by rw [H1.out]; exact HS.out.upd (HU0.out.box HUX.out HT.out), by rw [H1.out]; exact fun _ _ _ ha => ha, HU0.out.box HUX.out HT.out⟩
  have hN : Hid (¬ (kd < 0 ∨ 9 < kd)) := Lib.hid (by omega)
  by_cases kj : kd = 0
  · have H8 : Hid (r = joinM s q) := Lib.hid (by rw [HR.out]; unfold doM; rw [HQQ.out, if_neg (by exact hN.out), if_neg (by dsimp only; omega), if_pos (by exact kj)])
    subst kj
    clear q0 k0 k1
    have HK : Hid (Calls Try.prog 34 #[.agg #[.int .i64 c1, .int .i64 c2, .int .i64 c3, .int .i64 c4, .slice pA n1 pc, .slice tA n2 tc, .slice bA n3 bc], .agg #[.int .i64 0, .int .i64 who, .int .i64 room, .int .i64 rights, .int .i64 track, .slice qA ql qc, .int .i64 layer, .int .i64 tid]] W fun e w' => ∃ h', e = .returned (.tuple #[.agg (scells (joinM s q).1 h').toArray, .int .i64 (joinM s q).2]) ∧ StIn w' (joinM s q).1 h' ∧ (∀ g, g < W.heap.size → QAv g q ⟨qA, qc⟩ → Av g s ⟨pA, pc, tx, tA, tc, bA, bc⟩ → Av g (joinM s q).1 h') ∧ Upd [] W w') := Lib.hid (by
      have h := rjoin_any (q := q) (qh := ⟨qA, qc⟩) (HS.out.upd HU0.out) HI.out (by rw [HQQ.out]; exact HQ.out.upd HU0.out)
      rw [HSC.out, ← HC.out] at h
      rw [show qcells q ⟨qA, qc⟩ = [.int .i64 0, .int .i64 who, .int .i64 room, .int .i64 rights, .int .i64 track, .slice qA ql qc, .int .i64 layer, .int .i64 tid] by rw [HQQ.out, HQL.out]; rfl] at h
      exact h)
    have m0 : W.cell? ⟨T, 0, none⟩ = some (.int .i64 c1) := HBT0.out.cell 0
    have m1 : W.cell? ⟨T, 1, none⟩ = some (.int .i64 c2) := HBT0.out.cell 1
    have m2 : W.cell? ⟨T, 2, none⟩ = some (.int .i64 c3) := HBT0.out.cell 2
    have m3 : W.cell? ⟨T, 3, none⟩ = some (.int .i64 c4) := HBT0.out.cell 3
    have m4 : W.cell? ⟨T, 4, none⟩ = some (.slice pA n1 pc) := HBT0.out.cell 4
    have m5 : W.cell? ⟨T, 5, none⟩ = some (.slice tA n2 tc) := HBT0.out.cell 5
    have m6 : W.cell? ⟨T, 6, none⟩ = some (.slice bA n3 bc) := HBT0.out.cell 6
    have q0 : W.cell? ⟨T + 1, 0, none⟩ = some (.int .i64 0) := HBQ0.out.cell 0
    have q1 : W.cell? ⟨T + 1, 1, none⟩ = some (.int .i64 who) := HBQ0.out.cell 1
    have q2 : W.cell? ⟨T + 1, 2, none⟩ = some (.int .i64 room) := HBQ0.out.cell 2
    have q3 : W.cell? ⟨T + 1, 3, none⟩ = some (.int .i64 rights) := HBQ0.out.cell 3
    have q4 : W.cell? ⟨T + 1, 4, none⟩ = some (.int .i64 track) := HBQ0.out.cell 4
    have q5 : W.cell? ⟨T + 1, 5, none⟩ = some (.slice qA ql qc) := HBQ0.out.cell 5
    have q6 : W.cell? ⟨T + 1, 6, none⟩ = some (.int .i64 layer) := HBQ0.out.cell 6
    have q7 : W.cell? ⟨T + 1, 7, none⟩ = some (.int .i64 tid) := HBQ0.out.cell 7
    obtain ⟨er, her⟩ : ∃ e, e = (joinM s q).2 := ⟨_, rfl⟩
    rw [← her] at HK
    have HER := Lib.hid her
    clear her
    go_wp2_with fail
    refine HK.out.mono ?_
    rintro _ w9 ⟨h', rfl, hst, hav, hu9⟩
    clear m0 m1 m2 m3 m4 m5 m6 q0 q1 q2 q3 q4 q5 q6 q7
    have HBT9 := Lib.hid (HBT0.out.upd hu9 (by simp))
    have HBR9 := Lib.hid (HBR0.out.upd hu9 (by simp))
    have HBQ9 := Lib.hid (HBQ0.out.upd hu9 (by simp))
    have HU9 := Lib.hid (HU0.out.next hu9)
    clear hu9 HK
    have HI9 : Hid (Inv (joinM s q).1) := Lib.hid (by have h := inv_do HI.out q; rw [← HR.out, H8.out] at h; exact h)
    obtain ⟨pA2, pc2, tx2, tA2, tc2, bA2, bc2⟩ := h'
    obtain ⟨s2, hs2⟩ : ∃ x, x = (joinM s q).1 := ⟨_, rfl⟩
    rw [← hs2] at hst hav
    simp only [← hs2]
    obtain ⟨m1, hm1x⟩ : ∃ n, n = s2.ps.length := ⟨_, rfl⟩
    obtain ⟨m2, hm2x⟩ : ∃ n, n = s2.ts.length := ⟨_, rfl⟩
    obtain ⟨m3, hm3x⟩ : ∃ n, n = s2.bs.length := ⟨_, rfl⟩
    obtain ⟨⟨d1, d2, d3, d4⟩, hcc⟩ : ∃ c, c = s2.c := ⟨_, rfl⟩
    have hsc2 : scells s2 ⟨pA2, pc2, tx2, tA2, tc2, bA2, bc2⟩ = [.int .i64 d1, .int .i64 d2, .int .i64 d3, .int .i64 d4, .slice pA2 m1 pc2, .slice tA2 m2 tc2, .slice bA2 m3 bc2] := by unfold scells; rw [← hcc, ← hm1x, ← hm2x, ← hm3x]
    rw [hsc2]
    have HS2 := Lib.hid hs2
    have HST := Lib.hid hst
    have HAV := Lib.hid hav
    have HSC2 := Lib.hid hsc2
    clear hs2 hst hav hsc2 hm1x hm2x hm3x hcc
    obtain ⟨kx, ux⟩ := blk7 HBR9.out (.int .i64 d1) (.int .i64 d2) (.int .i64 d3) (.int .i64 d4) (.slice pA2 m1 pc2) (.slice tA2 m2 tc2) (.slice bA2 m3 bc2)
    obtain ⟨wx, hwx⟩ : ∃ wx, wx = (((((((w9.setCell ⟨T + 1 + 1, 0, none⟩ (.int .i64 d1)).setCell ⟨T + 1 + 1, 1, none⟩ (.int .i64 d2)).setCell ⟨T + 1 + 1, 2, none⟩ (.int .i64 d3)).setCell ⟨T + 1 + 1, 3, none⟩ (.int .i64 d4)).setCell ⟨T + 1 + 1, 4, none⟩ (.slice pA2 m1 pc2)).setCell ⟨T + 1 + 1, 5, none⟩ (.slice tA2 m2 tc2)).setCell ⟨T + 1 + 1, 6, none⟩ (.slice bA2 m3 bc2)) := ⟨_, rfl⟩
    rw [← hwx] at kx ux
    have HKX := Lib.hid kx
    have HUX := Lib.hid ux
    have HWX := Lib.hid hwx
    clear kx ux hwx
    have n10 := HBR9.out.frozen 0
    have o0 : w9.cell? ⟨T + 1 + 1, 0, none⟩ = some (.int .i64 0) := HBR9.out.cell 0
    have n11 := HBR9.out.frozen 1
    have o1 : w9.cell? ⟨T + 1 + 1, 1, none⟩ = some (.int .i64 0) := HBR9.out.cell 1
    have n12 := HBR9.out.frozen 2
    have o2 : w9.cell? ⟨T + 1 + 1, 2, none⟩ = some (.int .i64 0) := HBR9.out.cell 2
    have n13 := HBR9.out.frozen 3
    have o3 : w9.cell? ⟨T + 1 + 1, 3, none⟩ = some (.int .i64 0) := HBR9.out.cell 3
    have n14 := HBR9.out.frozen 4
    have o4 : w9.cell? ⟨T + 1 + 1, 4, none⟩ = some (.slice none 0 0) := HBR9.out.cell 4
    have n15 := HBR9.out.frozen 5
    have o5 : w9.cell? ⟨T + 1 + 1, 5, none⟩ = some (.slice none 0 0) := HBR9.out.cell 5
    have n16 := HBR9.out.frozen 6
    have o6 : w9.cell? ⟨T + 1 + 1, 6, none⟩ = some (.slice none 0 0) := HBR9.out.cell 6
    go_wp2
    rw [← HWX.out]
    have g0 := HKX.out.cell 0
    have g1 := HKX.out.cell 1
    have g2 := HKX.out.cell 2
    have g3 := HKX.out.cell 3
    have g4 := HKX.out.cell 4
    have g5 := HKX.out.cell 5
    have g6 := HKX.out.cell 6
    simp only [List.getElem?_toArray, List.getElem?_cons_zero, List.getElem?_cons_succ] at g0 g1 g2 g3 g4 g5 g6
    refine bodyPost_res (v := .tuple #[.agg #[.int .i64 d1, .int .i64 d2, .int .i64 d3, .int .i64 d4, .slice pA2 m1 pc2, .slice tA2 m2 tc2, .slice bA2 m3 bc2], .int .i64 er]) (by simp [results, Try.results13, go_sem, Addr.add, g0, g1, g2, g3, g4, g5, g6]) rfl ?_
    exact ⟨⟨pA2, pc2, tx2, tA2, tc2, bA2, bc2⟩, by rw [H8.out, ← HS2.out, HSC2.out, ← HER.out], by rw [H8.out, ← HS2.out]; exact HST.out.past HUX.out (inv_av HST.out (by rw [HS2.out]; exact HI9.out) HBR9.out), fun g hg hq ha => by rw [H8.out, ← HS2.out]; exact HAV.out g (Nat.lt_of_lt_of_le hg HU0.out.size) (by rw [HQQ.out]; exact hq) ha, HU9.out.box HUX.out HT.out⟩
  have hkj : (kd == 0) = false := beq_eq_false_iff_ne.2 kj
  obtain ⟨ix, hix⟩ : ∃ x, x = ridxM (cP who) s.ps := ⟨_, rfl⟩
  have HK : Hid (Calls Try.prog 35 #[.agg #[.int .i64 c1, .int .i64 c2, .int .i64 c3, .int .i64 c4, .slice pA n1 pc, .slice tA n2 tc, .slice bA n3 bc], .int .i64 who] W fun e w' => e = .returned (.int .i64 ix) ∧ Upd [] W w') := Lib.hid (by
    have h := rperson_any (HS.out.upd HU0.out) HI.out.up (by rw [← HN.out.1]; omega) who
    rw [HSC.out, ← HC.out, ← hix] at h
    exact h)
  have HIX := Lib.hid hix
  clear hix
  have m0 : W.cell? ⟨T, 0, none⟩ = some (.int .i64 c1) := HBT0.out.cell 0
  have m1 : W.cell? ⟨T, 1, none⟩ = some (.int .i64 c2) := HBT0.out.cell 1
  have m2 : W.cell? ⟨T, 2, none⟩ = some (.int .i64 c3) := HBT0.out.cell 2
  have m3 : W.cell? ⟨T, 3, none⟩ = some (.int .i64 c4) := HBT0.out.cell 3
  have m4 : W.cell? ⟨T, 4, none⟩ = some (.slice pA n1 pc) := HBT0.out.cell 4
  have m5 : W.cell? ⟨T, 5, none⟩ = some (.slice tA n2 tc) := HBT0.out.cell 5
  have m6 : W.cell? ⟨T, 6, none⟩ = some (.slice bA n3 bc) := HBT0.out.cell 6
  have q1 : W.cell? ⟨T + 1, 1, none⟩ = some (.int .i64 who) := HBQ0.out.cell 1
  go_wp2_with fail
  refine HK.out.mono ?_
  rintro _ w1 ⟨rfl, hu1⟩
  have HBT1 := Lib.hid (HBT0.out.upd hu1 (by simp))
  have HBR1 := Lib.hid (HBR0.out.upd hu1 (by simp))
  have HBQ1 := Lib.hid (HBQ0.out.upd hu1 (by simp))
  have HU1 := Lib.hid (HU0.out.next hu1)
  clear hu1 HK q0 q1 m0 m1 m2 m3 m4 m5 m6
  by_cases kx : ix < 0
  · have H1 : Hid (r = (s, 21)) := Lib.hid (by
      rw [HR.out]; unfold doM; rw [HQQ.out, if_neg (by exact hN.out), if_pos (by
        refine ⟨kj, ?_⟩
        dsimp only
        cases hh : has (cP who) s.ps
        · rfl
        · exact absurd (ridx_neg.2 hh) (by rw [← HIX.out]; omega))])
    obtain ⟨kx, ux⟩ := blk7 HBR1.out (.int .i64 c1) (.int .i64 c2) (.int .i64 c3) (.int .i64 c4) (.slice pA n1 pc) (.slice tA n2 tc) (.slice bA n3 bc)
    obtain ⟨wx, hwx⟩ : ∃ wx, wx = (((((((w1.setCell ⟨T + 1 + 1, 0, none⟩ (.int .i64 c1)).setCell ⟨T + 1 + 1, 1, none⟩ (.int .i64 c2)).setCell ⟨T + 1 + 1, 2, none⟩ (.int .i64 c3)).setCell ⟨T + 1 + 1, 3, none⟩ (.int .i64 c4)).setCell ⟨T + 1 + 1, 4, none⟩ (.slice pA n1 pc)).setCell ⟨T + 1 + 1, 5, none⟩ (.slice tA n2 tc)).setCell ⟨T + 1 + 1, 6, none⟩ (.slice bA n3 bc)) := ⟨_, rfl⟩
    rw [← hwx] at kx ux
    have HKX := Lib.hid kx
    have HUX := Lib.hid ux
    have HWX := Lib.hid hwx
    clear kx ux hwx
    have m0 : w1.cell? ⟨T, 0, none⟩ = some (.int .i64 c1) := HBT1.out.cell 0
    have m1 : w1.cell? ⟨T, 1, none⟩ = some (.int .i64 c2) := HBT1.out.cell 1
    have m2 : w1.cell? ⟨T, 2, none⟩ = some (.int .i64 c3) := HBT1.out.cell 2
    have m3 : w1.cell? ⟨T, 3, none⟩ = some (.int .i64 c4) := HBT1.out.cell 3
    have m4 : w1.cell? ⟨T, 4, none⟩ = some (.slice pA n1 pc) := HBT1.out.cell 4
    have m5 : w1.cell? ⟨T, 5, none⟩ = some (.slice tA n2 tc) := HBT1.out.cell 5
    have m6 : w1.cell? ⟨T, 6, none⟩ = some (.slice bA n3 bc) := HBT1.out.cell 6
    have n10 := HBR1.out.frozen 0
    have o0 : w1.cell? ⟨T + 1 + 1, 0, none⟩ = some (.int .i64 0) := HBR1.out.cell 0
    have n11 := HBR1.out.frozen 1
    have o1 : w1.cell? ⟨T + 1 + 1, 1, none⟩ = some (.int .i64 0) := HBR1.out.cell 1
    have n12 := HBR1.out.frozen 2
    have o2 : w1.cell? ⟨T + 1 + 1, 2, none⟩ = some (.int .i64 0) := HBR1.out.cell 2
    have n13 := HBR1.out.frozen 3
    have o3 : w1.cell? ⟨T + 1 + 1, 3, none⟩ = some (.int .i64 0) := HBR1.out.cell 3
    have n14 := HBR1.out.frozen 4
    have o4 : w1.cell? ⟨T + 1 + 1, 4, none⟩ = some (.slice none 0 0) := HBR1.out.cell 4
    have n15 := HBR1.out.frozen 5
    have o5 : w1.cell? ⟨T + 1 + 1, 5, none⟩ = some (.slice none 0 0) := HBR1.out.cell 5
    have n16 := HBR1.out.frozen 6
    have o6 : w1.cell? ⟨T + 1 + 1, 6, none⟩ = some (.slice none 0 0) := HBR1.out.cell 6
    go_wp2
    rw [← HWX.out]
    have g0 := HKX.out.cell 0
    have g1 := HKX.out.cell 1
    have g2 := HKX.out.cell 2
    have g3 := HKX.out.cell 3
    have g4 := HKX.out.cell 4
    have g5 := HKX.out.cell 5
    have g6 := HKX.out.cell 6
    simp only [List.getElem?_toArray, List.getElem?_cons_zero, List.getElem?_cons_succ] at g0 g1 g2 g3 g4 g5 g6
    refine bodyPost_res (v := .tuple #[.agg #[.int .i64 c1, .int .i64 c2, .int .i64 c3, .int .i64 c4, .slice pA n1 pc, .slice tA n2 tc, .slice bA n3 bc], .int .i64 21]) (by simp [results, Try.results13, go_sem, Addr.add, g0, g1, g2, g3, g4, g5, g6]) rfl ?_
    exact ⟨⟨pA, pc, tx, tA, tc, bA, bc⟩, by rw [H1.out]; dsimp only; rw [HSC.out, ← HC.out], by rw [H1.out]; exact HS.out.upd (HU1.out.box HUX.out HT.out), by rw [H1.out]; exact fun _ _ _ ha => ha, HU1.out.box HUX.out HT.out⟩
  have hh : has (cP who) s.ps = true := ridx_neg.1 (by rw [← HIX.out]; omega)
  have HHP := Lib.hid hh
  have HKJ := Lib.hid kj
  have q0 : w1.cell? ⟨T + 1, 0, none⟩ = some (.int .i64 kd) := HBQ1.out.cell 0
  by_cases ka : kd = 1
  · have H8 : Hid (r = leaveM s q) := Lib.hid (by rw [HR.out]; unfold doM; rw [HQQ.out, if_neg (by exact hN.out), if_neg (by rw [HHP.out]; simp), if_neg (by exact HKJ.out), if_pos (by exact ka)])
    have ka' : (1 : Int) = kd := ka.symm
    subst ka'
    clear ka
    obtain ⟨j, hj⟩ : ∃ j, j = low (cP who) s.ps := ⟨_, rfl⟩
    obtain ⟨p, hp⟩ : ∃ x, x = perAt s who := ⟨_, rfl⟩
    have hpaj := per_at HI.out hh
    rw [← hj, ← hp] at hpaj
    have hrij : ridxM (cP who) s.ps = (j : Int) := by unfold ridxM; rw [if_pos hh, hj]
    have hjlj : j < n1 := by rw [HN.out.1]; exact (List.getElem?_eq_some_iff.1 hpaj.1).1
    have hixj : ix = (j : Int) := by rw [HIX.out]; exact hrij
    subst hixj
    have hpw : p.who = who := hpaj.2.1
    obtain ⟨bP, oP, e, e0, _⟩ := rowP (HS.out.upd HU1.out).p rfl j p hpaj.1
    dsimp only at e
    cases e
    have HPJ := Lib.hid hpaj
    have hjli : (j : Int) < (n1 : Int) := by omega
    have hwj : IntKind.i64.wrap ((j : Int) + 1) = (j : Int) + 1 := IntWalk.i64_in _ (by omega)
    obtain ⟨j0, hj0, hy0, hy1, hy2⟩ := info_parts infoRP
    have HRP := Lib.hid (HS.out.upd HU1.out).p
    have hle := HRP.out.le
    have hcm := HRP.out.cm
    dsimp only at hle hcm
    rw [← HN.out.1] at hle
    have HPW := Lib.hid hpw
    clear hp hj hpaj hrij e0 hpw hh
    have m4 : w1.cell? ⟨T, 4, none⟩ = some (.slice (some ⟨bP, oP, none⟩) n1 pc) := HBT1.out.cell 4
    go_wp2_with (at_builtin; refine wpList_append_src w1 rfl (.tmp 36) (.tmp 40) 33 rfl w1.heap.size 74 j0 _ 3 24 Try.underlying33 hj0 hy0 hy1 hy2 rfl (by decide) (.slice none 0 0) 0 [] rfl (World.ownsRow_nil _ _ _ _) (some ⟨bP, oP, none⟩) j pc ((s.ps.take j).flatMap encP) rfl (fun e => by cases e) (by rw [flat_length encP_len, List.length_take, ← HN.out.1, Nat.min_eq_left (by omega)]) (HRP.out.piece0 encP_len) (flat_ones encP_one _) (by unfold maxLen; omega) (by omega) (Nat.le_refl _) ?_)
    intro v6 w6 hown6 hg6 _
    obtain ⟨A6, d6, hv6, _⟩ := own_form hown6
    subst hv6
    try simp only [Nat.zero_add, List.nil_append] at hown6
    have hu6 : Upd [] w1 w6 := Upd.of_below ((Upd.of_grown hg6).below (Nat.le_refl _) (fun s hs => by
      simp [Value.ownBlock] at hs))
    have HOWN6 := Lib.hid hown6
    have HU16 := Lib.hid hu6
    have hbt6 := HBT1.out.upd hu6 (by simp)
    have m4 : w6.cell? ⟨T, 4, none⟩ = some (.slice (some ⟨bP, oP, none⟩) n1 pc) := hbt6.cell 4
    have q0 : w6.cell? ⟨T + 1, 0, none⟩ = some (.int .i64 1) := (HBQ1.out.upd hu6 (by simp)).cell 0
    clear hown6 hg6 hu6 hbt6
    by_cases hpc : pc = j + 1
    · have hpci : (pc : Int) = (j : Int) + 1 := by omega
      go_wp2_with (at_builtin; go_loud (refine wpList_append_src w6 rfl (.tmp 42) (.tmp 47) 33 rfl w1.heap.size 74 j0 _ 3 24 Try.underlying33 hj0 hy0 hy1 hy2 rfl (by decide) (.slice A6 j d6) j _ rfl HOWN6.out (some ⟨bP, oP, none⟩) (n1 - (j + 1)) 0 ((s.ps.drop (j + 1)).flatMap encP) rfl (fun e => by cases e) (by rw [flat_length encP_len, List.length_drop, ← HN.out.1]) (by rw [List.drop_eq_nil_of_le (by rw [← HN.out.1]; omega)]; intro ad _ j u hj; simp at hj) (flat_ones encP_one _) (by unfold maxLen; omega) (by omega) HU16.out.size ?_))
      intro v7 w7 hown7 hg7 _
      obtain ⟨A7, d7, hv7, _⟩ := own_form hown7
      subst hv7
      have hu7 : Upd [] w1 w7 := Upd.of_below ((HU16.out.below (Nat.le_refl _) (by simp)).trans ((Upd.of_grown hg7).below HU16.out.size (fun s hs => by
        rw [own_list] at hs
        exact (own_in HOWN6.out s hs).2)))
      have HBT7 := Lib.hid (HBT1.out.upd hu7 (by simp))
      have HBR7 := Lib.hid (HBR1.out.upd hu7 (by simp))
      have HBQ7 := Lib.hid (HBQ1.out.upd hu7 (by simp))
      have HU7 := Lib.hid (HU1.out.next hu7)
      obtain ⟨NN, hNN⟩ : ∃ N, N = j + (n1 - (j + 1)) := ⟨_, rfl⟩
      rw [← hNN] at hown7
      have howt : w7.ownsRow w1.heap.size 74 3 (.slice A7 NN d7) NN ((s.ps.eraseIdx j).flatMap encP) := by
        have h := hown7
        rw [← List.flatMap_append, ← List.eraseIdx_eq_take_drop_succ] at h
        exact h
      have HNN := Lib.hid hNN
      have hbt7 := HBT7.out
      have m4 : w7.cell? ⟨T, 4, none⟩ = some (.slice (some ⟨bP, oP, none⟩) n1 pc) := hbt7.cell 4
      have f4 := hbt7.frozen 4
      obtain ⟨w8, hw8⟩ : ∃ w8, w8 = w7.setCell ⟨T, 4, none⟩ (.slice A7 NN d7) := ⟨_, rfl⟩
      have us : Upd [T] w7 w8 := by rw [hw8]; exact (Upd.refl [T] w7).setCell (.inl (by simp)) _
      have HBT8 : Hid (Blk w8 T 37 #[.int .i64 c1, .int .i64 c2, .int .i64 c3, .int .i64 c4, .slice A7 NN d7, .slice tA n2 tc, .slice bA n3 bc]) := Lib.hid (by rw [hw8]; exact hbt7.store 4 _)
      have HBR8 := Lib.hid (HBR7.out.upd us (by simp; omega))
      have HBQ8 := Lib.hid (HBQ7.out.upd us (by simp))
      have HU8 : Hid (Upd [] w w8) := Lib.hid (HU7.out.box' us (by rw [HT.out]; exact Nat.le_refl _))
      have hown8 := ownsRow_upd howt us (fun s hs hg => by rw [List.mem_singleton] at hs; subst hs; exact own_box howt hbt7 (by decide) hg)
      have hlen : (s.ps.eraseIdx j).length = NN := by rw [hNN, List.length_eraseIdx, if_pos (by rw [← HN.out.1]; exact hjlj), ← HN.out.1]; omega
      obtain ⟨s8, hs8⟩ : ∃ x : St, x = { s with ps := s.ps.eraseIdx j } := ⟨_, rfl⟩
      have hst8 : StIn w8 s8 ⟨A7, d7, tx, tA, tc, bA, bc⟩ := by
        have k := HS.out.upd HU8.out
        rw [hs8]
        refine ⟨?_, k.t, k.b, k.tx, k.ss⟩
        dsimp only
        rw [hlen]
        exact (RwIn.of_own hown8).more (Nat.zero_le _)
      have HAV8 : Hid (∀ g, g < w.heap.size → Av g s ⟨some ⟨bP, oP, none⟩, pc, tx, tA, tc, bA, bc⟩ → Av g s8 ⟨A7, d7, tx, tA, tc, bA, bc⟩) := Lib.hid (fun g hg ha => by
        rw [hs8]
        refine ⟨?_, ha.t, ha.b, ha.ss⟩
        dsimp only
        rw [hlen]
        exact own_av hown8 (Nat.lt_of_lt_of_le hg HU1.out.size))
      have hsc8 : scells s8 ⟨A7, d7, tx, tA, tc, bA, bc⟩ = [.int .i64 c1, .int .i64 c2, .int .i64 c3, .int .i64 c4, .slice A7 NN d7, .slice tA n2 tc, .slice bA n3 bc] := by
        rw [hs8]; unfold scells; dsimp only; rw [hlen, ← HC.out, ← HN.out.2.1, ← HN.out.2.2]
      have HK : Hid (Calls Try.prog 36 #[.agg #[.int .i64 c1, .int .i64 c2, .int .i64 c3, .int .i64 c4, .slice A7 NN d7, .slice tA n2 tc, .slice bA n3 bc], .int .i64 0, .int .i64 who, .int .i64 who] w8 fun e w' => ∃ h', e = .returned (.agg (scells (withoutM s8 0 who who) h').toArray) ∧ StIn w' (withoutM s8 0 who who) h' ∧ (∀ g, g < w8.heap.size → Av g s8 ⟨A7, d7, tx, tA, tc, bA, bc⟩ → Av g (withoutM s8 0 who who) h') ∧ Upd [] w8 w') := Lib.hid (by
        have h := rwithout_any hst8 (by rw [hs8]; exact HI.out.ut) (by rw [hs8]; dsimp only; rw [hlen]; omega) (by rw [hs8]; dsimp only; rw [← HN.out.2.1]; omega) (by rw [hs8]; dsimp only; rw [← HN.out.2.2]; omega) 0 who who
        rw [hsc8] at h
        exact h)
      have HLV : Hid (leaveM s q = (withoutM s8 0 who who, 0)) := Lib.hid (by
        unfold leaveM
        rw [hs8, without_who HI.out, HQQ.out, ← HPW.out, filter_erase HI.out.up HPJ.out.1])
      have HW8 := Lib.hid hw8
      clear hown7 hg7 hu7 hNN howt hbt7 us hown8 hlen hst8 hsc8 hw8 hs8
      rw [← HNN.out]
      go_upto_region 13 with fail
      rw [← HW8.out]
      clear m4 f4
      have m0 : w8.cell? ⟨T, 0, none⟩ = some (.int .i64 c1) := HBT8.out.cell 0
      have m1 : w8.cell? ⟨T, 1, none⟩ = some (.int .i64 c2) := HBT8.out.cell 1
      have m2 : w8.cell? ⟨T, 2, none⟩ = some (.int .i64 c3) := HBT8.out.cell 2
      have m3 : w8.cell? ⟨T, 3, none⟩ = some (.int .i64 c4) := HBT8.out.cell 3
      have m4 : w8.cell? ⟨T, 4, none⟩ = some (.slice A7 NN d7) := HBT8.out.cell 4
      have m5 : w8.cell? ⟨T, 5, none⟩ = some (.slice tA n2 tc) := HBT8.out.cell 5
      have m6 : w8.cell? ⟨T, 6, none⟩ = some (.slice bA n3 bc) := HBT8.out.cell 6
      have q1 : w8.cell? ⟨T + 1, 1, none⟩ = some (.int .i64 who) := HBQ8.out.cell 1
      go_wp2_with fail
      refine HK.out.mono ?_
      rintro _ w9 ⟨h', rfl, hst, hav, hu9⟩
      clear m0 m1 m2 m3 m4 m5 m6 q0 q1
      have HBR9 := Lib.hid (HBR8.out.upd hu9 (by simp))
      have HU9 := Lib.hid (HU8.out.next hu9)
      clear hu9 HK
      have HI9 : Hid (Inv (withoutM s8 0 who who)) := Lib.hid (by have h := inv_do HI.out q; rw [← HR.out, H8.out, HLV.out] at h; exact h)
      obtain ⟨pA2, pc2, tx2, tA2, tc2, bA2, bc2⟩ := h'
      obtain ⟨s2, hs2⟩ : ∃ x, x = withoutM s8 0 who who := ⟨_, rfl⟩
      rw [← hs2] at hst hav
      simp only [← hs2]
      obtain ⟨m1, hm1x⟩ : ∃ n, n = s2.ps.length := ⟨_, rfl⟩
      obtain ⟨m2, hm2x⟩ : ∃ n, n = s2.ts.length := ⟨_, rfl⟩
      obtain ⟨m3, hm3x⟩ : ∃ n, n = s2.bs.length := ⟨_, rfl⟩
      obtain ⟨⟨d1, d2, d3, d4⟩, hcc⟩ : ∃ c, c = s2.c := ⟨_, rfl⟩
      have hsc2 : scells s2 ⟨pA2, pc2, tx2, tA2, tc2, bA2, bc2⟩ = [.int .i64 d1, .int .i64 d2, .int .i64 d3, .int .i64 d4, .slice pA2 m1 pc2, .slice tA2 m2 tc2, .slice bA2 m3 bc2] := by unfold scells; rw [← hcc, ← hm1x, ← hm2x, ← hm3x]
      rw [hsc2]
      have HS2 := Lib.hid hs2
      have HST := Lib.hid hst
      have HAV := Lib.hid hav
      have HSC2 := Lib.hid hsc2
      clear hs2 hst hav hsc2 hm1x hm2x hm3x hcc
      obtain ⟨kx, ux⟩ := blk7 HBR9.out (.int .i64 d1) (.int .i64 d2) (.int .i64 d3) (.int .i64 d4) (.slice pA2 m1 pc2) (.slice tA2 m2 tc2) (.slice bA2 m3 bc2)
      obtain ⟨wx, hwx⟩ : ∃ wx, wx = (((((((w9.setCell ⟨T + 1 + 1, 0, none⟩ (.int .i64 d1)).setCell ⟨T + 1 + 1, 1, none⟩ (.int .i64 d2)).setCell ⟨T + 1 + 1, 2, none⟩ (.int .i64 d3)).setCell ⟨T + 1 + 1, 3, none⟩ (.int .i64 d4)).setCell ⟨T + 1 + 1, 4, none⟩ (.slice pA2 m1 pc2)).setCell ⟨T + 1 + 1, 5, none⟩ (.slice tA2 m2 tc2)).setCell ⟨T + 1 + 1, 6, none⟩ (.slice bA2 m3 bc2)) := ⟨_, rfl⟩
      rw [← hwx] at kx ux
      have HKX := Lib.hid kx
      have HUX := Lib.hid ux
      have HWX := Lib.hid hwx
      clear kx ux hwx
      have n10 := HBR9.out.frozen 0
      have o0 : w9.cell? ⟨T + 1 + 1, 0, none⟩ = some (.int .i64 0) := HBR9.out.cell 0
      have n11 := HBR9.out.frozen 1
      have o1 : w9.cell? ⟨T + 1 + 1, 1, none⟩ = some (.int .i64 0) := HBR9.out.cell 1
      have n12 := HBR9.out.frozen 2
      have o2 : w9.cell? ⟨T + 1 + 1, 2, none⟩ = some (.int .i64 0) := HBR9.out.cell 2
      have n13 := HBR9.out.frozen 3
      have o3 : w9.cell? ⟨T + 1 + 1, 3, none⟩ = some (.int .i64 0) := HBR9.out.cell 3
      have n14 := HBR9.out.frozen 4
      have o4 : w9.cell? ⟨T + 1 + 1, 4, none⟩ = some (.slice none 0 0) := HBR9.out.cell 4
      have n15 := HBR9.out.frozen 5
      have o5 : w9.cell? ⟨T + 1 + 1, 5, none⟩ = some (.slice none 0 0) := HBR9.out.cell 5
      have n16 := HBR9.out.frozen 6
      have o6 : w9.cell? ⟨T + 1 + 1, 6, none⟩ = some (.slice none 0 0) := HBR9.out.cell 6
      go_wp2
      rw [← HWX.out]
      have g0 := HKX.out.cell 0
      have g1 := HKX.out.cell 1
      have g2 := HKX.out.cell 2
      have g3 := HKX.out.cell 3
      have g4 := HKX.out.cell 4
      have g5 := HKX.out.cell 5
      have g6 := HKX.out.cell 6
      simp only [List.getElem?_toArray, List.getElem?_cons_zero, List.getElem?_cons_succ] at g0 g1 g2 g3 g4 g5 g6
      refine bodyPost_res (v := .tuple #[.agg #[.int .i64 d1, .int .i64 d2, .int .i64 d3, .int .i64 d4, .slice pA2 m1 pc2, .slice tA2 m2 tc2, .slice bA2 m3 bc2], .int .i64 0]) (by simp [results, Try.results13, go_sem, Addr.add, g0, g1, g2, g3, g4, g5, g6]) rfl ?_
      exact ⟨⟨pA2, pc2, tx2, tA2, tc2, bA2, bc2⟩, by rw [H8.out, HLV.out]; dsimp only; rw [← HS2.out, HSC2.out], by rw [H8.out, HLV.out]; dsimp only; rw [← HS2.out]; exact HST.out.past HUX.out (inv_av HST.out (by rw [HS2.out]; exact HI9.out) HBR9.out), fun g hg _ ha => by rw [H8.out, HLV.out]; dsimp only; rw [← HS2.out]; exact HAV.out g (Nat.lt_of_lt_of_le hg HU8.out.size) (HAV8.out g hg ha), HU9.out.box HUX.out HT.out⟩
    · have hpci : (j : Int) + 1 < (pc : Int) := by omega
      go_wp2_with (at_builtin; go_loud (refine wpList_append_src w6 rfl (.tmp 42) (.tmp 47) 33 rfl w1.heap.size 74 j0 _ 3 24 Try.underlying33 hj0 hy0 hy1 hy2 rfl (by decide) (.slice A6 j d6) j _ rfl HOWN6.out (some ((⟨bP, oP, none⟩ : Addr).add ((j + 1) * 3))) (n1 - (j + 1)) (pc - (j + 1)) ((s.ps.drop (j + 1)).flatMap encP) rfl (fun e => by cases e) (by rw [flat_length encP_len, List.length_drop, ← HN.out.1]) ((HRP.out.upd HU16.out).piece1 encP_len rfl) (flat_ones encP_one _) (by unfold maxLen; omega) (by omega) HU16.out.size ?_))
      intro v7 w7 hown7 hg7 _
      obtain ⟨A7, d7, hv7, _⟩ := own_form hown7
      subst hv7
      have hu7 : Upd [] w1 w7 := Upd.of_below ((HU16.out.below (Nat.le_refl _) (by simp)).trans ((Upd.of_grown hg7).below HU16.out.size (fun s hs => by
        rw [own_list] at hs
        exact (own_in HOWN6.out s hs).2)))
      have HBT7 := Lib.hid (HBT1.out.upd hu7 (by simp))
      have HBR7 := Lib.hid (HBR1.out.upd hu7 (by simp))
      have HBQ7 := Lib.hid (HBQ1.out.upd hu7 (by simp))
      have HU7 := Lib.hid (HU1.out.next hu7)
      obtain ⟨NN, hNN⟩ : ∃ N, N = j + (n1 - (j + 1)) := ⟨_, rfl⟩
      rw [← hNN] at hown7
      have howt : w7.ownsRow w1.heap.size 74 3 (.slice A7 NN d7) NN ((s.ps.eraseIdx j).flatMap encP) := by
        have h := hown7
        rw [← List.flatMap_append, ← List.eraseIdx_eq_take_drop_succ] at h
        exact h
      have HNN := Lib.hid hNN
      have hbt7 := HBT7.out
      have m4 : w7.cell? ⟨T, 4, none⟩ = some (.slice (some ⟨bP, oP, none⟩) n1 pc) := hbt7.cell 4
      have f4 := hbt7.frozen 4
      obtain ⟨w8, hw8⟩ : ∃ w8, w8 = w7.setCell ⟨T, 4, none⟩ (.slice A7 NN d7) := ⟨_, rfl⟩
      have us : Upd [T] w7 w8 := by rw [hw8]; exact (Upd.refl [T] w7).setCell (.inl (by simp)) _
      have HBT8 : Hid (Blk w8 T 37 #[.int .i64 c1, .int .i64 c2, .int .i64 c3, .int .i64 c4, .slice A7 NN d7, .slice tA n2 tc, .slice bA n3 bc]) := Lib.hid (by rw [hw8]; exact hbt7.store 4 _)
      have HBR8 := Lib.hid (HBR7.out.upd us (by simp; omega))
      have HBQ8 := Lib.hid (HBQ7.out.upd us (by simp))
      have HU8 : Hid (Upd [] w w8) := Lib.hid (HU7.out.box' us (by rw [HT.out]; exact Nat.le_refl _))
      have hown8 := ownsRow_upd howt us (fun s hs hg => by rw [List.mem_singleton] at hs; subst hs; exact own_box howt hbt7 (by decide) hg)
      have hlen : (s.ps.eraseIdx j).length = NN := by rw [hNN, List.length_eraseIdx, if_pos (by rw [← HN.out.1]; exact hjlj), ← HN.out.1]; omega
      obtain ⟨s8, hs8⟩ : ∃ x : St, x = { s with ps := s.ps.eraseIdx j } := ⟨_, rfl⟩
      have hst8 : StIn w8 s8 ⟨A7, d7, tx, tA, tc, bA, bc⟩ := by
        have k := HS.out.upd HU8.out
        rw [hs8]
        refine ⟨?_, k.t, k.b, k.tx, k.ss⟩
        dsimp only
        rw [hlen]
        exact (RwIn.of_own hown8).more (Nat.zero_le _)
      have HAV8 : Hid (∀ g, g < w.heap.size → Av g s ⟨some ⟨bP, oP, none⟩, pc, tx, tA, tc, bA, bc⟩ → Av g s8 ⟨A7, d7, tx, tA, tc, bA, bc⟩) := Lib.hid (fun g hg ha => by
        rw [hs8]
        refine ⟨?_, ha.t, ha.b, ha.ss⟩
        dsimp only
        rw [hlen]
        exact own_av hown8 (Nat.lt_of_lt_of_le hg HU1.out.size))
      have hsc8 : scells s8 ⟨A7, d7, tx, tA, tc, bA, bc⟩ = [.int .i64 c1, .int .i64 c2, .int .i64 c3, .int .i64 c4, .slice A7 NN d7, .slice tA n2 tc, .slice bA n3 bc] := by
        rw [hs8]; unfold scells; dsimp only; rw [hlen, ← HC.out, ← HN.out.2.1, ← HN.out.2.2]
      have HK : Hid (Calls Try.prog 36 #[.agg #[.int .i64 c1, .int .i64 c2, .int .i64 c3, .int .i64 c4, .slice A7 NN d7, .slice tA n2 tc, .slice bA n3 bc], .int .i64 0, .int .i64 who, .int .i64 who] w8 fun e w' => ∃ h', e = .returned (.agg (scells (withoutM s8 0 who who) h').toArray) ∧ StIn w' (withoutM s8 0 who who) h' ∧ (∀ g, g < w8.heap.size → Av g s8 ⟨A7, d7, tx, tA, tc, bA, bc⟩ → Av g (withoutM s8 0 who who) h') ∧ Upd [] w8 w') := Lib.hid (by
        have h := rwithout_any hst8 (by rw [hs8]; exact HI.out.ut) (by rw [hs8]; dsimp only; rw [hlen]; omega) (by rw [hs8]; dsimp only; rw [← HN.out.2.1]; omega) (by rw [hs8]; dsimp only; rw [← HN.out.2.2]; omega) 0 who who
        rw [hsc8] at h
        exact h)
      have HLV : Hid (leaveM s q = (withoutM s8 0 who who, 0)) := Lib.hid (by
        unfold leaveM
        rw [hs8, without_who HI.out, HQQ.out, ← HPW.out, filter_erase HI.out.up HPJ.out.1])
      have HW8 := Lib.hid hw8
      clear hown7 hg7 hu7 hNN howt hbt7 us hown8 hlen hst8 hsc8 hw8 hs8
      rw [← HNN.out]
      go_upto_region 13 with fail
      rw [← HW8.out]
      clear m4 f4
      have m0 : w8.cell? ⟨T, 0, none⟩ = some (.int .i64 c1) := HBT8.out.cell 0
      have m1 : w8.cell? ⟨T, 1, none⟩ = some (.int .i64 c2) := HBT8.out.cell 1
      have m2 : w8.cell? ⟨T, 2, none⟩ = some (.int .i64 c3) := HBT8.out.cell 2
      have m3 : w8.cell? ⟨T, 3, none⟩ = some (.int .i64 c4) := HBT8.out.cell 3
      have m4 : w8.cell? ⟨T, 4, none⟩ = some (.slice A7 NN d7) := HBT8.out.cell 4
      have m5 : w8.cell? ⟨T, 5, none⟩ = some (.slice tA n2 tc) := HBT8.out.cell 5
      have m6 : w8.cell? ⟨T, 6, none⟩ = some (.slice bA n3 bc) := HBT8.out.cell 6
      have q1 : w8.cell? ⟨T + 1, 1, none⟩ = some (.int .i64 who) := HBQ8.out.cell 1
      go_wp2_with fail
      refine HK.out.mono ?_
      rintro _ w9 ⟨h', rfl, hst, hav, hu9⟩
      clear m0 m1 m2 m3 m4 m5 m6 q0 q1
      have HBR9 := Lib.hid (HBR8.out.upd hu9 (by simp))
      have HU9 := Lib.hid (HU8.out.next hu9)
      clear hu9 HK
      have HI9 : Hid (Inv (withoutM s8 0 who who)) := Lib.hid (by have h := inv_do HI.out q; rw [← HR.out, H8.out, HLV.out] at h; exact h)
      obtain ⟨pA2, pc2, tx2, tA2, tc2, bA2, bc2⟩ := h'
      obtain ⟨s2, hs2⟩ : ∃ x, x = withoutM s8 0 who who := ⟨_, rfl⟩
      rw [← hs2] at hst hav
      simp only [← hs2]
      obtain ⟨m1, hm1x⟩ : ∃ n, n = s2.ps.length := ⟨_, rfl⟩
      obtain ⟨m2, hm2x⟩ : ∃ n, n = s2.ts.length := ⟨_, rfl⟩
      obtain ⟨m3, hm3x⟩ : ∃ n, n = s2.bs.length := ⟨_, rfl⟩
      obtain ⟨⟨d1, d2, d3, d4⟩, hcc⟩ : ∃ c, c = s2.c := ⟨_, rfl⟩
      have hsc2 : scells s2 ⟨pA2, pc2, tx2, tA2, tc2, bA2, bc2⟩ = [.int .i64 d1, .int .i64 d2, .int .i64 d3, .int .i64 d4, .slice pA2 m1 pc2, .slice tA2 m2 tc2, .slice bA2 m3 bc2] := by unfold scells; rw [← hcc, ← hm1x, ← hm2x, ← hm3x]
      rw [hsc2]
      have HS2 := Lib.hid hs2
      have HST := Lib.hid hst
      have HAV := Lib.hid hav
      have HSC2 := Lib.hid hsc2
      clear hs2 hst hav hsc2 hm1x hm2x hm3x hcc
      obtain ⟨kx, ux⟩ := blk7 HBR9.out (.int .i64 d1) (.int .i64 d2) (.int .i64 d3) (.int .i64 d4) (.slice pA2 m1 pc2) (.slice tA2 m2 tc2) (.slice bA2 m3 bc2)
      obtain ⟨wx, hwx⟩ : ∃ wx, wx = (((((((w9.setCell ⟨T + 1 + 1, 0, none⟩ (.int .i64 d1)).setCell ⟨T + 1 + 1, 1, none⟩ (.int .i64 d2)).setCell ⟨T + 1 + 1, 2, none⟩ (.int .i64 d3)).setCell ⟨T + 1 + 1, 3, none⟩ (.int .i64 d4)).setCell ⟨T + 1 + 1, 4, none⟩ (.slice pA2 m1 pc2)).setCell ⟨T + 1 + 1, 5, none⟩ (.slice tA2 m2 tc2)).setCell ⟨T + 1 + 1, 6, none⟩ (.slice bA2 m3 bc2)) := ⟨_, rfl⟩
      rw [← hwx] at kx ux
      have HKX := Lib.hid kx
      have HUX := Lib.hid ux
      have HWX := Lib.hid hwx
      clear kx ux hwx
      have n10 := HBR9.out.frozen 0
      have o0 : w9.cell? ⟨T + 1 + 1, 0, none⟩ = some (.int .i64 0) := HBR9.out.cell 0
      have n11 := HBR9.out.frozen 1
      have o1 : w9.cell? ⟨T + 1 + 1, 1, none⟩ = some (.int .i64 0) := HBR9.out.cell 1
      have n12 := HBR9.out.frozen 2
      have o2 : w9.cell? ⟨T + 1 + 1, 2, none⟩ = some (.int .i64 0) := HBR9.out.cell 2
      have n13 := HBR9.out.frozen 3
      have o3 : w9.cell? ⟨T + 1 + 1, 3, none⟩ = some (.int .i64 0) := HBR9.out.cell 3
      have n14 := HBR9.out.frozen 4
      have o4 : w9.cell? ⟨T + 1 + 1, 4, none⟩ = some (.slice none 0 0) := HBR9.out.cell 4
      have n15 := HBR9.out.frozen 5
      have o5 : w9.cell? ⟨T + 1 + 1, 5, none⟩ = some (.slice none 0 0) := HBR9.out.cell 5
      have n16 := HBR9.out.frozen 6
      have o6 : w9.cell? ⟨T + 1 + 1, 6, none⟩ = some (.slice none 0 0) := HBR9.out.cell 6
      go_wp2
      rw [← HWX.out]
      have g0 := HKX.out.cell 0
      have g1 := HKX.out.cell 1
      have g2 := HKX.out.cell 2
      have g3 := HKX.out.cell 3
      have g4 := HKX.out.cell 4
      have g5 := HKX.out.cell 5
      have g6 := HKX.out.cell 6
      simp only [List.getElem?_toArray, List.getElem?_cons_zero, List.getElem?_cons_succ] at g0 g1 g2 g3 g4 g5 g6
      refine bodyPost_res (v := .tuple #[.agg #[.int .i64 d1, .int .i64 d2, .int .i64 d3, .int .i64 d4, .slice pA2 m1 pc2, .slice tA2 m2 tc2, .slice bA2 m3 bc2], .int .i64 0]) (by simp [results, Try.results13, go_sem, Addr.add, g0, g1, g2, g3, g4, g5, g6]) rfl ?_
      exact ⟨⟨pA2, pc2, tx2, tA2, tc2, bA2, bc2⟩, by rw [H8.out, HLV.out]; dsimp only; rw [← HS2.out, HSC2.out], by rw [H8.out, HLV.out]; dsimp only; rw [← HS2.out]; exact HST.out.past HUX.out (inv_av HST.out (by rw [HS2.out]; exact HI9.out) HBR9.out), fun g hg _ ha => by rw [H8.out, HLV.out]; dsimp only; rw [← HS2.out]; exact HAV.out g (Nat.lt_of_lt_of_le hg HU8.out.size) (HAV8.out g hg ha), HU9.out.box HUX.out HT.out⟩
  have hk1 : (kd == 1) = false := beq_eq_false_iff_ne.2 ka
  by_cases kb : kd = 2
  · have H8 : Hid (r = publishM s q) := Lib.hid (by rw [HR.out]; unfold doM; rw [HQQ.out, if_neg (by exact hN.out), if_neg (by rw [HHP.out]; simp), if_neg (by exact HKJ.out), if_neg (by exact ka), if_pos (by exact kb)])
    have kb' : (2 : Int) = kd := kb.symm
    subst kb'
    clear kb
    have HK : Hid (Calls Try.prog 37 #[.agg #[.int .i64 c1, .int .i64 c2, .int .i64 c3, .int .i64 c4, .slice pA n1 pc, .slice tA n2 tc, .slice bA n3 bc], .agg #[.int .i64 2, .int .i64 who, .int .i64 room, .int .i64 rights, .int .i64 track, .slice qA ql qc, .int .i64 layer, .int .i64 tid]] w1 fun e w' => ∃ h', e = .returned (.tuple #[.agg (scells (publishM s q).1 h').toArray, .int .i64 (publishM s q).2]) ∧ StIn w' (publishM s q).1 h' ∧ (∀ g, g < w1.heap.size → QAv g q ⟨qA, qc⟩ → Av g s ⟨pA, pc, tx, tA, tc, bA, bc⟩ → Av g (publishM s q).1 h') ∧ Upd [] w1 w') := Lib.hid (by
      have h := rpublish_any (q := q) (qh := ⟨qA, qc⟩) (HS.out.upd HU1.out) HI.out (by rw [HQQ.out]; exact HQ.out.upd HU1.out) (by rw [HQQ.out]; exact HHP.out)
      rw [HSC.out, ← HC.out] at h
      rw [show qcells q ⟨qA, qc⟩ = [.int .i64 2, .int .i64 who, .int .i64 room, .int .i64 rights, .int .i64 track, .slice qA ql qc, .int .i64 layer, .int .i64 tid] by rw [HQQ.out, HQL.out]; rfl] at h
      exact h)
    have m0 : w1.cell? ⟨T, 0, none⟩ = some (.int .i64 c1) := HBT1.out.cell 0
    have m1 : w1.cell? ⟨T, 1, none⟩ = some (.int .i64 c2) := HBT1.out.cell 1
    have m2 : w1.cell? ⟨T, 2, none⟩ = some (.int .i64 c3) := HBT1.out.cell 2
    have m3 : w1.cell? ⟨T, 3, none⟩ = some (.int .i64 c4) := HBT1.out.cell 3
    have m4 : w1.cell? ⟨T, 4, none⟩ = some (.slice pA n1 pc) := HBT1.out.cell 4
    have m5 : w1.cell? ⟨T, 5, none⟩ = some (.slice tA n2 tc) := HBT1.out.cell 5
    have m6 : w1.cell? ⟨T, 6, none⟩ = some (.slice bA n3 bc) := HBT1.out.cell 6
    have q0 : w1.cell? ⟨T + 1, 0, none⟩ = some (.int .i64 2) := HBQ1.out.cell 0
    have q1 : w1.cell? ⟨T + 1, 1, none⟩ = some (.int .i64 who) := HBQ1.out.cell 1
    have q2 : w1.cell? ⟨T + 1, 2, none⟩ = some (.int .i64 room) := HBQ1.out.cell 2
    have q3 : w1.cell? ⟨T + 1, 3, none⟩ = some (.int .i64 rights) := HBQ1.out.cell 3
    have q4 : w1.cell? ⟨T + 1, 4, none⟩ = some (.int .i64 track) := HBQ1.out.cell 4
    have q5 : w1.cell? ⟨T + 1, 5, none⟩ = some (.slice qA ql qc) := HBQ1.out.cell 5
    have q6 : w1.cell? ⟨T + 1, 6, none⟩ = some (.int .i64 layer) := HBQ1.out.cell 6
    have q7 : w1.cell? ⟨T + 1, 7, none⟩ = some (.int .i64 tid) := HBQ1.out.cell 7
    obtain ⟨er, her⟩ : ∃ e, e = (publishM s q).2 := ⟨_, rfl⟩
    rw [← her] at HK
    have HER := Lib.hid her
    clear her
    go_wp2_with fail
    refine HK.out.mono ?_
    rintro _ w9 ⟨h', rfl, hst, hav, hu9⟩
    clear m0 m1 m2 m3 m4 m5 m6 q0 q1 q2 q3 q4 q5 q6 q7
    have HBT9 := Lib.hid (HBT1.out.upd hu9 (by simp))
    have HBR9 := Lib.hid (HBR1.out.upd hu9 (by simp))
    have HBQ9 := Lib.hid (HBQ1.out.upd hu9 (by simp))
    have HU9 := Lib.hid (HU1.out.next hu9)
    clear hu9 HK
    have HI9 : Hid (Inv (publishM s q).1) := Lib.hid (by have h := inv_do HI.out q; rw [← HR.out, H8.out] at h; exact h)
    obtain ⟨pA2, pc2, tx2, tA2, tc2, bA2, bc2⟩ := h'
    obtain ⟨s2, hs2⟩ : ∃ x, x = (publishM s q).1 := ⟨_, rfl⟩
    rw [← hs2] at hst hav
    simp only [← hs2]
    obtain ⟨m1, hm1x⟩ : ∃ n, n = s2.ps.length := ⟨_, rfl⟩
    obtain ⟨m2, hm2x⟩ : ∃ n, n = s2.ts.length := ⟨_, rfl⟩
    obtain ⟨m3, hm3x⟩ : ∃ n, n = s2.bs.length := ⟨_, rfl⟩
    obtain ⟨⟨d1, d2, d3, d4⟩, hcc⟩ : ∃ c, c = s2.c := ⟨_, rfl⟩
    have hsc2 : scells s2 ⟨pA2, pc2, tx2, tA2, tc2, bA2, bc2⟩ = [.int .i64 d1, .int .i64 d2, .int .i64 d3, .int .i64 d4, .slice pA2 m1 pc2, .slice tA2 m2 tc2, .slice bA2 m3 bc2] := by unfold scells; rw [← hcc, ← hm1x, ← hm2x, ← hm3x]
    rw [hsc2]
    have HS2 := Lib.hid hs2
    have HST := Lib.hid hst
    have HAV := Lib.hid hav
    have HSC2 := Lib.hid hsc2
    clear hs2 hst hav hsc2 hm1x hm2x hm3x hcc
    obtain ⟨kx, ux⟩ := blk7 HBR9.out (.int .i64 d1) (.int .i64 d2) (.int .i64 d3) (.int .i64 d4) (.slice pA2 m1 pc2) (.slice tA2 m2 tc2) (.slice bA2 m3 bc2)
    obtain ⟨wx, hwx⟩ : ∃ wx, wx = (((((((w9.setCell ⟨T + 1 + 1, 0, none⟩ (.int .i64 d1)).setCell ⟨T + 1 + 1, 1, none⟩ (.int .i64 d2)).setCell ⟨T + 1 + 1, 2, none⟩ (.int .i64 d3)).setCell ⟨T + 1 + 1, 3, none⟩ (.int .i64 d4)).setCell ⟨T + 1 + 1, 4, none⟩ (.slice pA2 m1 pc2)).setCell ⟨T + 1 + 1, 5, none⟩ (.slice tA2 m2 tc2)).setCell ⟨T + 1 + 1, 6, none⟩ (.slice bA2 m3 bc2)) := ⟨_, rfl⟩
    rw [← hwx] at kx ux
    have HKX := Lib.hid kx
    have HUX := Lib.hid ux
    have HWX := Lib.hid hwx
    clear kx ux hwx
    have n10 := HBR9.out.frozen 0
    have o0 : w9.cell? ⟨T + 1 + 1, 0, none⟩ = some (.int .i64 0) := HBR9.out.cell 0
    have n11 := HBR9.out.frozen 1
    have o1 : w9.cell? ⟨T + 1 + 1, 1, none⟩ = some (.int .i64 0) := HBR9.out.cell 1
    have n12 := HBR9.out.frozen 2
    have o2 : w9.cell? ⟨T + 1 + 1, 2, none⟩ = some (.int .i64 0) := HBR9.out.cell 2
    have n13 := HBR9.out.frozen 3
    have o3 : w9.cell? ⟨T + 1 + 1, 3, none⟩ = some (.int .i64 0) := HBR9.out.cell 3
    have n14 := HBR9.out.frozen 4
    have o4 : w9.cell? ⟨T + 1 + 1, 4, none⟩ = some (.slice none 0 0) := HBR9.out.cell 4
    have n15 := HBR9.out.frozen 5
    have o5 : w9.cell? ⟨T + 1 + 1, 5, none⟩ = some (.slice none 0 0) := HBR9.out.cell 5
    have n16 := HBR9.out.frozen 6
    have o6 : w9.cell? ⟨T + 1 + 1, 6, none⟩ = some (.slice none 0 0) := HBR9.out.cell 6
    go_wp2
    rw [← HWX.out]
    have g0 := HKX.out.cell 0
    have g1 := HKX.out.cell 1
    have g2 := HKX.out.cell 2
    have g3 := HKX.out.cell 3
    have g4 := HKX.out.cell 4
    have g5 := HKX.out.cell 5
    have g6 := HKX.out.cell 6
    simp only [List.getElem?_toArray, List.getElem?_cons_zero, List.getElem?_cons_succ] at g0 g1 g2 g3 g4 g5 g6
    refine bodyPost_res (v := .tuple #[.agg #[.int .i64 d1, .int .i64 d2, .int .i64 d3, .int .i64 d4, .slice pA2 m1 pc2, .slice tA2 m2 tc2, .slice bA2 m3 bc2], .int .i64 er]) (by simp [results, Try.results13, go_sem, Addr.add, g0, g1, g2, g3, g4, g5, g6]) rfl ?_
    exact ⟨⟨pA2, pc2, tx2, tA2, tc2, bA2, bc2⟩, by rw [H8.out, ← HS2.out, HSC2.out, ← HER.out], by rw [H8.out, ← HS2.out]; exact HST.out.past HUX.out (inv_av HST.out (by rw [HS2.out]; exact HI9.out) HBR9.out), fun g hg hq ha => by rw [H8.out, ← HS2.out]; exact HAV.out g (Nat.lt_of_lt_of_le hg HU1.out.size) (by rw [HQQ.out]; exact hq) ha, HU9.out.box HUX.out HT.out⟩
  have hk2 : (kd == 2) = false := beq_eq_false_iff_ne.2 kb
  by_cases kc : kd = 3
  · have H8 : Hid (r = ownD s q) := Lib.hid (by rw [HR.out]; unfold doM; rw [HQQ.out, if_neg (by exact hN.out), if_neg (by rw [HHP.out]; simp), if_neg (by exact HKJ.out), if_neg (by exact ka), if_neg (by exact kb), if_pos (by exact kc)]; unfold ownD; rw [if_pos (by exact kc)])
    have kc' : (3 : Int) = kd := kc.symm
    subst kc'
    clear kc
    have HK : Hid (Calls Try.prog 38 #[.agg #[.int .i64 c1, .int .i64 c2, .int .i64 c3, .int .i64 c4, .slice pA n1 pc, .slice tA n2 tc, .slice bA n3 bc], .agg #[.int .i64 3, .int .i64 who, .int .i64 room, .int .i64 rights, .int .i64 track, .slice qA ql qc, .int .i64 layer, .int .i64 tid]] w1 fun e w' => ∃ h', e = .returned (.tuple #[.agg (scells (ownD s q).1 h').toArray, .int .i64 (ownD s q).2]) ∧ StIn w' (ownD s q).1 h' ∧ (∀ g, g < w1.heap.size → QAv g q ⟨qA, qc⟩ → Av g s ⟨pA, pc, tx, tA, tc, bA, bc⟩ → Av g (ownD s q).1 h') ∧ Upd [] w1 w') := Lib.hid (by
      have h := rown_any (q := q) (qh := ⟨qA, qc⟩) (HS.out.upd HU1.out) HI.out (by rw [HQQ.out]; exact HQ.out.upd HU1.out)
      rw [HSC.out, ← HC.out] at h
      rw [show qcells q ⟨qA, qc⟩ = [.int .i64 3, .int .i64 who, .int .i64 room, .int .i64 rights, .int .i64 track, .slice qA ql qc, .int .i64 layer, .int .i64 tid] by rw [HQQ.out, HQL.out]; rfl] at h
      exact h)
    have m0 : w1.cell? ⟨T, 0, none⟩ = some (.int .i64 c1) := HBT1.out.cell 0
    have m1 : w1.cell? ⟨T, 1, none⟩ = some (.int .i64 c2) := HBT1.out.cell 1
    have m2 : w1.cell? ⟨T, 2, none⟩ = some (.int .i64 c3) := HBT1.out.cell 2
    have m3 : w1.cell? ⟨T, 3, none⟩ = some (.int .i64 c4) := HBT1.out.cell 3
    have m4 : w1.cell? ⟨T, 4, none⟩ = some (.slice pA n1 pc) := HBT1.out.cell 4
    have m5 : w1.cell? ⟨T, 5, none⟩ = some (.slice tA n2 tc) := HBT1.out.cell 5
    have m6 : w1.cell? ⟨T, 6, none⟩ = some (.slice bA n3 bc) := HBT1.out.cell 6
    have q0 : w1.cell? ⟨T + 1, 0, none⟩ = some (.int .i64 3) := HBQ1.out.cell 0
    have q1 : w1.cell? ⟨T + 1, 1, none⟩ = some (.int .i64 who) := HBQ1.out.cell 1
    have q2 : w1.cell? ⟨T + 1, 2, none⟩ = some (.int .i64 room) := HBQ1.out.cell 2
    have q3 : w1.cell? ⟨T + 1, 3, none⟩ = some (.int .i64 rights) := HBQ1.out.cell 3
    have q4 : w1.cell? ⟨T + 1, 4, none⟩ = some (.int .i64 track) := HBQ1.out.cell 4
    have q5 : w1.cell? ⟨T + 1, 5, none⟩ = some (.slice qA ql qc) := HBQ1.out.cell 5
    have q6 : w1.cell? ⟨T + 1, 6, none⟩ = some (.int .i64 layer) := HBQ1.out.cell 6
    have q7 : w1.cell? ⟨T + 1, 7, none⟩ = some (.int .i64 tid) := HBQ1.out.cell 7
    obtain ⟨er, her⟩ : ∃ e, e = (ownD s q).2 := ⟨_, rfl⟩
    rw [← her] at HK
    have HER := Lib.hid her
    clear her
    go_wp2_with fail
    refine HK.out.mono ?_
    rintro _ w9 ⟨h', rfl, hst, hav, hu9⟩
    clear m0 m1 m2 m3 m4 m5 m6 q0 q1 q2 q3 q4 q5 q6 q7
    have HBT9 := Lib.hid (HBT1.out.upd hu9 (by simp))
    have HBR9 := Lib.hid (HBR1.out.upd hu9 (by simp))
    have HBQ9 := Lib.hid (HBQ1.out.upd hu9 (by simp))
    have HU9 := Lib.hid (HU1.out.next hu9)
    clear hu9 HK
    have HI9 : Hid (Inv (ownD s q).1) := Lib.hid (by have h := inv_do HI.out q; rw [← HR.out, H8.out] at h; exact h)
    obtain ⟨pA2, pc2, tx2, tA2, tc2, bA2, bc2⟩ := h'
    obtain ⟨s2, hs2⟩ : ∃ x, x = (ownD s q).1 := ⟨_, rfl⟩
    rw [← hs2] at hst hav
    simp only [← hs2]
    obtain ⟨m1, hm1x⟩ : ∃ n, n = s2.ps.length := ⟨_, rfl⟩
    obtain ⟨m2, hm2x⟩ : ∃ n, n = s2.ts.length := ⟨_, rfl⟩
    obtain ⟨m3, hm3x⟩ : ∃ n, n = s2.bs.length := ⟨_, rfl⟩
    obtain ⟨⟨d1, d2, d3, d4⟩, hcc⟩ : ∃ c, c = s2.c := ⟨_, rfl⟩
    have hsc2 : scells s2 ⟨pA2, pc2, tx2, tA2, tc2, bA2, bc2⟩ = [.int .i64 d1, .int .i64 d2, .int .i64 d3, .int .i64 d4, .slice pA2 m1 pc2, .slice tA2 m2 tc2, .slice bA2 m3 bc2] := by unfold scells; rw [← hcc, ← hm1x, ← hm2x, ← hm3x]
    rw [hsc2]
    have HS2 := Lib.hid hs2
    have HST := Lib.hid hst
    have HAV := Lib.hid hav
    have HSC2 := Lib.hid hsc2
    clear hs2 hst hav hsc2 hm1x hm2x hm3x hcc
    obtain ⟨kx, ux⟩ := blk7 HBR9.out (.int .i64 d1) (.int .i64 d2) (.int .i64 d3) (.int .i64 d4) (.slice pA2 m1 pc2) (.slice tA2 m2 tc2) (.slice bA2 m3 bc2)
    obtain ⟨wx, hwx⟩ : ∃ wx, wx = (((((((w9.setCell ⟨T + 1 + 1, 0, none⟩ (.int .i64 d1)).setCell ⟨T + 1 + 1, 1, none⟩ (.int .i64 d2)).setCell ⟨T + 1 + 1, 2, none⟩ (.int .i64 d3)).setCell ⟨T + 1 + 1, 3, none⟩ (.int .i64 d4)).setCell ⟨T + 1 + 1, 4, none⟩ (.slice pA2 m1 pc2)).setCell ⟨T + 1 + 1, 5, none⟩ (.slice tA2 m2 tc2)).setCell ⟨T + 1 + 1, 6, none⟩ (.slice bA2 m3 bc2)) := ⟨_, rfl⟩
    rw [← hwx] at kx ux
    have HKX := Lib.hid kx
    have HUX := Lib.hid ux
    have HWX := Lib.hid hwx
    clear kx ux hwx
    have n10 := HBR9.out.frozen 0
    have o0 : w9.cell? ⟨T + 1 + 1, 0, none⟩ = some (.int .i64 0) := HBR9.out.cell 0
    have n11 := HBR9.out.frozen 1
    have o1 : w9.cell? ⟨T + 1 + 1, 1, none⟩ = some (.int .i64 0) := HBR9.out.cell 1
    have n12 := HBR9.out.frozen 2
    have o2 : w9.cell? ⟨T + 1 + 1, 2, none⟩ = some (.int .i64 0) := HBR9.out.cell 2
    have n13 := HBR9.out.frozen 3
    have o3 : w9.cell? ⟨T + 1 + 1, 3, none⟩ = some (.int .i64 0) := HBR9.out.cell 3
    have n14 := HBR9.out.frozen 4
    have o4 : w9.cell? ⟨T + 1 + 1, 4, none⟩ = some (.slice none 0 0) := HBR9.out.cell 4
    have n15 := HBR9.out.frozen 5
    have o5 : w9.cell? ⟨T + 1 + 1, 5, none⟩ = some (.slice none 0 0) := HBR9.out.cell 5
    have n16 := HBR9.out.frozen 6
    have o6 : w9.cell? ⟨T + 1 + 1, 6, none⟩ = some (.slice none 0 0) := HBR9.out.cell 6
    go_wp2
    rw [← HWX.out]
    have g0 := HKX.out.cell 0
    have g1 := HKX.out.cell 1
    have g2 := HKX.out.cell 2
    have g3 := HKX.out.cell 3
    have g4 := HKX.out.cell 4
    have g5 := HKX.out.cell 5
    have g6 := HKX.out.cell 6
    simp only [List.getElem?_toArray, List.getElem?_cons_zero, List.getElem?_cons_succ] at g0 g1 g2 g3 g4 g5 g6
    refine bodyPost_res (v := .tuple #[.agg #[.int .i64 d1, .int .i64 d2, .int .i64 d3, .int .i64 d4, .slice pA2 m1 pc2, .slice tA2 m2 tc2, .slice bA2 m3 bc2], .int .i64 er]) (by simp [results, Try.results13, go_sem, Addr.add, g0, g1, g2, g3, g4, g5, g6]) rfl ?_
    exact ⟨⟨pA2, pc2, tx2, tA2, tc2, bA2, bc2⟩, by rw [H8.out, ← HS2.out, HSC2.out, ← HER.out], by rw [H8.out, ← HS2.out]; exact HST.out.past HUX.out (inv_av HST.out (by rw [HS2.out]; exact HI9.out) HBR9.out), fun g hg hq ha => by rw [H8.out, ← HS2.out]; exact HAV.out g (Nat.lt_of_lt_of_le hg HU1.out.size) (by rw [HQQ.out]; exact hq) ha, HU9.out.box HUX.out HT.out⟩
  have hk3 : (kd == 3) = false := beq_eq_false_iff_ne.2 kc
  by_cases ke : kd = 4
  · have H8 : Hid (r = ownD s q) := Lib.hid (by rw [HR.out]; unfold doM; rw [HQQ.out, if_neg (by exact hN.out), if_neg (by rw [HHP.out]; simp), if_neg (by exact HKJ.out), if_neg (by exact ka), if_neg (by exact kb), if_neg (by exact kc), if_pos (by exact ke)]; unfold ownD; rw [if_neg (by exact kc)])
    have ke' : (4 : Int) = kd := ke.symm
    subst ke'
    clear ke
    have HK : Hid (Calls Try.prog 38 #[.agg #[.int .i64 c1, .int .i64 c2, .int .i64 c3, .int .i64 c4, .slice pA n1 pc, .slice tA n2 tc, .slice bA n3 bc], .agg #[.int .i64 4, .int .i64 who, .int .i64 room, .int .i64 rights, .int .i64 track, .slice qA ql qc, .int .i64 layer, .int .i64 tid]] w1 fun e w' => ∃ h', e = .returned (.tuple #[.agg (scells (ownD s q).1 h').toArray, .int .i64 (ownD s q).2]) ∧ StIn w' (ownD s q).1 h' ∧ (∀ g, g < w1.heap.size → QAv g q ⟨qA, qc⟩ → Av g s ⟨pA, pc, tx, tA, tc, bA, bc⟩ → Av g (ownD s q).1 h') ∧ Upd [] w1 w') := Lib.hid (by
      have h := rown_any (q := q) (qh := ⟨qA, qc⟩) (HS.out.upd HU1.out) HI.out (by rw [HQQ.out]; exact HQ.out.upd HU1.out)
      rw [HSC.out, ← HC.out] at h
      rw [show qcells q ⟨qA, qc⟩ = [.int .i64 4, .int .i64 who, .int .i64 room, .int .i64 rights, .int .i64 track, .slice qA ql qc, .int .i64 layer, .int .i64 tid] by rw [HQQ.out, HQL.out]; rfl] at h
      exact h)
    have m0 : w1.cell? ⟨T, 0, none⟩ = some (.int .i64 c1) := HBT1.out.cell 0
    have m1 : w1.cell? ⟨T, 1, none⟩ = some (.int .i64 c2) := HBT1.out.cell 1
    have m2 : w1.cell? ⟨T, 2, none⟩ = some (.int .i64 c3) := HBT1.out.cell 2
    have m3 : w1.cell? ⟨T, 3, none⟩ = some (.int .i64 c4) := HBT1.out.cell 3
    have m4 : w1.cell? ⟨T, 4, none⟩ = some (.slice pA n1 pc) := HBT1.out.cell 4
    have m5 : w1.cell? ⟨T, 5, none⟩ = some (.slice tA n2 tc) := HBT1.out.cell 5
    have m6 : w1.cell? ⟨T, 6, none⟩ = some (.slice bA n3 bc) := HBT1.out.cell 6
    have q0 : w1.cell? ⟨T + 1, 0, none⟩ = some (.int .i64 4) := HBQ1.out.cell 0
    have q1 : w1.cell? ⟨T + 1, 1, none⟩ = some (.int .i64 who) := HBQ1.out.cell 1
    have q2 : w1.cell? ⟨T + 1, 2, none⟩ = some (.int .i64 room) := HBQ1.out.cell 2
    have q3 : w1.cell? ⟨T + 1, 3, none⟩ = some (.int .i64 rights) := HBQ1.out.cell 3
    have q4 : w1.cell? ⟨T + 1, 4, none⟩ = some (.int .i64 track) := HBQ1.out.cell 4
    have q5 : w1.cell? ⟨T + 1, 5, none⟩ = some (.slice qA ql qc) := HBQ1.out.cell 5
    have q6 : w1.cell? ⟨T + 1, 6, none⟩ = some (.int .i64 layer) := HBQ1.out.cell 6
    have q7 : w1.cell? ⟨T + 1, 7, none⟩ = some (.int .i64 tid) := HBQ1.out.cell 7
    obtain ⟨er, her⟩ : ∃ e, e = (ownD s q).2 := ⟨_, rfl⟩
    rw [← her] at HK
    have HER := Lib.hid her
    clear her
    go_wp2_with fail
    refine HK.out.mono ?_
    rintro _ w9 ⟨h', rfl, hst, hav, hu9⟩
    clear m0 m1 m2 m3 m4 m5 m6 q0 q1 q2 q3 q4 q5 q6 q7
    have HBT9 := Lib.hid (HBT1.out.upd hu9 (by simp))
    have HBR9 := Lib.hid (HBR1.out.upd hu9 (by simp))
    have HBQ9 := Lib.hid (HBQ1.out.upd hu9 (by simp))
    have HU9 := Lib.hid (HU1.out.next hu9)
    clear hu9 HK
    have HI9 : Hid (Inv (ownD s q).1) := Lib.hid (by have h := inv_do HI.out q; rw [← HR.out, H8.out] at h; exact h)
    obtain ⟨pA2, pc2, tx2, tA2, tc2, bA2, bc2⟩ := h'
    obtain ⟨s2, hs2⟩ : ∃ x, x = (ownD s q).1 := ⟨_, rfl⟩
    rw [← hs2] at hst hav
    simp only [← hs2]
    obtain ⟨m1, hm1x⟩ : ∃ n, n = s2.ps.length := ⟨_, rfl⟩
    obtain ⟨m2, hm2x⟩ : ∃ n, n = s2.ts.length := ⟨_, rfl⟩
    obtain ⟨m3, hm3x⟩ : ∃ n, n = s2.bs.length := ⟨_, rfl⟩
    obtain ⟨⟨d1, d2, d3, d4⟩, hcc⟩ : ∃ c, c = s2.c := ⟨_, rfl⟩
    have hsc2 : scells s2 ⟨pA2, pc2, tx2, tA2, tc2, bA2, bc2⟩ = [.int .i64 d1, .int .i64 d2, .int .i64 d3, .int .i64 d4, .slice pA2 m1 pc2, .slice tA2 m2 tc2, .slice bA2 m3 bc2] := by unfold scells; rw [← hcc, ← hm1x, ← hm2x, ← hm3x]
    rw [hsc2]
    have HS2 := Lib.hid hs2
    have HST := Lib.hid hst
    have HAV := Lib.hid hav
    have HSC2 := Lib.hid hsc2
    clear hs2 hst hav hsc2 hm1x hm2x hm3x hcc
    obtain ⟨kx, ux⟩ := blk7 HBR9.out (.int .i64 d1) (.int .i64 d2) (.int .i64 d3) (.int .i64 d4) (.slice pA2 m1 pc2) (.slice tA2 m2 tc2) (.slice bA2 m3 bc2)
    obtain ⟨wx, hwx⟩ : ∃ wx, wx = (((((((w9.setCell ⟨T + 1 + 1, 0, none⟩ (.int .i64 d1)).setCell ⟨T + 1 + 1, 1, none⟩ (.int .i64 d2)).setCell ⟨T + 1 + 1, 2, none⟩ (.int .i64 d3)).setCell ⟨T + 1 + 1, 3, none⟩ (.int .i64 d4)).setCell ⟨T + 1 + 1, 4, none⟩ (.slice pA2 m1 pc2)).setCell ⟨T + 1 + 1, 5, none⟩ (.slice tA2 m2 tc2)).setCell ⟨T + 1 + 1, 6, none⟩ (.slice bA2 m3 bc2)) := ⟨_, rfl⟩
    rw [← hwx] at kx ux
    have HKX := Lib.hid kx
    have HUX := Lib.hid ux
    have HWX := Lib.hid hwx
    clear kx ux hwx
    have n10 := HBR9.out.frozen 0
    have o0 : w9.cell? ⟨T + 1 + 1, 0, none⟩ = some (.int .i64 0) := HBR9.out.cell 0
    have n11 := HBR9.out.frozen 1
    have o1 : w9.cell? ⟨T + 1 + 1, 1, none⟩ = some (.int .i64 0) := HBR9.out.cell 1
    have n12 := HBR9.out.frozen 2
    have o2 : w9.cell? ⟨T + 1 + 1, 2, none⟩ = some (.int .i64 0) := HBR9.out.cell 2
    have n13 := HBR9.out.frozen 3
    have o3 : w9.cell? ⟨T + 1 + 1, 3, none⟩ = some (.int .i64 0) := HBR9.out.cell 3
    have n14 := HBR9.out.frozen 4
    have o4 : w9.cell? ⟨T + 1 + 1, 4, none⟩ = some (.slice none 0 0) := HBR9.out.cell 4
    have n15 := HBR9.out.frozen 5
    have o5 : w9.cell? ⟨T + 1 + 1, 5, none⟩ = some (.slice none 0 0) := HBR9.out.cell 5
    have n16 := HBR9.out.frozen 6
    have o6 : w9.cell? ⟨T + 1 + 1, 6, none⟩ = some (.slice none 0 0) := HBR9.out.cell 6
    go_wp2
    rw [← HWX.out]
    have g0 := HKX.out.cell 0
    have g1 := HKX.out.cell 1
    have g2 := HKX.out.cell 2
    have g3 := HKX.out.cell 3
    have g4 := HKX.out.cell 4
    have g5 := HKX.out.cell 5
    have g6 := HKX.out.cell 6
    simp only [List.getElem?_toArray, List.getElem?_cons_zero, List.getElem?_cons_succ] at g0 g1 g2 g3 g4 g5 g6
    refine bodyPost_res (v := .tuple #[.agg #[.int .i64 d1, .int .i64 d2, .int .i64 d3, .int .i64 d4, .slice pA2 m1 pc2, .slice tA2 m2 tc2, .slice bA2 m3 bc2], .int .i64 er]) (by simp [results, Try.results13, go_sem, Addr.add, g0, g1, g2, g3, g4, g5, g6]) rfl ?_
    exact ⟨⟨pA2, pc2, tx2, tA2, tc2, bA2, bc2⟩, by rw [H8.out, ← HS2.out, HSC2.out, ← HER.out], by rw [H8.out, ← HS2.out]; exact HST.out.past HUX.out (inv_av HST.out (by rw [HS2.out]; exact HI9.out) HBR9.out), fun g hg hq ha => by rw [H8.out, ← HS2.out]; exact HAV.out g (Nat.lt_of_lt_of_le hg HU1.out.size) (by rw [HQQ.out]; exact hq) ha, HU9.out.box HUX.out HT.out⟩
  have hk4 : (kd == 4) = false := beq_eq_false_iff_ne.2 ke
  by_cases kf : kd = 5
  · have H8 : Hid (r = subscribeM s q) := Lib.hid (by rw [HR.out]; unfold doM; rw [HQQ.out, if_neg (by exact hN.out), if_neg (by rw [HHP.out]; simp), if_neg (by exact HKJ.out), if_neg (by exact ka), if_neg (by exact kb), if_neg (by exact kc), if_neg (by exact ke), if_pos (by exact kf)])
    have kf' : (5 : Int) = kd := kf.symm
    subst kf'
    clear kf
    have HK : Hid (Calls Try.prog 39 #[.agg #[.int .i64 c1, .int .i64 c2, .int .i64 c3, .int .i64 c4, .slice pA n1 pc, .slice tA n2 tc, .slice bA n3 bc], .agg #[.int .i64 5, .int .i64 who, .int .i64 room, .int .i64 rights, .int .i64 track, .slice qA ql qc, .int .i64 layer, .int .i64 tid]] w1 fun e w' => ∃ h', e = .returned (.tuple #[.agg (scells (subscribeM s q).1 h').toArray, .int .i64 (subscribeM s q).2]) ∧ StIn w' (subscribeM s q).1 h' ∧ (∀ g, g < w1.heap.size → QAv g q ⟨qA, qc⟩ → Av g s ⟨pA, pc, tx, tA, tc, bA, bc⟩ → Av g (subscribeM s q).1 h') ∧ Upd [] w1 w') := Lib.hid (by
      have h := rsubscribe_any (q := q) (qh := ⟨qA, qc⟩) (HS.out.upd HU1.out) HI.out (by rw [HQQ.out]; exact HQ.out.upd HU1.out) (by rw [HQQ.out]; exact HHP.out)
      rw [HSC.out, ← HC.out] at h
      rw [show qcells q ⟨qA, qc⟩ = [.int .i64 5, .int .i64 who, .int .i64 room, .int .i64 rights, .int .i64 track, .slice qA ql qc, .int .i64 layer, .int .i64 tid] by rw [HQQ.out, HQL.out]; rfl] at h
      exact h)
    have m0 : w1.cell? ⟨T, 0, none⟩ = some (.int .i64 c1) := HBT1.out.cell 0
    have m1 : w1.cell? ⟨T, 1, none⟩ = some (.int .i64 c2) := HBT1.out.cell 1
    have m2 : w1.cell? ⟨T, 2, none⟩ = some (.int .i64 c3) := HBT1.out.cell 2
    have m3 : w1.cell? ⟨T, 3, none⟩ = some (.int .i64 c4) := HBT1.out.cell 3
    have m4 : w1.cell? ⟨T, 4, none⟩ = some (.slice pA n1 pc) := HBT1.out.cell 4
    have m5 : w1.cell? ⟨T, 5, none⟩ = some (.slice tA n2 tc) := HBT1.out.cell 5
    have m6 : w1.cell? ⟨T, 6, none⟩ = some (.slice bA n3 bc) := HBT1.out.cell 6
    have q0 : w1.cell? ⟨T + 1, 0, none⟩ = some (.int .i64 5) := HBQ1.out.cell 0
    have q1 : w1.cell? ⟨T + 1, 1, none⟩ = some (.int .i64 who) := HBQ1.out.cell 1
    have q2 : w1.cell? ⟨T + 1, 2, none⟩ = some (.int .i64 room) := HBQ1.out.cell 2
    have q3 : w1.cell? ⟨T + 1, 3, none⟩ = some (.int .i64 rights) := HBQ1.out.cell 3
    have q4 : w1.cell? ⟨T + 1, 4, none⟩ = some (.int .i64 track) := HBQ1.out.cell 4
    have q5 : w1.cell? ⟨T + 1, 5, none⟩ = some (.slice qA ql qc) := HBQ1.out.cell 5
    have q6 : w1.cell? ⟨T + 1, 6, none⟩ = some (.int .i64 layer) := HBQ1.out.cell 6
    have q7 : w1.cell? ⟨T + 1, 7, none⟩ = some (.int .i64 tid) := HBQ1.out.cell 7
    obtain ⟨er, her⟩ : ∃ e, e = (subscribeM s q).2 := ⟨_, rfl⟩
    rw [← her] at HK
    have HER := Lib.hid her
    clear her
    go_wp2_with fail
    refine HK.out.mono ?_
    rintro _ w9 ⟨h', rfl, hst, hav, hu9⟩
    clear m0 m1 m2 m3 m4 m5 m6 q0 q1 q2 q3 q4 q5 q6 q7
    have HBT9 := Lib.hid (HBT1.out.upd hu9 (by simp))
    have HBR9 := Lib.hid (HBR1.out.upd hu9 (by simp))
    have HBQ9 := Lib.hid (HBQ1.out.upd hu9 (by simp))
    have HU9 := Lib.hid (HU1.out.next hu9)
    clear hu9 HK
    have HI9 : Hid (Inv (subscribeM s q).1) := Lib.hid (by have h := inv_do HI.out q; rw [← HR.out, H8.out] at h; exact h)
    obtain ⟨pA2, pc2, tx2, tA2, tc2, bA2, bc2⟩ := h'
    obtain ⟨s2, hs2⟩ : ∃ x, x = (subscribeM s q).1 := ⟨_, rfl⟩
    rw [← hs2] at hst hav
    simp only [← hs2]
    obtain ⟨m1, hm1x⟩ : ∃ n, n = s2.ps.length := ⟨_, rfl⟩
    obtain ⟨m2, hm2x⟩ : ∃ n, n = s2.ts.length := ⟨_, rfl⟩
    obtain ⟨m3, hm3x⟩ : ∃ n, n = s2.bs.length := ⟨_, rfl⟩
    obtain ⟨⟨d1, d2, d3, d4⟩, hcc⟩ : ∃ c, c = s2.c := ⟨_, rfl⟩
    have hsc2 : scells s2 ⟨pA2, pc2, tx2, tA2, tc2, bA2, bc2⟩ = [.int .i64 d1, .int .i64 d2, .int .i64 d3, .int .i64 d4, .slice pA2 m1 pc2, .slice tA2 m2 tc2, .slice bA2 m3 bc2] := by unfold scells; rw [← hcc, ← hm1x, ← hm2x, ← hm3x]
    rw [hsc2]
    have HS2 := Lib.hid hs2
    have HST := Lib.hid hst
    have HAV := Lib.hid hav
    have HSC2 := Lib.hid hsc2
    clear hs2 hst hav hsc2 hm1x hm2x hm3x hcc
    obtain ⟨kx, ux⟩ := blk7 HBR9.out (.int .i64 d1) (.int .i64 d2) (.int .i64 d3) (.int .i64 d4) (.slice pA2 m1 pc2) (.slice tA2 m2 tc2) (.slice bA2 m3 bc2)
    obtain ⟨wx, hwx⟩ : ∃ wx, wx = (((((((w9.setCell ⟨T + 1 + 1, 0, none⟩ (.int .i64 d1)).setCell ⟨T + 1 + 1, 1, none⟩ (.int .i64 d2)).setCell ⟨T + 1 + 1, 2, none⟩ (.int .i64 d3)).setCell ⟨T + 1 + 1, 3, none⟩ (.int .i64 d4)).setCell ⟨T + 1 + 1, 4, none⟩ (.slice pA2 m1 pc2)).setCell ⟨T + 1 + 1, 5, none⟩ (.slice tA2 m2 tc2)).setCell ⟨T + 1 + 1, 6, none⟩ (.slice bA2 m3 bc2)) := ⟨_, rfl⟩
    rw [← hwx] at kx ux
    have HKX := Lib.hid kx
    have HUX := Lib.hid ux
    have HWX := Lib.hid hwx
    clear kx ux hwx
    have n10 := HBR9.out.frozen 0
    have o0 : w9.cell? ⟨T + 1 + 1, 0, none⟩ = some (.int .i64 0) := HBR9.out.cell 0
    have n11 := HBR9.out.frozen 1
    have o1 : w9.cell? ⟨T + 1 + 1, 1, none⟩ = some (.int .i64 0) := HBR9.out.cell 1
    have n12 := HBR9.out.frozen 2
    have o2 : w9.cell? ⟨T + 1 + 1, 2, none⟩ = some (.int .i64 0) := HBR9.out.cell 2
    have n13 := HBR9.out.frozen 3
    have o3 : w9.cell? ⟨T + 1 + 1, 3, none⟩ = some (.int .i64 0) := HBR9.out.cell 3
    have n14 := HBR9.out.frozen 4
    have o4 : w9.cell? ⟨T + 1 + 1, 4, none⟩ = some (.slice none 0 0) := HBR9.out.cell 4
    have n15 := HBR9.out.frozen 5
    have o5 : w9.cell? ⟨T + 1 + 1, 5, none⟩ = some (.slice none 0 0) := HBR9.out.cell 5
    have n16 := HBR9.out.frozen 6
    have o6 : w9.cell? ⟨T + 1 + 1, 6, none⟩ = some (.slice none 0 0) := HBR9.out.cell 6
    go_wp2
    rw [← HWX.out]
    have g0 := HKX.out.cell 0
    have g1 := HKX.out.cell 1
    have g2 := HKX.out.cell 2
    have g3 := HKX.out.cell 3
    have g4 := HKX.out.cell 4
    have g5 := HKX.out.cell 5
    have g6 := HKX.out.cell 6
    simp only [List.getElem?_toArray, List.getElem?_cons_zero, List.getElem?_cons_succ] at g0 g1 g2 g3 g4 g5 g6
    refine bodyPost_res (v := .tuple #[.agg #[.int .i64 d1, .int .i64 d2, .int .i64 d3, .int .i64 d4, .slice pA2 m1 pc2, .slice tA2 m2 tc2, .slice bA2 m3 bc2], .int .i64 er]) (by simp [results, Try.results13, go_sem, Addr.add, g0, g1, g2, g3, g4, g5, g6]) rfl ?_
    exact ⟨⟨pA2, pc2, tx2, tA2, tc2, bA2, bc2⟩, by rw [H8.out, ← HS2.out, HSC2.out, ← HER.out], by rw [H8.out, ← HS2.out]; exact HST.out.past HUX.out (inv_av HST.out (by rw [HS2.out]; exact HI9.out) HBR9.out), fun g hg hq ha => by rw [H8.out, ← HS2.out]; exact HAV.out g (Nat.lt_of_lt_of_le hg HU1.out.size) (by rw [HQQ.out]; exact hq) ha, HU9.out.box HUX.out HT.out⟩
  have hk5 : (kd == 5) = false := beq_eq_false_iff_ne.2 kf
  have H8 : Hid (r = changeD s q) := Lib.hid (by rw [HR.out]; unfold doM; rw [HQQ.out, if_neg (by exact hN.out), if_neg (by rw [HHP.out]; simp), if_neg (by exact HKJ.out), if_neg (by exact ka), if_neg (by exact kb), if_neg (by exact kc), if_neg (by exact ke), if_neg (by exact kf)]; unfold changeD; rfl)
  have HK : Hid (Calls Try.prog 40 #[.agg #[.int .i64 c1, .int .i64 c2, .int .i64 c3, .int .i64 c4, .slice pA n1 pc, .slice tA n2 tc, .slice bA n3 bc], .agg #[.int .i64 kd, .int .i64 who, .int .i64 room, .int .i64 rights, .int .i64 track, .slice qA ql qc, .int .i64 layer, .int .i64 tid]] w1 fun e w' => ∃ h', e = .returned (.tuple #[.agg (scells (changeD s q).1 h').toArray, .int .i64 (changeD s q).2]) ∧ StIn w' (changeD s q).1 h' ∧ (∀ g, g < w1.heap.size → QAv g q ⟨qA, qc⟩ → Av g s ⟨pA, pc, tx, tA, tc, bA, bc⟩ → Av g (changeD s q).1 h') ∧ Upd [] w1 w') := Lib.hid (by
    have h := rchange_any (q := q) (qh := ⟨qA, qc⟩) (HS.out.upd HU1.out) HI.out (by rw [HQQ.out]; exact HQ.out.upd HU1.out)
    rw [HSC.out, ← HC.out] at h
    rw [show qcells q ⟨qA, qc⟩ = [.int .i64 kd, .int .i64 who, .int .i64 room, .int .i64 rights, .int .i64 track, .slice qA ql qc, .int .i64 layer, .int .i64 tid] by rw [HQQ.out, HQL.out]; rfl] at h
    exact h)
  have m0 : w1.cell? ⟨T, 0, none⟩ = some (.int .i64 c1) := HBT1.out.cell 0
  have m1 : w1.cell? ⟨T, 1, none⟩ = some (.int .i64 c2) := HBT1.out.cell 1
  have m2 : w1.cell? ⟨T, 2, none⟩ = some (.int .i64 c3) := HBT1.out.cell 2
  have m3 : w1.cell? ⟨T, 3, none⟩ = some (.int .i64 c4) := HBT1.out.cell 3
  have m4 : w1.cell? ⟨T, 4, none⟩ = some (.slice pA n1 pc) := HBT1.out.cell 4
  have m5 : w1.cell? ⟨T, 5, none⟩ = some (.slice tA n2 tc) := HBT1.out.cell 5
  have m6 : w1.cell? ⟨T, 6, none⟩ = some (.slice bA n3 bc) := HBT1.out.cell 6
  have q0 : w1.cell? ⟨T + 1, 0, none⟩ = some (.int .i64 kd) := HBQ1.out.cell 0
  have q1 : w1.cell? ⟨T + 1, 1, none⟩ = some (.int .i64 who) := HBQ1.out.cell 1
  have q2 : w1.cell? ⟨T + 1, 2, none⟩ = some (.int .i64 room) := HBQ1.out.cell 2
  have q3 : w1.cell? ⟨T + 1, 3, none⟩ = some (.int .i64 rights) := HBQ1.out.cell 3
  have q4 : w1.cell? ⟨T + 1, 4, none⟩ = some (.int .i64 track) := HBQ1.out.cell 4
  have q5 : w1.cell? ⟨T + 1, 5, none⟩ = some (.slice qA ql qc) := HBQ1.out.cell 5
  have q6 : w1.cell? ⟨T + 1, 6, none⟩ = some (.int .i64 layer) := HBQ1.out.cell 6
  have q7 : w1.cell? ⟨T + 1, 7, none⟩ = some (.int .i64 tid) := HBQ1.out.cell 7
  obtain ⟨er, her⟩ : ∃ e, e = (changeD s q).2 := ⟨_, rfl⟩
  rw [← her] at HK
  have HER := Lib.hid her
  clear her
  go_wp2_with fail
  refine HK.out.mono ?_
  rintro _ w9 ⟨h', rfl, hst, hav, hu9⟩
  clear m0 m1 m2 m3 m4 m5 m6 q0 q1 q2 q3 q4 q5 q6 q7
  have HBT9 := Lib.hid (HBT1.out.upd hu9 (by simp))
  have HBR9 := Lib.hid (HBR1.out.upd hu9 (by simp))
  have HBQ9 := Lib.hid (HBQ1.out.upd hu9 (by simp))
  have HU9 := Lib.hid (HU1.out.next hu9)
  clear hu9 HK
  have HI9 : Hid (Inv (changeD s q).1) := Lib.hid (by have h := inv_do HI.out q; rw [← HR.out, H8.out] at h; exact h)
  obtain ⟨pA2, pc2, tx2, tA2, tc2, bA2, bc2⟩ := h'
  obtain ⟨s2, hs2⟩ : ∃ x, x = (changeD s q).1 := ⟨_, rfl⟩
  rw [← hs2] at hst hav
  simp only [← hs2]
  obtain ⟨m1, hm1x⟩ : ∃ n, n = s2.ps.length := ⟨_, rfl⟩
  obtain ⟨m2, hm2x⟩ : ∃ n, n = s2.ts.length := ⟨_, rfl⟩
  obtain ⟨m3, hm3x⟩ : ∃ n, n = s2.bs.length := ⟨_, rfl⟩
  obtain ⟨⟨d1, d2, d3, d4⟩, hcc⟩ : ∃ c, c = s2.c := ⟨_, rfl⟩
  have hsc2 : scells s2 ⟨pA2, pc2, tx2, tA2, tc2, bA2, bc2⟩ = [.int .i64 d1, .int .i64 d2, .int .i64 d3, .int .i64 d4, .slice pA2 m1 pc2, .slice tA2 m2 tc2, .slice bA2 m3 bc2] := by unfold scells; rw [← hcc, ← hm1x, ← hm2x, ← hm3x]
  rw [hsc2]
  have HS2 := Lib.hid hs2
  have HST := Lib.hid hst
  have HAV := Lib.hid hav
  have HSC2 := Lib.hid hsc2
  clear hs2 hst hav hsc2 hm1x hm2x hm3x hcc
  obtain ⟨kx, ux⟩ := blk7 HBR9.out (.int .i64 d1) (.int .i64 d2) (.int .i64 d3) (.int .i64 d4) (.slice pA2 m1 pc2) (.slice tA2 m2 tc2) (.slice bA2 m3 bc2)
  obtain ⟨wx, hwx⟩ : ∃ wx, wx = (((((((w9.setCell ⟨T + 1 + 1, 0, none⟩ (.int .i64 d1)).setCell ⟨T + 1 + 1, 1, none⟩ (.int .i64 d2)).setCell ⟨T + 1 + 1, 2, none⟩ (.int .i64 d3)).setCell ⟨T + 1 + 1, 3, none⟩ (.int .i64 d4)).setCell ⟨T + 1 + 1, 4, none⟩ (.slice pA2 m1 pc2)).setCell ⟨T + 1 + 1, 5, none⟩ (.slice tA2 m2 tc2)).setCell ⟨T + 1 + 1, 6, none⟩ (.slice bA2 m3 bc2)) := ⟨_, rfl⟩
  rw [← hwx] at kx ux
  have HKX := Lib.hid kx
  have HUX := Lib.hid ux
  have HWX := Lib.hid hwx
  clear kx ux hwx
  have n10 := HBR9.out.frozen 0
  have o0 : w9.cell? ⟨T + 1 + 1, 0, none⟩ = some (.int .i64 0) := HBR9.out.cell 0
  have n11 := HBR9.out.frozen 1
  have o1 : w9.cell? ⟨T + 1 + 1, 1, none⟩ = some (.int .i64 0) := HBR9.out.cell 1
  have n12 := HBR9.out.frozen 2
  have o2 : w9.cell? ⟨T + 1 + 1, 2, none⟩ = some (.int .i64 0) := HBR9.out.cell 2
  have n13 := HBR9.out.frozen 3
  have o3 : w9.cell? ⟨T + 1 + 1, 3, none⟩ = some (.int .i64 0) := HBR9.out.cell 3
  have n14 := HBR9.out.frozen 4
  have o4 : w9.cell? ⟨T + 1 + 1, 4, none⟩ = some (.slice none 0 0) := HBR9.out.cell 4
  have n15 := HBR9.out.frozen 5
  have o5 : w9.cell? ⟨T + 1 + 1, 5, none⟩ = some (.slice none 0 0) := HBR9.out.cell 5
  have n16 := HBR9.out.frozen 6
  have o6 : w9.cell? ⟨T + 1 + 1, 6, none⟩ = some (.slice none 0 0) := HBR9.out.cell 6
  go_wp2
  rw [← HWX.out]
  have g0 := HKX.out.cell 0
  have g1 := HKX.out.cell 1
  have g2 := HKX.out.cell 2
  have g3 := HKX.out.cell 3
  have g4 := HKX.out.cell 4
  have g5 := HKX.out.cell 5
  have g6 := HKX.out.cell 6
  simp only [List.getElem?_toArray, List.getElem?_cons_zero, List.getElem?_cons_succ] at g0 g1 g2 g3 g4 g5 g6
  refine bodyPost_res (v := .tuple #[.agg #[.int .i64 d1, .int .i64 d2, .int .i64 d3, .int .i64 d4, .slice pA2 m1 pc2, .slice tA2 m2 tc2, .slice bA2 m3 bc2], .int .i64 er]) (by simp [results, Try.results13, go_sem, Addr.add, g0, g1, g2, g3, g4, g5, g6]) rfl ?_
  exact ⟨⟨pA2, pc2, tx2, tA2, tc2, bA2, bc2⟩, by rw [H8.out, ← HS2.out, HSC2.out, ← HER.out], by rw [H8.out, ← HS2.out]; exact HST.out.past HUX.out (inv_av HST.out (by rw [HS2.out]; exact HI9.out) HBR9.out), fun g hg hq ha => by rw [H8.out, ← HS2.out]; exact HAV.out g (Nat.lt_of_lt_of_le hg HU1.out.size) (by rw [HQQ.out]; exact hq) ha, HU9.out.box HUX.out HT.out⟩
end Go.Proofs.Ytjcbaelefacolaa
/- A request of the program as the document has it (louverlaw18.req): its cells are the same. No condition. -/
namespace Go.Proofs.Ytjcbaelefacolaa
open Go Go.RowKit
set_option maxHeartbeats 400000
theorem blk8 {w : World} {R : Nat} {e : TypeId} {c0 c1 c2 c3 c4 c5 c6 c7 : Value} (h : Blk w R e #[c0, c1, c2, c3, c4, c5, c6, c7]) (v0 v1 v2 v3 v4 v5 v6 v7 : Value) :
    Blk ((((((((w.setCell ⟨R, 0, none⟩ v0).setCell ⟨R, 1, none⟩ v1).setCell ⟨R, 2, none⟩ v2).setCell ⟨R, 3, none⟩ v3).setCell ⟨R, 4, none⟩ v4).setCell ⟨R, 5, none⟩ v5).setCell ⟨R, 6, none⟩ v6).setCell ⟨R, 7, none⟩ v7) R e #[v0, v1, v2, v3, v4, v5, v6, v7]
    ∧ Upd [R] w ((((((((w.setCell ⟨R, 0, none⟩ v0).setCell ⟨R, 1, none⟩ v1).setCell ⟨R, 2, none⟩ v2).setCell ⟨R, 3, none⟩ v3).setCell ⟨R, 4, none⟩ v4).setCell ⟨R, 5, none⟩ v5).setCell ⟨R, 6, none⟩ v6).setCell ⟨R, 7, none⟩ v7) := by
  have u0 := Upd.refl [R] w
  obtain ⟨w1, hw1⟩ : ∃ x, x = w.setCell ⟨R, 0, none⟩ v0 := ⟨_, rfl⟩
  have h : Blk w1 R e #[v0, c1, c2, c3, c4, c5, c6, c7] := by rw [hw1]; exact h.store 0 v0
  have u0 : Upd [R] w w1 := by rw [hw1]; exact u0.setCell (p := ⟨R, 0, none⟩) (.inl (by simp)) _
  rw [← hw1]
  obtain ⟨w2, hw2⟩ : ∃ x, x = w1.setCell ⟨R, 1, none⟩ v1 := ⟨_, rfl⟩
  have h : Blk w2 R e #[v0, v1, c2, c3, c4, c5, c6, c7] := by rw [hw2]; exact h.store 1 v1
  have u0 : Upd [R] w w2 := by rw [hw2]; exact u0.setCell (p := ⟨R, 1, none⟩) (.inl (by simp)) _
  rw [← hw2]
  obtain ⟨w3, hw3⟩ : ∃ x, x = w2.setCell ⟨R, 2, none⟩ v2 := ⟨_, rfl⟩
  have h : Blk w3 R e #[v0, v1, v2, c3, c4, c5, c6, c7] := by rw [hw3]; exact h.store 2 v2
  have u0 : Upd [R] w w3 := by rw [hw3]; exact u0.setCell (p := ⟨R, 2, none⟩) (.inl (by simp)) _
  rw [← hw3]
  obtain ⟨w4, hw4⟩ : ∃ x, x = w3.setCell ⟨R, 3, none⟩ v3 := ⟨_, rfl⟩
  have h : Blk w4 R e #[v0, v1, v2, v3, c4, c5, c6, c7] := by rw [hw4]; exact h.store 3 v3
  have u0 : Upd [R] w w4 := by rw [hw4]; exact u0.setCell (p := ⟨R, 3, none⟩) (.inl (by simp)) _
  rw [← hw4]
  obtain ⟨w5, hw5⟩ : ∃ x, x = w4.setCell ⟨R, 4, none⟩ v4 := ⟨_, rfl⟩
  have h : Blk w5 R e #[v0, v1, v2, v3, v4, c5, c6, c7] := by rw [hw5]; exact h.store 4 v4
  have u0 : Upd [R] w w5 := by rw [hw5]; exact u0.setCell (p := ⟨R, 4, none⟩) (.inl (by simp)) _
  rw [← hw5]
  obtain ⟨w6, hw6⟩ : ∃ x, x = w5.setCell ⟨R, 5, none⟩ v5 := ⟨_, rfl⟩
  have h : Blk w6 R e #[v0, v1, v2, v3, v4, v5, c6, c7] := by rw [hw6]; exact h.store 5 v5
  have u0 : Upd [R] w w6 := by rw [hw6]; exact u0.setCell (p := ⟨R, 5, none⟩) (.inl (by simp)) _
  rw [← hw6]
  obtain ⟨w7, hw7⟩ : ∃ x, x = w6.setCell ⟨R, 6, none⟩ v6 := ⟨_, rfl⟩
  have h : Blk w7 R e #[v0, v1, v2, v3, v4, v5, v6, c7] := by rw [hw7]; exact h.store 6 v6
  have u0 : Upd [R] w w7 := by rw [hw7]; exact u0.setCell (p := ⟨R, 6, none⟩) (.inl (by simp)) _
  rw [← hw7]
  obtain ⟨w8, hw8⟩ : ∃ x, x = w7.setCell ⟨R, 7, none⟩ v7 := ⟨_, rfl⟩
  have h : Blk w8 R e #[v0, v1, v2, v3, v4, v5, v6, v7] := by rw [hw8]; exact h.store 7 v7
  have u0 : Upd [R] w w8 := by rw [hw8]; exact u0.setCell (p := ⟨R, 7, none⟩) (.inl (by simp)) _
  rw [← hw8]
  exact ⟨h, u0⟩
set_option maxRecDepth 100000 in
theorem req_any (w : World) (kd who room rights track layer tid : Int) (qA : Option Addr) (ql qc : Nat) :
    Calls Try.prog 14 #[.agg #[.int .i64 kd, .int .i64 who, .int .i64 room, .int .i64 rights, .int .i64 track, .slice qA ql qc, .int .i64 layer, .int .i64 tid]] w fun e w' => e = .returned (.agg #[.int .i64 kd, .int .i64 who, .int .i64 room, .int .i64 rights, .int .i64 track, .slice qA ql qc, .int .i64 layer, .int .i64 tid]) ∧ Upd [] w w' := by
  obtain ⟨T, hT⟩ : ∃ T, T = w.heap.size := ⟨_, rfl⟩
  obtain ⟨W1, hW1⟩ : ∃ W, W = w.alloc (.cells #[.int .i64 kd, .int .i64 who, .int .i64 room, .int .i64 rights, .int .i64 track, .slice qA ql qc, .int .i64 layer, .int .i64 tid] 45) := ⟨_, rfl⟩
  obtain ⟨W, hW⟩ : ∃ W, W = W1.alloc (.cells #[.int .i64 0, .int .i64 0, .int .i64 0, .int .i64 0, .int .i64 0, .slice none 0 0, .int .i64 0, .int .i64 0] 48) := ⟨_, rfl⟩
  have u1 : Upd [] w W1 := by rw [hW1]; exact (Upd.refl [] w).alloc _
  have u2 : Upd [] W1 W := by rw [hW]; exact (Upd.refl [] W1).alloc _
  have s1 : W1.heap.size = T + 1 := by rw [hW1, World.size_alloc, hT]
  have hbT : Blk W T 45 #[.int .i64 kd, .int .i64 who, .int .i64 room, .int .i64 rights, .int .i64 track, .slice qA ql qc, .int .i64 layer, .int .i64 tid] := by
    have : Blk W1 T 45 #[.int .i64 kd, .int .i64 who, .int .i64 room, .int .i64 rights, .int .i64 track, .slice qA ql qc, .int .i64 layer, .int .i64 tid] := by rw [hW1, hT]; exact Blk.new _ _ _
    exact this.upd u2 (by simp)
  have hbR : Blk W (T + 1) 48 #[.int .i64 0, .int .i64 0, .int .i64 0, .int .i64 0, .int .i64 0, .slice none 0 0, .int .i64 0, .int .i64 0] := by rw [hW, ← s1]; exact Blk.new _ _ _
  have HU := Lib.hid (u1.next u2)
  have HT := Lib.hid hT
  obtain ⟨kx, ux⟩ := blk8 hbR (.int .i64 kd) (.int .i64 who) (.int .i64 room) (.int .i64 rights) (.int .i64 track) (.slice qA ql qc) (.int .i64 layer) (.int .i64 tid)
  obtain ⟨wx, hwx⟩ : ∃ x, x = ((((((((W.setCell ⟨T + 1, 0, none⟩ (.int .i64 kd)).setCell ⟨T + 1, 1, none⟩ (.int .i64 who)).setCell ⟨T + 1, 2, none⟩ (.int .i64 room)).setCell ⟨T + 1, 3, none⟩ (.int .i64 rights)).setCell ⟨T + 1, 4, none⟩ (.int .i64 track)).setCell ⟨T + 1, 5, none⟩ (.slice qA ql qc)).setCell ⟨T + 1, 6, none⟩ (.int .i64 layer)).setCell ⟨T + 1, 7, none⟩ (.int .i64 tid)) := ⟨_, rfl⟩
  rw [← hwx] at kx ux
  have HKX := Lib.hid kx
  have HUX := Lib.hid ux
  have HWX := Lib.hid hwx
  have m0 : W.cell? ⟨T, 0, none⟩ = some (.int .i64 kd) := hbT.cell 0
  have m1 : W.cell? ⟨T, 1, none⟩ = some (.int .i64 who) := hbT.cell 1
  have m2 : W.cell? ⟨T, 2, none⟩ = some (.int .i64 room) := hbT.cell 2
  have m3 : W.cell? ⟨T, 3, none⟩ = some (.int .i64 rights) := hbT.cell 3
  have m4 : W.cell? ⟨T, 4, none⟩ = some (.int .i64 track) := hbT.cell 4
  have m5 : W.cell? ⟨T, 5, none⟩ = some (.slice qA ql qc) := hbT.cell 5
  have m6 : W.cell? ⟨T, 6, none⟩ = some (.int .i64 layer) := hbT.cell 6
  have m7 : W.cell? ⟨T, 7, none⟩ = some (.int .i64 tid) := hbT.cell 7
  have n0 := hbR.frozen 0
  have n1 := hbR.frozen 1
  have n2 := hbR.frozen 2
  have n3 := hbR.frozen 3
  have n4 := hbR.frozen 4
  have n5 := hbR.frozen 5
  have n6 := hbR.frozen 6
  have n7 := hbR.frozen 7
  have o0 : W.cell? ⟨T + 1, 0, none⟩ = some (.int .i64 0) := hbR.cell 0
  have o1 : W.cell? ⟨T + 1, 1, none⟩ = some (.int .i64 0) := hbR.cell 1
  have o2 : W.cell? ⟨T + 1, 2, none⟩ = some (.int .i64 0) := hbR.cell 2
  have o3 : W.cell? ⟨T + 1, 3, none⟩ = some (.int .i64 0) := hbR.cell 3
  have o4 : W.cell? ⟨T + 1, 4, none⟩ = some (.int .i64 0) := hbR.cell 4
  have o5 : W.cell? ⟨T + 1, 5, none⟩ = some (.slice none 0 0) := hbR.cell 5
  have o6 : W.cell? ⟨T + 1, 6, none⟩ = some (.int .i64 0) := hbR.cell 6
  have o7 : W.cell? ⟨T + 1, 7, none⟩ = some (.int .i64 0) := hbR.cell 7
  clear kx ux hwx hbT hbR u1 u2 s1
  go_enter Try.func14, Try.ntmps14
  go_upto_region 1 with fail
  rw [← hW1, ← hW, ← hT]
  clear hW1 hW hT
  go_wp2
  rw [← HWX.out]
  have g0 := HKX.out.cell 0
  have g1 := HKX.out.cell 1
  have g2 := HKX.out.cell 2
  have g3 := HKX.out.cell 3
  have g4 := HKX.out.cell 4
  have g5 := HKX.out.cell 5
  have g6 := HKX.out.cell 6
  have g7 := HKX.out.cell 7
  simp only [List.getElem?_toArray, List.getElem?_cons_zero, List.getElem?_cons_succ] at g0 g1 g2 g3 g4 g5 g6 g7
  refine bodyPost_res (v := .agg #[.int .i64 kd, .int .i64 who, .int .i64 room, .int .i64 rights, .int .i64 track, .slice qA ql qc, .int .i64 layer, .int .i64 tid]) (by simp [results, Try.results14, go_sem, Addr.add, g0, g1, g2, g3, g4, g5, g6, g7]) rfl ?_
  refine ⟨rfl, Upd.of_below ((HU.out.below (Nat.le_refl _) (by simp)).trans (HUX.out.below HU.out.size (fun s hs => by rw [List.mem_singleton] at hs; subst hs; rw [HT.out]; exact Nat.le_succ _)))⟩
end Go.Proofs.Ytjcbaelefacolaa
/- The layer delta, the document's side: Gone. Conditions: two states in memory; the second one's subs rise; no more than 1000. -/
namespace Go.Proofs.Ytjcbaelefacolaa
open Go Go.RowKit
set_option maxHeartbeats 400000

theorem gone_take1 {α : Type} {p : α → Bool} {l : List α} {k : Nat} {x : α} (h : l[k]? = some x) : (l.take (k + 1)).filter p = (l.take k).filter p ++ if p x = true then [x] else [] := by
  rw [List.take_add_one, h, List.filter_append]
  cases hp : p x <;> simp [hp]
set_option maxRecDepth 100000 in
set_option maxHeartbeats 4000000 in
theorem rgone_any {w : World} {a b : St} {ha hb : SHd} (hA : StIn w a ha) (hB : StIn w b hb) (hla : a.bs.length ≤ 1000) (hlb : b.bs.length ≤ 1000) (hu : UpB b.bs) :
    Calls Try.prog 18 #[.agg (scells a ha).toArray, .agg (scells b hb).toArray] w fun e w' => ∃ A c, e = .returned (.slice A (goneM a b).length c) ∧ RwIn w' 0 5 A (goneM a b).length c ((goneM a b).flatMap encB) ∧ Upd [] w w' := by
  obtain ⟨T, hT⟩ : ∃ T, T = w.heap.size := ⟨_, rfl⟩
  obtain ⟨W1, hW1⟩ : ∃ W, W = w.alloc (.cells (scells a ha).toArray 37) := ⟨_, rfl⟩
  obtain ⟨W, hW⟩ : ∃ W, W = W1.alloc (.cells (scells b hb).toArray 37) := ⟨_, rfl⟩
  have u1 : Upd [] w W1 := by rw [hW1]; exact (Upd.refl [] w).alloc _
  have u2 : Upd [] W1 W := by rw [hW]; exact (Upd.refl [] W1).alloc _
  have s1 : W1.heap.size = T + 1 := by rw [hW1, World.size_alloc, hT]
  have hbA : Blk W T 37 (scells a ha).toArray := by
    have : Blk W1 T 37 (scells a ha).toArray := by rw [hW1, hT]; exact Blk.new _ _ _
    exact this.upd u2 (by simp)
  have hbB : Blk W (T + 1) 37 (scells b hb).toArray := by rw [hW, ← s1]; exact Blk.new _ _ _
  have HRB := Lib.hid (rowB (hA.upd (u1.next u2)).b rfl)
  have HSB := Lib.hid (hB.upd (u1.next u2))
  have HUB := Lib.hid hu
  have HLB := Lib.hid hlb
  have HU := Lib.hid (u1.next u2)
  obtain ⟨n1, hn1⟩ : ∃ n, n = a.ps.length := ⟨_, rfl⟩
  obtain ⟨n2, hn2⟩ : ∃ n, n = a.ts.length := ⟨_, rfl⟩
  obtain ⟨n3, hn3⟩ : ∃ n, n = a.bs.length := ⟨_, rfl⟩
  obtain ⟨m1, hm1⟩ : ∃ n, n = b.ps.length := ⟨_, rfl⟩
  obtain ⟨m2, hm2⟩ : ∃ n, n = b.ts.length := ⟨_, rfl⟩
  obtain ⟨m3, hm3⟩ : ∃ n, n = b.bs.length := ⟨_, rfl⟩
  have hsa : scells a ha = [.int .i64 a.c.people, .int .i64 a.c.tracks, .int .i64 a.c.subs, .int .i64 a.c.slots, .slice ha.pA n1 ha.pc, .slice ha.tA n2 ha.tc, .slice ha.bA n3 ha.bc] := by unfold scells; rw [← hn1, ← hn2, ← hn3]
  have hsb : scells b hb = [.int .i64 b.c.people, .int .i64 b.c.tracks, .int .i64 b.c.subs, .int .i64 b.c.slots, .slice hb.pA m1 hb.pc, .slice hb.tA m2 hb.tc, .slice hb.bA m3 hb.bc] := by unfold scells; rw [← hm1, ← hm2, ← hm3]
  have HRS := Lib.hid (fun (W' : World) (u : Upd [] W W') (who track : Int) => rsub_any (HSB.out.upd u) HUB.out HLB.out who track)
  rw [hsb] at HRS
  rw [hsa] at hbA hW1 ⊢
  rw [hsb] at hbB hW ⊢
  have HN3 := Lib.hid hn3
  rw [← hn3] at hla
  obtain ⟨pA, pc, tx, tA, tc, bA, bc⟩ := ha
  obtain ⟨pB, pd, ty, tB, td, bB, bd⟩ := hb
  obtain ⟨⟨a1, a2, a3, a4⟩, hca⟩ : ∃ c, c = a.c := ⟨_, rfl⟩
  obtain ⟨⟨b1, b2, b3, b4⟩, hcb⟩ : ∃ c, c = b.c := ⟨_, rfl⟩
  dsimp only at hbA hbB hW1 hW HRB HRS ⊢
  rw [← hca] at hbA hW1 ⊢
  rw [← hcb] at hbB hW HRS ⊢
  dsimp only at hbA hbB hW1 hW HRS ⊢
  have HBA := Lib.hid hbA
  have HBB := Lib.hid hbB
  have HT := Lib.hid hT
  clear hsa hsb hn1 hn2 hn3 hm1 hm2 hm3 hca hcb hbA hbB u1 u2 s1 hA hB hu hlb
  go_enter Try.func18, Try.ntmps18
  go_upto_region 1 with fail
  rw [← hW1, ← hW, ← hT]
  clear hW1 hW hT
  go_wp2
  go_loopg [5, 6] n3 (fun gk x10 x12 wr => ∃ i : Nat, i ≤ n3 ∧ n3 ≤ i + gk ∧ x12 = .int .i64 i ∧ ∃ (A2 : Option Addr) (d2 : Nat) (l2 : List Sb) (ml : Nat), x10 = .slice A2 ml d2 ∧ ml = l2.length ∧ ml ≤ i ∧ l2 = (a.bs.take i).filter (fun x => !has (cB x.who x.track) b.bs) ∧ wr.ownsRow W.heap.size 56 5 (.slice A2 ml d2) ml (l2.flatMap encB) ∧ Upd [] W wr)
  case atStart => exact ⟨0, Nat.zero_le _, by omega, rfl, none, 0, [], 0, rfl, rfl, Nat.le_refl _, by simp, World.ownsRow_nil _ _ _ _, Upd.refl _ _⟩
  case round =>
    obtain ⟨i, hi, hgi, rfl, A2, d2, l2, ml, rfl, hml, hmli, hlf, hown, hur⟩ := hrel
    have hbt := HBA.out.upd hur (by simp)
    have hbb := HBB.out.upd hur (by simp)
    have zT : wr.cell? ⟨T, 6, none⟩ = some (.slice bA n3 bc) := hbt.cell 6
    by_cases hlt : i < n3
    · obtain ⟨x, hxi⟩ : ∃ x, a.bs[i]? = some x := ⟨_, List.getElem?_eq_getElem (by rw [← HN3.out]; exact hlt)⟩
      obtain ⟨q1, o1, e, e0, e1, e2, e3, e4⟩ := HRB.out i x hxi
      cases e
      have hl1' := cellD_lt e0
      replace e0 := (hur.cell (p := ⟨q1, o1 + i * 5, none⟩) hl1' (by simp)).trans e0
      replace e1 := (hur.cell (p := ⟨q1, o1 + i * 5 + 1, none⟩) hl1' (by simp)).trans e1
      replace e2 := (hur.cell (p := ⟨q1, o1 + i * 5 + 2, none⟩) hl1' (by simp)).trans e2
      replace e3 := (hur.cell (p := ⟨q1, o1 + i * 5 + 3, none⟩) hl1' (by simp)).trans e3
      replace e4 := (hur.cell (p := ⟨q1, o1 + i * 5 + 4, none⟩) hl1' (by simp)).trans e4
      have hft := gone_take1 (p := fun x : Sb => !has (cB x.who x.track) b.bs) hxi
      rw [← hlf] at hft
      obtain ⟨y0, y1, y2, y3, y4⟩ := x
      dsimp only at e0 e1 e2 e3 e4 hft
      have hlti : (i : Int) < (n3 : Int) := by omega
      have hwi : IntKind.i64.wrap ((i : Int) + 1) = (i : Int) + 1 := IntWalk.i64_in _ (by omega)
      have HGI := Lib.hid hgi
      have HFT := Lib.hid hft
      have HML := Lib.hid hml
      have HOWN := Lib.hid hown
      have HUR := Lib.hid hur
      have HE := Lib.hid (And.intro e0 e1)
      have hb1w := cellD_lt e0
      have hTw := cellD_lt zT
      have hTw2 := hbb.lt
      clear hxi hgi hft hml hlf hown hur hl1'
      go_upto_region 5 with fail
      go_cut [28] (fun v wd => v = .bool (!has (cB y0 y1) b.bs) ∧ Upd [] wr wd)
      case first =>
        obtain ⟨ix, hix⟩ : ∃ x, x = ridxM (cB y0 y1) b.bs := ⟨_, rfl⟩
        have H1 := Lib.hid (fun (z : Cls (Upd [] wr)) => quiet_cls (C := Upd [] wr) (x := z) ((HRS.out z.w (HUR.out.next z.h) y0 y1).mono fun e w' h => ⟨h.1, z.h.next h.2⟩))
        rw [← hix] at H1
        have hv : decide (ix < (0 : Int)) = !has (cB y0 y1) b.bs := by
          rw [hix]
          unfold ridxM
          cases has (cB y0 y1) b.bs <;> simp
        have HV := Lib.hid hv
        have q20 : ∀ z : Cls (Upd [] wr), z.w.cell? ⟨T + 1, 0, none⟩ = some (.int .i64 b1) := fun z => (z.h.cell (p := ⟨T + 1, 0, none⟩) hTw2 (by simp)).trans (hbb.cell 0)
        have q21 : ∀ z : Cls (Upd [] wr), z.w.cell? ⟨T + 1, 1, none⟩ = some (.int .i64 b2) := fun z => (z.h.cell (p := ⟨T + 1, 1, none⟩) hTw2 (by simp)).trans (hbb.cell 1)
        have q22 : ∀ z : Cls (Upd [] wr), z.w.cell? ⟨T + 1, 2, none⟩ = some (.int .i64 b3) := fun z => (z.h.cell (p := ⟨T + 1, 2, none⟩) hTw2 (by simp)).trans (hbb.cell 2)
        have q23 : ∀ z : Cls (Upd [] wr), z.w.cell? ⟨T + 1, 3, none⟩ = some (.int .i64 b4) := fun z => (z.h.cell (p := ⟨T + 1, 3, none⟩) hTw2 (by simp)).trans (hbb.cell 3)
        have q24 : ∀ z : Cls (Upd [] wr), z.w.cell? ⟨T + 1, 4, none⟩ = some (.slice pB m1 pd) := fun z => (z.h.cell (p := ⟨T + 1, 4, none⟩) hTw2 (by simp)).trans (hbb.cell 4)
        have q25 : ∀ z : Cls (Upd [] wr), z.w.cell? ⟨T + 1, 5, none⟩ = some (.slice tB m2 td) := fun z => (z.h.cell (p := ⟨T + 1, 5, none⟩) hTw2 (by simp)).trans (hbb.cell 5)
        have q26 : ∀ z : Cls (Upd [] wr), z.w.cell? ⟨T + 1, 6, none⟩ = some (.slice bB m3 bd) := fun z => (z.h.cell (p := ⟨T + 1, 6, none⟩) hTw2 (by simp)).trans (hbb.cell 6)
        have zA : ∀ z : Cls (Upd [] wr), z.w.cell? ⟨T, 6, none⟩ = some (.slice (some ⟨q1, o1, none⟩) n3 bc) := fun z => (z.h.cell (p := ⟨T, 6, none⟩) hTw (by simp)).trans (hbt.cell 6)
        have r0 : ∀ z : Cls (Upd [] wr), z.w.cell? ⟨q1, o1 + i * 5, none⟩ = some (.int .i64 y0) := fun z => (z.h.cell (p := ⟨q1, o1 + i * 5, none⟩) hb1w (by simp)).trans HE.out.1
        have r1 : ∀ z : Cls (Upd [] wr), z.w.cell? ⟨q1, o1 + i * 5 + 1, none⟩ = some (.int .i64 y1) := fun z => (z.h.cell (p := ⟨q1, o1 + i * 5 + 1, none⟩) hb1w (by simp)).trans HE.out.2
        clear hix hv e0 e1 e2 e3 e4 zT hbt hbb
        refine wp_class_tail (Upd [] wr) ((Upd.refl _ _).drewN 1) 14 (by kernel_rfl) (by kernel_rfl) (fun _ _ _ _ h => h) ?_
        intro hne
        simp only [List.take_succ_cons, List.take_zero, List.drop_succ_cons, List.drop_zero]
        repeat (go_big_quiet_step ((go_at_call 45; with_reducible exact H1.out _)))
        refine wpQuiet_nil ?_
        rintro _ ⟨xe, rfl⟩
        go_wp2
        go_meet
        case rel => exact ⟨by rw [← HV.out], xe.h⟩
      obtain ⟨rfl, hud⟩ := hcut
      have HUC := Lib.hid (HUR.out.next hud)
      replace e0 := (hud.cell (p := ⟨q1, o1 + i * 5, none⟩) hb1w (by simp)).trans e0
      replace e1 := (hud.cell (p := ⟨q1, o1 + i * 5 + 1, none⟩) hb1w (by simp)).trans e1
      replace e2 := (hud.cell (p := ⟨q1, o1 + i * 5 + 2, none⟩) hb1w (by simp)).trans e2
      replace e3 := (hud.cell (p := ⟨q1, o1 + i * 5 + 3, none⟩) hb1w (by simp)).trans e3
      replace e4 := (hud.cell (p := ⟨q1, o1 + i * 5 + 4, none⟩) hb1w (by simp)).trans e4
      replace zT := (hud.cell (p := ⟨T, 6, none⟩) hTw (by simp)).trans zT
      have HOC := Lib.hid (ownsRow_upd HOWN.out hud (by simp))
      obtain ⟨bo, hbo⟩ : ∃ b', b' = (!has (cB y0 y1) b.bs) := ⟨_, rfl⟩
      have HFT2 : Hid ((a.bs.take (i + 1)).filter (fun x => !has (cB x.who x.track) b.bs) = l2 ++ if bo = true then [(⟨y0, y1, y2, y3, y4⟩ : Sb)] else []) := Lib.hid (by rw [hbo]; exact HFT.out)
      rw [← hbo]
      clear hud hbt hbb hbo hb1w hTw hTw2 HE
      cases bo
      case false =>
        go_wp2
        go_roundg (gk - 1)
        case measure => have := HGI.out; omega
        case rel => exact ⟨i + 1, by omega, by have := HGI.out; omega, by go_num, A2, d2, l2, ml, rfl, HML.out, by omega, by rw [HFT2.out]; simp, HOC.out, HUC.out⟩
      case true =>
        obtain ⟨j0, hj0, hy0, hy1, hy2⟩ := info_parts infoRB
        obtain ⟨V, hV⟩ : ∃ V, V = wc.heap.size := ⟨_, rfl⟩
        obtain ⟨W3, hW3⟩ : ∃ W3, W3 = wc.alloc (.cells #[.int .i64 y0, .int .i64 y1, .int .i64 y2, .int .i64 y3, .bool y4] 56) := ⟨_, rfl⟩
        have u3 : Upd [] wc W3 := by rw [hW3]; exact (Upd.refl [] wc).alloc _
        have hVB : Blk W3 V 56 (encB (⟨y0, y1, y2, y3, y4⟩ : Sb)).toArray := by rw [hW3, hV]; exact Blk.new _ _ _
        have HV := Lib.hid hV
        have HW3 := Lib.hid hW3
        have HU3 := Lib.hid u3
        have HVB := Lib.hid hVB
        clear hV hW3 u3 hVB
        go_wp2_with (at_builtin; rw [← HW3.out, ← HV.out]; refine wpList_append_src W3 rfl (.tmp 29) (.tmp 35) 35 rfl W.heap.size 56 j0 _ 5 40 Try.underlying35 hj0 hy0 hy1 hy2 rfl (by decide) (.slice A2 ml d2) ml (l2.flatMap encB) rfl (ownsRow_upd HOC.out HU3.out (by simp)) (some ⟨V, 0, none⟩) 1 1 (encB (⟨y0, y1, y2, y3, y4⟩ : Sb)) rfl (fun e => by cases e) rfl (row_lit HVB.out) (encB_one _) (by unfold maxLen; omega) (by omega) (Nat.le_trans HUC.out.size HU3.out.size) ?_)
        intro v2 w6 hown6 hg6 _
        obtain ⟨A', c', hv, _⟩ := own_form hown6
        subst hv
        have HU6 : Hid (Upd [] W w6) := Lib.hid (Upd.of_below (((HUC.out.next HU3.out).below (Nat.le_refl _) (by simp)).trans ((Upd.of_grown hg6).below (Nat.le_trans HUC.out.size HU3.out.size) (fun s hs => by
          rw [own_list] at hs
          exact (own_in (ownsRow_upd HOC.out HU3.out (by simp)) s hs).2))))
        have HOWN6 := Lib.hid hown6
        clear hown6 hg6
        go_wp2
        go_roundg (gk - 1)
        case measure => have := HGI.out; omega
        case rel =>
          refine ⟨i + 1, by omega, by have := HGI.out; omega, by go_num, A', c', l2 ++ [(⟨y0, y1, y2, y3, y4⟩ : Sb)], ml + 1, rfl, by rw [List.length_append, ← HML.out]; rfl, by omega, by rw [HFT2.out]; simp, ?_, HU6.out⟩
          rw [List.flatMap_append]
          simpa using HOWN6.out
    · obtain rfl : n3 = i := by omega
      rw [HN3.out, List.take_length] at hlf
      have hgm : goneM a b = l2 := by rw [hlf]; rfl
      have HR : Hid (RwIn wr 0 5 A2 (goneM a b).length d2 ((goneM a b).flatMap encB) ∧ (goneM a b).length = ml) := Lib.hid (by rw [hgm, ← hml]; exact ⟨(RwIn.of_own hown).more (Nat.zero_le _), rfl⟩)
      have HF := Lib.hid (HU.out.next hur)
      clear hlf hgm hml hown hur hgi hi hlt hbt hbb
      go_wp2
      go_ret
      exact ⟨A2, d2, by rw [HR.out.2]; rfl, HR.out.1, HF.out⟩
end Go.Proofs.Ytjcbaelefacolaa
