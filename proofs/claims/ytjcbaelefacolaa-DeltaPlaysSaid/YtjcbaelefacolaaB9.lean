/- Parts of the proof, one behind the other: DRPublish, DRWithout. No condition of their own. -/
import Derived.Test.YtjcbaelefacolaaB8
import Derived.Test.YtjcbaelefacolaaB7
import Derived.Test.YtjcbaelefacolaaB6
/- The layer delta, the document's side: Publish. Conditions: the state in memory; what always holds of a state; who asks is there. -/
namespace Go.Proofs.Ytjcbaelefacolaa
open Go Go.RowKit
set_option maxHeartbeats 400000
theorem ridx_neg {α : Type} {c : α → Int} {l : List α} : (0 : Int) ≤ ridxM c l ↔ has c l = true := by
  unfold ridxM
  cases has c l <;> simp
theorem rowT0 {w : World} {s : St} {h : SHd} (hs : StIn w s h) : ∀ k t, s.ts[k]? = some t → ∃ b off, h.tA = some ⟨b, off, none⟩ ∧ w.cell? ⟨b, off + k * 4, none⟩ = some (.int .i64 t.id) := fun k t hk => by
  obtain ⟨b, off, _, _, e, e0, _⟩ := rowT hs k t hk
  exact ⟨b, off, e, e0⟩
theorem map_ins {α β : Type} (f : α → β) (l : List α) (i : Nat) (x : α) : (ins l i x).map f = ins (l.map f) i (f x) := by
  unfold ins
  rw [List.map_append, List.map_cons, List.map_take, List.map_drop]

set_option maxRecDepth 100000 in
set_option maxHeartbeats 4000000 in
theorem rpublish_any {w : World} {s : St} {h : SHd} {q : Rq} {qh : SH} (hs : StIn w s h) (hi : Inv s) (hq : RwIn w 0 1 qh.A q.ss.length qh.c (q.ss.map (Value.int .u32))) (hh : has (cP q.who) s.ps = true) :
    Calls Try.prog 37 #[.agg (scells s h).toArray, .agg (qcells q qh).toArray] w fun e w' => ∃ h', e = .returned (.tuple #[.agg (scells (publishM s q).1 h').toArray, .int .i64 (publishM s q).2]) ∧ StIn w' (publishM s q).1 h' ∧ (∀ g, g < w.heap.size → QAv g q qh → Av g s h → Av g (publishM s q).1 h') ∧ Upd [] w w' := by
  obtain ⟨T, hT⟩ : ∃ T, T = w.heap.size := ⟨_, rfl⟩
  obtain ⟨n1, hn1⟩ : ∃ n, n = s.ps.length := ⟨_, rfl⟩
  obtain ⟨n2, hn2⟩ : ∃ n, n = s.ts.length := ⟨_, rfl⟩
  obtain ⟨n3, hn3⟩ : ∃ n, n = s.bs.length := ⟨_, rfl⟩
  obtain ⟨r, hr⟩ : ∃ r, r = publishM s q := ⟨_, rfl⟩
  have HR := Lib.hid hr
  rw [← hr]
  clear hr
  have HH := Lib.hid hh
  clear hh
  have HS := Lib.hid hs
  have HI := Lib.hid hi
  have HQ := Lib.hid hq
  have HN := Lib.hid (And.intro hn1 (And.intro hn2 hn3))
  have hsc : scells s h = [.int .i64 s.c.people, .int .i64 s.c.tracks, .int .i64 s.c.subs, .int .i64 s.c.slots, .slice h.pA n1 h.pc, .slice h.tA n2 h.tc, .slice h.bA n3 h.bc] := by unfold scells; rw [← hn1, ← hn2, ← hn3]
  have hm1 : n1 ≤ 16 := by have := hi.np; have := hi.cp; omega
  have hm2 : n2 ≤ 16 := by have := hi.nt; have := hi.ct; omega
  have hm3 : n3 ≤ 64 := by have := hi.nb; have := hi.cl; omega
  obtain ⟨kd, who, room, rights, track, ss, layer, tid⟩ := q
  obtain ⟨qA, qc⟩ := qh
  dsimp only at HH HQ
  unfold qcells
  dsimp only
  obtain ⟨ql, hql⟩ : ∃ ql, ql = ss.length := ⟨_, rfl⟩
  have HQL := Lib.hid hql
  rw [← hql]
  rw [hsc]
  have HSC := Lib.hid hsc
  obtain ⟨pA, pc, tx, tA, tc, bA, bc⟩ := h
  obtain ⟨⟨c1, c2, c3, c4⟩, hc⟩ : ∃ c, c = s.c := ⟨_, rfl⟩
  have HC := Lib.hid hc
  rw [← hc]
  dsimp only
  clear hsc hn1 hn2 hn3 hc hs hi hq hql
  obtain ⟨CS, hCS⟩ : ∃ l : List Value, l = [.int .i64 c1, .int .i64 c2, .int .i64 c3, .int .i64 c4, .slice pA n1 pc, .slice tA n2 tc, .slice bA n3 bc] := ⟨_, rfl⟩
  obtain ⟨W1, hW1⟩ : ∃ W, W = w.alloc (.cells #[.int .i64 c1, .int .i64 c2, .int .i64 c3, .int .i64 c4, .slice pA n1 pc, .slice tA n2 tc, .slice bA n3 bc] 37) := ⟨_, rfl⟩
  obtain ⟨W2, hW2⟩ : ∃ W, W = W1.alloc (.cells #[.int .i64 kd, .int .i64 who, .int .i64 room, .int .i64 rights, .int .i64 track, .slice qA ql qc, .int .i64 layer, .int .i64 tid] 48) := ⟨_, rfl⟩
  obtain ⟨W, hW⟩ : ∃ W, W = W2.alloc (.cells #[.int .i64 0, .int .i64 0, .int .i64 0, .int .i64 0, .slice none 0 0, .slice none 0 0, .slice none 0 0] 37) := ⟨_, rfl⟩
  have u1 : Upd [] w W1 := by rw [hW1]; exact (Upd.refl [] w).alloc _
  have u2 : Upd [] W1 W2 := by rw [hW2]; exact (Upd.refl [] W1).alloc _
  have u3 : Upd [] W2 W := by rw [hW]; exact (Upd.refl [] W2).alloc _
  have s1 : W1.heap.size = T + 1 := by rw [hW1, World.size_alloc, hT]
  have s2 : W2.heap.size = T + 1 + 1 := by rw [hW2, World.size_alloc, s1]
  have hbT : Blk W T 37 #[.int .i64 c1, .int .i64 c2, .int .i64 c3, .int .i64 c4, .slice pA n1 pc, .slice tA n2 tc, .slice bA n3 bc] := by
    have : Blk W1 T 37 #[.int .i64 c1, .int .i64 c2, .int .i64 c3, .int .i64 c4, .slice pA n1 pc, .slice tA n2 tc, .slice bA n3 bc] := by rw [hW1, hT]; exact Blk.new _ _ _
    exact (this.upd u2 (by simp)).upd u3 (by simp)
  have hbQ : Blk W (T + 1) 48 #[.int .i64 kd, .int .i64 who, .int .i64 room, .int .i64 rights, .int .i64 track, .slice qA ql qc, .int .i64 layer, .int .i64 tid] := by
    have : Blk W2 (T + 1) 48 #[.int .i64 kd, .int .i64 who, .int .i64 room, .int .i64 rights, .int .i64 track, .slice qA ql qc, .int .i64 layer, .int .i64 tid] := by rw [hW2, ← s1]; exact Blk.new _ _ _
    exact this.upd u3 (by simp)
  have hbR : Blk W (T + 1 + 1) 37 #[.int .i64 0, .int .i64 0, .int .i64 0, .int .i64 0, .slice none 0 0, .slice none 0 0, .slice none 0 0] := by rw [hW, ← s2]; exact Blk.new _ _ _
  have hT' := hT
  have HU := Lib.hid ((u1.next u2).next u3)
  have HBT := Lib.hid hbT
  have HBQ := Lib.hid hbQ
  have HBR := Lib.hid hbR
  have HT := Lib.hid hT
  clear hbT hbQ hbR u1 u2 u3 s1 s2 hT' hCS
  go_enter Try.func37, Try.ntmps37
  go_upto_region 1 with fail
  rw [← hW1, ← hW2, ← hW, ← hT]
  clear hW1 hW2 hW hT
  have HBT0 := HBT
  have HBR0 := HBR
  have HBQ0 := HBQ
  have HU0 := HU
  have HNX : Hid (n2 = tx.length) := Lib.hid (by rw [HN.out.2.1, ← HS.out.tx, List.length_map])
  obtain ⟨j, hj⟩ : ∃ j, j = low (cP who) s.ps := ⟨_, rfl⟩
  obtain ⟨p, hp⟩ : ∃ x, x = perAt s who := ⟨_, rfl⟩
  have hpaj := per_at HI.out HH.out
  rw [← hj, ← hp] at hpaj
  have hrij : ridxM (cP who) s.ps = (j : Int) := by unfold ridxM; rw [if_pos HH.out, hj]
  have hjlj : j < n1 := by rw [HN.out.1]; exact (List.getElem?_eq_some_iff.1 hpaj.1).1
  obtain ⟨bP, oP, e, e0, e1, e2⟩ := rowP HS.out.p rfl j p hpaj.1
  dsimp only at e
  cases e
  have hb1l := cellD_lt e0
  have hbr := (HI.out.per _ hpaj.2.2).2.2.2.2
  obtain ⟨y0, y1, y2⟩ := p
  dsimp only at e0 e1 e2 hbr
  obtain ⟨bo, hbo⟩ : ∃ bo, bo = decide (y2 % 2 = 0) := ⟨_, rfl⟩
  have HBO := Lib.hid hbo
  have HP := Lib.hid hp
  have H1 := Lib.hid (fun (z : Cls (Upd [] W)) => quiet_cls (C := Upd [] W) (x := z) ((rperson_any (HS.out.upd (HU0.out.next z.h)) HI.out.up (by rw [← HN.out.1]; omega) who).mono fun e w' h => ⟨h.1, z.h.next h.2⟩))
  rw [HSC.out, ← HC.out, hrij] at H1
  have r2 : ∀ z : Cls (Upd [] W), z.w.cell? ⟨bP, oP + j * 3 + 2, none⟩ = some (.int .i64 y2) := fun z => ((HU0.out.next z.h).cell (p := ⟨bP, oP + j * 3 + 2, none⟩) hb1l (by simp)).trans e2
  have hTw := cellD_lt (HBT0.out.cell 0)
  have hQw := cellD_lt (HBQ0.out.cell 0)
  have m0 : ∀ z : Cls (Upd [] W), z.w.cell? ⟨T, 0, none⟩ = some (.int .i64 c1) := fun z => (z.h.cell (p := ⟨T, 0, none⟩) hTw (by simp)).trans (HBT0.out.cell 0)
  have m1 : ∀ z : Cls (Upd [] W), z.w.cell? ⟨T, 1, none⟩ = some (.int .i64 c2) := fun z => (z.h.cell (p := ⟨T, 1, none⟩) hTw (by simp)).trans (HBT0.out.cell 1)
  have m2 : ∀ z : Cls (Upd [] W), z.w.cell? ⟨T, 2, none⟩ = some (.int .i64 c3) := fun z => (z.h.cell (p := ⟨T, 2, none⟩) hTw (by simp)).trans (HBT0.out.cell 2)
  have m3 : ∀ z : Cls (Upd [] W), z.w.cell? ⟨T, 3, none⟩ = some (.int .i64 c4) := fun z => (z.h.cell (p := ⟨T, 3, none⟩) hTw (by simp)).trans (HBT0.out.cell 3)
  have m4 : ∀ z : Cls (Upd [] W), z.w.cell? ⟨T, 4, none⟩ = some (.slice (some ⟨bP, oP, none⟩) n1 pc) := fun z => (z.h.cell (p := ⟨T, 4, none⟩) hTw (by simp)).trans (HBT0.out.cell 4)
  have m5 : ∀ z : Cls (Upd [] W), z.w.cell? ⟨T, 5, none⟩ = some (.slice tA n2 tc) := fun z => (z.h.cell (p := ⟨T, 5, none⟩) hTw (by simp)).trans (HBT0.out.cell 5)
  have m6 : ∀ z : Cls (Upd [] W), z.w.cell? ⟨T, 6, none⟩ = some (.slice bA n3 bc) := fun z => (z.h.cell (p := ⟨T, 6, none⟩) hTw (by simp)).trans (HBT0.out.cell 6)
  have q1 : ∀ z : Cls (Upd [] W), z.w.cell? ⟨T + 1, 1, none⟩ = some (.int .i64 who) := fun z => (z.h.cell (p := ⟨T + 1, 1, none⟩) hQw (by simp)).trans (HBQ0.out.cell 1)
  have hjli : (j : Int) < (n1 : Int) := by omega
  clear hbo hp hj hpaj hrij e0 e1 e2 hb1l hTw hQw
  go_cut [19] (fun v wd => v = .bool bo ∧ Upd [] W wd)
  case first =>
    refine wp_class_tail (Upd [] W) ((Upd.refl _ _).drewN 1) 6 (by kernel_rfl) (by kernel_rfl) (fun _ _ _ _ h => h) ?_
    intro hne
    simp only [List.take_succ_cons, List.take_zero, List.drop_succ_cons, List.drop_zero]
    repeat (go_big_quiet_step ((go_at_call 35; with_reducible exact H1.out _)))
    refine wpQuiet_nil ?_
    rintro _ ⟨xe, rfl⟩
    have hy : y2 = 0 ∨ y2 = 1 ∨ y2 = 2 ∨ y2 = 3 := by omega
    rcases hy with rfl | rfl | rfl | rfl <;> (go_wp2; go_meet; case rel => exact ⟨by rw [HBO.out]; rfl, xe.h⟩)
  obtain ⟨rfl, hud⟩ := hcut
  have HBT1 := Lib.hid (HBT0.out.upd hud (by simp))
  have HBR1 := Lib.hid (HBR0.out.upd hud (by simp))
  have HBQ1 := Lib.hid (HBQ0.out.upd hud (by simp))
  have HU1 := Lib.hid (HU0.out.next hud)
  clear hud m0 m1 m2 m3 m4 m5 m6 q1 r2 H1
  cases bo
  case true =>
    have H1 : Hid (r = (s, 24)) := Lib.hid (by rw [HR.out]; unfold publishM; rw [if_pos (by dsimp only; rw [← HP.out]; dsimp only; simpa using HBO.out.symm)])
    obtain ⟨kx, ux⟩ := blk7 HBR1.out (.int .i64 c1) (.int .i64 c2) (.int .i64 c3) (.int .i64 c4) (.slice (some ⟨bP, oP, none⟩) n1 pc) (.slice tA n2 tc) (.slice bA n3 bc)
    obtain ⟨wx, hwx⟩ : ∃ wx, wx = (((((((wc.setCell ⟨T + 1 + 1, 0, none⟩ (.int .i64 c1)).setCell ⟨T + 1 + 1, 1, none⟩ (.int .i64 c2)).setCell ⟨T + 1 + 1, 2, none⟩ (.int .i64 c3)).setCell ⟨T + 1 + 1, 3, none⟩ (.int .i64 c4)).setCell ⟨T + 1 + 1, 4, none⟩ (.slice (some ⟨bP, oP, none⟩) n1 pc)).setCell ⟨T + 1 + 1, 5, none⟩ (.slice tA n2 tc)).setCell ⟨T + 1 + 1, 6, none⟩ (.slice bA n3 bc)) := ⟨_, rfl⟩
    rw [← hwx] at kx ux
    have HKX := Lib.hid kx
    have HUX := Lib.hid ux
    have HWX := Lib.hid hwx
    clear kx ux hwx
    have m0 : wc.cell? ⟨T, 0, none⟩ = some (.int .i64 c1) := HBT1.out.cell 0
    have m1 : wc.cell? ⟨T, 1, none⟩ = some (.int .i64 c2) := HBT1.out.cell 1
    have m2 : wc.cell? ⟨T, 2, none⟩ = some (.int .i64 c3) := HBT1.out.cell 2
    have m3 : wc.cell? ⟨T, 3, none⟩ = some (.int .i64 c4) := HBT1.out.cell 3
    have m4 : wc.cell? ⟨T, 4, none⟩ = some (.slice (some ⟨bP, oP, none⟩) n1 pc) := HBT1.out.cell 4
    have m5 : wc.cell? ⟨T, 5, none⟩ = some (.slice tA n2 tc) := HBT1.out.cell 5
    have m6 : wc.cell? ⟨T, 6, none⟩ = some (.slice bA n3 bc) := HBT1.out.cell 6
    have n10 := HBR1.out.frozen 0
    have o0 : wc.cell? ⟨T + 1 + 1, 0, none⟩ = some (.int .i64 0) := HBR1.out.cell 0
    have n11 := HBR1.out.frozen 1
    have o1 : wc.cell? ⟨T + 1 + 1, 1, none⟩ = some (.int .i64 0) := HBR1.out.cell 1
    have n12 := HBR1.out.frozen 2
    have o2 : wc.cell? ⟨T + 1 + 1, 2, none⟩ = some (.int .i64 0) := HBR1.out.cell 2
    have n13 := HBR1.out.frozen 3
    have o3 : wc.cell? ⟨T + 1 + 1, 3, none⟩ = some (.int .i64 0) := HBR1.out.cell 3
    have n14 := HBR1.out.frozen 4
    have o4 : wc.cell? ⟨T + 1 + 1, 4, none⟩ = some (.slice none 0 0) := HBR1.out.cell 4
    have n15 := HBR1.out.frozen 5
    have o5 : wc.cell? ⟨T + 1 + 1, 5, none⟩ = some (.slice none 0 0) := HBR1.out.cell 5
    have n16 := HBR1.out.frozen 6
    have o6 : wc.cell? ⟨T + 1 + 1, 6, none⟩ = some (.slice none 0 0) := HBR1.out.cell 6
    go_wp2
    rw [← HWX.out]
    have g0 := HKX.out.cell 0
    have g1 := HKX.out.cell 1
    have g2 := HKX.out.cell 2
    have g3 := HKX.out.cell 3
    have g4 := HKX.out.cell 4
    have g5 := HKX.out.cell 5
    have g6 := HKX.out.cell 6
    simp only [List.getElem?_toArray, List.getElem?_cons_zero, List.getElem?_cons_succ] at g0 g1 g2 g3 g4 g5 g6
    refine bodyPost_res (v := .tuple #[.agg #[.int .i64 c1, .int .i64 c2, .int .i64 c3, .int .i64 c4, .slice (some ⟨bP, oP, none⟩) n1 pc, .slice tA n2 tc, .slice bA n3 bc], .int .i64 24]) (by simp [results, Try.results37, go_sem, Addr.add, g0, g1, g2, g3, g4, g5, g6]) rfl ?_
    exact ⟨⟨(some ⟨bP, oP, none⟩), pc, tx, tA, tc, bA, bc⟩, by rw [H1.out]; dsimp only; rw [HSC.out, ← HC.out], by rw [H1.out]; exact HS.out.upd (HU1.out.box HUX.out HT.out), by rw [H1.out]; exact fun _ _ _ ha => ha, HU1.out.box HUX.out HT.out⟩
  have H24 : Hid (¬ ((perAt s who).rights % 2 = 0)) := Lib.hid (by rw [← HP.out]; dsimp only; have := HBO.out.symm; simpa using this)
  obtain ⟨bm, hbm⟩ : ∃ x, x = maySS ss := ⟨_, rfl⟩
  have HM : Hid (Calls Try.prog 71 #[.slice qA ql qc] wc fun e w' => e = .returned (.bool bm) ∧ Upd [] wc w') := Lib.hid (by
    have h := rmay_any (HQ.out.upd HU1.out)
    rw [← hbm, ← HQL.out] at h
    exact h)
  have HBM := Lib.hid hbm
  clear hbm
  have q5 : wc.cell? ⟨T + 1, 5, none⟩ = some (.slice qA ql qc) := HBQ1.out.cell 5
  go_wp2_with fail
  refine HM.out.mono ?_
  rintro _ w2 ⟨rfl, hu2⟩
  have HBT2 := Lib.hid (HBT1.out.upd hu2 (by simp))
  have HBR2 := Lib.hid (HBR1.out.upd hu2 (by simp))
  have HBQ2 := Lib.hid (HBQ1.out.upd hu2 (by simp))
  have HU2 := Lib.hid (HU1.out.next hu2)
  clear hu2 HM q5
  have q4 : w2.cell? ⟨T + 1, 4, none⟩ = some (.int .i64 track) := HBQ2.out.cell 4
  by_cases k1 : track < 1
  · have H1 : Hid (r = (s, 1)) := Lib.hid (by rw [HR.out]; unfold publishM; rw [if_neg H24.out, if_pos (by dsimp only; omega)])
    obtain ⟨kx, ux⟩ := blk7 HBR2.out (.int .i64 c1) (.int .i64 c2) (.int .i64 c3) (.int .i64 c4) (.slice (some ⟨bP, oP, none⟩) n1 pc) (.slice tA n2 tc) (.slice bA n3 bc)
    obtain ⟨wx, hwx⟩ : ∃ wx, wx = (((((((w2.setCell ⟨T + 1 + 1, 0, none⟩ (.int .i64 c1)).setCell ⟨T + 1 + 1, 1, none⟩ (.int .i64 c2)).setCell ⟨T + 1 + 1, 2, none⟩ (.int .i64 c3)).setCell ⟨T + 1 + 1, 3, none⟩ (.int .i64 c4)).setCell ⟨T + 1 + 1, 4, none⟩ (.slice (some ⟨bP, oP, none⟩) n1 pc)).setCell ⟨T + 1 + 1, 5, none⟩ (.slice tA n2 tc)).setCell ⟨T + 1 + 1, 6, none⟩ (.slice bA n3 bc)) := ⟨_, rfl⟩
    rw [← hwx] at kx ux
    have HKX := Lib.hid kx
    have HUX := Lib.hid ux
    have HWX := Lib.hid hwx
    clear kx ux hwx
    have m0 : w2.cell? ⟨T, 0, none⟩ = some (.int .i64 c1) := HBT2.out.cell 0
    have m1 : w2.cell? ⟨T, 1, none⟩ = some (.int .i64 c2) := HBT2.out.cell 1
    have m2 : w2.cell? ⟨T, 2, none⟩ = some (.int .i64 c3) := HBT2.out.cell 2
    have m3 : w2.cell? ⟨T, 3, none⟩ = some (.int .i64 c4) := HBT2.out.cell 3
    have m4 : w2.cell? ⟨T, 4, none⟩ = some (.slice (some ⟨bP, oP, none⟩) n1 pc) := HBT2.out.cell 4
    have m5 : w2.cell? ⟨T, 5, none⟩ = some (.slice tA n2 tc) := HBT2.out.cell 5
    have m6 : w2.cell? ⟨T, 6, none⟩ = some (.slice bA n3 bc) := HBT2.out.cell 6
    have n10 := HBR2.out.frozen 0
    have o0 : w2.cell? ⟨T + 1 + 1, 0, none⟩ = some (.int .i64 0) := HBR2.out.cell 0
    have n11 := HBR2.out.frozen 1
    have o1 : w2.cell? ⟨T + 1 + 1, 1, none⟩ = some (.int .i64 0) := HBR2.out.cell 1
    have n12 := HBR2.out.frozen 2
    have o2 : w2.cell? ⟨T + 1 + 1, 2, none⟩ = some (.int .i64 0) := HBR2.out.cell 2
    have n13 := HBR2.out.frozen 3
    have o3 : w2.cell? ⟨T + 1 + 1, 3, none⟩ = some (.int .i64 0) := HBR2.out.cell 3
    have n14 := HBR2.out.frozen 4
    have o4 : w2.cell? ⟨T + 1 + 1, 4, none⟩ = some (.slice none 0 0) := HBR2.out.cell 4
    have n15 := HBR2.out.frozen 5
    have o5 : w2.cell? ⟨T + 1 + 1, 5, none⟩ = some (.slice none 0 0) := HBR2.out.cell 5
    have n16 := HBR2.out.frozen 6
    have o6 : w2.cell? ⟨T + 1 + 1, 6, none⟩ = some (.slice none 0 0) := HBR2.out.cell 6
    go_wp2
    rw [← HWX.out]
    have g0 := HKX.out.cell 0
    have g1 := HKX.out.cell 1
    have g2 := HKX.out.cell 2
    have g3 := HKX.out.cell 3
    have g4 := HKX.out.cell 4
    have g5 := HKX.out.cell 5
    have g6 := HKX.out.cell 6
    simp only [List.getElem?_toArray, List.getElem?_cons_zero, List.getElem?_cons_succ] at g0 g1 g2 g3 g4 g5 g6
    refine bodyPost_res (v := .tuple #[.agg #[.int .i64 c1, .int .i64 c2, .int .i64 c3, .int .i64 c4, .slice (some ⟨bP, oP, none⟩) n1 pc, .slice tA n2 tc, .slice bA n3 bc], .int .i64 1]) (by simp [results, Try.results37, go_sem, Addr.add, g0, g1, g2, g3, g4, g5, g6]) rfl ?_
    exact ⟨⟨(some ⟨bP, oP, none⟩), pc, tx, tA, tc, bA, bc⟩, by rw [H1.out]; dsimp only; rw [HSC.out, ← HC.out], by rw [H1.out]; exact HS.out.upd (HU2.out.box HUX.out HT.out), by rw [H1.out]; exact fun _ _ _ ha => ha, HU2.out.box HUX.out HT.out⟩
  by_cases k2 : 999 < track
  · have H1 : Hid (r = (s, 1)) := Lib.hid (by rw [HR.out]; unfold publishM; rw [if_neg H24.out, if_pos (by dsimp only; omega)])
    obtain ⟨kx, ux⟩ := blk7 HBR2.out (.int .i64 c1) (.int .i64 c2) (.int .i64 c3) (.int .i64 c4) (.slice (some ⟨bP, oP, none⟩) n1 pc) (.slice tA n2 tc) (.slice bA n3 bc)
    obtain ⟨wx, hwx⟩ : ∃ wx, wx = (((((((w2.setCell ⟨T + 1 + 1, 0, none⟩ (.int .i64 c1)).setCell ⟨T + 1 + 1, 1, none⟩ (.int .i64 c2)).setCell ⟨T + 1 + 1, 2, none⟩ (.int .i64 c3)).setCell ⟨T + 1 + 1, 3, none⟩ (.int .i64 c4)).setCell ⟨T + 1 + 1, 4, none⟩ (.slice (some ⟨bP, oP, none⟩) n1 pc)).setCell ⟨T + 1 + 1, 5, none⟩ (.slice tA n2 tc)).setCell ⟨T + 1 + 1, 6, none⟩ (.slice bA n3 bc)) := ⟨_, rfl⟩
    rw [← hwx] at kx ux
    have HKX := Lib.hid kx
    have HUX := Lib.hid ux
    have HWX := Lib.hid hwx
    clear kx ux hwx
    have m0 : w2.cell? ⟨T, 0, none⟩ = some (.int .i64 c1) := HBT2.out.cell 0
    have m1 : w2.cell? ⟨T, 1, none⟩ = some (.int .i64 c2) := HBT2.out.cell 1
    have m2 : w2.cell? ⟨T, 2, none⟩ = some (.int .i64 c3) := HBT2.out.cell 2
    have m3 : w2.cell? ⟨T, 3, none⟩ = some (.int .i64 c4) := HBT2.out.cell 3
    have m4 : w2.cell? ⟨T, 4, none⟩ = some (.slice (some ⟨bP, oP, none⟩) n1 pc) := HBT2.out.cell 4
    have m5 : w2.cell? ⟨T, 5, none⟩ = some (.slice tA n2 tc) := HBT2.out.cell 5
    have m6 : w2.cell? ⟨T, 6, none⟩ = some (.slice bA n3 bc) := HBT2.out.cell 6
    have n10 := HBR2.out.frozen 0
    have o0 : w2.cell? ⟨T + 1 + 1, 0, none⟩ = some (.int .i64 0) := HBR2.out.cell 0
    have n11 := HBR2.out.frozen 1
    have o1 : w2.cell? ⟨T + 1 + 1, 1, none⟩ = some (.int .i64 0) := HBR2.out.cell 1
    have n12 := HBR2.out.frozen 2
    have o2 : w2.cell? ⟨T + 1 + 1, 2, none⟩ = some (.int .i64 0) := HBR2.out.cell 2
    have n13 := HBR2.out.frozen 3
    have o3 : w2.cell? ⟨T + 1 + 1, 3, none⟩ = some (.int .i64 0) := HBR2.out.cell 3
    have n14 := HBR2.out.frozen 4
    have o4 : w2.cell? ⟨T + 1 + 1, 4, none⟩ = some (.slice none 0 0) := HBR2.out.cell 4
    have n15 := HBR2.out.frozen 5
    have o5 : w2.cell? ⟨T + 1 + 1, 5, none⟩ = some (.slice none 0 0) := HBR2.out.cell 5
    have n16 := HBR2.out.frozen 6
    have o6 : w2.cell? ⟨T + 1 + 1, 6, none⟩ = some (.slice none 0 0) := HBR2.out.cell 6
    go_wp2
    rw [← HWX.out]
    have g0 := HKX.out.cell 0
    have g1 := HKX.out.cell 1
    have g2 := HKX.out.cell 2
    have g3 := HKX.out.cell 3
    have g4 := HKX.out.cell 4
    have g5 := HKX.out.cell 5
    have g6 := HKX.out.cell 6
    simp only [List.getElem?_toArray, List.getElem?_cons_zero, List.getElem?_cons_succ] at g0 g1 g2 g3 g4 g5 g6
    refine bodyPost_res (v := .tuple #[.agg #[.int .i64 c1, .int .i64 c2, .int .i64 c3, .int .i64 c4, .slice (some ⟨bP, oP, none⟩) n1 pc, .slice tA n2 tc, .slice bA n3 bc], .int .i64 1]) (by simp [results, Try.results37, go_sem, Addr.add, g0, g1, g2, g3, g4, g5, g6]) rfl ?_
    exact ⟨⟨(some ⟨bP, oP, none⟩), pc, tx, tA, tc, bA, bc⟩, by rw [H1.out]; dsimp only; rw [HSC.out, ← HC.out], by rw [H1.out]; exact HS.out.upd (HU2.out.box HUX.out HT.out), by rw [H1.out]; exact fun _ _ _ ha => ha, HU2.out.box HUX.out HT.out⟩
  cases bm
  case false =>
    have H1 : Hid (r = (s, 1)) := Lib.hid (by rw [HR.out]; unfold publishM; rw [if_neg H24.out, if_pos (by dsimp only; exact .inr (.inr HBM.out.symm))])
    obtain ⟨kx, ux⟩ := blk7 HBR2.out (.int .i64 c1) (.int .i64 c2) (.int .i64 c3) (.int .i64 c4) (.slice (some ⟨bP, oP, none⟩) n1 pc) (.slice tA n2 tc) (.slice bA n3 bc)
    obtain ⟨wx, hwx⟩ : ∃ wx, wx = (((((((w2.setCell ⟨T + 1 + 1, 0, none⟩ (.int .i64 c1)).setCell ⟨T + 1 + 1, 1, none⟩ (.int .i64 c2)).setCell ⟨T + 1 + 1, 2, none⟩ (.int .i64 c3)).setCell ⟨T + 1 + 1, 3, none⟩ (.int .i64 c4)).setCell ⟨T + 1 + 1, 4, none⟩ (.slice (some ⟨bP, oP, none⟩) n1 pc)).setCell ⟨T + 1 + 1, 5, none⟩ (.slice tA n2 tc)).setCell ⟨T + 1 + 1, 6, none⟩ (.slice bA n3 bc)) := ⟨_, rfl⟩
    rw [← hwx] at kx ux
    have HKX := Lib.hid kx
    have HUX := Lib.hid ux
    have HWX := Lib.hid hwx
    clear kx ux hwx
    have m0 : w2.cell? ⟨T, 0, none⟩ = some (.int .i64 c1) := HBT2.out.cell 0
    have m1 : w2.cell? ⟨T, 1, none⟩ = some (.int .i64 c2) := HBT2.out.cell 1
    have m2 : w2.cell? ⟨T, 2, none⟩ = some (.int .i64 c3) := HBT2.out.cell 2
    have m3 : w2.cell? ⟨T, 3, none⟩ = some (.int .i64 c4) := HBT2.out.cell 3
    have m4 : w2.cell? ⟨T, 4, none⟩ = some (.slice (some ⟨bP, oP, none⟩) n1 pc) := HBT2.out.cell 4
    have m5 : w2.cell? ⟨T, 5, none⟩ = some (.slice tA n2 tc) := HBT2.out.cell 5
    have m6 : w2.cell? ⟨T, 6, none⟩ = some (.slice bA n3 bc) := HBT2.out.cell 6
    have n10 := HBR2.out.frozen 0
    have o0 : w2.cell? ⟨T + 1 + 1, 0, none⟩ = some (.int .i64 0) := HBR2.out.cell 0
    have n11 := HBR2.out.frozen 1
    have o1 : w2.cell? ⟨T + 1 + 1, 1, none⟩ = some (.int .i64 0) := HBR2.out.cell 1
    have n12 := HBR2.out.frozen 2
    have o2 : w2.cell? ⟨T + 1 + 1, 2, none⟩ = some (.int .i64 0) := HBR2.out.cell 2
    have n13 := HBR2.out.frozen 3
    have o3 : w2.cell? ⟨T + 1 + 1, 3, none⟩ = some (.int .i64 0) := HBR2.out.cell 3
    have n14 := HBR2.out.frozen 4
    have o4 : w2.cell? ⟨T + 1 + 1, 4, none⟩ = some (.slice none 0 0) := HBR2.out.cell 4
    have n15 := HBR2.out.frozen 5
    have o5 : w2.cell? ⟨T + 1 + 1, 5, none⟩ = some (.slice none 0 0) := HBR2.out.cell 5
    have n16 := HBR2.out.frozen 6
    have o6 : w2.cell? ⟨T + 1 + 1, 6, none⟩ = some (.slice none 0 0) := HBR2.out.cell 6
    go_wp2
    rw [← HWX.out]
    have g0 := HKX.out.cell 0
    have g1 := HKX.out.cell 1
    have g2 := HKX.out.cell 2
    have g3 := HKX.out.cell 3
    have g4 := HKX.out.cell 4
    have g5 := HKX.out.cell 5
    have g6 := HKX.out.cell 6
    simp only [List.getElem?_toArray, List.getElem?_cons_zero, List.getElem?_cons_succ] at g0 g1 g2 g3 g4 g5 g6
    refine bodyPost_res (v := .tuple #[.agg #[.int .i64 c1, .int .i64 c2, .int .i64 c3, .int .i64 c4, .slice (some ⟨bP, oP, none⟩) n1 pc, .slice tA n2 tc, .slice bA n3 bc], .int .i64 1]) (by simp [results, Try.results37, go_sem, Addr.add, g0, g1, g2, g3, g4, g5, g6]) rfl ?_
    exact ⟨⟨(some ⟨bP, oP, none⟩), pc, tx, tA, tc, bA, bc⟩, by rw [H1.out]; dsimp only; rw [HSC.out, ← HC.out], by rw [H1.out]; exact HS.out.upd (HU2.out.box HUX.out HT.out), by rw [H1.out]; exact fun _ _ _ ha => ha, HU2.out.box HUX.out HT.out⟩
  have H0 : Hid (¬ (track < 1 ∨ 999 < track ∨ maySS ss = false)) := Lib.hid (by rw [← HBM.out]; simp; omega)
  obtain ⟨ix, hix⟩ : ∃ x, x = ridxM (cT track) s.ts := ⟨_, rfl⟩
  have HK : Hid (Calls Try.prog 70 #[.agg #[.int .i64 c1, .int .i64 c2, .int .i64 c3, .int .i64 c4, .slice (some ⟨bP, oP, none⟩) n1 pc, .slice tA n2 tc, .slice bA n3 bc], .int .i64 track] w2 fun e w' => e = .returned (.int .i64 ix) ∧ Upd [] w2 w') := Lib.hid (by
    have h := rtrack_any (HS.out.upd HU2.out) HI.out.ut (by rw [← HN.out.2.1]; omega) track
    rw [HSC.out, ← HC.out, ← hix] at h
    exact h)
  have HIX := Lib.hid hix
  clear hix
  have m0 : w2.cell? ⟨T, 0, none⟩ = some (.int .i64 c1) := HBT2.out.cell 0
  have m1 : w2.cell? ⟨T, 1, none⟩ = some (.int .i64 c2) := HBT2.out.cell 1
  have m2 : w2.cell? ⟨T, 2, none⟩ = some (.int .i64 c3) := HBT2.out.cell 2
  have m3 : w2.cell? ⟨T, 3, none⟩ = some (.int .i64 c4) := HBT2.out.cell 3
  have m4 : w2.cell? ⟨T, 4, none⟩ = some (.slice (some ⟨bP, oP, none⟩) n1 pc) := HBT2.out.cell 4
  have m5 : w2.cell? ⟨T, 5, none⟩ = some (.slice tA n2 tc) := HBT2.out.cell 5
  have m6 : w2.cell? ⟨T, 6, none⟩ = some (.slice bA n3 bc) := HBT2.out.cell 6
  go_wp2_with fail
  refine HK.out.mono ?_
  rintro _ w3 ⟨rfl, hu3⟩
  have HBT3 := Lib.hid (HBT2.out.upd hu3 (by simp))
  have HBR3 := Lib.hid (HBR2.out.upd hu3 (by simp))
  have HBQ3 := Lib.hid (HBQ2.out.upd hu3 (by simp))
  have HU3 := Lib.hid (HU2.out.next hu3)
  clear hu3 HK q4 m0 m1 m2 m3 m4 m5 m6
  by_cases k7 : (0 : Int) ≤ ix
  · have H1 : Hid (r = (s, 22)) := Lib.hid (by rw [HR.out]; unfold publishM; rw [if_neg H24.out, if_neg H0.out, if_pos (by dsimp only; exact .inl (ridx_neg.1 (by rw [← HIX.out]; exact k7)))])
    obtain ⟨kx, ux⟩ := blk7 HBR3.out (.int .i64 c1) (.int .i64 c2) (.int .i64 c3) (.int .i64 c4) (.slice (some ⟨bP, oP, none⟩) n1 pc) (.slice tA n2 tc) (.slice bA n3 bc)
    obtain ⟨wx, hwx⟩ : ∃ wx, wx = (((((((w3.setCell ⟨T + 1 + 1, 0, none⟩ (.int .i64 c1)).setCell ⟨T + 1 + 1, 1, none⟩ (.int .i64 c2)).setCell ⟨T + 1 + 1, 2, none⟩ (.int .i64 c3)).setCell ⟨T + 1 + 1, 3, none⟩ (.int .i64 c4)).setCell ⟨T + 1 + 1, 4, none⟩ (.slice (some ⟨bP, oP, none⟩) n1 pc)).setCell ⟨T + 1 + 1, 5, none⟩ (.slice tA n2 tc)).setCell ⟨T + 1 + 1, 6, none⟩ (.slice bA n3 bc)) := ⟨_, rfl⟩
    rw [← hwx] at kx ux
    have HKX := Lib.hid kx
    have HUX := Lib.hid ux
    have HWX := Lib.hid hwx
    clear kx ux hwx
    have m0 : w3.cell? ⟨T, 0, none⟩ = some (.int .i64 c1) := HBT3.out.cell 0
    have m1 : w3.cell? ⟨T, 1, none⟩ = some (.int .i64 c2) := HBT3.out.cell 1
    have m2 : w3.cell? ⟨T, 2, none⟩ = some (.int .i64 c3) := HBT3.out.cell 2
    have m3 : w3.cell? ⟨T, 3, none⟩ = some (.int .i64 c4) := HBT3.out.cell 3
    have m4 : w3.cell? ⟨T, 4, none⟩ = some (.slice (some ⟨bP, oP, none⟩) n1 pc) := HBT3.out.cell 4
    have m5 : w3.cell? ⟨T, 5, none⟩ = some (.slice tA n2 tc) := HBT3.out.cell 5
    have m6 : w3.cell? ⟨T, 6, none⟩ = some (.slice bA n3 bc) := HBT3.out.cell 6
    have n10 := HBR3.out.frozen 0
    have o0 : w3.cell? ⟨T + 1 + 1, 0, none⟩ = some (.int .i64 0) := HBR3.out.cell 0
    have n11 := HBR3.out.frozen 1
    have o1 : w3.cell? ⟨T + 1 + 1, 1, none⟩ = some (.int .i64 0) := HBR3.out.cell 1
    have n12 := HBR3.out.frozen 2
    have o2 : w3.cell? ⟨T + 1 + 1, 2, none⟩ = some (.int .i64 0) := HBR3.out.cell 2
    have n13 := HBR3.out.frozen 3
    have o3 : w3.cell? ⟨T + 1 + 1, 3, none⟩ = some (.int .i64 0) := HBR3.out.cell 3
    have n14 := HBR3.out.frozen 4
    have o4 : w3.cell? ⟨T + 1 + 1, 4, none⟩ = some (.slice none 0 0) := HBR3.out.cell 4
    have n15 := HBR3.out.frozen 5
    have o5 : w3.cell? ⟨T + 1 + 1, 5, none⟩ = some (.slice none 0 0) := HBR3.out.cell 5
    have n16 := HBR3.out.frozen 6
    have o6 : w3.cell? ⟨T + 1 + 1, 6, none⟩ = some (.slice none 0 0) := HBR3.out.cell 6
    go_wp2
    rw [← HWX.out]
    have g0 := HKX.out.cell 0
    have g1 := HKX.out.cell 1
    have g2 := HKX.out.cell 2
    have g3 := HKX.out.cell 3
    have g4 := HKX.out.cell 4
    have g5 := HKX.out.cell 5
    have g6 := HKX.out.cell 6
    simp only [List.getElem?_toArray, List.getElem?_cons_zero, List.getElem?_cons_succ] at g0 g1 g2 g3 g4 g5 g6
    refine bodyPost_res (v := .tuple #[.agg #[.int .i64 c1, .int .i64 c2, .int .i64 c3, .int .i64 c4, .slice (some ⟨bP, oP, none⟩) n1 pc, .slice tA n2 tc, .slice bA n3 bc], .int .i64 22]) (by simp [results, Try.results37, go_sem, Addr.add, g0, g1, g2, g3, g4, g5, g6]) rfl ?_
    exact ⟨⟨(some ⟨bP, oP, none⟩), pc, tx, tA, tc, bA, bc⟩, by rw [H1.out]; dsimp only; rw [HSC.out, ← HC.out], by rw [H1.out]; exact HS.out.upd (HU3.out.box HUX.out HT.out), by rw [H1.out]; exact fun _ _ _ ha => ha, HU3.out.box HUX.out HT.out⟩
  have HNO : Hid (has (cT track) s.ts = false) := Lib.hid (by
    cases hh : has (cT track) s.ts
    · rfl
    · exact absurd (by rw [HIX.out]; exact ridx_neg.2 hh) k7)
  obtain ⟨bt, hbt⟩ : ∃ x, x = takenM s ss := ⟨_, rfl⟩
  have HK : Hid (Calls Try.prog 72 #[.agg #[.int .i64 c1, .int .i64 c2, .int .i64 c3, .int .i64 c4, .slice (some ⟨bP, oP, none⟩) n1 pc, .slice tA n2 tc, .slice bA n3 bc], .slice qA ql qc] w3 fun e w' => e = .returned (.bool bt) ∧ Upd [] w3 w') := Lib.hid (by
    have h := rtaken_any (HS.out.upd HU3.out) (by rw [← HN.out.2.1]; omega) (HQ.out.upd HU3.out)
    rw [HSC.out, ← HC.out, ← hbt, ← HQL.out] at h
    exact h)
  have HBTK := Lib.hid hbt
  clear hbt
  have m0 : w3.cell? ⟨T, 0, none⟩ = some (.int .i64 c1) := HBT3.out.cell 0
  have m1 : w3.cell? ⟨T, 1, none⟩ = some (.int .i64 c2) := HBT3.out.cell 1
  have m2 : w3.cell? ⟨T, 2, none⟩ = some (.int .i64 c3) := HBT3.out.cell 2
  have m3 : w3.cell? ⟨T, 3, none⟩ = some (.int .i64 c4) := HBT3.out.cell 3
  have m4 : w3.cell? ⟨T, 4, none⟩ = some (.slice (some ⟨bP, oP, none⟩) n1 pc) := HBT3.out.cell 4
  have m5 : w3.cell? ⟨T, 5, none⟩ = some (.slice tA n2 tc) := HBT3.out.cell 5
  have m6 : w3.cell? ⟨T, 6, none⟩ = some (.slice bA n3 bc) := HBT3.out.cell 6
  have q5 : w3.cell? ⟨T + 1, 5, none⟩ = some (.slice qA ql qc) := HBQ3.out.cell 5
  go_wp2_with fail
  refine HK.out.mono ?_
  rintro _ w4 ⟨rfl, hu4⟩
  have HBT4 := Lib.hid (HBT3.out.upd hu4 (by simp))
  have HBR4 := Lib.hid (HBR3.out.upd hu4 (by simp))
  have HBQ4 := Lib.hid (HBQ3.out.upd hu4 (by simp))
  have HU4 := Lib.hid (HU3.out.next hu4)
  clear hu4 HK q5 m0 m1 m2 m3 m4 m5 m6
  cases bt
  case true =>
    have H1 : Hid (r = (s, 22)) := Lib.hid (by rw [HR.out]; unfold publishM; rw [if_neg H24.out, if_neg H0.out, if_pos (by dsimp only; exact .inr HBTK.out.symm)])
    obtain ⟨kx, ux⟩ := blk7 HBR4.out (.int .i64 c1) (.int .i64 c2) (.int .i64 c3) (.int .i64 c4) (.slice (some ⟨bP, oP, none⟩) n1 pc) (.slice tA n2 tc) (.slice bA n3 bc)
    obtain ⟨wx, hwx⟩ : ∃ wx, wx = (((((((w4.setCell ⟨T + 1 + 1, 0, none⟩ (.int .i64 c1)).setCell ⟨T + 1 + 1, 1, none⟩ (.int .i64 c2)).setCell ⟨T + 1 + 1, 2, none⟩ (.int .i64 c3)).setCell ⟨T + 1 + 1, 3, none⟩ (.int .i64 c4)).setCell ⟨T + 1 + 1, 4, none⟩ (.slice (some ⟨bP, oP, none⟩) n1 pc)).setCell ⟨T + 1 + 1, 5, none⟩ (.slice tA n2 tc)).setCell ⟨T + 1 + 1, 6, none⟩ (.slice bA n3 bc)) := ⟨_, rfl⟩
    rw [← hwx] at kx ux
    have HKX := Lib.hid kx
    have HUX := Lib.hid ux
    have HWX := Lib.hid hwx
    clear kx ux hwx
    have m0 : w4.cell? ⟨T, 0, none⟩ = some (.int .i64 c1) := HBT4.out.cell 0
    have m1 : w4.cell? ⟨T, 1, none⟩ = some (.int .i64 c2) := HBT4.out.cell 1
    have m2 : w4.cell? ⟨T, 2, none⟩ = some (.int .i64 c3) := HBT4.out.cell 2
    have m3 : w4.cell? ⟨T, 3, none⟩ = some (.int .i64 c4) := HBT4.out.cell 3
    have m4 : w4.cell? ⟨T, 4, none⟩ = some (.slice (some ⟨bP, oP, none⟩) n1 pc) := HBT4.out.cell 4
    have m5 : w4.cell? ⟨T, 5, none⟩ = some (.slice tA n2 tc) := HBT4.out.cell 5
    have m6 : w4.cell? ⟨T, 6, none⟩ = some (.slice bA n3 bc) := HBT4.out.cell 6
    have n10 := HBR4.out.frozen 0
    have o0 : w4.cell? ⟨T + 1 + 1, 0, none⟩ = some (.int .i64 0) := HBR4.out.cell 0
    have n11 := HBR4.out.frozen 1
    have o1 : w4.cell? ⟨T + 1 + 1, 1, none⟩ = some (.int .i64 0) := HBR4.out.cell 1
    have n12 := HBR4.out.frozen 2
    have o2 : w4.cell? ⟨T + 1 + 1, 2, none⟩ = some (.int .i64 0) := HBR4.out.cell 2
    have n13 := HBR4.out.frozen 3
    have o3 : w4.cell? ⟨T + 1 + 1, 3, none⟩ = some (.int .i64 0) := HBR4.out.cell 3
    have n14 := HBR4.out.frozen 4
    have o4 : w4.cell? ⟨T + 1 + 1, 4, none⟩ = some (.slice none 0 0) := HBR4.out.cell 4
    have n15 := HBR4.out.frozen 5
    have o5 : w4.cell? ⟨T + 1 + 1, 5, none⟩ = some (.slice none 0 0) := HBR4.out.cell 5
    have n16 := HBR4.out.frozen 6
    have o6 : w4.cell? ⟨T + 1 + 1, 6, none⟩ = some (.slice none 0 0) := HBR4.out.cell 6
    go_wp2
    rw [← HWX.out]
    have g0 := HKX.out.cell 0
    have g1 := HKX.out.cell 1
    have g2 := HKX.out.cell 2
    have g3 := HKX.out.cell 3
    have g4 := HKX.out.cell 4
    have g5 := HKX.out.cell 5
    have g6 := HKX.out.cell 6
    simp only [List.getElem?_toArray, List.getElem?_cons_zero, List.getElem?_cons_succ] at g0 g1 g2 g3 g4 g5 g6
    refine bodyPost_res (v := .tuple #[.agg #[.int .i64 c1, .int .i64 c2, .int .i64 c3, .int .i64 c4, .slice (some ⟨bP, oP, none⟩) n1 pc, .slice tA n2 tc, .slice bA n3 bc], .int .i64 22]) (by simp [results, Try.results37, go_sem, Addr.add, g0, g1, g2, g3, g4, g5, g6]) rfl ?_
    exact ⟨⟨(some ⟨bP, oP, none⟩), pc, tx, tA, tc, bA, bc⟩, by rw [H1.out]; dsimp only; rw [HSC.out, ← HC.out], by rw [H1.out]; exact HS.out.upd (HU4.out.box HUX.out HT.out), by rw [H1.out]; exact fun _ _ _ ha => ha, HU4.out.box HUX.out HT.out⟩
  have H2 : Hid (¬ (has (cT track) s.ts = true ∨ takenM s ss = true)) := Lib.hid (by rw [HNO.out, ← HBTK.out]; simp)
  have m1 : w4.cell? ⟨T, 1, none⟩ = some (.int .i64 c2) := HBT4.out.cell 1
  have m5 : w4.cell? ⟨T, 5, none⟩ = some (.slice tA n2 tc) := HBT4.out.cell 5
  by_cases k8 : c2 ≤ (n2 : Int)
  · have H1 : Hid (r = (s, 20)) := Lib.hid (by rw [HR.out]; unfold publishM; rw [if_neg H24.out, if_neg H0.out, if_neg H2.out, if_pos (by rw [← HC.out, ← HN.out.2.1]; exact k8)])
    obtain ⟨kx, ux⟩ := blk7 HBR4.out (.int .i64 c1) (.int .i64 c2) (.int .i64 c3) (.int .i64 c4) (.slice (some ⟨bP, oP, none⟩) n1 pc) (.slice tA n2 tc) (.slice bA n3 bc)
    obtain ⟨wx, hwx⟩ : ∃ wx, wx = (((((((w4.setCell ⟨T + 1 + 1, 0, none⟩ (.int .i64 c1)).setCell ⟨T + 1 + 1, 1, none⟩ (.int .i64 c2)).setCell ⟨T + 1 + 1, 2, none⟩ (.int .i64 c3)).setCell ⟨T + 1 + 1, 3, none⟩ (.int .i64 c4)).setCell ⟨T + 1 + 1, 4, none⟩ (.slice (some ⟨bP, oP, none⟩) n1 pc)).setCell ⟨T + 1 + 1, 5, none⟩ (.slice tA n2 tc)).setCell ⟨T + 1 + 1, 6, none⟩ (.slice bA n3 bc)) := ⟨_, rfl⟩
    rw [← hwx] at kx ux
    have HKX := Lib.hid kx
    have HUX := Lib.hid ux
    have HWX := Lib.hid hwx
    clear kx ux hwx
    have m0 : w4.cell? ⟨T, 0, none⟩ = some (.int .i64 c1) := HBT4.out.cell 0
    have m1 : w4.cell? ⟨T, 1, none⟩ = some (.int .i64 c2) := HBT4.out.cell 1
    have m2 : w4.cell? ⟨T, 2, none⟩ = some (.int .i64 c3) := HBT4.out.cell 2
    have m3 : w4.cell? ⟨T, 3, none⟩ = some (.int .i64 c4) := HBT4.out.cell 3
    have m4 : w4.cell? ⟨T, 4, none⟩ = some (.slice (some ⟨bP, oP, none⟩) n1 pc) := HBT4.out.cell 4
    have m5 : w4.cell? ⟨T, 5, none⟩ = some (.slice tA n2 tc) := HBT4.out.cell 5
    have m6 : w4.cell? ⟨T, 6, none⟩ = some (.slice bA n3 bc) := HBT4.out.cell 6
    have n10 := HBR4.out.frozen 0
    have o0 : w4.cell? ⟨T + 1 + 1, 0, none⟩ = some (.int .i64 0) := HBR4.out.cell 0
    have n11 := HBR4.out.frozen 1
    have o1 : w4.cell? ⟨T + 1 + 1, 1, none⟩ = some (.int .i64 0) := HBR4.out.cell 1
    have n12 := HBR4.out.frozen 2
    have o2 : w4.cell? ⟨T + 1 + 1, 2, none⟩ = some (.int .i64 0) := HBR4.out.cell 2
    have n13 := HBR4.out.frozen 3
    have o3 : w4.cell? ⟨T + 1 + 1, 3, none⟩ = some (.int .i64 0) := HBR4.out.cell 3
    have n14 := HBR4.out.frozen 4
    have o4 : w4.cell? ⟨T + 1 + 1, 4, none⟩ = some (.slice none 0 0) := HBR4.out.cell 4
    have n15 := HBR4.out.frozen 5
    have o5 : w4.cell? ⟨T + 1 + 1, 5, none⟩ = some (.slice none 0 0) := HBR4.out.cell 5
    have n16 := HBR4.out.frozen 6
    have o6 : w4.cell? ⟨T + 1 + 1, 6, none⟩ = some (.slice none 0 0) := HBR4.out.cell 6
    go_wp2
    rw [← HWX.out]
    have g0 := HKX.out.cell 0
    have g1 := HKX.out.cell 1
    have g2 := HKX.out.cell 2
    have g3 := HKX.out.cell 3
    have g4 := HKX.out.cell 4
    have g5 := HKX.out.cell 5
    have g6 := HKX.out.cell 6
    simp only [List.getElem?_toArray, List.getElem?_cons_zero, List.getElem?_cons_succ] at g0 g1 g2 g3 g4 g5 g6
    refine bodyPost_res (v := .tuple #[.agg #[.int .i64 c1, .int .i64 c2, .int .i64 c3, .int .i64 c4, .slice (some ⟨bP, oP, none⟩) n1 pc, .slice tA n2 tc, .slice bA n3 bc], .int .i64 20]) (by simp [results, Try.results37, go_sem, Addr.add, g0, g1, g2, g3, g4, g5, g6]) rfl ?_
    exact ⟨⟨(some ⟨bP, oP, none⟩), pc, tx, tA, tc, bA, bc⟩, by rw [H1.out]; dsimp only; rw [HSC.out, ← HC.out], by rw [H1.out]; exact HS.out.upd (HU4.out.box HUX.out HT.out), by rw [H1.out]; exact fun _ _ _ ha => ha, HU4.out.box HUX.out HT.out⟩
  have H8 : Hid (r = ({ s with ts := ins s.ts (low (cT track) s.ts) ⟨track, who, 0, ss⟩ }, 0)) := Lib.hid (by rw [HR.out]; unfold publishM; rw [if_neg H24.out, if_neg H0.out, if_neg H2.out, if_neg (by rw [← HC.out, ← HN.out.2.1]; exact k8)])
  have HRW := Lib.hid (rowT0 (HS.out.upd HU4.out))
  go_wp2
  clear m1 m5 k1 k2
  go_loopg [7] n2 (fun gk xa wr => ∃ i : Nat, i ≤ n2 ∧ n2 ≤ i + gk ∧ xa = .int .i64 i ∧ (∀ k x, s.ts[k]? = some x → k < i → cT track x < 0) ∧ Upd [] w4 wr)
  case atStart => exact ⟨0, Nat.zero_le _, by omega, rfl, fun _ _ _ hm => absurd hm (Nat.not_lt_zero _), Upd.refl _ _⟩
  case round =>
    obtain ⟨i, hi, hgi, rfl, hno, hur⟩ := hrel
    have m4 : wr.cell? ⟨T, 5, none⟩ = some (.slice tA n2 tc) := (HBT4.out.upd hur (by simp)).cell 5
    have q1 : wr.cell? ⟨T + 1, 4, none⟩ = some (.int .i64 track) := (HBQ4.out.upd hur (by simp)).cell 4
    have hTw := cellD_lt m4
    have hQw := cellD_lt q1
    obtain ⟨bo, hbo⟩ : ∃ bo, bo = decide (∃ x, s.ts[i]? = some x ∧ x.id < track) := ⟨_, rfl⟩
    have HGI := Lib.hid hgi
    have HUR := Lib.hid hur
    have HNO := Lib.hid hno
    clear hgi hur hno
    go_upto_region 11 with fail
    go_cut [72] (fun v wd => v = .bool bo ∧ Upd [] wr wd)
    case first =>
      by_cases hlt : i < n2
      · obtain ⟨x, hxi⟩ : ∃ x, s.ts[i]? = some x := ⟨_, List.getElem?_eq_getElem (by rw [← HN.out.2.1]; exact hlt)⟩
        obtain ⟨b1, o1, e, e0⟩ := HRW.out i x hxi
        cases e
        have hb1l := cellD_lt e0
        replace e0 := (HUR.out.cell (p := ⟨b1, o1 + i * 4, none⟩) hb1l (by simp)).trans e0
        have hlti : (i : Int) < (n2 : Int) := by omega
        have HBO : Hid (bo = decide (x.id < track)) := Lib.hid (by rw [hbo]; simp [hxi])
        clear hbo hxi hb1l
        go_wp2_with fail
        go_quiet (fail)
        go_wp2
        go_meet
        case rel => exact ⟨by rw [HBO.out], (Upd.refl [] wr).drewN _⟩
      · have HBO : Hid (bo = false) := Lib.hid (by rw [hbo]; simp; intro x hx; exact absurd (List.getElem?_eq_some_iff.1 hx).1 (by rw [← HN.out.2.1]; exact hlt))
        have hlti : ¬ ((i : Int) < (n2 : Int)) := by omega
        clear hbo
        go_wp2_with fail
        go_quiet (fail)
        go_wp2
        go_meet
        case rel => exact ⟨by rw [HBO.out], (Upd.refl [] wr).drewN _⟩
    obtain ⟨rfl, hud⟩ := hcut
    have HUC := Lib.hid (HUR.out.next hud)
    have HBO2 := Lib.hid hbo
    clear hbo hud m4 q1 hTw hQw
    cases bo
    case true =>
      have HX : Hid (∃ x, s.ts[i]? = some x ∧ x.id < track) := Lib.hid (by simpa using HBO2.out.symm)
      have hlt : i < n2 := by
        obtain ⟨x, hx, _⟩ := HX.out
        rw [HN.out.2.1]
        exact (List.getElem?_eq_some_iff.1 hx).1
      have hwi : IntKind.i64.wrap ((i : Int) + 1) = (i : Int) + 1 := IntWalk.i64_in _ (by omega)
      go_wp2
      go_roundg (gk - 1)
      case measure => have := HGI.out; omega
      case rel =>
        refine ⟨i + 1, by omega, by have := HGI.out; omega, by go_num, ?_, HUC.out⟩
        intro k x hx hk
        by_cases hki : k = i
        · subst hki
          obtain ⟨y, hy, hyw⟩ := HX.out
          rw [hx] at hy
          obtain rfl := Option.some.inj hy
          unfold cT
          rw [cmpI_neg]
          exact hyw
        · exact HNO.out k x hx (by omega)
    case false =>
      have HLO : Hid (low (cT track) s.ts = i) := Lib.hid (by
        refine low_eq (by rw [← HN.out.2.1]; exact hi) HNO.out ?_
        intro k x hx hk
        have hb : ¬ ∃ x, s.ts[i]? = some x ∧ x.id < track := by simpa using HBO2.out.symm
        have hkn := (List.getElem?_eq_some_iff.1 hx).1
        have hlt : i < s.ts.length := by omega
        have h0 : ¬ (s.ts[i].id < track) := fun h => hb ⟨_, List.getElem?_eq_getElem hlt, h⟩
        have h1 : ¬ (x.id < track) := by
          by_cases hki : k = i
          · subst hki
            rw [List.getElem?_eq_getElem hlt] at hx
            obtain rfl := Option.some.inj hx
            exact h0
          · have := (List.pairwise_iff_getElem.1 HI.out.ut) i k hlt hkn (by omega)
            rw [List.getElem?_eq_getElem hkn] at hx
            obtain rfl := Option.some.inj hx
            omega
        have : ¬ (cT track x < 0) := by unfold cT; rw [cmpI_neg]; exact h1
        omega)
      have HLN : Hid (n2 = tx.length) := HNX
      have HLS : Hid (n2 = s.ts.length) := Lib.hid HN.out.2.1
      have HBT1 := HBT4
      have HBR1 := HBR4
      have HBQ1 := HBQ4
      have HU1 := HU4
      obtain ⟨j0, hj0, hy0, hy1, hy2⟩ := info_parts infoRT
      have HRP := Lib.hid (HS.out.upd (HU1.out.next HUC.out)).t
      have hle := HRP.out.le
      have hcm := HRP.out.cm
      have hnil := HRP.out.nl
      dsimp only at hle hcm hnil
      rw [← HLS.out] at hle hnil
      have hin : (i : Int) ≤ (n2 : Int) := by omega
      have hbt2 := HBT1.out.upd HUC.out (by simp)
      have m4 : wc.cell? ⟨T, 5, none⟩ = some (.slice tA n2 tc) := hbt2.cell 5
      clear hbt2
      rcases tA with _ | a0
      · obtain ⟨hz, hzc⟩ := hnil rfl
        have hiz : i = 0 := by omega
        subst hiz
        obtain rfl := hz
        obtain rfl := hzc
        go_wp2_with (at_builtin; refine wpList_append_src wc rfl (.tmp 75) (.tmp 79) 34 rfl wc.heap.size 60 j0 _ 4 48 Try.underlying34 hj0 hy0 hy1 hy2 rfl (by decide) (.slice none 0 0) 0 [] rfl (World.ownsRow_nil _ _ _ _) none 0 0 ((tx.take 0).flatMap encT) rfl (fun e => by first | exact ⟨rfl, rfl⟩ | cases e) (by rw [flat_length encT_len, List.length_take, ← HLN.out, Nat.min_eq_left hi]) (fun _ e => by cases e) (flat_ones encT_one _) (by unfold maxLen; omega) (by omega) (Nat.le_refl _) ?_)
        intro v6 w6 hown6 hg6 _
        obtain ⟨A6, d6, hv6, _⟩ := own_form hown6
        subst hv6
        have HU6 : Hid (Upd [] wc w6) := Lib.hid (Upd.of_below ((Upd.of_grown hg6).below (Nat.le_refl _) (fun s hs => by
          rw [own_list] at hs
          simp at hs)))
        have HOWN6 := Lib.hid hown6
        have HW6 := Lib.hid (HU1.out.next (HUC.out.next HU6.out))
        clear hown6 hg6 m4
        have hbq6 := HBQ1.out.upd (HUC.out.next HU6.out) (by simp)
        have q1 : w6.cell? ⟨T + 1, 1, none⟩ = some (.int .i64 who) := hbq6.cell 1
        have q4 : w6.cell? ⟨T + 1, 4, none⟩ = some (.int .i64 track) := hbq6.cell 4
        have q5 : w6.cell? ⟨T + 1, 5, none⟩ = some (.slice qA ql qc) := hbq6.cell 5
        clear hbq6
        obtain ⟨V, hV⟩ : ∃ V, V = w6.heap.size := ⟨_, rfl⟩
        obtain ⟨w7, hw7⟩ : ∃ W3, W3 = w6.alloc (.cells #[.int .i64 track, .int .i64 who, .int .i64 0, .slice qA ql qc] 60) := ⟨_, rfl⟩
        have u7 : Upd [] w6 w7 := by rw [hw7]; exact (Upd.refl [] w6).alloc _
        have hVB : Blk w7 V 60 (encT ((⟨track, who, 0, ss⟩, ⟨qA, qc⟩) : Trk × SH)).toArray := by rw [hw7, hV]; unfold encT; dsimp only; rw [← HQL.out]; exact Blk.new _ _ _
        have HV := Lib.hid hV
        have HW7 := Lib.hid hw7
        have HU7 := Lib.hid u7
        have HVB := Lib.hid hVB
        clear hV hw7 u7 hVB
        go_wp2_with (at_builtin; go_loud (rw [← HW7.out, ← HV.out]; refine wpList_append_src w7 rfl (.tmp 81) (.tmp 89) 34 rfl wc.heap.size 60 j0 _ 4 48 Try.underlying34 hj0 hy0 hy1 hy2 rfl (by decide) (.slice A6 0 d6) 0 _ rfl (ownsRow_upd HOWN6.out HU7.out (by simp)) (some ⟨V, 0, none⟩) 1 1 (encT ((⟨track, who, 0, ss⟩, ⟨qA, qc⟩) : Trk × SH)) rfl (fun e => by cases e) rfl (row_lit HVB.out) (encT_one _) (by unfold maxLen; omega) (by omega) (Nat.le_trans HU6.out.size HU7.out.size) ?_))
        intro v8 w8 hown8 hg8 _
        obtain ⟨A8, d8, hv8, _⟩ := own_form hown8
        subst hv8
        have HU8 : Hid (Upd [] wc w8) := Lib.hid (Upd.of_below (((HU6.out.next HU7.out).below (Nat.le_refl _) (by simp)).trans ((Upd.of_grown hg8).below (Nat.le_trans HU6.out.size HU7.out.size) (fun s hs => by
          rw [own_list] at hs
          exact (own_in (ownsRow_upd HOWN6.out HU7.out (by simp)) s hs).2))))
        have HOWN8 := Lib.hid hown8
        clear hown8 hg8 q1 q4 q5
        have hbt8 := HBT1.out.upd (HUC.out.next HU8.out) (by simp)
        have m4 : w8.cell? ⟨T, 5, none⟩ = some (.slice none 0 0) := hbt8.cell 5
        have HBT8 := Lib.hid hbt8
        clear hbt8
        go_wp2_with (at_builtin; go_loud (refine wpList_append_src w8 rfl (.tmp 91) (.tmp 95) 34 rfl wc.heap.size 60 j0 _ 4 48 Try.underlying34 hj0 hy0 hy1 hy2 rfl (by decide) (.slice A8 (0 + 1) d8) (0 + 1) _ rfl HOWN8.out none 0 0 ((tx.drop 0).flatMap encT) rfl (fun e => by first | exact ⟨rfl, rfl⟩ | cases e) (by rw [flat_length encT_len, List.length_drop, ← HLN.out]) (fun _ e => by cases e) (flat_ones encT_one _) (by unfold maxLen; omega) (by omega) HU8.out.size ?_))
        intro v10 w10 hown10 hg10 _
        obtain ⟨A10, d10, hv10, _⟩ := own_form hown10
        subst hv10
        have HU10 : Hid (Upd [] wc w10) := Lib.hid (Upd.of_below ((HU8.out.below (Nat.le_refl _) (by simp)).trans ((Upd.of_grown hg10).below HU8.out.size (fun s hs => by
          rw [own_list] at hs
          exact (own_in HOWN8.out s hs).2))))
        have hbt10 := HBT1.out.upd (HUC.out.next HU10.out) (by simp)
        have hbr10 := HBR1.out.upd (HUC.out.next HU10.out) (by simp)
        have f4 := hbt10.frozen 5
        have e4 : w10.cell? ⟨T, 5, none⟩ = some (.slice none 0 0) := hbt10.cell 5
        obtain ⟨w11, hw11⟩ : ∃ w11, w11 = w10.setCell ⟨T, 5, none⟩ (.slice A10 1 d10) := ⟨_, rfl⟩
        have us : Upd [T] w10 w11 := by rw [hw11]; exact (Upd.refl [T] w10).setCell (.inl (by simp)) _
        have HBT11 : Hid (Blk w11 T 37 #[.int .i64 c1, .int .i64 c2, .int .i64 c3, .int .i64 c4, .slice (some ⟨bP, oP, none⟩) n1 pc, .slice A10 1 d10, .slice bA n3 bc]) := Lib.hid (by rw [hw11]; exact hbt10.store 5 _)
        have HBR11 := Lib.hid (hbr10.upd us (by simp; omega))
        have HU11 : Hid (Upd [] w w11) := Lib.hid (((HU1.out.next (HUC.out.next HU10.out))).box' us (by rw [HT.out]; exact Nat.le_refl _))
        have HOWN11 : Hid (w11.ownsRow wc.heap.size 60 4 (.slice A10 1 d10) 1 ((ins tx 0 ((⟨track, who, 0, ss⟩, ⟨qA, qc⟩) : Trk × SH)).flatMap encT)) := Lib.hid (by
          have h := ownsRow_upd hown10 us (fun s hs hg => by rw [List.mem_singleton] at hs; subst hs; exact own_box hown10 hbt10 (by decide) hg)
          unfold ins
          simpa using h)
        have HLEN : Hid ((ins tx 0 ((⟨track, who, 0, ss⟩, ⟨qA, qc⟩) : Trk × SH)).length = 1) := Lib.hid (by have h0 := HLN.out; unfold ins; rw [List.length_append, List.length_cons, List.length_take, List.length_drop]; omega)
        have HW11 := Lib.hid hw11
        clear hown10 hg10 us hw11 hbr10
        go_upto_region 17 with fail
        rw [← HW11.out]
        clear f4 e4 hbt10
        obtain ⟨kx, ux⟩ := blk7 HBR11.out (.int .i64 c1) (.int .i64 c2) (.int .i64 c3) (.int .i64 c4) (.slice (some ⟨bP, oP, none⟩) n1 pc) (.slice A10 1 d10) (.slice bA n3 bc)
        obtain ⟨wx, hwx⟩ : ∃ wx, wx = (((((((w11.setCell ⟨T + 1 + 1, 0, none⟩ (.int .i64 c1)).setCell ⟨T + 1 + 1, 1, none⟩ (.int .i64 c2)).setCell ⟨T + 1 + 1, 2, none⟩ (.int .i64 c3)).setCell ⟨T + 1 + 1, 3, none⟩ (.int .i64 c4)).setCell ⟨T + 1 + 1, 4, none⟩ (.slice (some ⟨bP, oP, none⟩) n1 pc)).setCell ⟨T + 1 + 1, 5, none⟩ (.slice A10 1 d10)).setCell ⟨T + 1 + 1, 6, none⟩ (.slice bA n3 bc)) := ⟨_, rfl⟩
        rw [← hwx] at kx ux
        have HKX := Lib.hid kx
        have HUX := Lib.hid ux
        have HWX := Lib.hid hwx
        clear kx ux hwx
        have m0 : w11.cell? ⟨T, 0, none⟩ = some (.int .i64 c1) := HBT11.out.cell 0
        have m1 : w11.cell? ⟨T, 1, none⟩ = some (.int .i64 c2) := HBT11.out.cell 1
        have m2 : w11.cell? ⟨T, 2, none⟩ = some (.int .i64 c3) := HBT11.out.cell 2
        have m3 : w11.cell? ⟨T, 3, none⟩ = some (.int .i64 c4) := HBT11.out.cell 3
        have m4 : w11.cell? ⟨T, 4, none⟩ = some (.slice (some ⟨bP, oP, none⟩) n1 pc) := HBT11.out.cell 4
        have m5 : w11.cell? ⟨T, 5, none⟩ = some (.slice A10 1 d10) := HBT11.out.cell 5
        have m6 : w11.cell? ⟨T, 6, none⟩ = some (.slice bA n3 bc) := HBT11.out.cell 6
        have n10 := HBR11.out.frozen 0
        have o0 : w11.cell? ⟨T + 1 + 1, 0, none⟩ = some (.int .i64 0) := HBR11.out.cell 0
        have n11 := HBR11.out.frozen 1
        have o1 : w11.cell? ⟨T + 1 + 1, 1, none⟩ = some (.int .i64 0) := HBR11.out.cell 1
        have n12 := HBR11.out.frozen 2
        have o2 : w11.cell? ⟨T + 1 + 1, 2, none⟩ = some (.int .i64 0) := HBR11.out.cell 2
        have n13 := HBR11.out.frozen 3
        have o3 : w11.cell? ⟨T + 1 + 1, 3, none⟩ = some (.int .i64 0) := HBR11.out.cell 3
        have n14 := HBR11.out.frozen 4
        have o4 : w11.cell? ⟨T + 1 + 1, 4, none⟩ = some (.slice none 0 0) := HBR11.out.cell 4
        have n15 := HBR11.out.frozen 5
        have o5 : w11.cell? ⟨T + 1 + 1, 5, none⟩ = some (.slice none 0 0) := HBR11.out.cell 5
        have n16 := HBR11.out.frozen 6
        have o6 : w11.cell? ⟨T + 1 + 1, 6, none⟩ = some (.slice none 0 0) := HBR11.out.cell 6
        go_wp2
        rw [← HWX.out]
        have g0 := HKX.out.cell 0
        have g1 := HKX.out.cell 1
        have g2 := HKX.out.cell 2
        have g3 := HKX.out.cell 3
        have g4 := HKX.out.cell 4
        have g5 := HKX.out.cell 5
        have g6 := HKX.out.cell 6
        simp only [List.getElem?_toArray, List.getElem?_cons_zero, List.getElem?_cons_succ] at g0 g1 g2 g3 g4 g5 g6
        refine bodyPost_res (v := .tuple #[.agg #[.int .i64 c1, .int .i64 c2, .int .i64 c3, .int .i64 c4, .slice (some ⟨bP, oP, none⟩) n1 pc, .slice A10 1 d10, .slice bA n3 bc], .int .i64 0]) (by simp [results, Try.results37, go_sem, Addr.add, g0, g1, g2, g3, g4, g5, g6]) rfl ?_
        have HOWN12 := ownsRow_upd HOWN11.out HUX.out (fun s hs hg => by rw [List.mem_singleton] at hs; subst hs; exact own_box HOWN11.out HBR11.out (by decide) hg)
        have HFIN := HU11.out.box HUX.out HT.out
        have hlx : (ins tx 0 ((⟨track, who, 0, ss⟩, ⟨qA, qc⟩) : Trk × SH)).map (·.1) = ins s.ts 0 ⟨track, who, 0, ss⟩ := by
          rw [map_ins, ← HS.out.tx]
        have hlt : (ins s.ts 0 (⟨track, who, 0, ss⟩ : Trk)).length = 1 := by rw [← hlx, List.length_map, HLEN.out]
        refine ⟨⟨(some ⟨bP, oP, none⟩), pc, ins tx 0 (⟨track, who, 0, ss⟩, ⟨qA, qc⟩), A10, d10, bA, bc⟩, ?_, ?_, ?_, HFIN⟩
        · rw [H8.out, HLO.out]
          unfold scells
          dsimp only
          rw [← HC.out, hlt, ← HN.out.1, ← HN.out.2.2]
        · rw [H8.out, HLO.out]
          have k := HS.out.upd HFIN
          refine ⟨k.p, ?_, k.b, hlx, ?_⟩
          · dsimp only
            rw [hlt]
            exact (RwIn.of_own HOWN12).more (Nat.zero_le _)
          · intro x hx
            rcases mem_ins.1 hx with rfl | hx
            · exact HQ.out.upd HFIN
            · exact k.ss x hx
        · intro g hg hq ha
          rw [H8.out, HLO.out]
          refine ⟨ha.p, ?_, ha.b, ?_⟩
          · dsimp only
            rw [hlt]
            exact own_av HOWN12 (Nat.lt_of_lt_of_le hg (HU1.out.next HUC.out).size)
          · intro x hx
            rcases mem_ins.1 hx with rfl | hx
            · exact hq
            · exact ha.ss x hx
      · go_wp2_with (at_builtin; refine wpList_append_src wc rfl (.tmp 75) (.tmp 79) 34 rfl wc.heap.size 60 j0 _ 4 48 Try.underlying34 hj0 hy0 hy1 hy2 rfl (by decide) (.slice none 0 0) 0 [] rfl (World.ownsRow_nil _ _ _ _) (some a0) i tc ((tx.take i).flatMap encT) rfl (fun e => by first | exact ⟨rfl, rfl⟩ | cases e) (by rw [flat_length encT_len, List.length_take, ← HLN.out, Nat.min_eq_left hi]) (HRP.out.piece0 encT_len) (flat_ones encT_one _) (by unfold maxLen; omega) (by omega) (Nat.le_refl _) ?_)
        intro v6 w6 hown6 hg6 _
        obtain ⟨A6, d6, hv6, _⟩ := own_form hown6
        subst hv6
        have HU6 : Hid (Upd [] wc w6) := Lib.hid (Upd.of_below ((Upd.of_grown hg6).below (Nat.le_refl _) (fun s hs => by
          rw [own_list] at hs
          simp at hs)))
        have HOWN6 := Lib.hid hown6
        have HW6 := Lib.hid (HU1.out.next (HUC.out.next HU6.out))
        clear hown6 hg6 m4
        have hbq6 := HBQ1.out.upd (HUC.out.next HU6.out) (by simp)
        have q1 : w6.cell? ⟨T + 1, 1, none⟩ = some (.int .i64 who) := hbq6.cell 1
        have q4 : w6.cell? ⟨T + 1, 4, none⟩ = some (.int .i64 track) := hbq6.cell 4
        have q5 : w6.cell? ⟨T + 1, 5, none⟩ = some (.slice qA ql qc) := hbq6.cell 5
        clear hbq6
        obtain ⟨V, hV⟩ : ∃ V, V = w6.heap.size := ⟨_, rfl⟩
        obtain ⟨w7, hw7⟩ : ∃ W3, W3 = w6.alloc (.cells #[.int .i64 track, .int .i64 who, .int .i64 0, .slice qA ql qc] 60) := ⟨_, rfl⟩
        have u7 : Upd [] w6 w7 := by rw [hw7]; exact (Upd.refl [] w6).alloc _
        have hVB : Blk w7 V 60 (encT ((⟨track, who, 0, ss⟩, ⟨qA, qc⟩) : Trk × SH)).toArray := by rw [hw7, hV]; unfold encT; dsimp only; rw [← HQL.out]; exact Blk.new _ _ _
        have HV := Lib.hid hV
        have HW7 := Lib.hid hw7
        have HU7 := Lib.hid u7
        have HVB := Lib.hid hVB
        clear hV hw7 u7 hVB
        go_wp2_with (at_builtin; go_loud (rw [← HW7.out, ← HV.out]; refine wpList_append_src w7 rfl (.tmp 81) (.tmp 89) 34 rfl wc.heap.size 60 j0 _ 4 48 Try.underlying34 hj0 hy0 hy1 hy2 rfl (by decide) (.slice A6 i d6) i _ rfl (ownsRow_upd HOWN6.out HU7.out (by simp)) (some ⟨V, 0, none⟩) 1 1 (encT ((⟨track, who, 0, ss⟩, ⟨qA, qc⟩) : Trk × SH)) rfl (fun e => by cases e) rfl (row_lit HVB.out) (encT_one _) (by unfold maxLen; omega) (by omega) (Nat.le_trans HU6.out.size HU7.out.size) ?_))
        intro v8 w8 hown8 hg8 _
        obtain ⟨A8, d8, hv8, _⟩ := own_form hown8
        subst hv8
        have HU8 : Hid (Upd [] wc w8) := Lib.hid (Upd.of_below (((HU6.out.next HU7.out).below (Nat.le_refl _) (by simp)).trans ((Upd.of_grown hg8).below (Nat.le_trans HU6.out.size HU7.out.size) (fun s hs => by
          rw [own_list] at hs
          exact (own_in (ownsRow_upd HOWN6.out HU7.out (by simp)) s hs).2))))
        have HOWN8 := Lib.hid hown8
        clear hown8 hg8 q1 q4 q5
        have hbt8 := HBT1.out.upd (HUC.out.next HU8.out) (by simp)
        have m4 : w8.cell? ⟨T, 5, none⟩ = some (.slice (some a0) n2 tc) := hbt8.cell 5
        have HBT8 := Lib.hid hbt8
        clear hbt8
        have hle2 : n2 - i ≤ tc - i := by omega
        by_cases hpc : tc = i
        · go_wp2_with (at_builtin; go_loud (refine wpList_append_src w8 rfl (.tmp 91) (.tmp 95) 34 rfl wc.heap.size 60 j0 _ 4 48 Try.underlying34 hj0 hy0 hy1 hy2 rfl (by decide) (.slice A8 (i + 1) d8) (i + 1) _ rfl HOWN8.out (some a0) (n2 - i) 0 ((tx.drop i).flatMap encT) rfl (fun e => by first | exact ⟨rfl, rfl⟩ | cases e) (by rw [flat_length encT_len, List.length_drop, ← HLN.out]) (by rw [List.drop_eq_nil_of_le (by rw [← HLN.out]; omega)]; intro ad _ j u hj; simp at hj) (flat_ones encT_one _) (by unfold maxLen; omega) (by omega) HU8.out.size ?_))
          intro v10 w10 hown10 hg10 _
          obtain ⟨A10, d10, hv10, _⟩ := own_form hown10
          subst hv10
          have HU10 : Hid (Upd [] wc w10) := Lib.hid (Upd.of_below ((HU8.out.below (Nat.le_refl _) (by simp)).trans ((Upd.of_grown hg10).below HU8.out.size (fun s hs => by
            rw [own_list] at hs
            exact (own_in HOWN8.out s hs).2))))
          have hbt10 := HBT1.out.upd (HUC.out.next HU10.out) (by simp)
          have hbr10 := HBR1.out.upd (HUC.out.next HU10.out) (by simp)
          have f4 := hbt10.frozen 5
          have e4 : w10.cell? ⟨T, 5, none⟩ = some (.slice (some a0) n2 tc) := hbt10.cell 5
          obtain ⟨NN, hNN⟩ : ∃ N, N = i + 1 + (n2 - i) := ⟨_, rfl⟩
          rw [← hNN] at hown10
          obtain ⟨w11, hw11⟩ : ∃ w11, w11 = w10.setCell ⟨T, 5, none⟩ (.slice A10 NN d10) := ⟨_, rfl⟩
          have us : Upd [T] w10 w11 := by rw [hw11]; exact (Upd.refl [T] w10).setCell (.inl (by simp)) _
          have HBT11 : Hid (Blk w11 T 37 #[.int .i64 c1, .int .i64 c2, .int .i64 c3, .int .i64 c4, .slice (some ⟨bP, oP, none⟩) n1 pc, .slice A10 NN d10, .slice bA n3 bc]) := Lib.hid (by rw [hw11]; exact hbt10.store 5 _)
          have HBR11 := Lib.hid (hbr10.upd us (by simp; omega))
          have HU11 : Hid (Upd [] w w11) := Lib.hid (((HU1.out.next (HUC.out.next HU10.out))).box' us (by rw [HT.out]; exact Nat.le_refl _))
          have HOWN11 : Hid (w11.ownsRow wc.heap.size 60 4 (.slice A10 NN d10) NN ((ins tx i ((⟨track, who, 0, ss⟩, ⟨qA, qc⟩) : Trk × SH)).flatMap encT)) := Lib.hid (by
            have h := ownsRow_upd hown10 us (fun s hs hg => by rw [List.mem_singleton] at hs; subst hs; exact own_box hown10 hbt10 (by decide) hg)
            unfold ins
            rw [List.flatMap_append, List.flatMap_cons]
            exact h)
          have HLEN : Hid ((ins tx i ((⟨track, who, 0, ss⟩, ⟨qA, qc⟩) : Trk × SH)).length = NN) := Lib.hid (by rw [hNN, HLN.out]; unfold ins; rw [List.length_append, List.length_cons, List.length_take, List.length_drop, Nat.min_eq_left (by rw [← HLN.out]; exact hi)]; omega)
          have HNN := Lib.hid hNN
          have HW11 := Lib.hid hw11
          clear hown10 hg10 us hw11 hbr10 hNN
          rw [← HNN.out]
          go_upto_region 17 with fail
          rw [← HW11.out]
          clear f4 e4 hbt10
          obtain ⟨kx, ux⟩ := blk7 HBR11.out (.int .i64 c1) (.int .i64 c2) (.int .i64 c3) (.int .i64 c4) (.slice (some ⟨bP, oP, none⟩) n1 pc) (.slice A10 NN d10) (.slice bA n3 bc)
          obtain ⟨wx, hwx⟩ : ∃ wx, wx = (((((((w11.setCell ⟨T + 1 + 1, 0, none⟩ (.int .i64 c1)).setCell ⟨T + 1 + 1, 1, none⟩ (.int .i64 c2)).setCell ⟨T + 1 + 1, 2, none⟩ (.int .i64 c3)).setCell ⟨T + 1 + 1, 3, none⟩ (.int .i64 c4)).setCell ⟨T + 1 + 1, 4, none⟩ (.slice (some ⟨bP, oP, none⟩) n1 pc)).setCell ⟨T + 1 + 1, 5, none⟩ (.slice A10 NN d10)).setCell ⟨T + 1 + 1, 6, none⟩ (.slice bA n3 bc)) := ⟨_, rfl⟩
          rw [← hwx] at kx ux
          have HKX := Lib.hid kx
          have HUX := Lib.hid ux
          have HWX := Lib.hid hwx
          clear kx ux hwx
          have m0 : w11.cell? ⟨T, 0, none⟩ = some (.int .i64 c1) := HBT11.out.cell 0
          have m1 : w11.cell? ⟨T, 1, none⟩ = some (.int .i64 c2) := HBT11.out.cell 1
          have m2 : w11.cell? ⟨T, 2, none⟩ = some (.int .i64 c3) := HBT11.out.cell 2
          have m3 : w11.cell? ⟨T, 3, none⟩ = some (.int .i64 c4) := HBT11.out.cell 3
          have m4 : w11.cell? ⟨T, 4, none⟩ = some (.slice (some ⟨bP, oP, none⟩) n1 pc) := HBT11.out.cell 4
          have m5 : w11.cell? ⟨T, 5, none⟩ = some (.slice A10 NN d10) := HBT11.out.cell 5
          have m6 : w11.cell? ⟨T, 6, none⟩ = some (.slice bA n3 bc) := HBT11.out.cell 6
          have n10 := HBR11.out.frozen 0
          have o0 : w11.cell? ⟨T + 1 + 1, 0, none⟩ = some (.int .i64 0) := HBR11.out.cell 0
          have n11 := HBR11.out.frozen 1
          have o1 : w11.cell? ⟨T + 1 + 1, 1, none⟩ = some (.int .i64 0) := HBR11.out.cell 1
          have n12 := HBR11.out.frozen 2
          have o2 : w11.cell? ⟨T + 1 + 1, 2, none⟩ = some (.int .i64 0) := HBR11.out.cell 2
          have n13 := HBR11.out.frozen 3
          have o3 : w11.cell? ⟨T + 1 + 1, 3, none⟩ = some (.int .i64 0) := HBR11.out.cell 3
          have n14 := HBR11.out.frozen 4
          have o4 : w11.cell? ⟨T + 1 + 1, 4, none⟩ = some (.slice none 0 0) := HBR11.out.cell 4
          have n15 := HBR11.out.frozen 5
          have o5 : w11.cell? ⟨T + 1 + 1, 5, none⟩ = some (.slice none 0 0) := HBR11.out.cell 5
          have n16 := HBR11.out.frozen 6
          have o6 : w11.cell? ⟨T + 1 + 1, 6, none⟩ = some (.slice none 0 0) := HBR11.out.cell 6
          go_wp2
          rw [← HWX.out]
          have g0 := HKX.out.cell 0
          have g1 := HKX.out.cell 1
          have g2 := HKX.out.cell 2
          have g3 := HKX.out.cell 3
          have g4 := HKX.out.cell 4
          have g5 := HKX.out.cell 5
          have g6 := HKX.out.cell 6
          simp only [List.getElem?_toArray, List.getElem?_cons_zero, List.getElem?_cons_succ] at g0 g1 g2 g3 g4 g5 g6
          refine bodyPost_res (v := .tuple #[.agg #[.int .i64 c1, .int .i64 c2, .int .i64 c3, .int .i64 c4, .slice (some ⟨bP, oP, none⟩) n1 pc, .slice A10 NN d10, .slice bA n3 bc], .int .i64 0]) (by simp [results, Try.results37, go_sem, Addr.add, g0, g1, g2, g3, g4, g5, g6]) rfl ?_
          have HOWN12 := ownsRow_upd HOWN11.out HUX.out (fun s hs hg => by rw [List.mem_singleton] at hs; subst hs; exact own_box HOWN11.out HBR11.out (by decide) hg)
          have HFIN := HU11.out.box HUX.out HT.out
          have hlx : (ins tx i ((⟨track, who, 0, ss⟩, ⟨qA, qc⟩) : Trk × SH)).map (·.1) = ins s.ts i ⟨track, who, 0, ss⟩ := by
            rw [map_ins, ← HS.out.tx]
          have hlt : (ins s.ts i (⟨track, who, 0, ss⟩ : Trk)).length = NN := by rw [← hlx, List.length_map, HLEN.out]
          refine ⟨⟨(some ⟨bP, oP, none⟩), pc, ins tx i (⟨track, who, 0, ss⟩, ⟨qA, qc⟩), A10, d10, bA, bc⟩, ?_, ?_, ?_, HFIN⟩
          · rw [H8.out, HLO.out]
            unfold scells
            dsimp only
            rw [← HC.out, hlt, ← HN.out.1, ← HN.out.2.2]
          · rw [H8.out, HLO.out]
            have k := HS.out.upd HFIN
            refine ⟨k.p, ?_, k.b, hlx, ?_⟩
            · dsimp only
              rw [hlt]
              exact (RwIn.of_own HOWN12).more (Nat.zero_le _)
            · intro x hx
              rcases mem_ins.1 hx with rfl | hx
              · exact HQ.out.upd HFIN
              · exact k.ss x hx
          · intro g hg hq ha
            rw [H8.out, HLO.out]
            refine ⟨ha.p, ?_, ha.b, ?_⟩
            · dsimp only
              rw [hlt]
              exact own_av HOWN12 (Nat.lt_of_lt_of_le hg (HU1.out.next HUC.out).size)
            · intro x hx
              rcases mem_ins.1 hx with rfl | hx
              · exact hq
              · exact ha.ss x hx
        · go_wp2_with (at_builtin; go_loud (refine wpList_append_src w8 rfl (.tmp 91) (.tmp 95) 34 rfl wc.heap.size 60 j0 _ 4 48 Try.underlying34 hj0 hy0 hy1 hy2 rfl (by decide) (.slice A8 (i + 1) d8) (i + 1) _ rfl HOWN8.out (some (a0.add (i * 4))) (n2 - i) (tc - i) ((tx.drop i).flatMap encT) rfl (fun e => by first | exact ⟨rfl, rfl⟩ | cases e) (by rw [flat_length encT_len, List.length_drop, ← HLN.out]) ((HRP.out.upd HU8.out).piece1 encT_len rfl) (flat_ones encT_one _) (by unfold maxLen; omega) (by omega) HU8.out.size ?_))
          intro v10 w10 hown10 hg10 _
          obtain ⟨A10, d10, hv10, _⟩ := own_form hown10
          subst hv10
          have HU10 : Hid (Upd [] wc w10) := Lib.hid (Upd.of_below ((HU8.out.below (Nat.le_refl _) (by simp)).trans ((Upd.of_grown hg10).below HU8.out.size (fun s hs => by
            rw [own_list] at hs
            exact (own_in HOWN8.out s hs).2))))
          have hbt10 := HBT1.out.upd (HUC.out.next HU10.out) (by simp)
          have hbr10 := HBR1.out.upd (HUC.out.next HU10.out) (by simp)
          have f4 := hbt10.frozen 5
          have e4 : w10.cell? ⟨T, 5, none⟩ = some (.slice (some a0) n2 tc) := hbt10.cell 5
          obtain ⟨NN, hNN⟩ : ∃ N, N = i + 1 + (n2 - i) := ⟨_, rfl⟩
          rw [← hNN] at hown10
          obtain ⟨w11, hw11⟩ : ∃ w11, w11 = w10.setCell ⟨T, 5, none⟩ (.slice A10 NN d10) := ⟨_, rfl⟩
          have us : Upd [T] w10 w11 := by rw [hw11]; exact (Upd.refl [T] w10).setCell (.inl (by simp)) _
          have HBT11 : Hid (Blk w11 T 37 #[.int .i64 c1, .int .i64 c2, .int .i64 c3, .int .i64 c4, .slice (some ⟨bP, oP, none⟩) n1 pc, .slice A10 NN d10, .slice bA n3 bc]) := Lib.hid (by rw [hw11]; exact hbt10.store 5 _)
          have HBR11 := Lib.hid (hbr10.upd us (by simp; omega))
          have HU11 : Hid (Upd [] w w11) := Lib.hid (((HU1.out.next (HUC.out.next HU10.out))).box' us (by rw [HT.out]; exact Nat.le_refl _))
          have HOWN11 : Hid (w11.ownsRow wc.heap.size 60 4 (.slice A10 NN d10) NN ((ins tx i ((⟨track, who, 0, ss⟩, ⟨qA, qc⟩) : Trk × SH)).flatMap encT)) := Lib.hid (by
            have h := ownsRow_upd hown10 us (fun s hs hg => by rw [List.mem_singleton] at hs; subst hs; exact own_box hown10 hbt10 (by decide) hg)
            unfold ins
            rw [List.flatMap_append, List.flatMap_cons]
            exact h)
          have HLEN : Hid ((ins tx i ((⟨track, who, 0, ss⟩, ⟨qA, qc⟩) : Trk × SH)).length = NN) := Lib.hid (by rw [hNN, HLN.out]; unfold ins; rw [List.length_append, List.length_cons, List.length_take, List.length_drop, Nat.min_eq_left (by rw [← HLN.out]; exact hi)]; omega)
          have HNN := Lib.hid hNN
          have HW11 := Lib.hid hw11
          clear hown10 hg10 us hw11 hbr10 hNN
          rw [← HNN.out]
          go_upto_region 17 with fail
          rw [← HW11.out]
          clear f4 e4 hbt10
          obtain ⟨kx, ux⟩ := blk7 HBR11.out (.int .i64 c1) (.int .i64 c2) (.int .i64 c3) (.int .i64 c4) (.slice (some ⟨bP, oP, none⟩) n1 pc) (.slice A10 NN d10) (.slice bA n3 bc)
          obtain ⟨wx, hwx⟩ : ∃ wx, wx = (((((((w11.setCell ⟨T + 1 + 1, 0, none⟩ (.int .i64 c1)).setCell ⟨T + 1 + 1, 1, none⟩ (.int .i64 c2)).setCell ⟨T + 1 + 1, 2, none⟩ (.int .i64 c3)).setCell ⟨T + 1 + 1, 3, none⟩ (.int .i64 c4)).setCell ⟨T + 1 + 1, 4, none⟩ (.slice (some ⟨bP, oP, none⟩) n1 pc)).setCell ⟨T + 1 + 1, 5, none⟩ (.slice A10 NN d10)).setCell ⟨T + 1 + 1, 6, none⟩ (.slice bA n3 bc)) := ⟨_, rfl⟩
          rw [← hwx] at kx ux
          have HKX := Lib.hid kx
          have HUX := Lib.hid ux
          have HWX := Lib.hid hwx
          clear kx ux hwx
          have m0 : w11.cell? ⟨T, 0, none⟩ = some (.int .i64 c1) := HBT11.out.cell 0
          have m1 : w11.cell? ⟨T, 1, none⟩ = some (.int .i64 c2) := HBT11.out.cell 1
          have m2 : w11.cell? ⟨T, 2, none⟩ = some (.int .i64 c3) := HBT11.out.cell 2
          have m3 : w11.cell? ⟨T, 3, none⟩ = some (.int .i64 c4) := HBT11.out.cell 3
          have m4 : w11.cell? ⟨T, 4, none⟩ = some (.slice (some ⟨bP, oP, none⟩) n1 pc) := HBT11.out.cell 4
          have m5 : w11.cell? ⟨T, 5, none⟩ = some (.slice A10 NN d10) := HBT11.out.cell 5
          have m6 : w11.cell? ⟨T, 6, none⟩ = some (.slice bA n3 bc) := HBT11.out.cell 6
          have n10 := HBR11.out.frozen 0
          have o0 : w11.cell? ⟨T + 1 + 1, 0, none⟩ = some (.int .i64 0) := HBR11.out.cell 0
          have n11 := HBR11.out.frozen 1
          have o1 : w11.cell? ⟨T + 1 + 1, 1, none⟩ = some (.int .i64 0) := HBR11.out.cell 1
          have n12 := HBR11.out.frozen 2
          have o2 : w11.cell? ⟨T + 1 + 1, 2, none⟩ = some (.int .i64 0) := HBR11.out.cell 2
          have n13 := HBR11.out.frozen 3
          have o3 : w11.cell? ⟨T + 1 + 1, 3, none⟩ = some (.int .i64 0) := HBR11.out.cell 3
          have n14 := HBR11.out.frozen 4
          have o4 : w11.cell? ⟨T + 1 + 1, 4, none⟩ = some (.slice none 0 0) := HBR11.out.cell 4
          have n15 := HBR11.out.frozen 5
          have o5 : w11.cell? ⟨T + 1 + 1, 5, none⟩ = some (.slice none 0 0) := HBR11.out.cell 5
          have n16 := HBR11.out.frozen 6
          have o6 : w11.cell? ⟨T + 1 + 1, 6, none⟩ = some (.slice none 0 0) := HBR11.out.cell 6
          go_wp2
          rw [← HWX.out]
          have g0 := HKX.out.cell 0
          have g1 := HKX.out.cell 1
          have g2 := HKX.out.cell 2
          have g3 := HKX.out.cell 3
          have g4 := HKX.out.cell 4
          have g5 := HKX.out.cell 5
          have g6 := HKX.out.cell 6
          simp only [List.getElem?_toArray, List.getElem?_cons_zero, List.getElem?_cons_succ] at g0 g1 g2 g3 g4 g5 g6
          refine bodyPost_res (v := .tuple #[.agg #[.int .i64 c1, .int .i64 c2, .int .i64 c3, .int .i64 c4, .slice (some ⟨bP, oP, none⟩) n1 pc, .slice A10 NN d10, .slice bA n3 bc], .int .i64 0]) (by simp [results, Try.results37, go_sem, Addr.add, g0, g1, g2, g3, g4, g5, g6]) rfl ?_
          have HOWN12 := ownsRow_upd HOWN11.out HUX.out (fun s hs hg => by rw [List.mem_singleton] at hs; subst hs; exact own_box HOWN11.out HBR11.out (by decide) hg)
          have HFIN := HU11.out.box HUX.out HT.out
          have hlx : (ins tx i ((⟨track, who, 0, ss⟩, ⟨qA, qc⟩) : Trk × SH)).map (·.1) = ins s.ts i ⟨track, who, 0, ss⟩ := by
            rw [map_ins, ← HS.out.tx]
          have hlt : (ins s.ts i (⟨track, who, 0, ss⟩ : Trk)).length = NN := by rw [← hlx, List.length_map, HLEN.out]
          refine ⟨⟨(some ⟨bP, oP, none⟩), pc, ins tx i (⟨track, who, 0, ss⟩, ⟨qA, qc⟩), A10, d10, bA, bc⟩, ?_, ?_, ?_, HFIN⟩
          · rw [H8.out, HLO.out]
            unfold scells
            dsimp only
            rw [← HC.out, hlt, ← HN.out.1, ← HN.out.2.2]
          · rw [H8.out, HLO.out]
            have k := HS.out.upd HFIN
            refine ⟨k.p, ?_, k.b, hlx, ?_⟩
            · dsimp only
              rw [hlt]
              exact (RwIn.of_own HOWN12).more (Nat.zero_le _)
            · intro x hx
              rcases mem_ins.1 hx with rfl | hx
              · exact HQ.out.upd HFIN
              · exact k.ss x hx
          · intro g hg hq ha
            rw [H8.out, HLO.out]
            refine ⟨ha.p, ?_, ha.b, ?_⟩
            · dsimp only
              rw [hlt]
              exact own_av HOWN12 (Nat.lt_of_lt_of_le hg (HU1.out.next HUC.out).size)
            · intro x hx
              rcases mem_ins.1 hx with rfl | hx
              · exact hq
              · exact ha.ss x hx
end Go.Proofs.Ytjcbaelefacolaa
/- The layer delta, the document's side: a state without some tracks, and their subs. Conditions: the state in memory; the tracks rise; no more than 1000. -/
namespace Go.Proofs.Ytjcbaelefacolaa
open Go Go.RowKit
set_option maxHeartbeats 400000

def staysT (id owner : Int) (t : Trk) : Bool := !decide (t.id = id) && !decide (t.owner = owner)
def withoutM (s : St) (id owner who : Int) : St :=
  { s with ts := s.ts.filter (staysT id owner), bs := s.bs.filter (fun b => !decide (b.who = who) && has (cT b.track) (s.ts.filter (staysT id owner))) }
theorem filter_take1 {α : Type} {p : α → Bool} {l : List α} {k : Nat} {x : α} (h : l[k]? = some x) : (l.take (k + 1)).filter p = (l.take k).filter p ++ if p x = true then [x] else [] := by
  rw [List.take_add_one, h, List.filter_append]
  cases hp : p x <;> simp [hp]
set_option maxRecDepth 100000 in
set_option maxHeartbeats 4000000 in
theorem rwithout_any {w : World} {s : St} {h : SHd} (hs : StIn w s h) (hu : UpT s.ts) (hl1 : s.ps.length ≤ 1000) (hl2 : s.ts.length ≤ 1000) (hl3 : s.bs.length ≤ 1000) (id owner who : Int) :
    Calls Try.prog 36 #[.agg (scells s h).toArray, .int .i64 id, .int .i64 owner, .int .i64 who] w fun e w' => ∃ h', e = .returned (.agg (scells (withoutM s id owner who) h').toArray) ∧ StIn w' (withoutM s id owner who) h' ∧ (∀ g, g < w.heap.size → Av g s h → Av g (withoutM s id owner who) h') ∧ Upd [] w w' := by
  obtain ⟨T, hT⟩ : ∃ T, T = w.heap.size := ⟨_, rfl⟩
  obtain ⟨W1, hW1⟩ : ∃ W, W = w.alloc (.cells (scells s h).toArray 37) := ⟨_, rfl⟩
  obtain ⟨W, hW⟩ : ∃ W, W = W1.alloc (.cells #[.int .i64 0, .int .i64 0, .int .i64 0, .int .i64 0, .slice none 0 0, .slice none 0 0, .slice none 0 0] 37) := ⟨_, rfl⟩
  have u1 : Upd [] w W1 := by rw [hW1]; exact (Upd.refl [] w).alloc _
  have u2 : Upd [] W1 W := by rw [hW]; exact (Upd.refl [] W1).alloc _
  have s1 : W1.heap.size = T + 1 := by rw [hW1, World.size_alloc, hT]
  have hbT : Blk W T 37 (scells s h).toArray := by
    have : Blk W1 T 37 (scells s h).toArray := by rw [hW1, hT]; exact Blk.new _ _ _
    exact this.upd u2 (by simp)
  have hbR : Blk W (T + 1) 37 #[.int .i64 0, .int .i64 0, .int .i64 0, .int .i64 0, .slice none 0 0, .slice none 0 0, .slice none 0 0] := by rw [hW, ← s1]; exact Blk.new _ _ _
  have HRB := Lib.hid (rowB hs.b rfl)
  have HRT := Lib.hid (rowX hs)
  have HS := Lib.hid hs
  have HUT := Lib.hid hu
  have HL := Lib.hid (And.intro hl1 (And.intro hl2 hl3))
  obtain ⟨n1, hn1⟩ : ∃ n, n = s.ps.length := ⟨_, rfl⟩
  obtain ⟨n2, hn2⟩ : ∃ n, n = s.ts.length := ⟨_, rfl⟩
  obtain ⟨n3, hn3⟩ : ∃ n, n = s.bs.length := ⟨_, rfl⟩
  have hsc : scells s h = [.int .i64 s.c.people, .int .i64 s.c.tracks, .int .i64 s.c.subs, .int .i64 s.c.slots, .slice h.pA n1 h.pc, .slice h.tA n2 h.tc, .slice h.bA n3 h.bc] := by unfold scells; rw [← hn1, ← hn2, ← hn3]
  rw [hsc] at hbT hW1 ⊢
  have HN := Lib.hid (And.intro hn1 (And.intro hn2 hn3))
  rw [← hn1] at hl1
  rw [← hn2] at hl2
  rw [← hn3] at hl3
  obtain ⟨pA, pc, tx, tA, tc, bA, bc⟩ := h
  have hnx : tx.length = n2 := by rw [hn2, ← HS.out.tx, List.length_map]
  have HNX := Lib.hid hnx
  obtain ⟨⟨c1, c2, c3, c4⟩, hc⟩ : ∃ c, c = s.c := ⟨_, rfl⟩
  dsimp only at hbT hW1 HRB HRT ⊢
  rw [← hc] at hbT hW1 ⊢
  dsimp only at hbT hW1 ⊢
  have HC := Lib.hid hc
  have HU := Lib.hid (u1.next u2)
  have HBT := Lib.hid hbT
  have HBR := Lib.hid hbR
  have HT := Lib.hid hT
  clear hsc hn1 hn2 hn3 hc hbT hbR u1 u2 s1 hs hnx hu
  go_enter Try.func36, Try.ntmps36
  go_upto_region 1 with fail
  rw [← hW1, ← hW, ← hT]
  clear hW1 hW hT
  go_wp2
  go_loopg [9, 11] n2 (fun gk x9 x11 wr => ∃ i : Nat, i ≤ n2 ∧ n2 ≤ i + gk ∧ x11 = .int .i64 i ∧ ∃ (A : Option Addr) (c : Nat) (l : List (Trk × SH)) (nl : Nat), x9 = .slice A nl c ∧ nl = l.length ∧ nl ≤ i ∧ l = (tx.take i).filter (fun x => staysT id owner x.1) ∧ wr.ownsRow W.heap.size 60 4 (.slice A nl c) nl (l.flatMap encT) ∧ Upd [] W wr)
  case atStart => exact ⟨0, Nat.zero_le _, by omega, rfl, none, 0, [], 0, rfl, rfl, Nat.le_refl _, by simp, World.ownsRow_nil _ _ _ _, Upd.refl _ _⟩
  case round =>
    obtain ⟨i, hi, hgi, rfl, A, c, l, nl, rfl, hnl, hnli, hlf, hown, hur⟩ := hrel
    have zT : wr.cell? ⟨T, 5, none⟩ = some (.slice tA n2 tc) := (HBT.out.upd hur (by simp)).cell 5
    by_cases hlt : i < n2
    · obtain ⟨x, hxi⟩ : ∃ x, tx[i]? = some x := ⟨_, List.getElem?_eq_getElem (by rw [HNX.out]; exact hlt)⟩
      obtain ⟨b1, o1, e, e0, e1, e2, e3⟩ := HRT.out i x hxi
      cases e
      have hl1' := cellD_lt e0
      have huw := HU.out.next hur
      replace e0 := (huw.cell (p := ⟨b1, o1 + i * 4, none⟩) hl1' (by simp)).trans e0
      replace e1 := (huw.cell (p := ⟨b1, o1 + i * 4 + 1, none⟩) hl1' (by simp)).trans e1
      replace e2 := (huw.cell (p := ⟨b1, o1 + i * 4 + 2, none⟩) hl1' (by simp)).trans e2
      replace e3 := (huw.cell (p := ⟨b1, o1 + i * 4 + 3, none⟩) hl1' (by simp)).trans e3
      have hft := filter_take1 (p := fun x : Trk × SH => staysT id owner x.1) hxi
      rw [← hlf] at hft
      unfold staysT at hft
      obtain ⟨⟨y0, y1, y2, ss⟩, ⟨yA, yc⟩⟩ := x
      dsimp only at e0 e1 e2 e3 hft
      obtain ⟨sl, hsl⟩ : ∃ n, n = ss.length := ⟨_, rfl⟩
      rw [← hsl] at e3
      have hlti : (i : Int) < (n2 : Int) := by omega
      have hwi : IntKind.i64.wrap ((i : Int) + 1) = (i : Int) + 1 := IntWalk.i64_in _ (by omega)
      have HGI := Lib.hid hgi
      have HFT := Lib.hid hft
      have HNL := Lib.hid hnl
      have HOWN := Lib.hid hown
      have HUR := Lib.hid hur
      have HSL := Lib.hid hsl
      clear hxi hgi hft hnl hlf hown hur huw hl1' hsl
      have hno : ∀ (hne : (!decide (y0 = id) && !decide (y1 = owner)) = false), ∃ i' : Nat, i' ≤ n2 ∧ n2 ≤ i' + (gk - 1) ∧ Value.int .i64 ((i : Int) + 1) = .int .i64 i' ∧ ∃ (A' : Option Addr) (c' : Nat) (l' : List (Trk × SH)) (nl' : Nat), Value.slice A nl c = .slice A' nl' c' ∧ nl' = l'.length ∧ nl' ≤ i' ∧ l' = (tx.take i').filter (fun x => staysT id owner x.1) ∧ wr.ownsRow W.heap.size 60 4 (.slice A' nl' c') nl' (l'.flatMap encT) ∧ Upd [] W wr := fun hne =>
        ⟨i + 1, by omega, by have := HGI.out; omega, by go_num, A, c, l, nl, rfl, HNL.out, by omega, by unfold staysT; rw [HFT.out, if_neg (by rw [hne]; decide), List.append_nil], HOWN.out, HUR.out⟩
      have HNO := Lib.hid hno
      clear hno
      by_cases k1 : y0 = id
      · have HNK := Lib.hid (HNO.out (by simp [k1]))
        rw [k1] at e0
        clear HNO k1
        go_wp2
        go_roundg (gk - 1)
        case measure => have := HGI.out; omega
        case rel => exact HNK.out
      by_cases k2 : y1 = owner
      · have HNK := Lib.hid (HNO.out (by simp [k2]))
        have k1b : (y0 != id) = true := by simpa using k1
        rw [k2] at e1
        clear HNO k2 k1
        go_wp2
        go_roundg (gk - 1)
        case measure => have := HGI.out; omega
        case rel => exact HNK.out
      have HST : Hid ((!decide (y0 = id) && !decide (y1 = owner)) = true) := Lib.hid (by simp [k1, k2])
      have k1b : (y0 != id) = true := by simpa using k1
      have k2b : (y1 != owner) = true := by simpa using k2
      clear HNO k1 k2
      obtain ⟨j0, hj0, hy0, hy1, hy2⟩ := info_parts infoRT
      obtain ⟨V, hV⟩ : ∃ V, V = wr.heap.size := ⟨_, rfl⟩
      obtain ⟨W3, hW3⟩ : ∃ W3, W3 = wr.alloc (.cells #[.int .i64 y0, .int .i64 y1, .int .i64 y2, .slice yA sl yc] 60) := ⟨_, rfl⟩
      have u3 : Upd [] wr W3 := by rw [hW3]; exact (Upd.refl [] wr).alloc _
      have hVB : Blk W3 V 60 (encT ((⟨y0, y1, y2, ss⟩, ⟨yA, yc⟩) : Trk × SH)).toArray := by rw [hW3, hV]; unfold encT; dsimp only; rw [← HSL.out]; exact Blk.new _ _ _
      have HV := Lib.hid hV
      have HW3 := Lib.hid hW3
      have HU3 := Lib.hid u3
      have HVB := Lib.hid hVB
      clear hV hW3 u3 hVB
      go_wp2_with (at_builtin; rw [← HW3.out, ← HV.out]; refine wpList_append_src W3 rfl (.tmp 38) (.tmp 44) 34 rfl W.heap.size 60 j0 _ 4 48 Try.underlying34 hj0 hy0 hy1 hy2 rfl (by decide) (.slice A nl c) nl (l.flatMap encT) rfl (ownsRow_upd HOWN.out HU3.out (by simp)) (some ⟨V, 0, none⟩) 1 1 (encT ((⟨y0, y1, y2, ss⟩, ⟨yA, yc⟩) : Trk × SH)) rfl (fun e => by cases e) rfl (row_lit HVB.out) (encT_one _) (by unfold maxLen; omega) (by omega) (Nat.le_trans HUR.out.size HU3.out.size) ?_)
      intro v2 w4 hown4 hg4 _
      obtain ⟨A', c', hv, _⟩ := own_form hown4
      subst hv
      have HU4 : Hid (Upd [] W w4) := Lib.hid (Upd.of_below (((HUR.out.next HU3.out).below (Nat.le_refl _) (by simp)).trans ((Upd.of_grown hg4).below (Nat.le_trans HUR.out.size HU3.out.size) (fun s hs => by
        rw [own_list] at hs
        exact (own_in (ownsRow_upd HOWN.out HU3.out (by simp)) s hs).2))))
      have HOWN4 := Lib.hid hown4
      clear hown4 hg4
      go_wp2
      go_roundg (gk - 1)
      case measure => have := HGI.out; omega
      case rel =>
        refine ⟨i + 1, by omega, by have := HGI.out; omega, by go_num, A', c', l ++ [((⟨y0, y1, y2, ss⟩, ⟨yA, yc⟩) : Trk × SH)], nl + 1, rfl, by rw [List.length_append, ← HNL.out]; rfl, by omega, by unfold staysT; rw [HFT.out, if_pos HST.out], ?_, HU4.out⟩
        rw [List.flatMap_append]
        simpa using HOWN4.out
    · obtain rfl : n2 = i := by omega
      rw [← HNX.out, List.take_length] at hlf
      have hbt := HBT.out.upd hur (by simp)
      have hbr := HBR.out.upd hur (by simp)
      have fT := hbt.frozen 5
      obtain ⟨w5, hw5⟩ : ∃ W, W = wr.setCell ⟨T, 5, none⟩ (.slice A nl c) := ⟨_, rfl⟩
      have us5 : Upd [T] wr w5 := by rw [hw5]; exact (Upd.refl [T] wr).setCell (.inl (by simp)) _
      have HBT5 : Hid (Blk w5 T 37 #[.int .i64 c1, .int .i64 c2, .int .i64 c3, .int .i64 c4, .slice pA n1 pc, .slice A nl c, .slice bA n3 bc]) := Lib.hid (by rw [hw5]; exact hbt.store 5 _)
      have HBR5 : Hid (Blk w5 (T + 1) 37 #[.int .i64 0, .int .i64 0, .int .i64 0, .int .i64 0, .slice none 0 0, .slice none 0 0, .slice none 0 0]) := Lib.hid (hbr.upd us5 (by simp))
      have HO5 : Hid (w5.ownsRow W.heap.size 60 4 (.slice A nl c) nl (l.flatMap encT)) := Lib.hid (ownsRow_upd hown us5 (fun s hs hg => by rw [List.mem_singleton] at hs; subst hs; exact own_box hown hbt (by decide) hg))
      have HU5 : Hid (Upd [] w w5) := Lib.hid (Upd.of_below (((HU.out.next hur).below (Nat.le_refl _) (by simp)).trans (us5.below (HU.out.next hur).size (fun s hs => by rw [List.mem_singleton] at hs; subst hs; rw [HT.out]; exact Nat.le_refl _))))
      obtain ⟨ts', hts'⟩ : ∃ l, l = s.ts.filter (staysT id owner) := ⟨_, rfl⟩
      have hlm : l.map (·.1) = ts' := by
        rw [hlf, hts', ← HS.out.tx]
        dsimp only
        rw [List.filter_map]
        rfl
      have hll : ts'.length = nl := by rw [← hlm, List.length_map, hnl]
      have HS5 : Hid (StIn w5 ({ s with ts := ts' } : St) ⟨pA, pc, l, A, c, bA, bc⟩) := Lib.hid (by
        have k := HS.out.upd HU5.out
        refine ⟨k.p, ?_, k.b, hlm, fun x hx => k.ss x (by rw [hlf] at hx; exact (List.mem_filter.1 hx).1)⟩
        dsimp only
        rw [hll]
        exact (RwIn.of_own HO5.out).more (Nat.zero_le _))
      have HLX : Hid (∀ x, x ∈ l → x ∈ tx) := Lib.hid (fun x hx => by rw [hlf] at hx; exact (List.mem_filter.1 hx).1)
      have HUT5 : Hid (UpT ts') := Lib.hid (by rw [hts']; exact List.Pairwise.sublist List.filter_sublist HUT.out)
      have HTS := Lib.hid hts'
      have HLL := Lib.hid hll
      have HW5 := Lib.hid hw5
      have hnl2 : nl ≤ 1000 := by omega
      clear hw5 us5 hlm hll hlf hnl hown hbr hgi hi hlt hts'
      go_upto_region 9 with fail
      rw [← HW5.out]
      clear HW5 zT fT hbt hur
      go_wp2
      go_loopg [10, 12] n3 (fun gk x10 x12 wr => ∃ i : Nat, i ≤ n3 ∧ n3 ≤ i + gk ∧ x12 = .int .i64 i ∧ ∃ (A2 : Option Addr) (d2 : Nat) (l2 : List Sb) (ml : Nat), x10 = .slice A2 ml d2 ∧ ml = l2.length ∧ ml ≤ i ∧ l2 = (s.bs.take i).filter (fun b => !decide (b.who = who) && has (cT b.track) ts') ∧ wr.ownsRow w5.heap.size 56 5 (.slice A2 ml d2) ml (l2.flatMap encB) ∧ Upd [] w5 wr)
      case atStart => exact ⟨0, Nat.zero_le _, by omega, rfl, none, 0, [], 0, rfl, rfl, Nat.le_refl _, by simp, World.ownsRow_nil _ _ _ _, Upd.refl _ _⟩
      case round =>
        obtain ⟨i, hi, hgi, rfl, A2, d2, l2, ml, rfl, hml, hmli, hlf, hown, hur⟩ := hrel
        have hbt := HBT5.out.upd hur (by simp)
        have zT : wr.cell? ⟨T, 6, none⟩ = some (.slice bA n3 bc) := hbt.cell 6
        by_cases hlt : i < n3
        · obtain ⟨x, hxi⟩ : ∃ x, s.bs[i]? = some x := ⟨_, List.getElem?_eq_getElem (by rw [← HN.out.2.2]; exact hlt)⟩
          obtain ⟨b1, o1, e, e0, e1, e2, e3, e4⟩ := HRB.out i x hxi
          cases e
          have hl1' := cellD_lt e0
          have huw := HU5.out.next hur
          replace e0 := (huw.cell (p := ⟨b1, o1 + i * 5, none⟩) hl1' (by simp)).trans e0
          replace e1 := (huw.cell (p := ⟨b1, o1 + i * 5 + 1, none⟩) hl1' (by simp)).trans e1
          replace e2 := (huw.cell (p := ⟨b1, o1 + i * 5 + 2, none⟩) hl1' (by simp)).trans e2
          replace e3 := (huw.cell (p := ⟨b1, o1 + i * 5 + 3, none⟩) hl1' (by simp)).trans e3
          replace e4 := (huw.cell (p := ⟨b1, o1 + i * 5 + 4, none⟩) hl1' (by simp)).trans e4
          have hft := filter_take1 (p := fun b : Sb => !decide (b.who = who) && has (cT b.track) ts') hxi
          rw [← hlf] at hft
          obtain ⟨y0, y1, y2, y3, y4⟩ := x
          dsimp only at e0 e1 e2 e3 e4 hft
          have hlti : (i : Int) < (n3 : Int) := by omega
          have hwi : IntKind.i64.wrap ((i : Int) + 1) = (i : Int) + 1 := IntWalk.i64_in _ (by omega)
          have HGI := Lib.hid hgi
          have HFT := Lib.hid hft
          have HML := Lib.hid hml
          have HOWN := Lib.hid hown
          have HUR := Lib.hid hur
          have HE := Lib.hid (And.intro e0 (And.intro e1 (And.intro e2 (And.intro e3 e4))))
          have hb1w := cellD_lt e0
          have hTw := cellD_lt zT
          clear hxi hgi hft hml hlf hown hur huw hl1'
          go_upto_region 12 with fail
          go_cut [73] (fun v wd => v = .bool (!decide (y0 = who) && has (cT y1) ts') ∧ Upd [] wr wd)
          case first =>
            by_cases k1 : y0 = who
            · rw [k1] at e0
              clear hbt
              go_wp2_with fail
              go_quiet (fail)
              go_wp2
              go_meet
              case rel => exact ⟨by simp [k1], (Upd.refl [] wr).drewN _⟩
            · have k1b : (y0 != who) = true := by simpa using k1
              obtain ⟨ix, hix⟩ : ∃ x, x = ridxM (cT y1) ts' := ⟨_, rfl⟩
              have H1 := Lib.hid (fun (z : Cls (Upd [] wr)) => quiet_cls (C := Upd [] wr) (x := z) ((rtrack_any (HS5.out.upd (HUR.out.next z.h)) HUT5.out (by dsimp only; rw [HLL.out]; omega) y1).mono fun e w' h => ⟨h.1, z.h.next h.2⟩))
              unfold scells at H1
              dsimp only at H1
              rw [← HC.out, ← HN.out.1, ← HN.out.2.2, HLL.out, ← hix] at H1
              dsimp only at H1
              have hv : decide ((0 : Int) ≤ ix) = has (cT y1) ts' := by
                rw [hix]
                unfold ridxM
                cases has (cT y1) ts' <;> simp
              have HV := Lib.hid hv
              have q0 : ∀ z : Cls (Upd [] wr), z.w.cell? ⟨T, 0, none⟩ = some (.int .i64 c1) := fun z => (z.h.cell (p := ⟨T, 0, none⟩) hTw (by simp)).trans (hbt.cell 0)
              have q1 : ∀ z : Cls (Upd [] wr), z.w.cell? ⟨T, 1, none⟩ = some (.int .i64 c2) := fun z => (z.h.cell (p := ⟨T, 1, none⟩) hTw (by simp)).trans (hbt.cell 1)
              have q2 : ∀ z : Cls (Upd [] wr), z.w.cell? ⟨T, 2, none⟩ = some (.int .i64 c3) := fun z => (z.h.cell (p := ⟨T, 2, none⟩) hTw (by simp)).trans (hbt.cell 2)
              have q3 : ∀ z : Cls (Upd [] wr), z.w.cell? ⟨T, 3, none⟩ = some (.int .i64 c4) := fun z => (z.h.cell (p := ⟨T, 3, none⟩) hTw (by simp)).trans (hbt.cell 3)
              have q4 : ∀ z : Cls (Upd [] wr), z.w.cell? ⟨T, 4, none⟩ = some (.slice pA n1 pc) := fun z => (z.h.cell (p := ⟨T, 4, none⟩) hTw (by simp)).trans (hbt.cell 4)
              have q5 : ∀ z : Cls (Upd [] wr), z.w.cell? ⟨T, 5, none⟩ = some (.slice A nl c) := fun z => (z.h.cell (p := ⟨T, 5, none⟩) hTw (by simp)).trans (hbt.cell 5)
              have q6 : ∀ z : Cls (Upd [] wr), z.w.cell? ⟨T, 6, none⟩ = some (.slice (some ⟨b1, o1, none⟩) n3 bc) := fun z => (z.h.cell (p := ⟨T, 6, none⟩) hTw (by simp)).trans (hbt.cell 6)
              have r0 : ∀ z : Cls (Upd [] wr), z.w.cell? ⟨b1, o1 + i * 5, none⟩ = some (.int .i64 y0) := fun z => (z.h.cell (p := ⟨b1, o1 + i * 5, none⟩) hb1w (by simp)).trans HE.out.1
              have r1 : ∀ z : Cls (Upd [] wr), z.w.cell? ⟨b1, o1 + i * 5 + 1, none⟩ = some (.int .i64 y1) := fun z => (z.h.cell (p := ⟨b1, o1 + i * 5 + 1, none⟩) hb1w (by simp)).trans HE.out.2.1
              have HK1 := Lib.hid k1
              clear hix hv e0 e1 e2 e3 e4 zT k1 hbt
              refine wp_class_tail (Upd [] wr) ((Upd.refl _ _).drewN 1) 18 (by kernel_rfl) (by kernel_rfl) (fun _ _ _ _ h => h) ?_
              intro hne
              simp only [List.take_succ_cons, List.take_zero, List.drop_succ_cons, List.drop_zero]
              repeat (go_big_quiet_step ((go_at_call 70; with_reducible exact H1.out _)))
              refine wpQuiet_nil ?_
              rintro _ ⟨xe, rfl⟩
              go_wp2
              go_meet
              case rel => exact ⟨by rw [← HV.out]; simp [HK1.out], xe.h⟩
          obtain ⟨rfl, hud⟩ := hcut
          have HUC := Lib.hid (HUR.out.next hud)
          replace e0 := (hud.cell (p := ⟨b1, o1 + i * 5, none⟩) hb1w (by simp)).trans e0
          replace e1 := (hud.cell (p := ⟨b1, o1 + i * 5 + 1, none⟩) hb1w (by simp)).trans e1
          replace e2 := (hud.cell (p := ⟨b1, o1 + i * 5 + 2, none⟩) hb1w (by simp)).trans e2
          replace e3 := (hud.cell (p := ⟨b1, o1 + i * 5 + 3, none⟩) hb1w (by simp)).trans e3
          replace e4 := (hud.cell (p := ⟨b1, o1 + i * 5 + 4, none⟩) hb1w (by simp)).trans e4
          replace zT := (hud.cell (p := ⟨T, 6, none⟩) hTw (by simp)).trans zT
          have HOC := Lib.hid (ownsRow_upd HOWN.out hud (by simp))
          obtain ⟨bo, hbo⟩ : ∃ b, b = (!decide (y0 = who) && has (cT y1) ts') := ⟨_, rfl⟩
          have HFT2 : Hid ((s.bs.take (i + 1)).filter (fun b => !decide (b.who = who) && has (cT b.track) ts') = l2 ++ if bo = true then [(⟨y0, y1, y2, y3, y4⟩ : Sb)] else []) := Lib.hid (by rw [hbo]; exact HFT.out)
          rw [← hbo]
          clear hud hbt hbo hb1w hTw HE
          cases bo
          case false =>
            go_wp2
            go_roundg (gk - 1)
            case measure => have := HGI.out; omega
            case rel => exact ⟨i + 1, by omega, by have := HGI.out; omega, by go_num, A2, d2, l2, ml, rfl, HML.out, by omega, by rw [HFT2.out]; simp, HOC.out, HUC.out⟩
          case true =>
            obtain ⟨j0, hj0, hy0, hy1, hy2⟩ := info_parts infoRB
            obtain ⟨V, hV⟩ : ∃ V, V = wc.heap.size := ⟨_, rfl⟩
            obtain ⟨W3, hW3⟩ : ∃ W3, W3 = wc.alloc (.cells #[.int .i64 y0, .int .i64 y1, .int .i64 y2, .int .i64 y3, .bool y4] 56) := ⟨_, rfl⟩
            have u3 : Upd [] wc W3 := by rw [hW3]; exact (Upd.refl [] wc).alloc _
            have hVB : Blk W3 V 56 (encB (⟨y0, y1, y2, y3, y4⟩ : Sb)).toArray := by rw [hW3, hV]; exact Blk.new _ _ _
            have HV := Lib.hid hV
            have HW3 := Lib.hid hW3
            have HU3 := Lib.hid u3
            have HVB := Lib.hid hVB
            clear hV hW3 u3 hVB
            go_wp2_with (at_builtin; rw [← HW3.out, ← HV.out]; refine wpList_append_src W3 rfl (.tmp 74) (.tmp 80) 35 rfl w5.heap.size 56 j0 _ 5 40 Try.underlying35 hj0 hy0 hy1 hy2 rfl (by decide) (.slice A2 ml d2) ml (l2.flatMap encB) rfl (ownsRow_upd HOC.out HU3.out (by simp)) (some ⟨V, 0, none⟩) 1 1 (encB (⟨y0, y1, y2, y3, y4⟩ : Sb)) rfl (fun e => by cases e) rfl (row_lit HVB.out) (encB_one _) (by unfold maxLen; omega) (by omega) (Nat.le_trans HUC.out.size HU3.out.size) ?_)
            intro v2 w6 hown6 hg6 _
            obtain ⟨A', c', hv, _⟩ := own_form hown6
            subst hv
            have HU6 : Hid (Upd [] w5 w6) := Lib.hid (Upd.of_below (((HUC.out.next HU3.out).below (Nat.le_refl _) (by simp)).trans ((Upd.of_grown hg6).below (Nat.le_trans HUC.out.size HU3.out.size) (fun s hs => by
              rw [own_list] at hs
              exact (own_in (ownsRow_upd HOC.out HU3.out (by simp)) s hs).2))))
            have HOWN6 := Lib.hid hown6
            clear hown6 hg6
            go_wp2
            go_roundg (gk - 1)
            case measure => have := HGI.out; omega
            case rel =>
              refine ⟨i + 1, by omega, by have := HGI.out; omega, by go_num, A', c', l2 ++ [(⟨y0, y1, y2, y3, y4⟩ : Sb)], ml + 1, rfl, by rw [List.length_append, ← HML.out]; rfl, by omega, by rw [HFT2.out]; simp, ?_, HU6.out⟩
              rw [List.flatMap_append]
              simpa using HOWN6.out
        · obtain rfl : n3 = i := by omega
          rw [HN.out.2.2, List.take_length] at hlf
          have f6 := hbt.frozen 6
          obtain ⟨w7, hw7⟩ : ∃ W, W = wr.setCell ⟨T, 6, none⟩ (.slice A2 ml d2) := ⟨_, rfl⟩
          have us7 : Upd [T] wr w7 := by rw [hw7]; exact (Upd.refl [T] wr).setCell (.inl (by simp)) _
          have hbt7 : Blk w7 T 37 #[.int .i64 c1, .int .i64 c2, .int .i64 c3, .int .i64 c4, .slice pA n1 pc, .slice A nl c, .slice A2 ml d2] := by rw [hw7]; exact hbt.store 6 _
          have hbr7 := (HBR5.out.upd hur (by simp)).upd us7 (by simp)
          obtain ⟨kx, ux⟩ := blk7 hbr7 (.int .i64 c1) (.int .i64 c2) (.int .i64 c3) (.int .i64 c4) (.slice pA n1 pc) (.slice A nl c) (.slice A2 ml d2)
          obtain ⟨wx, hwx⟩ : ∃ W, W = (((((((w7.setCell ⟨T + 1, 0, none⟩ (.int .i64 c1)).setCell ⟨T + 1, 1, none⟩ (.int .i64 c2)).setCell ⟨T + 1, 2, none⟩ (.int .i64 c3)).setCell ⟨T + 1, 3, none⟩ (.int .i64 c4)).setCell ⟨T + 1, 4, none⟩ (.slice pA n1 pc)).setCell ⟨T + 1, 5, none⟩ (.slice A nl c)).setCell ⟨T + 1, 6, none⟩ (.slice A2 ml d2)) := ⟨_, rfl⟩
          rw [← hwx] at kx ux
          have HKX := Lib.hid kx
          have HBT7 := Lib.hid hbt7
          have HBR7 := Lib.hid hbr7
          have HW7 := Lib.hid hw7
          have HWX := Lib.hid hwx
          have HFIN : Hid (Upd [] w wx) := Lib.hid (Upd.of_below ((((HU5.out.next hur).below (Nat.le_refl _) (by simp)).trans (us7.below (HU5.out.next hur).size (fun s hs => by rw [List.mem_singleton] at hs; subst hs; rw [HT.out]; exact Nat.le_refl _))).trans (ux.below (Nat.le_trans (HU5.out.next hur).size us7.size) (fun s hs => by rw [List.mem_singleton] at hs; subst hs; rw [HT.out]; omega))))
          have keep1 : ∀ {B' size' n' : Nat} {e' : TypeId} {v' : Value} {xs' : List Value}, wr.ownsRow B' e' size' v' n' xs' → e' ≠ 37 → w7.ownsRow B' e' size' v' n' xs' := fun ho hne => ownsRow_upd ho us7 (fun s hs hg => by rw [List.mem_singleton] at hs; rw [hs] at hg; exact own_box ho hbt hne hg)
          have keep : ∀ {B' size' n' : Nat} {e' : TypeId} {v' : Value} {xs' : List Value}, wr.ownsRow B' e' size' v' n' xs' → e' ≠ 37 → wx.ownsRow B' e' size' v' n' xs' := fun ho hne => ownsRow_upd (keep1 ho hne) ux (fun s hs hg => by rw [List.mem_singleton] at hs; rw [hs] at hg; exact own_box (keep1 ho hne) hbr7 hne hg)
          have HRES : Hid (∃ h', [.int .i64 c1, .int .i64 c2, .int .i64 c3, .int .i64 c4, .slice pA n1 pc, .slice A nl c, .slice A2 ml d2] = scells (withoutM s id owner who) h' ∧ StIn wx (withoutM s id owner who) h' ∧ (∀ g, g < w.heap.size → Av g s ⟨pA, pc, tx, tA, tc, bA, bc⟩ → Av g (withoutM s id owner who) h')) := Lib.hid (by
            have k := HS.out.upd HFIN.out
            have h1 := keep (ownsRow_upd HO5.out hur (by simp)) (by decide)
            have h2 := keep hown (by decide)
            have e1 : withoutM s id owner who = { s with ts := ts', bs := l2 } := by unfold withoutM; rw [← HTS.out, hlf]
            refine ⟨⟨pA, pc, l, A, c, A2, d2⟩, ?_, ?_, ?_⟩
            · rw [e1]
              unfold scells
              dsimp only
              rw [← HC.out, HLL.out, ← hml, ← HN.out.1]
            · rw [e1]
              refine ⟨k.p, ?_, ?_, HS5.out.tx, fun x hx => k.ss x (HLX.out x hx)⟩
              · dsimp only
                rw [HLL.out]
                exact (RwIn.of_own h1).more (Nat.zero_le _)
              · dsimp only
                rw [← hml]
                exact (RwIn.of_own h2).more (Nat.zero_le _)
            · intro g hg ha
              rw [e1]
              refine ⟨ha.p, ?_, ?_, fun x hx => ha.ss x (HLX.out x hx)⟩
              · dsimp only
                rw [HLL.out]
                exact own_av h1 (Nat.lt_of_lt_of_le hg HU.out.size)
              · dsimp only
                rw [← hml]
                exact own_av h2 (Nat.lt_of_lt_of_le hg HU5.out.size))
          clear hw7 us7 hbt7 hbr7 kx ux hwx keep keep1 hlf hml hown hur hgi hi hlt
          go_upto_region 15 with fail
          rw [← HW7.out]
          clear HW7 zT f6 hbt
          have m0 : w7.cell? ⟨T, 0, none⟩ = some (.int .i64 c1) := HBT7.out.cell 0
          have m1 : w7.cell? ⟨T, 1, none⟩ = some (.int .i64 c2) := HBT7.out.cell 1
          have m2 : w7.cell? ⟨T, 2, none⟩ = some (.int .i64 c3) := HBT7.out.cell 2
          have m3 : w7.cell? ⟨T, 3, none⟩ = some (.int .i64 c4) := HBT7.out.cell 3
          have m4 : w7.cell? ⟨T, 4, none⟩ = some (.slice pA n1 pc) := HBT7.out.cell 4
          have m5 : w7.cell? ⟨T, 5, none⟩ = some (.slice A nl c) := HBT7.out.cell 5
          have m6 : w7.cell? ⟨T, 6, none⟩ = some (.slice A2 ml d2) := HBT7.out.cell 6
          have n10 := HBR7.out.frozen 0
          have o0 := HBR7.out.cell 0
          have n11 := HBR7.out.frozen 1
          have o1 := HBR7.out.cell 1
          have n12 := HBR7.out.frozen 2
          have o2 := HBR7.out.cell 2
          have n13 := HBR7.out.frozen 3
          have o3 := HBR7.out.cell 3
          have n14 := HBR7.out.frozen 4
          have o4 := HBR7.out.cell 4
          have n15 := HBR7.out.frozen 5
          have o5 := HBR7.out.cell 5
          have n16 := HBR7.out.frozen 6
          have o6 := HBR7.out.cell 6
          simp only [List.getElem?_toArray, List.getElem?_cons_zero, List.getElem?_cons_succ] at o0 o1 o2 o3 o4 o5 o6
          go_wp2
          rw [← HWX.out]
          have g0 := HKX.out.cell 0
          have g1 := HKX.out.cell 1
          have g2 := HKX.out.cell 2
          have g3 := HKX.out.cell 3
          have g4 := HKX.out.cell 4
          have g5 := HKX.out.cell 5
          have g6 := HKX.out.cell 6
          simp only [List.getElem?_toArray, List.getElem?_cons_zero, List.getElem?_cons_succ] at g0 g1 g2 g3 g4 g5 g6
          refine bodyPost_res (v := .agg #[.int .i64 c1, .int .i64 c2, .int .i64 c3, .int .i64 c4, .slice pA n1 pc, .slice A nl c, .slice A2 ml d2]) (by simp [results, Try.results36, go_sem, Addr.add, g0, g1, g2, g3, g4, g5, g6]) rfl ?_
          obtain ⟨h', e1, e2, e3⟩ := HRES.out
          exact ⟨h', by rw [← e1], e2, e3, HFIN.out⟩
end Go.Proofs.Ytjcbaelefacolaa
