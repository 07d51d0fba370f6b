/- Parts of the proof, one behind the other: DRSubscribe. No condition of their own. -/
import Derived.Test.YtjcbaelefacolaaB10
/- The layer delta, the document's side: Subscribe. Conditions: the state in memory; what always holds of a state; who asks is there. -/
namespace Go.Proofs.Ytjcbaelefacolaa
open Go Go.RowKit
set_option maxHeartbeats 400000
theorem blk3 {w : World} {R : Nat} {e : TypeId} {c0 c1 c2 : Value} (h : Blk w R e #[c0, c1, c2]) (v0 v1 v2 : Value) :
    Blk (((w.setCell ⟨R, 0, none⟩ v0).setCell ⟨R, 1, none⟩ v1).setCell ⟨R, 2, none⟩ v2) R e #[v0, v1, v2]
    ∧ Upd [R] w (((w.setCell ⟨R, 0, none⟩ v0).setCell ⟨R, 1, none⟩ v1).setCell ⟨R, 2, none⟩ v2) :=
  ⟨((h.store 0 v0).store 1 v1).store 2 v2, (((Upd.refl [R] w).setCell (p := ⟨R, 0, none⟩) (.inl (by simp)) _).setCell (p := ⟨R, 1, none⟩) (.inl (by simp)) _).setCell (p := ⟨R, 2, none⟩) (.inl (by simp)) _⟩
theorem count_take1 {α : Type} {p : α → Bool} {l : List α} {k : Nat} {x : α} (h : l[k]? = some x) : (l.take (k + 1)).countP p = (l.take k).countP p + if p x = true then 1 else 0 := by
  rw [List.take_add_one, h, List.countP_append]
  simp [List.countP_cons]

set_option maxRecDepth 100000 in
set_option maxHeartbeats 16000000 in
theorem rsubscribe_any {w : World} {s : St} {h : SHd} {q : Rq} {qh : SH} (hs : StIn w s h) (hi : Inv s) (hq : RwIn w 0 1 qh.A q.ss.length qh.c (q.ss.map (Value.int .u32))) (hh : has (cP q.who) s.ps = true) :
    Calls Try.prog 39 #[.agg (scells s h).toArray, .agg (qcells q qh).toArray] w fun e w' => ∃ h', e = .returned (.tuple #[.agg (scells (subscribeM s q).1 h').toArray, .int .i64 (subscribeM s q).2]) ∧ StIn w' (subscribeM s q).1 h' ∧ (∀ g, g < w.heap.size → QAv g q qh → Av g s h → Av g (subscribeM s q).1 h') ∧ Upd [] w w' := by
  obtain ⟨T, hT⟩ : ∃ T, T = w.heap.size := ⟨_, rfl⟩
  obtain ⟨n1, hn1⟩ : ∃ n, n = s.ps.length := ⟨_, rfl⟩
  obtain ⟨n2, hn2⟩ : ∃ n, n = s.ts.length := ⟨_, rfl⟩
  obtain ⟨n3, hn3⟩ : ∃ n, n = s.bs.length := ⟨_, rfl⟩
  obtain ⟨r, hr⟩ : ∃ r, r = subscribeM s q := ⟨_, rfl⟩
  have HR := Lib.hid hr
  rw [← hr]
  clear hr
  have HH := Lib.hid hh
  clear hh
  have HS := Lib.hid hs
  have HI := Lib.hid hi
  have HQ := Lib.hid hq
  have HN := Lib.hid (And.intro hn1 (And.intro hn2 hn3))
  have hsc : scells s h = [.int .i64 s.c.people, .int .i64 s.c.tracks, .int .i64 s.c.subs, .int .i64 s.c.slots, .slice h.pA n1 h.pc, .slice h.tA n2 h.tc, .slice h.bA n3 h.bc] := by unfold scells; rw [← hn1, ← hn2, ← hn3]
  have hm1 : n1 ≤ 16 := by have := hi.np; have := hi.cp; omega
  have hm2 : n2 ≤ 16 := by have := hi.nt; have := hi.ct; omega
  have hm3 : n3 ≤ 64 := by have := hi.nb; have := hi.cl; omega
  obtain ⟨kd, who, room, rights, track, ss, layer, tid⟩ := q
  obtain ⟨qA, qc⟩ := qh
  dsimp only at HH HQ
  unfold qcells
  dsimp only
  obtain ⟨ql, hql⟩ : ∃ ql, ql = ss.length := ⟨_, rfl⟩
  have HQL := Lib.hid hql
  rw [← hql]
  rw [hsc]
  have HSC := Lib.hid hsc
  obtain ⟨pA, pc, tx, tA, tc, bA, bc⟩ := h
  obtain ⟨⟨c1, c2, c3, c4⟩, hc⟩ : ∃ c, c = s.c := ⟨_, rfl⟩
  have HC := Lib.hid hc
  rw [← hc]
  dsimp only
  clear hsc hn1 hn2 hn3 hc hs hi hq hql
  obtain ⟨CS, hCS⟩ : ∃ l : List Value, l = [.int .i64 c1, .int .i64 c2, .int .i64 c3, .int .i64 c4, .slice pA n1 pc, .slice tA n2 tc, .slice bA n3 bc] := ⟨_, rfl⟩
  obtain ⟨W1, hW1⟩ : ∃ W, W = w.alloc (.cells #[.int .i64 c1, .int .i64 c2, .int .i64 c3, .int .i64 c4, .slice pA n1 pc, .slice tA n2 tc, .slice bA n3 bc] 37) := ⟨_, rfl⟩
  obtain ⟨W2, hW2⟩ : ∃ W, W = W1.alloc (.cells #[.int .i64 kd, .int .i64 who, .int .i64 room, .int .i64 rights, .int .i64 track, .slice qA ql qc, .int .i64 layer, .int .i64 tid] 48) := ⟨_, rfl⟩
  obtain ⟨W, hW⟩ : ∃ W, W = W2.alloc (.cells #[.int .i64 0, .int .i64 0, .int .i64 0, .int .i64 0, .slice none 0 0, .slice none 0 0, .slice none 0 0] 37) := ⟨_, rfl⟩
  have u1 : Upd [] w W1 := by rw [hW1]; exact (Upd.refl [] w).alloc _
  have u2 : Upd [] W1 W2 := by rw [hW2]; exact (Upd.refl [] W1).alloc _
  have u3 : Upd [] W2 W := by rw [hW]; exact (Upd.refl [] W2).alloc _
  have s1 : W1.heap.size = T + 1 := by rw [hW1, World.size_alloc, hT]
  have s2 : W2.heap.size = T + 1 + 1 := by rw [hW2, World.size_alloc, s1]
  have hbT : Blk W T 37 #[.int .i64 c1, .int .i64 c2, .int .i64 c3, .int .i64 c4, .slice pA n1 pc, .slice tA n2 tc, .slice bA n3 bc] := by
    have : Blk W1 T 37 #[.int .i64 c1, .int .i64 c2, .int .i64 c3, .int .i64 c4, .slice pA n1 pc, .slice tA n2 tc, .slice bA n3 bc] := by rw [hW1, hT]; exact Blk.new _ _ _
    exact (this.upd u2 (by simp)).upd u3 (by simp)
  have hbQ : Blk W (T + 1) 48 #[.int .i64 kd, .int .i64 who, .int .i64 room, .int .i64 rights, .int .i64 track, .slice qA ql qc, .int .i64 layer, .int .i64 tid] := by
    have : Blk W2 (T + 1) 48 #[.int .i64 kd, .int .i64 who, .int .i64 room, .int .i64 rights, .int .i64 track, .slice qA ql qc, .int .i64 layer, .int .i64 tid] := by rw [hW2, ← s1]; exact Blk.new _ _ _
    exact this.upd u3 (by simp)
  have hbR : Blk W (T + 1 + 1) 37 #[.int .i64 0, .int .i64 0, .int .i64 0, .int .i64 0, .slice none 0 0, .slice none 0 0, .slice none 0 0] := by rw [hW, ← s2]; exact Blk.new _ _ _
  have hT' := hT
  have HU := Lib.hid ((u1.next u2).next u3)
  have HBT := Lib.hid hbT
  have HBQ := Lib.hid hbQ
  have HBR := Lib.hid hbR
  have HT := Lib.hid hT
  clear hbT hbQ hbR u1 u2 u3 s1 s2 hT' hCS
  go_enter Try.func39, Try.ntmps39
  go_upto_region 1 with fail
  rw [← hW1, ← hW2, ← hW, ← hT]
  clear hW1 hW2 hW hT
  have HBT0 := HBT
  have HBR0 := HBR
  have HBQ0 := HBQ
  have HU0 := HU
  have HNX : Hid (n2 = tx.length) := Lib.hid (by rw [HN.out.2.1, ← HS.out.tx, List.length_map])
  obtain ⟨q, hq⟩ : ∃ q : Rq, q = ⟨kd, who, room, rights, track, ss, layer, tid⟩ := ⟨_, rfl⟩
  rw [← hq] at HR
  have HQQ := Lib.hid hq
  clear hq
  obtain ⟨j, hj⟩ : ∃ j, j = low (cP who) s.ps := ⟨_, rfl⟩
  obtain ⟨p, hp⟩ : ∃ x, x = perAt s who := ⟨_, rfl⟩
  have hpaj := per_at HI.out HH.out
  rw [← hj, ← hp] at hpaj
  have hrij : ridxM (cP who) s.ps = (j : Int) := by unfold ridxM; rw [if_pos HH.out, hj]
  have hjlj : j < n1 := by rw [HN.out.1]; exact (List.getElem?_eq_some_iff.1 hpaj.1).1
  obtain ⟨bP, oP, e, e0, e1, e2⟩ := rowP HS.out.p rfl j p hpaj.1
  dsimp only at e
  cases e
  have hb1l := cellD_lt e0
  have hbr := (HI.out.per _ hpaj.2.2).2.2.2.2
  obtain ⟨y0, y1, y2⟩ := p
  dsimp only at e0 e1 e2 hbr
  have HP := Lib.hid hp
  have HPC := Lib.hid (fun (x : World) (u : Upd [] W x) => (rperson_any (HS.out.upd (HU0.out.next u)) HI.out.up (by rw [← HN.out.1]; omega) who))
  rw [HSC.out, ← HC.out, hrij] at HPC
  have r0 : ∀ z : Cls (Upd [] W), z.w.cell? ⟨bP, oP + j * 3, none⟩ = some (.int .i64 y0) := fun z => ((HU0.out.next z.h).cell (p := ⟨bP, oP + j * 3, none⟩) hb1l (by simp)).trans e0
  have r1 : ∀ z : Cls (Upd [] W), z.w.cell? ⟨bP, oP + j * 3 + 1, none⟩ = some (.int .i64 y1) := fun z => ((HU0.out.next z.h).cell (p := ⟨bP, oP + j * 3 + 1, none⟩) hb1l (by simp)).trans e1
  have r2 : ∀ z : Cls (Upd [] W), z.w.cell? ⟨bP, oP + j * 3 + 2, none⟩ = some (.int .i64 y2) := fun z => ((HU0.out.next z.h).cell (p := ⟨bP, oP + j * 3 + 2, none⟩) hb1l (by simp)).trans e2
  have hTw := cellD_lt (HBT0.out.cell 0)
  have hQw := cellD_lt (HBQ0.out.cell 0)
  have m0 : ∀ z : Cls (Upd [] W), z.w.cell? ⟨T, 0, none⟩ = some (.int .i64 c1) := fun z => (z.h.cell (p := ⟨T, 0, none⟩) hTw (by simp)).trans (HBT0.out.cell 0)
  have m1 : ∀ z : Cls (Upd [] W), z.w.cell? ⟨T, 1, none⟩ = some (.int .i64 c2) := fun z => (z.h.cell (p := ⟨T, 1, none⟩) hTw (by simp)).trans (HBT0.out.cell 1)
  have m2 : ∀ z : Cls (Upd [] W), z.w.cell? ⟨T, 2, none⟩ = some (.int .i64 c3) := fun z => (z.h.cell (p := ⟨T, 2, none⟩) hTw (by simp)).trans (HBT0.out.cell 2)
  have m3 : ∀ z : Cls (Upd [] W), z.w.cell? ⟨T, 3, none⟩ = some (.int .i64 c4) := fun z => (z.h.cell (p := ⟨T, 3, none⟩) hTw (by simp)).trans (HBT0.out.cell 3)
  have m4 : ∀ z : Cls (Upd [] W), z.w.cell? ⟨T, 4, none⟩ = some (.slice (some ⟨bP, oP, none⟩) n1 pc) := fun z => (z.h.cell (p := ⟨T, 4, none⟩) hTw (by simp)).trans (HBT0.out.cell 4)
  have m5 : ∀ z : Cls (Upd [] W), z.w.cell? ⟨T, 5, none⟩ = some (.slice tA n2 tc) := fun z => (z.h.cell (p := ⟨T, 5, none⟩) hTw (by simp)).trans (HBT0.out.cell 5)
  have m6 : ∀ z : Cls (Upd [] W), z.w.cell? ⟨T, 6, none⟩ = some (.slice bA n3 bc) := fun z => (z.h.cell (p := ⟨T, 6, none⟩) hTw (by simp)).trans (HBT0.out.cell 6)
  have q1 : ∀ z : Cls (Upd [] W), z.w.cell? ⟨T + 1, 1, none⟩ = some (.int .i64 who) := fun z => (z.h.cell (p := ⟨T + 1, 1, none⟩) hQw (by simp)).trans (HBQ0.out.cell 1)
  have hjli : (j : Int) < (n1 : Int) := by omega
  clear hp hj hpaj hrij e0 e1 e2 hb1l hTw hQw
  go_cut [6] (fun v wd => ∃ G, v = .pointer (some ⟨G, 0, none⟩) ∧ Blk wd G 74 #[.int .i64 y0, .int .i64 y1, .int .i64 y2] ∧ Upd [] W wd ∧ W.heap.size ≤ G)
  case first =>
    have HC1 : Hid (Upd [] W (W.drewN 1)) := Lib.hid ((Upd.refl _ _).drewN 1)
    refine wp_new_call (Upd [] W) ((Upd.refl _ _).drewN 1) [0, 1, 2, 3, 4] 5 8 [6, 7] [9] (by kernel_rfl) (by kernel_rfl) (fun _ _ _ _ h => h) ?_
    intro hne
    simp only [pick3, List.map_cons, List.map_nil, List.getElem?_cons_zero, List.getElem?_cons_succ, Option.getD_some]
    repeat (go_big_quiet_step (fail))
    refine wpQuiet_nil ?_
    obtain ⟨wd, hwd⟩ : ∃ x, x = W.drewN 1 := ⟨_, rfl⟩
    rw [← hwd] at HC1 ⊢
    clear hwd
    constructor
    · refine wpHeldK_step rfl fun K hK => ?_
      go_simp
      obtain ⟨G, hG⟩ : ∃ G, G = wd.heap.size := ⟨_, rfl⟩
      obtain ⟨V, hV⟩ : ∃ V, V = wd.alloc (.cells #[.int .i64 0, .int .i64 0, .int .i64 0] 74) := ⟨_, rfl⟩
      rw [← hV, ← hG]
      have hVu : Upd [] W V := HC1.out.next (by rw [hV]; exact (Upd.refl [] wd).alloc _)
      have hVB : Blk V G 74 #[.int .i64 0, .int .i64 0, .int .i64 0] := by rw [hV, hG]; exact Blk.new _ _ _
      have HG : Hid (W.heap.size ≤ G) := Lib.hid (by rw [hG]; exact HC1.out.size)
      have HVB := Lib.hid hVB
      have HVU := Lib.hid hVu
      clear hG hV hVB hVu
      refine hK.out _ _ ⟨⟨V, HVU.out⟩, rfl⟩ ?_
      clear hK K
      refine wpHeldK_step rfl fun K hK => ?_
      go_simp
      refine (HPC.out V HVU.out).mono ?_
      rintro e w5 ⟨rfl, hu5⟩
      have HU5 := Lib.hid (HVU.out.next hu5)
      have HB5 := Lib.hid (HVB.out.upd hu5 (by simp))
      clear hu5
      refine hK.out _ _ ⟨⟨w5, HU5.out⟩, rfl⟩ ?_
      clear hK K
      refine wpQuiet_then ?_
      repeat (go_big_quiet_step (fail))
      refine wpQuiet_nil ?_
      clear m0 m1 m2 m3 m4 m5 m6 q1 r0 r1 r2
      obtain ⟨kx, ux⟩ := blk3 HB5.out (.int .i64 y0) (.int .i64 y1) (.int .i64 y2)
      obtain ⟨w6, hw6⟩ : ∃ w6, w6 = (((w5.setCell ⟨G, 0, none⟩ (.int .i64 y0)).setCell ⟨G, 1, none⟩ (.int .i64 y1)).setCell ⟨G, 2, none⟩ (.int .i64 y2)) := ⟨_, rfl⟩
      rw [← hw6] at kx ux
      have HKX := Lib.hid kx
      have HU6 : Hid (Upd [] W w6) := Lib.hid (HU5.out.box' ux HG.out)
      have HW6 := Lib.hid hw6
      clear kx ux hw6
      have z0 := HB5.out.frozen 0
      have z1 := HB5.out.frozen 1
      have z2 := HB5.out.frozen 2
      have g0 : w5.cell? ⟨G, 0, none⟩ = some (.int .i64 0) := HB5.out.cell 0
      have g1 : w5.cell? ⟨G, 1, none⟩ = some (.int .i64 0) := HB5.out.cell 1
      have g2 : w5.cell? ⟨G, 2, none⟩ = some (.int .i64 0) := HB5.out.cell 2
      refine wpHeld_last ?_
      go_wp2
      rw [← HW6.out]
      go_meet
      case rel => exact ⟨G, rfl, HKX.out, HU6.out, HG.out⟩
    · refine wpHeldK_step rfl fun K hK => ?_
      go_simp
      refine (HPC.out wd HC1.out).mono ?_
      rintro e w4 ⟨rfl, hu4⟩
      have HU4 := Lib.hid (HC1.out.next hu4)
      clear hu4
      refine hK.out _ _ ⟨⟨w4, HU4.out⟩, rfl⟩ ?_
      clear hK K
      refine wpQuiet_then ?_
      repeat (go_big_quiet_step (fail))
      refine wpQuiet_nil ?_
      refine wpHeld_step rfl fun K hK => ?_
      go_simp
      obtain ⟨G, hG⟩ : ∃ G, G = w4.heap.size := ⟨_, rfl⟩
      obtain ⟨V, hV⟩ : ∃ V, V = w4.alloc (.cells #[.int .i64 0, .int .i64 0, .int .i64 0] 74) := ⟨_, rfl⟩
      rw [← hV, ← hG]
      have hVu : Upd [] W V := HU4.out.next (by rw [hV]; exact (Upd.refl [] w4).alloc _)
      have hVB : Blk V G 74 #[.int .i64 0, .int .i64 0, .int .i64 0] := by rw [hV, hG]; exact Blk.new _ _ _
      have HG : Hid (W.heap.size ≤ G) := Lib.hid (by rw [hG]; exact HU4.out.size)
      have HVB := Lib.hid hVB
      have HVU := Lib.hid hVu
      clear hG hV hVB hVu
      refine hK.out _ _ (.inr ⟨⟨V, HVU.out⟩, rfl⟩) ?_
      clear hK K
      clear m0 m1 m2 m3 m4 m5 m6 q1 r0 r1 r2
      obtain ⟨kx, ux⟩ := blk3 HVB.out (.int .i64 y0) (.int .i64 y1) (.int .i64 y2)
      obtain ⟨w6, hw6⟩ : ∃ w6, w6 = (((V.setCell ⟨G, 0, none⟩ (.int .i64 y0)).setCell ⟨G, 1, none⟩ (.int .i64 y1)).setCell ⟨G, 2, none⟩ (.int .i64 y2)) := ⟨_, rfl⟩
      rw [← hw6] at kx ux
      have HKX := Lib.hid kx
      have HU6 : Hid (Upd [] W w6) := Lib.hid (HVU.out.box' ux HG.out)
      have HW6 := Lib.hid hw6
      clear kx ux hw6
      have z0 := HVB.out.frozen 0
      have z1 := HVB.out.frozen 1
      have z2 := HVB.out.frozen 2
      have g0 : V.cell? ⟨G, 0, none⟩ = some (.int .i64 0) := HVB.out.cell 0
      have g1 : V.cell? ⟨G, 1, none⟩ = some (.int .i64 0) := HVB.out.cell 1
      have g2 : V.cell? ⟨G, 2, none⟩ = some (.int .i64 0) := HVB.out.cell 2
      refine wpHeld_last ?_
      go_wp2
      rw [← HW6.out]
      go_meet
      case rel => exact ⟨G, rfl, HKX.out, HU6.out, HG.out⟩
  obtain ⟨G, rfl, hgb, hud, hGW⟩ := hcut
  have HBT1 := Lib.hid (HBT0.out.upd hud (by simp))
  have HBR1 := Lib.hid (HBR0.out.upd hud (by simp))
  have HBQ1 := Lib.hid (HBQ0.out.upd hud (by simp))
  have HU1 := Lib.hid (HU0.out.next hud)
  obtain ⟨w1, hw1⟩ : ∃ x : World, x = wc := ⟨_, rfl⟩
  rw [← hw1] at HBT1 HBR1 HBQ1 HU1 hgb ⊢
  have HGB1 := Lib.hid hgb
  clear hud m0 m1 m2 m3 m4 m5 m6 q1 r0 r1 r2 hw1 hgb HPC
  have g2 : w1.cell? ⟨G, 2, none⟩ = some (.int .i64 y2) := HGB1.out.cell 2
  obtain ⟨bo, hbo⟩ : ∃ bo, bo = decide (y2 / 2 % 2 = 0) := ⟨_, rfl⟩
  have HBO := Lib.hid hbo
  clear hbo
  go_upto_region 2 with fail
  go_cut [23] (fun v wd => v = .bool bo ∧ w1 = wd)
  case first =>
    have hy : y2 = 0 ∨ y2 = 1 ∨ y2 = 2 ∨ y2 = 3 := by omega
    rcases hy with rfl | rfl | rfl | rfl <;> (go_wp2; go_meet; case rel => exact ⟨by rw [HBO.out]; rfl, rfl⟩)
  obtain ⟨rfl, hwc⟩ := hcut
  subst hwc
  clear g2
  cases bo
  case true =>
    have H1 : Hid (r = (s, 24)) := Lib.hid (by rw [HR.out]; unfold subscribeM; rw [HQQ.out, if_pos (by dsimp only; rw [← HP.out]; dsimp only; simpa using HBO.out.symm)])
    obtain ⟨kx, ux⟩ := blk7 HBR1.out (.int .i64 c1) (.int .i64 c2) (.int .i64 c3) (.int .i64 c4) (.slice (some ⟨bP, oP, none⟩) n1 pc) (.slice tA n2 tc) (.slice bA n3 bc)
    obtain ⟨wx, hwx⟩ : ∃ wx, wx = (((((((w1.setCell ⟨T + 1 + 1, 0, none⟩ (.int .i64 c1)).setCell ⟨T + 1 + 1, 1, none⟩ (.int .i64 c2)).setCell ⟨T + 1 + 1, 2, none⟩ (.int .i64 c3)).setCell ⟨T + 1 + 1, 3, none⟩ (.int .i64 c4)).setCell ⟨T + 1 + 1, 4, none⟩ (.slice (some ⟨bP, oP, none⟩) n1 pc)).setCell ⟨T + 1 + 1, 5, none⟩ (.slice tA n2 tc)).setCell ⟨T + 1 + 1, 6, none⟩ (.slice bA n3 bc)) := ⟨_, rfl⟩
    rw [← hwx] at kx ux
    have HKX := Lib.hid kx
    have HUX := Lib.hid ux
    have HWX := Lib.hid hwx
    clear kx ux hwx
    have m0 : w1.cell? ⟨T, 0, none⟩ = some (.int .i64 c1) := HBT1.out.cell 0
    have m1 : w1.cell? ⟨T, 1, none⟩ = some (.int .i64 c2) := HBT1.out.cell 1
    have m2 : w1.cell? ⟨T, 2, none⟩ = some (.int .i64 c3) := HBT1.out.cell 2
    have m3 : w1.cell? ⟨T, 3, none⟩ = some (.int .i64 c4) := HBT1.out.cell 3
    have m4 : w1.cell? ⟨T, 4, none⟩ = some (.slice (some ⟨bP, oP, none⟩) n1 pc) := HBT1.out.cell 4
    have m5 : w1.cell? ⟨T, 5, none⟩ = some (.slice tA n2 tc) := HBT1.out.cell 5
    have m6 : w1.cell? ⟨T, 6, none⟩ = some (.slice bA n3 bc) := HBT1.out.cell 6
    have n10 := HBR1.out.frozen 0
    have o0 : w1.cell? ⟨T + 1 + 1, 0, none⟩ = some (.int .i64 0) := HBR1.out.cell 0
    have n11 := HBR1.out.frozen 1
    have o1 : w1.cell? ⟨T + 1 + 1, 1, none⟩ = some (.int .i64 0) := HBR1.out.cell 1
    have n12 := HBR1.out.frozen 2
    have o2 : w1.cell? ⟨T + 1 + 1, 2, none⟩ = some (.int .i64 0) := HBR1.out.cell 2
    have n13 := HBR1.out.frozen 3
    have o3 : w1.cell? ⟨T + 1 + 1, 3, none⟩ = some (.int .i64 0) := HBR1.out.cell 3
    have n14 := HBR1.out.frozen 4
    have o4 : w1.cell? ⟨T + 1 + 1, 4, none⟩ = some (.slice none 0 0) := HBR1.out.cell 4
    have n15 := HBR1.out.frozen 5
    have o5 : w1.cell? ⟨T + 1 + 1, 5, none⟩ = some (.slice none 0 0) := HBR1.out.cell 5
    have n16 := HBR1.out.frozen 6
    have o6 : w1.cell? ⟨T + 1 + 1, 6, none⟩ = some (.slice none 0 0) := HBR1.out.cell 6
    go_wp2
    rw [← HWX.out]
    have g0 := HKX.out.cell 0
    have g1 := HKX.out.cell 1
    have g2 := HKX.out.cell 2
    have g3 := HKX.out.cell 3
    have g4 := HKX.out.cell 4
    have g5 := HKX.out.cell 5
    have g6 := HKX.out.cell 6
    simp only [List.getElem?_toArray, List.getElem?_cons_zero, List.getElem?_cons_succ] at g0 g1 g2 g3 g4 g5 g6
    refine bodyPost_res (v := .tuple #[.agg #[.int .i64 c1, .int .i64 c2, .int .i64 c3, .int .i64 c4, .slice (some ⟨bP, oP, none⟩) n1 pc, .slice tA n2 tc, .slice bA n3 bc], .int .i64 24]) (by simp [results, Try.results39, go_sem, Addr.add, g0, g1, g2, g3, g4, g5, g6]) rfl ?_
    exact ⟨⟨(some ⟨bP, oP, none⟩), pc, tx, tA, tc, bA, bc⟩, by rw [H1.out]; dsimp only; rw [HSC.out, ← HC.out], by rw [H1.out]; exact HS.out.upd (HU1.out.box HUX.out HT.out), by rw [H1.out]; exact fun _ _ _ ha => ha, HU1.out.box HUX.out HT.out⟩
  have H24 : Hid (¬ ((perAt s who).rights / 2 % 2 = 0)) := Lib.hid (by rw [← HP.out]; dsimp only; have := HBO.out.symm; simpa using this)
  obtain ⟨ix, hix⟩ : ∃ x, x = ridxM (cT track) s.ts := ⟨_, rfl⟩
  have HK : Hid (Calls Try.prog 70 #[.agg #[.int .i64 c1, .int .i64 c2, .int .i64 c3, .int .i64 c4, .slice (some ⟨bP, oP, none⟩) n1 pc, .slice tA n2 tc, .slice bA n3 bc], .int .i64 track] w1 fun e w' => e = .returned (.int .i64 ix) ∧ Upd [] w1 w') := Lib.hid (by
    have h := rtrack_any (HS.out.upd HU1.out) HI.out.ut (by rw [← HN.out.2.1]; omega) track
    rw [HSC.out, ← HC.out, ← hix] at h
    exact h)
  have HIX := Lib.hid hix
  clear hix
  have m0 : w1.cell? ⟨T, 0, none⟩ = some (.int .i64 c1) := HBT1.out.cell 0
  have m1 : w1.cell? ⟨T, 1, none⟩ = some (.int .i64 c2) := HBT1.out.cell 1
  have m2 : w1.cell? ⟨T, 2, none⟩ = some (.int .i64 c3) := HBT1.out.cell 2
  have m3 : w1.cell? ⟨T, 3, none⟩ = some (.int .i64 c4) := HBT1.out.cell 3
  have m4 : w1.cell? ⟨T, 4, none⟩ = some (.slice (some ⟨bP, oP, none⟩) n1 pc) := HBT1.out.cell 4
  have m5 : w1.cell? ⟨T, 5, none⟩ = some (.slice tA n2 tc) := HBT1.out.cell 5
  have m6 : w1.cell? ⟨T, 6, none⟩ = some (.slice bA n3 bc) := HBT1.out.cell 6
  have q4 : w1.cell? ⟨T + 1, 4, none⟩ = some (.int .i64 track) := HBQ1.out.cell 4
  go_wp2_with fail
  refine HK.out.mono ?_
  rintro _ w2 ⟨rfl, hu2⟩
  have HBT2 := Lib.hid (HBT1.out.upd hu2 (by simp))
  have HBR2 := Lib.hid (HBR1.out.upd hu2 (by simp))
  have HBQ2 := Lib.hid (HBQ1.out.upd hu2 (by simp))
  have HU2 := Lib.hid (HU1.out.next hu2)
  have HGB2 := Lib.hid (HGB1.out.upd hu2 (by simp))
  clear hu2 HK q4 m0 m1 m2 m3 m4 m5 m6
  by_cases k1 : ix < 0
  · have H1 : Hid (r = (s, 21)) := Lib.hid (by
      rw [HR.out]; unfold subscribeM
      rw [HQQ.out, if_neg H24.out, if_pos (by
        dsimp only
        cases hh : has (cT track) s.ts
        · rfl
        · exact absurd (ridx_neg.2 hh) (by rw [← HIX.out]; omega))])
    obtain ⟨kx, ux⟩ := blk7 HBR2.out (.int .i64 c1) (.int .i64 c2) (.int .i64 c3) (.int .i64 c4) (.slice (some ⟨bP, oP, none⟩) n1 pc) (.slice tA n2 tc) (.slice bA n3 bc)
    obtain ⟨wx, hwx⟩ : ∃ wx, wx = (((((((w2.setCell ⟨T + 1 + 1, 0, none⟩ (.int .i64 c1)).setCell ⟨T + 1 + 1, 1, none⟩ (.int .i64 c2)).setCell ⟨T + 1 + 1, 2, none⟩ (.int .i64 c3)).setCell ⟨T + 1 + 1, 3, none⟩ (.int .i64 c4)).setCell ⟨T + 1 + 1, 4, none⟩ (.slice (some ⟨bP, oP, none⟩) n1 pc)).setCell ⟨T + 1 + 1, 5, none⟩ (.slice tA n2 tc)).setCell ⟨T + 1 + 1, 6, none⟩ (.slice bA n3 bc)) := ⟨_, rfl⟩
    rw [← hwx] at kx ux
    have HKX := Lib.hid kx
    have HUX := Lib.hid ux
    have HWX := Lib.hid hwx
    clear kx ux hwx
    have m0 : w2.cell? ⟨T, 0, none⟩ = some (.int .i64 c1) := HBT2.out.cell 0
    have m1 : w2.cell? ⟨T, 1, none⟩ = some (.int .i64 c2) := HBT2.out.cell 1
    have m2 : w2.cell? ⟨T, 2, none⟩ = some (.int .i64 c3) := HBT2.out.cell 2
    have m3 : w2.cell? ⟨T, 3, none⟩ = some (.int .i64 c4) := HBT2.out.cell 3
    have m4 : w2.cell? ⟨T, 4, none⟩ = some (.slice (some ⟨bP, oP, none⟩) n1 pc) := HBT2.out.cell 4
    have m5 : w2.cell? ⟨T, 5, none⟩ = some (.slice tA n2 tc) := HBT2.out.cell 5
    have m6 : w2.cell? ⟨T, 6, none⟩ = some (.slice bA n3 bc) := HBT2.out.cell 6
    have n10 := HBR2.out.frozen 0
    have o0 : w2.cell? ⟨T + 1 + 1, 0, none⟩ = some (.int .i64 0) := HBR2.out.cell 0
    have n11 := HBR2.out.frozen 1
    have o1 : w2.cell? ⟨T + 1 + 1, 1, none⟩ = some (.int .i64 0) := HBR2.out.cell 1
    have n12 := HBR2.out.frozen 2
    have o2 : w2.cell? ⟨T + 1 + 1, 2, none⟩ = some (.int .i64 0) := HBR2.out.cell 2
    have n13 := HBR2.out.frozen 3
    have o3 : w2.cell? ⟨T + 1 + 1, 3, none⟩ = some (.int .i64 0) := HBR2.out.cell 3
    have n14 := HBR2.out.frozen 4
    have o4 : w2.cell? ⟨T + 1 + 1, 4, none⟩ = some (.slice none 0 0) := HBR2.out.cell 4
    have n15 := HBR2.out.frozen 5
    have o5 : w2.cell? ⟨T + 1 + 1, 5, none⟩ = some (.slice none 0 0) := HBR2.out.cell 5
    have n16 := HBR2.out.frozen 6
    have o6 : w2.cell? ⟨T + 1 + 1, 6, none⟩ = some (.slice none 0 0) := HBR2.out.cell 6
    go_wp2
    rw [← HWX.out]
    have g0 := HKX.out.cell 0
    have g1 := HKX.out.cell 1
    have g2 := HKX.out.cell 2
    have g3 := HKX.out.cell 3
    have g4 := HKX.out.cell 4
    have g5 := HKX.out.cell 5
    have g6 := HKX.out.cell 6
    simp only [List.getElem?_toArray, List.getElem?_cons_zero, List.getElem?_cons_succ] at g0 g1 g2 g3 g4 g5 g6
    refine bodyPost_res (v := .tuple #[.agg #[.int .i64 c1, .int .i64 c2, .int .i64 c3, .int .i64 c4, .slice (some ⟨bP, oP, none⟩) n1 pc, .slice tA n2 tc, .slice bA n3 bc], .int .i64 21]) (by simp [results, Try.results39, go_sem, Addr.add, g0, g1, g2, g3, g4, g5, g6]) rfl ?_
    exact ⟨⟨(some ⟨bP, oP, none⟩), pc, tx, tA, tc, bA, bc⟩, by rw [H1.out]; dsimp only; rw [HSC.out, ← HC.out], by rw [H1.out]; exact HS.out.upd (HU2.out.box HUX.out HT.out), by rw [H1.out]; exact fun _ _ _ ha => ha, HU2.out.box HUX.out HT.out⟩
  have hh : has (cT track) s.ts = true := ridx_neg.1 (by rw [← HIX.out]; omega)
  have HHT := Lib.hid hh
  obtain ⟨jt, hj⟩ : ∃ j, j = low (cT track) s.ts := ⟨_, rfl⟩
  obtain ⟨tk, ht⟩ : ∃ t, t = trkAt s track := ⟨_, rfl⟩
  obtain ⟨ta1, ta2, ta3⟩ := trk_at HI.out hh
  rw [← hj, ← ht] at ta1
  rw [← ht] at ta3
  have hixj : ix = (jt : Int) := by rw [HIX.out]; unfold ridxM; rw [if_pos hh, hj]
  subst hixj
  have hjl2 : jt < n2 := by rw [HN.out.2.1]; exact (List.getElem?_eq_some_iff.1 ta1).1
  have hjli2 : (jt : Int) < (n2 : Int) := by omega
  have hoh : has (cP tk.owner) s.ps = true := by
    obtain ⟨p, hp, he, _⟩ := HI.out.own tk ta3
    exact hasP_iff.2 ⟨p, hp, he⟩
  obtain ⟨bT, oT, _, _, e, e0, e1, _⟩ := rowT (HS.out.upd HU2.out) jt tk ta1
  dsimp only at e
  cases e
  obtain ⟨own, hown⟩ : ∃ x, x = tk.owner := ⟨_, rfl⟩
  rw [← hown] at e1 hoh
  have hbTl := cellD_lt e1
  have HTK := Lib.hid (And.intro ht hown)
  clear hh hj ht ta1 ta2 ta3 e0 k1 hown
  obtain ⟨jo, hjo⟩ : ∃ j, j = low (cP own) s.ps := ⟨_, rfl⟩
  obtain ⟨po, hpo⟩ : ∃ x, x = perAt s own := ⟨_, rfl⟩
  have hpajo := per_at HI.out hoh
  rw [← hjo, ← hpo] at hpajo
  have hrijo : ridxM (cP own) s.ps = (jo : Int) := by unfold ridxM; rw [if_pos hoh, hjo]
  have hjljo : jo < n1 := by rw [HN.out.1]; exact (List.getElem?_eq_some_iff.1 hpajo.1).1
  obtain ⟨bO, oO, e, _, f1, _⟩ := rowP (HS.out.upd HU2.out).p rfl jo po hpajo.1
  cases e
  have hbOl := cellD_lt f1
  obtain ⟨ro, hro⟩ : ∃ x, x = po.room := ⟨_, rfl⟩
  rw [← hro] at f1
  have hjlio : (jo : Int) < (n1 : Int) := by omega
  have HPO := Lib.hid (And.intro hpo hro)
  have H1C := Lib.hid (fun (z : Cls (Upd [] w2)) => quiet_cls (C := Upd [] w2) (x := z) ((rperson_any (HS.out.upd (HU2.out.next z.h)) HI.out.up (by rw [← HN.out.1]; omega) own).mono fun e w' h => ⟨h.1, z.h.next h.2⟩))
  rw [HSC.out, ← HC.out, hrijo] at H1C
  have hGw := cellD_lt (HGB2.out.cell 0)
  have g1 : ∀ z : Cls (Upd [] w2), z.w.cell? ⟨G, 1, none⟩ = some (.int .i64 y1) := fun z => (z.h.cell (p := ⟨G, 1, none⟩) hGw (by simp)).trans (HGB2.out.cell 1)
  have r1 : ∀ z : Cls (Upd [] w2), z.w.cell? ⟨bP, oP + jo * 3 + 1, none⟩ = some (.int .i64 ro) := fun z => (z.h.cell (p := ⟨bP, oP + jo * 3 + 1, none⟩) hbOl (by simp)).trans f1
  have r2 : ∀ z : Cls (Upd [] w2), z.w.cell? ⟨bT, oT + jt * 4 + 1, none⟩ = some (.int .i64 own) := fun z => (z.h.cell (p := ⟨bT, oT + jt * 4 + 1, none⟩) hbTl (by simp)).trans e1
  have hTw := cellD_lt (HBT2.out.cell 0)
  have hQw := cellD_lt (HBQ2.out.cell 0)
  have m0 : ∀ z : Cls (Upd [] w2), z.w.cell? ⟨T, 0, none⟩ = some (.int .i64 c1) := fun z => (z.h.cell (p := ⟨T, 0, none⟩) hTw (by simp)).trans (HBT2.out.cell 0)
  have m1 : ∀ z : Cls (Upd [] w2), z.w.cell? ⟨T, 1, none⟩ = some (.int .i64 c2) := fun z => (z.h.cell (p := ⟨T, 1, none⟩) hTw (by simp)).trans (HBT2.out.cell 1)
  have m2 : ∀ z : Cls (Upd [] w2), z.w.cell? ⟨T, 2, none⟩ = some (.int .i64 c3) := fun z => (z.h.cell (p := ⟨T, 2, none⟩) hTw (by simp)).trans (HBT2.out.cell 2)
  have m3 : ∀ z : Cls (Upd [] w2), z.w.cell? ⟨T, 3, none⟩ = some (.int .i64 c4) := fun z => (z.h.cell (p := ⟨T, 3, none⟩) hTw (by simp)).trans (HBT2.out.cell 3)
  have m4 : ∀ z : Cls (Upd [] w2), z.w.cell? ⟨T, 4, none⟩ = some (.slice (some ⟨bP, oP, none⟩) n1 pc) := fun z => (z.h.cell (p := ⟨T, 4, none⟩) hTw (by simp)).trans (HBT2.out.cell 4)
  have m5 : ∀ z : Cls (Upd [] w2), z.w.cell? ⟨T, 5, none⟩ = some (.slice (some ⟨bT, oT, none⟩) n2 tc) := fun z => (z.h.cell (p := ⟨T, 5, none⟩) hTw (by simp)).trans (HBT2.out.cell 5)
  have m6 : ∀ z : Cls (Upd [] w2), z.w.cell? ⟨T, 6, none⟩ = some (.slice bA n3 bc) := fun z => (z.h.cell (p := ⟨T, 6, none⟩) hTw (by simp)).trans (HBT2.out.cell 6)
  obtain ⟨bo, hbo⟩ : ∃ bo, bo = (ro != y1) := ⟨_, rfl⟩
  have HBO2 := Lib.hid hbo
  clear hbo hpo hjo hpajo hrijo e1 f1 hbTl hbOl hTw hQw hGw hro
  go_upto_region 7 with fail
  go_cut [47] (fun v wd => v = .bool bo ∧ Upd [] w2 wd)
  case first =>
    refine wp_class_tail (Upd [] w2) ((Upd.refl _ _).drewN 1) 15 (by kernel_rfl) (by kernel_rfl) (fun _ _ _ _ h => h) ?_
    intro hne
    simp only [List.take_succ_cons, List.take_zero, List.drop_succ_cons, List.drop_zero]
    repeat (go_big_quiet_step ((go_at_call 35; with_reducible exact H1C.out _)))
    refine wpQuiet_nil ?_
    rintro _ ⟨xe, rfl⟩
    go_wp2
    go_meet
    case rel => exact ⟨by rw [HBO2.out], xe.h⟩
  obtain ⟨rfl, hud⟩ := hcut
  have HBT3 := Lib.hid (HBT2.out.upd hud (by simp))
  have HBR3 := Lib.hid (HBR2.out.upd hud (by simp))
  have HBQ3 := Lib.hid (HBQ2.out.upd hud (by simp))
  have HU3 := Lib.hid (HU2.out.next hud)
  obtain ⟨w3, hw3⟩ : ∃ x : World, x = wc := ⟨_, rfl⟩
  rw [← hw3] at HBT3 HBR3 HBQ3 HU3 ⊢
  clear hud m0 m1 m2 m3 m4 m5 m6 g1 r1 r2 hw3 H1C
  cases bo
  case true =>
    have H1 : Hid (r = (s, 24)) := Lib.hid (by rw [HR.out]; unfold subscribeM; rw [HQQ.out, if_neg H24.out, if_neg (by dsimp only; rw [HHT.out]; decide), if_pos (by dsimp only; rw [← HTK.out.1, ← HTK.out.2, ← HPO.out.1, ← HPO.out.2, ← HP.out]; dsimp only; have := HBO2.out.symm; simpa using this)])
    obtain ⟨kx, ux⟩ := blk7 HBR3.out (.int .i64 c1) (.int .i64 c2) (.int .i64 c3) (.int .i64 c4) (.slice (some ⟨bP, oP, none⟩) n1 pc) (.slice (some ⟨bT, oT, none⟩) n2 tc) (.slice bA n3 bc)
    obtain ⟨wx, hwx⟩ : ∃ wx, wx = (((((((w3.setCell ⟨T + 1 + 1, 0, none⟩ (.int .i64 c1)).setCell ⟨T + 1 + 1, 1, none⟩ (.int .i64 c2)).setCell ⟨T + 1 + 1, 2, none⟩ (.int .i64 c3)).setCell ⟨T + 1 + 1, 3, none⟩ (.int .i64 c4)).setCell ⟨T + 1 + 1, 4, none⟩ (.slice (some ⟨bP, oP, none⟩) n1 pc)).setCell ⟨T + 1 + 1, 5, none⟩ (.slice (some ⟨bT, oT, none⟩) n2 tc)).setCell ⟨T + 1 + 1, 6, none⟩ (.slice bA n3 bc)) := ⟨_, rfl⟩
    rw [← hwx] at kx ux
    have HKX := Lib.hid kx
    have HUX := Lib.hid ux
    have HWX := Lib.hid hwx
    clear kx ux hwx
    have m0 : w3.cell? ⟨T, 0, none⟩ = some (.int .i64 c1) := HBT3.out.cell 0
    have m1 : w3.cell? ⟨T, 1, none⟩ = some (.int .i64 c2) := HBT3.out.cell 1
    have m2 : w3.cell? ⟨T, 2, none⟩ = some (.int .i64 c3) := HBT3.out.cell 2
    have m3 : w3.cell? ⟨T, 3, none⟩ = some (.int .i64 c4) := HBT3.out.cell 3
    have m4 : w3.cell? ⟨T, 4, none⟩ = some (.slice (some ⟨bP, oP, none⟩) n1 pc) := HBT3.out.cell 4
    have m5 : w3.cell? ⟨T, 5, none⟩ = some (.slice (some ⟨bT, oT, none⟩) n2 tc) := HBT3.out.cell 5
    have m6 : w3.cell? ⟨T, 6, none⟩ = some (.slice bA n3 bc) := HBT3.out.cell 6
    have n10 := HBR3.out.frozen 0
    have o0 : w3.cell? ⟨T + 1 + 1, 0, none⟩ = some (.int .i64 0) := HBR3.out.cell 0
    have n11 := HBR3.out.frozen 1
    have o1 : w3.cell? ⟨T + 1 + 1, 1, none⟩ = some (.int .i64 0) := HBR3.out.cell 1
    have n12 := HBR3.out.frozen 2
    have o2 : w3.cell? ⟨T + 1 + 1, 2, none⟩ = some (.int .i64 0) := HBR3.out.cell 2
    have n13 := HBR3.out.frozen 3
    have o3 : w3.cell? ⟨T + 1 + 1, 3, none⟩ = some (.int .i64 0) := HBR3.out.cell 3
    have n14 := HBR3.out.frozen 4
    have o4 : w3.cell? ⟨T + 1 + 1, 4, none⟩ = some (.slice none 0 0) := HBR3.out.cell 4
    have n15 := HBR3.out.frozen 5
    have o5 : w3.cell? ⟨T + 1 + 1, 5, none⟩ = some (.slice none 0 0) := HBR3.out.cell 5
    have n16 := HBR3.out.frozen 6
    have o6 : w3.cell? ⟨T + 1 + 1, 6, none⟩ = some (.slice none 0 0) := HBR3.out.cell 6
    go_wp2
    rw [← HWX.out]
    have g0 := HKX.out.cell 0
    have g1 := HKX.out.cell 1
    have g2 := HKX.out.cell 2
    have g3 := HKX.out.cell 3
    have g4 := HKX.out.cell 4
    have g5 := HKX.out.cell 5
    have g6 := HKX.out.cell 6
    simp only [List.getElem?_toArray, List.getElem?_cons_zero, List.getElem?_cons_succ] at g0 g1 g2 g3 g4 g5 g6
    refine bodyPost_res (v := .tuple #[.agg #[.int .i64 c1, .int .i64 c2, .int .i64 c3, .int .i64 c4, .slice (some ⟨bP, oP, none⟩) n1 pc, .slice (some ⟨bT, oT, none⟩) n2 tc, .slice bA n3 bc], .int .i64 24]) (by simp [results, Try.results39, go_sem, Addr.add, g0, g1, g2, g3, g4, g5, g6]) rfl ?_
    exact ⟨⟨(some ⟨bP, oP, none⟩), pc, tx, (some ⟨bT, oT, none⟩), tc, bA, bc⟩, by rw [H1.out]; dsimp only; rw [HSC.out, ← HC.out], by rw [H1.out]; exact HS.out.upd (HU3.out.box HUX.out HT.out), by rw [H1.out]; exact fun _ _ _ ha => ha, HU3.out.box HUX.out HT.out⟩
  have H0 : Hid (¬ ((perAt s (trkAt s track).owner).room ≠ (perAt s who).room)) := Lib.hid (by rw [← HTK.out.1, ← HTK.out.2, ← HPO.out.1, ← HPO.out.2, ← HP.out]; dsimp only; have := HBO2.out.symm; simpa using this)
  obtain ⟨ix, hix⟩ : ∃ x, x = ridxM (cB who track) s.bs := ⟨_, rfl⟩
  have HK : Hid (Calls Try.prog 45 #[.agg #[.int .i64 c1, .int .i64 c2, .int .i64 c3, .int .i64 c4, .slice (some ⟨bP, oP, none⟩) n1 pc, .slice (some ⟨bT, oT, none⟩) n2 tc, .slice bA n3 bc], .int .i64 who, .int .i64 track] w3 fun e w' => e = .returned (.int .i64 ix) ∧ Upd [] w3 w') := Lib.hid (by
    have h := rsub_any (HS.out.upd HU3.out) HI.out.ub (by rw [← HN.out.2.2]; omega) who track
    rw [HSC.out, ← HC.out, ← hix] at h
    exact h)
  have HIX2 := Lib.hid hix
  clear hix
  have m0 : w3.cell? ⟨T, 0, none⟩ = some (.int .i64 c1) := HBT3.out.cell 0
  have m1 : w3.cell? ⟨T, 1, none⟩ = some (.int .i64 c2) := HBT3.out.cell 1
  have m2 : w3.cell? ⟨T, 2, none⟩ = some (.int .i64 c3) := HBT3.out.cell 2
  have m3 : w3.cell? ⟨T, 3, none⟩ = some (.int .i64 c4) := HBT3.out.cell 3
  have m4 : w3.cell? ⟨T, 4, none⟩ = some (.slice (some ⟨bP, oP, none⟩) n1 pc) := HBT3.out.cell 4
  have m5 : w3.cell? ⟨T, 5, none⟩ = some (.slice (some ⟨bT, oT, none⟩) n2 tc) := HBT3.out.cell 5
  have m6 : w3.cell? ⟨T, 6, none⟩ = some (.slice bA n3 bc) := HBT3.out.cell 6
  have q1 : w3.cell? ⟨T + 1, 1, none⟩ = some (.int .i64 who) := HBQ3.out.cell 1
  have q4 : w3.cell? ⟨T + 1, 4, none⟩ = some (.int .i64 track) := HBQ3.out.cell 4
  go_wp2_with fail
  refine HK.out.mono ?_
  rintro _ w4 ⟨rfl, hu4⟩
  have HBT4 := Lib.hid (HBT3.out.upd hu4 (by simp))
  have HBR4 := Lib.hid (HBR3.out.upd hu4 (by simp))
  have HBQ4 := Lib.hid (HBQ3.out.upd hu4 (by simp))
  have HU4 := Lib.hid (HU3.out.next hu4)
  clear hu4 HK q1 q4 m0 m1 m2 m3 m4 m5 m6
  by_cases k7 : (0 : Int) ≤ ix
  · have H1 : Hid (r = (s, 22)) := Lib.hid (by rw [HR.out]; unfold subscribeM; rw [HQQ.out, if_neg H24.out, if_neg (by dsimp only; rw [HHT.out]; decide), if_neg H0.out, if_pos (by dsimp only; exact ridx_neg.1 (by rw [← HIX2.out]; exact k7))])
    obtain ⟨kx, ux⟩ := blk7 HBR4.out (.int .i64 c1) (.int .i64 c2) (.int .i64 c3) (.int .i64 c4) (.slice (some ⟨bP, oP, none⟩) n1 pc) (.slice (some ⟨bT, oT, none⟩) n2 tc) (.slice bA n3 bc)
    obtain ⟨wx, hwx⟩ : ∃ wx, wx = (((((((w4.setCell ⟨T + 1 + 1, 0, none⟩ (.int .i64 c1)).setCell ⟨T + 1 + 1, 1, none⟩ (.int .i64 c2)).setCell ⟨T + 1 + 1, 2, none⟩ (.int .i64 c3)).setCell ⟨T + 1 + 1, 3, none⟩ (.int .i64 c4)).setCell ⟨T + 1 + 1, 4, none⟩ (.slice (some ⟨bP, oP, none⟩) n1 pc)).setCell ⟨T + 1 + 1, 5, none⟩ (.slice (some ⟨bT, oT, none⟩) n2 tc)).setCell ⟨T + 1 + 1, 6, none⟩ (.slice bA n3 bc)) := ⟨_, rfl⟩
    rw [← hwx] at kx ux
    have HKX := Lib.hid kx
    have HUX := Lib.hid ux
    have HWX := Lib.hid hwx
    clear kx ux hwx
    have m0 : w4.cell? ⟨T, 0, none⟩ = some (.int .i64 c1) := HBT4.out.cell 0
    have m1 : w4.cell? ⟨T, 1, none⟩ = some (.int .i64 c2) := HBT4.out.cell 1
    have m2 : w4.cell? ⟨T, 2, none⟩ = some (.int .i64 c3) := HBT4.out.cell 2
    have m3 : w4.cell? ⟨T, 3, none⟩ = some (.int .i64 c4) := HBT4.out.cell 3
    have m4 : w4.cell? ⟨T, 4, none⟩ = some (.slice (some ⟨bP, oP, none⟩) n1 pc) := HBT4.out.cell 4
    have m5 : w4.cell? ⟨T, 5, none⟩ = some (.slice (some ⟨bT, oT, none⟩) n2 tc) := HBT4.out.cell 5
    have m6 : w4.cell? ⟨T, 6, none⟩ = some (.slice bA n3 bc) := HBT4.out.cell 6
    have n10 := HBR4.out.frozen 0
    have o0 : w4.cell? ⟨T + 1 + 1, 0, none⟩ = some (.int .i64 0) := HBR4.out.cell 0
    have n11 := HBR4.out.frozen 1
    have o1 : w4.cell? ⟨T + 1 + 1, 1, none⟩ = some (.int .i64 0) := HBR4.out.cell 1
    have n12 := HBR4.out.frozen 2
    have o2 : w4.cell? ⟨T + 1 + 1, 2, none⟩ = some (.int .i64 0) := HBR4.out.cell 2
    have n13 := HBR4.out.frozen 3
    have o3 : w4.cell? ⟨T + 1 + 1, 3, none⟩ = some (.int .i64 0) := HBR4.out.cell 3
    have n14 := HBR4.out.frozen 4
    have o4 : w4.cell? ⟨T + 1 + 1, 4, none⟩ = some (.slice none 0 0) := HBR4.out.cell 4
    have n15 := HBR4.out.frozen 5
    have o5 : w4.cell? ⟨T + 1 + 1, 5, none⟩ = some (.slice none 0 0) := HBR4.out.cell 5
    have n16 := HBR4.out.frozen 6
    have o6 : w4.cell? ⟨T + 1 + 1, 6, none⟩ = some (.slice none 0 0) := HBR4.out.cell 6
    go_wp2
    rw [← HWX.out]
    have g0 := HKX.out.cell 0
    have g1 := HKX.out.cell 1
    have g2 := HKX.out.cell 2
    have g3 := HKX.out.cell 3
    have g4 := HKX.out.cell 4
    have g5 := HKX.out.cell 5
    have g6 := HKX.out.cell 6
    simp only [List.getElem?_toArray, List.getElem?_cons_zero, List.getElem?_cons_succ] at g0 g1 g2 g3 g4 g5 g6
    refine bodyPost_res (v := .tuple #[.agg #[.int .i64 c1, .int .i64 c2, .int .i64 c3, .int .i64 c4, .slice (some ⟨bP, oP, none⟩) n1 pc, .slice (some ⟨bT, oT, none⟩) n2 tc, .slice bA n3 bc], .int .i64 22]) (by simp [results, Try.results39, go_sem, Addr.add, g0, g1, g2, g3, g4, g5, g6]) rfl ?_
    exact ⟨⟨(some ⟨bP, oP, none⟩), pc, tx, (some ⟨bT, oT, none⟩), tc, bA, bc⟩, by rw [H1.out]; dsimp only; rw [HSC.out, ← HC.out], by rw [H1.out]; exact HS.out.upd (HU4.out.box HUX.out HT.out), by rw [H1.out]; exact fun _ _ _ ha => ha, HU4.out.box HUX.out HT.out⟩
  have HNO : Hid (has (cB who track) s.bs = false) := Lib.hid (by
    cases hh : has (cB who track) s.bs
    · rfl
    · exact absurd (by rw [HIX2.out]; exact ridx_neg.2 hh) k7)
  have q6 : w4.cell? ⟨T + 1, 6, none⟩ = some (.int .i64 layer) := HBQ4.out.cell 6
  have q7 : w4.cell? ⟨T + 1, 7, none⟩ = some (.int .i64 tid) := HBQ4.out.cell 7
  by_cases l0 : layer < 0
  · have H1 : Hid (r = (s, 1)) := Lib.hid (by rw [HR.out]; unfold subscribeM; rw [HQQ.out, if_neg H24.out, if_neg (by dsimp only; rw [HHT.out]; decide), if_neg H0.out, if_neg (by dsimp only; rw [HNO.out]; decide), if_pos (by unfold layersM; dsimp only; simp; omega)])
    obtain ⟨kx, ux⟩ := blk7 HBR4.out (.int .i64 c1) (.int .i64 c2) (.int .i64 c3) (.int .i64 c4) (.slice (some ⟨bP, oP, none⟩) n1 pc) (.slice (some ⟨bT, oT, none⟩) n2 tc) (.slice bA n3 bc)
    obtain ⟨wx, hwx⟩ : ∃ wx, wx = (((((((w4.setCell ⟨T + 1 + 1, 0, none⟩ (.int .i64 c1)).setCell ⟨T + 1 + 1, 1, none⟩ (.int .i64 c2)).setCell ⟨T + 1 + 1, 2, none⟩ (.int .i64 c3)).setCell ⟨T + 1 + 1, 3, none⟩ (.int .i64 c4)).setCell ⟨T + 1 + 1, 4, none⟩ (.slice (some ⟨bP, oP, none⟩) n1 pc)).setCell ⟨T + 1 + 1, 5, none⟩ (.slice (some ⟨bT, oT, none⟩) n2 tc)).setCell ⟨T + 1 + 1, 6, none⟩ (.slice bA n3 bc)) := ⟨_, rfl⟩
    rw [← hwx] at kx ux
    have HKX := Lib.hid kx
    have HUX := Lib.hid ux
    have HWX := Lib.hid hwx
    clear kx ux hwx
    have m0 : w4.cell? ⟨T, 0, none⟩ = some (.int .i64 c1) := HBT4.out.cell 0
    have m1 : w4.cell? ⟨T, 1, none⟩ = some (.int .i64 c2) := HBT4.out.cell 1
    have m2 : w4.cell? ⟨T, 2, none⟩ = some (.int .i64 c3) := HBT4.out.cell 2
    have m3 : w4.cell? ⟨T, 3, none⟩ = some (.int .i64 c4) := HBT4.out.cell 3
    have m4 : w4.cell? ⟨T, 4, none⟩ = some (.slice (some ⟨bP, oP, none⟩) n1 pc) := HBT4.out.cell 4
    have m5 : w4.cell? ⟨T, 5, none⟩ = some (.slice (some ⟨bT, oT, none⟩) n2 tc) := HBT4.out.cell 5
    have m6 : w4.cell? ⟨T, 6, none⟩ = some (.slice bA n3 bc) := HBT4.out.cell 6
    have n10 := HBR4.out.frozen 0
    have o0 : w4.cell? ⟨T + 1 + 1, 0, none⟩ = some (.int .i64 0) := HBR4.out.cell 0
    have n11 := HBR4.out.frozen 1
    have o1 : w4.cell? ⟨T + 1 + 1, 1, none⟩ = some (.int .i64 0) := HBR4.out.cell 1
    have n12 := HBR4.out.frozen 2
    have o2 : w4.cell? ⟨T + 1 + 1, 2, none⟩ = some (.int .i64 0) := HBR4.out.cell 2
    have n13 := HBR4.out.frozen 3
    have o3 : w4.cell? ⟨T + 1 + 1, 3, none⟩ = some (.int .i64 0) := HBR4.out.cell 3
    have n14 := HBR4.out.frozen 4
    have o4 : w4.cell? ⟨T + 1 + 1, 4, none⟩ = some (.slice none 0 0) := HBR4.out.cell 4
    have n15 := HBR4.out.frozen 5
    have o5 : w4.cell? ⟨T + 1 + 1, 5, none⟩ = some (.slice none 0 0) := HBR4.out.cell 5
    have n16 := HBR4.out.frozen 6
    have o6 : w4.cell? ⟨T + 1 + 1, 6, none⟩ = some (.slice none 0 0) := HBR4.out.cell 6
    go_wp2
    rw [← HWX.out]
    have g0 := HKX.out.cell 0
    have g1 := HKX.out.cell 1
    have g2 := HKX.out.cell 2
    have g3 := HKX.out.cell 3
    have g4 := HKX.out.cell 4
    have g5 := HKX.out.cell 5
    have g6 := HKX.out.cell 6
    simp only [List.getElem?_toArray, List.getElem?_cons_zero, List.getElem?_cons_succ] at g0 g1 g2 g3 g4 g5 g6
    refine bodyPost_res (v := .tuple #[.agg #[.int .i64 c1, .int .i64 c2, .int .i64 c3, .int .i64 c4, .slice (some ⟨bP, oP, none⟩) n1 pc, .slice (some ⟨bT, oT, none⟩) n2 tc, .slice bA n3 bc], .int .i64 1]) (by simp [results, Try.results39, go_sem, Addr.add, g0, g1, g2, g3, g4, g5, g6]) rfl ?_
    exact ⟨⟨(some ⟨bP, oP, none⟩), pc, tx, (some ⟨bT, oT, none⟩), tc, bA, bc⟩, by rw [H1.out]; dsimp only; rw [HSC.out, ← HC.out], by rw [H1.out]; exact HS.out.upd (HU4.out.box HUX.out HT.out), by rw [H1.out]; exact fun _ _ _ ha => ha, HU4.out.box HUX.out HT.out⟩
  by_cases l1 : 2 < layer
  · have H1 : Hid (r = (s, 1)) := Lib.hid (by rw [HR.out]; unfold subscribeM; rw [HQQ.out, if_neg H24.out, if_neg (by dsimp only; rw [HHT.out]; decide), if_neg H0.out, if_neg (by dsimp only; rw [HNO.out]; decide), if_pos (by unfold layersM; dsimp only; simp; omega)])
    obtain ⟨kx, ux⟩ := blk7 HBR4.out (.int .i64 c1) (.int .i64 c2) (.int .i64 c3) (.int .i64 c4) (.slice (some ⟨bP, oP, none⟩) n1 pc) (.slice (some ⟨bT, oT, none⟩) n2 tc) (.slice bA n3 bc)
    obtain ⟨wx, hwx⟩ : ∃ wx, wx = (((((((w4.setCell ⟨T + 1 + 1, 0, none⟩ (.int .i64 c1)).setCell ⟨T + 1 + 1, 1, none⟩ (.int .i64 c2)).setCell ⟨T + 1 + 1, 2, none⟩ (.int .i64 c3)).setCell ⟨T + 1 + 1, 3, none⟩ (.int .i64 c4)).setCell ⟨T + 1 + 1, 4, none⟩ (.slice (some ⟨bP, oP, none⟩) n1 pc)).setCell ⟨T + 1 + 1, 5, none⟩ (.slice (some ⟨bT, oT, none⟩) n2 tc)).setCell ⟨T + 1 + 1, 6, none⟩ (.slice bA n3 bc)) := ⟨_, rfl⟩
    rw [← hwx] at kx ux
    have HKX := Lib.hid kx
    have HUX := Lib.hid ux
    have HWX := Lib.hid hwx
    clear kx ux hwx
    have m0 : w4.cell? ⟨T, 0, none⟩ = some (.int .i64 c1) := HBT4.out.cell 0
    have m1 : w4.cell? ⟨T, 1, none⟩ = some (.int .i64 c2) := HBT4.out.cell 1
    have m2 : w4.cell? ⟨T, 2, none⟩ = some (.int .i64 c3) := HBT4.out.cell 2
    have m3 : w4.cell? ⟨T, 3, none⟩ = some (.int .i64 c4) := HBT4.out.cell 3
    have m4 : w4.cell? ⟨T, 4, none⟩ = some (.slice (some ⟨bP, oP, none⟩) n1 pc) := HBT4.out.cell 4
    have m5 : w4.cell? ⟨T, 5, none⟩ = some (.slice (some ⟨bT, oT, none⟩) n2 tc) := HBT4.out.cell 5
    have m6 : w4.cell? ⟨T, 6, none⟩ = some (.slice bA n3 bc) := HBT4.out.cell 6
    have n10 := HBR4.out.frozen 0
    have o0 : w4.cell? ⟨T + 1 + 1, 0, none⟩ = some (.int .i64 0) := HBR4.out.cell 0
    have n11 := HBR4.out.frozen 1
    have o1 : w4.cell? ⟨T + 1 + 1, 1, none⟩ = some (.int .i64 0) := HBR4.out.cell 1
    have n12 := HBR4.out.frozen 2
    have o2 : w4.cell? ⟨T + 1 + 1, 2, none⟩ = some (.int .i64 0) := HBR4.out.cell 2
    have n13 := HBR4.out.frozen 3
    have o3 : w4.cell? ⟨T + 1 + 1, 3, none⟩ = some (.int .i64 0) := HBR4.out.cell 3
    have n14 := HBR4.out.frozen 4
    have o4 : w4.cell? ⟨T + 1 + 1, 4, none⟩ = some (.slice none 0 0) := HBR4.out.cell 4
    have n15 := HBR4.out.frozen 5
    have o5 : w4.cell? ⟨T + 1 + 1, 5, none⟩ = some (.slice none 0 0) := HBR4.out.cell 5
    have n16 := HBR4.out.frozen 6
    have o6 : w4.cell? ⟨T + 1 + 1, 6, none⟩ = some (.slice none 0 0) := HBR4.out.cell 6
    go_wp2
    rw [← HWX.out]
    have g0 := HKX.out.cell 0
    have g1 := HKX.out.cell 1
    have g2 := HKX.out.cell 2
    have g3 := HKX.out.cell 3
    have g4 := HKX.out.cell 4
    have g5 := HKX.out.cell 5
    have g6 := HKX.out.cell 6
    simp only [List.getElem?_toArray, List.getElem?_cons_zero, List.getElem?_cons_succ] at g0 g1 g2 g3 g4 g5 g6
    refine bodyPost_res (v := .tuple #[.agg #[.int .i64 c1, .int .i64 c2, .int .i64 c3, .int .i64 c4, .slice (some ⟨bP, oP, none⟩) n1 pc, .slice (some ⟨bT, oT, none⟩) n2 tc, .slice bA n3 bc], .int .i64 1]) (by simp [results, Try.results39, go_sem, Addr.add, g0, g1, g2, g3, g4, g5, g6]) rfl ?_
    exact ⟨⟨(some ⟨bP, oP, none⟩), pc, tx, (some ⟨bT, oT, none⟩), tc, bA, bc⟩, by rw [H1.out]; dsimp only; rw [HSC.out, ← HC.out], by rw [H1.out]; exact HS.out.upd (HU4.out.box HUX.out HT.out), by rw [H1.out]; exact fun _ _ _ ha => ha, HU4.out.box HUX.out HT.out⟩
  by_cases l2 : tid < 0
  · have H1 : Hid (r = (s, 1)) := Lib.hid (by rw [HR.out]; unfold subscribeM; rw [HQQ.out, if_neg H24.out, if_neg (by dsimp only; rw [HHT.out]; decide), if_neg H0.out, if_neg (by dsimp only; rw [HNO.out]; decide), if_pos (by unfold layersM; dsimp only; simp; omega)])
    obtain ⟨kx, ux⟩ := blk7 HBR4.out (.int .i64 c1) (.int .i64 c2) (.int .i64 c3) (.int .i64 c4) (.slice (some ⟨bP, oP, none⟩) n1 pc) (.slice (some ⟨bT, oT, none⟩) n2 tc) (.slice bA n3 bc)
    obtain ⟨wx, hwx⟩ : ∃ wx, wx = (((((((w4.setCell ⟨T + 1 + 1, 0, none⟩ (.int .i64 c1)).setCell ⟨T + 1 + 1, 1, none⟩ (.int .i64 c2)).setCell ⟨T + 1 + 1, 2, none⟩ (.int .i64 c3)).setCell ⟨T + 1 + 1, 3, none⟩ (.int .i64 c4)).setCell ⟨T + 1 + 1, 4, none⟩ (.slice (some ⟨bP, oP, none⟩) n1 pc)).setCell ⟨T + 1 + 1, 5, none⟩ (.slice (some ⟨bT, oT, none⟩) n2 tc)).setCell ⟨T + 1 + 1, 6, none⟩ (.slice bA n3 bc)) := ⟨_, rfl⟩
    rw [← hwx] at kx ux
    have HKX := Lib.hid kx
    have HUX := Lib.hid ux
    have HWX := Lib.hid hwx
    clear kx ux hwx
    have m0 : w4.cell? ⟨T, 0, none⟩ = some (.int .i64 c1) := HBT4.out.cell 0
    have m1 : w4.cell? ⟨T, 1, none⟩ = some (.int .i64 c2) := HBT4.out.cell 1
    have m2 : w4.cell? ⟨T, 2, none⟩ = some (.int .i64 c3) := HBT4.out.cell 2
    have m3 : w4.cell? ⟨T, 3, none⟩ = some (.int .i64 c4) := HBT4.out.cell 3
    have m4 : w4.cell? ⟨T, 4, none⟩ = some (.slice (some ⟨bP, oP, none⟩) n1 pc) := HBT4.out.cell 4
    have m5 : w4.cell? ⟨T, 5, none⟩ = some (.slice (some ⟨bT, oT, none⟩) n2 tc) := HBT4.out.cell 5
    have m6 : w4.cell? ⟨T, 6, none⟩ = some (.slice bA n3 bc) := HBT4.out.cell 6
    have n10 := HBR4.out.frozen 0
    have o0 : w4.cell? ⟨T + 1 + 1, 0, none⟩ = some (.int .i64 0) := HBR4.out.cell 0
    have n11 := HBR4.out.frozen 1
    have o1 : w4.cell? ⟨T + 1 + 1, 1, none⟩ = some (.int .i64 0) := HBR4.out.cell 1
    have n12 := HBR4.out.frozen 2
    have o2 : w4.cell? ⟨T + 1 + 1, 2, none⟩ = some (.int .i64 0) := HBR4.out.cell 2
    have n13 := HBR4.out.frozen 3
    have o3 : w4.cell? ⟨T + 1 + 1, 3, none⟩ = some (.int .i64 0) := HBR4.out.cell 3
    have n14 := HBR4.out.frozen 4
    have o4 : w4.cell? ⟨T + 1 + 1, 4, none⟩ = some (.slice none 0 0) := HBR4.out.cell 4
    have n15 := HBR4.out.frozen 5
    have o5 : w4.cell? ⟨T + 1 + 1, 5, none⟩ = some (.slice none 0 0) := HBR4.out.cell 5
    have n16 := HBR4.out.frozen 6
    have o6 : w4.cell? ⟨T + 1 + 1, 6, none⟩ = some (.slice none 0 0) := HBR4.out.cell 6
    go_wp2
    rw [← HWX.out]
    have g0 := HKX.out.cell 0
    have g1 := HKX.out.cell 1
    have g2 := HKX.out.cell 2
    have g3 := HKX.out.cell 3
    have g4 := HKX.out.cell 4
    have g5 := HKX.out.cell 5
    have g6 := HKX.out.cell 6
    simp only [List.getElem?_toArray, List.getElem?_cons_zero, List.getElem?_cons_succ] at g0 g1 g2 g3 g4 g5 g6
    refine bodyPost_res (v := .tuple #[.agg #[.int .i64 c1, .int .i64 c2, .int .i64 c3, .int .i64 c4, .slice (some ⟨bP, oP, none⟩) n1 pc, .slice (some ⟨bT, oT, none⟩) n2 tc, .slice bA n3 bc], .int .i64 1]) (by simp [results, Try.results39, go_sem, Addr.add, g0, g1, g2, g3, g4, g5, g6]) rfl ?_
    exact ⟨⟨(some ⟨bP, oP, none⟩), pc, tx, (some ⟨bT, oT, none⟩), tc, bA, bc⟩, by rw [H1.out]; dsimp only; rw [HSC.out, ← HC.out], by rw [H1.out]; exact HS.out.upd (HU4.out.box HUX.out HT.out), by rw [H1.out]; exact fun _ _ _ ha => ha, HU4.out.box HUX.out HT.out⟩
  by_cases l3 : 3 < tid
  · have H1 : Hid (r = (s, 1)) := Lib.hid (by rw [HR.out]; unfold subscribeM; rw [HQQ.out, if_neg H24.out, if_neg (by dsimp only; rw [HHT.out]; decide), if_neg H0.out, if_neg (by dsimp only; rw [HNO.out]; decide), if_pos (by unfold layersM; dsimp only; simp; omega)])
    obtain ⟨kx, ux⟩ := blk7 HBR4.out (.int .i64 c1) (.int .i64 c2) (.int .i64 c3) (.int .i64 c4) (.slice (some ⟨bP, oP, none⟩) n1 pc) (.slice (some ⟨bT, oT, none⟩) n2 tc) (.slice bA n3 bc)
    obtain ⟨wx, hwx⟩ : ∃ wx, wx = (((((((w4.setCell ⟨T + 1 + 1, 0, none⟩ (.int .i64 c1)).setCell ⟨T + 1 + 1, 1, none⟩ (.int .i64 c2)).setCell ⟨T + 1 + 1, 2, none⟩ (.int .i64 c3)).setCell ⟨T + 1 + 1, 3, none⟩ (.int .i64 c4)).setCell ⟨T + 1 + 1, 4, none⟩ (.slice (some ⟨bP, oP, none⟩) n1 pc)).setCell ⟨T + 1 + 1, 5, none⟩ (.slice (some ⟨bT, oT, none⟩) n2 tc)).setCell ⟨T + 1 + 1, 6, none⟩ (.slice bA n3 bc)) := ⟨_, rfl⟩
    rw [← hwx] at kx ux
    have HKX := Lib.hid kx
    have HUX := Lib.hid ux
    have HWX := Lib.hid hwx
    clear kx ux hwx
    have m0 : w4.cell? ⟨T, 0, none⟩ = some (.int .i64 c1) := HBT4.out.cell 0
    have m1 : w4.cell? ⟨T, 1, none⟩ = some (.int .i64 c2) := HBT4.out.cell 1
    have m2 : w4.cell? ⟨T, 2, none⟩ = some (.int .i64 c3) := HBT4.out.cell 2
    have m3 : w4.cell? ⟨T, 3, none⟩ = some (.int .i64 c4) := HBT4.out.cell 3
    have m4 : w4.cell? ⟨T, 4, none⟩ = some (.slice (some ⟨bP, oP, none⟩) n1 pc) := HBT4.out.cell 4
    have m5 : w4.cell? ⟨T, 5, none⟩ = some (.slice (some ⟨bT, oT, none⟩) n2 tc) := HBT4.out.cell 5
    have m6 : w4.cell? ⟨T, 6, none⟩ = some (.slice bA n3 bc) := HBT4.out.cell 6
    have n10 := HBR4.out.frozen 0
    have o0 : w4.cell? ⟨T + 1 + 1, 0, none⟩ = some (.int .i64 0) := HBR4.out.cell 0
    have n11 := HBR4.out.frozen 1
    have o1 : w4.cell? ⟨T + 1 + 1, 1, none⟩ = some (.int .i64 0) := HBR4.out.cell 1
    have n12 := HBR4.out.frozen 2
    have o2 : w4.cell? ⟨T + 1 + 1, 2, none⟩ = some (.int .i64 0) := HBR4.out.cell 2
    have n13 := HBR4.out.frozen 3
    have o3 : w4.cell? ⟨T + 1 + 1, 3, none⟩ = some (.int .i64 0) := HBR4.out.cell 3
    have n14 := HBR4.out.frozen 4
    have o4 : w4.cell? ⟨T + 1 + 1, 4, none⟩ = some (.slice none 0 0) := HBR4.out.cell 4
    have n15 := HBR4.out.frozen 5
    have o5 : w4.cell? ⟨T + 1 + 1, 5, none⟩ = some (.slice none 0 0) := HBR4.out.cell 5
    have n16 := HBR4.out.frozen 6
    have o6 : w4.cell? ⟨T + 1 + 1, 6, none⟩ = some (.slice none 0 0) := HBR4.out.cell 6
    go_wp2
    rw [← HWX.out]
    have g0 := HKX.out.cell 0
    have g1 := HKX.out.cell 1
    have g2 := HKX.out.cell 2
    have g3 := HKX.out.cell 3
    have g4 := HKX.out.cell 4
    have g5 := HKX.out.cell 5
    have g6 := HKX.out.cell 6
    simp only [List.getElem?_toArray, List.getElem?_cons_zero, List.getElem?_cons_succ] at g0 g1 g2 g3 g4 g5 g6
    refine bodyPost_res (v := .tuple #[.agg #[.int .i64 c1, .int .i64 c2, .int .i64 c3, .int .i64 c4, .slice (some ⟨bP, oP, none⟩) n1 pc, .slice (some ⟨bT, oT, none⟩) n2 tc, .slice bA n3 bc], .int .i64 1]) (by simp [results, Try.results39, go_sem, Addr.add, g0, g1, g2, g3, g4, g5, g6]) rfl ?_
    exact ⟨⟨(some ⟨bP, oP, none⟩), pc, tx, (some ⟨bT, oT, none⟩), tc, bA, bc⟩, by rw [H1.out]; dsimp only; rw [HSC.out, ← HC.out], by rw [H1.out]; exact HS.out.upd (HU4.out.box HUX.out HT.out), by rw [H1.out]; exact fun _ _ _ ha => ha, HU4.out.box HUX.out HT.out⟩
  have HLA : Hid (layersM (⟨kd, who, room, rights, track, ss, layer, tid⟩ : Rq) = true) := Lib.hid (by unfold layersM; dsimp only; simp; omega)
  have HRW := Lib.hid (rowB (HS.out.upd HU4.out).b rfl)
  go_wp2
  clear q6 q7 l0 l1 l2 l3 k7
  go_loopg [8, 9, 10] n3 (fun gk x8 x9 x10 wr => ∃ i : Nat, i ≤ n3 ∧ n3 ≤ i + gk ∧ x10 = .int .i64 i ∧ (∃ cn : Nat, x8 = .int .i64 cn ∧ cn = (s.bs.take i).countP (fun b => decide (b.who = who)) ∧ cn ≤ i) ∧ (∃ ca : Nat, x9 = .int .i64 ca ∧ ca = (s.bs.take i).countP (fun b => decide (cB who track b < 0)) ∧ ca ≤ i) ∧ Upd [] w4 wr)
  case atStart => exact ⟨0, Nat.zero_le _, by omega, rfl, ⟨0, rfl, by simp, Nat.le_refl _⟩, ⟨0, rfl, by simp, Nat.le_refl _⟩, Upd.refl _ _⟩
  case round =>
    obtain ⟨k, hk, hgk, rfl, ⟨cn, rfl, hcn, hcnl⟩, ⟨i, rfl, hca, hcal⟩, hur⟩ := hrel
    have m6 : wr.cell? ⟨T, 6, none⟩ = some (.slice bA n3 bc) := (HBT4.out.upd hur (by simp)).cell 6
    by_cases hlt : k < n3
    · obtain ⟨x, hxi⟩ : ∃ x, s.bs[k]? = some x := ⟨_, List.getElem?_eq_getElem (by rw [← HN.out.2.2]; exact hlt)⟩
      obtain ⟨b1, o1, e, e0, e1, _⟩ := HRW.out k x hxi
      cases e
      have hb1l := cellD_lt e0
      replace e0 := (hur.cell (p := ⟨b1, o1 + k * 5, none⟩) hb1l (by simp)).trans e0
      replace e1 := (hur.cell (p := ⟨b1, o1 + k * 5 + 1, none⟩) hb1l (by simp)).trans e1
      have q1 : wr.cell? ⟨T + 1, 1, none⟩ = some (.int .i64 who) := (HBQ4.out.upd hur (by simp)).cell 1
      have q4 : wr.cell? ⟨T + 1, 4, none⟩ = some (.int .i64 track) := (HBQ4.out.upd hur (by simp)).cell 4
      have hc1 := count_take1 (p := fun b : Sb => decide (b.who = who)) hxi
      have hc2 := count_take1 (p := fun b : Sb => decide (cB who track b < 0)) hxi
      rw [← hcn] at hc1
      rw [← hca] at hc2
      obtain ⟨x0, x1, x2, x3, xm⟩ := x
      dsimp only at e0 e1 hc1
      have hwk : IntKind.i64.wrap ((k : Int) + 1) = (k : Int) + 1 := IntWalk.i64_in _ (by omega)
      have hwn : IntKind.i64.wrap ((cn : Int) + 1) = (cn : Int) + 1 := IntWalk.i64_in _ (by omega)
      have hwa : IntKind.i64.wrap ((i : Int) + 1) = (i : Int) + 1 := IntWalk.i64_in _ (by omega)
      have hkli : (k : Int) < (n3 : Int) := by omega
      have HCN := Lib.hid hc1
      have HCA := Lib.hid hc2
      have HUR := Lib.hid hur
      have HGK := Lib.hid hgk
      clear hxi hb1l hc1 hc2 hur hgk hcn hca
      by_cases a1 : x0 < who
      · have hd0 : decide (x0 < who) = true := decide_eq_true a1
        have hq0 : (x0 == who) = false := beq_eq_false_iff_ne.2 (by omega)
        have HC1 : Hid ((s.bs.take (k + 1)).countP (fun b => decide (b.who = who)) = cn + 0) := Lib.hid (by rw [HCN.out]; simp [show ¬ x0 = who by omega])
        have HC2 : Hid ((s.bs.take (k + 1)).countP (fun b => decide (cB who track b < 0)) = i + 1) := Lib.hid (by rw [HCA.out]; simp only [cB_neg]; rw [if_pos (by simp; omega)])
        clear HCN HCA
        go_wp2_with fail
        go_quiet (fail)
        go_wp2_with fail
        go_quiet (fail)
        go_wp2
        go_roundg (gk - 1)
        case measure => have := HGK.out; omega
        case rel => exact ⟨k + 1, by omega, by have := HGK.out; omega, by go_num, ⟨cn + 0, by go_num, HC1.out.symm, by omega⟩, ⟨i + 1, by go_num, HC2.out.symm, by omega⟩, HUR.out.drewN _⟩
      by_cases a2 : x0 = who
      · have a2s : who = x0 := a2.symm
        subst a2s
        clear a2
        by_cases a3 : x1 < track
        · have hd0 : decide (who < who) = false := decide_eq_false (by omega)
          have hd1 : decide (x1 < track) = true := decide_eq_true a3
          have HC1 : Hid ((s.bs.take (k + 1)).countP (fun b => decide (b.who = who)) = cn + 1) := Lib.hid (by rw [HCN.out]; simp)
          have HC2 : Hid ((s.bs.take (k + 1)).countP (fun b => decide (cB who track b < 0)) = i + 1) := Lib.hid (by rw [HCA.out]; simp only [cB_neg]; rw [if_pos (by simp; omega)])
          clear HCN HCA
          go_wp2_with fail
          go_quiet (fail)
          go_wp2_with fail
          go_quiet (fail)
          go_wp2
          go_roundg (gk - 1)
          case measure => have := HGK.out; omega
          case rel => exact ⟨k + 1, by omega, by have := HGK.out; omega, by go_num, ⟨cn + 1, by go_num, HC1.out.symm, by omega⟩, ⟨i + 1, by go_num, HC2.out.symm, by omega⟩, HUR.out.drewN _⟩
        · have hd0 : decide (who < who) = false := decide_eq_false (by omega)
          have hd1 : decide (x1 < track) = false := decide_eq_false a3
          have HC1 : Hid ((s.bs.take (k + 1)).countP (fun b => decide (b.who = who)) = cn + 1) := Lib.hid (by rw [HCN.out]; simp)
          have HC2 : Hid ((s.bs.take (k + 1)).countP (fun b => decide (cB who track b < 0)) = i + 0) := Lib.hid (by rw [HCA.out]; simp only [cB_neg]; rw [if_neg (by simp; omega)])
          clear HCN HCA
          go_wp2_with fail
          go_quiet (fail)
          go_wp2_with fail
          go_quiet (fail)
          go_wp2
          go_roundg (gk - 1)
          case measure => have := HGK.out; omega
          case rel => exact ⟨k + 1, by omega, by have := HGK.out; omega, by go_num, ⟨cn + 1, by go_num, HC1.out.symm, by omega⟩, ⟨i + 0, by go_num, HC2.out.symm, by omega⟩, HUR.out.drewN _⟩
      · have hd0 : decide (x0 < who) = false := decide_eq_false a1
        have hq0 : (x0 == who) = false := beq_eq_false_iff_ne.2 a2
        have HC1 : Hid ((s.bs.take (k + 1)).countP (fun b => decide (b.who = who)) = cn + 0) := Lib.hid (by rw [HCN.out]; simp [a2])
        have HC2 : Hid ((s.bs.take (k + 1)).countP (fun b => decide (cB who track b < 0)) = i + 0) := Lib.hid (by rw [HCA.out]; simp only [cB_neg]; rw [if_neg (by simp; omega)])
        clear HCN HCA
        go_wp2_with fail
        go_quiet (fail)
        go_wp2_with fail
        go_quiet (fail)
        go_wp2
        go_roundg (gk - 1)
        case measure => have := HGK.out; omega
        case rel => exact ⟨k + 1, by omega, by have := HGK.out; omega, by go_num, ⟨cn + 0, by go_num, HC1.out.symm, by omega⟩, ⟨i + 0, by go_num, HC2.out.symm, by omega⟩, HUR.out.drewN _⟩
    · have hkn : k = n3 := by omega
      subst hkn
      have HCN : Hid (cn = hasN s who) := Lib.hid (by rw [hcn, HN.out.2.2, List.take_length]; rfl)
      have HLO : Hid (low (cB who track) s.bs = i) := Lib.hid (by rw [hca, HN.out.2.2, List.take_length]; rfl)
      have hi : i ≤ k := hcal
      have HBT5 := Lib.hid (HBT4.out.upd hur (by simp))
      have HBR5 := Lib.hid (HBR4.out.upd hur (by simp))
      have HBQ5 := Lib.hid (HBQ4.out.upd hur (by simp))
      have HU5 := Lib.hid (HU4.out.next hur)
      have HUC := Lib.hid hur
      clear hcn hca hcnl hcal hgk hk hlt hur m6
      have m2 : wr.cell? ⟨T, 2, none⟩ = some (.int .i64 c3) := HBT5.out.cell 2
      have m6 : wr.cell? ⟨T, 6, none⟩ = some (.slice bA k bc) := HBT5.out.cell 6
      by_cases k8 : c3 ≤ (cn : Int)
      · have H1 : Hid (r = (s, 25)) := Lib.hid (by rw [HR.out]; unfold subscribeM; rw [HQQ.out, if_neg H24.out, if_neg (by dsimp only; rw [HHT.out]; decide), if_neg H0.out, if_neg (by dsimp only; rw [HNO.out]; decide), if_neg (by rw [HLA.out]; decide), if_pos (by dsimp only; rw [← HC.out, ← HCN.out]; exact k8)])
        obtain ⟨kx, ux⟩ := blk7 HBR5.out (.int .i64 c1) (.int .i64 c2) (.int .i64 c3) (.int .i64 c4) (.slice (some ⟨bP, oP, none⟩) n1 pc) (.slice (some ⟨bT, oT, none⟩) n2 tc) (.slice bA k bc)
        obtain ⟨wx, hwx⟩ : ∃ wx, wx = (((((((wr.setCell ⟨T + 1 + 1, 0, none⟩ (.int .i64 c1)).setCell ⟨T + 1 + 1, 1, none⟩ (.int .i64 c2)).setCell ⟨T + 1 + 1, 2, none⟩ (.int .i64 c3)).setCell ⟨T + 1 + 1, 3, none⟩ (.int .i64 c4)).setCell ⟨T + 1 + 1, 4, none⟩ (.slice (some ⟨bP, oP, none⟩) n1 pc)).setCell ⟨T + 1 + 1, 5, none⟩ (.slice (some ⟨bT, oT, none⟩) n2 tc)).setCell ⟨T + 1 + 1, 6, none⟩ (.slice bA k bc)) := ⟨_, rfl⟩
        rw [← hwx] at kx ux
        have HKX := Lib.hid kx
        have HUX := Lib.hid ux
        have HWX := Lib.hid hwx
        clear kx ux hwx
        have m0 : wr.cell? ⟨T, 0, none⟩ = some (.int .i64 c1) := HBT5.out.cell 0
        have m1 : wr.cell? ⟨T, 1, none⟩ = some (.int .i64 c2) := HBT5.out.cell 1
        have m2 : wr.cell? ⟨T, 2, none⟩ = some (.int .i64 c3) := HBT5.out.cell 2
        have m3 : wr.cell? ⟨T, 3, none⟩ = some (.int .i64 c4) := HBT5.out.cell 3
        have m4 : wr.cell? ⟨T, 4, none⟩ = some (.slice (some ⟨bP, oP, none⟩) n1 pc) := HBT5.out.cell 4
        have m5 : wr.cell? ⟨T, 5, none⟩ = some (.slice (some ⟨bT, oT, none⟩) n2 tc) := HBT5.out.cell 5
        have m6 : wr.cell? ⟨T, 6, none⟩ = some (.slice bA k bc) := HBT5.out.cell 6
        have n10 := HBR5.out.frozen 0
        have o0 : wr.cell? ⟨T + 1 + 1, 0, none⟩ = some (.int .i64 0) := HBR5.out.cell 0
        have n11 := HBR5.out.frozen 1
        have o1 : wr.cell? ⟨T + 1 + 1, 1, none⟩ = some (.int .i64 0) := HBR5.out.cell 1
        have n12 := HBR5.out.frozen 2
        have o2 : wr.cell? ⟨T + 1 + 1, 2, none⟩ = some (.int .i64 0) := HBR5.out.cell 2
        have n13 := HBR5.out.frozen 3
        have o3 : wr.cell? ⟨T + 1 + 1, 3, none⟩ = some (.int .i64 0) := HBR5.out.cell 3
        have n14 := HBR5.out.frozen 4
        have o4 : wr.cell? ⟨T + 1 + 1, 4, none⟩ = some (.slice none 0 0) := HBR5.out.cell 4
        have n15 := HBR5.out.frozen 5
        have o5 : wr.cell? ⟨T + 1 + 1, 5, none⟩ = some (.slice none 0 0) := HBR5.out.cell 5
        have n16 := HBR5.out.frozen 6
        have o6 : wr.cell? ⟨T + 1 + 1, 6, none⟩ = some (.slice none 0 0) := HBR5.out.cell 6
        go_wp2
        rw [← HWX.out]
        have g0 := HKX.out.cell 0
        have g1 := HKX.out.cell 1
        have g2 := HKX.out.cell 2
        have g3 := HKX.out.cell 3
        have g4 := HKX.out.cell 4
        have g5 := HKX.out.cell 5
        have g6 := HKX.out.cell 6
        simp only [List.getElem?_toArray, List.getElem?_cons_zero, List.getElem?_cons_succ] at g0 g1 g2 g3 g4 g5 g6
        refine bodyPost_res (v := .tuple #[.agg #[.int .i64 c1, .int .i64 c2, .int .i64 c3, .int .i64 c4, .slice (some ⟨bP, oP, none⟩) n1 pc, .slice (some ⟨bT, oT, none⟩) n2 tc, .slice bA k bc], .int .i64 25]) (by simp [results, Try.results39, go_sem, Addr.add, g0, g1, g2, g3, g4, g5, g6]) rfl ?_
        exact ⟨⟨(some ⟨bP, oP, none⟩), pc, tx, (some ⟨bT, oT, none⟩), tc, bA, bc⟩, by rw [H1.out]; dsimp only; rw [HSC.out, ← HC.out], by rw [H1.out]; exact HS.out.upd (HU5.out.box HUX.out HT.out), by rw [H1.out]; exact fun _ _ _ ha => ha, HU5.out.box HUX.out HT.out⟩
      have m3 : wr.cell? ⟨T, 3, none⟩ = some (.int .i64 c4) := HBT5.out.cell 3
      by_cases k9 : c4 ≤ (k : Int)
      · have H1 : Hid (r = (s, 20)) := Lib.hid (by rw [HR.out]; unfold subscribeM; rw [HQQ.out, if_neg H24.out, if_neg (by dsimp only; rw [HHT.out]; decide), if_neg H0.out, if_neg (by dsimp only; rw [HNO.out]; decide), if_neg (by rw [HLA.out]; decide), if_neg (by dsimp only; rw [← HC.out, ← HCN.out]; exact k8), if_pos (by rw [← HC.out, ← HN.out.2.2]; exact k9)])
        obtain ⟨kx, ux⟩ := blk7 HBR5.out (.int .i64 c1) (.int .i64 c2) (.int .i64 c3) (.int .i64 c4) (.slice (some ⟨bP, oP, none⟩) n1 pc) (.slice (some ⟨bT, oT, none⟩) n2 tc) (.slice bA k bc)
        obtain ⟨wx, hwx⟩ : ∃ wx, wx = (((((((wr.setCell ⟨T + 1 + 1, 0, none⟩ (.int .i64 c1)).setCell ⟨T + 1 + 1, 1, none⟩ (.int .i64 c2)).setCell ⟨T + 1 + 1, 2, none⟩ (.int .i64 c3)).setCell ⟨T + 1 + 1, 3, none⟩ (.int .i64 c4)).setCell ⟨T + 1 + 1, 4, none⟩ (.slice (some ⟨bP, oP, none⟩) n1 pc)).setCell ⟨T + 1 + 1, 5, none⟩ (.slice (some ⟨bT, oT, none⟩) n2 tc)).setCell ⟨T + 1 + 1, 6, none⟩ (.slice bA k bc)) := ⟨_, rfl⟩
        rw [← hwx] at kx ux
        have HKX := Lib.hid kx
        have HUX := Lib.hid ux
        have HWX := Lib.hid hwx
        clear kx ux hwx
        have m0 : wr.cell? ⟨T, 0, none⟩ = some (.int .i64 c1) := HBT5.out.cell 0
        have m1 : wr.cell? ⟨T, 1, none⟩ = some (.int .i64 c2) := HBT5.out.cell 1
        have m2 : wr.cell? ⟨T, 2, none⟩ = some (.int .i64 c3) := HBT5.out.cell 2
        have m3 : wr.cell? ⟨T, 3, none⟩ = some (.int .i64 c4) := HBT5.out.cell 3
        have m4 : wr.cell? ⟨T, 4, none⟩ = some (.slice (some ⟨bP, oP, none⟩) n1 pc) := HBT5.out.cell 4
        have m5 : wr.cell? ⟨T, 5, none⟩ = some (.slice (some ⟨bT, oT, none⟩) n2 tc) := HBT5.out.cell 5
        have m6 : wr.cell? ⟨T, 6, none⟩ = some (.slice bA k bc) := HBT5.out.cell 6
        have n10 := HBR5.out.frozen 0
        have o0 : wr.cell? ⟨T + 1 + 1, 0, none⟩ = some (.int .i64 0) := HBR5.out.cell 0
        have n11 := HBR5.out.frozen 1
        have o1 : wr.cell? ⟨T + 1 + 1, 1, none⟩ = some (.int .i64 0) := HBR5.out.cell 1
        have n12 := HBR5.out.frozen 2
        have o2 : wr.cell? ⟨T + 1 + 1, 2, none⟩ = some (.int .i64 0) := HBR5.out.cell 2
        have n13 := HBR5.out.frozen 3
        have o3 : wr.cell? ⟨T + 1 + 1, 3, none⟩ = some (.int .i64 0) := HBR5.out.cell 3
        have n14 := HBR5.out.frozen 4
        have o4 : wr.cell? ⟨T + 1 + 1, 4, none⟩ = some (.slice none 0 0) := HBR5.out.cell 4
        have n15 := HBR5.out.frozen 5
        have o5 : wr.cell? ⟨T + 1 + 1, 5, none⟩ = some (.slice none 0 0) := HBR5.out.cell 5
        have n16 := HBR5.out.frozen 6
        have o6 : wr.cell? ⟨T + 1 + 1, 6, none⟩ = some (.slice none 0 0) := HBR5.out.cell 6
        go_wp2
        rw [← HWX.out]
        have g0 := HKX.out.cell 0
        have g1 := HKX.out.cell 1
        have g2 := HKX.out.cell 2
        have g3 := HKX.out.cell 3
        have g4 := HKX.out.cell 4
        have g5 := HKX.out.cell 5
        have g6 := HKX.out.cell 6
        simp only [List.getElem?_toArray, List.getElem?_cons_zero, List.getElem?_cons_succ] at g0 g1 g2 g3 g4 g5 g6
        refine bodyPost_res (v := .tuple #[.agg #[.int .i64 c1, .int .i64 c2, .int .i64 c3, .int .i64 c4, .slice (some ⟨bP, oP, none⟩) n1 pc, .slice (some ⟨bT, oT, none⟩) n2 tc, .slice bA k bc], .int .i64 20]) (by simp [results, Try.results39, go_sem, Addr.add, g0, g1, g2, g3, g4, g5, g6]) rfl ?_
        exact ⟨⟨(some ⟨bP, oP, none⟩), pc, tx, (some ⟨bT, oT, none⟩), tc, bA, bc⟩, by rw [H1.out]; dsimp only; rw [HSC.out, ← HC.out], by rw [H1.out]; exact HS.out.upd (HU5.out.box HUX.out HT.out), by rw [H1.out]; exact fun _ _ _ ha => ha, HU5.out.box HUX.out HT.out⟩
      have H8 : Hid (r = ({ s with bs := ins s.bs (low (cB who track) s.bs) ⟨who, track, layer, tid, false⟩ }, 0)) := Lib.hid (by rw [HR.out]; unfold subscribeM; rw [HQQ.out, if_neg H24.out, if_neg (by dsimp only; rw [HHT.out]; decide), if_neg H0.out, if_neg (by dsimp only; rw [HNO.out]; decide), if_neg (by rw [HLA.out]; decide), if_neg (by dsimp only; rw [← HC.out, ← HCN.out]; exact k8), if_neg (by rw [← HC.out, ← HN.out.2.2]; exact k9)])
      have HLN : Hid (k = s.bs.length) := Lib.hid HN.out.2.2
      have HLS := HLN
      have HBT1 := HBT4
      have HBR1 := HBR4
      have HBQ1 := HBQ4
      have HU1 := HU4
      obtain ⟨j0, hj0, hy0, hy1, hy2⟩ := info_parts infoRB
      have HRP := Lib.hid (HS.out.upd (HU1.out.next HUC.out)).b
      have hle := HRP.out.le
      have hcm := HRP.out.cm
      have hnil := HRP.out.nl
      dsimp only at hle hcm hnil
      rw [← HLS.out] at hle hnil
      have hin : (i : Int) ≤ (k : Int) := by omega
      have hbt2 := HBT1.out.upd HUC.out (by simp)
      have m4 : wr.cell? ⟨T, 6, none⟩ = some (.slice bA k bc) := hbt2.cell 6
      clear hbt2
      rcases bA with _ | a0
      · obtain ⟨hz, hzc⟩ := hnil rfl
        have hiz : i = 0 := by omega
        subst hiz
        obtain rfl := hz
        obtain rfl := hzc
        go_wp2_with (at_builtin; refine wpList_append_src wr rfl (.tmp 141) (.tmp 145) 35 rfl wr.heap.size 56 j0 _ 5 40 Try.underlying35 hj0 hy0 hy1 hy2 rfl (by decide) (.slice none 0 0) 0 [] rfl (World.ownsRow_nil _ _ _ _) none 0 0 ((s.bs.take 0).flatMap encB) rfl (fun e => by first | exact ⟨rfl, rfl⟩ | cases e) (by rw [flat_length encB_len, List.length_take, ← HLN.out, Nat.min_eq_left hi]) (fun _ e => by cases e) (flat_ones encB_one _) (by unfold maxLen; omega) (by omega) (Nat.le_refl _) ?_)
        intro v6 w6 hown6 hg6 _
        obtain ⟨A6, d6, hv6, _⟩ := own_form hown6
        subst hv6
        have HU6 : Hid (Upd [] wr w6) := Lib.hid (Upd.of_below ((Upd.of_grown hg6).below (Nat.le_refl _) (fun s hs => by
          rw [own_list] at hs
          simp at hs)))
        have HOWN6 := Lib.hid hown6
        have HW6 := Lib.hid (HU1.out.next (HUC.out.next HU6.out))
        clear hown6 hg6 m4
        have hbq6 := HBQ1.out.upd (HUC.out.next HU6.out) (by simp)
        have q1 : w6.cell? ⟨T + 1, 1, none⟩ = some (.int .i64 who) := hbq6.cell 1
        have q4 : w6.cell? ⟨T + 1, 4, none⟩ = some (.int .i64 track) := hbq6.cell 4
        have q6 : w6.cell? ⟨T + 1, 6, none⟩ = some (.int .i64 layer) := hbq6.cell 6
        have q7 : w6.cell? ⟨T + 1, 7, none⟩ = some (.int .i64 tid) := hbq6.cell 7
        clear hbq6
        obtain ⟨V, hV⟩ : ∃ V, V = w6.heap.size := ⟨_, rfl⟩
        obtain ⟨w7, hw7⟩ : ∃ W3, W3 = w6.alloc (.cells #[.int .i64 who, .int .i64 track, .int .i64 layer, .int .i64 tid, .bool false] 56) := ⟨_, rfl⟩
        have u7 : Upd [] w6 w7 := by rw [hw7]; exact (Upd.refl [] w6).alloc _
        have hVB : Blk w7 V 56 (encB (⟨who, track, layer, tid, false⟩ : Sb)).toArray := by rw [hw7, hV]; exact Blk.new _ _ _
        have HV := Lib.hid hV
        have HW7 := Lib.hid hw7
        have HU7 := Lib.hid u7
        have HVB := Lib.hid hVB
        clear hV hw7 u7 hVB
        go_wp2_with (at_builtin; go_loud (rw [← HW7.out, ← HV.out]; refine wpList_append_src w7 rfl (.tmp 147) (.tmp 157) 35 rfl wr.heap.size 56 j0 _ 5 40 Try.underlying35 hj0 hy0 hy1 hy2 rfl (by decide) (.slice A6 0 d6) 0 _ rfl (ownsRow_upd HOWN6.out HU7.out (by simp)) (some ⟨V, 0, none⟩) 1 1 (encB (⟨who, track, layer, tid, false⟩ : Sb)) rfl (fun e => by cases e) rfl (row_lit HVB.out) (encB_one _) (by unfold maxLen; omega) (by omega) (Nat.le_trans HU6.out.size HU7.out.size) ?_))
        intro v8 w8 hown8 hg8 _
        obtain ⟨A8, d8, hv8, _⟩ := own_form hown8
        subst hv8
        have HU8 : Hid (Upd [] wr w8) := Lib.hid (Upd.of_below (((HU6.out.next HU7.out).below (Nat.le_refl _) (by simp)).trans ((Upd.of_grown hg8).below (Nat.le_trans HU6.out.size HU7.out.size) (fun s hs => by
          rw [own_list] at hs
          exact (own_in (ownsRow_upd HOWN6.out HU7.out (by simp)) s hs).2))))
        have HOWN8 := Lib.hid hown8
        clear hown8 hg8 q1 q4 q6 q7
        have hbt8 := HBT1.out.upd (HUC.out.next HU8.out) (by simp)
        have m4 : w8.cell? ⟨T, 6, none⟩ = some (.slice none 0 0) := hbt8.cell 6
        have HBT8 := Lib.hid hbt8
        clear hbt8
        go_wp2_with (at_builtin; go_loud (refine wpList_append_src w8 rfl (.tmp 159) (.tmp 163) 35 rfl wr.heap.size 56 j0 _ 5 40 Try.underlying35 hj0 hy0 hy1 hy2 rfl (by decide) (.slice A8 (0 + 1) d8) (0 + 1) _ rfl HOWN8.out none 0 0 ((s.bs.drop 0).flatMap encB) rfl (fun e => by first | exact ⟨rfl, rfl⟩ | cases e) (by rw [flat_length encB_len, List.length_drop, ← HLN.out]) (fun _ e => by cases e) (flat_ones encB_one _) (by unfold maxLen; omega) (by omega) HU8.out.size ?_))
        intro v10 w10 hown10 hg10 _
        obtain ⟨A10, d10, hv10, _⟩ := own_form hown10
        subst hv10
        have HU10 : Hid (Upd [] wr w10) := Lib.hid (Upd.of_below ((HU8.out.below (Nat.le_refl _) (by simp)).trans ((Upd.of_grown hg10).below HU8.out.size (fun s hs => by
          rw [own_list] at hs
          exact (own_in HOWN8.out s hs).2))))
        have hbt10 := HBT1.out.upd (HUC.out.next HU10.out) (by simp)
        have hbr10 := HBR1.out.upd (HUC.out.next HU10.out) (by simp)
        have f4 := hbt10.frozen 6
        have e4 : w10.cell? ⟨T, 6, none⟩ = some (.slice none 0 0) := hbt10.cell 6
        obtain ⟨w11, hw11⟩ : ∃ w11, w11 = w10.setCell ⟨T, 6, none⟩ (.slice A10 1 d10) := ⟨_, rfl⟩
        have us : Upd [T] w10 w11 := by rw [hw11]; exact (Upd.refl [T] w10).setCell (.inl (by simp)) _
        have HBT11 : Hid (Blk w11 T 37 #[.int .i64 c1, .int .i64 c2, .int .i64 c3, .int .i64 c4, .slice (some ⟨bP, oP, none⟩) n1 pc, .slice (some ⟨bT, oT, none⟩) n2 tc, .slice A10 1 d10]) := Lib.hid (by rw [hw11]; exact hbt10.store 6 _)
        have HBR11 := Lib.hid (hbr10.upd us (by simp; omega))
        have HU11 : Hid (Upd [] w w11) := Lib.hid (((HU1.out.next (HUC.out.next HU10.out))).box' us (by rw [HT.out]; exact Nat.le_refl _))
        have HOWN11 : Hid (w11.ownsRow wr.heap.size 56 5 (.slice A10 1 d10) 1 ((ins s.bs 0 (⟨who, track, layer, tid, false⟩ : Sb)).flatMap encB)) := Lib.hid (by
          have h := ownsRow_upd hown10 us (fun s hs hg => by rw [List.mem_singleton] at hs; subst hs; exact own_box hown10 hbt10 (by decide) hg)
          unfold ins
          simpa using h)
        have HLEN : Hid ((ins s.bs 0 (⟨who, track, layer, tid, false⟩ : Sb)).length = 1) := Lib.hid (by have h0 := HLN.out; unfold ins; rw [List.length_append, List.length_cons, List.length_take, List.length_drop]; omega)
        have HW11 := Lib.hid hw11
        clear hown10 hg10 us hw11 hbr10
        go_upto_region 30 with fail
        rw [← HW11.out]
        clear f4 e4 hbt10
        obtain ⟨kx, ux⟩ := blk7 HBR11.out (.int .i64 c1) (.int .i64 c2) (.int .i64 c3) (.int .i64 c4) (.slice (some ⟨bP, oP, none⟩) n1 pc) (.slice (some ⟨bT, oT, none⟩) n2 tc) (.slice A10 1 d10)
        obtain ⟨wx, hwx⟩ : ∃ wx, wx = (((((((w11.setCell ⟨T + 1 + 1, 0, none⟩ (.int .i64 c1)).setCell ⟨T + 1 + 1, 1, none⟩ (.int .i64 c2)).setCell ⟨T + 1 + 1, 2, none⟩ (.int .i64 c3)).setCell ⟨T + 1 + 1, 3, none⟩ (.int .i64 c4)).setCell ⟨T + 1 + 1, 4, none⟩ (.slice (some ⟨bP, oP, none⟩) n1 pc)).setCell ⟨T + 1 + 1, 5, none⟩ (.slice (some ⟨bT, oT, none⟩) n2 tc)).setCell ⟨T + 1 + 1, 6, none⟩ (.slice A10 1 d10)) := ⟨_, rfl⟩
        rw [← hwx] at kx ux
        have HKX := Lib.hid kx
        have HUX := Lib.hid ux
        have HWX := Lib.hid hwx
        clear kx ux hwx
        have m0 : w11.cell? ⟨T, 0, none⟩ = some (.int .i64 c1) := HBT11.out.cell 0
        have m1 : w11.cell? ⟨T, 1, none⟩ = some (.int .i64 c2) := HBT11.out.cell 1
        have m2 : w11.cell? ⟨T, 2, none⟩ = some (.int .i64 c3) := HBT11.out.cell 2
        have m3 : w11.cell? ⟨T, 3, none⟩ = some (.int .i64 c4) := HBT11.out.cell 3
        have m4 : w11.cell? ⟨T, 4, none⟩ = some (.slice (some ⟨bP, oP, none⟩) n1 pc) := HBT11.out.cell 4
        have m5 : w11.cell? ⟨T, 5, none⟩ = some (.slice (some ⟨bT, oT, none⟩) n2 tc) := HBT11.out.cell 5
        have m6 : w11.cell? ⟨T, 6, none⟩ = some (.slice A10 1 d10) := HBT11.out.cell 6
        have n10 := HBR11.out.frozen 0
        have o0 : w11.cell? ⟨T + 1 + 1, 0, none⟩ = some (.int .i64 0) := HBR11.out.cell 0
        have n11 := HBR11.out.frozen 1
        have o1 : w11.cell? ⟨T + 1 + 1, 1, none⟩ = some (.int .i64 0) := HBR11.out.cell 1
        have n12 := HBR11.out.frozen 2
        have o2 : w11.cell? ⟨T + 1 + 1, 2, none⟩ = some (.int .i64 0) := HBR11.out.cell 2
        have n13 := HBR11.out.frozen 3
        have o3 : w11.cell? ⟨T + 1 + 1, 3, none⟩ = some (.int .i64 0) := HBR11.out.cell 3
        have n14 := HBR11.out.frozen 4
        have o4 : w11.cell? ⟨T + 1 + 1, 4, none⟩ = some (.slice none 0 0) := HBR11.out.cell 4
        have n15 := HBR11.out.frozen 5
        have o5 : w11.cell? ⟨T + 1 + 1, 5, none⟩ = some (.slice none 0 0) := HBR11.out.cell 5
        have n16 := HBR11.out.frozen 6
        have o6 : w11.cell? ⟨T + 1 + 1, 6, none⟩ = some (.slice none 0 0) := HBR11.out.cell 6
        go_wp2
        rw [← HWX.out]
        have g0 := HKX.out.cell 0
        have g1 := HKX.out.cell 1
        have g2 := HKX.out.cell 2
        have g3 := HKX.out.cell 3
        have g4 := HKX.out.cell 4
        have g5 := HKX.out.cell 5
        have g6 := HKX.out.cell 6
        simp only [List.getElem?_toArray, List.getElem?_cons_zero, List.getElem?_cons_succ] at g0 g1 g2 g3 g4 g5 g6
        refine bodyPost_res (v := .tuple #[.agg #[.int .i64 c1, .int .i64 c2, .int .i64 c3, .int .i64 c4, .slice (some ⟨bP, oP, none⟩) n1 pc, .slice (some ⟨bT, oT, none⟩) n2 tc, .slice A10 1 d10], .int .i64 0]) (by simp [results, Try.results39, go_sem, Addr.add, g0, g1, g2, g3, g4, g5, g6]) rfl ?_
        have HOWN12 := ownsRow_upd HOWN11.out HUX.out (fun s hs hg => by rw [List.mem_singleton] at hs; subst hs; exact own_box HOWN11.out HBR11.out (by decide) hg)
        have HFIN := HU11.out.box HUX.out HT.out
        refine ⟨⟨(some ⟨bP, oP, none⟩), pc, tx, (some ⟨bT, oT, none⟩), tc, A10, d10⟩, ?_, ?_, ?_, HFIN⟩
        · rw [H8.out, HLO.out]
          unfold scells
          dsimp only
          rw [← HC.out, HLEN.out, ← HN.out.1, ← HN.out.2.1]
        · rw [H8.out, HLO.out]
          have k := HS.out.upd HFIN
          refine ⟨k.p, k.t, ?_, k.tx, k.ss⟩
          dsimp only
          rw [HLEN.out]
          exact (RwIn.of_own HOWN12).more (Nat.zero_le _)
        · intro g2 hg _ ha
          rw [H8.out, HLO.out]
          refine ⟨ha.p, ha.t, ?_, ha.ss⟩
          dsimp only
          rw [HLEN.out]
          exact own_av HOWN12 (Nat.lt_of_lt_of_le hg (HU1.out.next HUC.out).size)
      · go_wp2_with (at_builtin; refine wpList_append_src wr rfl (.tmp 141) (.tmp 145) 35 rfl wr.heap.size 56 j0 _ 5 40 Try.underlying35 hj0 hy0 hy1 hy2 rfl (by decide) (.slice none 0 0) 0 [] rfl (World.ownsRow_nil _ _ _ _) (some a0) i bc ((s.bs.take i).flatMap encB) rfl (fun e => by first | exact ⟨rfl, rfl⟩ | cases e) (by rw [flat_length encB_len, List.length_take, ← HLN.out, Nat.min_eq_left hi]) (HRP.out.piece0 encB_len) (flat_ones encB_one _) (by unfold maxLen; omega) (by omega) (Nat.le_refl _) ?_)
        intro v6 w6 hown6 hg6 _
        obtain ⟨A6, d6, hv6, _⟩ := own_form hown6
        subst hv6
        have HU6 : Hid (Upd [] wr w6) := Lib.hid (Upd.of_below ((Upd.of_grown hg6).below (Nat.le_refl _) (fun s hs => by
          rw [own_list] at hs
          simp at hs)))
        have HOWN6 := Lib.hid hown6
        have HW6 := Lib.hid (HU1.out.next (HUC.out.next HU6.out))
        clear hown6 hg6 m4
        have hbq6 := HBQ1.out.upd (HUC.out.next HU6.out) (by simp)
        have q1 : w6.cell? ⟨T + 1, 1, none⟩ = some (.int .i64 who) := hbq6.cell 1
        have q4 : w6.cell? ⟨T + 1, 4, none⟩ = some (.int .i64 track) := hbq6.cell 4
        have q6 : w6.cell? ⟨T + 1, 6, none⟩ = some (.int .i64 layer) := hbq6.cell 6
        have q7 : w6.cell? ⟨T + 1, 7, none⟩ = some (.int .i64 tid) := hbq6.cell 7
        clear hbq6
        obtain ⟨V, hV⟩ : ∃ V, V = w6.heap.size := ⟨_, rfl⟩
        obtain ⟨w7, hw7⟩ : ∃ W3, W3 = w6.alloc (.cells #[.int .i64 who, .int .i64 track, .int .i64 layer, .int .i64 tid, .bool false] 56) := ⟨_, rfl⟩
        have u7 : Upd [] w6 w7 := by rw [hw7]; exact (Upd.refl [] w6).alloc _
        have hVB : Blk w7 V 56 (encB (⟨who, track, layer, tid, false⟩ : Sb)).toArray := by rw [hw7, hV]; exact Blk.new _ _ _
        have HV := Lib.hid hV
        have HW7 := Lib.hid hw7
        have HU7 := Lib.hid u7
        have HVB := Lib.hid hVB
        clear hV hw7 u7 hVB
        go_wp2_with (at_builtin; go_loud (rw [← HW7.out, ← HV.out]; refine wpList_append_src w7 rfl (.tmp 147) (.tmp 157) 35 rfl wr.heap.size 56 j0 _ 5 40 Try.underlying35 hj0 hy0 hy1 hy2 rfl (by decide) (.slice A6 i d6) i _ rfl (ownsRow_upd HOWN6.out HU7.out (by simp)) (some ⟨V, 0, none⟩) 1 1 (encB (⟨who, track, layer, tid, false⟩ : Sb)) rfl (fun e => by cases e) rfl (row_lit HVB.out) (encB_one _) (by unfold maxLen; omega) (by omega) (Nat.le_trans HU6.out.size HU7.out.size) ?_))
        intro v8 w8 hown8 hg8 _
        obtain ⟨A8, d8, hv8, _⟩ := own_form hown8
        subst hv8
        have HU8 : Hid (Upd [] wr w8) := Lib.hid (Upd.of_below (((HU6.out.next HU7.out).below (Nat.le_refl _) (by simp)).trans ((Upd.of_grown hg8).below (Nat.le_trans HU6.out.size HU7.out.size) (fun s hs => by
          rw [own_list] at hs
          exact (own_in (ownsRow_upd HOWN6.out HU7.out (by simp)) s hs).2))))
        have HOWN8 := Lib.hid hown8
        clear hown8 hg8 q1 q4 q6 q7
        have hbt8 := HBT1.out.upd (HUC.out.next HU8.out) (by simp)
        have m4 : w8.cell? ⟨T, 6, none⟩ = some (.slice (some a0) k bc) := hbt8.cell 6
        have HBT8 := Lib.hid hbt8
        clear hbt8
        have hle2 : k - i ≤ bc - i := by omega
        by_cases hpc : bc = i
        · go_wp2_with (at_builtin; go_loud (refine wpList_append_src w8 rfl (.tmp 159) (.tmp 163) 35 rfl wr.heap.size 56 j0 _ 5 40 Try.underlying35 hj0 hy0 hy1 hy2 rfl (by decide) (.slice A8 (i + 1) d8) (i + 1) _ rfl HOWN8.out (some a0) (k - i) 0 ((s.bs.drop i).flatMap encB) rfl (fun e => by first | exact ⟨rfl, rfl⟩ | cases e) (by rw [flat_length encB_len, List.length_drop, ← HLN.out]) (by rw [List.drop_eq_nil_of_le (by rw [← HLN.out]; omega)]; intro ad _ j u hj; simp at hj) (flat_ones encB_one _) (by unfold maxLen; omega) (by omega) HU8.out.size ?_))
          intro v10 w10 hown10 hg10 _
          obtain ⟨A10, d10, hv10, _⟩ := own_form hown10
          subst hv10
          have HU10 : Hid (Upd [] wr w10) := Lib.hid (Upd.of_below ((HU8.out.below (Nat.le_refl _) (by simp)).trans ((Upd.of_grown hg10).below HU8.out.size (fun s hs => by
            rw [own_list] at hs
            exact (own_in HOWN8.out s hs).2))))
          have hbt10 := HBT1.out.upd (HUC.out.next HU10.out) (by simp)
          have hbr10 := HBR1.out.upd (HUC.out.next HU10.out) (by simp)
          have f4 := hbt10.frozen 6
          have e4 : w10.cell? ⟨T, 6, none⟩ = some (.slice (some a0) k bc) := hbt10.cell 6
          obtain ⟨NN, hNN⟩ : ∃ N, N = i + 1 + (k - i) := ⟨_, rfl⟩
          rw [← hNN] at hown10
          obtain ⟨w11, hw11⟩ : ∃ w11, w11 = w10.setCell ⟨T, 6, none⟩ (.slice A10 NN d10) := ⟨_, rfl⟩
          have us : Upd [T] w10 w11 := by rw [hw11]; exact (Upd.refl [T] w10).setCell (.inl (by simp)) _
          have HBT11 : Hid (Blk w11 T 37 #[.int .i64 c1, .int .i64 c2, .int .i64 c3, .int .i64 c4, .slice (some ⟨bP, oP, none⟩) n1 pc, .slice (some ⟨bT, oT, none⟩) n2 tc, .slice A10 NN d10]) := Lib.hid (by rw [hw11]; exact hbt10.store 6 _)
          have HBR11 := Lib.hid (hbr10.upd us (by simp; omega))
          have HU11 : Hid (Upd [] w w11) := Lib.hid (((HU1.out.next (HUC.out.next HU10.out))).box' us (by rw [HT.out]; exact Nat.le_refl _))
          have HOWN11 : Hid (w11.ownsRow wr.heap.size 56 5 (.slice A10 NN d10) NN ((ins s.bs i (⟨who, track, layer, tid, false⟩ : Sb)).flatMap encB)) := Lib.hid (by
            have h := ownsRow_upd hown10 us (fun s hs hg => by rw [List.mem_singleton] at hs; subst hs; exact own_box hown10 hbt10 (by decide) hg)
            unfold ins
            rw [List.flatMap_append, List.flatMap_cons]
            exact h)
          have HLEN : Hid ((ins s.bs i (⟨who, track, layer, tid, false⟩ : Sb)).length = NN) := Lib.hid (by rw [hNN, HLN.out]; unfold ins; rw [List.length_append, List.length_cons, List.length_take, List.length_drop, Nat.min_eq_left (by rw [← HLN.out]; exact hi)]; omega)
          have HNN := Lib.hid hNN
          have HW11 := Lib.hid hw11
          clear hown10 hg10 us hw11 hbr10 hNN
          rw [← HNN.out]
          go_upto_region 30 with fail
          rw [← HW11.out]
          clear f4 e4 hbt10
          obtain ⟨kx, ux⟩ := blk7 HBR11.out (.int .i64 c1) (.int .i64 c2) (.int .i64 c3) (.int .i64 c4) (.slice (some ⟨bP, oP, none⟩) n1 pc) (.slice (some ⟨bT, oT, none⟩) n2 tc) (.slice A10 NN d10)
          obtain ⟨wx, hwx⟩ : ∃ wx, wx = (((((((w11.setCell ⟨T + 1 + 1, 0, none⟩ (.int .i64 c1)).setCell ⟨T + 1 + 1, 1, none⟩ (.int .i64 c2)).setCell ⟨T + 1 + 1, 2, none⟩ (.int .i64 c3)).setCell ⟨T + 1 + 1, 3, none⟩ (.int .i64 c4)).setCell ⟨T + 1 + 1, 4, none⟩ (.slice (some ⟨bP, oP, none⟩) n1 pc)).setCell ⟨T + 1 + 1, 5, none⟩ (.slice (some ⟨bT, oT, none⟩) n2 tc)).setCell ⟨T + 1 + 1, 6, none⟩ (.slice A10 NN d10)) := ⟨_, rfl⟩
          rw [← hwx] at kx ux
          have HKX := Lib.hid kx
          have HUX := Lib.hid ux
          have HWX := Lib.hid hwx
          clear kx ux hwx
          have m0 : w11.cell? ⟨T, 0, none⟩ = some (.int .i64 c1) := HBT11.out.cell 0
          have m1 : w11.cell? ⟨T, 1, none⟩ = some (.int .i64 c2) := HBT11.out.cell 1
          have m2 : w11.cell? ⟨T, 2, none⟩ = some (.int .i64 c3) := HBT11.out.cell 2
          have m3 : w11.cell? ⟨T, 3, none⟩ = some (.int .i64 c4) := HBT11.out.cell 3
          have m4 : w11.cell? ⟨T, 4, none⟩ = some (.slice (some ⟨bP, oP, none⟩) n1 pc) := HBT11.out.cell 4
          have m5 : w11.cell? ⟨T, 5, none⟩ = some (.slice (some ⟨bT, oT, none⟩) n2 tc) := HBT11.out.cell 5
          have m6 : w11.cell? ⟨T, 6, none⟩ = some (.slice A10 NN d10) := HBT11.out.cell 6
          have n10 := HBR11.out.frozen 0
          have o0 : w11.cell? ⟨T + 1 + 1, 0, none⟩ = some (.int .i64 0) := HBR11.out.cell 0
          have n11 := HBR11.out.frozen 1
          have o1 : w11.cell? ⟨T + 1 + 1, 1, none⟩ = some (.int .i64 0) := HBR11.out.cell 1
          have n12 := HBR11.out.frozen 2
          have o2 : w11.cell? ⟨T + 1 + 1, 2, none⟩ = some (.int .i64 0) := HBR11.out.cell 2
          have n13 := HBR11.out.frozen 3
          have o3 : w11.cell? ⟨T + 1 + 1, 3, none⟩ = some (.int .i64 0) := HBR11.out.cell 3
          have n14 := HBR11.out.frozen 4
          have o4 : w11.cell? ⟨T + 1 + 1, 4, none⟩ = some (.slice none 0 0) := HBR11.out.cell 4
          have n15 := HBR11.out.frozen 5
          have o5 : w11.cell? ⟨T + 1 + 1, 5, none⟩ = some (.slice none 0 0) := HBR11.out.cell 5
          have n16 := HBR11.out.frozen 6
          have o6 : w11.cell? ⟨T + 1 + 1, 6, none⟩ = some (.slice none 0 0) := HBR11.out.cell 6
          go_wp2
          rw [← HWX.out]
          have g0 := HKX.out.cell 0
          have g1 := HKX.out.cell 1
          have g2 := HKX.out.cell 2
          have g3 := HKX.out.cell 3
          have g4 := HKX.out.cell 4
          have g5 := HKX.out.cell 5
          have g6 := HKX.out.cell 6
          simp only [List.getElem?_toArray, List.getElem?_cons_zero, List.getElem?_cons_succ] at g0 g1 g2 g3 g4 g5 g6
          refine bodyPost_res (v := .tuple #[.agg #[.int .i64 c1, .int .i64 c2, .int .i64 c3, .int .i64 c4, .slice (some ⟨bP, oP, none⟩) n1 pc, .slice (some ⟨bT, oT, none⟩) n2 tc, .slice A10 NN d10], .int .i64 0]) (by simp [results, Try.results39, go_sem, Addr.add, g0, g1, g2, g3, g4, g5, g6]) rfl ?_
          have HOWN12 := ownsRow_upd HOWN11.out HUX.out (fun s hs hg => by rw [List.mem_singleton] at hs; subst hs; exact own_box HOWN11.out HBR11.out (by decide) hg)
          have HFIN := HU11.out.box HUX.out HT.out
          refine ⟨⟨(some ⟨bP, oP, none⟩), pc, tx, (some ⟨bT, oT, none⟩), tc, A10, d10⟩, ?_, ?_, ?_, HFIN⟩
          · rw [H8.out, HLO.out]
            unfold scells
            dsimp only
            rw [← HC.out, HLEN.out, ← HN.out.1, ← HN.out.2.1]
          · rw [H8.out, HLO.out]
            have k := HS.out.upd HFIN
            refine ⟨k.p, k.t, ?_, k.tx, k.ss⟩
            dsimp only
            rw [HLEN.out]
            exact (RwIn.of_own HOWN12).more (Nat.zero_le _)
          · intro g2 hg _ ha
            rw [H8.out, HLO.out]
            refine ⟨ha.p, ha.t, ?_, ha.ss⟩
            dsimp only
            rw [HLEN.out]
            exact own_av HOWN12 (Nat.lt_of_lt_of_le hg (HU1.out.next HUC.out).size)
        · go_wp2_with (at_builtin; go_loud (refine wpList_append_src w8 rfl (.tmp 159) (.tmp 163) 35 rfl wr.heap.size 56 j0 _ 5 40 Try.underlying35 hj0 hy0 hy1 hy2 rfl (by decide) (.slice A8 (i + 1) d8) (i + 1) _ rfl HOWN8.out (some (a0.add (i * 5))) (k - i) (bc - i) ((s.bs.drop i).flatMap encB) rfl (fun e => by first | exact ⟨rfl, rfl⟩ | cases e) (by rw [flat_length encB_len, List.length_drop, ← HLN.out]) ((HRP.out.upd HU8.out).piece1 encB_len rfl) (flat_ones encB_one _) (by unfold maxLen; omega) (by omega) HU8.out.size ?_))
          intro v10 w10 hown10 hg10 _
          obtain ⟨A10, d10, hv10, _⟩ := own_form hown10
          subst hv10
          have HU10 : Hid (Upd [] wr w10) := Lib.hid (Upd.of_below ((HU8.out.below (Nat.le_refl _) (by simp)).trans ((Upd.of_grown hg10).below HU8.out.size (fun s hs => by
            rw [own_list] at hs
            exact (own_in HOWN8.out s hs).2))))
          have hbt10 := HBT1.out.upd (HUC.out.next HU10.out) (by simp)
          have hbr10 := HBR1.out.upd (HUC.out.next HU10.out) (by simp)
          have f4 := hbt10.frozen 6
          have e4 : w10.cell? ⟨T, 6, none⟩ = some (.slice (some a0) k bc) := hbt10.cell 6
          obtain ⟨NN, hNN⟩ : ∃ N, N = i + 1 + (k - i) := ⟨_, rfl⟩
          rw [← hNN] at hown10
          obtain ⟨w11, hw11⟩ : ∃ w11, w11 = w10.setCell ⟨T, 6, none⟩ (.slice A10 NN d10) := ⟨_, rfl⟩
          have us : Upd [T] w10 w11 := by rw [hw11]; exact (Upd.refl [T] w10).setCell (.inl (by simp)) _
          have HBT11 : Hid (Blk w11 T 37 #[.int .i64 c1, .int .i64 c2, .int .i64 c3, .int .i64 c4, .slice (some ⟨bP, oP, none⟩) n1 pc, .slice (some ⟨bT, oT, none⟩) n2 tc, .slice A10 NN d10]) := Lib.hid (by rw [hw11]; exact hbt10.store 6 _)
          have HBR11 := Lib.hid (hbr10.upd us (by simp; omega))
          have HU11 : Hid (Upd [] w w11) := Lib.hid (((HU1.out.next (HUC.out.next HU10.out))).box' us (by rw [HT.out]; exact Nat.le_refl _))
          have HOWN11 : Hid (w11.ownsRow wr.heap.size 56 5 (.slice A10 NN d10) NN ((ins s.bs i (⟨who, track, layer, tid, false⟩ : Sb)).flatMap encB)) := Lib.hid (by
            have h := ownsRow_upd hown10 us (fun s hs hg => by rw [List.mem_singleton] at hs; subst hs; exact own_box hown10 hbt10 (by decide) hg)
            unfold ins
            rw [List.flatMap_append, List.flatMap_cons]
            exact h)
          have HLEN : Hid ((ins s.bs i (⟨who, track, layer, tid, false⟩ : Sb)).length = NN) := Lib.hid (by rw [hNN, HLN.out]; unfold ins; rw [List.length_append, List.length_cons, List.length_take, List.length_drop, Nat.min_eq_left (by rw [← HLN.out]; exact hi)]; omega)
          have HNN := Lib.hid hNN
          have HW11 := Lib.hid hw11
          clear hown10 hg10 us hw11 hbr10 hNN
          rw [← HNN.out]
          go_upto_region 30 with fail
          rw [← HW11.out]
          clear f4 e4 hbt10
          obtain ⟨kx, ux⟩ := blk7 HBR11.out (.int .i64 c1) (.int .i64 c2) (.int .i64 c3) (.int .i64 c4) (.slice (some ⟨bP, oP, none⟩) n1 pc) (.slice (some ⟨bT, oT, none⟩) n2 tc) (.slice A10 NN d10)
          obtain ⟨wx, hwx⟩ : ∃ wx, wx = (((((((w11.setCell ⟨T + 1 + 1, 0, none⟩ (.int .i64 c1)).setCell ⟨T + 1 + 1, 1, none⟩ (.int .i64 c2)).setCell ⟨T + 1 + 1, 2, none⟩ (.int .i64 c3)).setCell ⟨T + 1 + 1, 3, none⟩ (.int .i64 c4)).setCell ⟨T + 1 + 1, 4, none⟩ (.slice (some ⟨bP, oP, none⟩) n1 pc)).setCell ⟨T + 1 + 1, 5, none⟩ (.slice (some ⟨bT, oT, none⟩) n2 tc)).setCell ⟨T + 1 + 1, 6, none⟩ (.slice A10 NN d10)) := ⟨_, rfl⟩
          rw [← hwx] at kx ux
          have HKX := Lib.hid kx
          have HUX := Lib.hid ux
          have HWX := Lib.hid hwx
          clear kx ux hwx
          have m0 : w11.cell? ⟨T, 0, none⟩ = some (.int .i64 c1) := HBT11.out.cell 0
          have m1 : w11.cell? ⟨T, 1, none⟩ = some (.int .i64 c2) := HBT11.out.cell 1
          have m2 : w11.cell? ⟨T, 2, none⟩ = some (.int .i64 c3) := HBT11.out.cell 2
          have m3 : w11.cell? ⟨T, 3, none⟩ = some (.int .i64 c4) := HBT11.out.cell 3
          have m4 : w11.cell? ⟨T, 4, none⟩ = some (.slice (some ⟨bP, oP, none⟩) n1 pc) := HBT11.out.cell 4
          have m5 : w11.cell? ⟨T, 5, none⟩ = some (.slice (some ⟨bT, oT, none⟩) n2 tc) := HBT11.out.cell 5
          have m6 : w11.cell? ⟨T, 6, none⟩ = some (.slice A10 NN d10) := HBT11.out.cell 6
          have n10 := HBR11.out.frozen 0
          have o0 : w11.cell? ⟨T + 1 + 1, 0, none⟩ = some (.int .i64 0) := HBR11.out.cell 0
          have n11 := HBR11.out.frozen 1
          have o1 : w11.cell? ⟨T + 1 + 1, 1, none⟩ = some (.int .i64 0) := HBR11.out.cell 1
          have n12 := HBR11.out.frozen 2
          have o2 : w11.cell? ⟨T + 1 + 1, 2, none⟩ = some (.int .i64 0) := HBR11.out.cell 2
          have n13 := HBR11.out.frozen 3
          have o3 : w11.cell? ⟨T + 1 + 1, 3, none⟩ = some (.int .i64 0) := HBR11.out.cell 3
          have n14 := HBR11.out.frozen 4
          have o4 : w11.cell? ⟨T + 1 + 1, 4, none⟩ = some (.slice none 0 0) := HBR11.out.cell 4
          have n15 := HBR11.out.frozen 5
          have o5 : w11.cell? ⟨T + 1 + 1, 5, none⟩ = some (.slice none 0 0) := HBR11.out.cell 5
          have n16 := HBR11.out.frozen 6
          have o6 : w11.cell? ⟨T + 1 + 1, 6, none⟩ = some (.slice none 0 0) := HBR11.out.cell 6
          go_wp2
          rw [← HWX.out]
          have g0 := HKX.out.cell 0
          have g1 := HKX.out.cell 1
          have g2 := HKX.out.cell 2
          have g3 := HKX.out.cell 3
          have g4 := HKX.out.cell 4
          have g5 := HKX.out.cell 5
          have g6 := HKX.out.cell 6
          simp only [List.getElem?_toArray, List.getElem?_cons_zero, List.getElem?_cons_succ] at g0 g1 g2 g3 g4 g5 g6
          refine bodyPost_res (v := .tuple #[.agg #[.int .i64 c1, .int .i64 c2, .int .i64 c3, .int .i64 c4, .slice (some ⟨bP, oP, none⟩) n1 pc, .slice (some ⟨bT, oT, none⟩) n2 tc, .slice A10 NN d10], .int .i64 0]) (by simp [results, Try.results39, go_sem, Addr.add, g0, g1, g2, g3, g4, g5, g6]) rfl ?_
          have HOWN12 := ownsRow_upd HOWN11.out HUX.out (fun s hs hg => by rw [List.mem_singleton] at hs; subst hs; exact own_box HOWN11.out HBR11.out (by decide) hg)
          have HFIN := HU11.out.box HUX.out HT.out
          refine ⟨⟨(some ⟨bP, oP, none⟩), pc, tx, (some ⟨bT, oT, none⟩), tc, A10, d10⟩, ?_, ?_, ?_, HFIN⟩
          · rw [H8.out, HLO.out]
            unfold scells
            dsimp only
            rw [← HC.out, HLEN.out, ← HN.out.1, ← HN.out.2.1]
          · rw [H8.out, HLO.out]
            have k := HS.out.upd HFIN
            refine ⟨k.p, k.t, ?_, k.tx, k.ss⟩
            dsimp only
            rw [HLEN.out]
            exact (RwIn.of_own HOWN12).more (Nat.zero_le _)
          · intro g2 hg _ ha
            rw [H8.out, HLO.out]
            refine ⟨ha.p, ha.t, ?_, ha.ss⟩
            dsimp only
            rw [HLEN.out]
            exact own_av HOWN12 (Nat.lt_of_lt_of_le hg (HU1.out.next HUC.out).size)
end Go.Proofs.Ytjcbaelefacolaa
