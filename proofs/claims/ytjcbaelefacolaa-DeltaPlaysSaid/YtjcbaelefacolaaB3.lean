/- Parts of the proof, one behind the other: DMutes, DDrop1, DIdxT4, DDelT4, DIdxS3, DDelS3, DDropT4, DOwn, DOwn2, DSS, DIdxU6, DIdxT5, DTaken, DCloneP, DCloneT. No condition of their own. -/
import Derived.Test.YtjcbaelefacolaaB1
import Derived.Test.YtjcbaelefacolaaB2
/- The layer delta: Mute and Unmute. Conditions: what always holds of a state; the state in a box. -/
namespace Go.Proofs.Ytjcbaelefacolaa
open Go Go.RowKit
set_option maxHeartbeats 400000

set_option maxRecDepth 100000 in
set_option maxHeartbeats 2000000 in
theorem mutes_any {w : World} {B T : Nat} {s : St} {h : SHd} {q : Rq} {qh : SH} {m : Bool} (k : TIn w B T s h) (hi : Inv s) (hB : B ≤ w.heap.size) :
    Calls Try.prog 66 #[.pointer (some ⟨T, 0, none⟩), .agg (qcells q qh).toArray, .bool m] w fun e w' => e = .returned (.int .i64 (mutesM s q m).2) ∧ ((mutesM s q m).2 = 0 → ∃ h', TIn w' B T (mutesM s q m).1 h') ∧ Below B w w' := by
  have hnb : s.bs.length ≤ 64 := by have := hi.nb; have := hi.cl; omega
  have HP := Lib.hid (fun (W : World) (u : Upd [] w W) => sub_any (w := W) (s := s) (h := h) (k.upd u).r.st.b (by omega) hi.ub q.who q.track)
  obtain ⟨r, hr⟩ : ∃ r, r = mutesM s q m := ⟨_, rfl⟩
  rw [← hr]
  have HR := Lib.hid hr
  clear hr
  obtain ⟨kd, who, room, rights, track, ss, layer, tid⟩ := q
  obtain ⟨qA, qc⟩ := qh
  unfold qcells
  dsimp only at HP ⊢
  obtain ⟨ql, hql⟩ : ∃ ql, ql = ss.length := ⟨_, rfl⟩
  rw [← hql]
  have HQL := Lib.hid hql
  obtain ⟨W, hW⟩ : ∃ W, W = w.alloc (.cells #[.int .i64 kd, .int .i64 who, .int .i64 room, .int .i64 rights, .int .i64 track, .slice qA ql qc, .int .i64 layer, .int .i64 tid] 45) := ⟨_, rfl⟩
  obtain ⟨Z, hZ⟩ : ∃ Z, Z = w.heap.size := ⟨_, rfl⟩
  have hZB : Blk W Z 45 #[.int .i64 kd, .int .i64 who, .int .i64 room, .int .i64 rights, .int .i64 track, .slice qA ql qc, .int .i64 layer, .int .i64 tid] := by rw [hW, hZ]; exact Blk.new _ _ _
  have hu0 : Upd [] w W := by rw [hW]; exact (Upd.refl [] w).alloc _
  obtain ⟨lo, hlo⟩ : ∃ lo, lo = low (cB who track) s.bs := ⟨_, rfl⟩
  obtain ⟨ha, hha⟩ : ∃ ha, ha = has (cB who track) s.bs := ⟨_, rfl⟩
  rw [← hlo, ← hha] at HP
  have HLO := Lib.hid hlo
  have HHA := Lib.hid hha
  have hkW := k.upd hu0
  have HK := Lib.hid hkW
  have HB := Lib.hid (And.intro hB (Nat.le_trans hB hu0.size))
  have HU0 := Lib.hid hu0
  have HI := Lib.hid hi
  have HZB := Lib.hid hZB
  obtain ⟨z0, z1, z2, z3, z4, z5, z6⟩ := box_cells hkW.box
  obtain ⟨n, hn⟩ : ∃ n, n = s.ps.length := ⟨_, rfl⟩
  obtain ⟨n2, hn2⟩ : ∃ n2, n2 = s.ts.length := ⟨_, rfl⟩
  obtain ⟨n3, hn3⟩ : ∃ n3, n3 = s.bs.length := ⟨_, rfl⟩
  unfold scells at HP
  rw [← hn, ← hn2, ← hn3] at HP
  rw [← hn] at z4
  rw [← hn2] at z5
  rw [← hn3] at z6 hnb
  have HN := Lib.hid (And.intro hn (And.intro hn2 hn3))
  have hTl := hkW.box.lt
  have hZl := hZB.lt
  have y0 : ∀ z : Cls (Upd [] W), z.w.cell? ⟨T, 0, none⟩ = _ := fun z => (z.h.cell (p := ⟨T, 0, none⟩) hTl (by simp)).trans z0
  have y1 : ∀ z : Cls (Upd [] W), z.w.cell? ⟨T, 1, none⟩ = _ := fun z => (z.h.cell (p := ⟨T, 1, none⟩) hTl (by simp)).trans z1
  have y2 : ∀ z : Cls (Upd [] W), z.w.cell? ⟨T, 2, none⟩ = _ := fun z => (z.h.cell (p := ⟨T, 2, none⟩) hTl (by simp)).trans z2
  have y3 : ∀ z : Cls (Upd [] W), z.w.cell? ⟨T, 3, none⟩ = _ := fun z => (z.h.cell (p := ⟨T, 3, none⟩) hTl (by simp)).trans z3
  have y4 : ∀ z : Cls (Upd [] W), z.w.cell? ⟨T, 4, none⟩ = _ := fun z => (z.h.cell (p := ⟨T, 4, none⟩) hTl (by simp)).trans z4
  have y5 : ∀ z : Cls (Upd [] W), z.w.cell? ⟨T, 5, none⟩ = _ := fun z => (z.h.cell (p := ⟨T, 5, none⟩) hTl (by simp)).trans z5
  have y6 : ∀ z : Cls (Upd [] W), z.w.cell? ⟨T, 6, none⟩ = _ := fun z => (z.h.cell (p := ⟨T, 6, none⟩) hTl (by simp)).trans z6
  have q1 : ∀ z : Cls (Upd [] W), z.w.cell? ⟨Z, 1, none⟩ = some (.int .i64 who) := fun z => (z.h.cell (p := ⟨Z, 1, none⟩) hZl (by simp)).trans (hZB.cell 1)
  have q4 : ∀ z : Cls (Upd [] W), z.w.cell? ⟨Z, 4, none⟩ = some (.int .i64 track) := fun z => (z.h.cell (p := ⟨Z, 4, none⟩) hZl (by simp)).trans (hZB.cell 4)
  have HPC := Lib.hid (fun (z : Cls (Upd [] W)) => quiet_cls (C := Upd [] W) (x := z) ((HP.out z.w (hu0.next z.h)).mono fun e w' h => ⟨h.1, z.h.next h.2⟩))
  clear hlo hha hkW hn hn2 hn3 z0 z1 z2 z3 z4 z5 z6 hu0 hi k hB hZB HP hql
  go_enter Try.func66, Try.ntmps66
  go_upto_region 1 with fail
  rw [← hW, ← hZ]
  clear hW hZ
  refine wp_class_tail (Upd [] W) ((Upd.refl _ _).drewN 1) 12 (by kernel_rfl) (by kernel_rfl) (fun _ _ _ _ h => h) ?_
  intro hne
  simp only [List.take_succ_cons, List.take_zero, List.drop_succ_cons, List.drop_zero]
  repeat (go_big_quiet_step ((go_at_call 44; with_reducible exact HPC.out _)))
  refine wpQuiet_nil ?_
  rintro _ ⟨xe, rfl⟩
  have hux := xe.h
  obtain ⟨w1, hw1⟩ : ∃ W2, W2 = xe.w := ⟨_, rfl⟩
  rw [← hw1] at hux ⊢
  have HU1 := Lib.hid (HU0.out.next hux)
  have HK1 := Lib.hid (HK.out.upd hux)
  have HZ1 := Lib.hid (HZB.out.upd hux (by simp))
  have hB1 : B ≤ w1.heap.size := Nat.le_trans HB.out.2 hux.size
  have HB1 := Lib.hid hB1
  clear hw1 hux y0 y1 y2 y3 y4 y5 y6 q1 q4 HPC HK HZB hB1
  cases ha with
  | false =>
    have HX : Hid (r = (s, 21)) := Lib.hid (by
      rw [HR.out]
      unfold mutesM
      dsimp only
      rw [if_pos HHA.out.symm])
    go_wp2
    go_ret
    exact ⟨ret_int (by rw [HX.out]), fun h0 => absurd h0 (by rw [HX.out]; simp), HU1.out.below HB.out.1 (by simp)⟩
  | true =>
  have hlon : lo < n3 := by
    obtain ⟨x, hx, _⟩ := (rise_has (HI.out.ub.rise who track)).1 HHA.out.symm
    have := (List.getElem?_eq_some_iff.1 hx).1
    rw [HLO.out, HN.out.2.2]; exact this
  obtain ⟨x, hx⟩ : ∃ x, s.bs[lo]? = some x := ⟨_, List.getElem?_eq_getElem (by rw [← HN.out.2.2]; exact hlon)⟩
  have hsa : subAt s who track = x := by unfold subAt; rw [← HLO.out, hx]; rfl
  obtain ⟨A0, c0, hve, hnc, hA, _⟩ := own_form HK1.out.r.b
  injection hve with e1 _ e3
  obtain ⟨g, hg, hg1, hg2⟩ := hA (by rw [← HN.out.2.2]; omega)
  rw [← e1] at hg
  have hrow := HK1.out.r.b
  rw [hg] at hrow
  have hcell := fun (k : Nat) (u : Value) (hu : (s.bs.flatMap encB)[k]? = some u) => (by
    have := hrow.cells (g := g) rfl k u hu
    by_cases hk : k = 0
    · subst hk; exact this
    · simpa [Addr.add, hk] using this : w1.cell? ⟨g, k, none⟩ = some u)
  have x4 := hcell (lo * 5 + 4) _ (flat_get encB_len s.bs lo 4 x hx (by omega))
  have g4 : w1.frozen? ⟨g, lo * 5 + 4, none⟩ = false := by
    have := hrow.frozenAt (lo * 5 + 4)
    simpa [Addr.add] using this
  obtain ⟨z0, z1, z2, z3, z4, z5, z6⟩ := box_cells HK1.out.box
  rw [← HN.out.2.2, hg] at z6
  have hset := (hrow.stored (lo * 5 + 4) (.bool m)).1
  have HSETB := Lib.hid (show (w1.setCell ⟨g, lo * 5 + 4, none⟩ (.bool m)).ownsRow B 55 5 (.slice (some ⟨g, 0, none⟩) s.bs.length h.bc) s.bs.length ((s.bs.set lo { x with muted := m }).flatMap encB) by
    rw [flat_set encB_len s.bs lo 4 x { x with muted := m } _ hx (by omega) rfl] at hset
    exact hset)
  have HG := Lib.hid hg
  obtain ⟨x0, x1, x2, x3, xm⟩ := x
  simp only [encB, List.getElem?_cons_zero, List.getElem?_cons_succ, List.getElem_cons_zero, List.getElem_cons_succ] at x4
  have hloi : (lo : Int) < (n3 : Int) := by omega
  have HSA := Lib.hid hsa
  have HGB := Lib.hid (And.intro hg1 hg2)
  clear hx hsa hcell hrow hset hg hA e1 e3 hnc hg1 hg2 z0 z1 z2 z3 z4 z5
  by_cases hmm : xm = m
  · have HX : Hid (r = (s, 23)) := Lib.hid (by
      rw [HR.out]
      unfold mutesM
      dsimp only
      rw [if_neg (by rw [← HHA.out]; decide), HSA.out, if_pos hmm])
    have hq : (xm == m) = true := by simpa using hmm
    clear hmm
    go_wp2
    go_ret
    exact ⟨ret_int (by rw [HX.out]), fun h0 => absurd h0 (by rw [HX.out]; simp), HU1.out.below HB.out.1 (by simp)⟩
  · have HX : Hid (r = ({ s with bs := s.bs.set lo ⟨x0, x1, x2, x3, m⟩ }, 0)) := Lib.hid (by
      rw [HR.out]
      unfold mutesM
      dsimp only
      rw [if_neg (by rw [← HHA.out]; decide), HSA.out, if_neg hmm, ← HLO.out])
    have hq : (xm == m) = false := by simpa using hmm
    clear hmm
    obtain ⟨w2, hw2⟩ : ∃ w2, w2 = w1.setCell ⟨g, lo * 5 + 4, none⟩ (.bool m) := ⟨_, rfl⟩
    rw [← hw2] at HSETB
    have u2 : Upd [g] w1 w2 := by rw [hw2]; exact (Upd.refl [g] w1).setCell (.inl (by simp)) _
    have hput := HK1.out.setB HG.out u2 (bs' := s.bs.set lo ⟨x0, x1, x2, x3, m⟩) (by rw [List.length_set]) HSETB.out
    have HPUT := Lib.hid hput
    have HFIN : Hid (Below B w w2) := Lib.hid ((HU1.out.below HB.out.1 (by simp)).trans (u2.below HB1.out (fun t ht => by rw [List.mem_singleton] at ht; subst ht; exact HGB.out.1)))
    clear u2 hput
    go_wp2
    rw [← hw2]
    clear hw2
    go_ret
    exact ⟨ret_int (by rw [HX.out]), fun _ => ⟨_, by rw [HX.out]; exact HPUT.out⟩, HFIN.out⟩
end Go.Proofs.Ytjcbaelefacolaa
/- The layer delta: drop's function value: is a sub's track gone. Conditions: the state lies in the box that it has captured. -/
namespace Go.Proofs.Ytjcbaelefacolaa
open Go Go.RowKit
set_option maxHeartbeats 400000

set_option maxRecDepth 100000 in
set_option maxHeartbeats 1000000 in
theorem drop1_any {w : World} {Pb T : Nat} {s : St} {h : SHd} (hz : w.cell? ⟨Pb, 0, none⟩ = some (.pointer (some ⟨T, 0, none⟩))) (hb : Blk w T 31 (scells s h).toArray) (hp : RwIn w 0 4 h.tA s.ts.length h.tc (h.tx.flatMap encT)) (hx : h.tx.map (·.1) = s.ts)
    (hl : s.ts.length ≤ 100000) (hu : UpT s.ts) (x : Sb) :
    Calls Try.prog 81 #[.agg (encB x).toArray, .pointer (some ⟨Pb, 0, none⟩)] w fun e w' => e = .returned (.bool (!has (cT x.track) s.ts)) ∧ Upd [] w w' := by
  have HC := Lib.hid (fun (W : World) (u : Upd [] w W) => track_any (w := W) (s := s) (h := h) (hp.upd u) hx hl hu x.track)
  obtain ⟨a, b, c, d, e⟩ := x
  unfold encB
  dsimp only at HC ⊢
  obtain ⟨W, hW⟩ : ∃ W, W = w.alloc (.cells #[.int .i64 a, .int .i64 b, .int .i64 c, .int .i64 d, .bool e] 55) := ⟨_, rfl⟩
  obtain ⟨V, hV⟩ : ∃ V, V = w.heap.size := ⟨_, rfl⟩
  have hVB : Blk W V 55 #[.int .i64 a, .int .i64 b, .int .i64 c, .int .i64 d, .bool e] := by rw [hW, hV]; exact Blk.new _ _ _
  have hu0 : Upd [] w W := by rw [hW]; exact (Upd.refl [] w).alloc _
  obtain ⟨ha, hha⟩ : ∃ ha, ha = has (cT b) s.ts := ⟨_, rfl⟩
  obtain ⟨lo, hlo⟩ : ∃ lo, lo = low (cT b) s.ts := ⟨_, rfl⟩
  rw [← hha] at HC ⊢
  rw [← hlo] at HC
  have hbW := hb.upd hu0 (by simp)
  obtain ⟨z0, z1, z2, z3, z4, z5, z6⟩ := box_cells hbW
  unfold scells at HC
  obtain ⟨n, hn⟩ : ∃ n, n = s.ps.length := ⟨_, rfl⟩
  obtain ⟨n2, hn2⟩ : ∃ n2, n2 = s.ts.length := ⟨_, rfl⟩
  obtain ⟨n3, hn3⟩ : ∃ n3, n3 = s.bs.length := ⟨_, rfl⟩
  rw [← hn, ← hn2, ← hn3] at HC
  rw [← hn] at z4
  rw [← hn2] at z5
  rw [← hn3] at z6
  have hTl := hbW.lt
  have hPl := cellD_lt hz
  have y0 : ∀ z : Cls (Upd [] W), z.w.cell? ⟨T, 0, none⟩ = _ := fun z => (z.h.cell (p := ⟨T, 0, none⟩) hTl (by simp)).trans z0
  have y1 : ∀ z : Cls (Upd [] W), z.w.cell? ⟨T, 1, none⟩ = _ := fun z => (z.h.cell (p := ⟨T, 1, none⟩) hTl (by simp)).trans z1
  have y2 : ∀ z : Cls (Upd [] W), z.w.cell? ⟨T, 2, none⟩ = _ := fun z => (z.h.cell (p := ⟨T, 2, none⟩) hTl (by simp)).trans z2
  have y3 : ∀ z : Cls (Upd [] W), z.w.cell? ⟨T, 3, none⟩ = _ := fun z => (z.h.cell (p := ⟨T, 3, none⟩) hTl (by simp)).trans z3
  have y4 : ∀ z : Cls (Upd [] W), z.w.cell? ⟨T, 4, none⟩ = _ := fun z => (z.h.cell (p := ⟨T, 4, none⟩) hTl (by simp)).trans z4
  have y5 : ∀ z : Cls (Upd [] W), z.w.cell? ⟨T, 5, none⟩ = _ := fun z => (z.h.cell (p := ⟨T, 5, none⟩) hTl (by simp)).trans z5
  have y6 : ∀ z : Cls (Upd [] W), z.w.cell? ⟨T, 6, none⟩ = _ := fun z => (z.h.cell (p := ⟨T, 6, none⟩) hTl (by simp)).trans z6
  have yp : ∀ z : Cls (Upd [] W), z.w.cell? ⟨Pb, 0, none⟩ = some (.pointer (some ⟨T, 0, none⟩)) := fun z => ((hu0.next z.h).cell (p := ⟨Pb, 0, none⟩) hPl (by simp)).trans hz
  have yv : ∀ z : Cls (Upd [] W), z.w.cell? ⟨V, 1, none⟩ = some (.int .i64 b) := fun z => (z.h.cell (p := ⟨V, 1, none⟩) hVB.lt (by simp)).trans (hVB.cell 1)
  have HPC := Lib.hid (fun (z : Cls (Upd [] W)) => quiet_cls (C := Upd [] W) (x := z) ((HC.out z.w (hu0.next z.h)).mono fun e w' h => ⟨h.1, z.h.next h.2⟩))
  have HU0 := Lib.hid hu0
  clear hha hlo hn hn2 hn3 z0 z1 z2 z3 z4 z5 z6 hu0 hb hbW hp hx hl hu HC hVB hz
  go_enter Try.func81, Try.ntmps81
  go_upto_region 1 with fail
  rw [← hW, ← hV]
  clear hW hV
  refine wp_class_tail (Upd [] W) ((Upd.refl _ _).drewN 1) 10 (by kernel_rfl) (by kernel_rfl) (fun _ _ _ _ h => h) ?_
  intro hne
  simp only [List.take_succ_cons, List.take_zero, List.drop_succ_cons, List.drop_zero]
  repeat (go_big_quiet_step ((go_at_call 55; with_reducible exact HPC.out _)))
  refine wpQuiet_nil ?_
  rintro _ ⟨xe, rfl⟩
  have hux := xe.h
  obtain ⟨w1, hw1⟩ : ∃ W2, W2 = xe.w := ⟨_, rfl⟩
  rw [← hw1] at hux ⊢
  have HU1 := Lib.hid (HU0.out.next hux)
  clear hw1 hux y0 y1 y2 y3 y4 y5 y6 yp yv HPC
  go_wp2
  go_ret
  exact ⟨rfl, HU1.out⟩
end Go.Proofs.Ytjcbaelefacolaa
/- slices.IndexFunc at louver/delta.Track, by the function value (*louver/delta.State).unpublish$1: the first place. Conditions: what the function value answers; no more than 100000. -/
namespace Go.Proofs.Ytjcbaelefacolaa
open Go Go.RowKit
set_option maxHeartbeats 400000

set_option maxRecDepth 100000 in
theorem idxT4_any {w : World} {A : Option Addr} {n c : Nat} {R : List (Trk × SH)} (p : (Trk × SH) → Bool) (z : Option Addr) (h : CellsIn w 0 w.heap.size 4 A n (R.flatMap encT)) (hn : R.length = n) (hl : n ≤ 100000)
    (hp : ∀ W, Upd [] w W → ∀ x, x ∈ R → Calls Try.prog 60 #[.agg (encT x).toArray, .pointer z] W fun e W' => e = .returned (.bool (p x)) ∧ Upd [] W W') :
    Calls Try.prog 95 #[.slice A n c, .func (.func 60) #[] #[.pointer z]] w fun e w' => e = .returned (.int .i64 (idxM p R)) ∧ Upd [] w w' := by
  have HC := Lib.hid h
  have HN := Lib.hid hn
  have HP := Lib.hid hp
  obtain ⟨r, hr⟩ : ∃ r, r = idxM p R := ⟨_, rfl⟩
  rw [← hr]
  have HR := Lib.hid hr
  clear h hn hp hr
  go_enter Try.func95, Try.ntmps95
  go_wp2
  go_loopg [8] n (fun gk x8 wr => ∃ k : Nat, k ≤ n ∧ n ≤ k + gk ∧ x8 = .int .i64 k ∧ (∀ x, x ∈ R.take k → p x = false) ∧ Upd [] w wr)
  case atStart => exact ⟨0, Nat.zero_le _, by omega, rfl, by simp, Upd.refl _ _⟩
  case round =>
    obtain ⟨k, hk, hgk, rfl, hall, hu⟩ := hrel
    by_cases hlt : k < n
    · have hlti : (k : Int) < (n : Int) := by omega
      have hw : IntKind.i64.wrap ((k : Int) + 1) = (k : Int) + 1 := IntWalk.i64_in _ (by omega)
      obtain ⟨x, hx⟩ : ∃ x, R[k]? = some x := ⟨_, List.getElem?_eq_getElem (by rw [HN.out]; exact hlt)⟩
      obtain ⟨b, off, rfl, _, hb, hcc⟩ := HC.out.2 (by omega)
      have HCL := Lib.hid (HP.out wr hu x (List.mem_of_getElem? hx))
      obtain ⟨y, hy⟩ : ∃ y, y = p x := ⟨_, rfl⟩
      rw [← hy] at HCL
      have HX : Hid (y = true → r = (k : Int)) := Lib.hid (fun h => by
        rw [HR.out]
        exact idxM_at hx (by rw [← hy]; exact h) hall)
      have HALL : Hid (y = false → ∀ x, x ∈ R.take (k + 1) → p x = false) := Lib.hid (fun h a ha => by
        rw [List.take_add_one, hx, List.mem_append] at ha
        rcases ha with ha | ha
        · exact hall a ha
        · simp at ha
          rw [ha, ← hy]; exact h)
      have c0 := (hu.cell (p := ⟨b, off + (k * 4 + 0), none⟩) hb (by simp)).trans (hcc (k * 4 + 0) _ (flat_get encT_len R k 0 x hx (by omega)))
      have c1 := (hu.cell (p := ⟨b, off + (k * 4 + 1), none⟩) hb (by simp)).trans (hcc (k * 4 + 1) _ (flat_get encT_len R k 1 x hx (by omega)))
      have c2 := (hu.cell (p := ⟨b, off + (k * 4 + 2), none⟩) hb (by simp)).trans (hcc (k * 4 + 2) _ (flat_get encT_len R k 2 x hx (by omega)))
      have c3 := (hu.cell (p := ⟨b, off + (k * 4 + 3), none⟩) hb (by simp)).trans (hcc (k * 4 + 3) _ (flat_get encT_len R k 3 x hx (by omega)))
      obtain ⟨⟨x0, x1, x2, xs⟩, ⟨xA, xc⟩⟩ := x
      simp only [encT, List.getElem?_cons_zero, List.getElem?_cons_succ, List.getElem_cons_zero, List.getElem_cons_succ, ← Nat.add_assoc, Nat.add_zero] at c0 c1 c2 c3
      simp only [encT] at HCL
      have HU := Lib.hid hu
      clear hall hu hx hb hcc hy
      go_wp2_with fail
      refine HCL.out.mono ?_
      rintro e w1 ⟨rfl, hu1⟩
      have HU1 := Lib.hid (HU.out.next hu1)
      clear hu1 HCL c0 c1 c2 c3
      cases y with
      | true =>
        go_wp2
        go_ret
        exact ⟨ret_int (HX.out (by trivial)).symm, HU1.out⟩
      | false =>
        go_wp2
        go_roundg (gk - 1)
        case measure => omega
        case rel => exact ⟨k + 1, by omega, by omega, by go_num, HALL.out (by trivial), HU1.out⟩
    · obtain rfl : k = n := by omega
      have HU := Lib.hid hu
      have HX : Hid (r = -1) := Lib.hid (by
        rw [HR.out]
        refine idxM_no ?_
        rw [← HN.out, List.take_length] at hall
        exact hall)
      clear hall hu
      go_wp2
      go_ret
      exact ⟨ret_int HX.out.symm, HU.out⟩
end Go.Proofs.Ytjcbaelefacolaa
/- slices.DeleteFunc at louver/delta.Track, by the function value (*louver/delta.State).unpublish$1: what stays, in place. Conditions: what the function value answers; no more than 100000. -/
namespace Go.Proofs.Ytjcbaelefacolaa
open Go Go.RowKit
set_option maxHeartbeats 400000

/-- one element stored -/
def delT4_set (w : World) (b i : Nat) (x : (Trk × SH)) : World := ((((w.setCell ⟨b, i * 4, none⟩ (.int .i64 x.1.id)).setCell ⟨b, i * 4 + 1, none⟩ (.int .i64 x.1.owner)).setCell ⟨b, i * 4 + 2, none⟩ (.int .i64 x.1.frm)).setCell ⟨b, i * 4 + 3, none⟩ (.slice x.2.A x.1.ss.length x.2.c))
theorem delT4_row {w : World} {N b n c i : Nat} {X : List (Trk × SH)} (h : w.ownsRow N 76 4 (.slice (some ⟨b, 0, none⟩) n c) n (X.flatMap encT)) (hi : i < X.length) (x : (Trk × SH)) :
    (delT4_set w b i x).ownsRow N 76 4 (.slice (some ⟨b, 0, none⟩) n c) n ((X.set i x).flatMap encT) ∧ Upd [b] w (delT4_set w b i x) := by
  have hy : X[i]? = some X[i] := List.getElem?_eq_getElem hi
  have h1 := (h.stored (i * 4 + 0) (.int .i64 x.1.id)).1
  rw [flat_set encT_len X i 0 X[i] ((⟨x.1.id, X[i].1.owner, X[i].1.frm, X[i].1.ss⟩, X[i].2) : Trk × SH) _ hy (by omega) rfl] at h1
  have h2 := (h1.stored (i * 4 + 1) (.int .i64 x.1.owner)).1
  rw [flat_set encT_len _ i 1 ((⟨x.1.id, X[i].1.owner, X[i].1.frm, X[i].1.ss⟩, X[i].2) : Trk × SH) ((⟨x.1.id, x.1.owner, X[i].1.frm, X[i].1.ss⟩, X[i].2) : Trk × SH) _ (by rw [List.getElem?_set_self hi]) (by omega) rfl, List.set_set] at h2
  have h3 := (h2.stored (i * 4 + 2) (.int .i64 x.1.frm)).1
  rw [flat_set encT_len _ i 2 ((⟨x.1.id, x.1.owner, X[i].1.frm, X[i].1.ss⟩, X[i].2) : Trk × SH) ((⟨x.1.id, x.1.owner, x.1.frm, X[i].1.ss⟩, X[i].2) : Trk × SH) _ (by rw [List.getElem?_set_self hi]) (by omega) rfl, List.set_set] at h3
  have h4 := (h3.stored (i * 4 + 3) (.slice x.2.A x.1.ss.length x.2.c)).1
  rw [flat_set encT_len _ i 3 ((⟨x.1.id, x.1.owner, x.1.frm, X[i].1.ss⟩, X[i].2) : Trk × SH) x _ (by rw [List.getElem?_set_self hi]) (by omega) rfl, List.set_set] at h4
  exact ⟨h4, ((((Upd.refl [b] w).setCell (p := ⟨b, i * 4, none⟩) (.inl (List.mem_singleton.2 rfl)) _).setCell (p := ⟨b, i * 4 + 1, none⟩) (.inl (List.mem_singleton.2 rfl)) _).setCell (p := ⟨b, i * 4 + 2, none⟩) (.inl (List.mem_singleton.2 rfl)) _).setCell (p := ⟨b, i * 4 + 3, none⟩) (.inl (List.mem_singleton.2 rfl)) _⟩
set_option maxRecDepth 100000 in
theorem delT4_any {w : World} {N : Nat} {A : Option Addr} {n c : Nat} {R : List (Trk × SH)} (p : (Trk × SH) → Bool) (z : Option Addr) (h : w.ownsRow N 76 4 (.slice A n c) n (R.flatMap encT)) (hn : R.length = n) (hl : n ≤ 100000)
    (hp : ∀ W, Upd (A.toList.map (·.block)) w W → ∀ x, x ∈ R → Calls Try.prog 60 #[.agg (encT x).toArray, .pointer z] W fun e W' => e = .returned (.bool (p x)) ∧ Upd [] W W') :
    Calls Try.prog 80 #[.slice A n c, .func (.func 60) #[] #[.pointer z]] w fun e w' =>
      e = .returned (.slice A (R.filter (fun x => !p x)).length c) ∧ w'.ownsRow N 76 4 (.slice A (R.filter (fun x => !p x)).length c) (R.filter (fun x => !p x)).length ((R.filter (fun x => !p x)).flatMap encT) ∧ Upd (A.toList.map (·.block)) w w' := by
  have HO := Lib.hid h
  have HN := Lib.hid hn
  have HP := Lib.hid hp
  have HI := Lib.hid (idxT4_any p z ((CellsIn.of_own h).more (Nat.zero_le _) (Nat.le_refl _)) hn hl (c := c) (fun W u x hx => hp W (u.more (by simp)) x hx))
  obtain ⟨F, hF⟩ : ∃ F, F = R.filter (fun x => !p x) := ⟨_, rfl⟩
  rw [← hF]
  have HF := Lib.hid hF
  clear h hn hp hF
  go_enter Try.func80, Try.ntmps80
  go_wp2_with fail
  refine HI.out.mono ?_
  rintro e w1 ⟨rfl, hu1⟩
  have HU1 := Lib.hid hu1
  clear hu1 HI
  rcases idxM_or p R with ⟨hr, hall⟩ | ⟨i, x, hr, hi, hx, hpx, hall⟩
  · rw [hr]
    have HE : Hid (F = R) := Lib.hid (by rw [HF.out]; exact List.filter_eq_self.2 (fun y hy => by rw [hall y hy]; rfl))
    clear hr hall
    have HG : Hid (F.length = n ∧ w1.ownsRow N 76 4 (.slice A n c) n (F.flatMap encT) ∧ Upd (A.toList.map (·.block)) w w1) :=
      Lib.hid ⟨by rw [HE.out, HN.out], by rw [HE.out]; exact ownsRow_upd HO.out HU1.out (by simp), HU1.out.more (by simp)⟩
    go_wp2
    go_ret
    rw [HG.out.1]
    exact ⟨rfl, HG.out.2⟩
  · rw [hr]
    have hib : i < n := by rw [← HN.out]; exact (List.getElem?_eq_some_iff.1 hx).1
    obtain ⟨A', c', hve, hnc, hA, _⟩ := own_form HO.out
    injection hve with e1 _ e3
    subst e1
    subst e3
    obtain ⟨b, hb, hb1, hb2⟩ := hA (by omega)
    subst hb
    have hwi : IntKind.i64.wrap ((i : Int) + 1) = (i : Int) + 1 := IntWalk.i64_in _ (by omega)
    have hne1 : ¬ (i : Int) = -1 := by omega
    have HM : Hid (∃ X : List (Trk × SH), X.length = n ∧ X.take i = (R.take (i + 1)).filter (fun x => !p x) ∧ X.drop (i + 1) = R.drop (i + 1) ∧ w1.ownsRow N 76 4 (.slice (some ⟨b, 0, none⟩) n c) n (X.flatMap encT)) := by
      refine Lib.hid ⟨R, HN.out, ?_, rfl, ownsRow_upd HO.out HU1.out (by simp)⟩
      rw [List.take_add_one, hx, List.filter_append, List.filter_eq_self.2 (fun y hy => by rw [hall y hy]; rfl)]
      simp [hpx]
    clear hr hall hpx hx hA
    go_wp2
    go_loopg [5, 6] n (fun gk x5 x6 wr => ∃ i j : Nat, x5 = .int .i64 i ∧ x6 = .int .i64 j ∧ i < j ∧ j ≤ n ∧ n ≤ j + gk ∧
      (∃ X : List (Trk × SH), X.length = n ∧ X.take i = (R.take j).filter (fun x => !p x) ∧ X.drop j = R.drop j ∧ wr.ownsRow N 76 4 (.slice (some ⟨b, 0, none⟩) n c) n (X.flatMap encT)) ∧ Upd [b] w wr)
    case atStart => exact ⟨i, i + 1, rfl, by go_num, by omega, by omega, by omega, HM.out, HU1.out.more (by simp)⟩
    case round =>
      obtain ⟨i, j, rfl, rfl, hij, hjn, hgj, ⟨X, hXl, hXt, hXd, hXr⟩, hu⟩ := hrel
      by_cases hlt : j < n
      · have hltj : (j : Int) < (n : Int) := by omega
        have hin : (i : Int) < (n : Int) := by omega
        have hwj : IntKind.i64.wrap ((j : Int) + 1) = (j : Int) + 1 := IntWalk.i64_in _ (by omega)
        have hwi2 : IntKind.i64.wrap ((i : Int) + 1) = (i : Int) + 1 := IntWalk.i64_in _ (by omega)
        obtain ⟨x, hx⟩ : ∃ x, X[j]? = some x := ⟨_, List.getElem?_eq_getElem (by rw [hXl]; exact hlt)⟩
        have hRx : R[j]? = some x := by
          have := congrArg (fun l => l[0]?) hXd
          simp only [List.getElem?_drop] at this
          rw [← hx]; simpa using this.symm
        have hcell := fun (k : Nat) (u : Value) (hu : (X.flatMap encT)[k]? = some u) => (by
          have := hXr.cells (g := b) rfl k u hu
          by_cases hk : k = 0
          · subst hk; exact this
          · simpa [Addr.add, hk] using this : wr.cell? ⟨b, k, none⟩ = some u)
        have hbw : b < wr.heap.size := (own_block_lt hXr (g := b) rfl).2
        obtain ⟨y, hy⟩ : ∃ y, y = p x := ⟨_, rfl⟩
        have hcl := fun (o : Obj) => HP.out (wr.alloc o) (hu.alloc o) x (List.mem_of_getElem? hRx)
        rw [← hy] at hcl
        have HCL := Lib.hid hcl
        have HXX := Lib.hid (And.intro hXl (And.intro hXt (And.intro hXd hXr)))
        have HSK : Hid (y = true → X.take i = (R.take (j + 1)).filter (fun x => !p x) ∧ X.drop (j + 1) = R.drop (j + 1)) := Lib.hid (fun h => by
          refine ⟨?_, ?_⟩
          · rw [List.take_add_one, hRx, List.filter_append, hXt]
            simp [← hy, h]
          · have := congrArg (List.drop 1) hXd
            simpa [List.drop_drop] using this)
        have HST : Hid (y = false → (X.set i x).take (i + 1) = (R.take (j + 1)).filter (fun x => !p x) ∧ (X.set i x).drop (j + 1) = R.drop (j + 1) ∧ (X.set i x).length = n) := Lib.hid (fun h => by
          refine ⟨?_, ?_, by rw [List.length_set, hXl]⟩
          · have hl : (X.set i x).take (i + 1) = X.take i ++ [x] := by
              rw [List.take_add_one, List.getElem?_set_self (by omega), List.take_set_of_le (Nat.le_refl _)]
              rfl
            rw [hl, List.take_add_one (l := R), hRx, List.filter_append, ← hXt]
            simp [← hy, h]
          · rw [List.drop_set_of_lt (by omega)]
            have := congrArg (List.drop 1) hXd
            simpa [List.drop_drop] using this)
        have HXX2 := Lib.hid hx
        have HU := Lib.hid hu
        have HFILL := Lib.hid (fun (w2 : World) (u : Upd [] wr w2) => delT4_row (ownsRow_upd hXr u (by simp)) (i := i) (by rw [hXl]; omega) x)
        unfold delT4_set at HFILL
        have c0 := hcell (j * 4 + 0) _ (flat_get encT_len X j 0 x hx (by omega))
        have c1 := hcell (j * 4 + 1) _ (flat_get encT_len X j 1 x hx (by omega))
        have c2 := hcell (j * 4 + 2) _ (flat_get encT_len X j 2 x hx (by omega))
        have c3 := hcell (j * 4 + 3) _ (flat_get encT_len X j 3 x hx (by omega))
        obtain ⟨⟨x0, x1, x2, xs⟩, ⟨xA, xc⟩⟩ := x
        simp only [encT, List.getElem?_cons_zero, List.getElem?_cons_succ, List.getElem_cons_zero, List.getElem_cons_succ, ← Nat.add_assoc, Nat.add_zero] at c0 c1 c2 c3
        simp only [encT] at HCL
        have HCELL := Lib.hid hcell
        have HBN := Lib.hid hbw
        clear hcell hcl hx hRx hXl hXt hXd hXr hu hy
        go_upto_region 8 with fail
        obtain ⟨w2, hw2⟩ : ∃ w2, w2 = wr.alloc (.cells #[.int .i64 x0, .int .i64 x1, .int .i64 x2, .slice xA xs.length xc] 76) := ⟨_, rfl⟩
        obtain ⟨V, hV⟩ : ∃ V, V = wr.heap.size := ⟨_, rfl⟩
        have hBv : Blk w2 V 76 #[.int .i64 x0, .int .i64 x1, .int .i64 x2, .slice xA xs.length xc] := by rw [hw2, hV]; exact Blk.new _ _ _
        have hu2 : Upd [] wr w2 := by rw [hw2]; exact (Upd.refl [] wr).alloc _
        have hcl2 := HCL.out (.cells #[.int .i64 x0, .int .i64 x1, .int .i64 x2, .slice xA xs.length xc] 76)
        rw [← hw2] at hcl2
        rw [← hw2, ← hV]
        have HCL2 := Lib.hid hcl2
        have HBV := Lib.hid hBv
        have HU2 := Lib.hid hu2
        have HVN : Hid (b ≠ V) := Lib.hid (by rw [hV]; have := HBN.out; omega)
        clear hw2 hV hcl2 hu2 HCL c0 c1 c2 c3
        have v0 := hBv.cell 0
        have v1 := hBv.cell 1
        have v2 := hBv.cell 2
        have v3 := hBv.cell 3
        simp only [List.getElem?_toArray, List.getElem?_cons_zero, List.getElem?_cons_succ] at v0 v1 v2 v3
        clear hBv
        go_wp2_with fail
        refine HCL2.out.mono ?_
        rintro e w3 ⟨rfl, hu3⟩
        have HU3 := Lib.hid (HU2.out.next hu3)
        have HU3' := Lib.hid hu3
        clear hu3 HCL2 v0 v1 v2 v3
        cases y with
        | true =>
          have HS := HSK.out (by trivial)
          have HREL : Hid (∃ X : List (Trk × SH), X.length = n ∧ X.take i = (R.take (j + 1)).filter (fun x => !p x) ∧ X.drop (j + 1) = R.drop (j + 1) ∧ w3.ownsRow N 76 4 (.slice (some ⟨b, 0, none⟩) n c) n (X.flatMap encT)) :=
            Lib.hid ⟨X, HXX.out.1, HS.1, HS.2, ownsRow_upd HXX.out.2.2.2 HU3.out (by simp)⟩
          clear HS
          go_wp2
          go_roundg (gk - 1)
          case measure => omega
          case rel => exact ⟨i, j + 1, rfl, by go_num, by omega, by omega, by omega, HREL.out, HU.out.next (HU3.out.more (by simp))⟩
        | false =>
          have HS := HST.out (by trivial)
          have hf3 := HFILL.out w3 HU3.out
          obtain ⟨y, hy⟩ : ∃ y, X[i]? = some y := ⟨_, List.getElem?_eq_getElem (by rw [HXX.out.1]; omega)⟩
          have hX3 := ownsRow_upd HXX.out.2.2.2 HU3.out (by simp)
          have hcell2 := fun (k : Nat) (u : Value) (hu : (X.flatMap encT)[k]? = some u) => (by
            have := hX3.cells (g := b) rfl k u hu
            by_cases hk : k = 0
            · subst hk; exact this
            · simpa [Addr.add, hk] using this : w3.cell? ⟨b, k, none⟩ = some u)
          have hfz2 := fun (k : Nat) => (by
            have := hX3.frozenAt k
            by_cases hk : k = 0
            · subst hk; exact this
            · simpa [Addr.add, hk] using this : w3.frozen? ⟨b, k, none⟩ = false)
          have hBx := HBV.out.upd HU3'.out (by simp)
          have e0 := hcell2 (i * 4 + 0) _ (flat_get encT_len X i 0 y hy (by omega))
          have f0 := hfz2 (i * 4 + 0)
          have b0 := hBx.cell 0
          have e1 := hcell2 (i * 4 + 1) _ (flat_get encT_len X i 1 y hy (by omega))
          have f1 := hfz2 (i * 4 + 1)
          have b1 := hBx.cell 1
          have e2 := hcell2 (i * 4 + 2) _ (flat_get encT_len X i 2 y hy (by omega))
          have f2 := hfz2 (i * 4 + 2)
          have b2 := hBx.cell 2
          have e3 := hcell2 (i * 4 + 3) _ (flat_get encT_len X i 3 y hy (by omega))
          have f3 := hfz2 (i * 4 + 3)
          have b3 := hBx.cell 3
          simp only [List.getElem?_toArray, List.getElem?_cons_zero, List.getElem?_cons_succ] at b0 b1 b2 b3
          simp only [encT, List.getElem?_cons_zero, List.getElem?_cons_succ, List.getElem_cons_zero, List.getElem_cons_succ, ← Nat.add_assoc, Nat.add_zero] at e0 e1 e2 e3
          simp only [← Nat.add_assoc, Nat.add_zero] at f0 f1 f2 f3
          have hbne := HVN.out
          obtain ⟨w4, hw4⟩ : ∃ w4, w4 = delT4_set w3 b i ((⟨x0, x1, x2, xs⟩, ⟨xA, xc⟩) : Trk × SH) := ⟨_, rfl⟩
          unfold delT4_set at hw4
          dsimp only at hw4 hf3
          rw [← hw4] at hf3
          have HREL : Hid ((∃ X : List (Trk × SH), X.length = n ∧ X.take (i + 1) = (R.take (j + 1)).filter (fun x => !p x) ∧ X.drop (j + 1) = R.drop (j + 1) ∧ w4.ownsRow N 76 4 (.slice (some ⟨b, 0, none⟩) n c) n (X.flatMap encT)) ∧ Upd [b] w w4) :=
            Lib.hid ⟨⟨X.set i ((⟨x0, x1, x2, xs⟩, ⟨xA, xc⟩) : Trk × SH), HS.2.2, HS.1, HS.2.1, hf3.1⟩, (HU.out.next (HU3.out.more (by simp))).next hf3.2⟩
          clear HS hf3 hX3 hcell2 hfz2 hBx hy HFILL HCELL
          go_upto_region 10 with fail
          rw [← hw4]
          clear hw4 e0 f0 b0 e1 f1 b1 e2 f2 b2 e3 f3 b3
          go_wp2
          go_roundg (gk - 1)
          case measure => omega
          case rel => exact ⟨i + 1, j + 1, by go_num, by go_num, by omega, by omega, by omega, HREL.out.1, HREL.out.2⟩
      · obtain rfl : j = n := by omega
        rw [← HN.out, List.take_length] at hXt
        have hif : i = F.length := by rw [HF.out, ← hXt, List.length_take, hXl]; omega
        obtain ⟨w3, hclr, hrow, hu3⟩ := run_clear_tail (i := i) (size := 4) (P := Try.prog) (t := 28) (ty := 0) (zc := [.int .i64 0, .int .i64 0, .int .i64 0, .slice none 0 0]) Try.underlying28 (fun w => by kernel_rfl) rfl (by decide) hXr (by omega) (c - i)
        rw [flat_take encT_len, hXt, ← HF.out] at hrow
        have HG := Lib.hid (And.intro hif (And.intro hrow (hu.next hu3)))
        have hcn := hnc
        have hini : (i : Int) < (j : Int) := by omega
        clear hXl hXt hXd hXr hu hrow hu3 hif
        go_wp2
        go_ret
        rw [← HG.out.1]
        exact ⟨rfl, HG.out.2.1, HG.out.2.2⟩
end Go.Proofs.Ytjcbaelefacolaa
/- slices.IndexFunc at louver/delta.Sub, by the function value (*louver/delta.State).drop$1: the first place. Conditions: what the function value answers; no more than 100000. -/
namespace Go.Proofs.Ytjcbaelefacolaa
open Go Go.RowKit
set_option maxHeartbeats 400000

set_option maxRecDepth 100000 in
theorem idxS3_any {w : World} {A : Option Addr} {n c : Nat} {R : List Sb} (p : Sb → Bool) (z : Option Addr) (h : CellsIn w 0 w.heap.size 5 A n (R.flatMap encB)) (hn : R.length = n) (hl : n ≤ 100000)
    (hp : ∀ W, Upd [] w W → ∀ x, x ∈ R → Calls Try.prog 81 #[.agg (encB x).toArray, .pointer z] W fun e W' => e = .returned (.bool (p x)) ∧ Upd [] W W') :
    Calls Try.prog 73 #[.slice A n c, .func (.func 81) #[] #[.pointer z]] w fun e w' => e = .returned (.int .i64 (idxM p R)) ∧ Upd [] w w' := by
  have HC := Lib.hid h
  have HN := Lib.hid hn
  have HP := Lib.hid hp
  obtain ⟨r, hr⟩ : ∃ r, r = idxM p R := ⟨_, rfl⟩
  rw [← hr]
  have HR := Lib.hid hr
  clear h hn hp hr
  go_enter Try.func73, Try.ntmps73
  go_wp2
  go_loopg [8] n (fun gk x8 wr => ∃ k : Nat, k ≤ n ∧ n ≤ k + gk ∧ x8 = .int .i64 k ∧ (∀ x, x ∈ R.take k → p x = false) ∧ Upd [] w wr)
  case atStart => exact ⟨0, Nat.zero_le _, by omega, rfl, by simp, Upd.refl _ _⟩
  case round =>
    obtain ⟨k, hk, hgk, rfl, hall, hu⟩ := hrel
    by_cases hlt : k < n
    · have hlti : (k : Int) < (n : Int) := by omega
      have hw : IntKind.i64.wrap ((k : Int) + 1) = (k : Int) + 1 := IntWalk.i64_in _ (by omega)
      obtain ⟨x, hx⟩ : ∃ x, R[k]? = some x := ⟨_, List.getElem?_eq_getElem (by rw [HN.out]; exact hlt)⟩
      obtain ⟨b, off, rfl, _, hb, hcc⟩ := HC.out.2 (by omega)
      have HCL := Lib.hid (HP.out wr hu x (List.mem_of_getElem? hx))
      obtain ⟨y, hy⟩ : ∃ y, y = p x := ⟨_, rfl⟩
      rw [← hy] at HCL
      have HX : Hid (y = true → r = (k : Int)) := Lib.hid (fun h => by
        rw [HR.out]
        exact idxM_at hx (by rw [← hy]; exact h) hall)
      have HALL : Hid (y = false → ∀ x, x ∈ R.take (k + 1) → p x = false) := Lib.hid (fun h a ha => by
        rw [List.take_add_one, hx, List.mem_append] at ha
        rcases ha with ha | ha
        · exact hall a ha
        · simp at ha
          rw [ha, ← hy]; exact h)
      have c0 := (hu.cell (p := ⟨b, off + (k * 5 + 0), none⟩) hb (by simp)).trans (hcc (k * 5 + 0) _ (flat_get encB_len R k 0 x hx (by omega)))
      have c1 := (hu.cell (p := ⟨b, off + (k * 5 + 1), none⟩) hb (by simp)).trans (hcc (k * 5 + 1) _ (flat_get encB_len R k 1 x hx (by omega)))
      have c2 := (hu.cell (p := ⟨b, off + (k * 5 + 2), none⟩) hb (by simp)).trans (hcc (k * 5 + 2) _ (flat_get encB_len R k 2 x hx (by omega)))
      have c3 := (hu.cell (p := ⟨b, off + (k * 5 + 3), none⟩) hb (by simp)).trans (hcc (k * 5 + 3) _ (flat_get encB_len R k 3 x hx (by omega)))
      have c4 := (hu.cell (p := ⟨b, off + (k * 5 + 4), none⟩) hb (by simp)).trans (hcc (k * 5 + 4) _ (flat_get encB_len R k 4 x hx (by omega)))
      obtain ⟨x0, x1, x2, x3, x4⟩ := x
      simp only [encB, List.getElem?_cons_zero, List.getElem?_cons_succ, List.getElem_cons_zero, List.getElem_cons_succ, ← Nat.add_assoc, Nat.add_zero] at c0 c1 c2 c3 c4
      simp only [encB] at HCL
      have HU := Lib.hid hu
      clear hall hu hx hb hcc hy
      go_wp2_with fail
      refine HCL.out.mono ?_
      rintro e w1 ⟨rfl, hu1⟩
      have HU1 := Lib.hid (HU.out.next hu1)
      clear hu1 HCL c0 c1 c2 c3 c4
      cases y with
      | true =>
        go_wp2
        go_ret
        exact ⟨ret_int (HX.out (by trivial)).symm, HU1.out⟩
      | false =>
        go_wp2
        go_roundg (gk - 1)
        case measure => omega
        case rel => exact ⟨k + 1, by omega, by omega, by go_num, HALL.out (by trivial), HU1.out⟩
    · obtain rfl : k = n := by omega
      have HU := Lib.hid hu
      have HX : Hid (r = -1) := Lib.hid (by
        rw [HR.out]
        refine idxM_no ?_
        rw [← HN.out, List.take_length] at hall
        exact hall)
      clear hall hu
      go_wp2
      go_ret
      exact ⟨ret_int HX.out.symm, HU.out⟩
end Go.Proofs.Ytjcbaelefacolaa
/- slices.DeleteFunc at louver/delta.Sub, by the function value (*louver/delta.State).drop$1: what stays, in place. Conditions: what the function value answers; no more than 100000. -/
namespace Go.Proofs.Ytjcbaelefacolaa
open Go Go.RowKit
set_option maxHeartbeats 400000

/-- one element stored -/
def delS3_set (w : World) (b i : Nat) (x : Sb) : World := (((((w.setCell ⟨b, i * 5, none⟩ (.int .i64 x.who)).setCell ⟨b, i * 5 + 1, none⟩ (.int .i64 x.track)).setCell ⟨b, i * 5 + 2, none⟩ (.int .i64 x.layer)).setCell ⟨b, i * 5 + 3, none⟩ (.int .i64 x.tid)).setCell ⟨b, i * 5 + 4, none⟩ (.bool x.muted))
theorem delS3_row {w : World} {N b n c i : Nat} {X : List Sb} (h : w.ownsRow N 55 5 (.slice (some ⟨b, 0, none⟩) n c) n (X.flatMap encB)) (hi : i < X.length) (x : Sb) :
    (delS3_set w b i x).ownsRow N 55 5 (.slice (some ⟨b, 0, none⟩) n c) n ((X.set i x).flatMap encB) ∧ Upd [b] w (delS3_set w b i x) := by
  have hy : X[i]? = some X[i] := List.getElem?_eq_getElem hi
  have h1 := (h.stored (i * 5 + 0) (.int .i64 x.who)).1
  rw [flat_set encB_len X i 0 X[i] (⟨x.who, X[i].track, X[i].layer, X[i].tid, X[i].muted⟩ : Sb) _ hy (by omega) rfl] at h1
  have h2 := (h1.stored (i * 5 + 1) (.int .i64 x.track)).1
  rw [flat_set encB_len _ i 1 (⟨x.who, X[i].track, X[i].layer, X[i].tid, X[i].muted⟩ : Sb) (⟨x.who, x.track, X[i].layer, X[i].tid, X[i].muted⟩ : Sb) _ (by rw [List.getElem?_set_self hi]) (by omega) rfl, List.set_set] at h2
  have h3 := (h2.stored (i * 5 + 2) (.int .i64 x.layer)).1
  rw [flat_set encB_len _ i 2 (⟨x.who, x.track, X[i].layer, X[i].tid, X[i].muted⟩ : Sb) (⟨x.who, x.track, x.layer, X[i].tid, X[i].muted⟩ : Sb) _ (by rw [List.getElem?_set_self hi]) (by omega) rfl, List.set_set] at h3
  have h4 := (h3.stored (i * 5 + 3) (.int .i64 x.tid)).1
  rw [flat_set encB_len _ i 3 (⟨x.who, x.track, x.layer, X[i].tid, X[i].muted⟩ : Sb) (⟨x.who, x.track, x.layer, x.tid, X[i].muted⟩ : Sb) _ (by rw [List.getElem?_set_self hi]) (by omega) rfl, List.set_set] at h4
  have h5 := (h4.stored (i * 5 + 4) (.bool x.muted)).1
  rw [flat_set encB_len _ i 4 (⟨x.who, x.track, x.layer, x.tid, X[i].muted⟩ : Sb) x _ (by rw [List.getElem?_set_self hi]) (by omega) rfl, List.set_set] at h5
  exact ⟨h5, (((((Upd.refl [b] w).setCell (p := ⟨b, i * 5, none⟩) (.inl (List.mem_singleton.2 rfl)) _).setCell (p := ⟨b, i * 5 + 1, none⟩) (.inl (List.mem_singleton.2 rfl)) _).setCell (p := ⟨b, i * 5 + 2, none⟩) (.inl (List.mem_singleton.2 rfl)) _).setCell (p := ⟨b, i * 5 + 3, none⟩) (.inl (List.mem_singleton.2 rfl)) _).setCell (p := ⟨b, i * 5 + 4, none⟩) (.inl (List.mem_singleton.2 rfl)) _⟩
set_option maxRecDepth 100000 in
theorem delS3_any {w : World} {N : Nat} {A : Option Addr} {n c : Nat} {R : List Sb} (p : Sb → Bool) (z : Option Addr) (h : w.ownsRow N 55 5 (.slice A n c) n (R.flatMap encB)) (hn : R.length = n) (hl : n ≤ 100000)
    (hp : ∀ W, Upd (A.toList.map (·.block)) w W → ∀ x, x ∈ R → Calls Try.prog 81 #[.agg (encB x).toArray, .pointer z] W fun e W' => e = .returned (.bool (p x)) ∧ Upd [] W W') :
    Calls Try.prog 41 #[.slice A n c, .func (.func 81) #[] #[.pointer z]] w fun e w' =>
      e = .returned (.slice A (R.filter (fun x => !p x)).length c) ∧ w'.ownsRow N 55 5 (.slice A (R.filter (fun x => !p x)).length c) (R.filter (fun x => !p x)).length ((R.filter (fun x => !p x)).flatMap encB) ∧ Upd (A.toList.map (·.block)) w w' := by
  have HO := Lib.hid h
  have HN := Lib.hid hn
  have HP := Lib.hid hp
  have HI := Lib.hid (idxS3_any p z ((CellsIn.of_own h).more (Nat.zero_le _) (Nat.le_refl _)) hn hl (c := c) (fun W u x hx => hp W (u.more (by simp)) x hx))
  obtain ⟨F, hF⟩ : ∃ F, F = R.filter (fun x => !p x) := ⟨_, rfl⟩
  rw [← hF]
  have HF := Lib.hid hF
  clear h hn hp hF
  go_enter Try.func41, Try.ntmps41
  go_wp2_with fail
  refine HI.out.mono ?_
  rintro e w1 ⟨rfl, hu1⟩
  have HU1 := Lib.hid hu1
  clear hu1 HI
  rcases idxM_or p R with ⟨hr, hall⟩ | ⟨i, x, hr, hi, hx, hpx, hall⟩
  · rw [hr]
    have HE : Hid (F = R) := Lib.hid (by rw [HF.out]; exact List.filter_eq_self.2 (fun y hy => by rw [hall y hy]; rfl))
    clear hr hall
    have HG : Hid (F.length = n ∧ w1.ownsRow N 55 5 (.slice A n c) n (F.flatMap encB) ∧ Upd (A.toList.map (·.block)) w w1) :=
      Lib.hid ⟨by rw [HE.out, HN.out], by rw [HE.out]; exact ownsRow_upd HO.out HU1.out (by simp), HU1.out.more (by simp)⟩
    go_wp2
    go_ret
    rw [HG.out.1]
    exact ⟨rfl, HG.out.2⟩
  · rw [hr]
    have hib : i < n := by rw [← HN.out]; exact (List.getElem?_eq_some_iff.1 hx).1
    obtain ⟨A', c', hve, hnc, hA, _⟩ := own_form HO.out
    injection hve with e1 _ e3
    subst e1
    subst e3
    obtain ⟨b, hb, hb1, hb2⟩ := hA (by omega)
    subst hb
    have hwi : IntKind.i64.wrap ((i : Int) + 1) = (i : Int) + 1 := IntWalk.i64_in _ (by omega)
    have hne1 : ¬ (i : Int) = -1 := by omega
    have HM : Hid (∃ X : List Sb, X.length = n ∧ X.take i = (R.take (i + 1)).filter (fun x => !p x) ∧ X.drop (i + 1) = R.drop (i + 1) ∧ w1.ownsRow N 55 5 (.slice (some ⟨b, 0, none⟩) n c) n (X.flatMap encB)) := by
      refine Lib.hid ⟨R, HN.out, ?_, rfl, ownsRow_upd HO.out HU1.out (by simp)⟩
      rw [List.take_add_one, hx, List.filter_append, List.filter_eq_self.2 (fun y hy => by rw [hall y hy]; rfl)]
      simp [hpx]
    clear hr hall hpx hx hA
    go_wp2
    go_loopg [5, 6] n (fun gk x5 x6 wr => ∃ i j : Nat, x5 = .int .i64 i ∧ x6 = .int .i64 j ∧ i < j ∧ j ≤ n ∧ n ≤ j + gk ∧
      (∃ X : List Sb, X.length = n ∧ X.take i = (R.take j).filter (fun x => !p x) ∧ X.drop j = R.drop j ∧ wr.ownsRow N 55 5 (.slice (some ⟨b, 0, none⟩) n c) n (X.flatMap encB)) ∧ Upd [b] w wr)
    case atStart => exact ⟨i, i + 1, rfl, by go_num, by omega, by omega, by omega, HM.out, HU1.out.more (by simp)⟩
    case round =>
      obtain ⟨i, j, rfl, rfl, hij, hjn, hgj, ⟨X, hXl, hXt, hXd, hXr⟩, hu⟩ := hrel
      by_cases hlt : j < n
      · have hltj : (j : Int) < (n : Int) := by omega
        have hin : (i : Int) < (n : Int) := by omega
        have hwj : IntKind.i64.wrap ((j : Int) + 1) = (j : Int) + 1 := IntWalk.i64_in _ (by omega)
        have hwi2 : IntKind.i64.wrap ((i : Int) + 1) = (i : Int) + 1 := IntWalk.i64_in _ (by omega)
        obtain ⟨x, hx⟩ : ∃ x, X[j]? = some x := ⟨_, List.getElem?_eq_getElem (by rw [hXl]; exact hlt)⟩
        have hRx : R[j]? = some x := by
          have := congrArg (fun l => l[0]?) hXd
          simp only [List.getElem?_drop] at this
          rw [← hx]; simpa using this.symm
        have hcell := fun (k : Nat) (u : Value) (hu : (X.flatMap encB)[k]? = some u) => (by
          have := hXr.cells (g := b) rfl k u hu
          by_cases hk : k = 0
          · subst hk; exact this
          · simpa [Addr.add, hk] using this : wr.cell? ⟨b, k, none⟩ = some u)
        have hbw : b < wr.heap.size := (own_block_lt hXr (g := b) rfl).2
        obtain ⟨y, hy⟩ : ∃ y, y = p x := ⟨_, rfl⟩
        have hcl := fun (o : Obj) => HP.out (wr.alloc o) (hu.alloc o) x (List.mem_of_getElem? hRx)
        rw [← hy] at hcl
        have HCL := Lib.hid hcl
        have HXX := Lib.hid (And.intro hXl (And.intro hXt (And.intro hXd hXr)))
        have HSK : Hid (y = true → X.take i = (R.take (j + 1)).filter (fun x => !p x) ∧ X.drop (j + 1) = R.drop (j + 1)) := Lib.hid (fun h => by
          refine ⟨?_, ?_⟩
          · rw [List.take_add_one, hRx, List.filter_append, hXt]
            simp [← hy, h]
          · have := congrArg (List.drop 1) hXd
            simpa [List.drop_drop] using this)
        have HST : Hid (y = false → (X.set i x).take (i + 1) = (R.take (j + 1)).filter (fun x => !p x) ∧ (X.set i x).drop (j + 1) = R.drop (j + 1) ∧ (X.set i x).length = n) := Lib.hid (fun h => by
          refine ⟨?_, ?_, by rw [List.length_set, hXl]⟩
          · have hl : (X.set i x).take (i + 1) = X.take i ++ [x] := by
              rw [List.take_add_one, List.getElem?_set_self (by omega), List.take_set_of_le (Nat.le_refl _)]
              rfl
            rw [hl, List.take_add_one (l := R), hRx, List.filter_append, ← hXt]
            simp [← hy, h]
          · rw [List.drop_set_of_lt (by omega)]
            have := congrArg (List.drop 1) hXd
            simpa [List.drop_drop] using this)
        have HXX2 := Lib.hid hx
        have HU := Lib.hid hu
        have HFILL := Lib.hid (fun (w2 : World) (u : Upd [] wr w2) => delS3_row (ownsRow_upd hXr u (by simp)) (i := i) (by rw [hXl]; omega) x)
        unfold delS3_set at HFILL
        have c0 := hcell (j * 5 + 0) _ (flat_get encB_len X j 0 x hx (by omega))
        have c1 := hcell (j * 5 + 1) _ (flat_get encB_len X j 1 x hx (by omega))
        have c2 := hcell (j * 5 + 2) _ (flat_get encB_len X j 2 x hx (by omega))
        have c3 := hcell (j * 5 + 3) _ (flat_get encB_len X j 3 x hx (by omega))
        have c4 := hcell (j * 5 + 4) _ (flat_get encB_len X j 4 x hx (by omega))
        obtain ⟨x0, x1, x2, x3, x4⟩ := x
        simp only [encB, List.getElem?_cons_zero, List.getElem?_cons_succ, List.getElem_cons_zero, List.getElem_cons_succ, ← Nat.add_assoc, Nat.add_zero] at c0 c1 c2 c3 c4
        simp only [encB] at HCL
        have HCELL := Lib.hid hcell
        have HBN := Lib.hid hbw
        clear hcell hcl hx hRx hXl hXt hXd hXr hu hy
        go_upto_region 8 with fail
        obtain ⟨w2, hw2⟩ : ∃ w2, w2 = wr.alloc (.cells #[.int .i64 x0, .int .i64 x1, .int .i64 x2, .int .i64 x3, .bool x4] 55) := ⟨_, rfl⟩
        obtain ⟨V, hV⟩ : ∃ V, V = wr.heap.size := ⟨_, rfl⟩
        have hBv : Blk w2 V 55 #[.int .i64 x0, .int .i64 x1, .int .i64 x2, .int .i64 x3, .bool x4] := by rw [hw2, hV]; exact Blk.new _ _ _
        have hu2 : Upd [] wr w2 := by rw [hw2]; exact (Upd.refl [] wr).alloc _
        have hcl2 := HCL.out (.cells #[.int .i64 x0, .int .i64 x1, .int .i64 x2, .int .i64 x3, .bool x4] 55)
        rw [← hw2] at hcl2
        rw [← hw2, ← hV]
        have HCL2 := Lib.hid hcl2
        have HBV := Lib.hid hBv
        have HU2 := Lib.hid hu2
        have HVN : Hid (b ≠ V) := Lib.hid (by rw [hV]; have := HBN.out; omega)
        clear hw2 hV hcl2 hu2 HCL c0 c1 c2 c3 c4
        have v0 := hBv.cell 0
        have v1 := hBv.cell 1
        have v2 := hBv.cell 2
        have v3 := hBv.cell 3
        have v4 := hBv.cell 4
        simp only [List.getElem?_toArray, List.getElem?_cons_zero, List.getElem?_cons_succ] at v0 v1 v2 v3 v4
        clear hBv
        go_wp2_with fail
        refine HCL2.out.mono ?_
        rintro e w3 ⟨rfl, hu3⟩
        have HU3 := Lib.hid (HU2.out.next hu3)
        have HU3' := Lib.hid hu3
        clear hu3 HCL2 v0 v1 v2 v3 v4
        cases y with
        | true =>
          have HS := HSK.out (by trivial)
          have HREL : Hid (∃ X : List Sb, X.length = n ∧ X.take i = (R.take (j + 1)).filter (fun x => !p x) ∧ X.drop (j + 1) = R.drop (j + 1) ∧ w3.ownsRow N 55 5 (.slice (some ⟨b, 0, none⟩) n c) n (X.flatMap encB)) :=
            Lib.hid ⟨X, HXX.out.1, HS.1, HS.2, ownsRow_upd HXX.out.2.2.2 HU3.out (by simp)⟩
          clear HS
          go_wp2
          go_roundg (gk - 1)
          case measure => omega
          case rel => exact ⟨i, j + 1, rfl, by go_num, by omega, by omega, by omega, HREL.out, HU.out.next (HU3.out.more (by simp))⟩
        | false =>
          have HS := HST.out (by trivial)
          have hf3 := HFILL.out w3 HU3.out
          obtain ⟨y, hy⟩ : ∃ y, X[i]? = some y := ⟨_, List.getElem?_eq_getElem (by rw [HXX.out.1]; omega)⟩
          have hX3 := ownsRow_upd HXX.out.2.2.2 HU3.out (by simp)
          have hcell2 := fun (k : Nat) (u : Value) (hu : (X.flatMap encB)[k]? = some u) => (by
            have := hX3.cells (g := b) rfl k u hu
            by_cases hk : k = 0
            · subst hk; exact this
            · simpa [Addr.add, hk] using this : w3.cell? ⟨b, k, none⟩ = some u)
          have hfz2 := fun (k : Nat) => (by
            have := hX3.frozenAt k
            by_cases hk : k = 0
            · subst hk; exact this
            · simpa [Addr.add, hk] using this : w3.frozen? ⟨b, k, none⟩ = false)
          have hBx := HBV.out.upd HU3'.out (by simp)
          have e0 := hcell2 (i * 5 + 0) _ (flat_get encB_len X i 0 y hy (by omega))
          have f0 := hfz2 (i * 5 + 0)
          have b0 := hBx.cell 0
          have e1 := hcell2 (i * 5 + 1) _ (flat_get encB_len X i 1 y hy (by omega))
          have f1 := hfz2 (i * 5 + 1)
          have b1 := hBx.cell 1
          have e2 := hcell2 (i * 5 + 2) _ (flat_get encB_len X i 2 y hy (by omega))
          have f2 := hfz2 (i * 5 + 2)
          have b2 := hBx.cell 2
          have e3 := hcell2 (i * 5 + 3) _ (flat_get encB_len X i 3 y hy (by omega))
          have f3 := hfz2 (i * 5 + 3)
          have b3 := hBx.cell 3
          have e4 := hcell2 (i * 5 + 4) _ (flat_get encB_len X i 4 y hy (by omega))
          have f4 := hfz2 (i * 5 + 4)
          have b4 := hBx.cell 4
          simp only [List.getElem?_toArray, List.getElem?_cons_zero, List.getElem?_cons_succ] at b0 b1 b2 b3 b4
          simp only [encB, List.getElem?_cons_zero, List.getElem?_cons_succ, List.getElem_cons_zero, List.getElem_cons_succ, ← Nat.add_assoc, Nat.add_zero] at e0 e1 e2 e3 e4
          simp only [← Nat.add_assoc, Nat.add_zero] at f0 f1 f2 f3 f4
          have hbne := HVN.out
          obtain ⟨w4, hw4⟩ : ∃ w4, w4 = delS3_set w3 b i (⟨x0, x1, x2, x3, x4⟩ : Sb) := ⟨_, rfl⟩
          unfold delS3_set at hw4
          dsimp only at hw4 hf3
          rw [← hw4] at hf3
          have HREL : Hid ((∃ X : List Sb, X.length = n ∧ X.take (i + 1) = (R.take (j + 1)).filter (fun x => !p x) ∧ X.drop (j + 1) = R.drop (j + 1) ∧ w4.ownsRow N 55 5 (.slice (some ⟨b, 0, none⟩) n c) n (X.flatMap encB)) ∧ Upd [b] w w4) :=
            Lib.hid ⟨⟨X.set i (⟨x0, x1, x2, x3, x4⟩ : Sb), HS.2.2, HS.1, HS.2.1, hf3.1⟩, (HU.out.next (HU3.out.more (by simp))).next hf3.2⟩
          clear HS hf3 hX3 hcell2 hfz2 hBx hy HFILL HCELL
          go_upto_region 10 with fail
          rw [← hw4]
          clear hw4 e0 f0 b0 e1 f1 b1 e2 f2 b2 e3 f3 b3 e4 f4 b4
          go_wp2
          go_roundg (gk - 1)
          case measure => omega
          case rel => exact ⟨i + 1, j + 1, by go_num, by go_num, by omega, by omega, by omega, HREL.out.1, HREL.out.2⟩
      · obtain rfl : j = n := by omega
        rw [← HN.out, List.take_length] at hXt
        have hif : i = F.length := by rw [HF.out, ← hXt, List.length_take, hXl]; omega
        obtain ⟨w3, hclr, hrow, hu3⟩ := run_clear_tail (i := i) (size := 5) (P := Try.prog) (t := 29) (ty := 0) (zc := [.int .i64 0, .int .i64 0, .int .i64 0, .int .i64 0, .bool false]) Try.underlying29 (fun w => by kernel_rfl) rfl (by decide) hXr (by omega) (c - i)
        rw [flat_take encB_len, hXt, ← HF.out] at hrow
        have HG := Lib.hid (And.intro hif (And.intro hrow (hu.next hu3)))
        have hcn := hnc
        have hini : (i : Int) < (j : Int) := by omega
        clear hXl hXt hXd hXr hu hrow hu3 hif
        go_wp2
        go_ret
        rw [← HG.out.1]
        exact ⟨rfl, HG.out.2.1, HG.out.2.2⟩
end Go.Proofs.Ytjcbaelefacolaa
/- The layer delta: drop, by the function value (*louver/delta.State).unpublish$1. Conditions: what the function value answers; the state in a box. -/
namespace Go.Proofs.Ytjcbaelefacolaa
open Go Go.RowKit
set_option maxHeartbeats 400000

set_option maxRecDepth 100000 in
set_option maxHeartbeats 2000000 in
theorem dropT4_any {w : World} {B T : Nat} {s : St} {h : SHd} (k : TIn w B T s h) (hu : UpT s.ts) (ht : s.ts.length ≤ 1000) (hbl : s.bs.length ≤ 1000) (hB : B ≤ w.heap.size) (pt : Trk → Bool) (z : Option Addr)
    (hp : ∀ W, Upd (h.tA.toList.map (·.block)) w W → ∀ x : Trk × SH, Calls Try.prog 60 #[.agg (encT x).toArray, .pointer z] W fun e W' => e = .returned (.bool (pt x.1)) ∧ Upd [] W W') :
    Calls Try.prog 53 #[.pointer (some ⟨T, 0, none⟩), .func (.func 60) #[] #[.pointer z]] w fun e w' => e = .returned (.tuple #[]) ∧ (∃ h', TIn w' B T (dropM s pt) h') ∧ Below B w w' := by
  obtain ⟨W, hW⟩ : ∃ W, W = w.alloc (.cells #[.pointer (some ⟨T, 0, none⟩)] 85) := ⟨_, rfl⟩
  obtain ⟨Pb, hPb⟩ : ∃ Pb, Pb = w.heap.size := ⟨_, rfl⟩
  have hPB : Blk W Pb 85 #[.pointer (some ⟨T, 0, none⟩)] := by rw [hW, hPb]; exact Blk.new _ _ _
  have hu0 : Upd [] w W := by rw [hW]; exact (Upd.refl [] w).alloc _
  have kW := k.upd hu0
  obtain ⟨TB, hTB⟩ : ∃ TB, TB = h.tA.toList.map (·.block) := ⟨_, rfl⟩
  have hTT : T ∉ TB := fun hm => own_box kW.r.t kW.box (by decide) (own_in kW.r.t T (by rw [← hTB]; exact hm)).1
  have hPT : Pb ∉ TB := fun hm => own_box kW.r.t hPB (by decide) (own_in kW.r.t Pb (by rw [← hTB]; exact hm)).1
  obtain ⟨z0, z1, z2, z3, z4, z5, z6⟩ := box_cells kW.box
  have hTl := kW.box.lt
  have y5 : ∀ z : Cls (Upd TB W), z.w.cell? ⟨T, 5, none⟩ = _ := fun z => (z.h.cell (p := ⟨T, 5, none⟩) hTl hTT).trans z5
  have yp : ∀ z : Cls (Upd TB W), z.w.cell? ⟨Pb, 0, none⟩ = some (.pointer (some ⟨T, 0, none⟩)) := fun z => (z.h.cell (p := ⟨Pb, 0, none⟩) hPB.lt hPT).trans (hPB.cell 0)
  have htl : h.tx.length = s.ts.length := by rw [← k.r.tx, List.length_map]
  have hcall := fun (m : Nat) => delT4_any (w := W.drewN m) (fun x => pt x.1) z (kW.upd ((Upd.refl [] W).drewN m)).r.t htl (by omega) (fun W2 u x _ => hp W2 ((hu0.more (by simp)).next (((Upd.refl _ W).drewN m).next u)) x)
  have hmt : (h.tx.filter (fun x => !pt x.1)).map (·.1) = s.ts.filter (fun t => !pt t) := by
    rw [← k.r.tx, List.filter_map]
    rfl
  have hlt : (h.tx.filter (fun x => !pt x.1)).length = (s.ts.filter (fun t => !pt t)).length := by rw [← hmt, List.length_map]
  rw [hlt, ← hTB] at hcall
  have HCALL := Lib.hid hcall
  have HKW := Lib.hid kW
  have HU0 := Lib.hid hu0
  have HB := Lib.hid (And.intro hB (Nat.le_trans hB hu0.size))
  have HTB := Lib.hid hTB
  have HPB := Lib.hid hPB
  have HTT := Lib.hid hTT
  have HMT := Lib.hid hmt
  have HUP := Lib.hid hu
  have HTL := Lib.hid (And.intro ht hbl)
  obtain ⟨n2, hn2⟩ : ∃ n2, n2 = s.ts.length := ⟨_, rfl⟩
  rw [← hn2] at y5 HCALL
  obtain ⟨m2, hm2⟩ : ∃ m2, m2 = (s.ts.filter (fun t => !pt t)).length := ⟨_, rfl⟩
  rw [← hm2] at HCALL
  have HM2 := Lib.hid hm2
  have HN2 := Lib.hid hn2
  clear z0 z1 z2 z3 z4 z5 z6 k hu0 kW hTB hTT hPT hPB htl hcall hmt hlt hp hu ht hbl hB hn2 hm2
  go_enter Try.func53, Try.ntmps53
  go_upto_region 1 with fail
  rw [← hW, ← hPb]
  clear hW hPb
  refine wp_held_tail (Upd TB W) ((Upd.refl _ _).drewN 1) [0, 1, 2, 3, 4, 5] [6, 7, 8, 9] (by kernel_rfl) (by kernel_rfl) (fun _ _ _ _ h => h) ?_
  intro hne
  simp only [pick3, List.map_cons, List.map_nil, List.getElem?_cons_zero, List.getElem?_cons_succ, Option.getD_some]
  repeat (go_big_quiet_step (fail))
  refine wpQuiet_nil ?_
  clear y5 yp
  refine wpHeld_step rfl fun K hK => ?_
  go_simp
  refine (HCALL.out 1).mono ?_
  rintro e w4 ⟨rfl, ho, hu4⟩
  have HU4 := Lib.hid (show Upd TB W w4 from ((Upd.refl TB W).drewN 1).next hu4)
  refine hK.out _ _ (.inr ⟨⟨w4, HU4.out⟩, rfl⟩) ?_
  clear hK K HCALL
  have hput := HKW.out.putT (by rw [← HTB.out]; exact HU4.out) (ts' := s.ts.filter (fun t => !pt t)) (tx' := h.tx.filter (fun x => !pt x.1)) (A' := h.tA) (c' := h.tc) HMT.out (by rw [← HM2.out]; exact ho) (fun x hx => .inl (List.mem_filter.1 hx).1)
  rw [← HM2.out] at hput
  have hfT := (HKW.out.box.upd HU4.out HTT.out).frozen 5
  have hcT : w4.cell? ⟨T, 5, none⟩ = some (.slice h.tA n2 h.tc) := by have := (HKW.out.box.upd HU4.out HTT.out).cell 5; rw [HN2.out]; exact this
  have HPUT := Lib.hid hput
  clear ho hu4 hput
  refine wpHeld_step rfl fun K hK => ?_
  go_simp
  refine hK.out _ _ (.inr ⟨⟨w4, HU4.out⟩, rfl⟩) ?_
  clear hK K
  refine wpHeld_step rfl fun K hK => ?_
  go_simp
  refine hK.out _ _ (.inr ⟨⟨w4, HU4.out⟩, rfl⟩) ?_
  clear hK K
  refine wpHeld_last ?_
  obtain ⟨w5, hw5⟩ : ∃ w5, w5 = w4.setCell ⟨T, 5, none⟩ (.slice h.tA m2 h.tc) := ⟨_, rfl⟩
  rw [← hw5] at HPUT
  have HB5 : Hid (Below B w w5) := Lib.hid ((HU0.out.below HB.out.1 (by simp)).trans (below_of HPUT.out.2 HKW.out.BT HB.out.2 (fun s hs => (own_in HKW.out.r.t s hs).2)))
  have HP5 : Hid (Blk w5 Pb 85 #[.pointer (some ⟨T, 0, none⟩)]) := Lib.hid (HPB.out.upd HPUT.out.2 (by
    intro hm
    rcases List.mem_cons.1 hm with e | hm
    · exact (HPB.out.ne HKW.out.box (by decide)) e
    · exact own_box HKW.out.r.t HPB.out (by decide) (own_in HKW.out.r.t Pb hm).1))
  obtain ⟨ts', hts'⟩ : ∃ ts', ts' = s.ts.filter (fun t => !pt t) := ⟨_, rfl⟩
  have hk5 := HPUT.out.1
  rw [← hts'] at hk5
  have hut : UpT ts' := by rw [hts']; exact List.Pairwise.sublist List.filter_sublist HUP.out
  have htl : ts'.length ≤ 1000 := by rw [hts']; exact Nat.le_trans (List.length_filter_le _ _) HTL.out.1
  obtain ⟨SB, hSB⟩ : ∃ SB, SB = h.bA.toList.map (·.block) := ⟨_, rfl⟩
  have hTS : T ∉ SB := fun hm => own_box hk5.r.b hk5.box (by decide) (own_in hk5.r.b T (by rw [← hSB]; exact hm)).1
  have hPS : Pb ∉ SB := fun hm => own_box hk5.r.b HP5.out (by decide) (own_in hk5.r.b Pb (by rw [← hSB]; exact hm)).1
  obtain ⟨z0, z1, z2, z3, z4, z5, z6⟩ := box_cells hk5.box
  have hTl5 := hk5.box.lt
  have y6 : ∀ z : Cls (Upd SB w5), z.w.cell? ⟨T, 6, none⟩ = _ := fun z => (z.h.cell (p := ⟨T, 6, none⟩) hTl5 hTS).trans z6
  have yp : ∀ z : Cls (Upd SB w5), z.w.cell? ⟨Pb, 0, none⟩ = some (.pointer (some ⟨T, 0, none⟩)) := fun z => (z.h.cell (p := ⟨Pb, 0, none⟩) HP5.out.lt hPS).trans (HP5.out.cell 0)
  have hdr : ∀ (W2 : World), Upd SB w5 W2 → ∀ x : Sb, Calls Try.prog 81 #[.agg (encB x).toArray, .pointer (some ⟨Pb, 0, none⟩)] W2 fun e W' => e = .returned (.bool (!has (cT x.track) ts')) ∧ Upd [] W2 W' := fun W2 u x =>
    drop1_any (s := { s with ts := ts' }) ((u.cell (p := ⟨Pb, 0, none⟩) HP5.out.lt hPS).trans (HP5.out.cell 0)) (hk5.box.upd u hTS) (RwIn.of_own (ownsRow_upd hk5.r.t u (fun s hs => own_apart hk5.r.b hk5.r.t (by decide) (own_in hk5.r.b s (by rw [← hSB]; exact hs)).1)) |>.more (Nat.zero_le _)) hk5.r.tx (by dsimp only; omega) hut x
  have hcall2 := fun (m : Nat) => delS3_any (w := w5.drewN m) (fun x => !has (cT x.track) ts') (some ⟨Pb, 0, none⟩) (hk5.upd ((Upd.refl [] w5).drewN m)).r.b rfl (by dsimp only; have := HTL.out.2; omega) (fun W2 u x _ => hdr W2 (((Upd.refl SB w5).drewN m).next (by rw [hSB]; exact u)) x)
  simp only [Bool.not_not] at hcall2
  obtain ⟨bs', hbs'⟩ : ∃ bs', bs' = s.bs.filter (fun x => has (cT x.track) ts') := ⟨_, rfl⟩
  try dsimp only at hcall2
  rw [← hSB, ← hbs'] at hcall2
  have HFD : Hid (dropM s pt = { { s with ts := ts' } with bs := bs' }) := Lib.hid (by unfold dropM; rw [hbs', hts'])
  have HCALL2 := Lib.hid hcall2
  have HK5 := Lib.hid hk5
  have HSB := Lib.hid hSB
  have HTS := Lib.hid hTS
  obtain ⟨n3, hn3⟩ : ∃ n3, n3 = s.bs.length := ⟨_, rfl⟩
  try dsimp only at y6
  rw [← hn3] at y6 HCALL2
  have HN3 := Lib.hid hn3
  go_upto_region 2 with fail
  rw [← hw5]
  clear hw5 hfT hcT HU4 HM2 HN2 HMT HKW HPUT hk5 hut htl hSB hTS hPS z0 z1 z2 z3 z4 z5 z6 hdr hcall2 hbs' hts' hn3
  refine wp_held_tail (Upd SB w5) ((Upd.refl _ _).drewN 1) [0, 1, 2, 3, 4, 5] [6, 7, 8, 9] (by kernel_rfl) (by kernel_rfl) (fun _ _ _ _ h => h) ?_
  intro hne
  simp only [pick3, List.map_cons, List.map_nil, List.getElem?_cons_zero, List.getElem?_cons_succ, Option.getD_some]
  repeat (go_big_quiet_step (fail))
  refine wpQuiet_nil ?_
  clear y6 yp
  refine wpHeld_step rfl fun K hK => ?_
  go_simp
  refine (HCALL2.out 1).mono ?_
  rintro e w6 ⟨rfl, ho, hu6⟩
  have HU6 := Lib.hid (show Upd SB w5 w6 from ((Upd.refl SB w5).drewN 1).next hu6)
  refine hK.out _ _ (.inr ⟨⟨w6, HU6.out⟩, rfl⟩) ?_
  clear hK K HCALL2
  have hput := HK5.out.putB (by dsimp only; rw [← HSB.out]; exact HU6.out) (bs' := bs') (A' := h.bA) (c' := h.bc) ho
  obtain ⟨m3, hm3⟩ : ∃ m3, m3 = bs'.length := ⟨_, rfl⟩
  rw [← hm3] at hput
  rw [← hm3]
  have hfT := (HK5.out.box.upd HU6.out HTS.out).frozen 6
  have hcT : w6.cell? ⟨T, 6, none⟩ = some (.slice h.bA n3 h.bc) := by have := (HK5.out.box.upd HU6.out HTS.out).cell 6; rw [HN3.out]; exact this
  have HPUT := Lib.hid hput
  clear ho hu6 hput hm3
  refine wpHeld_step rfl fun K hK => ?_
  go_simp
  refine hK.out _ _ (.inr ⟨⟨w6, HU6.out⟩, rfl⟩) ?_
  clear hK K
  refine wpHeld_step rfl fun K hK => ?_
  go_simp
  refine hK.out _ _ (.inr ⟨⟨w6, HU6.out⟩, rfl⟩) ?_
  clear hK K
  refine wpHeld_last ?_
  obtain ⟨w7, hw7⟩ : ∃ w7, w7 = w6.setCell ⟨T, 6, none⟩ (.slice h.bA m3 h.bc) := ⟨_, rfl⟩
  rw [← hw7] at HPUT
  have HFIN : Hid (Below B w w7) := Lib.hid (HB5.out.trans (below_of HPUT.out.2 HK5.out.BT (Nat.le_trans HB.out.1 HB5.out.size) (fun s hs => (own_in HK5.out.r.b s hs).2)))
  have HTR : Hid (∃ h', TIn w7 B T (dropM s pt) h') := Lib.hid ⟨_, by rw [HFD.out]; exact HPUT.out.1⟩
  go_wp2
  rw [← hw7]
  clear hw7
  exact bodyPost_end (v := .tuple #[]) (by simp [results, Try.results53, go_sem]) rfl ⟨rfl, HTR.out, HFIN.out⟩
end Go.Proofs.Ytjcbaelefacolaa
/- The layer delta: own, room, Mute, Unmute, Unpublish. Conditions: what always holds of a state; the state in a box. -/
namespace Go.Proofs.Ytjcbaelefacolaa
open Go Go.RowKit
set_option maxHeartbeats 400000

set_option maxRecDepth 100000 in
theorem room_any {w : World} {B T : Nat} {s : St} {h : SHd} (k : TIn w B T s h) (hi : Inv s) (who : Int) (hh : has (cP who) s.ps = true) :
    Calls Try.prog 61 #[.pointer (some ⟨T, 0, none⟩), .int .i64 who] w fun e w' => e = .returned (.int .i64 (perAt s who).room) ∧ Upd [] w w' := by
  have hnp : s.ps.length ≤ 16 := by have := hi.np; have := hi.cp; omega
  have HP := Lib.hid (person_any (w := w) (s := s) (h := h) k.r.st.p (by omega) hi.up who)
  obtain ⟨hx, _, _⟩ := per_at hi hh
  obtain ⟨x, hxe⟩ : ∃ x, x = perAt s who := ⟨_, rfl⟩
  rw [← hxe] at hx ⊢
  obtain ⟨lo, hlo⟩ : ∃ lo, lo = low (cP who) s.ps := ⟨_, rfl⟩
  rw [← hlo] at HP hx
  rw [hh] at HP
  have hlon := (List.getElem?_eq_some_iff.1 hx).1
  obtain ⟨z0, z1, z2, z3, z4, z5, z6⟩ := box_cells k.box
  obtain ⟨b, off, hbe, _, hb, hcc⟩ := (CellsIn.of_own k.r.p).2 (by omega)
  have hc := hcc (lo * 3 + 1) _ (flat_get encP_len s.ps lo 1 x hx (by omega))
  have HBX := Lib.hid k.box
  obtain ⟨pA, pc, tx, tA, tc, bA, bc⟩ := h
  dsimp only at hbe z4 z5 z6
  subst hbe
  unfold scells at HP
  dsimp only at HP
  obtain ⟨n, hn⟩ : ∃ n, n = s.ps.length := ⟨_, rfl⟩
  obtain ⟨n2, hn2⟩ : ∃ n2, n2 = s.ts.length := ⟨_, rfl⟩
  obtain ⟨n3, hn3⟩ : ∃ n3, n3 = s.bs.length := ⟨_, rfl⟩
  rw [← hn, ← hn2, ← hn3] at HP
  rw [← hn] at z4 hlon hnp
  rw [← hn2] at z5
  rw [← hn3] at z6
  have HN := Lib.hid hn
  have HC := Lib.hid (fun (w1 : World) (u : Upd [] w w1) => (show w1.cell? ⟨b, off + (lo * 3 + 1), none⟩ = some (.int .i64 x.room) from (u.cell (p := ⟨b, off + (lo * 3 + 1), none⟩) hb (by simp)).trans hc))
  have hloi : (lo : Int) < (n : Int) := by omega
  clear hx hxe hlo hcc hc hn hn2 hn3 hi k hh hb
  go_enter Try.func61, Try.ntmps61
  go_wp2_with fail
  refine HP.out.mono ?_
  rintro e w1 ⟨rfl, hu⟩
  have y4 : w1.cell? ⟨T, 4, none⟩ = some (.slice (some ⟨b, off, none⟩) n pc) := by have := (HBX.out.upd hu (by simp)).cell 4; rw [HN.out]; exact this
  have x1 := HC.out w1 hu
  rw [← Nat.add_assoc] at x1
  have HU := Lib.hid hu
  clear hu HP z0 z1 z2 z3 z4 z5 z6
  go_wp2
  go_ret
  exact ⟨rfl, HU.out⟩
set_option maxRecDepth 100000 in
theorem mute_any {w : World} {B T : Nat} {s : St} {h : SHd} {q : Rq} {qh : SH} (k : TIn w B T s h) (hi : Inv s) (hB : B ≤ w.heap.size) :
    Calls Try.prog 29 #[.pointer (some ⟨T, 0, none⟩), .agg (qcells q qh).toArray] w fun e w' => e = .returned (.int .i64 (mutesM s q true).2) ∧ ((mutesM s q true).2 = 0 → ∃ h', TIn w' B T (mutesM s q true).1 h') ∧ Below B w w' := by
  have HM := Lib.hid (fun (W : World) (u : Upd [] w W) => mutes_any (m := true) (q := q) (qh := qh) (k.upd u) hi (Nat.le_trans hB u.size))
  obtain ⟨r, hr⟩ : ∃ r, r = mutesM s q true := ⟨_, rfl⟩
  rw [← hr] at HM ⊢
  clear hr
  obtain ⟨kd, who, room, rights, track, ss, layer, tid⟩ := q
  obtain ⟨qA, qc⟩ := qh
  unfold qcells at HM ⊢
  dsimp only at HM ⊢
  obtain ⟨ql, hql⟩ : ∃ ql, ql = ss.length := ⟨_, rfl⟩
  rw [← hql] at HM ⊢
  have HB := Lib.hid hB
  clear hql k hi hB
  go_enter Try.func29, Try.ntmps29
  go_wp2_with fail
  refine (HM.out _ ((Upd.refl [] w).alloc _)).mono ?_
  rintro e w1 ⟨rfl, ht, hb⟩
  have HF := Lib.hid (And.intro ht ((((Upd.refl [] w).alloc (.cells #[.int .i64 kd, .int .i64 who, .int .i64 room, .int .i64 rights, .int .i64 track, .slice qA ql qc, .int .i64 layer, .int .i64 tid] 45)).below HB.out (by simp)).trans hb))
  clear ht hb HM
  go_wp2
  go_ret
  exact ⟨rfl, HF.out.1, HF.out.2⟩
set_option maxRecDepth 100000 in
theorem unmute_any {w : World} {B T : Nat} {s : St} {h : SHd} {q : Rq} {qh : SH} (k : TIn w B T s h) (hi : Inv s) (hB : B ≤ w.heap.size) :
    Calls Try.prog 30 #[.pointer (some ⟨T, 0, none⟩), .agg (qcells q qh).toArray] w fun e w' => e = .returned (.int .i64 (mutesM s q false).2) ∧ ((mutesM s q false).2 = 0 → ∃ h', TIn w' B T (mutesM s q false).1 h') ∧ Below B w w' := by
  have HM := Lib.hid (fun (W : World) (u : Upd [] w W) => mutes_any (m := false) (q := q) (qh := qh) (k.upd u) hi (Nat.le_trans hB u.size))
  obtain ⟨r, hr⟩ : ∃ r, r = mutesM s q false := ⟨_, rfl⟩
  rw [← hr] at HM ⊢
  clear hr
  obtain ⟨kd, who, room, rights, track, ss, layer, tid⟩ := q
  obtain ⟨qA, qc⟩ := qh
  unfold qcells at HM ⊢
  dsimp only at HM ⊢
  obtain ⟨ql, hql⟩ : ∃ ql, ql = ss.length := ⟨_, rfl⟩
  rw [← hql] at HM ⊢
  have HB := Lib.hid hB
  clear hql k hi hB
  go_enter Try.func30, Try.ntmps30
  go_wp2_with fail
  refine (HM.out _ ((Upd.refl [] w).alloc _)).mono ?_
  rintro e w1 ⟨rfl, ht, hb⟩
  have HF := Lib.hid (And.intro ht ((((Upd.refl [] w).alloc (.cells #[.int .i64 kd, .int .i64 who, .int .i64 room, .int .i64 rights, .int .i64 track, .slice qA ql qc, .int .i64 layer, .int .i64 tid] 45)).below HB.out (by simp)).trans hb))
  clear ht hb HM
  go_wp2
  go_ret
  exact ⟨rfl, HF.out.1, HF.out.2⟩
end Go.Proofs.Ytjcbaelefacolaa
/- The layer delta: a track of one's own; Unpublish. Conditions: what always holds of a state; the state in a box. -/
namespace Go.Proofs.Ytjcbaelefacolaa
open Go Go.RowKit
set_option maxHeartbeats 400000

set_option maxRecDepth 100000 in
set_option maxHeartbeats 2000000 in
theorem own_any {w : World} {B T : Nat} {s : St} {h : SHd} {q : Rq} {qh : SH} (k : TIn w B T s h) (hi : Inv s) :
    Calls Try.prog 59 #[.pointer (some ⟨T, 0, none⟩), .agg (qcells q qh).toArray] w fun e w' =>
      (∃ v, e = .returned (.tuple #[v, .int .i64 (ownM s q)]) ∧ (ownM s q = 0 → ∃ g, h.tA = some ⟨g, 0, none⟩ ∧ v = .pointer (some ⟨g, low (cT q.track) s.ts * 4, none⟩))) ∧ Upd [] w w' := by
  have hnt : s.ts.length ≤ 16 := by have := hi.nt; have := hi.ct; omega
  have HP := Lib.hid (fun (W : World) (u : Upd [] w W) => track_any (w := W) (s := s) (h := h) (k.upd u).r.st.t (k.upd u).r.tx (by omega) hi.ut q.track)
  obtain ⟨r, hr⟩ : ∃ r, r = ownM s q := ⟨_, rfl⟩
  rw [← hr]
  have HR := Lib.hid hr
  clear hr
  obtain ⟨kd, who, room, rights, track, ss, layer, tid⟩ := q
  obtain ⟨qA, qc⟩ := qh
  unfold qcells
  dsimp only at HP ⊢
  obtain ⟨ql, hql⟩ : ∃ ql, ql = ss.length := ⟨_, rfl⟩
  rw [← hql]
  obtain ⟨W, hW⟩ : ∃ W, W = w.alloc (.cells #[.int .i64 kd, .int .i64 who, .int .i64 room, .int .i64 rights, .int .i64 track, .slice qA ql qc, .int .i64 layer, .int .i64 tid] 45) := ⟨_, rfl⟩
  obtain ⟨Z, hZ⟩ : ∃ Z, Z = w.heap.size := ⟨_, rfl⟩
  have hZB : Blk W Z 45 #[.int .i64 kd, .int .i64 who, .int .i64 room, .int .i64 rights, .int .i64 track, .slice qA ql qc, .int .i64 layer, .int .i64 tid] := by rw [hW, hZ]; exact Blk.new _ _ _
  have hu0 : Upd [] w W := by rw [hW]; exact (Upd.refl [] w).alloc _
  obtain ⟨lo, hlo⟩ : ∃ lo, lo = low (cT track) s.ts := ⟨_, rfl⟩
  obtain ⟨ha, hha⟩ : ∃ ha, ha = has (cT track) s.ts := ⟨_, rfl⟩
  rw [← hlo] at HP ⊢
  rw [← hha] at HP
  have HLO := Lib.hid hlo
  have HHA := Lib.hid hha
  have hkW := k.upd hu0
  have HK := Lib.hid hkW
  have HU0 := Lib.hid hu0
  have HI := Lib.hid hi
  have HZB := Lib.hid hZB
  obtain ⟨z0, z1, z2, z3, z4, z5, z6⟩ := box_cells hkW.box
  obtain ⟨n, hn⟩ : ∃ n, n = s.ps.length := ⟨_, rfl⟩
  obtain ⟨n2, hn2⟩ : ∃ n2, n2 = s.ts.length := ⟨_, rfl⟩
  obtain ⟨n3, hn3⟩ : ∃ n3, n3 = s.bs.length := ⟨_, rfl⟩
  unfold scells at HP
  rw [← hn, ← hn2, ← hn3] at HP
  rw [← hn] at z4
  rw [← hn2] at z5 hnt
  rw [← hn3] at z6
  have HN := Lib.hid (And.intro hn (And.intro hn2 hn3))
  have hTl := hkW.box.lt
  have hZl := hZB.lt
  have y0 : ∀ z : Cls (Upd [] W), z.w.cell? ⟨T, 0, none⟩ = _ := fun z => (z.h.cell (p := ⟨T, 0, none⟩) hTl (by simp)).trans z0
  have y1 : ∀ z : Cls (Upd [] W), z.w.cell? ⟨T, 1, none⟩ = _ := fun z => (z.h.cell (p := ⟨T, 1, none⟩) hTl (by simp)).trans z1
  have y2 : ∀ z : Cls (Upd [] W), z.w.cell? ⟨T, 2, none⟩ = _ := fun z => (z.h.cell (p := ⟨T, 2, none⟩) hTl (by simp)).trans z2
  have y3 : ∀ z : Cls (Upd [] W), z.w.cell? ⟨T, 3, none⟩ = _ := fun z => (z.h.cell (p := ⟨T, 3, none⟩) hTl (by simp)).trans z3
  have y4 : ∀ z : Cls (Upd [] W), z.w.cell? ⟨T, 4, none⟩ = _ := fun z => (z.h.cell (p := ⟨T, 4, none⟩) hTl (by simp)).trans z4
  have y5 : ∀ z : Cls (Upd [] W), z.w.cell? ⟨T, 5, none⟩ = _ := fun z => (z.h.cell (p := ⟨T, 5, none⟩) hTl (by simp)).trans z5
  have y6 : ∀ z : Cls (Upd [] W), z.w.cell? ⟨T, 6, none⟩ = _ := fun z => (z.h.cell (p := ⟨T, 6, none⟩) hTl (by simp)).trans z6
  have q4 : ∀ z : Cls (Upd [] W), z.w.cell? ⟨Z, 4, none⟩ = some (.int .i64 track) := fun z => (z.h.cell (p := ⟨Z, 4, none⟩) hZl (by simp)).trans (hZB.cell 4)
  have HPC := Lib.hid (fun (z : Cls (Upd [] W)) => quiet_cls (C := Upd [] W) (x := z) ((HP.out z.w (hu0.next z.h)).mono fun e w' h => ⟨h.1, z.h.next h.2⟩))
  clear hlo hha hkW hn hn2 hn3 z0 z1 z2 z3 z4 z5 z6 hu0 hi k hZB HP hql
  go_enter Try.func59, Try.ntmps59
  go_upto_region 1 with fail
  rw [← hW, ← hZ]
  clear hW hZ
  refine wp_class_tail (Upd [] W) ((Upd.refl _ _).drewN 1) 10 (by kernel_rfl) (by kernel_rfl) (fun _ _ _ _ h => h) ?_
  intro hne
  simp only [List.take_succ_cons, List.take_zero, List.drop_succ_cons, List.drop_zero]
  repeat (go_big_quiet_step ((go_at_call 55; with_reducible exact HPC.out _)))
  refine wpQuiet_nil ?_
  rintro _ ⟨xe, rfl⟩
  have hux := xe.h
  obtain ⟨w1, hw1⟩ : ∃ W2, W2 = xe.w := ⟨_, rfl⟩
  rw [← hw1] at hux ⊢
  have HU1 := Lib.hid (HU0.out.next hux)
  have HK1 := Lib.hid (HK.out.upd hux)
  have HZ1 := Lib.hid (HZB.out.upd hux (by simp))
  clear hw1 hux y0 y1 y2 y3 y4 y5 y6 q4 HPC HK HZB
  cases ha with
  | false =>
    have HX : Hid (r = 21) := Lib.hid (by
      rw [HR.out]
      unfold ownM
      dsimp only
      rw [if_pos HHA.out.symm])
    go_wp2
    exact bodyPost_res (v := .tuple #[.pointer none, .int .i64 21]) (by simp [results, Try.results59, go_sem]) rfl ⟨⟨.pointer none, by rw [HX.out], fun h0 => absurd h0 (by rw [HX.out]; decide)⟩, HU1.out⟩
  | true =>
  obtain ⟨hx, hxid, _⟩ := trk_at HI.out HHA.out.symm
  rw [← HLO.out] at hx
  obtain ⟨t, ht⟩ : ∃ t, t = trkAt s track := ⟨_, rfl⟩
  rw [← ht] at hx
  have HT := Lib.hid ht
  obtain ⟨y, hy, hyt⟩ : ∃ y, h.tx[lo]? = some y ∧ y.1 = t := by
    have h1 : (h.tx.map (·.1))[lo]? = some t := by rw [HK1.out.r.tx]; exact hx
    rw [List.getElem?_map] at h1
    cases hq : h.tx[lo]? with
    | none => rw [hq] at h1; cases h1
    | some y => rw [hq] at h1; exact ⟨y, rfl, Option.some.inj h1⟩
  have hlon : lo < n2 := by rw [HN.out.2.1]; exact (List.getElem?_eq_some_iff.1 hx).1
  obtain ⟨A0, c0, hve, hnc, hA, _⟩ := own_form HK1.out.r.t
  injection hve with e1 _ e3
  obtain ⟨g, hg, hg1, hg2⟩ := hA (by rw [← HN.out.2.1]; omega)
  rw [← e1] at hg
  have hrow := HK1.out.r.t
  rw [hg] at hrow
  have hcell := fun (k : Nat) (u : Value) (hu : (h.tx.flatMap encT)[k]? = some u) => (by
    have := hrow.cells (g := g) rfl k u hu
    by_cases hk : k = 0
    · subst hk; exact this
    · simpa [Addr.add, hk] using this : w1.cell? ⟨g, k, none⟩ = some u)
  have x1 : w1.cell? ⟨g, lo * 4 + 1, none⟩ = some (.int .i64 t.owner) := by
    have := hcell (lo * 4 + 1) _ (flat_get encT_len h.tx lo 1 y hy (by omega))
    rw [← hyt]; exact this
  obtain ⟨z0, z1, z2, z3, z4, z5, z6⟩ := box_cells HK1.out.box
  rw [← HN.out.2.1, hg] at z5
  have hTl := HK1.out.box.lt
  have y5 : ∀ z : Cls (Upd [] w1), z.w.cell? ⟨T, 5, none⟩ = _ := fun z => (z.h.cell (p := ⟨T, 5, none⟩) hTl (by simp)).trans z5
  have yg : ∀ z : Cls (Upd [] w1), z.w.cell? ⟨g, lo * 4 + 1, none⟩ = _ := fun z => (z.h.cell (p := ⟨g, lo * 4 + 1, none⟩) hg2 (by simp)).trans x1
  have q1 : ∀ z : Cls (Upd [] w1), z.w.cell? ⟨Z, 1, none⟩ = some (.int .i64 who) := fun z => (z.h.cell (p := ⟨Z, 1, none⟩) HZ1.out.lt (by simp)).trans (HZ1.out.cell 1)
  have hloi : (lo : Int) < (n2 : Int) := by omega
  have HG := Lib.hid hg
  have HC5 := Lib.hid z5
  clear hx hxid ht hy hyt hA hrow hcell x1 z0 z1 z2 z3 z4 z5 z6 hg e1 e3 hnc hg1
  go_wp2
  refine wp_class_tail (Upd [] w1) ((Upd.refl _ _).drewN 1) 11 (by kernel_rfl) (by kernel_rfl) (fun _ _ _ _ h => h) ?_
  intro hne
  simp only [List.take_succ_cons, List.take_zero, List.drop_succ_cons, List.drop_zero]
  obtain ⟨d, hd⟩ : ∃ d, d = (t.owner != who) := ⟨_, rfl⟩
  have hq : (t.owner != who) = d := hd.symm
  have HD := Lib.hid hd
  clear hd
  repeat (go_big_quiet_step (fail))
  refine wpQuiet_nil ?_
  rintro _ ⟨xe, rfl⟩
  have hux := xe.h
  obtain ⟨w2, hw2⟩ : ∃ W2, W2 = xe.w := ⟨_, rfl⟩
  rw [← hw2] at hux ⊢
  have HU2 := Lib.hid (HU1.out.next hux)
  have c5 := (hux.cell (p := ⟨T, 5, none⟩) hTl (by simp)).trans HC5.out
  clear hw2 hux y5 yg q1 hq
  cases d with
  | true =>
    have HX : Hid (r = 24) := Lib.hid (by
      rw [HR.out]
      unfold ownM
      dsimp only
      rw [if_neg (by rw [← HHA.out]; decide), ← HT.out, if_pos (by have := HD.out.symm; simpa using this)])
    go_wp2
    exact bodyPost_res (v := .tuple #[.pointer none, .int .i64 24]) (by simp [results, Try.results59, go_sem]) rfl ⟨⟨.pointer none, by rw [HX.out], fun h0 => absurd h0 (by rw [HX.out]; decide)⟩, HU2.out⟩
  | false =>
    have HX : Hid (r = 0) := Lib.hid (by
      rw [HR.out]
      unfold ownM
      dsimp only
      rw [if_neg (by rw [← HHA.out]; decide), ← HT.out, if_neg (by have := HD.out.symm; simpa using this)])
    go_wp2
    exact bodyPost_res (v := .tuple #[.pointer (some ⟨g, lo * 4, none⟩), .int .i64 0]) (by simp [results, Try.results59, go_sem]) rfl ⟨⟨.pointer (some ⟨g, lo * 4, none⟩), by rw [HX.out], fun _ => ⟨g, HG.out, rfl⟩⟩, HU2.out⟩
set_option maxRecDepth 100000 in
set_option maxHeartbeats 1000000 in
theorem unpub_any {w : World} {B T : Nat} {s : St} {h : SHd} {q : Rq} {qh : SH} (k : TIn w B T s h) (hi : Inv s) (hB : B ≤ w.heap.size) :
    Calls Try.prog 25 #[.pointer (some ⟨T, 0, none⟩), .agg (qcells q qh).toArray] w fun e w' => e = .returned (.int .i64 (unpublishM s q).2) ∧ ((unpublishM s q).2 = 0 → ∃ h', TIn w' B T (unpublishM s q).1 h') ∧ Below B w w' := by
  have hnt : s.ts.length ≤ 16 := by have := hi.nt; have := hi.ct; omega
  have hnb : s.bs.length ≤ 64 := by have := hi.nb; have := hi.cl; omega
  have HO := Lib.hid (fun (W : World) (u : Upd [] w W) => own_any (q := q) (qh := qh) (k.upd u) hi)
  obtain ⟨r, hr⟩ : ∃ r, r = unpublishM s q := ⟨_, rfl⟩
  obtain ⟨e0, he0⟩ : ∃ e0, e0 = ownM s q := ⟨_, rfl⟩
  rw [← hr]
  rw [← he0] at HO
  have HR := Lib.hid hr
  have HE := Lib.hid he0
  clear hr he0
  obtain ⟨kd, who, room, rights, track, ss, layer, tid⟩ := q
  obtain ⟨qA, qc⟩ := qh
  unfold qcells at HO ⊢
  dsimp only at HO ⊢
  obtain ⟨ql, hql⟩ : ∃ ql, ql = ss.length := ⟨_, rfl⟩
  rw [← hql] at HO ⊢
  obtain ⟨W, hW⟩ : ∃ W, W = w.alloc (.cells #[.int .i64 kd, .int .i64 who, .int .i64 room, .int .i64 rights, .int .i64 track, .slice qA ql qc, .int .i64 layer, .int .i64 tid] 45) := ⟨_, rfl⟩
  obtain ⟨Z, hZ⟩ : ∃ Z, Z = w.heap.size := ⟨_, rfl⟩
  have hZB : Blk W Z 45 #[.int .i64 kd, .int .i64 who, .int .i64 room, .int .i64 rights, .int .i64 track, .slice qA ql qc, .int .i64 layer, .int .i64 tid] := by rw [hW, hZ]; exact Blk.new _ _ _
  have hu0 : Upd [] w W := by rw [hW]; exact (Upd.refl [] w).alloc _
  have HZB := Lib.hid hZB
  have HU0 := Lib.hid hu0
  have HK := Lib.hid (k.upd hu0)
  have HB := Lib.hid (And.intro hB (Nat.le_trans hB hu0.size))
  have HI := Lib.hid hi
  have t0 := hZB.cell 0
  have t1 := hZB.cell 1
  have t2 := hZB.cell 2
  have t3 := hZB.cell 3
  have t4 := hZB.cell 4
  have t5 := hZB.cell 5
  have t6 := hZB.cell 6
  have t7 := hZB.cell 7
  simp only [List.getElem?_toArray, List.getElem?_cons_zero, List.getElem?_cons_succ] at t0 t1 t2 t3 t4 t5 t6 t7
  clear hql hZB hu0 hi k hB
  go_enter Try.func25, Try.ntmps25
  go_upto_region 1 with fail
  rw [← hW, ← hZ]
  clear hW hZ
  go_wp2_with fail
  refine (HO.out W HU0.out).mono ?_
  rintro e w1 ⟨⟨v, rfl, _⟩, hu1⟩
  have HU1 := Lib.hid (HU0.out.next hu1)
  have HK1 := Lib.hid (HK.out.upd hu1)
  have HZ1 := Lib.hid (HZB.out.upd hu1 (by simp))
  have HB1 := Lib.hid (Nat.le_trans HB.out.2 hu1.size)
  clear hu1 HO HK HZB t0 t1 t2 t3 t4 t5 t6 t7
  by_cases hz : e0 = 0
  · subst hz
    have HX : Hid (r = (dropM s (fun t => decide (t.id = track)), 0)) := Lib.hid (by
      rw [HR.out]
      unfold unpublishM
      rw [if_neg (by rw [← HE.out]; decide)])
    have HD := Lib.hid (dropT4_any HK1.out HI.out.ut (by omega) (by omega) HB1.out (fun t => decide (t.id = track)) (some ⟨Z, 0, none⟩)
      (fun W2 u x => unpub1_any ((HZ1.out.upd u (fun hm => own_box HK1.out.r.t HZ1.out (by decide) (own_in HK1.out.r.t Z hm).1)).cell 4) x))
    go_wp2_with fail
    refine HD.out.mono ?_
    rintro e w2 ⟨rfl, ht, hb⟩
    have HF := Lib.hid (And.intro ht ((HU1.out.below HB.out.1 (by simp)).trans hb))
    clear ht hb HD
    go_wp2
    go_ret
    exact ⟨ret_int (by rw [HX.out]), fun _ => by rw [HX.out]; exact HF.out.1, HF.out.2⟩
  · have HX : Hid (r = (s, e0)) := Lib.hid (by
      rw [HR.out]
      unfold unpublishM
      rw [if_pos (by rw [← HE.out]; exact hz), ← HE.out])
    have hzb : (e0 == 0) = false := beq_eq_false_iff_ne.2 hz
    have HZN := Lib.hid hz
    clear hz
    go_wp2
    go_ret
    exact ⟨ret_int (by rw [HX.out]), fun h0 => absurd h0 (by rw [HX.out]; exact HZN.out), HU1.out.below HB.out.1 (by simp)⟩
end Go.Proofs.Ytjcbaelefacolaa
/- The layer delta: rows of SSRCs: is one there, may they be. Conditions: numbers of 32 bits; no more than 100000. -/
namespace Go.Proofs.Ytjcbaelefacolaa
open Go Go.RowKit
set_option maxHeartbeats 400000

theorem cells_take {w : World} {lo hi n i : Nat} {A : Option Addr} {xs : List Value} (h : CellsIn w lo hi 1 A n xs) (hi' : i ≤ n) : CellsIn w lo hi 1 A i (xs.take i) := by
  refine ⟨by rw [List.length_take, h.1]; omega, fun hp => ?_⟩
  obtain ⟨b, off, e, h1, h2, hc⟩ := h.2 (by omega)
  refine ⟨b, off, e, h1, h2, fun j u hu => hc j u ?_⟩
  rw [List.getElem?_take] at hu
  split at hu
  · exact hu
  · cases hu
set_option maxRecDepth 100000 in
theorem index_any {w : World} {A : Option Addr} {n c : Nat} {l : List Int} (h : CellsIn w 0 w.heap.size 1 A n (l.map (Value.int .u32))) (hl : n ≤ 100000) (x : Int) :
    Calls Try.prog 96 #[.slice A n c, .int .u32 x] w fun e w' => e = .returned (.int .i64 (idxM (fun y => decide (y = x)) l)) ∧ w = w' := by
  have hn : l.length = n := by have := h.1; rw [List.length_map] at this; omega
  have HC := Lib.hid h
  have HN := Lib.hid hn
  obtain ⟨r, hr⟩ : ∃ r, r = idxM (fun y => decide (y = x)) l := ⟨_, rfl⟩
  rw [← hr]
  have HR := Lib.hid hr
  clear h hn hr
  go_enter Try.func96, Try.ntmps96
  go_wp2
  go_loopg [8] n (fun gk x8 wr => (∃ k : Nat, k ≤ n ∧ n ≤ k + gk ∧ x8 = .int .i64 k ∧ (∀ y, y ∈ l.take k → (fun y => decide (y = x)) y = false)) ∧ w = wr)
  case atStart => exact ⟨⟨0, Nat.zero_le _, by omega, rfl, by simp⟩, rfl⟩
  case round =>
    obtain ⟨⟨k, hk, hgk, rfl, hall⟩, rfl⟩ := hrel
    by_cases hlt : k < n
    · have hlti : (k : Int) < (n : Int) := by omega
      have hw : IntKind.i64.wrap ((k : Int) + 1) = (k : Int) + 1 := IntWalk.i64_in _ (by omega)
      obtain ⟨y, hy⟩ : ∃ y, l[k]? = some y := ⟨_, List.getElem?_eq_getElem (by rw [HN.out]; exact hlt)⟩
      obtain ⟨b, off, rfl, _, hb, hcc⟩ := HC.out.2 (by omega)
      have c0 := hcc k (.int .u32 y) (by rw [List.getElem?_map, hy]; rfl)
      by_cases hxy : x = y
      · have HX : Hid (r = (k : Int)) := Lib.hid (by rw [HR.out]; exact idxM_at hy (by simp [hxy]) hall)
        have hq : (x == y) = true := by simpa using hxy
        clear hall hb hcc hy hxy
        go_wp2
        go_ret
        exact ⟨ret_int HX.out.symm, rfl⟩
      · have hq : (x == y) = false := beq_eq_false_iff_ne.2 hxy
        have HALL : Hid (∀ a, a ∈ l.take (k + 1) → (fun y => decide (y = x)) a = false) := Lib.hid (fun a ha => by
          rw [List.take_add_one, hy, List.mem_append] at ha
          rcases ha with ha | ha
          · exact hall a ha
          · simp at ha
            rw [ha]
            simpa using fun e => hxy e.symm)
        clear hall hb hcc hy
        go_wp2
        go_roundg (gk - 1)
        case measure => omega
        case rel => exact ⟨⟨k + 1, by omega, by omega, by go_num, HALL.out⟩, rfl⟩
    · obtain rfl : k = n := by omega
      have HX : Hid (r = -1) := Lib.hid (by
        rw [HR.out]
        refine idxM_no ?_
        rw [← HN.out, List.take_length] at hall
        exact hall)
      clear hall
      go_wp2
      go_ret
      exact ⟨ret_int HX.out.symm, rfl⟩
theorem contains_eq (l : List Int) (x : Int) : decide (0 ≤ idxM (fun y => decide (y = x)) l) = l.contains x := by
  rw [← Bool.coe_iff_coe, decide_eq_true_iff, idxM_any, List.any_eq_true, List.contains_iff_mem]
  constructor
  · rintro ⟨y, hy, e⟩
    have e' : y = x := by simpa using e
    rw [← e']; exact hy
  · intro h
    exact ⟨x, h, by simp⟩
theorem contains_any {w : World} {A : Option Addr} {n c : Nat} {l : List Int} (h : CellsIn w 0 w.heap.size 1 A n (l.map (Value.int .u32))) (hl : n ≤ 100000) (x : Int) :
    Calls Try.prog 84 #[.slice A n c, .int .u32 x] w fun e w' => e = .returned (.bool (l.contains x)) ∧ w = w' := by
  have HC := Lib.hid (index_any (c := c) h hl x)
  obtain ⟨r, hr⟩ : ∃ r, r = idxM (fun y => decide (y = x)) l := ⟨_, rfl⟩
  rw [← contains_eq]
  rw [← hr] at HC ⊢
  clear hr h
  go_enter Try.func84, Try.ntmps84
  go_wp2_with fail
  refine HC.out.mono ?_
  rintro e w1 ⟨rfl, rfl⟩
  go_wp2
  go_ret
  exact ⟨rfl, rfl⟩
theorem mayM_step {l : List Int} {i : Nat} {x : Int} (h : l[i]? = some x) : mayM (l.drop i) (l.take i) = (decide (1 ≤ x) && decide (x < 2147483648) && !(l.take i).contains x && mayM (l.drop (i + 1)) (l.take (i + 1))) := by
  have hi := (List.getElem?_eq_some_iff.1 h).1
  rw [List.drop_eq_getElem_cons hi, (List.getElem?_eq_some_iff.1 h).2, List.take_add_one, h]
  rfl
set_option maxRecDepth 100000 in
theorem may_any {w : World} {A : Option Addr} {n c : Nat} {l : List Int} (h : CellsIn w 0 w.heap.size 1 A n (l.map (Value.int .u32))) (hl : n ≤ 100000) (hnc : n ≤ c) (h0 : ∀ x, x ∈ l → 0 ≤ x) :
    Calls Try.prog 56 #[.slice A n c] w fun e w' => e = .returned (.bool (maySS l)) ∧ w = w' := by
  have hn : l.length = n := by have := h.1; rw [List.length_map] at this; omega
  have HI := Lib.hid (in_any w (n : Int) 1 3)
  have HC := Lib.hid h
  have HN := Lib.hid hn
  have H0 := Lib.hid h0
  obtain ⟨r, hr⟩ : ∃ r, r = maySS l := ⟨_, rfl⟩
  rw [← hr]
  have HR := Lib.hid hr
  clear h hn hr h0
  go_enter Try.func56, Try.ntmps56
  go_wp2_with fail
  refine HI.out.mono ?_
  rintro e w1 ⟨rfl, rfl⟩
  clear HI
  by_cases hb : 1 ≤ n ∧ n ≤ 3
  · have d1 : decide ((1 : Int) ≤ (n : Int)) = true := by simp; omega
    have d2 : decide ((n : Int) ≤ 3) = true := by simp; omega
    have HM : Hid (r = mayM l []) := Lib.hid (by rw [HR.out]; unfold maySS; rw [HN.out]; simp [hb.1, hb.2])
    go_wp2
    go_loopg [11] n (fun gk x11 wr => (∃ k : Nat, k ≤ n ∧ n ≤ k + gk ∧ x11 = .int .i64 k ∧ r = mayM (l.drop k) (l.take k)) ∧ w = wr)
    case atStart => exact ⟨⟨0, Nat.zero_le _, by omega, rfl, by rw [HM.out]; rfl⟩, rfl⟩
    case round =>
      obtain ⟨⟨k, hk, hgk, rfl, hm⟩, rfl⟩ := hrel
      by_cases hlt : k < n
      · have hlti : (k : Int) < (n : Int) := by omega
        have hw : IntKind.i64.wrap ((k : Int) + 1) = (k : Int) + 1 := IntWalk.i64_in _ (by omega)
        obtain ⟨x, hx⟩ : ∃ x, l[k]? = some x := ⟨_, List.getElem?_eq_getElem (by rw [HN.out]; exact hlt)⟩
        obtain ⟨b, off, rfl, _, hbw, hcc⟩ := HC.out.2 (by omega)
        have c0 := hcc k (.int .u32 x) (by rw [List.getElem?_map, hx]; rfl)
        have hx0 := H0.out x (List.mem_of_getElem? hx)
        rw [mayM_step hx] at hm
        have HMM := Lib.hid hm
        have HCC : Hid (∀ c', Calls Try.prog 84 #[.slice (some ⟨b, off, none⟩) k c', .int .u32 x] w fun e w' => e = .returned (.bool ((l.take k).contains x)) ∧ w = w') := Lib.hid (fun c' => contains_any (by
          have := cells_take HC.out (i := k) (by omega)
          rwa [← List.map_take] at this) (by omega) x)
        obtain ⟨q, hq⟩ : ∃ q, q = (l.take k).contains x := ⟨_, rfl⟩
        rw [← hq] at HCC HMM
        have hkc : (k : Int) ≤ (c : Int) := by omega
        clear hcc hbw hx hm hq
        by_cases hz : x = 0
        · subst hz
          have HZ : Hid (r = false) := Lib.hid (by rw [HMM.out]; simp)
          go_wp2
          go_ret
          exact ⟨by rw [HZ.out]; rfl, rfl⟩
        · have hzb : (x == 0) = false := beq_eq_false_iff_ne.2 hz
          by_cases hbig : (2147483648 : Int) ≤ x
          · have HZ : Hid (r = false) := Lib.hid (by rw [HMM.out]; simp; omega)
            have hd : decide ((2147483648 : Int) ≤ x) = true := by simpa using hbig
            go_wp2
            go_ret
            exact ⟨by rw [HZ.out]; rfl, rfl⟩
          · have hd : decide ((2147483648 : Int) ≤ x) = false := by simpa using hbig
            go_wp2_with fail
            refine (HCC.out _).mono ?_
            rintro e w1 ⟨rfl, rfl⟩
            clear HCC
            cases q with
            | true =>
              have HZ : Hid (r = false) := Lib.hid (by rw [HMM.out]; simp)
              go_wp2
              go_ret
              exact ⟨by rw [HZ.out]; rfl, rfl⟩
            | false =>
              have HZ : Hid (r = mayM (l.drop (k + 1)) (l.take (k + 1))) := Lib.hid (by
                rw [HMM.out]
                have e1 : decide (1 ≤ x) = true := by simp; omega
                have e2 : decide (x < 2147483648) = true := by simp; omega
                simp [e1, e2])
              go_wp2
              go_roundg (gk - 1)
              case measure => omega
              case rel => exact ⟨⟨k + 1, by omega, by omega, by go_num, HZ.out⟩, rfl⟩
      · obtain rfl : k = n := by omega
        have HZ : Hid (r = true) := Lib.hid (by rw [hm, ← HN.out, List.drop_length]; rfl)
        clear hm
        go_wp2
        go_ret
        exact ⟨by rw [HZ.out]; rfl, rfl⟩
  · have HZ : Hid (r = false) := Lib.hid (by rw [HR.out]; unfold maySS; rw [HN.out]; simp; omega)
    have hf : (decide ((1 : Int) ≤ (n : Int)) && decide ((n : Int) ≤ 3)) = false := by
      rw [Bool.eq_false_iff]
      intro h
      simp only [Bool.and_eq_true, decide_eq_true_eq] at h
      omega
    rw [hf]
    go_wp2
    go_ret
    exact ⟨by rw [HZ.out]; rfl, rfl⟩
end Go.Proofs.Ytjcbaelefacolaa
/- slices.IndexFunc at uint32, by the function value (louver/delta.State).taken$1$1: the first place. Conditions: what the function value answers; no more than 100000. -/
namespace Go.Proofs.Ytjcbaelefacolaa
open Go Go.RowKit
set_option maxHeartbeats 400000

set_option maxRecDepth 100000 in
theorem idxU6_any {w : World} {A : Option Addr} {n c : Nat} {R : List Int} (p : Int → Bool) (z : Option Addr) (h : CellsIn w 0 w.heap.size 1 A n (R.flatMap encU)) (hn : R.length = n) (hl : n ≤ 100000)
    (hp : ∀ W, Upd [] w W → ∀ x, x ∈ R → Calls Try.prog 88 #[.int .u32 x, .pointer z] W fun e W' => e = .returned (.bool (p x)) ∧ Upd [] W W') :
    Calls Try.prog 97 #[.slice A n c, .func (.func 88) #[] #[.pointer z]] w fun e w' => e = .returned (.int .i64 (idxM p R)) ∧ Upd [] w w' := by
  have HC := Lib.hid h
  have HN := Lib.hid hn
  have HP := Lib.hid hp
  obtain ⟨r, hr⟩ : ∃ r, r = idxM p R := ⟨_, rfl⟩
  rw [← hr]
  have HR := Lib.hid hr
  clear h hn hp hr
  go_enter Try.func97, Try.ntmps97
  go_wp2
  go_loopg [8] n (fun gk x8 wr => ∃ k : Nat, k ≤ n ∧ n ≤ k + gk ∧ x8 = .int .i64 k ∧ (∀ x, x ∈ R.take k → p x = false) ∧ Upd [] w wr)
  case atStart => exact ⟨0, Nat.zero_le _, by omega, rfl, by simp, Upd.refl _ _⟩
  case round =>
    obtain ⟨k, hk, hgk, rfl, hall, hu⟩ := hrel
    by_cases hlt : k < n
    · have hlti : (k : Int) < (n : Int) := by omega
      have hw : IntKind.i64.wrap ((k : Int) + 1) = (k : Int) + 1 := IntWalk.i64_in _ (by omega)
      obtain ⟨x, hx⟩ : ∃ x, R[k]? = some x := ⟨_, List.getElem?_eq_getElem (by rw [HN.out]; exact hlt)⟩
      obtain ⟨b, off, rfl, _, hb, hcc⟩ := HC.out.2 (by omega)
      have HCL := Lib.hid (HP.out wr hu x (List.mem_of_getElem? hx))
      obtain ⟨y, hy⟩ : ∃ y, y = p x := ⟨_, rfl⟩
      rw [← hy] at HCL
      have HX : Hid (y = true → r = (k : Int)) := Lib.hid (fun h => by
        rw [HR.out]
        exact idxM_at hx (by rw [← hy]; exact h) hall)
      have HALL : Hid (y = false → ∀ x, x ∈ R.take (k + 1) → p x = false) := Lib.hid (fun h a ha => by
        rw [List.take_add_one, hx, List.mem_append] at ha
        rcases ha with ha | ha
        · exact hall a ha
        · simp at ha
          rw [ha, ← hy]; exact h)
      have c0 := (hu.cell (p := ⟨b, off + (k * 1 + 0), none⟩) hb (by simp)).trans (hcc (k * 1 + 0) _ (flat_get encU_len R k 0 x hx (by omega)))
      simp only [encU, List.getElem?_cons_zero, Nat.mul_one, Nat.add_zero] at c0
      have HU := Lib.hid hu
      clear hall hu hx hb hcc hy
      go_wp2_with fail
      refine HCL.out.mono ?_
      rintro e w1 ⟨rfl, hu1⟩
      have HU1 := Lib.hid (HU.out.next hu1)
      clear hu1 HCL c0
      cases y with
      | true =>
        go_wp2
        go_ret
        exact ⟨ret_int (HX.out (by trivial)).symm, HU1.out⟩
      | false =>
        go_wp2
        go_roundg (gk - 1)
        case measure => omega
        case rel => exact ⟨k + 1, by omega, by omega, by go_num, HALL.out (by trivial), HU1.out⟩
    · obtain rfl : k = n := by omega
      have HU := Lib.hid hu
      have HX : Hid (r = -1) := Lib.hid (by
        rw [HR.out]
        refine idxM_no ?_
        rw [← HN.out, List.take_length] at hall
        exact hall)
      clear hall hu
      go_wp2
      go_ret
      exact ⟨ret_int HX.out.symm, HU.out⟩
end Go.Proofs.Ytjcbaelefacolaa
/- slices.IndexFunc at louver/delta.Track, by the function value (louver/delta.State).taken$1: the first place. Conditions: what the function value answers; no more than 100000. -/
namespace Go.Proofs.Ytjcbaelefacolaa
open Go Go.RowKit
set_option maxHeartbeats 400000

set_option maxRecDepth 100000 in
theorem idxT5_any {w : World} {A : Option Addr} {n c : Nat} {R : List (Trk × SH)} (p : (Trk × SH) → Bool) (z : Option Addr) (h : CellsIn w 0 w.heap.size 4 A n (R.flatMap encT)) (hn : R.length = n) (hl : n ≤ 100000)
    (hp : ∀ W, Upd [] w W → ∀ x, x ∈ R → Calls Try.prog 86 #[.agg (encT x).toArray, .pointer z] W fun e W' => e = .returned (.bool (p x)) ∧ Upd [] W W') :
    Calls Try.prog 95 #[.slice A n c, .func (.func 86) #[] #[.pointer z]] w fun e w' => e = .returned (.int .i64 (idxM p R)) ∧ Upd [] w w' := by
  have HC := Lib.hid h
  have HN := Lib.hid hn
  have HP := Lib.hid hp
  obtain ⟨r, hr⟩ : ∃ r, r = idxM p R := ⟨_, rfl⟩
  rw [← hr]
  have HR := Lib.hid hr
  clear h hn hp hr
  go_enter Try.func95, Try.ntmps95
  go_wp2
  go_loopg [8] n (fun gk x8 wr => ∃ k : Nat, k ≤ n ∧ n ≤ k + gk ∧ x8 = .int .i64 k ∧ (∀ x, x ∈ R.take k → p x = false) ∧ Upd [] w wr)
  case atStart => exact ⟨0, Nat.zero_le _, by omega, rfl, by simp, Upd.refl _ _⟩
  case round =>
    obtain ⟨k, hk, hgk, rfl, hall, hu⟩ := hrel
    by_cases hlt : k < n
    · have hlti : (k : Int) < (n : Int) := by omega
      have hw : IntKind.i64.wrap ((k : Int) + 1) = (k : Int) + 1 := IntWalk.i64_in _ (by omega)
      obtain ⟨x, hx⟩ : ∃ x, R[k]? = some x := ⟨_, List.getElem?_eq_getElem (by rw [HN.out]; exact hlt)⟩
      obtain ⟨b, off, rfl, _, hb, hcc⟩ := HC.out.2 (by omega)
      have HCL := Lib.hid (HP.out wr hu x (List.mem_of_getElem? hx))
      obtain ⟨y, hy⟩ : ∃ y, y = p x := ⟨_, rfl⟩
      rw [← hy] at HCL
      have HX : Hid (y = true → r = (k : Int)) := Lib.hid (fun h => by
        rw [HR.out]
        exact idxM_at hx (by rw [← hy]; exact h) hall)
      have HALL : Hid (y = false → ∀ x, x ∈ R.take (k + 1) → p x = false) := Lib.hid (fun h a ha => by
        rw [List.take_add_one, hx, List.mem_append] at ha
        rcases ha with ha | ha
        · exact hall a ha
        · simp at ha
          rw [ha, ← hy]; exact h)
      have c0 := (hu.cell (p := ⟨b, off + (k * 4 + 0), none⟩) hb (by simp)).trans (hcc (k * 4 + 0) _ (flat_get encT_len R k 0 x hx (by omega)))
      have c1 := (hu.cell (p := ⟨b, off + (k * 4 + 1), none⟩) hb (by simp)).trans (hcc (k * 4 + 1) _ (flat_get encT_len R k 1 x hx (by omega)))
      have c2 := (hu.cell (p := ⟨b, off + (k * 4 + 2), none⟩) hb (by simp)).trans (hcc (k * 4 + 2) _ (flat_get encT_len R k 2 x hx (by omega)))
      have c3 := (hu.cell (p := ⟨b, off + (k * 4 + 3), none⟩) hb (by simp)).trans (hcc (k * 4 + 3) _ (flat_get encT_len R k 3 x hx (by omega)))
      obtain ⟨⟨x0, x1, x2, xs⟩, ⟨xA, xc⟩⟩ := x
      simp only [encT, List.getElem?_cons_zero, List.getElem?_cons_succ, List.getElem_cons_zero, List.getElem_cons_succ, ← Nat.add_assoc, Nat.add_zero] at c0 c1 c2 c3
      simp only [encT] at HCL
      have HU := Lib.hid hu
      clear hall hu hx hb hcc hy
      go_wp2_with fail
      refine HCL.out.mono ?_
      rintro e w1 ⟨rfl, hu1⟩
      have HU1 := Lib.hid (HU.out.next hu1)
      clear hu1 HCL c0 c1 c2 c3
      cases y with
      | true =>
        go_wp2
        go_ret
        exact ⟨ret_int (HX.out (by trivial)).symm, HU1.out⟩
      | false =>
        go_wp2
        go_roundg (gk - 1)
        case measure => omega
        case rel => exact ⟨k + 1, by omega, by omega, by go_num, HALL.out (by trivial), HU1.out⟩
    · obtain rfl : k = n := by omega
      have HU := Lib.hid hu
      have HX : Hid (r = -1) := Lib.hid (by
        rw [HR.out]
        refine idxM_no ?_
        rw [← HN.out, List.take_length] at hall
        exact hall)
      clear hall hu
      go_wp2
      go_ret
      exact ⟨ret_int HX.out.symm, HU.out⟩
end Go.Proofs.Ytjcbaelefacolaa
/- The layer delta: is one of some SSRCs taken. Conditions: rows no longer than 1000. -/
namespace Go.Proofs.Ytjcbaelefacolaa
open Go Go.RowKit
set_option maxHeartbeats 400000

theorem cfun_eq {α : Type} (p : α → Bool) (R : List α) : decide (0 ≤ idxM p R) = R.any p := by
  rw [← Bool.coe_iff_coe, decide_eq_true_iff, idxM_any]
theorem taken11_any {w : World} {Z : Nat} {A : Option Addr} {n c : Nat} {l : List Int} (hz : w.cell? ⟨Z, 0, none⟩ = some (.slice A n c)) (h : CellsIn w 0 w.heap.size 1 A n (l.map (Value.int .u32))) (hl : n ≤ 100000) (x : Int) :
    Calls Try.prog 88 #[.int .u32 x, .pointer (some ⟨Z, 0, none⟩)] w fun e w' => e = .returned (.bool (l.contains x)) ∧ Upd [] w w' := by
  have HC := Lib.hid (contains_any (c := c) h hl x)
  obtain ⟨r, hr⟩ : ∃ r, r = l.contains x := ⟨_, rfl⟩
  rw [← hr] at HC ⊢
  clear hr h
  go_enter Try.func88, Try.ntmps88
  go_wp2_with fail
  refine HC.out.mono ?_
  rintro e w1 ⟨rfl, rfl⟩
  go_wp2
  go_ret
  exact ⟨rfl, Upd.refl _ _⟩
theorem cfunU_any {w : World} {Z : Nat} {A : Option Addr} {n c : Nat} {l : List Int} (hz : w.cell? ⟨Z, 0, none⟩ = some (.slice A n c)) (h : CellsIn w 0 w.heap.size 1 A n (l.map (Value.int .u32))) (hl : n ≤ 100000)
    {B : Option Addr} {m d : Nat} {R : List Int} (hR : CellsIn w 0 w.heap.size 1 B m (R.map (Value.int .u32))) (hm : m ≤ 100000) :
    Calls Try.prog 87 #[.slice B m d, .func (.func 88) #[] #[.pointer (some ⟨Z, 0, none⟩)]] w fun e w' => e = .returned (.bool (R.any fun x => l.contains x)) ∧ Upd [] w w' := by
  have hml : R.length = m := by have := hR.1; rw [List.length_map] at this; omega
  have HC := Lib.hid (idxU6_any (c := d) (fun x => l.contains x) (some ⟨Z, 0, none⟩) (by rw [flatU]; exact hR) hml hm (fun W u x _ => taken11_any (c := c) ((u.cell (p := ⟨Z, 0, none⟩) (cellD_lt hz) (by simp)).trans hz) ((h.upd2 u (Nat.le_refl _) (by simp)).more (Nat.le_refl _) u.size) hl x))
  rw [← cfun_eq]
  obtain ⟨r, hr⟩ : ∃ r, r = idxM (fun x => l.contains x) R := ⟨_, rfl⟩
  rw [← hr] at HC ⊢
  clear hr h hR hz
  go_enter Try.func87, Try.ntmps87
  go_wp2_with fail
  refine HC.out.mono ?_
  rintro e w1 ⟨rfl, hu⟩
  have HU := Lib.hid hu
  clear hu HC
  go_wp2
  go_ret
  exact ⟨rfl, HU.out⟩
theorem taken1_any {w : World} {Z : Nat} {A : Option Addr} {n c : Nat} {l : List Int} (hz : w.cell? ⟨Z, 0, none⟩ = some (.slice A n c)) (h : CellsIn w 0 w.heap.size 1 A n (l.map (Value.int .u32))) (hl : n ≤ 100000)
    (x : Trk × SH) (hx : CellsIn w 0 w.heap.size 1 x.2.A x.1.ss.length (x.1.ss.map (Value.int .u32))) (hm : x.1.ss.length ≤ 100000) :
    Calls Try.prog 86 #[.agg (encT x).toArray, .pointer (some ⟨Z, 0, none⟩)] w fun e w' => e = .returned (.bool (x.1.ss.any fun y => l.contains y)) ∧ Upd [] w w' := by
  have HC := Lib.hid (fun (W : World) (u : Upd [] w W) => cfunU_any (c := c) (d := x.2.c) ((u.cell (p := ⟨Z, 0, none⟩) (cellD_lt hz) (by simp)).trans hz) ((h.upd2 u (Nat.le_refl _) (by simp)).more (Nat.le_refl _) u.size) hl ((hx.upd2 u (Nat.le_refl _) (by simp)).more (Nat.le_refl _) u.size) hm)
  obtain ⟨⟨a, b, d, ss⟩, ⟨B, k⟩⟩ := x
  unfold encT
  dsimp only at HC ⊢
  obtain ⟨r, hr⟩ : ∃ r, r = ss.any fun y => l.contains y := ⟨_, rfl⟩
  rw [← hr] at HC ⊢
  obtain ⟨m, hm'⟩ : ∃ m, m = ss.length := ⟨_, rfl⟩
  rw [← hm'] at HC ⊢
  clear hr h hx hz hm hm'
  go_enter Try.func86, Try.ntmps86
  go_wp2_with fail
  refine (HC.out _ ((Upd.refl [] w).alloc _)).mono ?_
  rintro e w1 ⟨rfl, hu⟩
  have HU := Lib.hid (((Upd.refl [] w).alloc (.cells #[.int .i64 a, .int .i64 b, .int .i64 d, .slice B m k] 76)).next hu)
  clear hu HC
  go_wp2
  go_ret
  exact ⟨rfl, HU.out⟩
theorem cfunT_any {w : World} {Z : Nat} {A : Option Addr} {n c : Nat} {l : List Int} (hz : w.cell? ⟨Z, 0, none⟩ = some (.slice A n c)) (h : CellsIn w 0 w.heap.size 1 A n (l.map (Value.int .u32))) (hl : n ≤ 100000)
    {B : Option Addr} {m d : Nat} {R : List (Trk × SH)} (hR : CellsIn w 0 w.heap.size 4 B m (R.flatMap encT)) (hm : R.length = m) (hml : m ≤ 100000)
    (hx : ∀ x, x ∈ R → CellsIn w 0 w.heap.size 1 x.2.A x.1.ss.length (x.1.ss.map (Value.int .u32)) ∧ x.1.ss.length ≤ 100000) :
    Calls Try.prog 85 #[.slice B m d, .func (.func 86) #[] #[.pointer (some ⟨Z, 0, none⟩)]] w fun e w' =>
      e = .returned (.bool (R.any fun x => x.1.ss.any fun y => l.contains y)) ∧ Upd [] w w' := by
  have HC := Lib.hid (idxT5_any (c := d) (fun x => x.1.ss.any fun y => l.contains y) (some ⟨Z, 0, none⟩) hR hm hml (fun W u x hxm => taken1_any (c := c) ((u.cell (p := ⟨Z, 0, none⟩) (cellD_lt hz) (by simp)).trans hz) ((h.upd2 u (Nat.le_refl _) (by simp)).more (Nat.le_refl _) u.size) hl x (((hx x hxm).1.upd2 u (Nat.le_refl _) (by simp)).more (Nat.le_refl _) u.size) (hx x hxm).2))
  rw [← cfun_eq]
  obtain ⟨r, hr⟩ : ∃ r, r = idxM (fun x : Trk × SH => x.1.ss.any fun y => l.contains y) R := ⟨_, rfl⟩
  rw [← hr] at HC ⊢
  clear hr h hR hz hx
  go_enter Try.func85, Try.ntmps85
  go_wp2_with fail
  refine HC.out.mono ?_
  rintro e w1 ⟨rfl, hu⟩
  have HU := Lib.hid hu
  clear hu HC
  go_wp2
  go_ret
  exact ⟨rfl, HU.out⟩
set_option maxRecDepth 100000 in
theorem taken_any {w : World} {s : St} {h : SHd} (hs : StIn w s h) (hts : s.ts.length ≤ 1000) (hx : ∀ t, t ∈ s.ts → t.ss.length ≤ 1000) {A : Option Addr} {n c : Nat} {l : List Int} (hr : CellsIn w 0 w.heap.size 1 A n (l.map (Value.int .u32))) (hl : n ≤ 1000) :
    Calls Try.prog 57 #[.agg (scells s h).toArray, .slice A n c] w fun e w' => e = .returned (.bool (takenM s l)) ∧ Upd [] w w' := by
  have htl : h.tx.length = s.ts.length := by rw [← hs.tx, List.length_map]
  have HC := Lib.hid (fun (W : World) (Z : Nat) (u : Upd [] w W) (hz : W.cell? ⟨Z, 0, none⟩ = some (.slice A n c)) => cfunT_any (c := c) (d := h.tc) (B := h.tA) (m := s.ts.length) (R := h.tx) hz ((hr.upd2 u (Nat.le_refl _) (by simp)).more (Nat.le_refl _) u.size) (by omega) (hs.t.upd u).l htl (by omega)
    (fun x hxm => ⟨((hs.ss x hxm).upd u).l, by have := hx x.1 (by rw [← hs.tx]; exact List.mem_map.2 ⟨x, hxm, rfl⟩); omega⟩))
  have he : (h.tx.any fun x => x.1.ss.any fun y => l.contains y) = takenM s l := by unfold takenM; rw [← hs.tx, List.any_map]; rfl
  rw [he] at HC
  obtain ⟨r, hrr⟩ : ∃ r, r = takenM s l := ⟨_, rfl⟩
  rw [← hrr] at HC ⊢
  obtain ⟨cf, ps, ts, bs⟩ := s
  obtain ⟨pA, pc, tx, tA, tc, bA, bc⟩ := h
  unfold scells
  dsimp only at HC ⊢
  obtain ⟨n1, hn1⟩ : ∃ n1, n1 = ps.length := ⟨_, rfl⟩
  obtain ⟨n2, hn2⟩ : ∃ n2, n2 = ts.length := ⟨_, rfl⟩
  obtain ⟨n3, hn3⟩ : ∃ n3, n3 = bs.length := ⟨_, rfl⟩
  rw [← hn1, ← hn2, ← hn3]
  rw [← hn2] at HC
  obtain ⟨W, hW⟩ : ∃ W, W = (w.alloc (.cells #[.int .i64 cf.people, .int .i64 cf.tracks, .int .i64 cf.subs, .int .i64 cf.slots, .slice pA n1 pc, .slice tA n2 tc, .slice bA n3 bc] 31)).alloc (.cells #[.slice A n c] 43) := ⟨_, rfl⟩
  have HU : Hid (Upd [] w W) := Lib.hid (by rw [hW]; exact ((Upd.refl [] w).alloc _).alloc _)
  have HZ : Hid (W.cell? ⟨w.heap.size + 1, 0, none⟩ = some (.slice A n c)) := Lib.hid (by
    have := Blk.new (w.alloc (.cells #[.int .i64 cf.people, .int .i64 cf.tracks, .int .i64 cf.subs, .int .i64 cf.slots, .slice pA n1 pc, .slice tA n2 tc, .slice bA n3 bc] 31)) 43 #[.slice A n c]
    rw [World.size_alloc, ← hW] at this
    exact this.cell 0)
  clear hs hts hx hr htl he hrr hn1 hn2 hn3
  go_enter Try.func57, Try.ntmps57
  go_wp2_with fail
  rw [← hW]
  clear hW
  refine (HC.out W _ HU.out HZ.out).mono ?_
  rintro e w1 ⟨rfl, hu⟩
  have HU1 := Lib.hid (HU.out.next hu)
  clear hu HC
  go_wp2
  go_ret
  exact ⟨rfl, HU1.out⟩
end Go.Proofs.Ytjcbaelefacolaa
/- slices.Clone at louver/delta.Person: a row of the call's own. Condition: no more than 100000. -/
namespace Go.Proofs.Ytjcbaelefacolaa
open Go Go.RowKit
set_option maxHeartbeats 400000

set_option maxRecDepth 100000 in
theorem cloneP_any {w : World} {lo n c : Nat} {A : Option Addr} {ys : List Value} (h : RwIn w lo 3 A n c ys) (hl : n ≤ 100000) (h1 : ∀ u ∈ ys, u.oneCell' = true) :
    Calls Try.prog 46 #[.slice A n c] w fun e w' => ∃ A' c', e = .returned (.slice A' n c') ∧ w'.ownsRow w.heap.size 75 3 (.slice A' n c') n ys ∧ Upd [] w w' := by
  obtain ⟨j0, hj0, hy0, hy1, hy2⟩ := info_parts infoP
  cases A with
  | none =>
    obtain ⟨h2, h3⟩ := h.nl rfl
    subst h2
    subst h3
    obtain rfl : ys = [] := List.eq_nil_of_length_eq_zero (by simpa using h.l.1)
    clear h
    have hq : ∀ W : World, (binOp .eql 27 (.slice none 0 0) (.slice none 0 0)).run Try.prog W = .ok (.bool true) W := fun W => Lib.run_eql_slice_nil (P := Try.prog) (w := W) (h := Try.underlying27) ..
    go_enter Try.func46, Try.ntmps46
    go_wp2
    go_ret
    exact ⟨none, 0, rfl, World.ownsRow_nil _ _ _ _, Upd.refl _ _⟩
  | some a =>
    have HLN := Lib.hid h.l.1
    have H1 := Lib.hid h1
    have HRI := Lib.hid h.l
    clear h h1
    have hq : ∀ W : World, (binOp .eql 27 (.slice (some a) n c) (.slice none 0 0)).run Try.prog W = .ok (.bool false) W := fun W => Lib.run_eql_slice_nil (P := Try.prog) (w := W) (h := Try.underlying27) ..
    go_enter Try.func46, Try.ntmps46
    go_wp2_with (at_builtin; refine wpList_append_src _ rfl (.tmp 5) (.tmp 6) 27 rfl w.heap.size 75 j0 _ 3 24 Try.underlying27 hj0 hy0 hy1 hy2 rfl (by decide) (.slice (some ⟨w.heap.size, 0, none⟩) 0 0) 0 [] rfl (World.ownsRow_lit w #[] 0 (Nat.le_refl _) (by decide) rfl) (some a) n c ys rfl (fun e => by cases e) HLN.out ?s1 H1.out ?s3 ?s4 ?s5 ?_)
    case s1 => exact (HRI.out.below ((Below.refl _ _).alloc (Nat.le_refl _) (.cells #[] 75)) (Nat.le_refl _)).src
    case s3 => unfold maxLen; omega
    case s4 => omega
    case s5 => simp
    intro v1 w1 hown1 hg1 hat1
    have hb : Upd [] w w1 := ((Upd.refl [] w).alloc (.cells #[] 75)).trans (Upd.of_grown hg1) (fun t ht => .inr (by
      have ht' : t = w.heap.size := by simpa [Value.ownBlock] using ht
      omega))
    obtain ⟨A1, c1, hv1, _⟩ := own_form hown1
    subst hv1
    have HO := Lib.hid hown1
    have HB := Lib.hid hb
    clear hown1 hg1 hat1 hb
    go_wp2
    go_ret
    exact ⟨A1, c1, rfl, by simpa using HO.out, HB.out⟩
end Go.Proofs.Ytjcbaelefacolaa
/- slices.Clone at louver/delta.Track: a row of the call's own. Condition: no more than 100000. -/
namespace Go.Proofs.Ytjcbaelefacolaa
open Go Go.RowKit
set_option maxHeartbeats 400000

set_option maxRecDepth 100000 in
theorem cloneT_any {w : World} {lo n c : Nat} {A : Option Addr} {ys : List Value} (h : RwIn w lo 4 A n c ys) (hl : n ≤ 100000) (h1 : ∀ u ∈ ys, u.oneCell' = true) :
    Calls Try.prog 47 #[.slice A n c] w fun e w' => ∃ A' c', e = .returned (.slice A' n c') ∧ w'.ownsRow w.heap.size 76 4 (.slice A' n c') n ys ∧ Upd [] w w' := by
  obtain ⟨j0, hj0, hy0, hy1, hy2⟩ := info_parts infoT
  cases A with
  | none =>
    obtain ⟨h2, h3⟩ := h.nl rfl
    subst h2
    subst h3
    obtain rfl : ys = [] := List.eq_nil_of_length_eq_zero (by simpa using h.l.1)
    clear h
    have hq : ∀ W : World, (binOp .eql 28 (.slice none 0 0) (.slice none 0 0)).run Try.prog W = .ok (.bool true) W := fun W => Lib.run_eql_slice_nil (P := Try.prog) (w := W) (h := Try.underlying28) ..
    go_enter Try.func47, Try.ntmps47
    go_wp2
    go_ret
    exact ⟨none, 0, rfl, World.ownsRow_nil _ _ _ _, Upd.refl _ _⟩
  | some a =>
    have HLN := Lib.hid h.l.1
    have H1 := Lib.hid h1
    have HRI := Lib.hid h.l
    clear h h1
    have hq : ∀ W : World, (binOp .eql 28 (.slice (some a) n c) (.slice none 0 0)).run Try.prog W = .ok (.bool false) W := fun W => Lib.run_eql_slice_nil (P := Try.prog) (w := W) (h := Try.underlying28) ..
    go_enter Try.func47, Try.ntmps47
    go_wp2_with (at_builtin; refine wpList_append_src _ rfl (.tmp 5) (.tmp 6) 28 rfl w.heap.size 76 j0 _ 4 48 Try.underlying28 hj0 hy0 hy1 hy2 rfl (by decide) (.slice (some ⟨w.heap.size, 0, none⟩) 0 0) 0 [] rfl (World.ownsRow_lit w #[] 0 (Nat.le_refl _) (by decide) rfl) (some a) n c ys rfl (fun e => by cases e) HLN.out ?s1 H1.out ?s3 ?s4 ?s5 ?_)
    case s1 => exact (HRI.out.below ((Below.refl _ _).alloc (Nat.le_refl _) (.cells #[] 76)) (Nat.le_refl _)).src
    case s3 => unfold maxLen; omega
    case s4 => omega
    case s5 => simp
    intro v1 w1 hown1 hg1 hat1
    have hb : Upd [] w w1 := ((Upd.refl [] w).alloc (.cells #[] 76)).trans (Upd.of_grown hg1) (fun t ht => .inr (by
      have ht' : t = w.heap.size := by simpa [Value.ownBlock] using ht
      omega))
    obtain ⟨A1, c1, hv1, _⟩ := own_form hown1
    subst hv1
    have HO := Lib.hid hown1
    have HB := Lib.hid hb
    clear hown1 hg1 hat1 hb
    go_wp2
    go_ret
    exact ⟨A1, c1, rfl, by simpa using HO.out, HB.out⟩
end Go.Proofs.Ytjcbaelefacolaa
