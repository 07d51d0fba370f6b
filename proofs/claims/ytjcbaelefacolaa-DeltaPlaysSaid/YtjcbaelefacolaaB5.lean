/- Parts of the proof, one behind the other: DPublish, DInsS, DLay, DSubscribe, DIdxT3, DDelT3, DDropT3, DIdxP1. No condition of their own. -/
import Derived.Test.YtjcbaelefacolaaB4
import Derived.Test.YtjcbaelefacolaaB1
import Derived.Test.YtjcbaelefacolaaB2
import Derived.Test.YtjcbaelefacolaaB3
/- The layer delta: Publish. Conditions: what always holds of a state; the state in a box. -/
namespace Go.Proofs.Ytjcbaelefacolaa
open Go Go.RowKit
set_option maxHeartbeats 400000

theorem and_one {x : Int} (h : 0 ≤ x ∧ x ≤ 3) : (bits BinOp.and IntKind.i64 x 1 == 0) = decide (x % 2 = 0) := by
  have : x = 0 ∨ x = 1 ∨ x = 2 ∨ x = 3 := by omega
  rcases this with rfl | rfl | rfl | rfl <;> decide
theorem and_two {x : Int} (h : 0 ≤ x ∧ x ≤ 3) : (bits BinOp.and IntKind.i64 x 2 == 0) = decide (x / 2 % 2 = 0) := by
  have : x = 0 ∨ x = 1 ∨ x = 2 ∨ x = 3 := by omega
  rcases this with rfl | rfl | rfl | rfl <;> decide
set_option maxRecDepth 100000 in
set_option maxHeartbeats 4000000 in
theorem publish_any {w : World} {B T : Nat} {s : St} {h : SHd} {q : Rq} {qh : SH} (k : TIn w B T s h) (hi : Inv s) (hB : B ≤ w.heap.size) (hQ : QIn w B q qh) (hh : has (cP q.who) s.ps = true) :
    Calls Try.prog 24 #[.pointer (some ⟨T, 0, none⟩), .agg (qcells q qh).toArray] w fun e w' => e = .returned (.int .i64 (publishM s q).2) ∧ ((publishM s q).2 = 0 → ∃ h', TIn w' B T (publishM s q).1 h') ∧ Below B w w' := by
  have hnp : s.ps.length ≤ 16 := by have := hi.np; have := hi.cp; omega
  have hnt : s.ts.length ≤ 16 := by have := hi.nt; have := hi.ct; omega
  have hnb : s.bs.length ≤ 64 := by have := hi.nb; have := hi.cl; omega
  have hss : ∀ t, t ∈ s.ts → t.ss.length ≤ 1000 := fun t ht => by
    have := (hi.trk t ht).2.2
    unfold maySS at this
    simp only [Bool.and_eq_true, decide_eq_true_eq] at this
    omega
  have HSS := Lib.hid hss
  have HP := Lib.hid (fun (W : World) (u : Upd [] w W) => person_any (w := W) (s := s) (h := h) (k.upd u).r.st.p (by omega) hi.up q.who)
  have HT := Lib.hid (fun (W : World) (u : Upd [] w W) => track_any (w := W) (s := s) (h := h) (k.upd u).r.st.t (k.upd u).r.tx (by omega) hi.ut q.track)
  have hQ1 : ∀ W, Upd [] w W → RwIn W 0 1 qh.A q.ss.length qh.c (q.ss.map (Value.int .u32)) := fun W u => (hQ.below (u.below hB (by simp))).row (Nat.le_trans hB u.size)
  have HQ1 := Lib.hid hQ1
  have HQF := Lib.hid (And.intro hQ.few hQ.pos)
  have HPA := Lib.hid (per_at hi hh)
  have HTA := Lib.hid (fun hx : has (cT q.track) s.ts = true => trk_at hi hx)
  have HPH := Lib.hid hh
  obtain ⟨r, hr⟩ : ∃ r, r = publishM s q := ⟨_, rfl⟩
  rw [← hr]
  have HR := Lib.hid hr
  clear hr hQ hQ1 hss hh
  obtain ⟨kd, who, room, rights, track, ss, layer, tid⟩ := q
  obtain ⟨qA, qc⟩ := qh
  unfold qcells
  dsimp only at HP HT HQ1 HQF HPA HTA HPH ⊢
  obtain ⟨ql, hql⟩ : ∃ ql, ql = ss.length := ⟨_, rfl⟩
  rw [← hql] at HQ1 HQF ⊢
  have HQL := Lib.hid hql
  obtain ⟨W, hW⟩ : ∃ W, W = w.alloc (.cells #[.int .i64 kd, .int .i64 who, .int .i64 room, .int .i64 rights, .int .i64 track, .slice qA ql qc, .int .i64 layer, .int .i64 tid] 45) := ⟨_, rfl⟩
  obtain ⟨Z, hZ⟩ : ∃ Z, Z = w.heap.size := ⟨_, rfl⟩
  have hZB : Blk W Z 45 #[.int .i64 kd, .int .i64 who, .int .i64 room, .int .i64 rights, .int .i64 track, .slice qA ql qc, .int .i64 layer, .int .i64 tid] := by rw [hW, hZ]; exact Blk.new _ _ _
  have hu0 : Upd [] w W := by rw [hW]; exact (Upd.refl [] w).alloc _
  obtain ⟨lo, hlo⟩ : ∃ lo, lo = low (cP who) s.ps := ⟨_, rfl⟩
  rw [← hlo, HPH.out] at HP
  obtain ⟨lt, hlt⟩ : ∃ lt, lt = low (cT track) s.ts := ⟨_, rfl⟩
  obtain ⟨ht, hht⟩ : ∃ ht, ht = has (cT track) s.ts := ⟨_, rfl⟩
  rw [← hlt, ← hht] at HT
  have HLO := Lib.hid hlo
  have HLT := Lib.hid hlt
  have HHT := Lib.hid hht
  have hkW := k.upd hu0
  have HK := Lib.hid hkW
  have HB := Lib.hid (And.intro hB (Nat.le_trans hB hu0.size))
  have HU0 := Lib.hid hu0
  have HI := Lib.hid hi
  have HZB := Lib.hid hZB
  obtain ⟨p, hp⟩ : ∃ p, p = perAt s who := ⟨_, rfl⟩
  have hpl := HPA.out.1
  rw [← hlo, ← hp] at hpl
  have HPP := Lib.hid hp
  have HPR := Lib.hid (hi.per p (by rw [hp]; exact HPA.out.2.2)).2.2.2.2
  obtain ⟨A0, c0, hve, hnc, hA, _⟩ := own_form hkW.r.p
  injection hve with e1 _ e3
  obtain ⟨g, hg, hg1, hg2⟩ := hA (by have := (List.getElem?_eq_some_iff.1 hpl).1; omega)
  rw [← e1] at hg
  have hrow := hkW.r.p
  rw [hg] at hrow
  have hcell := fun (k : Nat) (u : Value) (hu : (s.ps.flatMap encP)[k]? = some u) => (by
    have := hrow.cells (g := g) rfl k u hu
    by_cases hk : k = 0
    · subst hk; exact this
    · simpa [Addr.add, hk] using this : W.cell? ⟨g, k, none⟩ = some u)
  have x1 : W.cell? ⟨g, lo * 3 + 1, none⟩ = some (.int .i64 p.room) := hcell (lo * 3 + 1) _ (flat_get encP_len s.ps lo 1 p hpl (by omega))
  have x2 : W.cell? ⟨g, lo * 3 + 2, none⟩ = some (.int .i64 p.rights) := hcell (lo * 3 + 2) _ (flat_get encP_len s.ps lo 2 p hpl (by omega))
  have hlon := (List.getElem?_eq_some_iff.1 hpl).1
  obtain ⟨z0, z1, z2, z3, z4, z5, z6⟩ := box_cells hkW.box
  obtain ⟨n, hn⟩ : ∃ n, n = s.ps.length := ⟨_, rfl⟩
  obtain ⟨n2, hn2⟩ : ∃ n2, n2 = s.ts.length := ⟨_, rfl⟩
  obtain ⟨n3, hn3⟩ : ∃ n3, n3 = s.bs.length := ⟨_, rfl⟩
  unfold scells at HP HT
  rw [← hn, ← hn2, ← hn3, hg] at HP HT
  rw [← hn, hg] at z4
  rw [← hn] at hnp hlon
  rw [← hn2] at z5 hnt
  rw [← hn3] at z6 hnb
  have hloi : (lo : Int) < (n : Int) := by omega
  have HN := Lib.hid (And.intro hn (And.intro hn2 hn3))
  have HG := Lib.hid hg
  have hTl := hkW.box.lt
  have hZl := hZB.lt
  have y0 : ∀ z : Cls (Upd [] W), z.w.cell? ⟨T, 0, none⟩ = _ := fun z => (z.h.cell (p := ⟨T, 0, none⟩) hTl (by simp)).trans z0
  have y1 : ∀ z : Cls (Upd [] W), z.w.cell? ⟨T, 1, none⟩ = _ := fun z => (z.h.cell (p := ⟨T, 1, none⟩) hTl (by simp)).trans z1
  have y2 : ∀ z : Cls (Upd [] W), z.w.cell? ⟨T, 2, none⟩ = _ := fun z => (z.h.cell (p := ⟨T, 2, none⟩) hTl (by simp)).trans z2
  have y3 : ∀ z : Cls (Upd [] W), z.w.cell? ⟨T, 3, none⟩ = _ := fun z => (z.h.cell (p := ⟨T, 3, none⟩) hTl (by simp)).trans z3
  have y4 : ∀ z : Cls (Upd [] W), z.w.cell? ⟨T, 4, none⟩ = _ := fun z => (z.h.cell (p := ⟨T, 4, none⟩) hTl (by simp)).trans z4
  have y5 : ∀ z : Cls (Upd [] W), z.w.cell? ⟨T, 5, none⟩ = _ := fun z => (z.h.cell (p := ⟨T, 5, none⟩) hTl (by simp)).trans z5
  have y6 : ∀ z : Cls (Upd [] W), z.w.cell? ⟨T, 6, none⟩ = _ := fun z => (z.h.cell (p := ⟨T, 6, none⟩) hTl (by simp)).trans z6
  have yr : ∀ z : Cls (Upd [] W), z.w.cell? ⟨g, lo * 3 + 2, none⟩ = some (.int .i64 p.rights) := fun z => (z.h.cell (p := ⟨g, lo * 3 + 2, none⟩) hg2 (by simp)).trans x2
  have yo : ∀ z : Cls (Upd [] W), z.w.cell? ⟨g, lo * 3 + 1, none⟩ = some (.int .i64 p.room) := fun z => (z.h.cell (p := ⟨g, lo * 3 + 1, none⟩) hg2 (by simp)).trans x1
  have q1 : ∀ z : Cls (Upd [] W), z.w.cell? ⟨Z, 1, none⟩ = some (.int .i64 who) := fun z => (z.h.cell (p := ⟨Z, 1, none⟩) hZl (by simp)).trans (hZB.cell 1)
  have q4 : ∀ z : Cls (Upd [] W), z.w.cell? ⟨Z, 4, none⟩ = some (.int .i64 track) := fun z => (z.h.cell (p := ⟨Z, 4, none⟩) hZl (by simp)).trans (hZB.cell 4)
  have q5 : ∀ z : Cls (Upd [] W), z.w.cell? ⟨Z, 5, none⟩ = some (.slice qA ql qc) := fun z => (z.h.cell (p := ⟨Z, 5, none⟩) hZl (by simp)).trans (hZB.cell 5)
  have HPC := Lib.hid (fun (z : Cls (Upd [] W)) => quiet_cls (C := Upd [] W) (x := z) ((HP.out z.w (hu0.next z.h)).mono fun e w' h => ⟨h.1, z.h.next h.2⟩))
  have HTC := Lib.hid (fun (z : Cls (Upd [] W)) => quiet_cls (C := Upd [] W) (x := z) ((HT.out z.w (hu0.next z.h)).mono fun e w' h => ⟨h.1, z.h.next h.2⟩))
  clear hlo hlt hht hkW hn hn2 hn3 z0 z1 z2 z3 z4 z5 z6 hu0 hi k hB hZB HP HT hql hA hcell hrow x1 x2 hp hpl e1 e3 hnc hg hg1
  go_enter Try.func24, Try.ntmps24
  go_upto_region 1 with fail
  rw [← hW, ← hZ]
  clear hW hZ
  refine wp_class_tail (Upd [] W) ((Upd.refl _ _).drewN 1) 10 (by kernel_rfl) (by kernel_rfl) (fun _ _ _ _ h => h) ?_
  intro hne
  simp only [List.take_succ_cons, List.take_zero, List.drop_succ_cons, List.drop_zero]
  repeat (go_big_quiet_step ((go_at_call 33; with_reducible exact HPC.out _)))
  refine wpQuiet_nil ?_
  rintro _ ⟨xa, rfl⟩
  go_wp2
  refine wp_class_tail (Upd [] W) (xa.h.drewN 1) 10 (by kernel_rfl) (by kernel_rfl) (fun _ _ _ _ h => h) ?_
  intro hne'
  simp only [List.take_succ_cons, List.take_zero, List.drop_succ_cons, List.drop_zero]
  repeat (go_big_quiet_step ((go_at_call 55; with_reducible exact HTC.out _)))
  refine wpQuiet_nil ?_
  rintro _ ⟨xb, rfl⟩
  obtain ⟨rb, hrb⟩ : ∃ rb, rb = (bits BinOp.and IntKind.i64 p.rights 1 == 0) := ⟨_, rfl⟩
  have HRB := Lib.hid (hrb.trans (and_one HPR.out))
  have hrb' := hrb.symm
  clear hrb
  have zr := yr xb
  have z4 := y4 xb
  cases rb with
  | true =>
    have HX : Hid (r = (s, 24)) := Lib.hid (by
      rw [HR.out]
      unfold publishM
      dsimp only
      rw [← HPP.out, if_pos (by have := HRB.out.symm; simpa using this)])
    go_wp2
    go_ret
    exact ⟨ret_int (by rw [HX.out]), fun h0 => absurd h0 (by rw [HX.out]; simp), (HU0.out.next xb.h).below HB.out.1 (by simp)⟩
  | false =>
  have HRB1 : Hid (¬ p.rights % 2 = 0) := Lib.hid (by have := HRB.out.symm; simpa using this)
  obtain ⟨b1, hb1⟩ : ∃ x, x = (decide ((1 : Int) ≤ track) && decide (track ≤ 999)) := ⟨_, rfl⟩
  have H1 : Hid (Calls Try.prog 32 #[.int .i64 track, .int .i64 1, .int .i64 999] xb.w fun e w' => e = .returned (.bool b1) ∧ xb.w = w') := Lib.hid (by rw [hb1]; exact in_any xb.w track 1 999)
  have HB1 := Lib.hid hb1
  obtain ⟨m, hm⟩ : ∃ m, m = maySS ss := ⟨_, rfl⟩
  have HM := Lib.hid hm
  have HMC := Lib.hid (may_any (w := xb.w) (c := qc) (l := ss) (HQ1.out xb.w (HU0.out.next xb.h)).l (by have := HQF.out.1; omega) (HQ1.out xb.w (HU0.out.next xb.h)).le HQF.out.2)
  rw [← hm] at HMC
  have z5 := q5 xb
  have zt := q4 xb
  clear hb1 hm
  go_wp2_with fail
  refine H1.out.mono ?_
  rintro _ _ ⟨rfl, rfl⟩
  clear H1 zr z4 hrb' HRB
  cases b1 with
  | false =>
    have HX : Hid (r = (s, 1)) := Lib.hid (by
      rw [HR.out]
      unfold publishM
      dsimp only
      rw [← HPP.out, if_neg HRB1.out, if_pos]
      have := HB1.out.symm
      simp only [Bool.and_eq_false_iff, decide_eq_false_iff_not] at this
      omega)
    go_wp2
    go_ret
    exact ⟨ret_int (by rw [HX.out]), fun h0 => absurd h0 (by rw [HX.out]; simp), (HU0.out.next xb.h).below HB.out.1 (by simp)⟩
  | true =>
  have HB2 : Hid (¬ track < 1 ∧ ¬ 999 < track) := Lib.hid (by
    have := HB1.out.symm
    simp only [Bool.and_eq_true, decide_eq_true_eq] at this
    omega)
  go_wp2_with fail
  refine HMC.out.mono ?_
  rintro _ _ ⟨rfl, rfl⟩
  clear HMC HB1 z5 zt
  cases m with
  | false =>
    have HX : Hid (r = (s, 1)) := Lib.hid (by
      rw [HR.out]
      unfold publishM
      dsimp only
      rw [← HPP.out, if_neg HRB1.out, if_pos (.inr (.inr HM.out.symm))])
    go_wp2
    go_ret
    exact ⟨ret_int (by rw [HX.out]), fun h0 => absurd h0 (by rw [HX.out]; simp), (HU0.out.next xb.h).below HB.out.1 (by simp)⟩
  | true =>
  obtain ⟨tk, htk⟩ : ∃ tk, tk = takenM s ss := ⟨_, rfl⟩
  have HTK := Lib.hid htk
  have HTC2 := Lib.hid (fun (z : Cls (Upd [] W)) => quiet_cls (C := Upd [] W) (x := z) ((taken_any (w := z.w) (s := s) (h := h) (c := qc) (l := ss) (HK.out.upd z.h).r.st (by rw [← HN.out.2.1]; omega) HSS.out (HQ1.out z.w (HU0.out.next z.h)).l (by have := HQF.out.1; omega)).mono fun e w' h => ⟨h.1, z.h.next h.2⟩))
  unfold scells at HTC2
  rw [← htk, ← HN.out.1, ← HN.out.2.1, ← HN.out.2.2, HG.out] at HTC2
  clear htk HPC HTC
  have HQN : Hid (publishM s ⟨kd, who, room, rights, track, ss, layer, tid⟩ = if ht = true ∨ tk = true then (s, 22) else if s.c.tracks ≤ s.ts.length then (s, 20)
      else ({ s with ts := ins s.ts lt ⟨track, who, 0, ss⟩ }, 0)) := Lib.hid (by
    unfold publishM
    dsimp only
    rw [← HPP.out, if_neg HRB1.out, if_neg (by rw [← HM.out]; have := HB2.out; simp; omega), ← HHT.out, ← HTK.out, ← HLT.out])
  cases ht with
  | true =>
    have HX : Hid (r = (s, 22)) := Lib.hid (by rw [HR.out, HQN.out, if_pos (.inl rfl)])
    go_wp2
    refine wp_class_tail (Upd [] W) (xb.h.drewN 1) 9 (by kernel_rfl) (by kernel_rfl) (fun _ _ _ _ h => h) ?_
    intro hne2
    simp only [List.take_succ_cons, List.take_zero, List.drop_succ_cons, List.drop_zero]
    repeat (go_big_quiet_step ((go_at_call 57; with_reducible exact HTC2.out _)))
    refine wpQuiet_nil ?_
    rintro _ ⟨xc, rfl⟩
    go_wp2
    go_ret
    exact ⟨ret_int (by rw [HX.out]), fun h0 => absurd h0 (by rw [HX.out]; simp), (HU0.out.next xc.h).below HB.out.1 (by simp)⟩
  | false =>
  go_wp2
  refine wp_class_tail (Upd [] W) (xb.h.drewN 1) 9 (by kernel_rfl) (by kernel_rfl) (fun _ _ _ _ h => h) ?_
  intro hne2
  simp only [List.take_succ_cons, List.take_zero, List.drop_succ_cons, List.drop_zero]
  repeat (go_big_quiet_step ((go_at_call 57; with_reducible exact HTC2.out _)))
  refine wpQuiet_nil ?_
  rintro _ ⟨xc, rfl⟩
  cases tk with
  | true =>
    have HX : Hid (r = (s, 22)) := Lib.hid (by rw [HR.out, HQN.out, if_pos (.inr rfl)])
    go_wp2
    go_ret
    exact ⟨ret_int (by rw [HX.out]), fun h0 => absurd h0 (by rw [HX.out]; simp), (HU0.out.next xc.h).below HB.out.1 (by simp)⟩
  | false =>
  go_wp2
  refine wp_class_tail (Upd [] W) (xc.h.drewN 1) 11 (by kernel_rfl) (by kernel_rfl) (fun _ _ _ _ h => h) ?_
  intro hne3
  simp only [List.take_succ_cons, List.take_zero, List.drop_succ_cons, List.drop_zero]
  repeat (go_big_quiet_step (fail))
  refine wpQuiet_nil ?_
  rintro _ ⟨xd, rfl⟩
  by_cases hfull : s.c.tracks ≤ (n2 : Int)
  · have HX : Hid (r = (s, 20)) := Lib.hid (by rw [HR.out, HQN.out, if_neg (by simp), if_pos (by rw [← HN.out.2.1]; exact hfull)])
    have hd : decide (s.c.tracks ≤ (n2 : Int)) = true := by simpa using hfull
    go_wp2
    go_ret
    exact ⟨ret_int (by rw [HX.out]), fun h0 => absurd h0 (by rw [HX.out]; simp), (HU0.out.next xd.h).below HB.out.1 (by simp)⟩
  have hd : decide (s.c.tracks ≤ (n2 : Int)) = false := by simpa using hfull
  have HX : Hid (r = ({ s with ts := ins s.ts lt ⟨track, who, 0, ss⟩ }, 0)) := Lib.hid (by rw [HR.out, HQN.out, if_neg (by simp), if_neg (by rw [← HN.out.2.1]; exact hfull)])
  obtain ⟨w2, hw2⟩ : ∃ W2, W2 = xd.w := ⟨_, rfl⟩
  have hux := xd.h
  rw [← hw2] at hux ⊢
  have HU2 := Lib.hid (HU0.out.next hux)
  have HK2 := Lib.hid (HK.out.upd hux)
  have HZ2 := Lib.hid (HZB.out.upd hux (by simp))
  clear hw2 hux y0 y1 y2 y3 y4 y5 y6 yr yo q1 q4 q5 HTC2 HK HZB
  obtain ⟨PB, hPB⟩ : ∃ PB, PB = h.tA.toList.map (·.block) := ⟨_, rfl⟩
  have hTP : T ∉ PB := fun hm => own_box HK2.out.r.t HK2.out.box (by decide) (own_in HK2.out.r.t T (by rw [← hPB]; exact hm)).1
  have hZP : Z ∉ PB := fun hm => own_box HK2.out.r.t HZ2.out (by decide) (own_in HK2.out.r.t Z (by rw [← hPB]; exact hm)).1
  obtain ⟨z0, z1, z2, z3, z4, z5, z6⟩ := box_cells HK2.out.box
  rw [← HN.out.2.1] at z5
  have hTl2 := HK2.out.box.lt
  have y5 : ∀ z : Cls (Upd PB w2), z.w.cell? ⟨T, 5, none⟩ = _ := fun z => (z.h.cell (p := ⟨T, 5, none⟩) hTl2 hTP).trans z5
  have q1 : ∀ z : Cls (Upd PB w2), z.w.cell? ⟨Z, 1, none⟩ = some (.int .i64 who) := fun z => (z.h.cell (p := ⟨Z, 1, none⟩) HZ2.out.lt hZP).trans (HZ2.out.cell 1)
  have q4 : ∀ z : Cls (Upd PB w2), z.w.cell? ⟨Z, 4, none⟩ = some (.int .i64 track) := fun z => (z.h.cell (p := ⟨Z, 4, none⟩) HZ2.out.lt hZP).trans (HZ2.out.cell 4)
  have q5 : ∀ z : Cls (Upd PB w2), z.w.cell? ⟨Z, 5, none⟩ = some (.slice qA ql qc) := fun z => (z.h.cell (p := ⟨Z, 5, none⟩) HZ2.out.lt hZP).trans (HZ2.out.cell 5)
  have HCC := Lib.hid (cloneU_any (w := w2.drewN 1) (HQ1.out (w2.drewN 1) (HU2.out.drewN 1)) (by have := HQF.out.1; omega) (u32_one ss))
  have HPB := Lib.hid hPB
  have HTP := Lib.hid hTP
  clear z0 z1 z2 z3 z4 z5 z6 hPB hTP hZP hTl hZl
  go_wp2
  refine wp_held_tail (Upd PB w2) ((Upd.refl _ _).drewN 1) [0, 1, 2, 3, 4, 5, 6, 7, 8, 9, 10, 11] [12, 13, 14, 15, 16, 17, 18] (by kernel_rfl) (by kernel_rfl) (fun _ _ _ _ h => h) ?_
  intro hne4
  simp only [pick3, List.map_cons, List.map_nil, List.getElem?_cons_zero, List.getElem?_cons_succ, Option.getD_some]
  repeat (go_big_quiet_step (fail))
  refine wpQuiet_nil ?_
  clear y5 q1 q4 q5
  refine wpHeld_step rfl fun K hK => ?_
  go_simp
  refine HCC.out.mono ?_
  rintro e w3 ⟨A', c', rfl, ho3, hu3⟩
  have hu3' : Upd [] w2 w3 := ((Upd.refl [] w2).drewN 1).next hu3
  have HO3 := Lib.hid ho3
  have HU3 := Lib.hid hu3'
  clear ho3 hu3 hu3' HCC
  refine hK.out _ _ (.inr ⟨⟨w3, HU3.out.more (by simp)⟩, rfl⟩) ?_
  clear hK K
  refine wpHeld_step rfl fun K hK => ?_
  go_simp
  refine hK.out _ _ (.inr ⟨⟨w3, HU3.out.more (by simp)⟩, rfl⟩) ?_
  clear hK K
  obtain ⟨W3, hW3⟩ : ∃ W3, W3 = w3.alloc (.cells #[.int .i64 track, .int .i64 who, .int .i64 0, .slice A' ql c'] 76) := ⟨_, rfl⟩
  obtain ⟨V, hV⟩ : ∃ V, V = w3.heap.size := ⟨_, rfl⟩
  have u3 : Upd [] w2 W3 := by rw [hW3]; exact HU3.out.alloc _
  have u3' : Upd [] w3 W3 := by rw [hW3]; exact (Upd.refl [] w3).alloc _
  obtain ⟨nt, hnt'⟩ : ∃ nt : Trk × SH, nt = (⟨track, who, 0, ss⟩, ⟨A', c'⟩) := ⟨_, rfl⟩
  have hVB : Blk W3 V 76 (encT nt).toArray := by rw [hW3, hV, hnt', HQL.out]; exact Blk.new _ _ _
  have k3 := HK2.out.upd u3
  have hlon2 : lt ≤ n2 := by rw [HLT.out, HN.out.2.1]; exact low_le _ _
  have hsz : B ≤ w2.heap.size := Nat.le_trans HB.out.1 HU2.out.size
  have hcall := insT_any (i := lt) (V := V) (vs := encT nt) k3.r.t (by rw [← HN.out.2.1]; exact hlon2) (by rw [← HN.out.2.1]; omega) hVB rfl (fun a hA e => by
    have h1 := (own_block_lt HK2.out.r.t (g := a.block) (by rw [hA]; rfl)).2
    have := HU3.out.size
    rw [hV] at e
    omega) (flat_ones encT_one h.tx) (encT_one _) (Nat.le_trans hsz u3.size)
  rw [← ins_flat encT_len, ← HN.out.2.1] at hcall
  have HCALL := Lib.hid hcall
  have HK3 := Lib.hid k3
  have HU4 := Lib.hid u3
  have HO4 := Lib.hid (own_lower (ownsRow_upd HO3.out u3' (by simp)) (Nat.le_trans hsz ((Upd.refl [] w2).drewN 1).size))
  have HLON := Lib.hid hlon2
  have HSZ := Lib.hid hsz
  have HNT := Lib.hid hnt'
  clear hcall k3 u3 u3' hVB HZ2 HK2 HO3 hlon2 hsz hnt'
  refine wpHeld_step rfl fun K hK => ?_
  go_simp
  rw [← hW3, ← hV]
  clear hW3 hV
  refine hK.out _ _ (.inr ⟨⟨W3, HU4.out.more (by simp)⟩, rfl⟩) ?_
  clear hK K
  refine wpHeld_step rfl fun K hK => ?_
  go_simp
  refine HCALL.out.mono ?_
  rintro e w4 ⟨A2, c2, rfl, ho, hu4⟩
  rw [← HPB.out] at hu4
  have HU5 := Lib.hid (show Upd PB w2 w4 from (HU4.out.more (by simp)).next hu4)
  refine hK.out _ _ (.inr ⟨⟨w4, HU5.out⟩, rfl⟩) ?_
  clear hK K HCALL
  have hii : (ins s.ts lt ⟨track, who, 0, ss⟩).length = n2 + 1 := by rw [ins_length _ _ _ (by rw [← HN.out.2.1]; exact HLON.out), ← HN.out.2.1]
  have hput := HK3.out.putT (by rw [← HPB.out]; exact hu4) (ts' := ins s.ts lt ⟨track, who, 0, ss⟩) (tx' := ins h.tx lt nt) (A' := A2) (c' := c2)
    (by unfold ins; rw [List.map_append, List.map_cons, List.map_take, List.map_drop, HK3.out.r.tx, HNT.out])
    (by rw [hii]; exact ho)
    (fun x hx => by
      have hx' : x = nt ∨ x ∈ h.tx := by
        unfold ins at hx
        rcases List.mem_append.1 hx with hx | hx
        · exact .inr (List.mem_of_mem_take hx)
        · rcases List.mem_cons.1 hx with hx | hx
          · exact .inl hx
          · exact .inr (List.mem_of_mem_drop hx)
      rcases hx' with rfl | hx'
      · refine .inr ?_
        rw [HNT.out]
        have h0 := HO4.out
        rw [HQL.out] at h0
        exact ownsRow_upd h0 hu4 (fun s hs => own_apart HK3.out.r.t h0 (by decide) (own_in HK3.out.r.t s (by rw [← HPB.out]; exact hs)).1)
      · exact .inl hx')
  rw [hii] at hput
  have hfT := (HK3.out.box.upd hu4 HTP.out).frozen 5
  have hcT := (HK3.out.box.upd hu4 HTP.out).cell 5
  have HPUT := Lib.hid hput
  have HCT : Hid _ := Lib.hid hcT
  clear ho hu4 hput hcT hii
  have hcT : w4.cell? ⟨T, 5, none⟩ = some (.slice h.tA n2 h.tc) := by have := HCT.out; rw [HN.out.2.1]; exact this
  refine wpHeld_step rfl fun K hK => ?_
  go_simp
  refine hK.out _ _ (.inr ⟨⟨w4, HU5.out⟩, rfl⟩) ?_
  clear hK K
  refine wpHeld_step rfl fun K hK => ?_
  go_simp
  refine hK.out _ _ (.inr ⟨⟨w4, HU5.out⟩, rfl⟩) ?_
  clear hK K
  refine wpHeld_last ?_
  obtain ⟨w5, hw5⟩ : ∃ w5, w5 = w4.setCell ⟨T, 5, none⟩ (.slice A2 (n2 + 1) c2) := ⟨_, rfl⟩
  rw [← hw5] at HPUT
  have HFIN : Hid (Below B w w5) := Lib.hid ((HU2.out.next HU4.out).below HB.out.1 (by simp) |>.trans (below_of HPUT.out.2 HK3.out.BT (Nat.le_trans HSZ.out HU4.out.size) (fun s hs => (own_in HK3.out.r.t s hs).2)))
  go_wp2
  rw [← hw5]
  clear hw5
  go_ret
  exact ⟨ret_int (by rw [HX.out]), fun _ => ⟨_, by rw [HX.out]; exact HPUT.out.1⟩, HFIN.out⟩
end Go.Proofs.Ytjcbaelefacolaa
/- slices.Insert at louver/delta.Sub, of one element. Conditions: the place is within; a row of the call's own; no more than 1000. -/
namespace Go.Proofs.Ytjcbaelefacolaa
open Go Go.RowKit
set_option maxHeartbeats 400000

set_option maxRecDepth 100000 in
theorem insS_end {w : World} {N : Nat} {A : Option Addr} {n c V : Nat} {xs vs : List Value} (h : w.ownsRow N 55 5 (.slice A n c) n xs) (hl : n ≤ 1000) (hV : Blk w V 55 vs.toArray) (hvs : vs.length = 5)
    (h2 : ∀ u ∈ vs, u.oneCell' = true) (hN : N ≤ w.heap.size) :
    Calls Try.prog 64 #[.slice A n c, .int .i64 n, .slice (some ⟨V, 0, none⟩) 1 1] w fun e w' =>
      ∃ A' c', e = .returned (.slice A' (n + 1) c') ∧ w'.ownsRow N 55 5 (.slice A' (n + 1) c') (n + 1) (xs ++ vs) ∧ Upd (A.toList.map (·.block)) w w' := by
  obtain ⟨j0, hj0, hy0, hy1, hy2⟩ := info_parts infoS
  obtain ⟨A0, c0, hve, hnc, hA, hA2⟩ := own_form h
  injection hve with e1 _ e3
  subst e1
  subst e3
  have hcm := own_cap h
  have HO := Lib.hid h
  have HS := Lib.hid (fun j u (hj : vs[j]? = some u) => (by
    have := hV.cell j
    rw [List.getElem?_toArray] at this
    rw [hj] at this
    by_cases hk : j = 0
    · subst hk; exact this
    · simpa [Addr.add, hk] using this : w.cell? ((⟨V, 0, none⟩ : Addr).add j) = some u))
  have H2 := Lib.hid h2
  have HVS := Lib.hid hvs
  have HA := Lib.hid (And.intro hA hA2)
  have hin : (n : Int) ≤ (n : Int) := Int.le_refl _
  clear h hV hvs h2 hA hA2
  go_enter Try.func64, Try.ntmps64
  by_cases hnn : n = c
  · subst hnn
    cases A with
    | none =>
      obtain ⟨hn0, _⟩ := HA.out.2 rfl
      subst hn0
      go_wp2_with (at_builtin; refine wpList_append_own_at _ rfl (.tmp 23) (.tmp 24) 29 rfl N 55 j0 _ 5 40 Try.underlying29 hj0 hy0 hy1 hy2 rfl (by decide) _ 0 xs rfl HO.out ⟨V, 0, none⟩ 1 1 vs rfl (by rw [HVS.out]) HS.out H2.out (by unfold maxLen; omega) (by omega) hN ?_)
      intro v8 w8 hown8 hg8 _ hat8
      obtain ⟨A8, c8, hv8, -⟩ := own_form hown8
      subst hv8
      have HF := Lib.hid (And.intro hown8 (show Upd [] w w8 from Upd.of_grown hg8))
      clear hown8 hg8 hat8
      go_wp2
      go_ret
      exact ⟨A8, c8, rfl, HF.out.1, HF.out.2⟩
    | some a =>
      have hac : a.spot = none ∧ a.off = 0 := own_addr HO.out
      obtain ⟨g, o, sp⟩ := a
      obtain ⟨h3, h4⟩ := hac
      dsimp only at h3 h4
      subst h3
      subst h4
      go_wp2_with (at_builtin; refine wpList_append_own_at _ rfl (.tmp 23) (.tmp 24) 29 rfl N 55 j0 _ 5 40 Try.underlying29 hj0 hy0 hy1 hy2 rfl (by decide) _ n xs rfl HO.out ⟨V, 0, none⟩ 1 1 vs rfl (by rw [HVS.out]) HS.out H2.out (by unfold maxLen; omega) (by omega) hN ?_)
      intro v8 w8 hown8 hg8 _ hat8
      obtain ⟨A8, c8, hv8, -⟩ := own_form hown8
      subst hv8
      have HF := Lib.hid (And.intro hown8 (show Upd [g] w w8 from Upd.of_grown hg8))
      clear hown8 hg8 hat8
      go_wp2
      go_ret
      exact ⟨A8, c8, rfl, HF.out.1, HF.out.2⟩
  · have hnn2 : ¬ (c = n) := fun e => hnn e.symm
    have hnn3 : (n : Int) ≤ (c : Int) := by omega
    cases A with
    | none =>
      obtain ⟨h3, h4⟩ := HA.out.2 rfl
      omega
    | some a =>
      have hac : a.spot = none ∧ a.off = 0 := own_addr HO.out
      obtain ⟨g, o, sp⟩ := a
      obtain ⟨h3, h4⟩ := hac
      dsimp only at h3 h4
      subst h3
      subst h4
      go_wp2_with (at_builtin; refine wpList_append_own_at _ rfl (.tmp 23) (.tmp 24) 29 rfl N 55 j0 _ 5 40 Try.underlying29 hj0 hy0 hy1 hy2 rfl (by decide) _ n xs rfl HO.out ⟨V, 0, none⟩ 1 1 vs rfl (by rw [HVS.out]) HS.out H2.out (by unfold maxLen; omega) (by omega) hN ?_)
      intro v8 w8 hown8 hg8 _ hat8
      obtain ⟨A8, c8, hv8, -⟩ := own_form hown8
      subst hv8
      have HF := Lib.hid (And.intro hown8 (show Upd [g] w w8 from Upd.of_grown hg8))
      clear hown8 hg8 hat8
      go_wp2
      go_ret
      exact ⟨A8, c8, rfl, HF.out.1, HF.out.2⟩

theorem sizeOfS (w : World) : (Go.sizeOf 55).run Try.prog w = .ok 5 w := by
  obtain ⟨j0, hj0, _, hy1, _⟩ := info_parts infoS
  simp [sizeOf, typeInfo, hj0, hy1]
theorem sizeS : (Try.prog.info? 55).map (·.size) = some 5 := by
  obtain ⟨j0, hj0, _, hy1, _⟩ := info_parts infoS
  rw [hj0]; simp [hy1]
set_option maxRecDepth 100000 in
set_option maxHeartbeats 1000000 in
theorem insS_room {w : World} {N : Nat} {A : Option Addr} {n c i V : Nat} {xs vs : List Value} (h : w.ownsRow N 55 5 (.slice A n c) n xs) (hi : i < n) (hnc : n + 1 ≤ c) (hl : n ≤ 1000) (hV : Blk w V 55 vs.toArray) (hvs : vs.length = 5)
    (hA : ∀ a, A = some a → a.block ≠ V) (h1 : ∀ u ∈ xs, u.oneCell' = true) (h2 : ∀ u ∈ vs, u.oneCell' = true) :
    Calls Try.prog 64 #[.slice A n c, .int .i64 i, .slice (some ⟨V, 0, none⟩) 1 1] w fun e w' =>
      ∃ A' c', e = .returned (.slice A' (n + 1) c') ∧ w'.ownsRow N 55 5 (.slice A' (n + 1) c') (n + 1) (xs.take (i * 5) ++ vs ++ xs.drop (i * 5)) ∧ Upd (A.toList.map (·.block)) w w' := by
  have hcm := own_cap h
  have hxl := h.1
  rcases h.2 with ⟨_, hn⟩ | ⟨g, cap', cur, hve, hNg, hg, _, hcmx, hcs, htk⟩
  · omega
  injection hve with e1 _ e3
  subst e1
  subst e3
  have hgV : g ≠ V := hA _ rfl
  have hgl : g < w.heap.size := (Array.getElem?_eq_some_iff.1 hg).1
  have hcl : cur.toList.length = c * 5 := by simpa using hcs
  have hmul : i * 5 + 5 = (i + 1) * 5 := (Nat.succ_mul i 5).symm
  have hdl : (xs.drop (i * 5)).length = (n - i) * 5 := by rw [List.length_drop, hxl, ← Nat.sub_mul]
  have hik : i * 5 ≤ n * 5 := Nat.mul_le_mul_right _ (by omega)
  have hnk : n * 5 + 5 ≤ c * 5 := by rw [← Nat.succ_mul]; exact Nat.mul_le_mul_right _ hnc
  have hov : ∀ lb cb, (callFunc 91 #[.slice (some ⟨V, 0, none⟩) 1 1, .slice (some ⟨g, (i + 1) * 5, none⟩) lb cb]).run Try.prog w = .ok (.value (.bool false)) w := fun lb cb => by
    rw [run_callFunc_extern Try.func91 (by kernel_rfl) (by kernel_rfl) (by kernel_rfl) (e := Extern.SlicesOverlaps.overlaps #[29, 29] #[4]) (by kernel_rfl),
      Lib.run_overlaps_apart w 29 4 55 Try.underlying29 5 sizeOfS ⟨V, 0, none⟩ ⟨g, (i + 1) * 5, none⟩ 1 1 lb cb (Ne.symm hgV) 55 55 5 (c * 5)
        (by have hV' : w.heap[V]? = some (.cells vs.toArray 55 (0, 0)) := hV; simp [World.shape?, hV', hvs]) (by simp [World.shape?, hg, hcs]) (by omega) (hV.frozen 0) (hV.frozen 5)]
    rfl
  obtain ⟨C1, hC1⟩ : ∃ C1, C1 = cur.toList.take (i * 5 + 5) ++ xs.drop (i * 5) ++ cur.toList.drop (i * 5 + 5 + (xs.drop (i * 5)).length) := ⟨_, rfl⟩
  have hc1l : C1.length = c * 5 := by rw [hC1, seg_length (by rw [hdl, hcl]; omega), hcl]
  obtain ⟨w1, hw1⟩ : ∃ w1, w1 = (w.drewN 1).setRow g C1.toArray := ⟨_, rfl⟩
  have hsrc : ∀ (w' : World), (∀ b, w'.heap[b]? = w.heap[b]?) → ∀ (j : Nat) (v : Value), (xs.drop (i * 5))[j]? = some v → w'.cell? ((⟨g, i * 5, none⟩ : Addr).add j) = some v := fun w' hw' j v hj => by
    rw [List.getElem?_drop] at hj
    have hlt := (List.getElem?_eq_some_iff.1 hj).1
    rw [← htk, List.getElem?_take] at hj
    split at hj
    · rw [show ((⟨g, i * 5, none⟩ : Addr).add j) = ⟨g, i * 5 + j, none⟩ by unfold Addr.add; split <;> simp_all, cell_of_row w' g (i * 5 + j) cur _ _ ((hw' g).trans hg)]
      simpa using hj
    · cases hj
  have hcp1 : ∀ ty dc sc, (Builtin.copy_ #[29, 29] ty #[.slice (some ⟨g, (i + 1) * 5, none⟩) (n - i) dc, .slice (some ⟨g, i * 5, none⟩) (n + 1 - i) sc]).run Try.prog (w.drewN 1) = .ok (goInt ((n - i : Nat) : Int)) w1 := fun ty dc sc => by
    have hr := run_copy_rowK (P := Try.prog) (w.drewN 1) 29 29 ty 55 g ((i + 1) * 5) (n - i) 5 (n - i) dc ⟨g, i * 5, none⟩ (n + 1 - i) sc cur 55 (xs.drop (i * 5)) Try.underlying29 sizeS hg (by simp only [Nat.min_def]; split <;> omega) hdl (hsrc _ (fun _ => rfl)) (by rw [hdl, hcs]; omega) (fun v hv => h1 v (List.mem_of_mem_drop hv))
    rw [hr, hw1, hC1, hmul]
  have hg1 : w1.heap[g]? = some (.cells C1.toArray 55 (0, 0)) := by rw [hw1]; exact setRow_heap _ g cur _ _ _ hg
  have hV1 : Blk w1 V 55 vs.toArray := by
    have : w1.heap[V]? = w.heap[V]? := by rw [hw1]; exact setRow_other _ g V _ (Ne.symm hgV)
    exact this.trans hV
  obtain ⟨w2, hw2⟩ : ∃ w2, w2 = w1.setRow g (C1.take (i * 5) ++ vs ++ C1.drop (i * 5 + vs.length)).toArray := ⟨_, rfl⟩
  have hcp2 : ∀ ty dc, (Builtin.copy_ #[29, 29] ty #[.slice (some ⟨g, i * 5, none⟩) (n + 1 - i) dc, .slice (some ⟨V, 0, none⟩) 1 1]).run Try.prog w1 = .ok (goInt ((1 : Nat) : Int)) w2 := fun ty dc => by
    have hr := run_copy_rowK (P := Try.prog) w1 29 29 ty 55 g (i * 5) 1 5 (n + 1 - i) dc ⟨V, 0, none⟩ 1 1 C1.toArray 55 vs Try.underlying29 sizeS hg1 (by simp only [Nat.min_def]; split <;> omega) (by rw [hvs]) (fun j v hj => by
      have := hV1.cell j
      rw [List.getElem?_toArray, hj] at this
      by_cases hk : j = 0
      · subst hk; exact this
      · simpa [Addr.add, hk] using this) (by rw [List.size_toArray, hc1l, hvs]; omega) h2
    rw [hr, hw2]
  have HFIN : Hid (w2.ownsRow N 55 5 (.slice (some ⟨g, 0, none⟩) (n + 1) c) (n + 1) (xs.take (i * 5) ++ vs ++ xs.drop (i * 5)) ∧ Upd [g] w w2) := by
    refine Lib.hid ⟨⟨by simp [hxl, hvs]; omega, .inr ⟨g, c, _, rfl, hNg, by rw [hw2]; exact setRow_heap _ g _ _ _ _ hg1, hnc, hcmx, ?_, ?_⟩⟩, ?_⟩
    · rw [List.size_toArray, seg_length (by rw [hc1l, hvs]; omega), hc1l]
    · have hins := ins_room (C := cur.toList) (xs := xs) (vs := vs) (a := i * 5) (k := 5) (L := n * 5) htk.symm hik hvs (by rw [hcl]; exact hnk)
      rw [← hC1] at hins
      rw [show (n + 1) * 5 = n * 5 + 5 from Nat.succ_mul n 5]
      exact hins
    · rw [hw2, hw1]
      exact (((Upd.refl [g] w).drewN 1).next upd_setRow).next upd_setRow
  have hne1 : ¬ ((i : Int) = (n : Int)) := by omega
  have hz1 : ¬ ((1 : Int) = 0) := by omega
  have hb0 : (i : Int) ≤ (n : Int) := by omega
  have hb1 : ¬ (c = i) := by omega
  have hb2 : ¬ (c = i + 1) := by omega
  have hb3 : (n : Int) + 1 ≤ (c : Int) := by omega
  have hb4 : (i : Int) ≤ (n : Int) + 1 := by omega
  have hb5 : (i : Int) + 1 ≤ (n : Int) + 1 := by omega
  have hq1 : IntKind.i64.wrap ((n : Int) + 1) = (n : Int) + 1 := IntWalk.i64_in _ (by omega)
  have hq2 : IntKind.i64.wrap ((i : Int) + 1) = (i : Int) + 1 := IntWalk.i64_in _ (by omega)
  have HC1 := Lib.hid hcp1
  have HC2 := Lib.hid hcp2
  clear hw1 hw2 hg1 hV1 hcp1 hcp2 hC1 hc1l hsrc h1 h2 hV hvs h hg hcs htk hcl hdl hik hnk hmul hxl hA
  go_enter Try.func64, Try.ntmps64
  go_wp2_with (simp only [hov])
  refine wp_held_tail (fun w' => w' = w.drewN 1) rfl [0, 1, 2, 3, 4, 5, 6, 7] [8] (by kernel_rfl) (by kernel_rfl) (fun _ _ _ _ h => h) ?_
  intro hne
  simp only [pick3, List.map_cons, List.map_nil, List.getElem?_cons_zero, List.getElem?_cons_succ, Option.getD_some]
  repeat (go_big_quiet_step (fail))
  refine wpQuiet_nil ?_
  refine wpHeld_last ?_
  have hc1 := HC1.out
  have hc2 := HC2.out
  go_wp2
  go_ret
  exact ⟨_, _, rfl, HFIN.out.1, HFIN.out.2⟩
set_option maxRecDepth 100000 in
set_option maxHeartbeats 1000000 in
theorem insS_grow {w : World} {N : Nat} {A : Option Addr} {n c i V : Nat} {xs vs : List Value} (h : w.ownsRow N 55 5 (.slice A n c) n xs) (hi : i < n) (hnc : ¬ n + 1 ≤ c) (hl : n ≤ 1000) (hV : Blk w V 55 vs.toArray) (hvs : vs.length = 5)
    (h1 : ∀ u ∈ xs, u.oneCell' = true) (h2 : ∀ u ∈ vs, u.oneCell' = true) (hN : N ≤ w.heap.size) :
    Calls Try.prog 64 #[.slice A n c, .int .i64 i, .slice (some ⟨V, 0, none⟩) 1 1] w fun e w' =>
      ∃ A' c', e = .returned (.slice A' (n + 1) c') ∧ w'.ownsRow N 55 5 (.slice A' (n + 1) c') (n + 1) (xs.take (i * 5) ++ vs ++ xs.drop (i * 5)) ∧ Upd (A.toList.map (·.block)) w w' := by
  obtain ⟨j0, hj0, hy0, hy1, hy2⟩ := info_parts infoS
  have hxl := h.1
  have hHO := h
  rcases h.2 with ⟨_, hn⟩ | ⟨g, cap', cur, hve, hNg, hg, hncx, hcmx, hcs, htk⟩
  · omega
  injection hve with e1 _ e3
  subst e1
  subst e3
  obtain rfl : n = c := by omega
  have hgl : g < w.heap.size := (Array.getElem?_eq_some_iff.1 hg).1
  have hVl : V < w.heap.size := hV.lt
  have hmul : i * 5 + 5 = (i + 1) * 5 := (Nat.succ_mul i 5).symm
  have hdl : (xs.drop (i * 5)).length = (n - i) * 5 := by rw [List.length_drop, hxl, ← Nat.sub_mul]
  have hik : i * 5 ≤ n * 5 := Nat.mul_le_mul_right _ (by omega)
  have hcell : ∀ (w' : World), w'.heap[g]? = w.heap[g]? → ∀ (j : Nat) (v : Value), xs[j]? = some v → w'.cell? ⟨g, j, none⟩ = some v := fun w' hw' j v hj => by
    rw [← htk, List.getElem?_take] at hj
    split at hj
    · rw [cell_of_row w' g j cur _ _ (hw'.trans hg)]
      simpa using hj
    · cases hj
  obtain ⟨c1, hc1⟩ : ∃ c1, c1 = grownCap w (i + (n + 1 - i)) n 55 := ⟨_, rfl⟩
  have hc1n : n + 1 ≤ c1 := by rw [hc1]; have := grownCap_ge w (i + (n + 1 - i)) n 55; omega
  have hc1m : c1 ≤ maxLen := by rw [hc1]; exact grownCap_le_maxLen w (i + (n + 1 - i)) n 55 (by unfold maxLen; omega)
  obtain ⟨G, hG⟩ : ∃ G, G = w.heap.size := ⟨_, rfl⟩
  have hz0 : ((Value.agg #[.int .i64 0, .int .i64 0, .int .i64 0, .int .i64 0, .bool false]).cells).size = 5 := rfl
  obtain ⟨C, hC⟩ : ∃ C : Array Value, C = (xs.take (i * 5)).toArray ++ Builtin.zeroCells (Value.agg #[.int .i64 0, .int .i64 0, .int .i64 0, .int .i64 0, .bool false]).cells (n + 1 - i) ++ Builtin.zeroCells (Value.agg #[.int .i64 0, .int .i64 0, .int .i64 0, .int .i64 0, .bool false]).cells (c1 - (i + (n + 1 - i))) := ⟨_, rfl⟩
  have hCs : C.size = c1 * 5 := by
    rw [hC]
    simp only [Array.size_append, List.size_toArray, size_zeroCells, hz0, List.length_take, hxl, Nat.min_eq_left hik]
    rw [← Nat.add_mul, ← Nat.add_mul]
    congr 1
    omega
  have hCt : C.toList.take (i * 5) = xs.take (i * 5) := by
    rw [hC]
    simp only [Array.toList_append, List.append_assoc]
    exact List.take_left' (by rw [List.length_take, hxl, Nat.min_eq_left hik])
  obtain ⟨w1, hw1⟩ : ∃ w1, w1 = w.drew.alloc (.cells C 55) := ⟨_, rfl⟩
  have hap : ∀ ty, (Builtin.append_ #[29, 3] ty #[.slice (some ⟨g, 0, none⟩) i n, .int .i64 ((n : Int) + 1 - (i : Int))]).run Try.prog w = .ok (.slice (some ⟨G, 0, none⟩) (n + 1) c1) w1 := fun ty => by
    have hr := run_append_grow_zeros (P := Try.prog) w 29 3 ty 55 j0 _ .i64 .i64 Try.underlying29 Try.underlying3 hj0 hy0 ⟨g, 0, none⟩ i n (n + 1 - i) (xs.take (i * 5)) (by rw [List.length_take, hxl, hy1, Nat.min_eq_left hik]) (fun j v hj => by
      rw [List.getElem?_take] at hj
      split at hj
      · rw [show ((⟨g, 0, none⟩ : Addr).add j) = ⟨g, j, none⟩ by unfold Addr.add; split <;> simp_all]
        exact hcell w rfl j v hj
      · cases hj) (by omega) (by rw [hy1]; decide) (by omega) (by omega) (by rw [hy2]; omega) (growslice_fits (by omega) (by rw [hy2]; omega))
    have e1 : ((n + 1 - i : Nat) : Int) = (n : Int) + 1 - (i : Int) := by omega
    rw [e1] at hr
    rw [hr, hG, ← hc1, hw1, hC]
    have e2 : i + (n + 1 - i) = n + 1 := by omega
    rw [e2]
  have hg1 : w1.heap[G]? = some (.cells C 55 (0, 0)) := by rw [hw1, hG]; exact heap_alloc_new w.drew _
  have hold1 : ∀ b, b < w.heap.size → w1.heap[b]? = w.heap[b]? := fun b hb => by rw [hw1]; exact Below.heap_alloc w.drew _ b hb
  have hV1 : Blk w1 V 55 vs.toArray := (hold1 V hVl).trans hV
  obtain ⟨C2, hC2⟩ : ∃ C2, C2 = C.toList.take (i * 5) ++ vs ++ C.toList.drop (i * 5 + vs.length) := ⟨_, rfl⟩
  have hCl : C.toList.length = c1 * 5 := by simpa using hCs
  have hnk : n * 5 + 5 ≤ c1 * 5 := by rw [← Nat.succ_mul]; exact Nat.mul_le_mul_right _ hc1n
  have hc2l : C2.length = c1 * 5 := by rw [hC2, seg_length (by rw [hvs, hCl]; omega), hCl]
  obtain ⟨w2, hw2⟩ : ∃ w2, w2 = w1.setRow G C2.toArray := ⟨_, rfl⟩
  have hcp2 : ∀ ty dc, (Builtin.copy_ #[29, 29] ty #[.slice (some ⟨G, i * 5, none⟩) (n + 1 - i) dc, .slice (some ⟨V, 0, none⟩) 1 1]).run Try.prog w1 = .ok (goInt ((1 : Nat) : Int)) w2 := fun ty dc => by
    have hr := run_copy_rowK (P := Try.prog) w1 29 29 ty 55 G (i * 5) 1 5 (n + 1 - i) dc ⟨V, 0, none⟩ 1 1 C 55 vs Try.underlying29 sizeS hg1 (by simp only [Nat.min_def]; split <;> omega) (by rw [hvs]) (fun j v hj => by
      have := hV1.cell j
      rw [List.getElem?_toArray, hj] at this
      by_cases hk : j = 0
      · subst hk; exact this
      · simpa [Addr.add, hk] using this) (by rw [hCs, hvs]; omega) h2
    rw [hr, hw2, hC2]
  have hg2 : w2.heap[G]? = some (.cells C2.toArray 55 (0, 0)) := by rw [hw2]; exact setRow_heap _ G _ _ _ _ hg1
  have hgG : g ≠ G := by rw [hG]; omega
  have hold2 : w2.heap[g]? = w.heap[g]? := by rw [hw2]; exact (setRow_other _ G g _ hgG).trans (hold1 g hgl)
  obtain ⟨w3, hw3⟩ : ∃ w3, w3 = (w2.drewN 1).setRow G (C2.take (i * 5 + 5) ++ xs.drop (i * 5) ++ C2.drop (i * 5 + 5 + (xs.drop (i * 5)).length)).toArray := ⟨_, rfl⟩
  have hcp3 : ∀ ty dc sc, (Builtin.copy_ #[29, 29] ty #[.slice (some ⟨G, (i + 1) * 5, none⟩) (n - i) dc, .slice (some ⟨g, i * 5, none⟩) (n - i) sc]).run Try.prog (w2.drewN 1) = .ok (goInt ((n - i : Nat) : Int)) w3 := fun ty dc sc => by
    have hr := run_copy_rowK (P := Try.prog) (w2.drewN 1) 29 29 ty 55 G ((i + 1) * 5) (n - i) 5 (n - i) dc ⟨g, i * 5, none⟩ (n - i) sc C2.toArray 55 (xs.drop (i * 5)) Try.underlying29 sizeS hg2 (by simp only [Nat.min_def]; split <;> omega) hdl (fun j v hj => by
      rw [List.getElem?_drop] at hj
      rw [show ((⟨g, i * 5, none⟩ : Addr).add j) = ⟨g, i * 5 + j, none⟩ by unfold Addr.add; split <;> simp_all]
      exact hcell (w2.drewN 1) hold2 _ v hj) (by rw [hdl, List.size_toArray, hc2l, ← Nat.add_mul]; exact Nat.mul_le_mul_right _ (by omega)) (fun v hv => h1 v (List.mem_of_mem_drop hv))
    rw [hr, hw3, hmul]
  have HFIN : Hid (w3.ownsRow N 55 5 (.slice (some ⟨G, 0, none⟩) (n + 1) c1) (n + 1) (xs.take (i * 5) ++ vs ++ xs.drop (i * 5)) ∧ Upd [g] w w3) := by
    refine Lib.hid ⟨⟨by simp [hxl, hvs]; omega, .inr ⟨G, c1, _, rfl, by rw [hG]; exact hN, by rw [hw3]; exact setRow_heap _ G _ _ _ _ hg2, hc1n, hc1m, ?_, ?_⟩⟩, ?_⟩
    · rw [List.size_toArray, seg_length (by rw [hc2l, hdl, ← Nat.succ_mul, ← Nat.add_mul]; exact Nat.mul_le_mul_right _ (by omega)), hc2l]
    · have hins := ins_grow (C := C.toList) (xs := xs) (vs := vs) (a := i * 5) (k := 5) (L := n * 5) hCt hxl hik hvs (by rw [hCl]; exact hnk)
      rw [← hC2] at hins
      rw [show (n + 1) * 5 = n * 5 + 5 from Nat.succ_mul n 5]
      exact hins
    · have u1 : Upd [] w w1 := by rw [hw1]; exact ((Upd.refl [] w).drewN 1).alloc _
      refine (u1.more (by simp)).trans (T := [G]) ?_ (fun t ht => .inr (by rw [List.mem_singleton] at ht; subst ht; rw [hG]; exact Nat.le_refl _))
      rw [hw3]
      have u2 : Upd [G] w1 w2 := by rw [hw2]; exact upd_setRow
      exact (u2.drewN 1).next upd_setRow
  have hne1 : ¬ ((i : Int) = (n : Int)) := by omega
  have hz1 : ¬ ((1 : Int) = 0) := by omega
  have hb0 : (i : Int) ≤ (n : Int) := by omega
  have hb1 : ¬ (n = i) := by omega
  have hb2 : ¬ (c1 = i) := by omega
  have hb3 : ¬ (c1 = i + 1) := by omega
  have hb4 : (i : Int) ≤ (n : Int) + 1 := by omega
  have hb5 : (i : Int) + 1 ≤ (n : Int) + 1 := by omega
  have hb6 : (n : Int) + 1 ≤ (c1 : Int) := by omega
  have hc1i : (c1 : Int) ≤ 9223372036854775807 := by unfold maxLen at hc1m; omega
  have hq1 : IntKind.i64.wrap ((n : Int) + 1) = (n : Int) + 1 := IntWalk.i64_in _ (by omega)
  have hq2 : IntKind.i64.wrap ((i : Int) + 1) = (i : Int) + 1 := IntWalk.i64_in _ (by omega)
  have hq3 : IntKind.i64.wrap ((n : Int) + 1 - (i : Int)) = (n : Int) + 1 - (i : Int) := IntWalk.i64_in _ (by omega)
  have hd1 : decide ((n : Int) < (n : Int) + 1) = true := by simp; omega
  have HAP := Lib.hid hap
  have HC2 := Lib.hid hcp2
  have HC3 := Lib.hid hcp3
  clear hw1 hw2 hw3 hg1 hg2 hold1 hold2 hV1 hcp2 hcp3 hap hC hC2 hCs hCt hCl hnk hc2l hc1 hG hcell h1 h2 hV hvs h hHO hg hcs htk hdl hik hmul hxl hgG hz0 hVl hcmx
  go_enter Try.func64, Try.ntmps64
  have hc2 := HC2.out
  go_wp2_with (at_builtin; refine Lib.wpList_append_run _ rfl (.tmp 34) (.tmp 39) 29 3 rfl _ _ rfl rfl _ _ (HAP.out _) ?_)
  clear hc2
  refine wp_held_tail (fun w' => w' = w2.drewN 1) rfl [0, 1, 2, 3, 4, 5, 6, 7] [8] (by kernel_rfl) (by kernel_rfl) (fun _ _ _ _ h => h) ?_
  intro hne
  simp only [pick3, List.map_cons, List.map_nil, List.getElem?_cons_zero, List.getElem?_cons_succ, Option.getD_some]
  repeat (go_big_quiet_step (fail))
  refine wpQuiet_nil ?_
  refine wpHeld_last ?_
  have hc3 := HC3.out
  go_wp2
  go_ret
  exact ⟨_, _, rfl, HFIN.out.1, HFIN.out.2⟩
/-- one element put in, wherever -/
theorem insS_any {w : World} {N : Nat} {A : Option Addr} {n c i V : Nat} {xs vs : List Value} (h : w.ownsRow N 55 5 (.slice A n c) n xs) (hi : i ≤ n) (hl : n ≤ 1000) (hV : Blk w V 55 vs.toArray) (hvs : vs.length = 5)
    (hA : ∀ a, A = some a → a.block ≠ V) (h1 : ∀ u ∈ xs, u.oneCell' = true) (h2 : ∀ u ∈ vs, u.oneCell' = true) (hN : N ≤ w.heap.size) :
    Calls Try.prog 64 #[.slice A n c, .int .i64 i, .slice (some ⟨V, 0, none⟩) 1 1] w fun e w' =>
      ∃ A' c', e = .returned (.slice A' (n + 1) c') ∧ w'.ownsRow N 55 5 (.slice A' (n + 1) c') (n + 1) (xs.take (i * 5) ++ vs ++ xs.drop (i * 5)) ∧ Upd (A.toList.map (·.block)) w w' := by
  by_cases hin : i = n
  · subst hin
    have hx := h.1
    rw [← hx, List.take_length, List.drop_length, List.append_nil]
    exact insS_end h hl hV hvs h2 hN
  · by_cases hnc : n + 1 ≤ c
    · exact insS_room h (by omega) hnc hl hV hvs hA h1 h2
    · exact insS_grow h (by omega) hnc hl hV hvs h1 h2 hN
end Go.Proofs.Ytjcbaelefacolaa
/- The layer delta: may layers be; how many subs somebody has; in which room somebody is. Conditions: what always holds of a state; the state in a box. -/
namespace Go.Proofs.Ytjcbaelefacolaa
open Go Go.RowKit
set_option maxHeartbeats 400000

theorem layers_any (w : World) (kd who room rights track layer tid : Int) (qA : Option Addr) (ql qc : Nat) :
    Calls Try.prog 62 #[.agg #[.int .i64 kd, .int .i64 who, .int .i64 room, .int .i64 rights, .int .i64 track, .slice qA ql qc, .int .i64 layer, .int .i64 tid]] w fun e w' =>
      e = .returned (.bool (decide (0 ≤ layer) && decide (layer ≤ 2) && decide (0 ≤ tid) && decide (tid ≤ 3))) ∧ Upd [] w w' := by
  obtain ⟨b1, hb1⟩ : ∃ x, x = (decide ((0 : Int) ≤ layer) && decide (layer ≤ 2)) := ⟨_, rfl⟩
  obtain ⟨b2, hb2⟩ : ∃ x, x = (decide ((0 : Int) ≤ tid) && decide (tid ≤ 3)) := ⟨_, rfl⟩
  have H1 : Hid (∀ w1, Calls Try.prog 32 #[.int .i64 layer, .int .i64 0, .int .i64 2] w1 fun e w' => e = .returned (.bool b1) ∧ w1 = w') := Lib.hid (fun w1 => by rw [hb1]; exact in_any w1 layer 0 2)
  have H2 : Hid (∀ w1, Calls Try.prog 32 #[.int .i64 tid, .int .i64 0, .int .i64 3] w1 fun e w' => e = .returned (.bool b2) ∧ w1 = w') := Lib.hid (fun w1 => by rw [hb2]; exact in_any w1 tid 0 3)
  rw [Bool.and_assoc, ← hb1, ← hb2]
  clear hb1 hb2
  go_enter Try.func62, Try.ntmps62
  go_wp2_with fail
  refine (H1.out _).mono ?_
  rintro _ _ ⟨rfl, rfl⟩
  cases b1 with
  | false =>
    go_wp2
    go_ret
    exact ⟨rfl, (Upd.refl _ _).alloc _⟩
  | true =>
    go_wp2_with fail
    refine (H2.out _).mono ?_
    rintro _ _ ⟨rfl, rfl⟩
    go_wp2
    go_ret
    exact ⟨by simp, (Upd.refl _ _).alloc _⟩
set_option maxRecDepth 100000 in
theorem has_any {w : World} {B T : Nat} {s : St} {h : SHd} (k : TIn w B T s h) (hl : s.bs.length ≤ 1000) (who : Int) :
    Calls Try.prog 63 #[.pointer (some ⟨T, 0, none⟩), .int .i64 who] w fun e w' => e = .returned (.int .i64 (hasN s who)) ∧ Upd [] w w' := by
  obtain ⟨z0, z1, z2, z3, z4, z5, z6⟩ := box_cells k.box
  have HC := Lib.hid ((CellsIn.of_own k.r.b).more (Nat.zero_le _) (Nat.le_refl _))
  obtain ⟨n, hn⟩ : ∃ n, n = s.bs.length := ⟨_, rfl⟩
  rw [← hn] at z6 HC hl
  have HN := Lib.hid hn
  obtain ⟨r, hr⟩ : ∃ r, r = hasN s who := ⟨_, rfl⟩
  rw [← hr]
  have HR := Lib.hid hr
  clear z0 z1 z2 z3 z4 z5 k hn hr
  obtain ⟨pA, pc, tx, tA, tc, bA, bc⟩ := h
  dsimp only at HC z6
  go_enter Try.func63, Try.ntmps63
  go_wp2
  go_loopg [5, 13] n (fun gk x5 x13 wr => ∃ i : Nat, i ≤ n ∧ n ≤ i + gk ∧ x13 = .int .i64 i ∧ x5 = .int .i64 ((s.bs.take i).countP (fun b => decide (b.who = who)) : Nat) ∧ Upd [] w wr)
  case atStart => exact ⟨0, Nat.zero_le _, by omega, rfl, by simp, Upd.refl _ _⟩
  case round =>
    obtain ⟨i, hi, hgi, rfl, rfl, hu⟩ := hrel
    obtain ⟨m, hm⟩ : ∃ m, m = (s.bs.take i).countP (fun b => decide (b.who = who)) := ⟨_, rfl⟩
    rw [← hm]
    have hml : m ≤ i := by rw [hm]; exact Nat.le_trans List.countP_le_length (by rw [List.length_take]; omega)
    by_cases hlt : i < n
    · have hlti : (i : Int) < (n : Int) := by omega
      have hw : IntKind.i64.wrap ((i : Int) + 1) = (i : Int) + 1 := IntWalk.i64_in _ (by omega)
      have hw2 : IntKind.i64.wrap ((m : Int) + 1) = (m : Int) + 1 := IntWalk.i64_in _ (by omega)
      obtain ⟨x, hx⟩ : ∃ x, s.bs[i]? = some x := ⟨_, List.getElem?_eq_getElem (by rw [← HN.out]; exact hlt)⟩
      obtain ⟨b, off, rfl, _, hb, hcc⟩ := HC.out.2 (by omega)
      have c0 := (hu.cell (p := ⟨b, off + (i * 5 + 0), none⟩) hb (by simp)).trans (hcc (i * 5 + 0) _ (flat_get encB_len s.bs i 0 x hx (by omega)))
      have c1 := (hu.cell (p := ⟨b, off + (i * 5 + 1), none⟩) hb (by simp)).trans (hcc (i * 5 + 1) _ (flat_get encB_len s.bs i 1 x hx (by omega)))
      have c2 := (hu.cell (p := ⟨b, off + (i * 5 + 2), none⟩) hb (by simp)).trans (hcc (i * 5 + 2) _ (flat_get encB_len s.bs i 2 x hx (by omega)))
      have c3 := (hu.cell (p := ⟨b, off + (i * 5 + 3), none⟩) hb (by simp)).trans (hcc (i * 5 + 3) _ (flat_get encB_len s.bs i 3 x hx (by omega)))
      have c4 := (hu.cell (p := ⟨b, off + (i * 5 + 4), none⟩) hb (by simp)).trans (hcc (i * 5 + 4) _ (flat_get encB_len s.bs i 4 x hx (by omega)))
      have HCN : Hid ((s.bs.take (i + 1)).countP (fun b => decide (b.who = who)) = m + (if x.who = who then 1 else 0)) := Lib.hid (by
        rw [List.take_add_one, hx, List.countP_append, ← hm]
        simp [List.countP_cons])
      obtain ⟨x0, x1, x2, x3, x4⟩ := x
      simp only [encB, List.getElem?_cons_zero, List.getElem?_cons_succ, List.getElem_cons_zero, List.getElem_cons_succ, ← Nat.add_assoc, Nat.add_zero] at c0 c1 c2 c3 c4
      dsimp only at HCN
      have HU := Lib.hid hu
      have HM := Lib.hid hm
      clear hu hx hb hcc hm
      by_cases he : x0 = who
      · have hq : (x0 == who) = true := by simpa using he
        rw [if_pos he] at HCN
        clear he
        go_wp2
        go_roundg (gk - 1)
        case measure => omega
        case rel => exact ⟨i + 1, by omega, by omega, by go_num, by rw [HCN.out]; go_num, HU.out.alloc _⟩
      · have hq : (x0 == who) = false := beq_eq_false_iff_ne.2 he
        rw [if_neg he] at HCN
        clear he
        go_wp2
        go_roundg (gk - 1)
        case measure => omega
        case rel => exact ⟨i + 1, by omega, by omega, by go_num, by rw [HCN.out]; go_num, HU.out.alloc _⟩
    · obtain rfl : i = n := by omega
      have HZ : Hid (r = m ∧ Upd [] w wr) := Lib.hid ⟨by rw [HR.out, hm, HN.out, List.take_length]; rfl, hu⟩
      clear hm hu
      go_wp2
      go_ret
      exact ⟨ret_int (by rw [HZ.out.1]), HZ.out.2⟩
end Go.Proofs.Ytjcbaelefacolaa
/- The layer delta: Subscribe. Conditions: what always holds of a state; the state in a box. -/
namespace Go.Proofs.Ytjcbaelefacolaa
open Go Go.RowKit
set_option maxHeartbeats 400000

set_option maxRecDepth 100000 in
set_option maxHeartbeats 4000000 in
theorem subscribe_any {w : World} {B T : Nat} {s : St} {h : SHd} {q : Rq} {qh : SH} (k : TIn w B T s h) (hi : Inv s) (hB : B ≤ w.heap.size) (hQ : QIn w B q qh) (hh : has (cP q.who) s.ps = true) :
    Calls Try.prog 27 #[.pointer (some ⟨T, 0, none⟩), .agg (qcells q qh).toArray] w fun e w' => e = .returned (.int .i64 (subscribeM s q).2) ∧ ((subscribeM s q).2 = 0 → ∃ h', TIn w' B T (subscribeM s q).1 h') ∧ Below B w w' := by
  have hnp : s.ps.length ≤ 16 := by have := hi.np; have := hi.cp; omega
  have hnt : s.ts.length ≤ 16 := by have := hi.nt; have := hi.ct; omega
  have hnb : s.bs.length ≤ 64 := by have := hi.nb; have := hi.cl; omega
  have hss : ∀ t, t ∈ s.ts → t.ss.length ≤ 1000 := fun t ht => by
    have := (hi.trk t ht).2.2
    unfold maySS at this
    simp only [Bool.and_eq_true, decide_eq_true_eq] at this
    omega
  have HSS := Lib.hid hss
  have HP := Lib.hid (fun (W : World) (u : Upd [] w W) => person_any (w := W) (s := s) (h := h) (k.upd u).r.st.p (by omega) hi.up q.who)
  have HT := Lib.hid (fun (W : World) (u : Upd [] w W) => track_any (w := W) (s := s) (h := h) (k.upd u).r.st.t (k.upd u).r.tx (by omega) hi.ut q.track)
  have hQ1 : ∀ W, Upd [] w W → RwIn W 0 1 qh.A q.ss.length qh.c (q.ss.map (Value.int .u32)) := fun W u => (hQ.below (u.below hB (by simp))).row (Nat.le_trans hB u.size)
  have HQ1 := Lib.hid hQ1
  have HQF := Lib.hid (And.intro hQ.few hQ.pos)
  have HPA := Lib.hid (per_at hi hh)
  have HTA := Lib.hid (fun hx : has (cT q.track) s.ts = true => trk_at hi hx)
  have HPH := Lib.hid hh
  obtain ⟨r, hr⟩ : ∃ r, r = subscribeM s q := ⟨_, rfl⟩
  rw [← hr]
  have HR := Lib.hid hr
  clear hr hQ hQ1 hss hh
  obtain ⟨kd, who, room, rights, track, ss, layer, tid⟩ := q
  obtain ⟨qA, qc⟩ := qh
  unfold qcells
  dsimp only at HP HT HQ1 HQF HPA HTA HPH ⊢
  obtain ⟨ql, hql⟩ : ∃ ql, ql = ss.length := ⟨_, rfl⟩
  rw [← hql] at HQ1 HQF ⊢
  have HQL := Lib.hid hql
  obtain ⟨W, hW⟩ : ∃ W, W = w.alloc (.cells #[.int .i64 kd, .int .i64 who, .int .i64 room, .int .i64 rights, .int .i64 track, .slice qA ql qc, .int .i64 layer, .int .i64 tid] 45) := ⟨_, rfl⟩
  obtain ⟨Z, hZ⟩ : ∃ Z, Z = w.heap.size := ⟨_, rfl⟩
  have hZB : Blk W Z 45 #[.int .i64 kd, .int .i64 who, .int .i64 room, .int .i64 rights, .int .i64 track, .slice qA ql qc, .int .i64 layer, .int .i64 tid] := by rw [hW, hZ]; exact Blk.new _ _ _
  have hu0 : Upd [] w W := by rw [hW]; exact (Upd.refl [] w).alloc _
  obtain ⟨lo, hlo⟩ : ∃ lo, lo = low (cP who) s.ps := ⟨_, rfl⟩
  rw [← hlo, HPH.out] at HP
  obtain ⟨lt, hlt⟩ : ∃ lt, lt = low (cT track) s.ts := ⟨_, rfl⟩
  obtain ⟨ht, hht⟩ : ∃ ht, ht = has (cT track) s.ts := ⟨_, rfl⟩
  rw [← hlt, ← hht] at HT
  have HLO := Lib.hid hlo
  have HLT := Lib.hid hlt
  have HHT := Lib.hid hht
  have hkW := k.upd hu0
  have HK := Lib.hid hkW
  have HB := Lib.hid (And.intro hB (Nat.le_trans hB hu0.size))
  have HU0 := Lib.hid hu0
  have HI := Lib.hid hi
  have HZB := Lib.hid hZB
  obtain ⟨p, hp⟩ : ∃ p, p = perAt s who := ⟨_, rfl⟩
  have hpl := HPA.out.1
  rw [← hlo, ← hp] at hpl
  have HPP := Lib.hid hp
  have HPR := Lib.hid (hi.per p (by rw [hp]; exact HPA.out.2.2)).2.2.2.2
  obtain ⟨A0, c0, hve, hnc, hA, _⟩ := own_form hkW.r.p
  injection hve with e1 _ e3
  obtain ⟨g, hg, hg1, hg2⟩ := hA (by have := (List.getElem?_eq_some_iff.1 hpl).1; omega)
  rw [← e1] at hg
  have hrow := hkW.r.p
  rw [hg] at hrow
  have hcell := fun (k : Nat) (u : Value) (hu : (s.ps.flatMap encP)[k]? = some u) => (by
    have := hrow.cells (g := g) rfl k u hu
    by_cases hk : k = 0
    · subst hk; exact this
    · simpa [Addr.add, hk] using this : W.cell? ⟨g, k, none⟩ = some u)
  have x1 : W.cell? ⟨g, lo * 3 + 1, none⟩ = some (.int .i64 p.room) := hcell (lo * 3 + 1) _ (flat_get encP_len s.ps lo 1 p hpl (by omega))
  have x2 : W.cell? ⟨g, lo * 3 + 2, none⟩ = some (.int .i64 p.rights) := hcell (lo * 3 + 2) _ (flat_get encP_len s.ps lo 2 p hpl (by omega))
  have hlon := (List.getElem?_eq_some_iff.1 hpl).1
  obtain ⟨z0, z1, z2, z3, z4, z5, z6⟩ := box_cells hkW.box
  obtain ⟨n, hn⟩ : ∃ n, n = s.ps.length := ⟨_, rfl⟩
  obtain ⟨n2, hn2⟩ : ∃ n2, n2 = s.ts.length := ⟨_, rfl⟩
  obtain ⟨n3, hn3⟩ : ∃ n3, n3 = s.bs.length := ⟨_, rfl⟩
  unfold scells at HP HT
  rw [← hn, ← hn2, ← hn3, hg] at HP HT
  rw [← hn, hg] at z4
  rw [← hn] at hnp hlon
  rw [← hn2] at z5 hnt
  rw [← hn3] at z6 hnb
  have hloi : (lo : Int) < (n : Int) := by omega
  have HN := Lib.hid (And.intro hn (And.intro hn2 hn3))
  have HG := Lib.hid hg
  have hTl := hkW.box.lt
  have hZl := hZB.lt
  have y0 : ∀ z : Cls (Upd [] W), z.w.cell? ⟨T, 0, none⟩ = _ := fun z => (z.h.cell (p := ⟨T, 0, none⟩) hTl (by simp)).trans z0
  have y1 : ∀ z : Cls (Upd [] W), z.w.cell? ⟨T, 1, none⟩ = _ := fun z => (z.h.cell (p := ⟨T, 1, none⟩) hTl (by simp)).trans z1
  have y2 : ∀ z : Cls (Upd [] W), z.w.cell? ⟨T, 2, none⟩ = _ := fun z => (z.h.cell (p := ⟨T, 2, none⟩) hTl (by simp)).trans z2
  have y3 : ∀ z : Cls (Upd [] W), z.w.cell? ⟨T, 3, none⟩ = _ := fun z => (z.h.cell (p := ⟨T, 3, none⟩) hTl (by simp)).trans z3
  have y4 : ∀ z : Cls (Upd [] W), z.w.cell? ⟨T, 4, none⟩ = _ := fun z => (z.h.cell (p := ⟨T, 4, none⟩) hTl (by simp)).trans z4
  have y5 : ∀ z : Cls (Upd [] W), z.w.cell? ⟨T, 5, none⟩ = _ := fun z => (z.h.cell (p := ⟨T, 5, none⟩) hTl (by simp)).trans z5
  have y6 : ∀ z : Cls (Upd [] W), z.w.cell? ⟨T, 6, none⟩ = _ := fun z => (z.h.cell (p := ⟨T, 6, none⟩) hTl (by simp)).trans z6
  have yr : ∀ z : Cls (Upd [] W), z.w.cell? ⟨g, lo * 3 + 2, none⟩ = some (.int .i64 p.rights) := fun z => (z.h.cell (p := ⟨g, lo * 3 + 2, none⟩) hg2 (by simp)).trans x2
  have yo : ∀ z : Cls (Upd [] W), z.w.cell? ⟨g, lo * 3 + 1, none⟩ = some (.int .i64 p.room) := fun z => (z.h.cell (p := ⟨g, lo * 3 + 1, none⟩) hg2 (by simp)).trans x1
  have q1 : ∀ z : Cls (Upd [] W), z.w.cell? ⟨Z, 1, none⟩ = some (.int .i64 who) := fun z => (z.h.cell (p := ⟨Z, 1, none⟩) hZl (by simp)).trans (hZB.cell 1)
  have q4 : ∀ z : Cls (Upd [] W), z.w.cell? ⟨Z, 4, none⟩ = some (.int .i64 track) := fun z => (z.h.cell (p := ⟨Z, 4, none⟩) hZl (by simp)).trans (hZB.cell 4)
  have q5 : ∀ z : Cls (Upd [] W), z.w.cell? ⟨Z, 5, none⟩ = some (.slice qA ql qc) := fun z => (z.h.cell (p := ⟨Z, 5, none⟩) hZl (by simp)).trans (hZB.cell 5)
  have HPC := Lib.hid (fun (z : Cls (Upd [] W)) => quiet_cls (C := Upd [] W) (x := z) ((HP.out z.w (hu0.next z.h)).mono fun e w' h => ⟨h.1, z.h.next h.2⟩))
  have HTC := Lib.hid (fun (z : Cls (Upd [] W)) => quiet_cls (C := Upd [] W) (x := z) ((HT.out z.w (hu0.next z.h)).mono fun e w' h => ⟨h.1, z.h.next h.2⟩))
  clear hlo hlt hht hkW hn hn2 hn3 z0 z1 z2 z3 z4 z5 z6 hu0 hi k hB hZB HP HT hql hA hcell hrow x1 x2 hp hpl e1 e3 hnc hg hg1
  go_enter Try.func27, Try.ntmps27
  go_upto_region 1 with fail
  rw [← hW, ← hZ]
  clear hW hZ
  refine wp_class_tail (Upd [] W) ((Upd.refl _ _).drewN 1) 10 (by kernel_rfl) (by kernel_rfl) (fun _ _ _ _ h => h) ?_
  intro hne
  simp only [List.take_succ_cons, List.take_zero, List.drop_succ_cons, List.drop_zero]
  repeat (go_big_quiet_step ((go_at_call 33; with_reducible exact HPC.out _)))
  refine wpQuiet_nil ?_
  rintro _ ⟨xa, rfl⟩
  go_wp2
  refine wp_class_tail (Upd [] W) (xa.h.drewN 1) 10 (by kernel_rfl) (by kernel_rfl) (fun _ _ _ _ h => h) ?_
  intro hne'
  simp only [List.take_succ_cons, List.take_zero, List.drop_succ_cons, List.drop_zero]
  repeat (go_big_quiet_step ((go_at_call 55; with_reducible exact HTC.out _)))
  refine wpQuiet_nil ?_
  rintro _ ⟨xb, rfl⟩
  obtain ⟨lb, hlb⟩ : ∃ lb, lb = low (cB who track) s.bs := ⟨_, rfl⟩
  obtain ⟨hb, hhb⟩ : ∃ hb, hb = has (cB who track) s.bs := ⟨_, rfl⟩
  have HLB := Lib.hid hlb
  have HHB := Lib.hid hhb
  have HSC := Lib.hid (fun (z : Cls (Upd [] W)) => quiet_cls (C := Upd [] W) (x := z) ((sub_any (w := z.w) (s := s) (h := h) (HK.out.upd z.h).r.st.b (by rw [← HN.out.2.2]; omega) HI.out.ub who track).mono fun e w' h => ⟨h.1, z.h.next h.2⟩))
  unfold scells at HSC
  rw [← hlb, ← hhb, ← HN.out.1, ← HN.out.2.1, ← HN.out.2.2, HG.out] at HSC
  clear hlb hhb HPC HTC
  go_wp2
  refine wp_class_tail (Upd [] W) (xb.h.drewN 1) 12 (by kernel_rfl) (by kernel_rfl) (fun _ _ _ _ h => h) ?_
  intro hne2
  simp only [List.take_succ_cons, List.take_zero, List.drop_succ_cons, List.drop_zero]
  repeat (go_big_quiet_step ((go_at_call 44; with_reducible exact HSC.out _)))
  refine wpQuiet_nil ?_
  rintro _ ⟨xc, rfl⟩
  clear HSC
  obtain ⟨rb, hrb⟩ : ∃ rb, rb = (bits BinOp.and IntKind.i64 p.rights 2 == 0) := ⟨_, rfl⟩
  have HRB := Lib.hid (hrb.trans (and_two HPR.out))
  have hrb' := hrb.symm
  clear hrb
  have zr := yr xc
  have z4 := y4 xc
  cases rb with
  | true =>
    have HX : Hid (r = (s, 24)) := Lib.hid (by
      rw [HR.out]
      unfold subscribeM
      dsimp only
      rw [← HPP.out, if_pos (by have := HRB.out.symm; simpa using this)])
    go_wp2
    go_ret
    exact ⟨ret_int (by rw [HX.out]), fun h0 => absurd h0 (by rw [HX.out]; simp), (HU0.out.next xc.h).below HB.out.1 (by simp)⟩
  | false =>
  have HRB1 : Hid (¬ p.rights / 2 % 2 = 0) := Lib.hid (by have := HRB.out.symm; simpa using this)
  cases ht with
  | false =>
    have HX : Hid (r = (s, 21)) := Lib.hid (by
      rw [HR.out]
      unfold subscribeM
      dsimp only
      rw [← HPP.out, if_neg HRB1.out, if_pos HHT.out.symm])
    go_wp2
    go_ret
    exact ⟨ret_int (by rw [HX.out]), fun h0 => absurd h0 (by rw [HX.out]; simp), (HU0.out.next xc.h).below HB.out.1 (by simp)⟩
  | true =>
  obtain ⟨tl, _, tm⟩ := HTA.out HHT.out.symm
  obtain ⟨t, htt⟩ : ∃ t, t = trkAt s track := ⟨_, rfl⟩
  rw [← HLT.out, ← htt] at tl
  rw [← htt] at tm
  have HTT := Lib.hid htt
  have hown : has (cP t.owner) s.ps = true := by
    obtain ⟨p', hp', e', _⟩ := HI.out.own t tm
    exact hasP_iff.2 ⟨p', hp', e'⟩
  obtain ⟨rm, hrm⟩ : ∃ rm, rm = (perAt s t.owner).room := ⟨_, rfl⟩
  have HRM := Lib.hid hrm
  have HRC := Lib.hid (fun (z : Cls (Upd [] W)) => quiet_cls (C := Upd [] W) (x := z) ((room_any (HK.out.upd z.h) HI.out t.owner hown).mono fun e w' h => ⟨h.1, z.h.next h.2⟩))
  rw [← hrm] at HRC
  have hxl : ∃ y, h.tx[lt]? = some y ∧ y.1 = t := by
    have := tl
    rw [← HK.out.r.tx, List.getElem?_map] at this
    cases hy : h.tx[lt]? with
    | none => rw [hy] at this; simp at this
    | some y => rw [hy] at this; exact ⟨y, rfl, by simpa using this⟩
  obtain ⟨y, hy, hyt⟩ := hxl
  have hlto := (List.getElem?_eq_some_iff.1 tl).1
  obtain ⟨A0, c0, hve, hnc, hA, _⟩ := own_form HK.out.r.t
  injection hve with e1 _ e3
  obtain ⟨tg, htg, htg1, htg2⟩ := hA (by omega)
  rw [← e1] at htg
  have hrow := HK.out.r.t
  rw [htg] at hrow
  have hcell := fun (k : Nat) (u : Value) (hu : (h.tx.flatMap encT)[k]? = some u) => (by
    have := hrow.cells (g := tg) rfl k u hu
    by_cases hk : k = 0
    · subst hk; exact this
    · simpa [Addr.add, hk] using this : W.cell? ⟨tg, k, none⟩ = some u)
  have x1 : W.cell? ⟨tg, lt * 4 + 1, none⟩ = some (.int .i64 t.owner) := by
    have := hcell (lt * 4 + 1) _ (flat_get encT_len h.tx lt 1 y hy (by omega))
    rw [← hyt]; exact this
  have yt : ∀ z : Cls (Upd [] W), z.w.cell? ⟨tg, lt * 4 + 1, none⟩ = some (.int .i64 t.owner) := fun z => (z.h.cell (p := ⟨tg, lt * 4 + 1, none⟩) htg2 (by simp)).trans x1
  rw [htg] at y5
  have hlti : (lt : Int) < (n2 : Int) := by rw [HN.out.2.1]; omega
  obtain ⟨d, hd⟩ : ∃ d, d = (rm != p.room) := ⟨_, rfl⟩
  have hq : (rm != p.room) = d := hd.symm
  have HD := Lib.hid hd
  clear hd tl tm htt hown hrm hy hyt hlto hA hrow hcell x1 e1 e3 hnc htg1 htg
  go_wp2
  refine wp_class_tail (Upd [] W) (xc.h.drewN 1) 19 (by kernel_rfl) (by kernel_rfl) (fun _ _ _ _ h => h) ?_
  intro hne3
  simp only [List.take_succ_cons, List.take_zero, List.drop_succ_cons, List.drop_zero]
  clear zr z4 hrb' HRB
  repeat (go_big_quiet_step ((go_at_call 61; with_reducible exact HRC.out _)))
  refine wpQuiet_nil ?_
  rintro _ ⟨xd, rfl⟩
  clear HRC hq
  cases d with
  | true =>
    have HX : Hid (r = (s, 24)) := Lib.hid (by
      rw [HR.out]
      unfold subscribeM
      dsimp only
      rw [← HPP.out, if_neg HRB1.out, if_neg (by rw [← HHT.out]; decide), ← HTT.out, ← HRM.out, if_pos (by have := HD.out.symm; simpa using this)])
    go_wp2
    go_ret
    exact ⟨ret_int (by rw [HX.out]), fun h0 => absurd h0 (by rw [HX.out]; simp), (HU0.out.next xd.h).below HB.out.1 (by simp)⟩
  | false =>
  have HD1 : Hid (¬ rm ≠ p.room) := Lib.hid (by have := HD.out.symm; simpa using this)
  obtain ⟨m, hm⟩ : ∃ m, m = (decide (0 ≤ layer) && decide (layer ≤ 2) && decide (0 ≤ tid) && decide (tid ≤ 3)) := ⟨_, rfl⟩
  have HM : Hid (m = layersM ⟨kd, who, room, rights, track, ss, layer, tid⟩) := Lib.hid hm
  have HQN : Hid (subscribeM s ⟨kd, who, room, rights, track, ss, layer, tid⟩ = if hb = true then (s, 22) else if m = false then (s, 1)
      else if s.c.subs ≤ hasN s who then (s, 25) else if s.c.slots ≤ s.bs.length then (s, 20)
      else ({ s with bs := ins s.bs lb ⟨who, track, layer, tid, false⟩ }, 0)) := Lib.hid (by
    unfold subscribeM
    dsimp only
    rw [← HPP.out, if_neg HRB1.out, if_neg (by rw [← HHT.out]; decide), ← HTT.out, ← HRM.out, if_neg HD1.out, ← HHB.out, ← HM.out, ← HLB.out])
  cases hb with
  | true =>
    have HX : Hid (r = (s, 22)) := Lib.hid (by rw [HR.out, HQN.out, if_pos rfl])
    go_wp2
    go_ret
    exact ⟨ret_int (by rw [HX.out]), fun h0 => absurd h0 (by rw [HX.out]; simp), (HU0.out.next xd.h).below HB.out.1 (by simp)⟩
  | false =>
  have HLC := Lib.hid (layers_any xd.w kd who room rights track layer tid qA ql qc)
  rw [← hm] at HLC
  have hZD := HZB.out.upd xd.h (by simp)
  have t0 := hZD.cell 0
  have t1 := hZD.cell 1
  have t2 := hZD.cell 2
  have t3 := hZD.cell 3
  have t4 := hZD.cell 4
  have t5 := hZD.cell 5
  have t6 := hZD.cell 6
  have t7 := hZD.cell 7
  simp only [List.getElem?_toArray, List.getElem?_cons_zero, List.getElem?_cons_succ] at t0 t1 t2 t3 t4 t5 t6 t7
  clear hm hZD
  go_wp2_with fail
  refine HLC.out.mono ?_
  rintro e we ⟨rfl, hue⟩
  have hwe := xd.h.next hue
  clear HLC hue t0 t1 t2 t3 t4 t5 t6 t7
  cases m with
  | false =>
    have HX : Hid (r = (s, 1)) := Lib.hid (by rw [HR.out, HQN.out, if_neg (by simp), if_pos rfl])
    go_wp2
    go_ret
    exact ⟨ret_int (by rw [HX.out]), fun h0 => absurd h0 (by rw [HX.out]; simp), (HU0.out.next hwe).below HB.out.1 (by simp)⟩
  | true =>
  obtain ⟨nn, hnn⟩ : ∃ nn, nn = hasN s who := ⟨_, rfl⟩
  have HNN := Lib.hid hnn
  have HHC := Lib.hid (fun (z : Cls (Upd [] W)) => quiet_cls (C := Upd [] W) (x := z) ((has_any (HK.out.upd z.h) (by rw [← HN.out.2.2]; omega) who).mono fun e w' h => ⟨h.1, z.h.next h.2⟩))
  rw [← hnn] at HHC
  clear hnn
  go_wp2
  refine wp_class_tail (Upd [] W) (hwe.drewN 1) 10 (by kernel_rfl) (by kernel_rfl) (fun _ _ _ _ h => h) ?_
  intro hne4
  simp only [List.take_succ_cons, List.take_zero, List.drop_succ_cons, List.drop_zero]
  repeat (go_big_quiet_step ((go_at_call 63; with_reducible exact HHC.out _)))
  refine wpQuiet_nil ?_
  rintro _ ⟨xf, rfl⟩
  clear HHC
  by_cases hmany : s.c.subs ≤ (nn : Int)
  · have HX : Hid (r = (s, 25)) := Lib.hid (by rw [HR.out, HQN.out, if_neg (by simp), if_neg (by simp), if_pos (by rw [← HNN.out]; exact hmany)])
    have hd : decide (s.c.subs ≤ (nn : Int)) = true := by simpa using hmany
    go_wp2
    go_ret
    exact ⟨ret_int (by rw [HX.out]), fun h0 => absurd h0 (by rw [HX.out]; simp), (HU0.out.next xf.h).below HB.out.1 (by simp)⟩
  have hd : decide (s.c.subs ≤ (nn : Int)) = false := by simpa using hmany
  have HMANY : Hid (¬ s.c.subs ≤ (hasN s who : Int)) := Lib.hid (by rw [← HNN.out]; exact hmany)
  go_wp2
  refine wp_class_tail (Upd [] W) (xf.h.drewN 1) 11 (by kernel_rfl) (by kernel_rfl) (fun _ _ _ _ h => h) ?_
  intro hne5
  simp only [List.take_succ_cons, List.take_zero, List.drop_succ_cons, List.drop_zero]
  repeat (go_big_quiet_step (fail))
  refine wpQuiet_nil ?_
  rintro _ ⟨xg, rfl⟩
  by_cases hfull : s.c.slots ≤ (n3 : Int)
  · have HX : Hid (r = (s, 20)) := Lib.hid (by rw [HR.out, HQN.out, if_neg (by simp), if_neg (by simp), if_neg (by have := HMANY.out; omega), if_pos (by rw [← HN.out.2.2]; exact hfull)])
    have hd' : decide (s.c.slots ≤ (n3 : Int)) = true := by simpa using hfull
    go_wp2
    go_ret
    exact ⟨ret_int (by rw [HX.out]), fun h0 => absurd h0 (by rw [HX.out]; simp), (HU0.out.next xg.h).below HB.out.1 (by simp)⟩
  have hd' : decide (s.c.slots ≤ (n3 : Int)) = false := by simpa using hfull
  have HX : Hid (r = ({ s with bs := ins s.bs lb ⟨who, track, layer, tid, false⟩ }, 0)) := Lib.hid (by rw [HR.out, HQN.out, if_neg (by simp), if_neg (by simp), if_neg (by have := HMANY.out; omega), if_neg (by rw [← HN.out.2.2]; exact hfull)])
  obtain ⟨w2, hw2⟩ : ∃ W2, W2 = xg.w := ⟨_, rfl⟩
  have hux := xg.h
  rw [← hw2] at hux ⊢
  have HU2 := Lib.hid (HU0.out.next hux)
  have HK2 := Lib.hid (HK.out.upd hux)
  have HZ2 := Lib.hid (HZB.out.upd hux (by simp))
  clear hw2 hux y0 y1 y2 y3 y4 y5 y6 yr yo yt q1 q4 q5 HK HZB hmany hwe
  obtain ⟨PB, hPB⟩ : ∃ PB, PB = h.bA.toList.map (·.block) := ⟨_, rfl⟩
  have hTP : T ∉ PB := fun hm => own_box HK2.out.r.b HK2.out.box (by decide) (own_in HK2.out.r.b T (by rw [← hPB]; exact hm)).1
  have hZP : Z ∉ PB := fun hm => own_box HK2.out.r.b HZ2.out (by decide) (own_in HK2.out.r.b Z (by rw [← hPB]; exact hm)).1
  obtain ⟨z0, z1, z2, z3, z4, z5, z6⟩ := box_cells HK2.out.box
  rw [← HN.out.2.2] at z6
  have hTl2 := HK2.out.box.lt
  have y6 : ∀ z : Cls (Upd PB w2), z.w.cell? ⟨T, 6, none⟩ = _ := fun z => (z.h.cell (p := ⟨T, 6, none⟩) hTl2 hTP).trans z6
  have q1 : ∀ z : Cls (Upd PB w2), z.w.cell? ⟨Z, 1, none⟩ = some (.int .i64 who) := fun z => (z.h.cell (p := ⟨Z, 1, none⟩) HZ2.out.lt hZP).trans (HZ2.out.cell 1)
  have q4 : ∀ z : Cls (Upd PB w2), z.w.cell? ⟨Z, 4, none⟩ = some (.int .i64 track) := fun z => (z.h.cell (p := ⟨Z, 4, none⟩) HZ2.out.lt hZP).trans (HZ2.out.cell 4)
  have q6 : ∀ z : Cls (Upd PB w2), z.w.cell? ⟨Z, 6, none⟩ = some (.int .i64 layer) := fun z => (z.h.cell (p := ⟨Z, 6, none⟩) HZ2.out.lt hZP).trans (HZ2.out.cell 6)
  have q7 : ∀ z : Cls (Upd PB w2), z.w.cell? ⟨Z, 7, none⟩ = some (.int .i64 tid) := fun z => (z.h.cell (p := ⟨Z, 7, none⟩) HZ2.out.lt hZP).trans (HZ2.out.cell 7)
  obtain ⟨W3, hW3⟩ : ∃ W3, W3 = (w2.drewN 1).alloc (.cells #[.int .i64 who, .int .i64 track, .int .i64 layer, .int .i64 tid, .bool false] 55) := ⟨_, rfl⟩
  obtain ⟨V, hV⟩ : ∃ V, V = w2.heap.size := ⟨_, rfl⟩
  have u3 : Upd [] w2 W3 := by rw [hW3]; exact ((Upd.refl [] w2).drewN 1).alloc _
  have hVB : Blk W3 V 55 (encB ⟨who, track, layer, tid, false⟩).toArray := by rw [hW3, hV]; exact Blk.new _ _ _
  have k3 := HK2.out.upd u3
  have hlon3 : lb ≤ n3 := by rw [HLB.out, HN.out.2.2]; exact low_le _ _
  have hsz : B ≤ w2.heap.size := Nat.le_trans HB.out.1 HU2.out.size
  have hcall := insS_any (i := lb) (V := V) (vs := encB ⟨who, track, layer, tid, false⟩) k3.r.b (by rw [← HN.out.2.2]; exact hlon3) (by rw [← HN.out.2.2]; omega) hVB rfl (fun a hA e => by
    have h1 := (own_block_lt HK2.out.r.b (g := a.block) (by rw [hA]; rfl)).2
    rw [hV] at e
    omega) (flat_ones encB_one s.bs) (encB_one _) (Nat.le_trans hsz u3.size)
  rw [← ins_flat encB_len, ← HN.out.2.2] at hcall
  have HCALL := Lib.hid hcall
  have HK3 := Lib.hid k3
  have HU3 := Lib.hid u3
  have HPB := Lib.hid hPB
  have HTP := Lib.hid hTP
  have HLON := Lib.hid hlon3
  have HSZ := Lib.hid hsz
  clear z0 z1 z2 z3 z4 z5 z6 hcall k3 u3 hVB HZ2 HK2 hPB hTP hZP hlon3 hsz hTl hZl hd
  go_wp2
  refine wp_held_tail (Upd PB w2) ((Upd.refl _ _).drewN 1) [0, 1, 2, 3, 4, 5, 6, 7, 8, 9, 10, 11, 12, 13, 14] [15, 16, 17, 18, 19] (by kernel_rfl) (by kernel_rfl) (fun _ _ _ _ h => h) ?_
  intro hne6
  simp only [pick3, List.map_cons, List.map_nil, List.getElem?_cons_zero, List.getElem?_cons_succ, Option.getD_some]
  repeat (go_big_quiet_step (fail))
  refine wpQuiet_nil ?_
  clear y6 q1 q4 q6 q7
  refine wpHeld_step rfl fun K hK => ?_
  go_simp
  rw [← hW3, ← hV]
  clear hW3 hV
  refine hK.out _ _ (.inr ⟨⟨W3, HU3.out.more (by simp)⟩, rfl⟩) ?_
  clear hK K
  refine wpHeld_step rfl fun K hK => ?_
  go_simp
  refine HCALL.out.mono ?_
  rintro e w4 ⟨A', c', rfl, ho, hu4⟩
  rw [← HPB.out] at hu4
  have HU4 := Lib.hid (show Upd PB w2 w4 from (HU3.out.more (by simp)).next hu4)
  refine hK.out _ _ (.inr ⟨⟨w4, HU4.out⟩, rfl⟩) ?_
  clear hK K HCALL
  have hii : (ins s.bs lb ⟨who, track, layer, tid, false⟩).length = n3 + 1 := by rw [ins_length _ _ _ (by rw [← HN.out.2.2]; exact HLON.out), ← HN.out.2.2]
  have hput := HK3.out.putB (by rw [← HPB.out]; exact hu4) (bs' := ins s.bs lb ⟨who, track, layer, tid, false⟩) (A' := A') (c' := c') (by rw [hii]; exact ho)
  rw [hii] at hput
  have hfT := (HK3.out.box.upd hu4 HTP.out).frozen 6
  have hcT := (HK3.out.box.upd hu4 HTP.out).cell 6
  have HPUT := Lib.hid hput
  have HCT : Hid _ := Lib.hid hcT
  clear ho hu4 hput hcT hii
  have hcT : w4.cell? ⟨T, 6, none⟩ = some (.slice h.bA n3 h.bc) := by have := HCT.out; rw [HN.out.2.2]; exact this
  refine wpHeld_step rfl fun K hK => ?_
  go_simp
  refine hK.out _ _ (.inr ⟨⟨w4, HU4.out⟩, rfl⟩) ?_
  clear hK K
  refine wpHeld_step rfl fun K hK => ?_
  go_simp
  refine hK.out _ _ (.inr ⟨⟨w4, HU4.out⟩, rfl⟩) ?_
  clear hK K
  refine wpHeld_last ?_
  obtain ⟨w5, hw5⟩ : ∃ w5, w5 = w4.setCell ⟨T, 6, none⟩ (.slice A' (n3 + 1) c') := ⟨_, rfl⟩
  rw [← hw5] at HPUT
  have HFIN : Hid (Below B w w5) := Lib.hid ((HU2.out.next HU3.out).below HB.out.1 (by simp) |>.trans (below_of HPUT.out.2 HK3.out.BT (Nat.le_trans HSZ.out HU3.out.size) (fun s hs => (own_in HK3.out.r.b s hs).2)))
  go_wp2
  rw [← hw5]
  clear hw5
  go_ret
  exact ⟨ret_int (by rw [HX.out]), fun _ => ⟨_, by rw [HX.out]; exact HPUT.out.1⟩, HFIN.out⟩
end Go.Proofs.Ytjcbaelefacolaa
/- slices.IndexFunc at louver/delta.Track, by the function value (*louver/delta.State).leave$3: the first place. Conditions: what the function value answers; no more than 100000. -/
namespace Go.Proofs.Ytjcbaelefacolaa
open Go Go.RowKit
set_option maxHeartbeats 400000

set_option maxRecDepth 100000 in
theorem idxT3_any {w : World} {A : Option Addr} {n c : Nat} {R : List (Trk × SH)} (p : (Trk × SH) → Bool) (z : Option Addr) (h : CellsIn w 0 w.heap.size 4 A n (R.flatMap encT)) (hn : R.length = n) (hl : n ≤ 100000)
    (hp : ∀ W, Upd [] w W → ∀ x, x ∈ R → Calls Try.prog 54 #[.agg (encT x).toArray, .pointer z] W fun e W' => e = .returned (.bool (p x)) ∧ Upd [] W W') :
    Calls Try.prog 95 #[.slice A n c, .func (.func 54) #[] #[.pointer z]] w fun e w' => e = .returned (.int .i64 (idxM p R)) ∧ Upd [] w w' := by
  have HC := Lib.hid h
  have HN := Lib.hid hn
  have HP := Lib.hid hp
  obtain ⟨r, hr⟩ : ∃ r, r = idxM p R := ⟨_, rfl⟩
  rw [← hr]
  have HR := Lib.hid hr
  clear h hn hp hr
  go_enter Try.func95, Try.ntmps95
  go_wp2
  go_loopg [8] n (fun gk x8 wr => ∃ k : Nat, k ≤ n ∧ n ≤ k + gk ∧ x8 = .int .i64 k ∧ (∀ x, x ∈ R.take k → p x = false) ∧ Upd [] w wr)
  case atStart => exact ⟨0, Nat.zero_le _, by omega, rfl, by simp, Upd.refl _ _⟩
  case round =>
    obtain ⟨k, hk, hgk, rfl, hall, hu⟩ := hrel
    by_cases hlt : k < n
    · have hlti : (k : Int) < (n : Int) := by omega
      have hw : IntKind.i64.wrap ((k : Int) + 1) = (k : Int) + 1 := IntWalk.i64_in _ (by omega)
      obtain ⟨x, hx⟩ : ∃ x, R[k]? = some x := ⟨_, List.getElem?_eq_getElem (by rw [HN.out]; exact hlt)⟩
      obtain ⟨b, off, rfl, _, hb, hcc⟩ := HC.out.2 (by omega)
      have HCL := Lib.hid (HP.out wr hu x (List.mem_of_getElem? hx))
      obtain ⟨y, hy⟩ : ∃ y, y = p x := ⟨_, rfl⟩
      rw [← hy] at HCL
      have HX : Hid (y = true → r = (k : Int)) := Lib.hid (fun h => by
        rw [HR.out]
        exact idxM_at hx (by rw [← hy]; exact h) hall)
      have HALL : Hid (y = false → ∀ x, x ∈ R.take (k + 1) → p x = false) := Lib.hid (fun h a ha => by
        rw [List.take_add_one, hx, List.mem_append] at ha
        rcases ha with ha | ha
        · exact hall a ha
        · simp at ha
          rw [ha, ← hy]; exact h)
      have c0 := (hu.cell (p := ⟨b, off + (k * 4 + 0), none⟩) hb (by simp)).trans (hcc (k * 4 + 0) _ (flat_get encT_len R k 0 x hx (by omega)))
      have c1 := (hu.cell (p := ⟨b, off + (k * 4 + 1), none⟩) hb (by simp)).trans (hcc (k * 4 + 1) _ (flat_get encT_len R k 1 x hx (by omega)))
      have c2 := (hu.cell (p := ⟨b, off + (k * 4 + 2), none⟩) hb (by simp)).trans (hcc (k * 4 + 2) _ (flat_get encT_len R k 2 x hx (by omega)))
      have c3 := (hu.cell (p := ⟨b, off + (k * 4 + 3), none⟩) hb (by simp)).trans (hcc (k * 4 + 3) _ (flat_get encT_len R k 3 x hx (by omega)))
      obtain ⟨⟨x0, x1, x2, xs⟩, ⟨xA, xc⟩⟩ := x
      simp only [encT, List.getElem?_cons_zero, List.getElem?_cons_succ, List.getElem_cons_zero, List.getElem_cons_succ, ← Nat.add_assoc, Nat.add_zero] at c0 c1 c2 c3
      simp only [encT] at HCL
      have HU := Lib.hid hu
      clear hall hu hx hb hcc hy
      go_wp2_with fail
      refine HCL.out.mono ?_
      rintro e w1 ⟨rfl, hu1⟩
      have HU1 := Lib.hid (HU.out.next hu1)
      clear hu1 HCL c0 c1 c2 c3
      cases y with
      | true =>
        go_wp2
        go_ret
        exact ⟨ret_int (HX.out (by trivial)).symm, HU1.out⟩
      | false =>
        go_wp2
        go_roundg (gk - 1)
        case measure => omega
        case rel => exact ⟨k + 1, by omega, by omega, by go_num, HALL.out (by trivial), HU1.out⟩
    · obtain rfl : k = n := by omega
      have HU := Lib.hid hu
      have HX : Hid (r = -1) := Lib.hid (by
        rw [HR.out]
        refine idxM_no ?_
        rw [← HN.out, List.take_length] at hall
        exact hall)
      clear hall hu
      go_wp2
      go_ret
      exact ⟨ret_int HX.out.symm, HU.out⟩
end Go.Proofs.Ytjcbaelefacolaa
/- slices.DeleteFunc at louver/delta.Track, by the function value (*louver/delta.State).leave$3: what stays, in place. Conditions: what the function value answers; no more than 100000. -/
namespace Go.Proofs.Ytjcbaelefacolaa
open Go Go.RowKit
set_option maxHeartbeats 400000

/-- one element stored -/
def delT3_set (w : World) (b i : Nat) (x : (Trk × SH)) : World := ((((w.setCell ⟨b, i * 4, none⟩ (.int .i64 x.1.id)).setCell ⟨b, i * 4 + 1, none⟩ (.int .i64 x.1.owner)).setCell ⟨b, i * 4 + 2, none⟩ (.int .i64 x.1.frm)).setCell ⟨b, i * 4 + 3, none⟩ (.slice x.2.A x.1.ss.length x.2.c))
theorem delT3_row {w : World} {N b n c i : Nat} {X : List (Trk × SH)} (h : w.ownsRow N 76 4 (.slice (some ⟨b, 0, none⟩) n c) n (X.flatMap encT)) (hi : i < X.length) (x : (Trk × SH)) :
    (delT3_set w b i x).ownsRow N 76 4 (.slice (some ⟨b, 0, none⟩) n c) n ((X.set i x).flatMap encT) ∧ Upd [b] w (delT3_set w b i x) := by
  have hy : X[i]? = some X[i] := List.getElem?_eq_getElem hi
  have h1 := (h.stored (i * 4 + 0) (.int .i64 x.1.id)).1
  rw [flat_set encT_len X i 0 X[i] ((⟨x.1.id, X[i].1.owner, X[i].1.frm, X[i].1.ss⟩, X[i].2) : Trk × SH) _ hy (by omega) rfl] at h1
  have h2 := (h1.stored (i * 4 + 1) (.int .i64 x.1.owner)).1
  rw [flat_set encT_len _ i 1 ((⟨x.1.id, X[i].1.owner, X[i].1.frm, X[i].1.ss⟩, X[i].2) : Trk × SH) ((⟨x.1.id, x.1.owner, X[i].1.frm, X[i].1.ss⟩, X[i].2) : Trk × SH) _ (by rw [List.getElem?_set_self hi]) (by omega) rfl, List.set_set] at h2
  have h3 := (h2.stored (i * 4 + 2) (.int .i64 x.1.frm)).1
  rw [flat_set encT_len _ i 2 ((⟨x.1.id, x.1.owner, X[i].1.frm, X[i].1.ss⟩, X[i].2) : Trk × SH) ((⟨x.1.id, x.1.owner, x.1.frm, X[i].1.ss⟩, X[i].2) : Trk × SH) _ (by rw [List.getElem?_set_self hi]) (by omega) rfl, List.set_set] at h3
  have h4 := (h3.stored (i * 4 + 3) (.slice x.2.A x.1.ss.length x.2.c)).1
  rw [flat_set encT_len _ i 3 ((⟨x.1.id, x.1.owner, x.1.frm, X[i].1.ss⟩, X[i].2) : Trk × SH) x _ (by rw [List.getElem?_set_self hi]) (by omega) rfl, List.set_set] at h4
  exact ⟨h4, ((((Upd.refl [b] w).setCell (p := ⟨b, i * 4, none⟩) (.inl (List.mem_singleton.2 rfl)) _).setCell (p := ⟨b, i * 4 + 1, none⟩) (.inl (List.mem_singleton.2 rfl)) _).setCell (p := ⟨b, i * 4 + 2, none⟩) (.inl (List.mem_singleton.2 rfl)) _).setCell (p := ⟨b, i * 4 + 3, none⟩) (.inl (List.mem_singleton.2 rfl)) _⟩
set_option maxRecDepth 100000 in
theorem delT3_any {w : World} {N : Nat} {A : Option Addr} {n c : Nat} {R : List (Trk × SH)} (p : (Trk × SH) → Bool) (z : Option Addr) (h : w.ownsRow N 76 4 (.slice A n c) n (R.flatMap encT)) (hn : R.length = n) (hl : n ≤ 100000)
    (hp : ∀ W, Upd (A.toList.map (·.block)) w W → ∀ x, x ∈ R → Calls Try.prog 54 #[.agg (encT x).toArray, .pointer z] W fun e W' => e = .returned (.bool (p x)) ∧ Upd [] W W') :
    Calls Try.prog 80 #[.slice A n c, .func (.func 54) #[] #[.pointer z]] w fun e w' =>
      e = .returned (.slice A (R.filter (fun x => !p x)).length c) ∧ w'.ownsRow N 76 4 (.slice A (R.filter (fun x => !p x)).length c) (R.filter (fun x => !p x)).length ((R.filter (fun x => !p x)).flatMap encT) ∧ Upd (A.toList.map (·.block)) w w' := by
  have HO := Lib.hid h
  have HN := Lib.hid hn
  have HP := Lib.hid hp
  have HI := Lib.hid (idxT3_any p z ((CellsIn.of_own h).more (Nat.zero_le _) (Nat.le_refl _)) hn hl (c := c) (fun W u x hx => hp W (u.more (by simp)) x hx))
  obtain ⟨F, hF⟩ : ∃ F, F = R.filter (fun x => !p x) := ⟨_, rfl⟩
  rw [← hF]
  have HF := Lib.hid hF
  clear h hn hp hF
  go_enter Try.func80, Try.ntmps80
  go_wp2_with fail
  refine HI.out.mono ?_
  rintro e w1 ⟨rfl, hu1⟩
  have HU1 := Lib.hid hu1
  clear hu1 HI
  rcases idxM_or p R with ⟨hr, hall⟩ | ⟨i, x, hr, hi, hx, hpx, hall⟩
  · rw [hr]
    have HE : Hid (F = R) := Lib.hid (by rw [HF.out]; exact List.filter_eq_self.2 (fun y hy => by rw [hall y hy]; rfl))
    clear hr hall
    have HG : Hid (F.length = n ∧ w1.ownsRow N 76 4 (.slice A n c) n (F.flatMap encT) ∧ Upd (A.toList.map (·.block)) w w1) :=
      Lib.hid ⟨by rw [HE.out, HN.out], by rw [HE.out]; exact ownsRow_upd HO.out HU1.out (by simp), HU1.out.more (by simp)⟩
    go_wp2
    go_ret
    rw [HG.out.1]
    exact ⟨rfl, HG.out.2⟩
  · rw [hr]
    have hib : i < n := by rw [← HN.out]; exact (List.getElem?_eq_some_iff.1 hx).1
    obtain ⟨A', c', hve, hnc, hA, _⟩ := own_form HO.out
    injection hve with e1 _ e3
    subst e1
    subst e3
    obtain ⟨b, hb, hb1, hb2⟩ := hA (by omega)
    subst hb
    have hwi : IntKind.i64.wrap ((i : Int) + 1) = (i : Int) + 1 := IntWalk.i64_in _ (by omega)
    have hne1 : ¬ (i : Int) = -1 := by omega
    have HM : Hid (∃ X : List (Trk × SH), X.length = n ∧ X.take i = (R.take (i + 1)).filter (fun x => !p x) ∧ X.drop (i + 1) = R.drop (i + 1) ∧ w1.ownsRow N 76 4 (.slice (some ⟨b, 0, none⟩) n c) n (X.flatMap encT)) := by
      refine Lib.hid ⟨R, HN.out, ?_, rfl, ownsRow_upd HO.out HU1.out (by simp)⟩
      rw [List.take_add_one, hx, List.filter_append, List.filter_eq_self.2 (fun y hy => by rw [hall y hy]; rfl)]
      simp [hpx]
    clear hr hall hpx hx hA
    go_wp2
    go_loopg [5, 6] n (fun gk x5 x6 wr => ∃ i j : Nat, x5 = .int .i64 i ∧ x6 = .int .i64 j ∧ i < j ∧ j ≤ n ∧ n ≤ j + gk ∧
      (∃ X : List (Trk × SH), X.length = n ∧ X.take i = (R.take j).filter (fun x => !p x) ∧ X.drop j = R.drop j ∧ wr.ownsRow N 76 4 (.slice (some ⟨b, 0, none⟩) n c) n (X.flatMap encT)) ∧ Upd [b] w wr)
    case atStart => exact ⟨i, i + 1, rfl, by go_num, by omega, by omega, by omega, HM.out, HU1.out.more (by simp)⟩
    case round =>
      obtain ⟨i, j, rfl, rfl, hij, hjn, hgj, ⟨X, hXl, hXt, hXd, hXr⟩, hu⟩ := hrel
      by_cases hlt : j < n
      · have hltj : (j : Int) < (n : Int) := by omega
        have hin : (i : Int) < (n : Int) := by omega
        have hwj : IntKind.i64.wrap ((j : Int) + 1) = (j : Int) + 1 := IntWalk.i64_in _ (by omega)
        have hwi2 : IntKind.i64.wrap ((i : Int) + 1) = (i : Int) + 1 := IntWalk.i64_in _ (by omega)
        obtain ⟨x, hx⟩ : ∃ x, X[j]? = some x := ⟨_, List.getElem?_eq_getElem (by rw [hXl]; exact hlt)⟩
        have hRx : R[j]? = some x := by
          have := congrArg (fun l => l[0]?) hXd
          simp only [List.getElem?_drop] at this
          rw [← hx]; simpa using this.symm
        have hcell := fun (k : Nat) (u : Value) (hu : (X.flatMap encT)[k]? = some u) => (by
          have := hXr.cells (g := b) rfl k u hu
          by_cases hk : k = 0
          · subst hk; exact this
          · simpa [Addr.add, hk] using this : wr.cell? ⟨b, k, none⟩ = some u)
        have hbw : b < wr.heap.size := (own_block_lt hXr (g := b) rfl).2
        obtain ⟨y, hy⟩ : ∃ y, y = p x := ⟨_, rfl⟩
        have hcl := fun (o : Obj) => HP.out (wr.alloc o) (hu.alloc o) x (List.mem_of_getElem? hRx)
        rw [← hy] at hcl
        have HCL := Lib.hid hcl
        have HXX := Lib.hid (And.intro hXl (And.intro hXt (And.intro hXd hXr)))
        have HSK : Hid (y = true → X.take i = (R.take (j + 1)).filter (fun x => !p x) ∧ X.drop (j + 1) = R.drop (j + 1)) := Lib.hid (fun h => by
          refine ⟨?_, ?_⟩
          · rw [List.take_add_one, hRx, List.filter_append, hXt]
            simp [← hy, h]
          · have := congrArg (List.drop 1) hXd
            simpa [List.drop_drop] using this)
        have HST : Hid (y = false → (X.set i x).take (i + 1) = (R.take (j + 1)).filter (fun x => !p x) ∧ (X.set i x).drop (j + 1) = R.drop (j + 1) ∧ (X.set i x).length = n) := Lib.hid (fun h => by
          refine ⟨?_, ?_, by rw [List.length_set, hXl]⟩
          · have hl : (X.set i x).take (i + 1) = X.take i ++ [x] := by
              rw [List.take_add_one, List.getElem?_set_self (by omega), List.take_set_of_le (Nat.le_refl _)]
              rfl
            rw [hl, List.take_add_one (l := R), hRx, List.filter_append, ← hXt]
            simp [← hy, h]
          · rw [List.drop_set_of_lt (by omega)]
            have := congrArg (List.drop 1) hXd
            simpa [List.drop_drop] using this)
        have HXX2 := Lib.hid hx
        have HU := Lib.hid hu
        have HFILL := Lib.hid (fun (w2 : World) (u : Upd [] wr w2) => delT3_row (ownsRow_upd hXr u (by simp)) (i := i) (by rw [hXl]; omega) x)
        unfold delT3_set at HFILL
        have c0 := hcell (j * 4 + 0) _ (flat_get encT_len X j 0 x hx (by omega))
        have c1 := hcell (j * 4 + 1) _ (flat_get encT_len X j 1 x hx (by omega))
        have c2 := hcell (j * 4 + 2) _ (flat_get encT_len X j 2 x hx (by omega))
        have c3 := hcell (j * 4 + 3) _ (flat_get encT_len X j 3 x hx (by omega))
        obtain ⟨⟨x0, x1, x2, xs⟩, ⟨xA, xc⟩⟩ := x
        simp only [encT, List.getElem?_cons_zero, List.getElem?_cons_succ, List.getElem_cons_zero, List.getElem_cons_succ, ← Nat.add_assoc, Nat.add_zero] at c0 c1 c2 c3
        simp only [encT] at HCL
        have HCELL := Lib.hid hcell
        have HBN := Lib.hid hbw
        clear hcell hcl hx hRx hXl hXt hXd hXr hu hy
        go_upto_region 8 with fail
        obtain ⟨w2, hw2⟩ : ∃ w2, w2 = wr.alloc (.cells #[.int .i64 x0, .int .i64 x1, .int .i64 x2, .slice xA xs.length xc] 76) := ⟨_, rfl⟩
        obtain ⟨V, hV⟩ : ∃ V, V = wr.heap.size := ⟨_, rfl⟩
        have hBv : Blk w2 V 76 #[.int .i64 x0, .int .i64 x1, .int .i64 x2, .slice xA xs.length xc] := by rw [hw2, hV]; exact Blk.new _ _ _
        have hu2 : Upd [] wr w2 := by rw [hw2]; exact (Upd.refl [] wr).alloc _
        have hcl2 := HCL.out (.cells #[.int .i64 x0, .int .i64 x1, .int .i64 x2, .slice xA xs.length xc] 76)
        rw [← hw2] at hcl2
        rw [← hw2, ← hV]
        have HCL2 := Lib.hid hcl2
        have HBV := Lib.hid hBv
        have HU2 := Lib.hid hu2
        have HVN : Hid (b ≠ V) := Lib.hid (by rw [hV]; have := HBN.out; omega)
        clear hw2 hV hcl2 hu2 HCL c0 c1 c2 c3
        have v0 := hBv.cell 0
        have v1 := hBv.cell 1
        have v2 := hBv.cell 2
        have v3 := hBv.cell 3
        simp only [List.getElem?_toArray, List.getElem?_cons_zero, List.getElem?_cons_succ] at v0 v1 v2 v3
        clear hBv
        go_wp2_with fail
        refine HCL2.out.mono ?_
        rintro e w3 ⟨rfl, hu3⟩
        have HU3 := Lib.hid (HU2.out.next hu3)
        have HU3' := Lib.hid hu3
        clear hu3 HCL2 v0 v1 v2 v3
        cases y with
        | true =>
          have HS := HSK.out (by trivial)
          have HREL : Hid (∃ X : List (Trk × SH), X.length = n ∧ X.take i = (R.take (j + 1)).filter (fun x => !p x) ∧ X.drop (j + 1) = R.drop (j + 1) ∧ w3.ownsRow N 76 4 (.slice (some ⟨b, 0, none⟩) n c) n (X.flatMap encT)) :=
            Lib.hid ⟨X, HXX.out.1, HS.1, HS.2, ownsRow_upd HXX.out.2.2.2 HU3.out (by simp)⟩
          clear HS
          go_wp2
          go_roundg (gk - 1)
          case measure => omega
          case rel => exact ⟨i, j + 1, rfl, by go_num, by omega, by omega, by omega, HREL.out, HU.out.next (HU3.out.more (by simp))⟩
        | false =>
          have HS := HST.out (by trivial)
          have hf3 := HFILL.out w3 HU3.out
          obtain ⟨y, hy⟩ : ∃ y, X[i]? = some y := ⟨_, List.getElem?_eq_getElem (by rw [HXX.out.1]; omega)⟩
          have hX3 := ownsRow_upd HXX.out.2.2.2 HU3.out (by simp)
          have hcell2 := fun (k : Nat) (u : Value) (hu : (X.flatMap encT)[k]? = some u) => (by
            have := hX3.cells (g := b) rfl k u hu
            by_cases hk : k = 0
            · subst hk; exact this
            · simpa [Addr.add, hk] using this : w3.cell? ⟨b, k, none⟩ = some u)
          have hfz2 := fun (k : Nat) => (by
            have := hX3.frozenAt k
            by_cases hk : k = 0
            · subst hk; exact this
            · simpa [Addr.add, hk] using this : w3.frozen? ⟨b, k, none⟩ = false)
          have hBx := HBV.out.upd HU3'.out (by simp)
          have e0 := hcell2 (i * 4 + 0) _ (flat_get encT_len X i 0 y hy (by omega))
          have f0 := hfz2 (i * 4 + 0)
          have b0 := hBx.cell 0
          have e1 := hcell2 (i * 4 + 1) _ (flat_get encT_len X i 1 y hy (by omega))
          have f1 := hfz2 (i * 4 + 1)
          have b1 := hBx.cell 1
          have e2 := hcell2 (i * 4 + 2) _ (flat_get encT_len X i 2 y hy (by omega))
          have f2 := hfz2 (i * 4 + 2)
          have b2 := hBx.cell 2
          have e3 := hcell2 (i * 4 + 3) _ (flat_get encT_len X i 3 y hy (by omega))
          have f3 := hfz2 (i * 4 + 3)
          have b3 := hBx.cell 3
          simp only [List.getElem?_toArray, List.getElem?_cons_zero, List.getElem?_cons_succ] at b0 b1 b2 b3
          simp only [encT, List.getElem?_cons_zero, List.getElem?_cons_succ, List.getElem_cons_zero, List.getElem_cons_succ, ← Nat.add_assoc, Nat.add_zero] at e0 e1 e2 e3
          simp only [← Nat.add_assoc, Nat.add_zero] at f0 f1 f2 f3
          have hbne := HVN.out
          obtain ⟨w4, hw4⟩ : ∃ w4, w4 = delT3_set w3 b i ((⟨x0, x1, x2, xs⟩, ⟨xA, xc⟩) : Trk × SH) := ⟨_, rfl⟩
          unfold delT3_set at hw4
          dsimp only at hw4 hf3
          rw [← hw4] at hf3
          have HREL : Hid ((∃ X : List (Trk × SH), X.length = n ∧ X.take (i + 1) = (R.take (j + 1)).filter (fun x => !p x) ∧ X.drop (j + 1) = R.drop (j + 1) ∧ w4.ownsRow N 76 4 (.slice (some ⟨b, 0, none⟩) n c) n (X.flatMap encT)) ∧ Upd [b] w w4) :=
            Lib.hid ⟨⟨X.set i ((⟨x0, x1, x2, xs⟩, ⟨xA, xc⟩) : Trk × SH), HS.2.2, HS.1, HS.2.1, hf3.1⟩, (HU.out.next (HU3.out.more (by simp))).next hf3.2⟩
          clear HS hf3 hX3 hcell2 hfz2 hBx hy HFILL HCELL
          go_upto_region 10 with fail
          rw [← hw4]
          clear hw4 e0 f0 b0 e1 f1 b1 e2 f2 b2 e3 f3 b3
          go_wp2
          go_roundg (gk - 1)
          case measure => omega
          case rel => exact ⟨i + 1, j + 1, by go_num, by go_num, by omega, by omega, by omega, HREL.out.1, HREL.out.2⟩
      · obtain rfl : j = n := by omega
        rw [← HN.out, List.take_length] at hXt
        have hif : i = F.length := by rw [HF.out, ← hXt, List.length_take, hXl]; omega
        obtain ⟨w3, hclr, hrow, hu3⟩ := run_clear_tail (i := i) (size := 4) (P := Try.prog) (t := 28) (ty := 0) (zc := [.int .i64 0, .int .i64 0, .int .i64 0, .slice none 0 0]) Try.underlying28 (fun w => by kernel_rfl) rfl (by decide) hXr (by omega) (c - i)
        rw [flat_take encT_len, hXt, ← HF.out] at hrow
        have HG := Lib.hid (And.intro hif (And.intro hrow (hu.next hu3)))
        have hcn := hnc
        have hini : (i : Int) < (j : Int) := by omega
        clear hXl hXt hXd hXr hu hrow hu3 hif
        go_wp2
        go_ret
        rw [← HG.out.1]
        exact ⟨rfl, HG.out.2.1, HG.out.2.2⟩
end Go.Proofs.Ytjcbaelefacolaa
/- The layer delta: drop, by the function value (*louver/delta.State).leave$3. Conditions: what the function value answers; the state in a box. -/
namespace Go.Proofs.Ytjcbaelefacolaa
open Go Go.RowKit
set_option maxHeartbeats 400000

set_option maxRecDepth 100000 in
set_option maxHeartbeats 2000000 in
theorem dropT3_any {w : World} {B T : Nat} {s : St} {h : SHd} (k : TIn w B T s h) (hu : UpT s.ts) (ht : s.ts.length ≤ 1000) (hbl : s.bs.length ≤ 1000) (hB : B ≤ w.heap.size) (pt : Trk → Bool) (z : Option Addr)
    (hp : ∀ W, Upd (h.tA.toList.map (·.block)) w W → ∀ x : Trk × SH, Calls Try.prog 54 #[.agg (encT x).toArray, .pointer z] W fun e W' => e = .returned (.bool (pt x.1)) ∧ Upd [] W W') :
    Calls Try.prog 53 #[.pointer (some ⟨T, 0, none⟩), .func (.func 54) #[] #[.pointer z]] w fun e w' => e = .returned (.tuple #[]) ∧ (∃ h', TIn w' B T (dropM s pt) h') ∧ Below B w w' := by
  obtain ⟨W, hW⟩ : ∃ W, W = w.alloc (.cells #[.pointer (some ⟨T, 0, none⟩)] 85) := ⟨_, rfl⟩
  obtain ⟨Pb, hPb⟩ : ∃ Pb, Pb = w.heap.size := ⟨_, rfl⟩
  have hPB : Blk W Pb 85 #[.pointer (some ⟨T, 0, none⟩)] := by rw [hW, hPb]; exact Blk.new _ _ _
  have hu0 : Upd [] w W := by rw [hW]; exact (Upd.refl [] w).alloc _
  have kW := k.upd hu0
  obtain ⟨TB, hTB⟩ : ∃ TB, TB = h.tA.toList.map (·.block) := ⟨_, rfl⟩
  have hTT : T ∉ TB := fun hm => own_box kW.r.t kW.box (by decide) (own_in kW.r.t T (by rw [← hTB]; exact hm)).1
  have hPT : Pb ∉ TB := fun hm => own_box kW.r.t hPB (by decide) (own_in kW.r.t Pb (by rw [← hTB]; exact hm)).1
  obtain ⟨z0, z1, z2, z3, z4, z5, z6⟩ := box_cells kW.box
  have hTl := kW.box.lt
  have y5 : ∀ z : Cls (Upd TB W), z.w.cell? ⟨T, 5, none⟩ = _ := fun z => (z.h.cell (p := ⟨T, 5, none⟩) hTl hTT).trans z5
  have yp : ∀ z : Cls (Upd TB W), z.w.cell? ⟨Pb, 0, none⟩ = some (.pointer (some ⟨T, 0, none⟩)) := fun z => (z.h.cell (p := ⟨Pb, 0, none⟩) hPB.lt hPT).trans (hPB.cell 0)
  have htl : h.tx.length = s.ts.length := by rw [← k.r.tx, List.length_map]
  have hcall := fun (m : Nat) => delT3_any (w := W.drewN m) (fun x => pt x.1) z (kW.upd ((Upd.refl [] W).drewN m)).r.t htl (by omega) (fun W2 u x _ => hp W2 ((hu0.more (by simp)).next (((Upd.refl _ W).drewN m).next u)) x)
  have hmt : (h.tx.filter (fun x => !pt x.1)).map (·.1) = s.ts.filter (fun t => !pt t) := by
    rw [← k.r.tx, List.filter_map]
    rfl
  have hlt : (h.tx.filter (fun x => !pt x.1)).length = (s.ts.filter (fun t => !pt t)).length := by rw [← hmt, List.length_map]
  rw [hlt, ← hTB] at hcall
  have HCALL := Lib.hid hcall
  have HKW := Lib.hid kW
  have HU0 := Lib.hid hu0
  have HB := Lib.hid (And.intro hB (Nat.le_trans hB hu0.size))
  have HTB := Lib.hid hTB
  have HPB := Lib.hid hPB
  have HTT := Lib.hid hTT
  have HMT := Lib.hid hmt
  have HUP := Lib.hid hu
  have HTL := Lib.hid (And.intro ht hbl)
  obtain ⟨n2, hn2⟩ : ∃ n2, n2 = s.ts.length := ⟨_, rfl⟩
  rw [← hn2] at y5 HCALL
  obtain ⟨m2, hm2⟩ : ∃ m2, m2 = (s.ts.filter (fun t => !pt t)).length := ⟨_, rfl⟩
  rw [← hm2] at HCALL
  have HM2 := Lib.hid hm2
  have HN2 := Lib.hid hn2
  clear z0 z1 z2 z3 z4 z5 z6 k hu0 kW hTB hTT hPT hPB htl hcall hmt hlt hp hu ht hbl hB hn2 hm2
  go_enter Try.func53, Try.ntmps53
  go_upto_region 1 with fail
  rw [← hW, ← hPb]
  clear hW hPb
  refine wp_held_tail (Upd TB W) ((Upd.refl _ _).drewN 1) [0, 1, 2, 3, 4, 5] [6, 7, 8, 9] (by kernel_rfl) (by kernel_rfl) (fun _ _ _ _ h => h) ?_
  intro hne
  simp only [pick3, List.map_cons, List.map_nil, List.getElem?_cons_zero, List.getElem?_cons_succ, Option.getD_some]
  repeat (go_big_quiet_step (fail))
  refine wpQuiet_nil ?_
  clear y5 yp
  refine wpHeld_step rfl fun K hK => ?_
  go_simp
  refine (HCALL.out 1).mono ?_
  rintro e w4 ⟨rfl, ho, hu4⟩
  have HU4 := Lib.hid (show Upd TB W w4 from ((Upd.refl TB W).drewN 1).next hu4)
  refine hK.out _ _ (.inr ⟨⟨w4, HU4.out⟩, rfl⟩) ?_
  clear hK K HCALL
  have hput := HKW.out.putT (by rw [← HTB.out]; exact HU4.out) (ts' := s.ts.filter (fun t => !pt t)) (tx' := h.tx.filter (fun x => !pt x.1)) (A' := h.tA) (c' := h.tc) HMT.out (by rw [← HM2.out]; exact ho) (fun x hx => .inl (List.mem_filter.1 hx).1)
  rw [← HM2.out] at hput
  have hfT := (HKW.out.box.upd HU4.out HTT.out).frozen 5
  have hcT : w4.cell? ⟨T, 5, none⟩ = some (.slice h.tA n2 h.tc) := by have := (HKW.out.box.upd HU4.out HTT.out).cell 5; rw [HN2.out]; exact this
  have HPUT := Lib.hid hput
  clear ho hu4 hput
  refine wpHeld_step rfl fun K hK => ?_
  go_simp
  refine hK.out _ _ (.inr ⟨⟨w4, HU4.out⟩, rfl⟩) ?_
  clear hK K
  refine wpHeld_step rfl fun K hK => ?_
  go_simp
  refine hK.out _ _ (.inr ⟨⟨w4, HU4.out⟩, rfl⟩) ?_
  clear hK K
  refine wpHeld_last ?_
  obtain ⟨w5, hw5⟩ : ∃ w5, w5 = w4.setCell ⟨T, 5, none⟩ (.slice h.tA m2 h.tc) := ⟨_, rfl⟩
  rw [← hw5] at HPUT
  have HB5 : Hid (Below B w w5) := Lib.hid ((HU0.out.below HB.out.1 (by simp)).trans (below_of HPUT.out.2 HKW.out.BT HB.out.2 (fun s hs => (own_in HKW.out.r.t s hs).2)))
  have HP5 : Hid (Blk w5 Pb 85 #[.pointer (some ⟨T, 0, none⟩)]) := Lib.hid (HPB.out.upd HPUT.out.2 (by
    intro hm
    rcases List.mem_cons.1 hm with e | hm
    · exact (HPB.out.ne HKW.out.box (by decide)) e
    · exact own_box HKW.out.r.t HPB.out (by decide) (own_in HKW.out.r.t Pb hm).1))
  obtain ⟨ts', hts'⟩ : ∃ ts', ts' = s.ts.filter (fun t => !pt t) := ⟨_, rfl⟩
  have hk5 := HPUT.out.1
  rw [← hts'] at hk5
  have hut : UpT ts' := by rw [hts']; exact List.Pairwise.sublist List.filter_sublist HUP.out
  have htl : ts'.length ≤ 1000 := by rw [hts']; exact Nat.le_trans (List.length_filter_le _ _) HTL.out.1
  obtain ⟨SB, hSB⟩ : ∃ SB, SB = h.bA.toList.map (·.block) := ⟨_, rfl⟩
  have hTS : T ∉ SB := fun hm => own_box hk5.r.b hk5.box (by decide) (own_in hk5.r.b T (by rw [← hSB]; exact hm)).1
  have hPS : Pb ∉ SB := fun hm => own_box hk5.r.b HP5.out (by decide) (own_in hk5.r.b Pb (by rw [← hSB]; exact hm)).1
  obtain ⟨z0, z1, z2, z3, z4, z5, z6⟩ := box_cells hk5.box
  have hTl5 := hk5.box.lt
  have y6 : ∀ z : Cls (Upd SB w5), z.w.cell? ⟨T, 6, none⟩ = _ := fun z => (z.h.cell (p := ⟨T, 6, none⟩) hTl5 hTS).trans z6
  have yp : ∀ z : Cls (Upd SB w5), z.w.cell? ⟨Pb, 0, none⟩ = some (.pointer (some ⟨T, 0, none⟩)) := fun z => (z.h.cell (p := ⟨Pb, 0, none⟩) HP5.out.lt hPS).trans (HP5.out.cell 0)
  have hdr : ∀ (W2 : World), Upd SB w5 W2 → ∀ x : Sb, Calls Try.prog 81 #[.agg (encB x).toArray, .pointer (some ⟨Pb, 0, none⟩)] W2 fun e W' => e = .returned (.bool (!has (cT x.track) ts')) ∧ Upd [] W2 W' := fun W2 u x =>
    drop1_any (s := { s with ts := ts' }) ((u.cell (p := ⟨Pb, 0, none⟩) HP5.out.lt hPS).trans (HP5.out.cell 0)) (hk5.box.upd u hTS) (RwIn.of_own (ownsRow_upd hk5.r.t u (fun s hs => own_apart hk5.r.b hk5.r.t (by decide) (own_in hk5.r.b s (by rw [← hSB]; exact hs)).1)) |>.more (Nat.zero_le _)) hk5.r.tx (by dsimp only; omega) hut x
  have hcall2 := fun (m : Nat) => delS3_any (w := w5.drewN m) (fun x => !has (cT x.track) ts') (some ⟨Pb, 0, none⟩) (hk5.upd ((Upd.refl [] w5).drewN m)).r.b rfl (by dsimp only; have := HTL.out.2; omega) (fun W2 u x _ => hdr W2 (((Upd.refl SB w5).drewN m).next (by rw [hSB]; exact u)) x)
  simp only [Bool.not_not] at hcall2
  obtain ⟨bs', hbs'⟩ : ∃ bs', bs' = s.bs.filter (fun x => has (cT x.track) ts') := ⟨_, rfl⟩
  try dsimp only at hcall2
  rw [← hSB, ← hbs'] at hcall2
  have HFD : Hid (dropM s pt = { { s with ts := ts' } with bs := bs' }) := Lib.hid (by unfold dropM; rw [hbs', hts'])
  have HCALL2 := Lib.hid hcall2
  have HK5 := Lib.hid hk5
  have HSB := Lib.hid hSB
  have HTS := Lib.hid hTS
  obtain ⟨n3, hn3⟩ : ∃ n3, n3 = s.bs.length := ⟨_, rfl⟩
  try dsimp only at y6
  rw [← hn3] at y6 HCALL2
  have HN3 := Lib.hid hn3
  go_upto_region 2 with fail
  rw [← hw5]
  clear hw5 hfT hcT HU4 HM2 HN2 HMT HKW HPUT hk5 hut htl hSB hTS hPS z0 z1 z2 z3 z4 z5 z6 hdr hcall2 hbs' hts' hn3
  refine wp_held_tail (Upd SB w5) ((Upd.refl _ _).drewN 1) [0, 1, 2, 3, 4, 5] [6, 7, 8, 9] (by kernel_rfl) (by kernel_rfl) (fun _ _ _ _ h => h) ?_
  intro hne
  simp only [pick3, List.map_cons, List.map_nil, List.getElem?_cons_zero, List.getElem?_cons_succ, Option.getD_some]
  repeat (go_big_quiet_step (fail))
  refine wpQuiet_nil ?_
  clear y6 yp
  refine wpHeld_step rfl fun K hK => ?_
  go_simp
  refine (HCALL2.out 1).mono ?_
  rintro e w6 ⟨rfl, ho, hu6⟩
  have HU6 := Lib.hid (show Upd SB w5 w6 from ((Upd.refl SB w5).drewN 1).next hu6)
  refine hK.out _ _ (.inr ⟨⟨w6, HU6.out⟩, rfl⟩) ?_
  clear hK K HCALL2
  have hput := HK5.out.putB (by dsimp only; rw [← HSB.out]; exact HU6.out) (bs' := bs') (A' := h.bA) (c' := h.bc) ho
  obtain ⟨m3, hm3⟩ : ∃ m3, m3 = bs'.length := ⟨_, rfl⟩
  rw [← hm3] at hput
  rw [← hm3]
  have hfT := (HK5.out.box.upd HU6.out HTS.out).frozen 6
  have hcT : w6.cell? ⟨T, 6, none⟩ = some (.slice h.bA n3 h.bc) := by have := (HK5.out.box.upd HU6.out HTS.out).cell 6; rw [HN3.out]; exact this
  have HPUT := Lib.hid hput
  clear ho hu6 hput hm3
  refine wpHeld_step rfl fun K hK => ?_
  go_simp
  refine hK.out _ _ (.inr ⟨⟨w6, HU6.out⟩, rfl⟩) ?_
  clear hK K
  refine wpHeld_step rfl fun K hK => ?_
  go_simp
  refine hK.out _ _ (.inr ⟨⟨w6, HU6.out⟩, rfl⟩) ?_
  clear hK K
  refine wpHeld_last ?_
  obtain ⟨w7, hw7⟩ : ∃ w7, w7 = w6.setCell ⟨T, 6, none⟩ (.slice h.bA m3 h.bc) := ⟨_, rfl⟩
  rw [← hw7] at HPUT
  have HFIN : Hid (Below B w w7) := Lib.hid (HB5.out.trans (below_of HPUT.out.2 HK5.out.BT (Nat.le_trans HB.out.1 HB5.out.size) (fun s hs => (own_in HK5.out.r.b s hs).2)))
  have HTR : Hid (∃ h', TIn w7 B T (dropM s pt) h') := Lib.hid ⟨_, by rw [HFD.out]; exact HPUT.out.1⟩
  go_wp2
  rw [← hw7]
  clear hw7
  exact bodyPost_end (v := .tuple #[]) (by simp [results, Try.results53, go_sem]) rfl ⟨rfl, HTR.out, HFIN.out⟩
end Go.Proofs.Ytjcbaelefacolaa
/- slices.IndexFunc at louver/delta.Person, by the function value (*louver/delta.State).leave$1: the first place. Conditions: what the function value answers; no more than 100000. -/
namespace Go.Proofs.Ytjcbaelefacolaa
open Go Go.RowKit
set_option maxHeartbeats 400000

set_option maxRecDepth 100000 in
theorem idxP1_any {w : World} {A : Option Addr} {n c : Nat} {R : List Per} (p : Per → Bool) (z : Option Addr) (h : CellsIn w 0 w.heap.size 3 A n (R.flatMap encP)) (hn : R.length = n) (hl : n ≤ 100000)
    (hp : ∀ W, Upd [] w W → ∀ x, x ∈ R → Calls Try.prog 51 #[.agg (encP x).toArray, .pointer z] W fun e W' => e = .returned (.bool (p x)) ∧ Upd [] W W') :
    Calls Try.prog 79 #[.slice A n c, .func (.func 51) #[] #[.pointer z]] w fun e w' => e = .returned (.int .i64 (idxM p R)) ∧ Upd [] w w' := by
  have HC := Lib.hid h
  have HN := Lib.hid hn
  have HP := Lib.hid hp
  obtain ⟨r, hr⟩ : ∃ r, r = idxM p R := ⟨_, rfl⟩
  rw [← hr]
  have HR := Lib.hid hr
  clear h hn hp hr
  go_enter Try.func79, Try.ntmps79
  go_wp2
  go_loopg [8] n (fun gk x8 wr => ∃ k : Nat, k ≤ n ∧ n ≤ k + gk ∧ x8 = .int .i64 k ∧ (∀ x, x ∈ R.take k → p x = false) ∧ Upd [] w wr)
  case atStart => exact ⟨0, Nat.zero_le _, by omega, rfl, by simp, Upd.refl _ _⟩
  case round =>
    obtain ⟨k, hk, hgk, rfl, hall, hu⟩ := hrel
    by_cases hlt : k < n
    · have hlti : (k : Int) < (n : Int) := by omega
      have hw : IntKind.i64.wrap ((k : Int) + 1) = (k : Int) + 1 := IntWalk.i64_in _ (by omega)
      obtain ⟨x, hx⟩ : ∃ x, R[k]? = some x := ⟨_, List.getElem?_eq_getElem (by rw [HN.out]; exact hlt)⟩
      obtain ⟨b, off, rfl, _, hb, hcc⟩ := HC.out.2 (by omega)
      have HCL := Lib.hid (HP.out wr hu x (List.mem_of_getElem? hx))
      obtain ⟨y, hy⟩ : ∃ y, y = p x := ⟨_, rfl⟩
      rw [← hy] at HCL
      have HX : Hid (y = true → r = (k : Int)) := Lib.hid (fun h => by
        rw [HR.out]
        exact idxM_at hx (by rw [← hy]; exact h) hall)
      have HALL : Hid (y = false → ∀ x, x ∈ R.take (k + 1) → p x = false) := Lib.hid (fun h a ha => by
        rw [List.take_add_one, hx, List.mem_append] at ha
        rcases ha with ha | ha
        · exact hall a ha
        · simp at ha
          rw [ha, ← hy]; exact h)
      have c0 := (hu.cell (p := ⟨b, off + (k * 3 + 0), none⟩) hb (by simp)).trans (hcc (k * 3 + 0) _ (flat_get encP_len R k 0 x hx (by omega)))
      have c1 := (hu.cell (p := ⟨b, off + (k * 3 + 1), none⟩) hb (by simp)).trans (hcc (k * 3 + 1) _ (flat_get encP_len R k 1 x hx (by omega)))
      have c2 := (hu.cell (p := ⟨b, off + (k * 3 + 2), none⟩) hb (by simp)).trans (hcc (k * 3 + 2) _ (flat_get encP_len R k 2 x hx (by omega)))
      obtain ⟨x0, x1, x2⟩ := x
      simp only [encP, List.getElem?_cons_zero, List.getElem?_cons_succ, List.getElem_cons_zero, List.getElem_cons_succ, ← Nat.add_assoc, Nat.add_zero] at c0 c1 c2
      simp only [encP] at HCL
      have HU := Lib.hid hu
      clear hall hu hx hb hcc hy
      go_wp2_with fail
      refine HCL.out.mono ?_
      rintro e w1 ⟨rfl, hu1⟩
      have HU1 := Lib.hid (HU.out.next hu1)
      clear hu1 HCL c0 c1 c2
      cases y with
      | true =>
        go_wp2
        go_ret
        exact ⟨ret_int (HX.out (by trivial)).symm, HU1.out⟩
      | false =>
        go_wp2
        go_roundg (gk - 1)
        case measure => omega
        case rel => exact ⟨k + 1, by omega, by omega, by go_num, HALL.out (by trivial), HU1.out⟩
    · obtain rfl : k = n := by omega
      have HU := Lib.hid hu
      have HX : Hid (r = -1) := Lib.hid (by
        rw [HR.out]
        refine idxM_no ?_
        rw [← HN.out, List.take_length] at hall
        exact hall)
      clear hall hu
      go_wp2
      go_ret
      exact ⟨ret_int HX.out.symm, HU.out⟩
end Go.Proofs.Ytjcbaelefacolaa
