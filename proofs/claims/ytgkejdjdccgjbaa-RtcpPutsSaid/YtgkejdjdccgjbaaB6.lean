/- Parts of the proof, one behind the other: SPut. No condition of their own. -/
import Derived.Test.YtgkejdjdccgjbaaB2
import Derived.Test.YtgkejdjdccgjbaaB3
import Derived.Test.YtgkejdjdccgjbaaB5
/- A message's bytes by the document (louverref09.put). Conditions: its rows no longer than 60, its fields numbers of their types. -/
namespace Go.Proofs.Ytgkejdjdccgjbaa
open Go Go.RowKit
set_option maxHeartbeats 400000
def putD (m : Mg) : List Int × Int := if (bodyM m).is = true then (msgB m, 0) else ([], 1)
theorem bytesOf_append6 (a b : List (Int × Nat)) : bytesOf (a ++ b) = bytesOf a ++ bytesOf b := by unfold bytesOf; rw [List.flatMap_append]
theorem bytesOf_len4 (l : List (Int × Int)) : (bytesOf (l.flatMap pairParts)).length = 4 * l.length := by rw [bytesOf_sz, sz_flat pairParts 4 (fun _ => rfl)]
theorem bytesOf_len8 (l : List (Int × Int)) : (bytesOf (l.flatMap askParts)).length = 8 * l.length := by rw [bytesOf_sz, sz_flat askParts 8 (fun _ => rfl)]
theorem str_two {w : World} {g : Nat} {x y : Int} (h : Blk w g 5 #[.int .u8 x, .int .u8 y]) : (convert 25 9 (.slice (some ⟨g, 0, none⟩) 2 2)).run Try.prog w = .ok (.string (strOfNums [x, y])) w :=
  run_convert_bytes_arg w _ 5 Try.underlying25 Try.underlying5 g 0 _ 2 [x, y] rfl (fun i hi => by
    have : i = 0 ∨ i = 1 := by simp at hi; omega
    rcases this with rfl | rfl
    · exact h.cell 0
    · exact h.cell 1) _ Try.underlying9
theorem str_four {w : World} {g : Nat} {x y z u : Int} (h : Blk w g 5 #[.int .u8 x, .int .u8 y, .int .u8 z, .int .u8 u]) : (convert 25 9 (.slice (some ⟨g, 0, none⟩) 4 4)).run Try.prog w = .ok (.string (strOfNums [x, y, z, u])) w :=
  run_convert_bytes_arg w _ 5 Try.underlying25 Try.underlying5 g 0 _ 4 [x, y, z, u] rfl (fun i hi => by
    have : i = 0 ∨ i = 1 ∨ i = 2 ∨ i = 3 := by simp at hi; omega
    rcases this with rfl | rfl | rfl | rfl
    · exact h.cell 0
    · exact h.cell 1
    · exact h.cell 2
    · exact h.cell 3) _ Try.underlying9
set_option maxRecDepth 100000 in
set_option maxHeartbeats 16000000 in
theorem rput_any {w : World} {lo : Nat} {m : Mg} {h : Hd} (hm : RfIn w lo m h) (hok : m.Ok) :
    Calls Try.prog 24 #[.agg (mcells m h).toArray] w fun e w' => e = .returned (.tuple #[.string (strOfNums (putD m).1), .int .i64 (putD m).2]) ∧ Upd [] w w' := by
  obtain ⟨r, hr⟩ : ∃ r, r = putD m := ⟨_, rfl⟩
  rw [← hr]
  have HR := Lib.hid hr
  have HOK := Lib.hid hok
  have HRF : Hid (RfIn w 0 m h) := Lib.hid ⟨hm.cr.more (Nat.zero_le _) (Nat.le_refl _), hm.cw, hm.cp.more (Nat.zero_le _) (Nat.le_refl _), hm.ca.more (Nat.zero_le _) (Nat.le_refl _)⟩
  clear hr hm hok
  obtain ⟨m0, hm0⟩ : ∃ x, x = m := ⟨_, rfl⟩
  obtain ⟨kd, ssrc, media, clock, time, packets, byts, reports, who, pairs, asks, typ⟩ := m
  obtain ⟨rA, rc, wA, wcp, pA, pc, aA, ac⟩ := h
  rw [← hm0] at HR
  have HM := Lib.hid hm0
  obtain ⟨m, hmm⟩ : ∃ x, x = m0 := ⟨_, rfl⟩
  rw [← hmm] at HR HM
  clear hmm hm0 m0
  obtain ⟨nr, hnr⟩ : ∃ n, n = reports.length := ⟨_, rfl⟩
  obtain ⟨nw, hnw⟩ : ∃ n, n = who.length := ⟨_, rfl⟩
  obtain ⟨np, hnp⟩ : ∃ n, n = pairs.length := ⟨_, rfl⟩
  obtain ⟨na, hna⟩ : ∃ n, n = asks.length := ⟨_, rfl⟩
  have hbr : nr ≤ 60 := by rw [hnr]; exact HOK.out.nr
  unfold mcells
  dsimp only
  rw [← hnr, ← hnw, ← hnp, ← hna]
  have HL := Lib.hid (And.intro hnr (And.intro hnw (And.intro hnp hna)))
  obtain ⟨G, hG⟩ : ∃ G, G = w.heap.size := ⟨_, rfl⟩
  obtain ⟨W, hW⟩ : ∃ W, W = w.alloc (.cells #[.int .i64 kd, .int .u32 ssrc, .int .u32 media, .int .u64 clock, .int .u32 time, .int .u32 packets, .int .u32 byts, .slice rA nr rc, .slice wA nw wcp, .slice pA np pc, .slice aA na ac, .int .u8 typ] 50) := ⟨_, rfl⟩
  have hgb : Blk W G 50 #[.int .i64 kd, .int .u32 ssrc, .int .u32 media, .int .u64 clock, .int .u32 time, .int .u32 packets, .int .u32 byts, .slice rA nr rc, .slice wA nw wcp, .slice pA np pc, .slice aA na ac, .int .u8 typ] := by rw [hW, hG]; exact Blk.new _ _ _
  have HGB := Lib.hid hgb
  have HU : Hid (Upd [] w W) := Lib.hid (by rw [hW]; exact (Upd.refl [] w).alloc _)
  clear hnr hnw hnp hna hgb
  go_enter Try.func24, Try.ntmps24
  go_upto_region 1 with fail
  rw [← hW, ← hG]
  clear hW hG
  by_cases k0 : kd = 0
  · have kk : (0 : Int) = kd := k0.symm
    subst kk
    clear k0
    obtain ⟨s0, hs0⟩ : ∃ l, l = be ssrc 4 := ⟨_, rfl⟩
    have ls0 : s0.length = 4 := by rw [hs0, be_length]
    obtain ⟨s1, hs1⟩ : ∃ l, l = be clock 8 := ⟨_, rfl⟩
    have ls1 : s1.length = 8 := by rw [hs1, be_length]
    obtain ⟨s2, hs2⟩ : ∃ l, l = be time 4 := ⟨_, rfl⟩
    have ls2 : s2.length = 4 := by rw [hs2, be_length]
    obtain ⟨s3, hs3⟩ : ∃ l, l = be packets 4 := ⟨_, rfl⟩
    have ls3 : s3.length = 4 := by rw [hs3, be_length]
    obtain ⟨s4, hs4⟩ : ∃ l, l = be byts 4 := ⟨_, rfl⟩
    have ls4 : s4.length = 4 := by rw [hs4, be_length]
    obtain ⟨sr, hsr⟩ : ∃ l, l = bytesOf (reports.flatMap repParts) := ⟨_, rfl⟩
    have lsr : sr.length = 24 * nr := by rw [hsr, bytesOf_len6, ← HL.out.1]
    obtain ⟨bs_0, hbs_0⟩ : ∃ l, l = s0 ++ s1 := ⟨_, rfl⟩
    have lbs_0 : bs_0.length = s0.length + s1.length := by rw [hbs_0, List.length_append]
    have abs_0 : ∀ z : World, (Op.stringOp .add (strOfNums s0) (strOfNums s1)).run Try.prog z = .ok (.string (strOfNums bs_0)) z := fun z => by rw [hbs_0]; exact str_add _ _ (by omega) z
    obtain ⟨bs_1, hbs_1⟩ : ∃ l, l = bs_0 ++ s2 := ⟨_, rfl⟩
    have lbs_1 : bs_1.length = bs_0.length + s2.length := by rw [hbs_1, List.length_append]
    have abs_1 : ∀ z : World, (Op.stringOp .add (strOfNums bs_0) (strOfNums s2)).run Try.prog z = .ok (.string (strOfNums bs_1)) z := fun z => by rw [hbs_1]; exact str_add _ _ (by omega) z
    obtain ⟨bs_2, hbs_2⟩ : ∃ l, l = bs_1 ++ s3 := ⟨_, rfl⟩
    have lbs_2 : bs_2.length = bs_1.length + s3.length := by rw [hbs_2, List.length_append]
    have abs_2 : ∀ z : World, (Op.stringOp .add (strOfNums bs_1) (strOfNums s3)).run Try.prog z = .ok (.string (strOfNums bs_2)) z := fun z => by rw [hbs_2]; exact str_add _ _ (by omega) z
    obtain ⟨bs_3, hbs_3⟩ : ∃ l, l = bs_2 ++ s4 := ⟨_, rfl⟩
    have lbs_3 : bs_3.length = bs_2.length + s4.length := by rw [hbs_3, List.length_append]
    have abs_3 : ∀ z : World, (Op.stringOp .add (strOfNums bs_2) (strOfNums s4)).run Try.prog z = .ok (.string (strOfNums bs_3)) z := fun z => by rw [hbs_3]; exact str_add _ _ (by omega) z
    obtain ⟨bs, hbs⟩ : ∃ l, l = bs_3 ++ sr := ⟨_, rfl⟩
    have lbs : bs.length = bs_3.length + sr.length := by rw [hbs, List.length_append]
    have abs : ∀ z : World, (Op.stringOp .add (strOfNums bs_3) (strOfNums sr)).run Try.prog z = .ok (.string (strOfNums bs)) z := fun z => by rw [hbs]; exact str_add _ _ (by omega) z
    have HBD : Hid (bodyM m = ⟨200, reports.length, [(ssrc, 4), (clock, 8), (time, 4), (packets, 4), (byts, 4)] ++ reports.flatMap repParts, decide (reports.length ≤ 31)⟩) := Lib.hid (by rw [HM.out]; rfl)
    have HT : Hid ((bodyM m).t = 200) := Lib.hid (by rw [HBD.out])
    have HN : Hid ((bodyM m).n = nr) := Lib.hid (by rw [HBD.out]; dsimp only; rw [← HL.out.1])
    have HIS : Hid ((bodyM m).is = decide (nr ≤ 31)) := Lib.hid (by rw [HBD.out]; dsimp only; rw [← HL.out.1])
    have HB : Hid (bytesOf (bodyM m).ps = bs) := Lib.hid (by rw [HBD.out]; dsimp only; rw [bytesOf_append6, ← hsr, hbs, hbs_3, hbs_2, hbs_1, hbs_0]; unfold bytesOf; simp [hs0, hs1, hs2, hs3, hs4])
    have HFs0 := Lib.hid (fun (z : Cls (Upd [] W)) => quiet_cls (C := Upd [] W) (x := z) ((dfour_any z.w ssrc HOK.out.ssrc).mono fun e w' h => ⟨h.1, z.h.next h.2⟩))
    rw [← hs0] at HFs0
    have HFs1 : Hid (∀ z : Cls (Upd [] W), Calls Try.prog 37 #[.int .u64 clock, .int .i64 8] z.w fun e w' => e = .returned (.string (strOfNums s1)) ∧ ∃ m : Cls (Upd [] W), w' = m.w) := Lib.hid (fun z => by rw [hs1]; exact quiet_cls (C := Upd [] W) (x := z) ((dnum_any z.w clock 8 HOK.out.clock (by decide) (by decide)).mono fun e w' h => ⟨h.1, z.h.next h.2⟩))
    have HFs2 := Lib.hid (fun (z : Cls (Upd [] W)) => quiet_cls (C := Upd [] W) (x := z) ((dfour_any z.w time HOK.out.time).mono fun e w' h => ⟨h.1, z.h.next h.2⟩))
    rw [← hs2] at HFs2
    have HFs3 := Lib.hid (fun (z : Cls (Upd [] W)) => quiet_cls (C := Upd [] W) (x := z) ((dfour_any z.w packets HOK.out.packets).mono fun e w' h => ⟨h.1, z.h.next h.2⟩))
    rw [← hs3] at HFs3
    have HFs4 := Lib.hid (fun (z : Cls (Upd [] W)) => quiet_cls (C := Upd [] W) (x := z) ((dfour_any z.w byts HOK.out.bytes).mono fun e w' h => ⟨h.1, z.h.next h.2⟩))
    rw [← hs4] at HFs4
    have HFR := Lib.hid (fun (z : Cls (Upd [] W)) => quiet_cls (C := Upd [] W) (x := z) ((rreports_doc (cap := rc) (((HRF.out.cr.upd2 (HU.out.next z.h) (Nat.le_refl _) (by simp)).more (Nat.le_refl _) (HU.out.next z.h).size)) HOK.out.reports HOK.out.nr).mono fun e w' h => ⟨h.1, z.h.next h.2⟩))
    rw [← hsr] at HFR
    dsimp only at HFR
    rw [← HL.out.1] at HFR
    clear hsr hs0 hs1 hs2 hs3 hs4 hbs hbs_0 hbs_1 hbs_2 hbs_3
    have c0 : W.cell? ⟨G, 0, none⟩ = some (.int .i64 0) := HGB.out.cell 0
    have c7 : W.cell? ⟨G, 7, none⟩ = some (.slice rA nr rc) := HGB.out.cell 7
    go_upto_region 8 with fail
    clear c0 c7
    have hGl := HGB.out.lt
    have c1 : ∀ z : Cls (Upd [] W), z.w.cell? ⟨G, 1, none⟩ = some (.int .u32 ssrc) := fun z => (z.h.cell (p := ⟨G, 1, none⟩) hGl (by simp)).trans (HGB.out.cell 1)
    have c3 : ∀ z : Cls (Upd [] W), z.w.cell? ⟨G, 3, none⟩ = some (.int .u64 clock) := fun z => (z.h.cell (p := ⟨G, 3, none⟩) hGl (by simp)).trans (HGB.out.cell 3)
    have c4 : ∀ z : Cls (Upd [] W), z.w.cell? ⟨G, 4, none⟩ = some (.int .u32 time) := fun z => (z.h.cell (p := ⟨G, 4, none⟩) hGl (by simp)).trans (HGB.out.cell 4)
    have c5 : ∀ z : Cls (Upd [] W), z.w.cell? ⟨G, 5, none⟩ = some (.int .u32 packets) := fun z => (z.h.cell (p := ⟨G, 5, none⟩) hGl (by simp)).trans (HGB.out.cell 5)
    have c6 : ∀ z : Cls (Upd [] W), z.w.cell? ⟨G, 6, none⟩ = some (.int .u32 byts) := fun z => (z.h.cell (p := ⟨G, 6, none⟩) hGl (by simp)).trans (HGB.out.cell 6)
    have c7 : ∀ z : Cls (Upd [] W), z.w.cell? ⟨G, 7, none⟩ = some (.slice rA nr rc) := fun z => (z.h.cell (p := ⟨G, 7, none⟩) hGl (by simp)).trans (HGB.out.cell 7)
    refine wp_class_tail (Upd [] W) ((Upd.refl _ _).drewN 1) 23 (by kernel_rfl) (by kernel_rfl) (fun _ _ _ _ h => h) ?_
    intro hne
    simp only [List.take_succ_cons, List.take_zero, List.drop_succ_cons, List.drop_zero]
    repeat (go_big_quiet_step (first | with_reducible rfl | (go_at_call 36; with_reducible exact HFs0.out _) | (go_at_call 37; with_reducible exact HFs1.out _) | (go_at_call 36; with_reducible exact HFs2.out _) | (go_at_call 36; with_reducible exact HFs3.out _) | (go_at_call 36; with_reducible exact HFs4.out _) | (go_at_call 38; with_reducible exact HFR.out _)))
    refine wpQuiet_nil ?_
    rintro _ ⟨xe, rfl⟩
    have hux := xe.h
    obtain ⟨w1, hw1⟩ : ∃ v, v = xe.w := ⟨_, rfl⟩
    rw [← hw1] at hux ⊢
    have HU1 := Lib.hid (HU.out.next hux)
    have HG1 := Lib.hid (HGB.out.upd hux (by simp))
    clear hw1 hux hGl c1 c3 c4 c5 c6 c7 HFR HFs0 HFs1 HFs2 HFs3 HFs4
    have hnr : nr ≤ 60 := by rw [HL.out.1]; exact HOK.out.nr
    by_cases kn : (31 : Int) < (nr : Int)
    · have HE : Hid (r = ([], 1)) := Lib.hid (by rw [HR.out]; unfold putD; rw [if_neg (by first | (rw [HIS.out]; simp; done) | (rw [HIS.out]; simp; omega))])
      have c0 : w1.cell? ⟨G, 0, none⟩ = some (.int .i64 0) := HG1.out.cell 0
      have c9 : w1.cell? ⟨G, 9, none⟩ = some (.slice pA np pc) := HG1.out.cell 9
      have c10 : w1.cell? ⟨G, 10, none⟩ = some (.slice aA na ac) := HG1.out.cell 10
      go_wp2
      exact bodyPost_res (v := .tuple #[.string { data := #[] }, .int .i64 1]) (by simp [results, Try.results24, go_sem]) rfl ⟨by rw [HE.out]; rfl, HU1.out⟩
    · have HE : Hid (r = (msgB m, 0)) := Lib.hid (by rw [HR.out]; unfold putD; rw [if_pos (by first | (rw [HIS.out]; done) | (rw [HIS.out]; simp; omega))])
      obtain ⟨L, hL⟩ : ∃ n, n = bs.length := ⟨_, rfl⟩
      obtain ⟨q, hq⟩ : ∃ n : Nat, n = L / 4 := ⟨_, rfl⟩
      have hqb : 0 ≤ (q : Int) ∧ (q : Int) ≤ 18446744073709551615 := by omega
      have hsz : (strOfNums bs).size = L := by rw [strOfNums_size, hL]
      have hqt : ((L : Int)).tdiv 4 = (q : Int) := by rw [Int.tdiv_eq_ediv_of_nonneg (by omega)]; omega
      have hqw : IntKind.u64.wrap (q : Int) = (q : Int) := by unfold IntKind.wrap; simp [IntKind.bits, IntKind.signed]; omega
      have hq64 : wrap64 (q : Int) = (q : Int) := by unfold wrap64; omega
      have hw1 : IntKind.i64.wrap (128 + (nr : Int)) = 128 + (nr : Int) := IntWalk.i64_in _ (by omega)
      have hw2 : IntKind.u8.wrap (128 + (nr : Int)) = 128 + (nr : Int) := by unfold IntKind.wrap; simp [IntKind.bits, IntKind.signed]; try omega
      obtain ⟨x0, hx0⟩ : ∃ v : Int, v = 128 + (nr : Int) := ⟨_, rfl⟩
      obtain ⟨hd, hhd⟩ : ∃ l : List Int, l = [x0, 200] := ⟨_, rfl⟩
      have lhd : hd.length = 2 := by rw [hhd]; rfl
      obtain ⟨bq, hbq⟩ : ∃ l, l = be (q : Int) 2 := ⟨_, rfl⟩
      have lbq : bq.length = 2 := by rw [hbq, be_length]
      obtain ⟨out_0, hout_0⟩ : ∃ l, l = hd ++ bq := ⟨_, rfl⟩
      have lout_0 : out_0.length = hd.length + bq.length := by rw [hout_0, List.length_append]
      have aout_0 : ∀ z : World, (Op.stringOp .add (strOfNums hd) (strOfNums bq)).run Try.prog z = .ok (.string (strOfNums out_0)) z := fun z => by rw [hout_0]; exact str_add _ _ (by omega) z
      obtain ⟨out, hout⟩ : ∃ l, l = out_0 ++ bs := ⟨_, rfl⟩
      have lout : out.length = out_0.length + bs.length := by rw [hout, List.length_append]
      have aout : ∀ z : World, (Op.stringOp .add (strOfNums out_0) (strOfNums bs)).run Try.prog z = .ok (.string (strOfNums out)) z := fun z => by rw [hout]; exact str_add _ _ (by omega) z
      have HMB : Hid (msgB m = out) := Lib.hid (by
        unfold msgB
        rw [HN.out, HT.out, HB.out]
        rw [hout, hout_0, hhd, hbq, hx0, be_cons, be_cons, be_zero0]
        have e1 : ((q : Nat) : Int) = (bs.length : Int) / 4 := by rw [hq, hL]; rfl
        rw [e1]
        simp)
      have HHD := Lib.hid hhd
      have HNM : Hid (∀ W, Calls Try.prog 37 #[.int .u64 q, .int .i64 2] W fun e w' => e = .returned (.string (strOfNums bq)) ∧ Upd [] W w') := Lib.hid (fun W => by rw [hbq]; exact dnum_any W q 2 hqb (by decide) (by decide))
      clear hL hq hhd hbq hout hout_0 lhd lbq lout lout_0
      have c0 : w1.cell? ⟨G, 0, none⟩ = some (.int .i64 0) := HG1.out.cell 0
      have c9 : w1.cell? ⟨G, 9, none⟩ = some (.slice pA np pc) := HG1.out.cell 9
      have c10 : w1.cell? ⟨G, 10, none⟩ = some (.slice aA na ac) := HG1.out.cell 10
      go_upto_region 40 with fail
      clear c0 c9 c10
      refine wp_script (Upd [] w1) ((Upd.refl _ _).drewN 1) (.take [0, 1, 2, 3, 4, 7, 8, 9, 10, 13] (.fork 5 11 (.narrow (.take [6] (.one 11 (.take [12, 14] (.last [15, 16]))))) (.one 5 (.narrow (.take [6, 12, 14] (.last [15, 16])))))) (by kernel_rfl) (by kernel_rfl) (fun _ _ _ _ h => h) ?_
      intro hne
      refine wpS_take ?_
      simp only [pick3, List.map_cons, List.map_nil, List.getElem?_cons_zero, List.getElem?_cons_succ, Option.getD_some]
      repeat (go_big_quiet_step (with_reducible rfl))
      refine wpQuiet_nil ?_
      obtain ⟨w0, hw0⟩ : ∃ v, v = w1.drewN 1 := ⟨_, rfl⟩
      have HJ : Hid (Upd [] w1 w0) := Lib.hid (by rw [hw0]; exact (Upd.refl _ _).drewN 1)
      rw [← hw0]
      clear hw0
      refine wpS_fork ?_ ?_
      · simp only [pick3, List.map_cons, List.map_nil, List.getElem?_cons_zero, List.getElem?_cons_succ, Option.getD_some]
        refine wpHeldK_step rfl fun K hK => ?_
        go_simp
        obtain ⟨V, hV⟩ : ∃ V, V = w0.heap.size := ⟨_, rfl⟩
        obtain ⟨wv, hwv⟩ : ∃ W, W = w0.alloc (.cells #[.int .u8 (128 + (nr : Int)), .int .u8 200] 5) := ⟨_, rfl⟩
        rw [← hwv, ← hV]
        have hvb : Blk wv V 5 #[.int .u8 (128 + (nr : Int)), .int .u8 200] := by rw [hwv, hV]; exact Blk.new _ _ _
        have hcv : ∀ z : Cls (Upd [] wv), (convert 25 9 (.slice (some ⟨V, 0, none⟩) 2 2)).run Try.prog z.w = .ok (.string (strOfNums hd)) z.w := fun z => by rw [HHD.out, hx0]; exact str_two (hvb.upd z.h (by simp))
        have HVU : Hid (Upd [] w1 wv) := Lib.hid (HJ.out.next (by rw [hwv]; exact (Upd.refl [] w0).alloc _))
        clear hV hwv hvb
        refine hK.out _ _ ⟨⟨wv, HVU.out⟩, rfl⟩ ?_
        clear hK K
        refine wpQuiet_then ?_
        refine wpS_narrow (Upd [] wv) (fun w' h => ⟨⟨w', HVU.out.next h⟩, rfl⟩) (Upd.refl _ _) ?_
        have HV0 : Hid (Upd [] wv wv) := Lib.hid (Upd.refl _ _)
        refine wpS_take ?_
        simp only [pick3, List.map_cons, List.map_nil, List.getElem?_cons_zero, List.getElem?_cons_succ, Option.getD_some]
        repeat (go_big_quiet_step (with_reducible rfl))
        refine wpQuiet_nil ?_
        refine wpS_one ?_
        simp only [pick3, List.map_cons, List.map_nil, List.getElem?_cons_zero, List.getElem?_cons_succ, Option.getD_some]
        refine wpHeldK_step rfl fun K hK => ?_
        go_simp
        refine (HNM.out _).mono ?_
        rintro _ wk ⟨rfl, hux⟩
        have HK := Lib.hid (HV0.out.next hux)
        clear hux
        refine hK.out _ _ ⟨⟨wk, HK.out⟩, rfl⟩ ?_
        clear hK K
        refine wpQuiet_then ?_
        refine wpS_take ?_
        simp only [pick3, List.map_cons, List.map_nil, List.getElem?_cons_zero, List.getElem?_cons_succ, Option.getD_some]
        repeat (go_big_quiet_step (with_reducible rfl))
        refine wpQuiet_nil ?_
        refine wpS_last ?_
        simp only [pick3, List.map_cons, List.map_nil, List.getElem?_cons_zero, List.getElem?_cons_succ, Option.getD_some]
        refine wpHeld_step rfl fun K hK => ?_
        go_simp
        refine hK.out _ _ (.inr ⟨⟨wk, HK.out⟩, rfl⟩) ?_
        clear hK K
        refine wpHeld_last ?_
        go_wp2
        exact bodyPost_res (v := .tuple #[.string (strOfNums out), .int .i64 0]) (by simp [results, Try.results24, go_sem]) rfl ⟨by rw [HE.out, HMB.out], HU1.out.next (HVU.out.next HK.out)⟩
      · simp only [pick3, List.map_cons, List.map_nil, List.getElem?_cons_zero, List.getElem?_cons_succ, Option.getD_some]
        refine wpHeldK_step rfl fun K hK => ?_
        go_simp
        refine (HNM.out _).mono ?_
        rintro _ wj ⟨rfl, hux⟩
        have HJ1 := Lib.hid (HJ.out.next hux)
        clear hux
        refine hK.out _ _ ⟨⟨wj, HJ1.out⟩, rfl⟩ ?_
        clear hK K
        refine wpQuiet_then ?_
        refine wpS_one ?_
        simp only [pick3, List.map_cons, List.map_nil, List.getElem?_cons_zero, List.getElem?_cons_succ, Option.getD_some]
        refine wpHeldK_step rfl fun K hK => ?_
        go_simp
        obtain ⟨V, hV⟩ : ∃ V, V = wj.heap.size := ⟨_, rfl⟩
        obtain ⟨wv, hwv⟩ : ∃ W, W = wj.alloc (.cells #[.int .u8 (128 + (nr : Int)), .int .u8 200] 5) := ⟨_, rfl⟩
        rw [← hwv, ← hV]
        have hvb : Blk wv V 5 #[.int .u8 (128 + (nr : Int)), .int .u8 200] := by rw [hwv, hV]; exact Blk.new _ _ _
        have hcv : ∀ z : Cls (Upd [] wv), (convert 25 9 (.slice (some ⟨V, 0, none⟩) 2 2)).run Try.prog z.w = .ok (.string (strOfNums hd)) z.w := fun z => by rw [HHD.out, hx0]; exact str_two (hvb.upd z.h (by simp))
        have HVU : Hid (Upd [] w1 wv) := Lib.hid (HJ1.out.next (by rw [hwv]; exact (Upd.refl [] wj).alloc _))
        clear hV hwv hvb
        refine hK.out _ _ ⟨⟨wv, HVU.out⟩, rfl⟩ ?_
        clear hK K
        refine wpQuiet_then ?_
        refine wpS_narrow (Upd [] wv) (fun w' h => ⟨⟨w', HVU.out.next h⟩, rfl⟩) (Upd.refl _ _) ?_
        have HV0 : Hid (Upd [] wv wv) := Lib.hid (Upd.refl _ _)
        refine wpS_take ?_
        simp only [pick3, List.map_cons, List.map_nil, List.getElem?_cons_zero, List.getElem?_cons_succ, Option.getD_some]
        repeat (go_big_quiet_step (with_reducible rfl))
        refine wpQuiet_nil ?_
        refine wpS_last ?_
        simp only [pick3, List.map_cons, List.map_nil, List.getElem?_cons_zero, List.getElem?_cons_succ, Option.getD_some]
        refine wpHeld_step rfl fun K hK => ?_
        go_simp
        refine hK.out _ _ (.inr ⟨⟨wv, HV0.out⟩, rfl⟩) ?_
        clear hK K
        refine wpHeld_last ?_
        go_wp2
        exact bodyPost_res (v := .tuple #[.string (strOfNums out), .int .i64 0]) (by simp [results, Try.results24, go_sem]) rfl ⟨by rw [HE.out, HMB.out], HU1.out.next (HVU.out.next HV0.out)⟩
  by_cases k1 : kd = 1
  · have kk : (1 : Int) = kd := k1.symm
    subst kk
    clear k1
    obtain ⟨s0, hs0⟩ : ∃ l, l = be ssrc 4 := ⟨_, rfl⟩
    have ls0 : s0.length = 4 := by rw [hs0, be_length]
    obtain ⟨sr, hsr⟩ : ∃ l, l = bytesOf (reports.flatMap repParts) := ⟨_, rfl⟩
    have lsr : sr.length = 24 * nr := by rw [hsr, bytesOf_len6, ← HL.out.1]
    obtain ⟨bs, hbs⟩ : ∃ l, l = s0 ++ sr := ⟨_, rfl⟩
    have lbs : bs.length = s0.length + sr.length := by rw [hbs, List.length_append]
    have abs : ∀ z : World, (Op.stringOp .add (strOfNums s0) (strOfNums sr)).run Try.prog z = .ok (.string (strOfNums bs)) z := fun z => by rw [hbs]; exact str_add _ _ (by omega) z
    have HBD : Hid (bodyM m = ⟨201, reports.length, [(ssrc, 4)] ++ reports.flatMap repParts, decide (reports.length ≤ 31)⟩) := Lib.hid (by rw [HM.out]; rfl)
    have HT : Hid ((bodyM m).t = 201) := Lib.hid (by rw [HBD.out])
    have HN : Hid ((bodyM m).n = nr) := Lib.hid (by rw [HBD.out]; dsimp only; rw [← HL.out.1])
    have HIS : Hid ((bodyM m).is = decide (nr ≤ 31)) := Lib.hid (by rw [HBD.out]; dsimp only; rw [← HL.out.1])
    have HB : Hid (bytesOf (bodyM m).ps = bs) := Lib.hid (by rw [HBD.out]; dsimp only; rw [bytesOf_append6, ← hsr, hbs]; unfold bytesOf; simp [hs0])
    have HFs0 := Lib.hid (fun (z : Cls (Upd [] W)) => quiet_cls (C := Upd [] W) (x := z) ((dfour_any z.w ssrc HOK.out.ssrc).mono fun e w' h => ⟨h.1, z.h.next h.2⟩))
    rw [← hs0] at HFs0
    have HFR := Lib.hid (fun (z : Cls (Upd [] W)) => quiet_cls (C := Upd [] W) (x := z) ((rreports_doc (cap := rc) (((HRF.out.cr.upd2 (HU.out.next z.h) (Nat.le_refl _) (by simp)).more (Nat.le_refl _) (HU.out.next z.h).size)) HOK.out.reports HOK.out.nr).mono fun e w' h => ⟨h.1, z.h.next h.2⟩))
    rw [← hsr] at HFR
    dsimp only at HFR
    rw [← HL.out.1] at HFR
    clear hsr hs0 hbs
    have c0 : W.cell? ⟨G, 0, none⟩ = some (.int .i64 1) := HGB.out.cell 0
    have c7 : W.cell? ⟨G, 7, none⟩ = some (.slice rA nr rc) := HGB.out.cell 7
    go_upto_region 12 with fail
    clear c0 c7
    have hGl := HGB.out.lt
    have c1 : ∀ z : Cls (Upd [] W), z.w.cell? ⟨G, 1, none⟩ = some (.int .u32 ssrc) := fun z => (z.h.cell (p := ⟨G, 1, none⟩) hGl (by simp)).trans (HGB.out.cell 1)
    have c7 : ∀ z : Cls (Upd [] W), z.w.cell? ⟨G, 7, none⟩ = some (.slice rA nr rc) := fun z => (z.h.cell (p := ⟨G, 7, none⟩) hGl (by simp)).trans (HGB.out.cell 7)
    refine wp_class_tail (Upd [] W) ((Upd.refl _ _).drewN 1) 7 (by kernel_rfl) (by kernel_rfl) (fun _ _ _ _ h => h) ?_
    intro hne
    simp only [List.take_succ_cons, List.take_zero, List.drop_succ_cons, List.drop_zero]
    repeat (go_big_quiet_step (first | with_reducible rfl | (go_at_call 36; with_reducible exact HFs0.out _) | (go_at_call 38; with_reducible exact HFR.out _)))
    refine wpQuiet_nil ?_
    rintro _ ⟨xe, rfl⟩
    have hux := xe.h
    obtain ⟨w1, hw1⟩ : ∃ v, v = xe.w := ⟨_, rfl⟩
    rw [← hw1] at hux ⊢
    have HU1 := Lib.hid (HU.out.next hux)
    have HG1 := Lib.hid (HGB.out.upd hux (by simp))
    clear hw1 hux hGl c1 c7 HFR HFs0
    have hnr : nr ≤ 60 := by rw [HL.out.1]; exact HOK.out.nr
    by_cases kn : (31 : Int) < (nr : Int)
    · have HE : Hid (r = ([], 1)) := Lib.hid (by rw [HR.out]; unfold putD; rw [if_neg (by first | (rw [HIS.out]; simp; done) | (rw [HIS.out]; simp; omega))])
      have c0 : w1.cell? ⟨G, 0, none⟩ = some (.int .i64 1) := HG1.out.cell 0
      have c9 : w1.cell? ⟨G, 9, none⟩ = some (.slice pA np pc) := HG1.out.cell 9
      have c10 : w1.cell? ⟨G, 10, none⟩ = some (.slice aA na ac) := HG1.out.cell 10
      go_wp2
      exact bodyPost_res (v := .tuple #[.string { data := #[] }, .int .i64 1]) (by simp [results, Try.results24, go_sem]) rfl ⟨by rw [HE.out]; rfl, HU1.out⟩
    · have HE : Hid (r = (msgB m, 0)) := Lib.hid (by rw [HR.out]; unfold putD; rw [if_pos (by first | (rw [HIS.out]; done) | (rw [HIS.out]; simp; omega))])
      obtain ⟨L, hL⟩ : ∃ n, n = bs.length := ⟨_, rfl⟩
      obtain ⟨q, hq⟩ : ∃ n : Nat, n = L / 4 := ⟨_, rfl⟩
      have hqb : 0 ≤ (q : Int) ∧ (q : Int) ≤ 18446744073709551615 := by omega
      have hsz : (strOfNums bs).size = L := by rw [strOfNums_size, hL]
      have hqt : ((L : Int)).tdiv 4 = (q : Int) := by rw [Int.tdiv_eq_ediv_of_nonneg (by omega)]; omega
      have hqw : IntKind.u64.wrap (q : Int) = (q : Int) := by unfold IntKind.wrap; simp [IntKind.bits, IntKind.signed]; omega
      have hq64 : wrap64 (q : Int) = (q : Int) := by unfold wrap64; omega
      have hw1 : IntKind.i64.wrap (128 + (nr : Int)) = 128 + (nr : Int) := IntWalk.i64_in _ (by omega)
      have hw2 : IntKind.u8.wrap (128 + (nr : Int)) = 128 + (nr : Int) := by unfold IntKind.wrap; simp [IntKind.bits, IntKind.signed]; try omega
      obtain ⟨x0, hx0⟩ : ∃ v : Int, v = 128 + (nr : Int) := ⟨_, rfl⟩
      obtain ⟨hd, hhd⟩ : ∃ l : List Int, l = [x0, 201] := ⟨_, rfl⟩
      have lhd : hd.length = 2 := by rw [hhd]; rfl
      obtain ⟨bq, hbq⟩ : ∃ l, l = be (q : Int) 2 := ⟨_, rfl⟩
      have lbq : bq.length = 2 := by rw [hbq, be_length]
      obtain ⟨out_0, hout_0⟩ : ∃ l, l = hd ++ bq := ⟨_, rfl⟩
      have lout_0 : out_0.length = hd.length + bq.length := by rw [hout_0, List.length_append]
      have aout_0 : ∀ z : World, (Op.stringOp .add (strOfNums hd) (strOfNums bq)).run Try.prog z = .ok (.string (strOfNums out_0)) z := fun z => by rw [hout_0]; exact str_add _ _ (by omega) z
      obtain ⟨out, hout⟩ : ∃ l, l = out_0 ++ bs := ⟨_, rfl⟩
      have lout : out.length = out_0.length + bs.length := by rw [hout, List.length_append]
      have aout : ∀ z : World, (Op.stringOp .add (strOfNums out_0) (strOfNums bs)).run Try.prog z = .ok (.string (strOfNums out)) z := fun z => by rw [hout]; exact str_add _ _ (by omega) z
      have HMB : Hid (msgB m = out) := Lib.hid (by
        unfold msgB
        rw [HN.out, HT.out, HB.out]
        rw [hout, hout_0, hhd, hbq, hx0, be_cons, be_cons, be_zero0]
        have e1 : ((q : Nat) : Int) = (bs.length : Int) / 4 := by rw [hq, hL]; rfl
        rw [e1]
        simp)
      have HHD := Lib.hid hhd
      have HNM : Hid (∀ W, Calls Try.prog 37 #[.int .u64 q, .int .i64 2] W fun e w' => e = .returned (.string (strOfNums bq)) ∧ Upd [] W w') := Lib.hid (fun W => by rw [hbq]; exact dnum_any W q 2 hqb (by decide) (by decide))
      clear hL hq hhd hbq hout hout_0 lhd lbq lout lout_0
      have c0 : w1.cell? ⟨G, 0, none⟩ = some (.int .i64 1) := HG1.out.cell 0
      have c9 : w1.cell? ⟨G, 9, none⟩ = some (.slice pA np pc) := HG1.out.cell 9
      have c10 : w1.cell? ⟨G, 10, none⟩ = some (.slice aA na ac) := HG1.out.cell 10
      go_upto_region 40 with fail
      clear c0 c9 c10
      refine wp_script (Upd [] w1) ((Upd.refl _ _).drewN 1) (.take [0, 1, 2, 3, 4, 7, 8, 9, 10, 13] (.fork 5 11 (.narrow (.take [6] (.one 11 (.take [12, 14] (.last [15, 16]))))) (.one 5 (.narrow (.take [6, 12, 14] (.last [15, 16])))))) (by kernel_rfl) (by kernel_rfl) (fun _ _ _ _ h => h) ?_
      intro hne
      refine wpS_take ?_
      simp only [pick3, List.map_cons, List.map_nil, List.getElem?_cons_zero, List.getElem?_cons_succ, Option.getD_some]
      repeat (go_big_quiet_step (with_reducible rfl))
      refine wpQuiet_nil ?_
      obtain ⟨w0, hw0⟩ : ∃ v, v = w1.drewN 1 := ⟨_, rfl⟩
      have HJ : Hid (Upd [] w1 w0) := Lib.hid (by rw [hw0]; exact (Upd.refl _ _).drewN 1)
      rw [← hw0]
      clear hw0
      refine wpS_fork ?_ ?_
      · simp only [pick3, List.map_cons, List.map_nil, List.getElem?_cons_zero, List.getElem?_cons_succ, Option.getD_some]
        refine wpHeldK_step rfl fun K hK => ?_
        go_simp
        obtain ⟨V, hV⟩ : ∃ V, V = w0.heap.size := ⟨_, rfl⟩
        obtain ⟨wv, hwv⟩ : ∃ W, W = w0.alloc (.cells #[.int .u8 (128 + (nr : Int)), .int .u8 201] 5) := ⟨_, rfl⟩
        rw [← hwv, ← hV]
        have hvb : Blk wv V 5 #[.int .u8 (128 + (nr : Int)), .int .u8 201] := by rw [hwv, hV]; exact Blk.new _ _ _
        have hcv : ∀ z : Cls (Upd [] wv), (convert 25 9 (.slice (some ⟨V, 0, none⟩) 2 2)).run Try.prog z.w = .ok (.string (strOfNums hd)) z.w := fun z => by rw [HHD.out, hx0]; exact str_two (hvb.upd z.h (by simp))
        have HVU : Hid (Upd [] w1 wv) := Lib.hid (HJ.out.next (by rw [hwv]; exact (Upd.refl [] w0).alloc _))
        clear hV hwv hvb
        refine hK.out _ _ ⟨⟨wv, HVU.out⟩, rfl⟩ ?_
        clear hK K
        refine wpQuiet_then ?_
        refine wpS_narrow (Upd [] wv) (fun w' h => ⟨⟨w', HVU.out.next h⟩, rfl⟩) (Upd.refl _ _) ?_
        have HV0 : Hid (Upd [] wv wv) := Lib.hid (Upd.refl _ _)
        refine wpS_take ?_
        simp only [pick3, List.map_cons, List.map_nil, List.getElem?_cons_zero, List.getElem?_cons_succ, Option.getD_some]
        repeat (go_big_quiet_step (with_reducible rfl))
        refine wpQuiet_nil ?_
        refine wpS_one ?_
        simp only [pick3, List.map_cons, List.map_nil, List.getElem?_cons_zero, List.getElem?_cons_succ, Option.getD_some]
        refine wpHeldK_step rfl fun K hK => ?_
        go_simp
        refine (HNM.out _).mono ?_
        rintro _ wk ⟨rfl, hux⟩
        have HK := Lib.hid (HV0.out.next hux)
        clear hux
        refine hK.out _ _ ⟨⟨wk, HK.out⟩, rfl⟩ ?_
        clear hK K
        refine wpQuiet_then ?_
        refine wpS_take ?_
        simp only [pick3, List.map_cons, List.map_nil, List.getElem?_cons_zero, List.getElem?_cons_succ, Option.getD_some]
        repeat (go_big_quiet_step (with_reducible rfl))
        refine wpQuiet_nil ?_
        refine wpS_last ?_
        simp only [pick3, List.map_cons, List.map_nil, List.getElem?_cons_zero, List.getElem?_cons_succ, Option.getD_some]
        refine wpHeld_step rfl fun K hK => ?_
        go_simp
        refine hK.out _ _ (.inr ⟨⟨wk, HK.out⟩, rfl⟩) ?_
        clear hK K
        refine wpHeld_last ?_
        go_wp2
        exact bodyPost_res (v := .tuple #[.string (strOfNums out), .int .i64 0]) (by simp [results, Try.results24, go_sem]) rfl ⟨by rw [HE.out, HMB.out], HU1.out.next (HVU.out.next HK.out)⟩
      · simp only [pick3, List.map_cons, List.map_nil, List.getElem?_cons_zero, List.getElem?_cons_succ, Option.getD_some]
        refine wpHeldK_step rfl fun K hK => ?_
        go_simp
        refine (HNM.out _).mono ?_
        rintro _ wj ⟨rfl, hux⟩
        have HJ1 := Lib.hid (HJ.out.next hux)
        clear hux
        refine hK.out _ _ ⟨⟨wj, HJ1.out⟩, rfl⟩ ?_
        clear hK K
        refine wpQuiet_then ?_
        refine wpS_one ?_
        simp only [pick3, List.map_cons, List.map_nil, List.getElem?_cons_zero, List.getElem?_cons_succ, Option.getD_some]
        refine wpHeldK_step rfl fun K hK => ?_
        go_simp
        obtain ⟨V, hV⟩ : ∃ V, V = wj.heap.size := ⟨_, rfl⟩
        obtain ⟨wv, hwv⟩ : ∃ W, W = wj.alloc (.cells #[.int .u8 (128 + (nr : Int)), .int .u8 201] 5) := ⟨_, rfl⟩
        rw [← hwv, ← hV]
        have hvb : Blk wv V 5 #[.int .u8 (128 + (nr : Int)), .int .u8 201] := by rw [hwv, hV]; exact Blk.new _ _ _
        have hcv : ∀ z : Cls (Upd [] wv), (convert 25 9 (.slice (some ⟨V, 0, none⟩) 2 2)).run Try.prog z.w = .ok (.string (strOfNums hd)) z.w := fun z => by rw [HHD.out, hx0]; exact str_two (hvb.upd z.h (by simp))
        have HVU : Hid (Upd [] w1 wv) := Lib.hid (HJ1.out.next (by rw [hwv]; exact (Upd.refl [] wj).alloc _))
        clear hV hwv hvb
        refine hK.out _ _ ⟨⟨wv, HVU.out⟩, rfl⟩ ?_
        clear hK K
        refine wpQuiet_then ?_
        refine wpS_narrow (Upd [] wv) (fun w' h => ⟨⟨w', HVU.out.next h⟩, rfl⟩) (Upd.refl _ _) ?_
        have HV0 : Hid (Upd [] wv wv) := Lib.hid (Upd.refl _ _)
        refine wpS_take ?_
        simp only [pick3, List.map_cons, List.map_nil, List.getElem?_cons_zero, List.getElem?_cons_succ, Option.getD_some]
        repeat (go_big_quiet_step (with_reducible rfl))
        refine wpQuiet_nil ?_
        refine wpS_last ?_
        simp only [pick3, List.map_cons, List.map_nil, List.getElem?_cons_zero, List.getElem?_cons_succ, Option.getD_some]
        refine wpHeld_step rfl fun K hK => ?_
        go_simp
        refine hK.out _ _ (.inr ⟨⟨wv, HV0.out⟩, rfl⟩) ?_
        clear hK K
        refine wpHeld_last ?_
        go_wp2
        exact bodyPost_res (v := .tuple #[.string (strOfNums out), .int .i64 0]) (by simp [results, Try.results24, go_sem]) rfl ⟨by rw [HE.out, HMB.out], HU1.out.next (HVU.out.next HV0.out)⟩
  by_cases k2 : kd = 2
  · have kk : (2 : Int) = kd := k2.symm
    subst kk
    clear k2
    have c0 : W.cell? ⟨G, 0, none⟩ = some (.int .i64 2) := HGB.out.cell 0
    have c8 : W.cell? ⟨G, 8, none⟩ = some (.slice wA nw wcp) := HGB.out.cell 8
    have hnw : nw ≤ 60 := by rw [HL.out.2.1]; exact HOK.out.nw
    go_wp2
    clear c0 c8
    go_loopg [4, 7] nw (fun gk x4 x7 wr => ∃ i : Nat, i ≤ nw ∧ nw ≤ i + gk ∧ x7 = .int .i64 i ∧ x4 = .string (strOfNums (bytesOf ((who.take i).map fun x => (x, 4)))) ∧ Upd [] W wr)
    case atStart => exact ⟨0, Nat.zero_le _, by omega, rfl, rfl, Upd.refl _ _⟩
    case round =>
      obtain ⟨i, hi, hgi, rfl, rfl, hu⟩ := hrel
      have c8 : wr.cell? ⟨G, 8, none⟩ = some (.slice wA nw wcp) := (HGB.out.upd hu (by simp)).cell 8
      by_cases hlt : i < nw
      · obtain ⟨x, hx⟩ : ∃ x, who[i]? = some x := ⟨_, List.getElem?_eq_getElem (by rw [← HL.out.2.1]; exact hlt)⟩
        obtain ⟨b, off, e, _, hb, hcc⟩ := HRF.out.cw.2 (by dsimp only; rw [← HL.out.2.1]; omega)
        dsimp only at e
        subst e
        have e0 := ((HU.out.next hu).cell (p := ⟨b, off + i, none⟩) hb (by simp)).trans (hcc i _ (by rw [List.getElem?_map]; dsimp only; rw [hx]; rfl))
        have hok := HOK.out.who x (List.mem_of_getElem? hx)
        obtain ⟨so, hso⟩ : ∃ l, l = bytesOf ((who.take i).map fun x => (x, 4)) := ⟨_, rfl⟩
        have lso : so.length ≤ 240 := by rw [hso, bytesOf_sz, sz_who, List.length_take]; omega
        obtain ⟨s1, hs1⟩ : ∃ l, l = be x 4 := ⟨_, rfl⟩
        have ls1 : s1.length = 4 := by rw [hs1, be_length]
        obtain ⟨s2, hs2⟩ : ∃ l, l = so ++ s1 := ⟨_, rfl⟩
        have ls2 : s2.length = so.length + s1.length := by rw [hs2, List.length_append]
        have as2 : ∀ z : World, (Op.stringOp .add (strOfNums so) (strOfNums s1)).run Try.prog z = .ok (.string (strOfNums s2)) z := fun z => by rw [hs2]; exact str_add _ _ (by omega) z
        have HS : Hid (bytesOf ((who.take (i + 1)).map fun x => (x, 4)) = s2) := Lib.hid (by rw [List.take_add_one, hx, List.map_append]; unfold bytesOf at hso ⊢; rw [List.flatMap_append, ← hso, hs2, hs1]; simp)
        have HF : Hid (∀ z : World, Calls Try.prog 36 #[.int .u32 x] z fun e w' => e = .returned (.string (strOfNums s1)) ∧ Upd [] z w') := Lib.hid (fun z => by rw [hs1]; exact dfour_any z x hok)
        have hlti : (i : Int) < (nw : Int) := by omega
        have hwi : IntKind.i64.wrap ((i : Int) + 1) = (i : Int) + 1 := IntWalk.i64_in _ (by omega)
        rw [← hso]
        have HUR := Lib.hid hu
        have HGI := Lib.hid hgi
        clear hx hb hcc hso lso hok hs1 hs2 ls1 ls2 hu hgi
        go_wp2_with fail
        refine (HF.out _).mono ?_
        rintro _ wx ⟨rfl, hux⟩
        clear e0 c8
        go_wp2
        go_roundg (gk - 1)
        case measure => have := HGI.out; omega
        case rel => exact ⟨i + 1, by omega, by have := HGI.out; omega, by go_num, by rw [HS.out], HUR.out.next hux⟩
      · have hin : i = nw := by omega
        subst hin
        have HU1 := Lib.hid (HU.out.next hu)
        have HG1 := Lib.hid (HGB.out.upd hu (by simp))
        obtain ⟨bs, hbs⟩ : ∃ l, l = bytesOf ((who.take i).map fun x => (x, 4)) := ⟨_, rfl⟩
        have lbs : bs.length ≤ 240 := by rw [hbs, bytesOf_sz, sz_who, List.length_take]; omega
        rw [← hbs]
        have HBD : Hid (bodyM m = ⟨203, who.length, who.map fun x => (x, 4), decide (who.length ≤ 31)⟩) := Lib.hid (by rw [HM.out]; rfl)
        have HT : Hid ((bodyM m).t = 203) := Lib.hid (by rw [HBD.out])
        have HN : Hid ((bodyM m).n = i) := Lib.hid (by rw [HBD.out]; dsimp only; rw [← HL.out.2.1])
        have HIS : Hid ((bodyM m).is = decide (i ≤ 31)) := Lib.hid (by rw [HBD.out]; dsimp only; rw [← HL.out.2.1])
        have HB : Hid (bytesOf (bodyM m).ps = bs) := Lib.hid (by rw [HBD.out]; dsimp only; rw [hbs, HL.out.2.1, List.take_length])
        clear hbs hu hgi hi hlt
        by_cases kn : (31 : Int) < (i : Int)
        · have HE : Hid (r = ([], 1)) := Lib.hid (by rw [HR.out]; unfold putD; rw [if_neg (by first | (rw [HIS.out]; simp; done) | (rw [HIS.out]; simp; omega))])
          have c0 : wr.cell? ⟨G, 0, none⟩ = some (.int .i64 2) := HG1.out.cell 0
          have c9 : wr.cell? ⟨G, 9, none⟩ = some (.slice pA np pc) := HG1.out.cell 9
          have c10 : wr.cell? ⟨G, 10, none⟩ = some (.slice aA na ac) := HG1.out.cell 10
          go_wp2
          exact bodyPost_res (v := .tuple #[.string { data := #[] }, .int .i64 1]) (by simp [results, Try.results24, go_sem]) rfl ⟨by rw [HE.out]; rfl, HU1.out⟩
        · have HE : Hid (r = (msgB m, 0)) := Lib.hid (by rw [HR.out]; unfold putD; rw [if_pos (by first | (rw [HIS.out]; done) | (rw [HIS.out]; simp; omega))])
          obtain ⟨L, hL⟩ : ∃ n, n = bs.length := ⟨_, rfl⟩
          obtain ⟨q, hq⟩ : ∃ n : Nat, n = L / 4 := ⟨_, rfl⟩
          have hqb : 0 ≤ (q : Int) ∧ (q : Int) ≤ 18446744073709551615 := by omega
          have hsz : (strOfNums bs).size = L := by rw [strOfNums_size, hL]
          have hqt : ((L : Int)).tdiv 4 = (q : Int) := by rw [Int.tdiv_eq_ediv_of_nonneg (by omega)]; omega
          have hqw : IntKind.u64.wrap (q : Int) = (q : Int) := by unfold IntKind.wrap; simp [IntKind.bits, IntKind.signed]; omega
          have hq64 : wrap64 (q : Int) = (q : Int) := by unfold wrap64; omega
          have hw1 : IntKind.i64.wrap (128 + (i : Int)) = 128 + (i : Int) := IntWalk.i64_in _ (by omega)
          have hw2 : IntKind.u8.wrap (128 + (i : Int)) = 128 + (i : Int) := by unfold IntKind.wrap; simp [IntKind.bits, IntKind.signed]; try omega
          obtain ⟨x0, hx0⟩ : ∃ v : Int, v = 128 + (i : Int) := ⟨_, rfl⟩
          obtain ⟨hd, hhd⟩ : ∃ l : List Int, l = [x0, 203] := ⟨_, rfl⟩
          have lhd : hd.length = 2 := by rw [hhd]; rfl
          obtain ⟨bq, hbq⟩ : ∃ l, l = be (q : Int) 2 := ⟨_, rfl⟩
          have lbq : bq.length = 2 := by rw [hbq, be_length]
          obtain ⟨out_0, hout_0⟩ : ∃ l, l = hd ++ bq := ⟨_, rfl⟩
          have lout_0 : out_0.length = hd.length + bq.length := by rw [hout_0, List.length_append]
          have aout_0 : ∀ z : World, (Op.stringOp .add (strOfNums hd) (strOfNums bq)).run Try.prog z = .ok (.string (strOfNums out_0)) z := fun z => by rw [hout_0]; exact str_add _ _ (by omega) z
          obtain ⟨out, hout⟩ : ∃ l, l = out_0 ++ bs := ⟨_, rfl⟩
          have lout : out.length = out_0.length + bs.length := by rw [hout, List.length_append]
          have aout : ∀ z : World, (Op.stringOp .add (strOfNums out_0) (strOfNums bs)).run Try.prog z = .ok (.string (strOfNums out)) z := fun z => by rw [hout]; exact str_add _ _ (by omega) z
          have HMB : Hid (msgB m = out) := Lib.hid (by
            unfold msgB
            rw [HN.out, HT.out, HB.out]
            rw [hout, hout_0, hhd, hbq, hx0, be_cons, be_cons, be_zero0]
            have e1 : ((q : Nat) : Int) = (bs.length : Int) / 4 := by rw [hq, hL]; rfl
            rw [e1]
            simp)
          have HHD := Lib.hid hhd
          have HNM : Hid (∀ W, Calls Try.prog 37 #[.int .u64 q, .int .i64 2] W fun e w' => e = .returned (.string (strOfNums bq)) ∧ Upd [] W w') := Lib.hid (fun W => by rw [hbq]; exact dnum_any W q 2 hqb (by decide) (by decide))
          clear hL hq hhd hbq hout hout_0 lhd lbq lout lout_0
          have c0 : wr.cell? ⟨G, 0, none⟩ = some (.int .i64 2) := HG1.out.cell 0
          have c9 : wr.cell? ⟨G, 9, none⟩ = some (.slice pA np pc) := HG1.out.cell 9
          have c10 : wr.cell? ⟨G, 10, none⟩ = some (.slice aA na ac) := HG1.out.cell 10
          go_upto_region 40 with fail
          clear c0 c9 c10
          refine wp_script (Upd [] wr) ((Upd.refl _ _).drewN 1) (.take [0, 1, 2, 3, 4, 7, 8, 9, 10, 13] (.fork 5 11 (.narrow (.take [6] (.one 11 (.take [12, 14] (.last [15, 16]))))) (.one 5 (.narrow (.take [6, 12, 14] (.last [15, 16])))))) (by kernel_rfl) (by kernel_rfl) (fun _ _ _ _ h => h) ?_
          intro hne
          refine wpS_take ?_
          simp only [pick3, List.map_cons, List.map_nil, List.getElem?_cons_zero, List.getElem?_cons_succ, Option.getD_some]
          repeat (go_big_quiet_step (with_reducible rfl))
          refine wpQuiet_nil ?_
          obtain ⟨w0, hw0⟩ : ∃ v, v = wr.drewN 1 := ⟨_, rfl⟩
          have HJ : Hid (Upd [] wr w0) := Lib.hid (by rw [hw0]; exact (Upd.refl _ _).drewN 1)
          rw [← hw0]
          clear hw0
          refine wpS_fork ?_ ?_
          · simp only [pick3, List.map_cons, List.map_nil, List.getElem?_cons_zero, List.getElem?_cons_succ, Option.getD_some]
            refine wpHeldK_step rfl fun K hK => ?_
            go_simp
            obtain ⟨V, hV⟩ : ∃ V, V = w0.heap.size := ⟨_, rfl⟩
            obtain ⟨wv, hwv⟩ : ∃ W, W = w0.alloc (.cells #[.int .u8 (128 + (i : Int)), .int .u8 203] 5) := ⟨_, rfl⟩
            rw [← hwv, ← hV]
            have hvb : Blk wv V 5 #[.int .u8 (128 + (i : Int)), .int .u8 203] := by rw [hwv, hV]; exact Blk.new _ _ _
            have hcv : ∀ z : Cls (Upd [] wv), (convert 25 9 (.slice (some ⟨V, 0, none⟩) 2 2)).run Try.prog z.w = .ok (.string (strOfNums hd)) z.w := fun z => by rw [HHD.out, hx0]; exact str_two (hvb.upd z.h (by simp))
            have HVU : Hid (Upd [] wr wv) := Lib.hid (HJ.out.next (by rw [hwv]; exact (Upd.refl [] w0).alloc _))
            clear hV hwv hvb
            refine hK.out _ _ ⟨⟨wv, HVU.out⟩, rfl⟩ ?_
            clear hK K
            refine wpQuiet_then ?_
            refine wpS_narrow (Upd [] wv) (fun w' h => ⟨⟨w', HVU.out.next h⟩, rfl⟩) (Upd.refl _ _) ?_
            have HV0 : Hid (Upd [] wv wv) := Lib.hid (Upd.refl _ _)
            refine wpS_take ?_
            simp only [pick3, List.map_cons, List.map_nil, List.getElem?_cons_zero, List.getElem?_cons_succ, Option.getD_some]
            repeat (go_big_quiet_step (with_reducible rfl))
            refine wpQuiet_nil ?_
            refine wpS_one ?_
            simp only [pick3, List.map_cons, List.map_nil, List.getElem?_cons_zero, List.getElem?_cons_succ, Option.getD_some]
            refine wpHeldK_step rfl fun K hK => ?_
            go_simp
            refine (HNM.out _).mono ?_
            rintro _ wk ⟨rfl, hux⟩
            have HK := Lib.hid (HV0.out.next hux)
            clear hux
            refine hK.out _ _ ⟨⟨wk, HK.out⟩, rfl⟩ ?_
            clear hK K
            refine wpQuiet_then ?_
            refine wpS_take ?_
            simp only [pick3, List.map_cons, List.map_nil, List.getElem?_cons_zero, List.getElem?_cons_succ, Option.getD_some]
            repeat (go_big_quiet_step (with_reducible rfl))
            refine wpQuiet_nil ?_
            refine wpS_last ?_
            simp only [pick3, List.map_cons, List.map_nil, List.getElem?_cons_zero, List.getElem?_cons_succ, Option.getD_some]
            refine wpHeld_step rfl fun K hK => ?_
            go_simp
            refine hK.out _ _ (.inr ⟨⟨wk, HK.out⟩, rfl⟩) ?_
            clear hK K
            refine wpHeld_last ?_
            go_wp2
            exact bodyPost_res (v := .tuple #[.string (strOfNums out), .int .i64 0]) (by simp [results, Try.results24, go_sem]) rfl ⟨by rw [HE.out, HMB.out], HU1.out.next (HVU.out.next HK.out)⟩
          · simp only [pick3, List.map_cons, List.map_nil, List.getElem?_cons_zero, List.getElem?_cons_succ, Option.getD_some]
            refine wpHeldK_step rfl fun K hK => ?_
            go_simp
            refine (HNM.out _).mono ?_
            rintro _ wj ⟨rfl, hux⟩
            have HJ1 := Lib.hid (HJ.out.next hux)
            clear hux
            refine hK.out _ _ ⟨⟨wj, HJ1.out⟩, rfl⟩ ?_
            clear hK K
            refine wpQuiet_then ?_
            refine wpS_one ?_
            simp only [pick3, List.map_cons, List.map_nil, List.getElem?_cons_zero, List.getElem?_cons_succ, Option.getD_some]
            refine wpHeldK_step rfl fun K hK => ?_
            go_simp
            obtain ⟨V, hV⟩ : ∃ V, V = wj.heap.size := ⟨_, rfl⟩
            obtain ⟨wv, hwv⟩ : ∃ W, W = wj.alloc (.cells #[.int .u8 (128 + (i : Int)), .int .u8 203] 5) := ⟨_, rfl⟩
            rw [← hwv, ← hV]
            have hvb : Blk wv V 5 #[.int .u8 (128 + (i : Int)), .int .u8 203] := by rw [hwv, hV]; exact Blk.new _ _ _
            have hcv : ∀ z : Cls (Upd [] wv), (convert 25 9 (.slice (some ⟨V, 0, none⟩) 2 2)).run Try.prog z.w = .ok (.string (strOfNums hd)) z.w := fun z => by rw [HHD.out, hx0]; exact str_two (hvb.upd z.h (by simp))
            have HVU : Hid (Upd [] wr wv) := Lib.hid (HJ1.out.next (by rw [hwv]; exact (Upd.refl [] wj).alloc _))
            clear hV hwv hvb
            refine hK.out _ _ ⟨⟨wv, HVU.out⟩, rfl⟩ ?_
            clear hK K
            refine wpQuiet_then ?_
            refine wpS_narrow (Upd [] wv) (fun w' h => ⟨⟨w', HVU.out.next h⟩, rfl⟩) (Upd.refl _ _) ?_
            have HV0 : Hid (Upd [] wv wv) := Lib.hid (Upd.refl _ _)
            refine wpS_take ?_
            simp only [pick3, List.map_cons, List.map_nil, List.getElem?_cons_zero, List.getElem?_cons_succ, Option.getD_some]
            repeat (go_big_quiet_step (with_reducible rfl))
            refine wpQuiet_nil ?_
            refine wpS_last ?_
            simp only [pick3, List.map_cons, List.map_nil, List.getElem?_cons_zero, List.getElem?_cons_succ, Option.getD_some]
            refine wpHeld_step rfl fun K hK => ?_
            go_simp
            refine hK.out _ _ (.inr ⟨⟨wv, HV0.out⟩, rfl⟩) ?_
            clear hK K
            refine wpHeld_last ?_
            go_wp2
            exact bodyPost_res (v := .tuple #[.string (strOfNums out), .int .i64 0]) (by simp [results, Try.results24, go_sem]) rfl ⟨by rw [HE.out, HMB.out], HU1.out.next (HVU.out.next HV0.out)⟩
  by_cases k3 : kd = 3
  · have kk : (3 : Int) = kd := k3.symm
    subst kk
    clear k3
    obtain ⟨s0, hs0⟩ : ∃ l, l = be ssrc 4 := ⟨_, rfl⟩
    have ls0 : s0.length = 4 := by rw [hs0, be_length]
    obtain ⟨s1, hs1⟩ : ∃ l, l = be media 4 := ⟨_, rfl⟩
    have ls1 : s1.length = 4 := by rw [hs1, be_length]
    obtain ⟨st, hst⟩ : ∃ l, l = s0 ++ s1 := ⟨_, rfl⟩
    have lst : st.length = s0.length + s1.length := by rw [hst, List.length_append]
    have ast : ∀ z : World, (Op.stringOp .add (strOfNums s0) (strOfNums s1)).run Try.prog z = .ok (.string (strOfNums st)) z := fun z => by rw [hst]; exact str_add _ _ (by omega) z
    have HFs0 := Lib.hid (fun (z : Cls (Upd [] W)) => quiet_cls (C := Upd [] W) (x := z) ((dfour_any z.w ssrc HOK.out.ssrc).mono fun e w' h => ⟨h.1, z.h.next h.2⟩))
    rw [← hs0] at HFs0
    have HFs1 := Lib.hid (fun (z : Cls (Upd [] W)) => quiet_cls (C := Upd [] W) (x := z) ((dfour_any z.w media HOK.out.media).mono fun e w' h => ⟨h.1, z.h.next h.2⟩))
    rw [← hs1] at HFs1
    have HSE : Hid (st = be ssrc 4 ++ be media 4) := Lib.hid (by rw [hst, hs0, hs1])
    clear hs0 hs1 hst
    have c0 : W.cell? ⟨G, 0, none⟩ = some (.int .i64 3) := HGB.out.cell 0
    go_upto_region 22 with fail
    clear c0
    have hGl := HGB.out.lt
    have c1 : ∀ z : Cls (Upd [] W), z.w.cell? ⟨G, 1, none⟩ = some (.int .u32 ssrc) := fun z => (z.h.cell (p := ⟨G, 1, none⟩) hGl (by simp)).trans (HGB.out.cell 1)
    have c2 : ∀ z : Cls (Upd [] W), z.w.cell? ⟨G, 2, none⟩ = some (.int .u32 media) := fun z => (z.h.cell (p := ⟨G, 2, none⟩) hGl (by simp)).trans (HGB.out.cell 2)
    refine wp_class_tail (Upd [] W) ((Upd.refl _ _).drewN 1) 7 (by kernel_rfl) (by kernel_rfl) (fun _ _ _ _ h => h) ?_
    intro hne
    simp only [List.take_succ_cons, List.take_zero, List.drop_succ_cons, List.drop_zero]
    repeat (go_big_quiet_step (first | with_reducible rfl | (go_at_call 36; with_reducible exact HFs0.out _) | (go_at_call 36; with_reducible exact HFs1.out _)))
    refine wpQuiet_nil ?_
    rintro _ ⟨xe, rfl⟩
    have hux := xe.h
    obtain ⟨w1, hw1⟩ : ∃ v, v = xe.w := ⟨_, rfl⟩
    rw [← hw1] at hux ⊢
    have HU1 := Lib.hid (HU.out.next hux)
    have HG1 := Lib.hid (HGB.out.upd hux (by simp))
    have HUW1 := Lib.hid hux
    clear hw1 hux hGl c1 c2 HFs0 HFs1
    have hnp : np ≤ 60 := by rw [HL.out.2.2.1]; exact HOK.out.np
    have c9 : w1.cell? ⟨G, 9, none⟩ = some (.slice pA np pc) := HG1.out.cell 9
    go_wp2
    clear c9
    go_loopg [4, 8] np (fun gk x4 xi wr => ∃ i : Nat, i ≤ np ∧ np ≤ i + gk ∧ xi = .int .i64 i ∧ x4 = .string (strOfNums (st ++ bytesOf ((pairs.take i).flatMap pairParts))) ∧ Upd [] w1 wr)
    case atStart => exact ⟨0, Nat.zero_le _, by omega, rfl, by rw [List.take_zero, List.flatMap_nil]; unfold bytesOf; rw [List.flatMap_nil, List.append_nil], Upd.refl _ _⟩
    case round =>
      obtain ⟨i, hi, hgi, rfl, rfl, hu⟩ := hrel
      by_cases hlt : i < np
      · obtain ⟨p, hx⟩ : ∃ x, pairs[i]? = some x := ⟨_, List.getElem?_eq_getElem (by rw [← HL.out.2.2.1]; exact hlt)⟩
        obtain ⟨b, off, e, _, hb, hcc⟩ := HRF.out.cp.2 (by dsimp only; rw [← HL.out.2.2.1]; omega)
        dsimp only at e
        subst e
        have e0 := ((HU1.out.next hu).cell (p := ⟨b, off + (i * 2 + 0), none⟩) hb (by simp)).trans (hcc (i * 2 + 0) _ (flat_get encP2_len pairs i 0 p hx (by omega)))
        have e1 := ((HU1.out.next hu).cell (p := ⟨b, off + (i * 2 + 1), none⟩) hb (by simp)).trans (hcc (i * 2 + 1) _ (flat_get encP2_len pairs i 1 p hx (by omega)))
        have hok := HOK.out.pairs p (List.mem_of_getElem? hx)
        obtain ⟨so, hso⟩ : ∃ l, l = st ++ bytesOf ((pairs.take i).flatMap pairParts) := ⟨_, rfl⟩
        have lso : so.length ≤ 600 := by rw [hso, List.length_append, bytesOf_len4, List.length_take]; omega
        have htk : (pairs.take (i + 1)).flatMap pairParts = (pairs.take i).flatMap pairParts ++ pairParts p := by rw [List.take_add_one, hx, List.flatMap_append]; simp
        rw [← hso]
        obtain ⟨p0, p1⟩ := p
        simp only [encP2, List.getElem?_cons_zero, List.getElem?_cons_succ, List.getElem_cons_zero, List.getElem_cons_succ, ← Nat.add_assoc, Nat.add_zero] at e0 e1
        dsimp only at hok
        obtain ⟨s1, hs1⟩ : ∃ l, l = be p0 2 := ⟨_, rfl⟩
        have ls1 : s1.length = 2 := by rw [hs1, be_length]
        obtain ⟨s2, hs2⟩ : ∃ l, l = be p1 2 := ⟨_, rfl⟩
        have ls2 : s2.length = 2 := by rw [hs2, be_length]
        obtain ⟨s3, hs3⟩ : ∃ l, l = s1 ++ s2 := ⟨_, rfl⟩
        have ls3 : s3.length = s1.length + s2.length := by rw [hs3, List.length_append]
        have as3 : ∀ z : World, (Op.stringOp .add (strOfNums s1) (strOfNums s2)).run Try.prog z = .ok (.string (strOfNums s3)) z := fun z => by rw [hs3]; exact str_add _ _ (by omega) z
        obtain ⟨s4, hs4⟩ : ∃ l, l = so ++ s3 := ⟨_, rfl⟩
        have ls4 : s4.length = so.length + s3.length := by rw [hs4, List.length_append]
        have as4 : ∀ z : World, (Op.stringOp .add (strOfNums so) (strOfNums s3)).run Try.prog z = .ok (.string (strOfNums s4)) z := fun z => by rw [hs4]; exact str_add _ _ (by omega) z
        have HS : Hid (st ++ bytesOf ((pairs.take (i + 1)).flatMap pairParts) = s4) := Lib.hid (by rw [htk]; unfold bytesOf at hso ⊢; rw [List.flatMap_append, ← List.append_assoc, ← hso, hs4, hs3, hs1, hs2]; simp [pairParts])
        have hw0 : IntKind.u64.wrap p0 = p0 := by have := hok.1; unfold U16 at this; unfold IntKind.wrap; simp [IntKind.bits, IntKind.signed]; omega
        have hw1 : IntKind.u64.wrap p1 = p1 := by have := hok.2; unfold U16 at this; unfold IntKind.wrap; simp [IntKind.bits, IntKind.signed]; omega
        have HF1 : Hid (∀ z : Cls (Upd [] wr), Calls Try.prog 37 #[.int .u64 p0, .int .i64 2] z.w fun e w' => e = .returned (.string (strOfNums s1)) ∧ ∃ m : Cls (Upd [] wr), w' = m.w) := Lib.hid (fun z => by rw [hs1]; exact quiet_cls (C := Upd [] wr) (x := z) ((dnum_any z.w p0 2 (by have := hok.1; unfold U16 at this; omega) (by decide) (by decide)).mono fun e w' h => ⟨h.1, z.h.next h.2⟩))
        have HF2 : Hid (∀ z : Cls (Upd [] wr), Calls Try.prog 37 #[.int .u64 p1, .int .i64 2] z.w fun e w' => e = .returned (.string (strOfNums s2)) ∧ ∃ m : Cls (Upd [] wr), w' = m.w) := Lib.hid (fun z => by rw [hs2]; exact quiet_cls (C := Upd [] wr) (x := z) ((dnum_any z.w p1 2 (by have := hok.2; unfold U16 at this; omega) (by decide) (by decide)).mono fun e w' h => ⟨h.1, z.h.next h.2⟩))
        have hlti : (i : Int) < (np : Int) := by omega
        have hwi : IntKind.i64.wrap ((i : Int) + 1) = (i : Int) + 1 := IntWalk.i64_in _ (by omega)
        have HUR := Lib.hid hu
        have HGI := Lib.hid hgi
        have HGR := Lib.hid (HG1.out.upd hu (by simp))
        have r0 : ∀ z : Cls (Upd [] wr), z.w.cell? ⟨b, off + i * 2, none⟩ = some (.int .i64 p0) := fun z => (z.h.cell (p := ⟨b, off + i * 2, none⟩) (cellN_lt e0) (by simp)).trans e0
        have r1 : ∀ z : Cls (Upd [] wr), z.w.cell? ⟨b, off + i * 2 + 1, none⟩ = some (.int .i64 p1) := fun z => (z.h.cell (p := ⟨b, off + i * 2 + 1, none⟩) (cellN_lt e1) (by simp)).trans e1
        have d9 : wr.cell? ⟨G, 9, none⟩ = some (.slice (some ⟨b, off, none⟩) np pc) := HGR.out.cell 9
        clear hx hb hcc hso lso hok hs1 hs2 hs3 hs4 ls1 ls2 ls3 ls4 htk hu hgi e0 e1
        go_upto_region 26 with fail
        clear d9
        have hGl := HGR.out.lt
        have c9 : ∀ z : Cls (Upd [] wr), z.w.cell? ⟨G, 9, none⟩ = some (.slice (some ⟨b, off, none⟩) np pc) := fun z => (z.h.cell (p := ⟨G, 9, none⟩) hGl (by simp)).trans (HGR.out.cell 9)
        refine wp_class_tail (Upd [] wr) ((Upd.refl _ _).drewN 1) 19 (by kernel_rfl) (by kernel_rfl) (fun _ _ _ _ h => h) ?_
        intro hne
        simp only [List.take_succ_cons, List.take_zero, List.drop_succ_cons, List.drop_zero]
        repeat (go_big_quiet_step (first | with_reducible rfl | (go_at_call 37; with_reducible exact HF1.out _) | (go_at_call 37; with_reducible exact HF2.out _)))
        refine wpQuiet_nil ?_
        rintro _ ⟨xe, rfl⟩
        go_wp2
        go_roundg (gk - 1)
        case measure => have := HGI.out; omega
        case rel => exact ⟨i + 1, by omega, by have := HGI.out; omega, by go_num, by rw [HS.out], HUR.out.next xe.h⟩
      · have hin : i = np := by omega
        subst hin
        have HU2 := Lib.hid (HU1.out.next hu)
        have HG2 := Lib.hid (HG1.out.upd hu (by simp))
        obtain ⟨bs, hbs⟩ : ∃ l, l = st ++ bytesOf ((pairs.take i).flatMap pairParts) := ⟨_, rfl⟩
        have lbs : bs.length ≤ 600 := by rw [hbs, List.length_append, bytesOf_len4, List.length_take]; omega
        rw [← hbs]
        have HBD : Hid (bodyM m = ⟨205, 1, [(ssrc, 4), (media, 4)] ++ pairs.flatMap pairParts, decide (0 < pairs.length)⟩) := Lib.hid (by rw [HM.out]; rfl)
        have HT : Hid ((bodyM m).t = 205) := Lib.hid (by rw [HBD.out])
        have HN : Hid ((bodyM m).n = 1) := Lib.hid (by rw [HBD.out])
        have HIS : Hid ((bodyM m).is = decide (0 < i)) := Lib.hid (by rw [HBD.out]; dsimp only; rw [← HL.out.2.2.1])
        have HB : Hid (bytesOf (bodyM m).ps = bs) := Lib.hid (by rw [HBD.out]; dsimp only; rw [hbs, HSE.out, HL.out.2.2.1, List.take_length]; unfold bytesOf; simp)
        have c9 : wr.cell? ⟨G, 9, none⟩ = some (.slice pA i pc) := HG2.out.cell 9
        clear hbs hu hgi hi hlt c9
        by_cases kn : i = 0
        · have HE : Hid (r = ([], 1)) := Lib.hid (by rw [HR.out]; unfold putD; rw [if_neg (by first | (rw [HIS.out]; simp; done) | (rw [HIS.out]; simp; omega))])
          have hkq : ((i : Int) == 0) = true := by rw [kn]; rfl
          clear kn
          have c0 : wr.cell? ⟨G, 0, none⟩ = some (.int .i64 3) := HG2.out.cell 0
          have c9 : wr.cell? ⟨G, 9, none⟩ = some (.slice pA i pc) := HG2.out.cell 9
          have c10 : wr.cell? ⟨G, 10, none⟩ = some (.slice aA na ac) := HG2.out.cell 10
          go_wp2
          exact bodyPost_res (v := .tuple #[.string { data := #[] }, .int .i64 1]) (by simp [results, Try.results24, go_sem]) rfl ⟨by rw [HE.out]; rfl, HU2.out⟩
        · have HE : Hid (r = (msgB m, 0)) := Lib.hid (by rw [HR.out]; unfold putD; rw [if_pos (by first | (rw [HIS.out]; done) | (rw [HIS.out]; simp; omega))])
          have HKN := Lib.hid kn
          clear kn
          obtain ⟨L, hL⟩ : ∃ n, n = bs.length := ⟨_, rfl⟩
          obtain ⟨q, hq⟩ : ∃ n : Nat, n = L / 4 := ⟨_, rfl⟩
          have hqb : 0 ≤ (q : Int) ∧ (q : Int) ≤ 18446744073709551615 := by omega
          have hsz : (strOfNums bs).size = L := by rw [strOfNums_size, hL]
          have hqt : ((L : Int)).tdiv 4 = (q : Int) := by rw [Int.tdiv_eq_ediv_of_nonneg (by omega)]; omega
          have hqw : IntKind.u64.wrap (q : Int) = (q : Int) := by unfold IntKind.wrap; simp [IntKind.bits, IntKind.signed]; omega
          have hq64 : wrap64 (q : Int) = (q : Int) := by unfold wrap64; omega
          have hw1 : IntKind.i64.wrap (128 + (1 : Int)) = 128 + (1 : Int) := IntWalk.i64_in _ (by omega)
          have hw2 : IntKind.u8.wrap (128 + (1 : Int)) = 128 + (1 : Int) := by unfold IntKind.wrap; simp [IntKind.bits, IntKind.signed]; try omega
          obtain ⟨x0, hx0⟩ : ∃ v : Int, v = 129 := ⟨_, rfl⟩
          obtain ⟨hd, hhd⟩ : ∃ l : List Int, l = [x0, 205] := ⟨_, rfl⟩
          have lhd : hd.length = 2 := by rw [hhd]; rfl
          obtain ⟨bq, hbq⟩ : ∃ l, l = be (q : Int) 2 := ⟨_, rfl⟩
          have lbq : bq.length = 2 := by rw [hbq, be_length]
          obtain ⟨out_0, hout_0⟩ : ∃ l, l = hd ++ bq := ⟨_, rfl⟩
          have lout_0 : out_0.length = hd.length + bq.length := by rw [hout_0, List.length_append]
          have aout_0 : ∀ z : World, (Op.stringOp .add (strOfNums hd) (strOfNums bq)).run Try.prog z = .ok (.string (strOfNums out_0)) z := fun z => by rw [hout_0]; exact str_add _ _ (by omega) z
          obtain ⟨out, hout⟩ : ∃ l, l = out_0 ++ bs := ⟨_, rfl⟩
          have lout : out.length = out_0.length + bs.length := by rw [hout, List.length_append]
          have aout : ∀ z : World, (Op.stringOp .add (strOfNums out_0) (strOfNums bs)).run Try.prog z = .ok (.string (strOfNums out)) z := fun z => by rw [hout]; exact str_add _ _ (by omega) z
          have HMB : Hid (msgB m = out) := Lib.hid (by
            unfold msgB
            rw [HN.out, HT.out, HB.out]
            rw [hout, hout_0, hhd, hbq, hx0, be_cons, be_cons, be_zero0]
            have e1 : ((q : Nat) : Int) = (bs.length : Int) / 4 := by rw [hq, hL]; rfl
            rw [e1]
            simp)
          have HHD := Lib.hid hhd
          have HNM : Hid (∀ W, Calls Try.prog 37 #[.int .u64 q, .int .i64 2] W fun e w' => e = .returned (.string (strOfNums bq)) ∧ Upd [] W w') := Lib.hid (fun W => by rw [hbq]; exact dnum_any W q 2 hqb (by decide) (by decide))
          clear hL hq hhd hbq hout hout_0 lhd lbq lout lout_0
          have c0 : wr.cell? ⟨G, 0, none⟩ = some (.int .i64 3) := HG2.out.cell 0
          have c9 : wr.cell? ⟨G, 9, none⟩ = some (.slice pA i pc) := HG2.out.cell 9
          have c10 : wr.cell? ⟨G, 10, none⟩ = some (.slice aA na ac) := HG2.out.cell 10
          have hkq : ((i : Int) == 0) = false := beq_eq_false_iff_ne.2 (fun h => HKN.out (by exact_mod_cast h))
          go_upto_region 40 with fail
          clear c0 c9 c10
          refine wp_script (Upd [] wr) ((Upd.refl _ _).drewN 1) (.take [0, 1, 2, 3, 4, 7, 8, 9, 10, 13] (.fork 5 11 (.narrow (.take [6] (.one 11 (.take [12, 14] (.last [15, 16]))))) (.one 5 (.narrow (.take [6, 12, 14] (.last [15, 16])))))) (by kernel_rfl) (by kernel_rfl) (fun _ _ _ _ h => h) ?_
          intro hne
          refine wpS_take ?_
          simp only [pick3, List.map_cons, List.map_nil, List.getElem?_cons_zero, List.getElem?_cons_succ, Option.getD_some]
          repeat (go_big_quiet_step (with_reducible rfl))
          refine wpQuiet_nil ?_
          obtain ⟨w0, hw0⟩ : ∃ v, v = wr.drewN 1 := ⟨_, rfl⟩
          have HJ : Hid (Upd [] wr w0) := Lib.hid (by rw [hw0]; exact (Upd.refl _ _).drewN 1)
          rw [← hw0]
          clear hw0
          refine wpS_fork ?_ ?_
          · simp only [pick3, List.map_cons, List.map_nil, List.getElem?_cons_zero, List.getElem?_cons_succ, Option.getD_some]
            refine wpHeldK_step rfl fun K hK => ?_
            go_simp
            obtain ⟨V, hV⟩ : ∃ V, V = w0.heap.size := ⟨_, rfl⟩
            obtain ⟨wv, hwv⟩ : ∃ W, W = w0.alloc (.cells #[.int .u8 (129), .int .u8 205] 5) := ⟨_, rfl⟩
            rw [← hwv, ← hV]
            have hvb : Blk wv V 5 #[.int .u8 (129), .int .u8 205] := by rw [hwv, hV]; exact Blk.new _ _ _
            have hcv : ∀ z : Cls (Upd [] wv), (convert 25 9 (.slice (some ⟨V, 0, none⟩) 2 2)).run Try.prog z.w = .ok (.string (strOfNums hd)) z.w := fun z => by rw [HHD.out, hx0]; exact str_two (hvb.upd z.h (by simp))
            have HVU : Hid (Upd [] wr wv) := Lib.hid (HJ.out.next (by rw [hwv]; exact (Upd.refl [] w0).alloc _))
            clear hV hwv hvb
            refine hK.out _ _ ⟨⟨wv, HVU.out⟩, rfl⟩ ?_
            clear hK K
            refine wpQuiet_then ?_
            refine wpS_narrow (Upd [] wv) (fun w' h => ⟨⟨w', HVU.out.next h⟩, rfl⟩) (Upd.refl _ _) ?_
            have HV0 : Hid (Upd [] wv wv) := Lib.hid (Upd.refl _ _)
            refine wpS_take ?_
            simp only [pick3, List.map_cons, List.map_nil, List.getElem?_cons_zero, List.getElem?_cons_succ, Option.getD_some]
            repeat (go_big_quiet_step (with_reducible rfl))
            refine wpQuiet_nil ?_
            refine wpS_one ?_
            simp only [pick3, List.map_cons, List.map_nil, List.getElem?_cons_zero, List.getElem?_cons_succ, Option.getD_some]
            refine wpHeldK_step rfl fun K hK => ?_
            go_simp
            refine (HNM.out _).mono ?_
            rintro _ wk ⟨rfl, hux⟩
            have HK := Lib.hid (HV0.out.next hux)
            clear hux
            refine hK.out _ _ ⟨⟨wk, HK.out⟩, rfl⟩ ?_
            clear hK K
            refine wpQuiet_then ?_
            refine wpS_take ?_
            simp only [pick3, List.map_cons, List.map_nil, List.getElem?_cons_zero, List.getElem?_cons_succ, Option.getD_some]
            repeat (go_big_quiet_step (with_reducible rfl))
            refine wpQuiet_nil ?_
            refine wpS_last ?_
            simp only [pick3, List.map_cons, List.map_nil, List.getElem?_cons_zero, List.getElem?_cons_succ, Option.getD_some]
            refine wpHeld_step rfl fun K hK => ?_
            go_simp
            refine hK.out _ _ (.inr ⟨⟨wk, HK.out⟩, rfl⟩) ?_
            clear hK K
            refine wpHeld_last ?_
            go_wp2
            exact bodyPost_res (v := .tuple #[.string (strOfNums out), .int .i64 0]) (by simp [results, Try.results24, go_sem]) rfl ⟨by rw [HE.out, HMB.out], HU2.out.next (HVU.out.next HK.out)⟩
          · simp only [pick3, List.map_cons, List.map_nil, List.getElem?_cons_zero, List.getElem?_cons_succ, Option.getD_some]
            refine wpHeldK_step rfl fun K hK => ?_
            go_simp
            refine (HNM.out _).mono ?_
            rintro _ wj ⟨rfl, hux⟩
            have HJ1 := Lib.hid (HJ.out.next hux)
            clear hux
            refine hK.out _ _ ⟨⟨wj, HJ1.out⟩, rfl⟩ ?_
            clear hK K
            refine wpQuiet_then ?_
            refine wpS_one ?_
            simp only [pick3, List.map_cons, List.map_nil, List.getElem?_cons_zero, List.getElem?_cons_succ, Option.getD_some]
            refine wpHeldK_step rfl fun K hK => ?_
            go_simp
            obtain ⟨V, hV⟩ : ∃ V, V = wj.heap.size := ⟨_, rfl⟩
            obtain ⟨wv, hwv⟩ : ∃ W, W = wj.alloc (.cells #[.int .u8 (129), .int .u8 205] 5) := ⟨_, rfl⟩
            rw [← hwv, ← hV]
            have hvb : Blk wv V 5 #[.int .u8 (129), .int .u8 205] := by rw [hwv, hV]; exact Blk.new _ _ _
            have hcv : ∀ z : Cls (Upd [] wv), (convert 25 9 (.slice (some ⟨V, 0, none⟩) 2 2)).run Try.prog z.w = .ok (.string (strOfNums hd)) z.w := fun z => by rw [HHD.out, hx0]; exact str_two (hvb.upd z.h (by simp))
            have HVU : Hid (Upd [] wr wv) := Lib.hid (HJ1.out.next (by rw [hwv]; exact (Upd.refl [] wj).alloc _))
            clear hV hwv hvb
            refine hK.out _ _ ⟨⟨wv, HVU.out⟩, rfl⟩ ?_
            clear hK K
            refine wpQuiet_then ?_
            refine wpS_narrow (Upd [] wv) (fun w' h => ⟨⟨w', HVU.out.next h⟩, rfl⟩) (Upd.refl _ _) ?_
            have HV0 : Hid (Upd [] wv wv) := Lib.hid (Upd.refl _ _)
            refine wpS_take ?_
            simp only [pick3, List.map_cons, List.map_nil, List.getElem?_cons_zero, List.getElem?_cons_succ, Option.getD_some]
            repeat (go_big_quiet_step (with_reducible rfl))
            refine wpQuiet_nil ?_
            refine wpS_last ?_
            simp only [pick3, List.map_cons, List.map_nil, List.getElem?_cons_zero, List.getElem?_cons_succ, Option.getD_some]
            refine wpHeld_step rfl fun K hK => ?_
            go_simp
            refine hK.out _ _ (.inr ⟨⟨wv, HV0.out⟩, rfl⟩) ?_
            clear hK K
            refine wpHeld_last ?_
            go_wp2
            exact bodyPost_res (v := .tuple #[.string (strOfNums out), .int .i64 0]) (by simp [results, Try.results24, go_sem]) rfl ⟨by rw [HE.out, HMB.out], HU2.out.next (HVU.out.next HV0.out)⟩
  by_cases k4 : kd = 4
  · have kk : (4 : Int) = kd := k4.symm
    subst kk
    clear k4
    obtain ⟨s0, hs0⟩ : ∃ l, l = be ssrc 4 := ⟨_, rfl⟩
    have ls0 : s0.length = 4 := by rw [hs0, be_length]
    obtain ⟨s1, hs1⟩ : ∃ l, l = be media 4 := ⟨_, rfl⟩
    have ls1 : s1.length = 4 := by rw [hs1, be_length]
    obtain ⟨bs, hbs⟩ : ∃ l, l = s0 ++ s1 := ⟨_, rfl⟩
    have lbs : bs.length = s0.length + s1.length := by rw [hbs, List.length_append]
    have abs : ∀ z : World, (Op.stringOp .add (strOfNums s0) (strOfNums s1)).run Try.prog z = .ok (.string (strOfNums bs)) z := fun z => by rw [hbs]; exact str_add _ _ (by omega) z
    have HFs0 := Lib.hid (fun (z : Cls (Upd [] W)) => quiet_cls (C := Upd [] W) (x := z) ((dfour_any z.w ssrc HOK.out.ssrc).mono fun e w' h => ⟨h.1, z.h.next h.2⟩))
    rw [← hs0] at HFs0
    have HFs1 := Lib.hid (fun (z : Cls (Upd [] W)) => quiet_cls (C := Upd [] W) (x := z) ((dfour_any z.w media HOK.out.media).mono fun e w' h => ⟨h.1, z.h.next h.2⟩))
    rw [← hs1] at HFs1
    have HSE : Hid (bs = be ssrc 4 ++ be media 4) := Lib.hid (by rw [hbs, hs0, hs1])
    clear hs0 hs1 hbs
    have c0 : W.cell? ⟨G, 0, none⟩ = some (.int .i64 4) := HGB.out.cell 0
    go_upto_region 29 with fail
    clear c0
    have hGl := HGB.out.lt
    have c1 : ∀ z : Cls (Upd [] W), z.w.cell? ⟨G, 1, none⟩ = some (.int .u32 ssrc) := fun z => (z.h.cell (p := ⟨G, 1, none⟩) hGl (by simp)).trans (HGB.out.cell 1)
    have c2 : ∀ z : Cls (Upd [] W), z.w.cell? ⟨G, 2, none⟩ = some (.int .u32 media) := fun z => (z.h.cell (p := ⟨G, 2, none⟩) hGl (by simp)).trans (HGB.out.cell 2)
    refine wp_class_tail (Upd [] W) ((Upd.refl _ _).drewN 1) 7 (by kernel_rfl) (by kernel_rfl) (fun _ _ _ _ h => h) ?_
    intro hne
    simp only [List.take_succ_cons, List.take_zero, List.drop_succ_cons, List.drop_zero]
    repeat (go_big_quiet_step (first | with_reducible rfl | (go_at_call 36; with_reducible exact HFs0.out _) | (go_at_call 36; with_reducible exact HFs1.out _)))
    refine wpQuiet_nil ?_
    rintro _ ⟨xe, rfl⟩
    have hux := xe.h
    obtain ⟨w1, hw1⟩ : ∃ v, v = xe.w := ⟨_, rfl⟩
    rw [← hw1] at hux ⊢
    have HU1 := Lib.hid (HU.out.next hux)
    have HG1 := Lib.hid (HGB.out.upd hux (by simp))
    have HUW1 := Lib.hid hux
    clear hw1 hux hGl c1 c2 HFs0 HFs1
    have HBD : Hid (bodyM m = ⟨206, 1, [(ssrc, 4), (media, 4)], true⟩) := Lib.hid (by rw [HM.out]; rfl)
    have HT : Hid ((bodyM m).t = 206) := Lib.hid (by rw [HBD.out])
    have HN : Hid ((bodyM m).n = 1) := Lib.hid (by rw [HBD.out])
    have HIS : Hid ((bodyM m).is = true) := Lib.hid (by rw [HBD.out])
    have HB : Hid (bytesOf (bodyM m).ps = bs) := Lib.hid (by rw [HBD.out]; dsimp only; rw [HSE.out]; unfold bytesOf; simp)
    have HE : Hid (r = (msgB m, 0)) := Lib.hid (by rw [HR.out]; unfold putD; rw [if_pos (by first | (rw [HIS.out]; done) | (rw [HIS.out]; simp; omega))])
    obtain ⟨L, hL⟩ : ∃ n, n = bs.length := ⟨_, rfl⟩
    obtain ⟨q, hq⟩ : ∃ n : Nat, n = L / 4 := ⟨_, rfl⟩
    have hqb : 0 ≤ (q : Int) ∧ (q : Int) ≤ 18446744073709551615 := by omega
    have hsz : (strOfNums bs).size = L := by rw [strOfNums_size, hL]
    have hqt : ((L : Int)).tdiv 4 = (q : Int) := by rw [Int.tdiv_eq_ediv_of_nonneg (by omega)]; omega
    have hqw : IntKind.u64.wrap (q : Int) = (q : Int) := by unfold IntKind.wrap; simp [IntKind.bits, IntKind.signed]; omega
    have hq64 : wrap64 (q : Int) = (q : Int) := by unfold wrap64; omega
    have hw1 : IntKind.i64.wrap (128 + (1 : Int)) = 128 + (1 : Int) := IntWalk.i64_in _ (by omega)
    have hw2 : IntKind.u8.wrap (128 + (1 : Int)) = 128 + (1 : Int) := by unfold IntKind.wrap; simp [IntKind.bits, IntKind.signed]; try omega
    obtain ⟨x0, hx0⟩ : ∃ v : Int, v = 129 := ⟨_, rfl⟩
    obtain ⟨hd, hhd⟩ : ∃ l : List Int, l = [x0, 206] := ⟨_, rfl⟩
    have lhd : hd.length = 2 := by rw [hhd]; rfl
    obtain ⟨bq, hbq⟩ : ∃ l, l = be (q : Int) 2 := ⟨_, rfl⟩
    have lbq : bq.length = 2 := by rw [hbq, be_length]
    obtain ⟨out_0, hout_0⟩ : ∃ l, l = hd ++ bq := ⟨_, rfl⟩
    have lout_0 : out_0.length = hd.length + bq.length := by rw [hout_0, List.length_append]
    have aout_0 : ∀ z : World, (Op.stringOp .add (strOfNums hd) (strOfNums bq)).run Try.prog z = .ok (.string (strOfNums out_0)) z := fun z => by rw [hout_0]; exact str_add _ _ (by omega) z
    obtain ⟨out, hout⟩ : ∃ l, l = out_0 ++ bs := ⟨_, rfl⟩
    have lout : out.length = out_0.length + bs.length := by rw [hout, List.length_append]
    have aout : ∀ z : World, (Op.stringOp .add (strOfNums out_0) (strOfNums bs)).run Try.prog z = .ok (.string (strOfNums out)) z := fun z => by rw [hout]; exact str_add _ _ (by omega) z
    have HMB : Hid (msgB m = out) := Lib.hid (by
      unfold msgB
      rw [HN.out, HT.out, HB.out]
      rw [hout, hout_0, hhd, hbq, hx0, be_cons, be_cons, be_zero0]
      have e1 : ((q : Nat) : Int) = (bs.length : Int) / 4 := by rw [hq, hL]; rfl
      rw [e1]
      simp)
    have HHD := Lib.hid hhd
    have HNM : Hid (∀ W, Calls Try.prog 37 #[.int .u64 q, .int .i64 2] W fun e w' => e = .returned (.string (strOfNums bq)) ∧ Upd [] W w') := Lib.hid (fun W => by rw [hbq]; exact dnum_any W q 2 hqb (by decide) (by decide))
    clear hL hq hhd hbq hout hout_0 lhd lbq lout lout_0
    have c0 : w1.cell? ⟨G, 0, none⟩ = some (.int .i64 4) := HG1.out.cell 0
    have c9 : w1.cell? ⟨G, 9, none⟩ = some (.slice pA np pc) := HG1.out.cell 9
    have c10 : w1.cell? ⟨G, 10, none⟩ = some (.slice aA na ac) := HG1.out.cell 10
    go_upto_region 40 with fail
    clear c0 c9 c10
    refine wp_script (Upd [] w1) ((Upd.refl _ _).drewN 1) (.take [0, 1, 2, 3, 4, 7, 8, 9, 10, 13] (.fork 5 11 (.narrow (.take [6] (.one 11 (.take [12, 14] (.last [15, 16]))))) (.one 5 (.narrow (.take [6, 12, 14] (.last [15, 16])))))) (by kernel_rfl) (by kernel_rfl) (fun _ _ _ _ h => h) ?_
    intro hne
    refine wpS_take ?_
    simp only [pick3, List.map_cons, List.map_nil, List.getElem?_cons_zero, List.getElem?_cons_succ, Option.getD_some]
    repeat (go_big_quiet_step (with_reducible rfl))
    refine wpQuiet_nil ?_
    obtain ⟨w0, hw0⟩ : ∃ v, v = w1.drewN 1 := ⟨_, rfl⟩
    have HJ : Hid (Upd [] w1 w0) := Lib.hid (by rw [hw0]; exact (Upd.refl _ _).drewN 1)
    rw [← hw0]
    clear hw0
    refine wpS_fork ?_ ?_
    · simp only [pick3, List.map_cons, List.map_nil, List.getElem?_cons_zero, List.getElem?_cons_succ, Option.getD_some]
      refine wpHeldK_step rfl fun K hK => ?_
      go_simp
      obtain ⟨V, hV⟩ : ∃ V, V = w0.heap.size := ⟨_, rfl⟩
      obtain ⟨wv, hwv⟩ : ∃ W, W = w0.alloc (.cells #[.int .u8 (129), .int .u8 206] 5) := ⟨_, rfl⟩
      rw [← hwv, ← hV]
      have hvb : Blk wv V 5 #[.int .u8 (129), .int .u8 206] := by rw [hwv, hV]; exact Blk.new _ _ _
      have hcv : ∀ z : Cls (Upd [] wv), (convert 25 9 (.slice (some ⟨V, 0, none⟩) 2 2)).run Try.prog z.w = .ok (.string (strOfNums hd)) z.w := fun z => by rw [HHD.out, hx0]; exact str_two (hvb.upd z.h (by simp))
      have HVU : Hid (Upd [] w1 wv) := Lib.hid (HJ.out.next (by rw [hwv]; exact (Upd.refl [] w0).alloc _))
      clear hV hwv hvb
      refine hK.out _ _ ⟨⟨wv, HVU.out⟩, rfl⟩ ?_
      clear hK K
      refine wpQuiet_then ?_
      refine wpS_narrow (Upd [] wv) (fun w' h => ⟨⟨w', HVU.out.next h⟩, rfl⟩) (Upd.refl _ _) ?_
      have HV0 : Hid (Upd [] wv wv) := Lib.hid (Upd.refl _ _)
      refine wpS_take ?_
      simp only [pick3, List.map_cons, List.map_nil, List.getElem?_cons_zero, List.getElem?_cons_succ, Option.getD_some]
      repeat (go_big_quiet_step (with_reducible rfl))
      refine wpQuiet_nil ?_
      refine wpS_one ?_
      simp only [pick3, List.map_cons, List.map_nil, List.getElem?_cons_zero, List.getElem?_cons_succ, Option.getD_some]
      refine wpHeldK_step rfl fun K hK => ?_
      go_simp
      refine (HNM.out _).mono ?_
      rintro _ wk ⟨rfl, hux⟩
      have HK := Lib.hid (HV0.out.next hux)
      clear hux
      refine hK.out _ _ ⟨⟨wk, HK.out⟩, rfl⟩ ?_
      clear hK K
      refine wpQuiet_then ?_
      refine wpS_take ?_
      simp only [pick3, List.map_cons, List.map_nil, List.getElem?_cons_zero, List.getElem?_cons_succ, Option.getD_some]
      repeat (go_big_quiet_step (with_reducible rfl))
      refine wpQuiet_nil ?_
      refine wpS_last ?_
      simp only [pick3, List.map_cons, List.map_nil, List.getElem?_cons_zero, List.getElem?_cons_succ, Option.getD_some]
      refine wpHeld_step rfl fun K hK => ?_
      go_simp
      refine hK.out _ _ (.inr ⟨⟨wk, HK.out⟩, rfl⟩) ?_
      clear hK K
      refine wpHeld_last ?_
      go_wp2
      exact bodyPost_res (v := .tuple #[.string (strOfNums out), .int .i64 0]) (by simp [results, Try.results24, go_sem]) rfl ⟨by rw [HE.out, HMB.out], HU1.out.next (HVU.out.next HK.out)⟩
    · simp only [pick3, List.map_cons, List.map_nil, List.getElem?_cons_zero, List.getElem?_cons_succ, Option.getD_some]
      refine wpHeldK_step rfl fun K hK => ?_
      go_simp
      refine (HNM.out _).mono ?_
      rintro _ wj ⟨rfl, hux⟩
      have HJ1 := Lib.hid (HJ.out.next hux)
      clear hux
      refine hK.out _ _ ⟨⟨wj, HJ1.out⟩, rfl⟩ ?_
      clear hK K
      refine wpQuiet_then ?_
      refine wpS_one ?_
      simp only [pick3, List.map_cons, List.map_nil, List.getElem?_cons_zero, List.getElem?_cons_succ, Option.getD_some]
      refine wpHeldK_step rfl fun K hK => ?_
      go_simp
      obtain ⟨V, hV⟩ : ∃ V, V = wj.heap.size := ⟨_, rfl⟩
      obtain ⟨wv, hwv⟩ : ∃ W, W = wj.alloc (.cells #[.int .u8 (129), .int .u8 206] 5) := ⟨_, rfl⟩
      rw [← hwv, ← hV]
      have hvb : Blk wv V 5 #[.int .u8 (129), .int .u8 206] := by rw [hwv, hV]; exact Blk.new _ _ _
      have hcv : ∀ z : Cls (Upd [] wv), (convert 25 9 (.slice (some ⟨V, 0, none⟩) 2 2)).run Try.prog z.w = .ok (.string (strOfNums hd)) z.w := fun z => by rw [HHD.out, hx0]; exact str_two (hvb.upd z.h (by simp))
      have HVU : Hid (Upd [] w1 wv) := Lib.hid (HJ1.out.next (by rw [hwv]; exact (Upd.refl [] wj).alloc _))
      clear hV hwv hvb
      refine hK.out _ _ ⟨⟨wv, HVU.out⟩, rfl⟩ ?_
      clear hK K
      refine wpQuiet_then ?_
      refine wpS_narrow (Upd [] wv) (fun w' h => ⟨⟨w', HVU.out.next h⟩, rfl⟩) (Upd.refl _ _) ?_
      have HV0 : Hid (Upd [] wv wv) := Lib.hid (Upd.refl _ _)
      refine wpS_take ?_
      simp only [pick3, List.map_cons, List.map_nil, List.getElem?_cons_zero, List.getElem?_cons_succ, Option.getD_some]
      repeat (go_big_quiet_step (with_reducible rfl))
      refine wpQuiet_nil ?_
      refine wpS_last ?_
      simp only [pick3, List.map_cons, List.map_nil, List.getElem?_cons_zero, List.getElem?_cons_succ, Option.getD_some]
      refine wpHeld_step rfl fun K hK => ?_
      go_simp
      refine hK.out _ _ (.inr ⟨⟨wv, HV0.out⟩, rfl⟩) ?_
      clear hK K
      refine wpHeld_last ?_
      go_wp2
      exact bodyPost_res (v := .tuple #[.string (strOfNums out), .int .i64 0]) (by simp [results, Try.results24, go_sem]) rfl ⟨by rw [HE.out, HMB.out], HU1.out.next (HVU.out.next HV0.out)⟩
  by_cases k5 : kd = 5
  · have kk : (5 : Int) = kd := k5.symm
    subst kk
    clear k5
    obtain ⟨s0, hs0⟩ : ∃ l, l = be ssrc 4 := ⟨_, rfl⟩
    have ls0 : s0.length = 4 := by rw [hs0, be_length]
    obtain ⟨s1, hs1⟩ : ∃ l, l = be media 4 := ⟨_, rfl⟩
    have ls1 : s1.length = 4 := by rw [hs1, be_length]
    obtain ⟨st, hst⟩ : ∃ l, l = s0 ++ s1 := ⟨_, rfl⟩
    have lst : st.length = s0.length + s1.length := by rw [hst, List.length_append]
    have ast : ∀ z : World, (Op.stringOp .add (strOfNums s0) (strOfNums s1)).run Try.prog z = .ok (.string (strOfNums st)) z := fun z => by rw [hst]; exact str_add _ _ (by omega) z
    have HFs0 := Lib.hid (fun (z : Cls (Upd [] W)) => quiet_cls (C := Upd [] W) (x := z) ((dfour_any z.w ssrc HOK.out.ssrc).mono fun e w' h => ⟨h.1, z.h.next h.2⟩))
    rw [← hs0] at HFs0
    have HFs1 := Lib.hid (fun (z : Cls (Upd [] W)) => quiet_cls (C := Upd [] W) (x := z) ((dfour_any z.w media HOK.out.media).mono fun e w' h => ⟨h.1, z.h.next h.2⟩))
    rw [← hs1] at HFs1
    have HSE : Hid (st = be ssrc 4 ++ be media 4) := Lib.hid (by rw [hst, hs0, hs1])
    clear hs0 hs1 hst
    have c0 : W.cell? ⟨G, 0, none⟩ = some (.int .i64 5) := HGB.out.cell 0
    go_upto_region 33 with fail
    clear c0
    have hGl := HGB.out.lt
    have c1 : ∀ z : Cls (Upd [] W), z.w.cell? ⟨G, 1, none⟩ = some (.int .u32 ssrc) := fun z => (z.h.cell (p := ⟨G, 1, none⟩) hGl (by simp)).trans (HGB.out.cell 1)
    have c2 : ∀ z : Cls (Upd [] W), z.w.cell? ⟨G, 2, none⟩ = some (.int .u32 media) := fun z => (z.h.cell (p := ⟨G, 2, none⟩) hGl (by simp)).trans (HGB.out.cell 2)
    refine wp_class_tail (Upd [] W) ((Upd.refl _ _).drewN 1) 7 (by kernel_rfl) (by kernel_rfl) (fun _ _ _ _ h => h) ?_
    intro hne
    simp only [List.take_succ_cons, List.take_zero, List.drop_succ_cons, List.drop_zero]
    repeat (go_big_quiet_step (first | with_reducible rfl | (go_at_call 36; with_reducible exact HFs0.out _) | (go_at_call 36; with_reducible exact HFs1.out _)))
    refine wpQuiet_nil ?_
    rintro _ ⟨xe, rfl⟩
    have hux := xe.h
    obtain ⟨w1, hw1⟩ : ∃ v, v = xe.w := ⟨_, rfl⟩
    rw [← hw1] at hux ⊢
    have HU1 := Lib.hid (HU.out.next hux)
    have HG1 := Lib.hid (HGB.out.upd hux (by simp))
    have HUW1 := Lib.hid hux
    clear hw1 hux hGl c1 c2 HFs0 HFs1
    have hnp : na ≤ 60 := by rw [HL.out.2.2.2]; exact HOK.out.na
    have c10 : w1.cell? ⟨G, 10, none⟩ = some (.slice aA na ac) := HG1.out.cell 10
    go_wp2
    clear c10
    go_loopg [4, 9] na (fun gk x4 xi wr => ∃ i : Nat, i ≤ na ∧ na ≤ i + gk ∧ xi = .int .i64 i ∧ x4 = .string (strOfNums (st ++ bytesOf ((asks.take i).flatMap askParts))) ∧ Upd [] w1 wr)
    case atStart => exact ⟨0, Nat.zero_le _, by omega, rfl, by rw [List.take_zero, List.flatMap_nil]; unfold bytesOf; rw [List.flatMap_nil, List.append_nil], Upd.refl _ _⟩
    case round =>
      obtain ⟨i, hi, hgi, rfl, rfl, hu⟩ := hrel
      by_cases hlt : i < na
      · obtain ⟨p, hx⟩ : ∃ x, asks[i]? = some x := ⟨_, List.getElem?_eq_getElem (by rw [← HL.out.2.2.2]; exact hlt)⟩
        obtain ⟨b, off, e, _, hb, hcc⟩ := HRF.out.ca.2 (by dsimp only; rw [← HL.out.2.2.2]; omega)
        dsimp only at e
        subst e
        have e0 := ((HU1.out.next hu).cell (p := ⟨b, off + (i * 2 + 0), none⟩) hb (by simp)).trans (hcc (i * 2 + 0) _ (flat_get encAsk_len asks i 0 p hx (by omega)))
        have e1 := ((HU1.out.next hu).cell (p := ⟨b, off + (i * 2 + 1), none⟩) hb (by simp)).trans (hcc (i * 2 + 1) _ (flat_get encAsk_len asks i 1 p hx (by omega)))
        have hok := HOK.out.asks p (List.mem_of_getElem? hx)
        obtain ⟨so, hso⟩ : ∃ l, l = st ++ bytesOf ((asks.take i).flatMap askParts) := ⟨_, rfl⟩
        have lso : so.length ≤ 600 := by rw [hso, List.length_append, bytesOf_len8, List.length_take]; omega
        have htk : (asks.take (i + 1)).flatMap askParts = (asks.take i).flatMap askParts ++ askParts p := by rw [List.take_add_one, hx, List.flatMap_append]; simp
        rw [← hso]
        obtain ⟨p0, p1⟩ := p
        simp only [encAsk, List.getElem?_cons_zero, List.getElem?_cons_succ, List.getElem_cons_zero, List.getElem_cons_succ, ← Nat.add_assoc, Nat.add_zero] at e0 e1
        dsimp only at hok
        obtain ⟨s1, hs1⟩ : ∃ l, l = be p0 4 := ⟨_, rfl⟩
        have ls1 : s1.length = 4 := by rw [hs1, be_length]
        obtain ⟨s2, hs2⟩ : ∃ l : List Int, l = [p1, 0, 0, 0] := ⟨_, rfl⟩
        have ls2 : s2.length = 4 := by rw [hs2]; rfl
        obtain ⟨s3, hs3⟩ : ∃ l, l = s1 ++ s2 := ⟨_, rfl⟩
        have ls3 : s3.length = s1.length + s2.length := by rw [hs3, List.length_append]
        have as3 : ∀ z : World, (Op.stringOp .add (strOfNums s1) (strOfNums s2)).run Try.prog z = .ok (.string (strOfNums s3)) z := fun z => by rw [hs3]; exact str_add _ _ (by omega) z
        obtain ⟨s4, hs4⟩ : ∃ l, l = so ++ s3 := ⟨_, rfl⟩
        have ls4 : s4.length = so.length + s3.length := by rw [hs4, List.length_append]
        have as4 : ∀ z : World, (Op.stringOp .add (strOfNums so) (strOfNums s3)).run Try.prog z = .ok (.string (strOfNums s4)) z := fun z => by rw [hs4]; exact str_add _ _ (by omega) z
        have hp1 : be p1 1 = [p1] := by have := hok.2; unfold U8 at this; rw [be_cons, be_zero0]; simp; omega
        have h03 : be 0 3 = [0, 0, 0] := by decide
        have HS : Hid (st ++ bytesOf ((asks.take (i + 1)).flatMap askParts) = s4) := Lib.hid (by rw [htk]; unfold bytesOf at hso ⊢; rw [List.flatMap_append, ← List.append_assoc, ← hso, hs4, hs3, hs1, hs2]; simp [askParts, hp1, h03])
        clear hp1 h03
        have HS2 := Lib.hid hs2
        have HF1 : Hid (∀ z : World, Calls Try.prog 36 #[.int .u32 p0] z fun e w' => e = .returned (.string (strOfNums s1)) ∧ Upd [] z w') := Lib.hid (fun z => by rw [hs1]; exact dfour_any z p0 hok.1)
        have hlti : (i : Int) < (na : Int) := by omega
        have hwi : IntKind.i64.wrap ((i : Int) + 1) = (i : Int) + 1 := IntWalk.i64_in _ (by omega)
        have HUR := Lib.hid hu
        have HGI := Lib.hid hgi
        have HGR := Lib.hid (HG1.out.upd hu (by simp))
        have r0 : ∀ z : Cls (Upd [] wr), z.w.cell? ⟨b, off + i * 2, none⟩ = some (.int .u32 p0) := fun z => (z.h.cell (p := ⟨b, off + i * 2, none⟩) (cellN_lt e0) (by simp)).trans e0
        have r1 : ∀ z : Cls (Upd [] wr), z.w.cell? ⟨b, off + i * 2 + 1, none⟩ = some (.int .u8 p1) := fun z => (z.h.cell (p := ⟨b, off + i * 2 + 1, none⟩) (cellN_lt e1) (by simp)).trans e1
        have d10 : wr.cell? ⟨G, 10, none⟩ = some (.slice (some ⟨b, off, none⟩) na ac) := HGR.out.cell 10
        clear hx hb hcc hso lso hok hs1 hs2 hs3 hs4 ls1 ls2 ls3 ls4 htk hu hgi e0 e1
        go_upto_region 37 with fail
        clear d10
        have hGl := HGR.out.lt
        have c10 : ∀ z : Cls (Upd [] wr), z.w.cell? ⟨G, 10, none⟩ = some (.slice (some ⟨b, off, none⟩) na ac) := fun z => (z.h.cell (p := ⟨G, 10, none⟩) hGl (by simp)).trans (HGR.out.cell 10)
        refine wp_script (Upd [] wr) ((Upd.refl _ _).drewN 1) (.take [0, 1, 2, 3, 4, 5, 6, 8, 9, 10, 11, 12, 13] (.fork 7 14 (.one 14 (.narrow (.take [15, 16, 17] (.last [18])))) (.narrow (.take [15] (.one 7 (.take [16, 17] (.last [18]))))))) (by kernel_rfl) (by kernel_rfl) (fun _ _ _ _ h => h) ?_
        intro hne
        refine wpS_take ?_
        simp only [pick3, List.map_cons, List.map_nil, List.getElem?_cons_zero, List.getElem?_cons_succ, Option.getD_some]
        repeat (go_big_quiet_step (with_reducible rfl))
        refine wpQuiet_nil ?_
        obtain ⟨w0, hw0⟩ : ∃ v, v = wr.drewN 1 := ⟨_, rfl⟩
        have HJ : Hid (Upd [] wr w0) := Lib.hid (by rw [hw0]; exact (Upd.refl _ _).drewN 1)
        rw [← hw0]
        clear hw0 r0 r1 c10
        refine wpS_fork ?_ ?_
        · simp only [pick3, List.map_cons, List.map_nil, List.getElem?_cons_zero, List.getElem?_cons_succ, Option.getD_some]
          refine wpHeldK_step rfl fun K hK => ?_
          go_simp
          refine (HF1.out _).mono ?_
          rintro _ wj ⟨rfl, hux⟩
          have HJ1 := Lib.hid (HJ.out.next hux)
          clear hux
          refine hK.out _ _ ⟨⟨wj, HJ1.out⟩, rfl⟩ ?_
          clear hK K
          refine wpQuiet_then ?_
          refine wpS_one ?_
          simp only [pick3, List.map_cons, List.map_nil, List.getElem?_cons_zero, List.getElem?_cons_succ, Option.getD_some]
          refine wpHeldK_step rfl fun K hK => ?_
          go_simp
          obtain ⟨V, hV⟩ : ∃ V, V = wj.heap.size := ⟨_, rfl⟩
          obtain ⟨wv, hwv⟩ : ∃ W, W = wj.alloc (.cells #[.int .u8 p1, .int .u8 0, .int .u8 0, .int .u8 0] 5) := ⟨_, rfl⟩
          rw [← hwv, ← hV]
          have hvb : Blk wv V 5 #[.int .u8 p1, .int .u8 0, .int .u8 0, .int .u8 0] := by rw [hwv, hV]; exact Blk.new _ _ _
          have hcv : ∀ z : Cls (Upd [] wv), (convert 25 9 (.slice (some ⟨V, 0, none⟩) 4 4)).run Try.prog z.w = .ok (.string (strOfNums s2)) z.w := fun z => by rw [HS2.out]; exact str_four (hvb.upd z.h (by simp))
          have HVU : Hid (Upd [] wr wv) := Lib.hid (HJ1.out.next (by rw [hwv]; exact (Upd.refl [] wj).alloc _))
          clear hV hwv hvb
          refine hK.out _ _ ⟨⟨wv, HVU.out⟩, rfl⟩ ?_
          clear hK K
          refine wpQuiet_then ?_
          refine wpS_narrow (Upd [] wv) (fun w' h => ⟨⟨w', HVU.out.next h⟩, rfl⟩) (Upd.refl _ _) ?_
          have HV0 : Hid (Upd [] wv wv) := Lib.hid (Upd.refl _ _)
          refine wpS_take ?_
          simp only [pick3, List.map_cons, List.map_nil, List.getElem?_cons_zero, List.getElem?_cons_succ, Option.getD_some]
          repeat (go_big_quiet_step (with_reducible rfl))
          refine wpQuiet_nil ?_
          refine wpS_last ?_
          simp only [pick3, List.map_cons, List.map_nil, List.getElem?_cons_zero, List.getElem?_cons_succ, Option.getD_some]
          refine wpHeld_last ?_
          go_wp2
          go_roundg (gk - 1)
          case measure => have := HGI.out; omega
          case rel => exact ⟨i + 1, by omega, by have := HGI.out; omega, by go_num, by rw [HS.out], HUR.out.next (HVU.out.next HV0.out)⟩
        · simp only [pick3, List.map_cons, List.map_nil, List.getElem?_cons_zero, List.getElem?_cons_succ, Option.getD_some]
          refine wpHeldK_step rfl fun K hK => ?_
          go_simp
          obtain ⟨V, hV⟩ : ∃ V, V = w0.heap.size := ⟨_, rfl⟩
          obtain ⟨wv, hwv⟩ : ∃ W, W = w0.alloc (.cells #[.int .u8 p1, .int .u8 0, .int .u8 0, .int .u8 0] 5) := ⟨_, rfl⟩
          rw [← hwv, ← hV]
          have hvb : Blk wv V 5 #[.int .u8 p1, .int .u8 0, .int .u8 0, .int .u8 0] := by rw [hwv, hV]; exact Blk.new _ _ _
          have hcv : ∀ z : Cls (Upd [] wv), (convert 25 9 (.slice (some ⟨V, 0, none⟩) 4 4)).run Try.prog z.w = .ok (.string (strOfNums s2)) z.w := fun z => by rw [HS2.out]; exact str_four (hvb.upd z.h (by simp))
          have HVU : Hid (Upd [] wr wv) := Lib.hid (HJ.out.next (by rw [hwv]; exact (Upd.refl [] w0).alloc _))
          clear hV hwv hvb
          refine hK.out _ _ ⟨⟨wv, HVU.out⟩, rfl⟩ ?_
          clear hK K
          refine wpQuiet_then ?_
          refine wpS_narrow (Upd [] wv) (fun w' h => ⟨⟨w', HVU.out.next h⟩, rfl⟩) (Upd.refl _ _) ?_
          have HV0 : Hid (Upd [] wv wv) := Lib.hid (Upd.refl _ _)
          refine wpS_take ?_
          simp only [pick3, List.map_cons, List.map_nil, List.getElem?_cons_zero, List.getElem?_cons_succ, Option.getD_some]
          repeat (go_big_quiet_step (with_reducible rfl))
          refine wpQuiet_nil ?_
          refine wpS_one ?_
          simp only [pick3, List.map_cons, List.map_nil, List.getElem?_cons_zero, List.getElem?_cons_succ, Option.getD_some]
          refine wpHeldK_step rfl fun K hK => ?_
          go_simp
          refine (HF1.out _).mono ?_
          rintro _ wk ⟨rfl, hux⟩
          have HK := Lib.hid (HV0.out.next hux)
          clear hux
          refine hK.out _ _ ⟨⟨wk, HK.out⟩, rfl⟩ ?_
          clear hK K
          refine wpQuiet_then ?_
          refine wpS_take ?_
          simp only [pick3, List.map_cons, List.map_nil, List.getElem?_cons_zero, List.getElem?_cons_succ, Option.getD_some]
          repeat (go_big_quiet_step (with_reducible rfl))
          refine wpQuiet_nil ?_
          refine wpS_last ?_
          simp only [pick3, List.map_cons, List.map_nil, List.getElem?_cons_zero, List.getElem?_cons_succ, Option.getD_some]
          refine wpHeld_last ?_
          go_wp2
          go_roundg (gk - 1)
          case measure => have := HGI.out; omega
          case rel => exact ⟨i + 1, by omega, by have := HGI.out; omega, by go_num, by rw [HS.out], HUR.out.next (HVU.out.next HK.out)⟩
      · have hin : i = na := by omega
        subst hin
        have HU2 := Lib.hid (HU1.out.next hu)
        have HG2 := Lib.hid (HG1.out.upd hu (by simp))
        obtain ⟨bs, hbs⟩ : ∃ l, l = st ++ bytesOf ((asks.take i).flatMap askParts) := ⟨_, rfl⟩
        have lbs : bs.length ≤ 600 := by rw [hbs, List.length_append, bytesOf_len8, List.length_take]; omega
        rw [← hbs]
        have HBD : Hid (bodyM m = ⟨206, 4, [(ssrc, 4), (media, 4)] ++ asks.flatMap askParts, decide (0 < asks.length)⟩) := Lib.hid (by rw [HM.out]; rfl)
        have HT : Hid ((bodyM m).t = 206) := Lib.hid (by rw [HBD.out])
        have HN : Hid ((bodyM m).n = 4) := Lib.hid (by rw [HBD.out])
        have HIS : Hid ((bodyM m).is = decide (0 < i)) := Lib.hid (by rw [HBD.out]; dsimp only; rw [← HL.out.2.2.2])
        have HB : Hid (bytesOf (bodyM m).ps = bs) := Lib.hid (by rw [HBD.out]; dsimp only; rw [hbs, HSE.out, HL.out.2.2.2, List.take_length]; unfold bytesOf; simp)
        have c10 : wr.cell? ⟨G, 10, none⟩ = some (.slice aA i ac) := HG2.out.cell 10
        clear hbs hu hgi hi hlt c10
        by_cases kn : i = 0
        · have HE : Hid (r = ([], 1)) := Lib.hid (by rw [HR.out]; unfold putD; rw [if_neg (by first | (rw [HIS.out]; simp; done) | (rw [HIS.out]; simp; omega))])
          have hkq : ((i : Int) == 0) = true := by rw [kn]; rfl
          clear kn
          have c0 : wr.cell? ⟨G, 0, none⟩ = some (.int .i64 5) := HG2.out.cell 0
          have c9 : wr.cell? ⟨G, 9, none⟩ = some (.slice pA np pc) := HG2.out.cell 9
          have c10 : wr.cell? ⟨G, 10, none⟩ = some (.slice aA i ac) := HG2.out.cell 10
          go_wp2
          exact bodyPost_res (v := .tuple #[.string { data := #[] }, .int .i64 1]) (by simp [results, Try.results24, go_sem]) rfl ⟨by rw [HE.out]; rfl, HU2.out⟩
        · have HE : Hid (r = (msgB m, 0)) := Lib.hid (by rw [HR.out]; unfold putD; rw [if_pos (by first | (rw [HIS.out]; done) | (rw [HIS.out]; simp; omega))])
          have HKN := Lib.hid kn
          clear kn
          obtain ⟨L, hL⟩ : ∃ n, n = bs.length := ⟨_, rfl⟩
          obtain ⟨q, hq⟩ : ∃ n : Nat, n = L / 4 := ⟨_, rfl⟩
          have hqb : 0 ≤ (q : Int) ∧ (q : Int) ≤ 18446744073709551615 := by omega
          have hsz : (strOfNums bs).size = L := by rw [strOfNums_size, hL]
          have hqt : ((L : Int)).tdiv 4 = (q : Int) := by rw [Int.tdiv_eq_ediv_of_nonneg (by omega)]; omega
          have hqw : IntKind.u64.wrap (q : Int) = (q : Int) := by unfold IntKind.wrap; simp [IntKind.bits, IntKind.signed]; omega
          have hq64 : wrap64 (q : Int) = (q : Int) := by unfold wrap64; omega
          have hw1 : IntKind.i64.wrap (128 + (4 : Int)) = 128 + (4 : Int) := IntWalk.i64_in _ (by omega)
          have hw2 : IntKind.u8.wrap (128 + (4 : Int)) = 128 + (4 : Int) := by unfold IntKind.wrap; simp [IntKind.bits, IntKind.signed]; try omega
          obtain ⟨x0, hx0⟩ : ∃ v : Int, v = 132 := ⟨_, rfl⟩
          obtain ⟨hd, hhd⟩ : ∃ l : List Int, l = [x0, 206] := ⟨_, rfl⟩
          have lhd : hd.length = 2 := by rw [hhd]; rfl
          obtain ⟨bq, hbq⟩ : ∃ l, l = be (q : Int) 2 := ⟨_, rfl⟩
          have lbq : bq.length = 2 := by rw [hbq, be_length]
          obtain ⟨out_0, hout_0⟩ : ∃ l, l = hd ++ bq := ⟨_, rfl⟩
          have lout_0 : out_0.length = hd.length + bq.length := by rw [hout_0, List.length_append]
          have aout_0 : ∀ z : World, (Op.stringOp .add (strOfNums hd) (strOfNums bq)).run Try.prog z = .ok (.string (strOfNums out_0)) z := fun z => by rw [hout_0]; exact str_add _ _ (by omega) z
          obtain ⟨out, hout⟩ : ∃ l, l = out_0 ++ bs := ⟨_, rfl⟩
          have lout : out.length = out_0.length + bs.length := by rw [hout, List.length_append]
          have aout : ∀ z : World, (Op.stringOp .add (strOfNums out_0) (strOfNums bs)).run Try.prog z = .ok (.string (strOfNums out)) z := fun z => by rw [hout]; exact str_add _ _ (by omega) z
          have HMB : Hid (msgB m = out) := Lib.hid (by
            unfold msgB
            rw [HN.out, HT.out, HB.out]
            rw [hout, hout_0, hhd, hbq, hx0, be_cons, be_cons, be_zero0]
            have e1 : ((q : Nat) : Int) = (bs.length : Int) / 4 := by rw [hq, hL]; rfl
            rw [e1]
            simp)
          have HHD := Lib.hid hhd
          have HNM : Hid (∀ W, Calls Try.prog 37 #[.int .u64 q, .int .i64 2] W fun e w' => e = .returned (.string (strOfNums bq)) ∧ Upd [] W w') := Lib.hid (fun W => by rw [hbq]; exact dnum_any W q 2 hqb (by decide) (by decide))
          clear hL hq hhd hbq hout hout_0 lhd lbq lout lout_0
          have c0 : wr.cell? ⟨G, 0, none⟩ = some (.int .i64 5) := HG2.out.cell 0
          have c9 : wr.cell? ⟨G, 9, none⟩ = some (.slice pA np pc) := HG2.out.cell 9
          have c10 : wr.cell? ⟨G, 10, none⟩ = some (.slice aA i ac) := HG2.out.cell 10
          have hkq : ((i : Int) == 0) = false := beq_eq_false_iff_ne.2 (fun h => HKN.out (by exact_mod_cast h))
          go_upto_region 40 with fail
          clear c0 c9 c10
          refine wp_script (Upd [] wr) ((Upd.refl _ _).drewN 1) (.take [0, 1, 2, 3, 4, 7, 8, 9, 10, 13] (.fork 5 11 (.narrow (.take [6] (.one 11 (.take [12, 14] (.last [15, 16]))))) (.one 5 (.narrow (.take [6, 12, 14] (.last [15, 16])))))) (by kernel_rfl) (by kernel_rfl) (fun _ _ _ _ h => h) ?_
          intro hne
          refine wpS_take ?_
          simp only [pick3, List.map_cons, List.map_nil, List.getElem?_cons_zero, List.getElem?_cons_succ, Option.getD_some]
          repeat (go_big_quiet_step (with_reducible rfl))
          refine wpQuiet_nil ?_
          obtain ⟨w0, hw0⟩ : ∃ v, v = wr.drewN 1 := ⟨_, rfl⟩
          have HJ : Hid (Upd [] wr w0) := Lib.hid (by rw [hw0]; exact (Upd.refl _ _).drewN 1)
          rw [← hw0]
          clear hw0
          refine wpS_fork ?_ ?_
          · simp only [pick3, List.map_cons, List.map_nil, List.getElem?_cons_zero, List.getElem?_cons_succ, Option.getD_some]
            refine wpHeldK_step rfl fun K hK => ?_
            go_simp
            obtain ⟨V, hV⟩ : ∃ V, V = w0.heap.size := ⟨_, rfl⟩
            obtain ⟨wv, hwv⟩ : ∃ W, W = w0.alloc (.cells #[.int .u8 (132), .int .u8 206] 5) := ⟨_, rfl⟩
            rw [← hwv, ← hV]
            have hvb : Blk wv V 5 #[.int .u8 (132), .int .u8 206] := by rw [hwv, hV]; exact Blk.new _ _ _
            have hcv : ∀ z : Cls (Upd [] wv), (convert 25 9 (.slice (some ⟨V, 0, none⟩) 2 2)).run Try.prog z.w = .ok (.string (strOfNums hd)) z.w := fun z => by rw [HHD.out, hx0]; exact str_two (hvb.upd z.h (by simp))
            have HVU : Hid (Upd [] wr wv) := Lib.hid (HJ.out.next (by rw [hwv]; exact (Upd.refl [] w0).alloc _))
            clear hV hwv hvb
            refine hK.out _ _ ⟨⟨wv, HVU.out⟩, rfl⟩ ?_
            clear hK K
            refine wpQuiet_then ?_
            refine wpS_narrow (Upd [] wv) (fun w' h => ⟨⟨w', HVU.out.next h⟩, rfl⟩) (Upd.refl _ _) ?_
            have HV0 : Hid (Upd [] wv wv) := Lib.hid (Upd.refl _ _)
            refine wpS_take ?_
            simp only [pick3, List.map_cons, List.map_nil, List.getElem?_cons_zero, List.getElem?_cons_succ, Option.getD_some]
            repeat (go_big_quiet_step (with_reducible rfl))
            refine wpQuiet_nil ?_
            refine wpS_one ?_
            simp only [pick3, List.map_cons, List.map_nil, List.getElem?_cons_zero, List.getElem?_cons_succ, Option.getD_some]
            refine wpHeldK_step rfl fun K hK => ?_
            go_simp
            refine (HNM.out _).mono ?_
            rintro _ wk ⟨rfl, hux⟩
            have HK := Lib.hid (HV0.out.next hux)
            clear hux
            refine hK.out _ _ ⟨⟨wk, HK.out⟩, rfl⟩ ?_
            clear hK K
            refine wpQuiet_then ?_
            refine wpS_take ?_
            simp only [pick3, List.map_cons, List.map_nil, List.getElem?_cons_zero, List.getElem?_cons_succ, Option.getD_some]
            repeat (go_big_quiet_step (with_reducible rfl))
            refine wpQuiet_nil ?_
            refine wpS_last ?_
            simp only [pick3, List.map_cons, List.map_nil, List.getElem?_cons_zero, List.getElem?_cons_succ, Option.getD_some]
            refine wpHeld_step rfl fun K hK => ?_
            go_simp
            refine hK.out _ _ (.inr ⟨⟨wk, HK.out⟩, rfl⟩) ?_
            clear hK K
            refine wpHeld_last ?_
            go_wp2
            exact bodyPost_res (v := .tuple #[.string (strOfNums out), .int .i64 0]) (by simp [results, Try.results24, go_sem]) rfl ⟨by rw [HE.out, HMB.out], HU2.out.next (HVU.out.next HK.out)⟩
          · simp only [pick3, List.map_cons, List.map_nil, List.getElem?_cons_zero, List.getElem?_cons_succ, Option.getD_some]
            refine wpHeldK_step rfl fun K hK => ?_
            go_simp
            refine (HNM.out _).mono ?_
            rintro _ wj ⟨rfl, hux⟩
            have HJ1 := Lib.hid (HJ.out.next hux)
            clear hux
            refine hK.out _ _ ⟨⟨wj, HJ1.out⟩, rfl⟩ ?_
            clear hK K
            refine wpQuiet_then ?_
            refine wpS_one ?_
            simp only [pick3, List.map_cons, List.map_nil, List.getElem?_cons_zero, List.getElem?_cons_succ, Option.getD_some]
            refine wpHeldK_step rfl fun K hK => ?_
            go_simp
            obtain ⟨V, hV⟩ : ∃ V, V = wj.heap.size := ⟨_, rfl⟩
            obtain ⟨wv, hwv⟩ : ∃ W, W = wj.alloc (.cells #[.int .u8 (132), .int .u8 206] 5) := ⟨_, rfl⟩
            rw [← hwv, ← hV]
            have hvb : Blk wv V 5 #[.int .u8 (132), .int .u8 206] := by rw [hwv, hV]; exact Blk.new _ _ _
            have hcv : ∀ z : Cls (Upd [] wv), (convert 25 9 (.slice (some ⟨V, 0, none⟩) 2 2)).run Try.prog z.w = .ok (.string (strOfNums hd)) z.w := fun z => by rw [HHD.out, hx0]; exact str_two (hvb.upd z.h (by simp))
            have HVU : Hid (Upd [] wr wv) := Lib.hid (HJ1.out.next (by rw [hwv]; exact (Upd.refl [] wj).alloc _))
            clear hV hwv hvb
            refine hK.out _ _ ⟨⟨wv, HVU.out⟩, rfl⟩ ?_
            clear hK K
            refine wpQuiet_then ?_
            refine wpS_narrow (Upd [] wv) (fun w' h => ⟨⟨w', HVU.out.next h⟩, rfl⟩) (Upd.refl _ _) ?_
            have HV0 : Hid (Upd [] wv wv) := Lib.hid (Upd.refl _ _)
            refine wpS_take ?_
            simp only [pick3, List.map_cons, List.map_nil, List.getElem?_cons_zero, List.getElem?_cons_succ, Option.getD_some]
            repeat (go_big_quiet_step (with_reducible rfl))
            refine wpQuiet_nil ?_
            refine wpS_last ?_
            simp only [pick3, List.map_cons, List.map_nil, List.getElem?_cons_zero, List.getElem?_cons_succ, Option.getD_some]
            refine wpHeld_step rfl fun K hK => ?_
            go_simp
            refine hK.out _ _ (.inr ⟨⟨wv, HV0.out⟩, rfl⟩) ?_
            clear hK K
            refine wpHeld_last ?_
            go_wp2
            exact bodyPost_res (v := .tuple #[.string (strOfNums out), .int .i64 0]) (by simp [results, Try.results24, go_sem]) rfl ⟨by rw [HE.out, HMB.out], HU2.out.next (HVU.out.next HV0.out)⟩
  have hk0 : (kd == 0) = false := beq_eq_false_iff_ne.2 k0
  have hk1 : (kd == 1) = false := beq_eq_false_iff_ne.2 k1
  have hk2 : (kd == 2) = false := beq_eq_false_iff_ne.2 k2
  have hk3 : (kd == 3) = false := beq_eq_false_iff_ne.2 k3
  have hk4 : (kd == 4) = false := beq_eq_false_iff_ne.2 k4
  have hk5 : (kd == 5) = false := beq_eq_false_iff_ne.2 k5
  have HE : Hid (r = ([], 1)) := Lib.hid (by rw [HR.out, HM.out]; unfold putD bodyM; dsimp only; rw [if_neg k0, if_neg k1, if_neg k2, if_neg k3, if_neg k4, if_neg k5]; rfl)
  clear k0 k1 k2 k3 k4 k5
  have c0 : W.cell? ⟨G, 0, none⟩ = some (.int .i64 kd) := HGB.out.cell 0
  go_wp2
  exact bodyPost_res (v := .tuple #[.string { data := #[] }, .int .i64 1]) (by simp [results, Try.results24, go_sem]) rfl ⟨by rw [HE.out]; rfl, HU.out⟩
end Go.Proofs.Ytgkejdjdccgjbaa
