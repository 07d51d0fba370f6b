/- The document's board: Ack. Conditions: as before. -/
import Derived.Test.YtdcekgdihnlbpaaCRef3
namespace Go.Proofs.Ytdcekgdihnlbpaa
open Go Go.RowKit
set_option maxHeartbeats 400000

theorem infoI : (Try.prog.info? 3).map (fun i => (i.zero, i.size, i.bytes)) = some (some (.int .i64 0), 1, 8) := by kernel_rfl
section
variable {w w' : World} {lo n k tc : Nat} {TA : Option Addr} {rows : List Rw} {S E L : Rw}

set_option maxRecDepth 100000 in
set_option maxHeartbeats 2000000 in
theorem rack_no (h : RB w lo n k TA tc rows S E L) (i e0 : Int) (hi : i < 0 ∨ (n : Int) ≤ i) :
    Calls Try.prog 17 #[.agg (bcells n k TA tc S E L), .int .i64 i, .int .u64 e0] w fun e w' => e = .returned (.tuple #[.agg (bcells n k TA tc S E L), .int .i64 1]) ∧ Upd [] w w' := by
  clear h
  unfold bcells
  by_cases h0 : i < 0
  · clear hi
    go_enter Try.func17, Try.ntmps17
    go_wp2
    exact bodyPost_res (v := .tuple #[.agg #[.slice TA n tc, .slice S.A S.xs.length S.c, .slice E.A E.xs.length E.c, .slice L.A L.xs.length L.c, .int .i64 k], .int .i64 1]) (by simp [results, Try.results17, go_sem]) rfl ⟨rfl, ((Upd.refl _ _).alloc _).alloc _⟩
  · have h1 := hi.resolve_left h0
    clear hi
    go_enter Try.func17, Try.ntmps17
    go_wp2
    exact bodyPost_res (v := .tuple #[.agg #[.slice TA n tc, .slice S.A S.xs.length S.c, .slice E.A E.xs.length E.c, .slice L.A L.xs.length L.c, .int .i64 k], .int .i64 1]) (by simp [results, Try.results17, go_sem]) rfl ⟨rfl, ((Upd.refl _ _).alloc _).alloc _⟩

set_option maxRecDepth 100000 in
set_option maxHeartbeats 2000000 in
theorem rack_full (h : RB w lo n k TA tc rows S E L) (i : Nat) (e0 : Int) (hi : i < n) (hf : n * k ≤ S.xs.length) :
    Calls Try.prog 17 #[.agg (bcells n k TA tc S E L), .int .i64 i, .int .u64 e0] w fun e w' => e = .returned (.tuple #[.agg (bcells n k TA tc S E L), .int .i64 20]) ∧ Upd [] w w' := by
  have hm1 : n * k ≤ 20 := by have := Nat.mul_le_mul h.n4 h.k5; omega
  have hmul : (n : Int) * (k : Int) = ((n * k : Nat) : Int) := by push_cast; rfl
  have hm0 : (n : Int) * (k : Int) ≤ 20 := by omega
  have hm2 : 0 ≤ (n : Int) * (k : Int) := by omega
  have hd : (n : Int) * (k : Int) ≤ (S.xs.length : Int) := by omega
  have h0 : ¬ (i : Int) < 0 := by omega
  have h1 : ¬ (n : Int) ≤ (i : Int) := by omega
  clear h hf hmul hm1
  unfold bcells
  go_enter Try.func17, Try.ntmps17
  go_wp2
  exact bodyPost_res (v := .tuple #[.agg #[.slice TA n tc, .slice S.A S.xs.length S.c, .slice E.A E.xs.length E.c, .slice L.A L.xs.length L.c, .int .i64 k], .int .i64 20]) (by simp [results, Try.results17, go_sem]) rfl ⟨rfl, ((Upd.refl _ _).alloc _).alloc _⟩

set_option maxRecDepth 100000 in
set_option maxHeartbeats 4000000 in
theorem rack_yes (h : RB w lo n k TA tc rows S E L) (i : Nat) (e0 : Int) (hi : i < n) (hf : S.xs.length < n * k) :
    Calls Try.prog 17 #[.agg (bcells n k TA tc S E L), .int .i64 i, .int .u64 e0] w fun e w' => ∃ S' E', e = .returned (.tuple #[.agg (bcells n k TA tc S' E' L), .int .i64 0]) ∧ S'.xs = S.xs ++ [(i : Int)] ∧ E'.xs = E.xs ++ [e0] ∧
      RB w' lo n k TA tc rows S' E' L ∧ Below w.heap.size w w' ∧ Fr w S'.A ∧ Fr w E'.A := by
  obtain ⟨i0, hi0, hz0, hz1, hz2⟩ := info_parts infoI
  obtain ⟨j0, hj0, hy0, hy1, hy2⟩ := info_parts infoV
  have hm1 : n * k ≤ 20 := by have := Nat.mul_le_mul h.n4 h.k5; omega
  have hmul : (n : Int) * (k : Int) = ((n * k : Nat) : Int) := by push_cast; rfl
  have hm0 : (n : Int) * (k : Int) ≤ 20 := by omega
  have hm2 : 0 ≤ (n : Int) * (k : Int) := by omega
  have hd : ¬ (n : Int) * (k : Int) ≤ (S.xs.length : Int) := by omega
  have h0 : ¬ (i : Int) < 0 := by omega
  have h1 : ¬ (n : Int) ≤ (i : Int) := by omega
  have hsl : S.xs.length ≤ 20 := by omega
  have hel : E.xs.length ≤ 20 := by rw [h.se]; exact hsl
  have HSE := Lib.hid h.se
  have H := Lib.hid h
  have HF := Lib.hid hf
  obtain ⟨ss, hss⟩ : ∃ ss, ss = S.xs.map (Value.int .i64) := ⟨_, rfl⟩
  obtain ⟨es, hes⟩ : ∃ es, es = E.xs.map (Value.int .u64) := ⟨_, rfl⟩
  have HSS := Lib.hid hss
  have HES := Lib.hid hes
  have CS : Hid (CellsIn w lo w.heap.size 1 S.A S.xs.length ss) := by rw [hss]; exact Lib.hid h.s.l
  have CE : Hid (CellsIn w lo w.heap.size 1 E.A E.xs.length es) := by rw [hes]; exact Lib.hid h.e.l
  have O1 : Hid (∀ u ∈ ss, u.oneCell' = true) := fun u hu => by rw [hss] at hu; obtain ⟨x, _, rfl⟩ := List.mem_map.1 hu; rfl
  have O2 : Hid (∀ u ∈ es, u.oneCell' = true) := fun u hu => by rw [hes] at hu; obtain ⟨x, _, rfl⟩ := List.mem_map.1 hu; rfl
  have LS : Hid (ss.length = S.xs.length * 1) := CS.out.1
  have LE : Hid (es.length = E.xs.length * 1) := CE.out.1
  have NS := Lib.hid h.s.nl
  have NE := Lib.hid h.e.nl
  clear h hf hmul hm1 hss hes
  unfold bcells
  go_enter Try.func17, Try.ntmps17
  go_wp2_with (at_builtin; refine wpList_append_src _ rfl (.tmp 31) (.tmp 33) 27 rfl (w.heap.size + 1 + 1) 3 i0 _ 1 8 Try.underlying27 hi0 hz0 hz1 hz2 rfl (by decide) (.slice none 0 0) 0 [] rfl (World.ownsRow_nil _ _ _ _) S.A S.xs.length S.c ss rfl NS.out LS.out ?s1 O1.out ?s3 ?s4 ?s5 ?_)
  case s1 => exact (CS.out.below (((Below.refl _ _).alloc (Nat.le_refl _) _).alloc (by simp) _) (Nat.le_refl _)).src
  case s3 => unfold maxLen; omega
  case s4 => omega
  intro v1 w1 hown1 hg1 hat1
  obtain ⟨D0, D1, hsz0⟩ := two_blk w #[.slice TA n tc, .slice S.A S.xs.length S.c, .slice E.A E.xs.length E.c, .slice L.A L.xs.length L.c, .int .i64 k] #[.slice none 0 0, .slice none 0 0, .slice none 0 0, .slice none 0 0, .int .i64 0] 41 41
  have hb1 := grown_upd (World.ownsRow_nil _ _ 3 1) hg1 (N := w.heap.size + 1 + 1) (by rw [hsz0]; exact Nat.le_refl _)
  have B1 := D0.below hb1 (by omega)
  have R1 := D1.below hb1 (by omega)
  have hs1 : w.heap.size + 1 + 1 ≤ w1.heap.size := by have := hb1.size; rw [hsz0] at this; exact this
  have hw1 : Below w.heap.size w w1 := (((Below.refl _ _).alloc (Nat.le_refl _) _).alloc (by simp) _).trans (hb1.mono (by omega))
  have c2 : w1.cell? ⟨w.heap.size, 2, none⟩ = some (.slice E.A E.xs.length E.c) := B1.cell 2
  clear hg1 hat1 hb1 D0 D1
  go_wp2_with (at_builtin; refine wpList_append_src _ rfl (.tmp 35) (.tmp 37) 39 rfl (w.heap.size + 1 + 1) 30 j0 _ 1 8 Try.underlying39 hj0 hy0 hy1 hy2 rfl (by decide) (.slice none 0 0) 0 [] rfl (World.ownsRow_nil _ _ _ _) E.A E.xs.length E.c es rfl NE.out LE.out ?t1 O2.out ?t3 ?t4 ?t5 ?_)
  case t1 => exact (CE.out.below hw1 (Nat.le_refl _)).src
  case t3 => unfold maxLen; omega
  case t4 => omega
  case t5 => exact hs1
  intro v2 w2 hown2 hg2 hat2
  have hb2 := grown_upd (World.ownsRow_nil _ _ 30 1) hg2 (N := w.heap.size + 1 + 1) hs1
  have B2 := B1.below hb2 (by omega)
  have R2 := R1.below hb2 (by omega)
  have a12 : Apart v1 v2 := Apart.append hat2 hown1 (Apart.nil v1).symm
  have hown1' := Apart.kept hown1 hg2 (Apart.nil v1).symm
  have hs2 : w.heap.size + 1 + 1 ≤ w2.heap.size := Nat.le_trans hs1 hb2.size
  have hw2 : Below w.heap.size w w2 := hw1.trans (hb2.mono (by omega))
  have q1 := B2.cell 1
  have f1 := B2.frozen 1
  have HO1 := Lib.hid hown1'
  have HO2 := Lib.hid hown2
  clear hg2 hat2 hb2 hown1 hown1' hown2 B1 R1 c2
  go_wp2_with (at_builtin; refine wpList_append_own_at _ rfl (.tmp 39) (.tmp 41) 27 rfl (w.heap.size + 1 + 1) 3 i0 _ 1 8 Try.underlying27 hi0 hz0 hz1 hz2 rfl (by decide) _ S.xs.length ss rfl (HO1.out.alloc _) ⟨w2.heap.size, 0, none⟩ 1 1 [.int .i64 i] rfl rfl ?u1 ?u2 ?u3 ?u4 ?u5 ?_)
  case u1 =>
    intro j u hj
    match j, hj with
    | 0, hj => simp at hj; subst hj; exact (Blk.new w2 3 #[.int .i64 i]).cell 0
  case u2 => intro u hu; simp at hu; subst hu; rfl
  case u3 => unfold maxLen; omega
  case u4 => omega
  case u5 => simp; omega
  intro v3 w3 hown3 hg3 _ hat3
  obtain ⟨A3, c3, hv3, hcap3, hfr3, hnl3⟩ := own_form hown3
  have HF3 : Hid (Fr w A3) := by
    obtain ⟨g, hg, hgN, _⟩ := hfr3 (by omega)
    rw [hg]; exact Lib.hid (Fr.some (by omega))
  clear hfr3
  subst hv3
  have hcm3 := own_cap hown3
  have hb3 := grown_upd (HO1.out.alloc _) hg3 (N := w.heap.size + 1 + 1) (by simp; omega)
  have B3 := (B2.alloc (.cells #[.int .i64 i] 3)).below hb3 (by omega)
  have R3 := (R2.alloc (.cells #[.int .i64 i] 3)).below hb3 (by omega)
  have a23 : Apart v2 (.slice A3 (S.xs.length + 1) c3) := Apart.append (w := w2.alloc (.cells #[.int .i64 i] 3)) (by rw [World.size_alloc]; exact hat3) (HO2.out.alloc _) a12.symm
  have hown2' := Apart.kept (HO2.out.alloc (.cells #[.int .i64 i] 3)) hg3 a12.symm
  have hs3 : w.heap.size + 1 + 1 ≤ w3.heap.size := Nat.le_trans hs2 (Nat.le_trans (by simp) hb3.size)
  have hw3 : Below w.heap.size w w3 := (hw2.alloc hw2.size _).trans (hb3.mono (by omega))
  have p1 := B3.cell 1
  have g1 := B3.frozen 1
  obtain ⟨W, hW⟩ : ∃ W, W = w3.setCell ⟨w.heap.size, 1, none⟩ (.slice A3 (S.xs.length + 1) c3) := ⟨_, rfl⟩
  have huW : Upd [w.heap.size] w3 W := by rw [hW]; exact (Upd.refl _ _).setCell (by simp) _
  have hno : ∀ {v : Value} {e : TypeId} {m : Nat} {xs : List Value}, w3.ownsRow (w.heap.size + 1 + 1) e 1 v m xs → W.ownsRow (w.heap.size + 1 + 1) e 1 v m xs := fun ho => ownsRow_upd ho huW (fun s hs e => by
    have := (own_block_lt ho e).1
    simp at hs; omega)
  have B4 : Blk W w.heap.size 41 #[.slice TA n tc, .slice A3 (S.xs.length + 1) c3, .slice E.A E.xs.length E.c, .slice L.A L.xs.length L.c, .int .i64 k] := by
    have := B3.store 1 (.slice A3 (S.xs.length + 1) c3)
    rw [hW]; simpa using this
  have R4 := R3.upd huW (by simp)
  have hs4 : w.heap.size + 1 + 1 ≤ W.heap.size := Nat.le_trans hs3 huW.size
  have hw4 : Below w.heap.size w W := hw3.trans (huW.below hw3.size (by simp))
  have HO3 := Lib.hid (hno hown3)
  have HO2' := Lib.hid (hno hown2')
  simp only [List.getElem?_toArray, List.getElem?_cons_zero, List.getElem?_cons_succ] at p1
  clear hown3 hg3 hat3 hb3 hown2' B2 B3 R2 R3 q1 f1 hno
  go_upto_region 10 with fail
  rw [← hW]
  have q2 := B4.cell 2
  have f2 := B4.frozen 2
  clear hW p1 g1
  go_wp2_with (at_builtin; refine wpList_append_own_at _ rfl (.tmp 44) (.tmp 46) 39 rfl (w.heap.size + 1 + 1) 30 j0 _ 1 8 Try.underlying39 hj0 hy0 hy1 hy2 rfl (by decide) _ E.xs.length es rfl (HO2'.out.alloc _) ⟨W.heap.size, 0, none⟩ 1 1 [.int .u64 e0] rfl rfl ?y1 ?y2 ?y3 ?y4 ?y5 ?_)
  case y1 =>
    intro j u hj
    match j, hj with
    | 0, hj => simp at hj; subst hj; exact (Blk.new W 30 #[.int .u64 e0]).cell 0
  case y2 => intro u hu; simp at hu; subst hu; rfl
  case y3 => unfold maxLen; omega
  case y4 => omega
  case y5 => simp; omega
  intro v4 w4 hown4 hg4 _ hat4
  obtain ⟨A4, c4, hv4, hcap4, hfr4, hnl4⟩ := own_form hown4
  have HF4 : Hid (Fr w A4) := by
    obtain ⟨g, hg, hgN, _⟩ := hfr4 (by omega)
    rw [hg]; exact Lib.hid (Fr.some (by omega))
  clear hfr4
  subst hv4
  have hcm4 := own_cap hown4
  have hb5 := grown_upd (HO2'.out.alloc _) hg4 (N := w.heap.size + 1 + 1) (by simp; omega)
  have B5 := (B4.alloc (.cells #[.int .u64 e0] 30)).below hb5 (by omega)
  have R5 := (R4.alloc (.cells #[.int .u64 e0] 30)).below hb5 (by omega)
  have hown3' := Apart.kept (HO3.out.alloc (.cells #[.int .u64 e0] 30)) hg4 a23.symm
  have hs5 : w.heap.size + 1 + 1 ≤ w4.heap.size := Nat.le_trans hs4 (Nat.le_trans (by simp) hb5.size)
  have hw5 : Below w.heap.size w w4 := (hw4.alloc hw4.size _).trans (hb5.mono (by omega))
  have c00 := B5.cell 0
  have c01 := B5.cell 1
  have c02 := B5.cell 2
  have c03 := B5.cell 3
  have c04 := B5.cell 4
  have g02 := B5.frozen 2
  have c10 := R5.cell 0
  have c11 := R5.cell 1
  have c12 := R5.cell 2
  have c13 := R5.cell 3
  have c14 := R5.cell 4
  have g10 := R5.frozen 0
  have g11 := R5.frozen 1
  have g12 := R5.frozen 2
  have g13 := R5.frozen 3
  have g14 := R5.frozen 4
  simp only [List.getElem?_toArray, List.getElem?_cons_zero, List.getElem?_cons_succ] at c00 c01 c02 c03 c04 c10 c11 c12 c13 c14
  have hu : Upd [w.heap.size, w.heap.size + 1] w4 ((((((w4.setCell ⟨w.heap.size, 2, none⟩ (.slice A4 (E.xs.length + 1) c4)).setCell ⟨w.heap.size + 1, 0, none⟩ (.slice TA n tc)).setCell ⟨w.heap.size + 1, 1, none⟩ (.slice A3 (S.xs.length + 1) c3)).setCell ⟨w.heap.size + 1, 2, none⟩ (.slice A4 (E.xs.length + 1) c4)).setCell ⟨w.heap.size + 1, 3, none⟩ (.slice L.A L.xs.length L.c)).setCell ⟨w.heap.size + 1, 4, none⟩ (.int .i64 k)) :=
    ((((((Upd.refl _ _).setCell (by simp) _).setCell (by simp) _).setCell (by simp) _).setCell (by simp) _).setCell (by simp) _).setCell (by simp) _
  have hbf : Below w.heap.size w ((((((w4.setCell ⟨w.heap.size, 2, none⟩ (.slice A4 (E.xs.length + 1) c4)).setCell ⟨w.heap.size + 1, 0, none⟩ (.slice TA n tc)).setCell ⟨w.heap.size + 1, 1, none⟩ (.slice A3 (S.xs.length + 1) c3)).setCell ⟨w.heap.size + 1, 2, none⟩ (.slice A4 (E.xs.length + 1) c4)).setCell ⟨w.heap.size + 1, 3, none⟩ (.slice L.A L.xs.length L.c)).setCell ⟨w.heap.size + 1, 4, none⟩ (.int .i64 k)) := hw5.trans (hu.below hw5.size (by simp))
  have CS5 := ((CellsIn.of_own hown3').upd hu (Nat.le_refl _) (fun s hs => .inl (by simp at hs; omega))).more (lo' := lo) (by have := H.out.low; omega) hu.size
  have CE5 := ((CellsIn.of_own hown4).upd hu (Nat.le_refl _) (fun s hs => .inl (by simp at hs; omega))).more (lo' := lo) (by have := H.out.low; omega) hu.size
  have HCS := Lib.hid CS5
  have HCE := Lib.hid CE5
  have HBF := Lib.hid hbf
  have hgl0 : w.heap.size < w4.heap.size := by omega
  have hgl1 : w.heap.size + 1 < w4.heap.size := by omega
  clear hown4 hown3' hg4 hat4 hb5 B4 B5 R4 R5 hu hbf CS5 CE5 q2 f2
  go_wp2
  refine bodyPost_res (v := .tuple #[.agg #[.slice TA n tc, (.slice A3 (S.xs.length + 1) c3), (.slice A4 (E.xs.length + 1) c4), .slice L.A L.xs.length L.c, .int .i64 k], .int .i64 0]) (by simp [results, Try.results17, go_sem, c00, c01, c02, c03, c04, c10, c11, c12, c13, c14]) rfl ⟨⟨A3, c3, S.xs ++ [(i : Int)]⟩, ⟨A4, c4, E.xs ++ [e0]⟩, by simp, rfl, rfl, ?_, HBF.out, HF3.out, HF4.out⟩
  have hR := H.out.below HBF.out
  have l3 : (S.xs ++ [(i : Int)]).length = S.xs.length + 1 := by simp
  have l4 : (E.xs ++ [e0]).length = E.xs.length + 1 := by simp
  refine { hR with s := ⟨?_, ?_, ?_, hcm3⟩, e := ⟨?_, ?_, ?_, hcm4⟩, se := ?_, sm := ?_ }
  · dsimp only; rw [l3, List.map_append, ← HSS.out]; exact HCS.out
  · intro e; dsimp only at e ⊢; rw [l3]; exact hnl3 e
  · dsimp only; rw [l3]; exact hcap3
  · dsimp only; rw [l4, List.map_append, ← HES.out]; exact HCE.out
  · intro e; dsimp only at e ⊢; rw [l4]; exact hnl4 e
  · dsimp only; rw [l4]; exact hcap4
  · dsimp only; rw [l3, l4, HSE.out]
  · dsimp only; rw [l3]; exact HF.out
end
end Go.Proofs.Ytdcekgdihnlbpaa
