/- TableMakes of the package louverlaw17: for every input the call returns true, and its arguments read afterwards as they did before. No condition. -/
import Derived.Test.YteljkdihlklliaaB4
import Derived.Test.YteljkdihlklliaaChecked
import Derived.Test.YteljkdihlklliaaRows

namespace Go.Proofs.Yteljkdihlklliaa.lawTableMakes
open Go.ChangeShapes Go.WideShapes Go.ChangeAt Go.RowKit Go.Deep
open Go.Proofs.Yteljkdihlklliaa

theorem own : ownKnob Try.prog.godebug = none := by kernel_rfl
theorem laidOut : laidOutB Try.prog = true := by kernel_rfl

set_option maxRecDepth 100000 in
theorem lifted (os : Os) (started : os.Started) (H : Type) (enc : TypeId × Value → H) :
    ReturnsInHanded {} Try.checked os 3 .any (Rows.tableMakesSpec.pre6 enc Try.prog Try.f3 Rows.tableMakesRow.domain false) (Rows.tableMakesSpec.post enc Try.prog Try.f3 false true false false) := by
  refine returnsInHanded_of_change (C := Try.checked) own started (by kernel_rfl) Try.func3
    (ChangeSpec.witness6 (enc := enc) (C := Try.checked) false ⟨#[], #[.int .u64 0, .slice none 0 0, .slice none 0 0, .int .u32 0, .int .i64 0, .int .i64 0], []⟩ 8 (by kernel_rfl) (by kernel_rfl) (by kernel_rfl) (by kernel_rfl)) ?_
  intro W base args ds gs before hval0 hW hcnd _
  have hval : ∀ (j : Nat) t v, Try.f3.params[j]? = some t → args[j]? = some v → Value.okWide Try.prog W .any base t v := hval0
  have hW' := hW
  obtain ⟨p, q, hA0, hV, rfl, hfz, hnd⟩ := hW
  have hA : DataW.TrodAll enc Try.prog W 0 (fun _ => true) true Try.f3.params.toList args.toList ds p := hA0
  rw [Try.params3] at hA hval
  obtain ⟨v0, vs0, d0, ds0, p0, q0, hargs, rfl, rfl, h0, r0⟩ := trodAll_cons hA
  obtain ⟨v1, vs1, d1, ds1, p1, q1, rfl, rfl, rfl, h1, r1⟩ := trodAll_cons r0
  obtain ⟨v2, vs2, d2, ds2, p2, q2, rfl, rfl, rfl, h2, r2⟩ := trodAll_cons r1
  obtain ⟨v3, vs3, d3, ds3, p3, q3, rfl, rfl, rfl, h3, r3⟩ := trodAll_cons r2
  obtain ⟨v4, vs4, d4, ds4, p4, q4, rfl, rfl, rfl, h4, r4⟩ := trodAll_cons r3
  obtain ⟨v5, vs5, d5, ds5, p5, q5, rfl, rfl, rfl, h5, r5⟩ := trodAll_cons r4
  obtain ⟨rfl, rfl, rfl⟩ := trodAll_nil r5
  obtain rfl : args = #[v0, v1, v2, v3, v4, v5] := by cases args; simp_all
  obtain ⟨rfl, rfl⟩ := trodVars_none hV
  obtain ⟨a0, rfl, rfl, rfl, w0⟩ := open_int Try.underlying22 (hval 0 22 v0 rfl rfl) h0
  obtain ⟨A1, len1, cap1, rfl⟩ := okWide_slice Try.underlying23 (hval 1 23 v1 rfl rfl)
  have k1 := h1
  have lt1 : ∀ x ∈ p1, x.block < W.heap.size := by obtain ⟨m, hm⟩ := k1; exact DataW.trod_lt m _ _ _ hm
  have X1 : ∃ l : List Rt, l.length = len1 ∧ len1 ≤ cap1 ∧ cap1 ≤ maxLen ∧ CellsIn W 0 W.heap.size 5 A1 len1 (l.flatMap encRt) ∧ ∀ x ∈ l, x.Ok := by
    obtain ⟨fuel, hf⟩ := h1
    obtain ⟨A, len, cap, l, hcs, hlc, hm, hll, hc⟩ := rd_cells (α := { x : Rt // x.Ok }) (fun a => encRt a.1) (size := 5) Try.underlying23 (by kernel_rfl) (by omega) (fun n cs y hcl hy => by
      obtain ⟨m, hm⟩ := rd_fields (n := n) (fs := _) Try.underlying37 hy
      match cs, hcl with
      | [c0, c1, c2, c3, c4], _ =>
        obtain ⟨y0, hy0⟩ := hm 0 _ 25 0 1 rfl rfl rfl (by kernel_rfl)
        obtain ⟨z0, e0, w0⟩ := rd_int Try.underlying25 hy0
        obtain ⟨y1, hy1⟩ := hm 1 _ 3 1 1 rfl rfl rfl (by kernel_rfl)
        obtain ⟨z1, e1, w1⟩ := rd_int Try.underlying3 hy1
        obtain ⟨y2, hy2⟩ := hm 2 _ 3 2 1 rfl rfl rfl (by kernel_rfl)
        obtain ⟨z2, e2, w2⟩ := rd_int Try.underlying3 hy2
        obtain ⟨y3, hy3⟩ := hm 3 _ 3 3 1 rfl rfl rfl (by kernel_rfl)
        obtain ⟨z3, e3, w3⟩ := rd_int Try.underlying3 hy3
        obtain ⟨y4, hy4⟩ := hm 4 _ 3 4 1 rfl rfl rfl (by kernel_rfl)
        obtain ⟨z4, e4, w4⟩ := rd_int Try.underlying3 hy4
        have f0 : c0 = _ := (List.cons.inj e0).1
        have f1 : c1 = _ := (List.cons.inj e1).1
        have f2 : c2 = _ := (List.cons.inj e2).1
        have f3 : c3 = _ := (List.cons.inj e3).1
        have f4 : c4 = _ := (List.cons.inj e4).1
        exact ⟨⟨⟨z0, z1, z2, z3, z4⟩, ⟨bounds_u32 w0, bounds_i64 w1, bounds_i64 w2, bounds_i64 w3, bounds_i64 w4⟩⟩, by rw [f0, f1, f2, f3, f4]; rfl⟩) (fun _ => rfl) hf
    simp only [Value.cells, List.cons.injEq, and_true] at hcs
    obtain ⟨rfl, rfl, rfl⟩ : A1 = A ∧ len1 = len ∧ cap1 = cap := by simpa using hcs
    refine ⟨l.map (·.1), by rw [List.length_map]; exact hll, hlc, hm, ?_, fun x hx => ?_⟩
    · have e : (l.map (·.1)).flatMap encRt = l.flatMap fun a => encRt a.1 := by rw [List.flatMap_map]
      rw [e]
      exact CellsIn.of_cells0 hc
    · obtain ⟨a, _, rfl⟩ := List.mem_map.1 hx
      exact a.2
  obtain ⟨A2, len2, cap2, rfl⟩ := okWide_slice Try.underlying24 (hval 2 24 v2 rfl rfl)
  have k2 := h2
  have lt2 : ∀ x ∈ p2, x.block < W.heap.size := by obtain ⟨m, hm⟩ := k2; exact DataW.trod_lt m _ _ _ hm
  have X2 : ∃ l : List Dn, l.length = len2 ∧ len2 ≤ cap2 ∧ cap2 ≤ maxLen ∧ CellsIn W 0 W.heap.size 10 A2 len2 (l.flatMap encDn) ∧ ∀ x ∈ l, x.Ok := by
    obtain ⟨fuel, hf⟩ := h2
    obtain ⟨A, len, cap, l, hcs, hlc, hm, hll, hc⟩ := rd_cells (α := { x : Dn // x.Ok }) (fun a => encDn a.1) (size := 10) Try.underlying24 (by kernel_rfl) (by omega) (fun n cs y hcl hy => by
      obtain ⟨m, hm⟩ := rd_fields (n := n) (fs := _) Try.underlying41 hy
      match cs, hcl with
      | [c0, c1, c2, c3, c4, c5, c6, c7, c8, c9], _ =>
        obtain ⟨y0, hy0⟩ := hm 0 _ 25 0 1 rfl rfl rfl (by kernel_rfl)
        obtain ⟨z0, e0, w0⟩ := rd_int Try.underlying25 hy0
        obtain ⟨y1, hy1⟩ := hm 1 _ 39 1 2 rfl rfl rfl (by kernel_rfl)
        obtain ⟨m3, hm3⟩ := rd_fields (fs := _) Try.underlying39 hy1
        obtain ⟨x1, hx1⟩ := hm3 0 _ 3 0 1 rfl rfl rfl (by kernel_rfl)
        obtain ⟨x2, hx2⟩ := hm3 1 _ 25 1 1 rfl rfl rfl (by kernel_rfl)
        obtain ⟨z1, e1, w1⟩ := rd_int Try.underlying3 hx1
        obtain ⟨z2, e2, w2⟩ := rd_int Try.underlying25 hx2
        obtain ⟨y3, hy3⟩ := hm 2 _ 3 3 1 rfl rfl rfl (by kernel_rfl)
        obtain ⟨z3, e3, w3⟩ := rd_int Try.underlying3 hy3
        obtain ⟨y4, hy4⟩ := hm 3 _ 3 4 1 rfl rfl rfl (by kernel_rfl)
        obtain ⟨z4, e4, w4⟩ := rd_int Try.underlying3 hy4
        obtain ⟨y5, hy5⟩ := hm 4 _ 3 5 1 rfl rfl rfl (by kernel_rfl)
        obtain ⟨z5, e5, w5⟩ := rd_int Try.underlying3 hy5
        obtain ⟨y6, hy6⟩ := hm 5 _ 3 6 1 rfl rfl rfl (by kernel_rfl)
        obtain ⟨z6, e6, w6⟩ := rd_int Try.underlying3 hy6
        obtain ⟨y7, hy7⟩ := hm 6 _ 3 7 1 rfl rfl rfl (by kernel_rfl)
        obtain ⟨z7, e7, w7⟩ := rd_int Try.underlying3 hy7
        obtain ⟨y8, hy8⟩ := hm 7 _ 3 8 1 rfl rfl rfl (by kernel_rfl)
        obtain ⟨z8, e8, w8⟩ := rd_int Try.underlying3 hy8
        obtain ⟨y9, hy9⟩ := hm 8 _ 4 9 1 rfl rfl rfl (by kernel_rfl)
        obtain ⟨z9, e9, -⟩ := DataW.trod_bool Try.underlying4 hy9
        have f0 : c0 = _ := (List.cons.inj e0).1
        have f1 : c1 = _ := (List.cons.inj e1).1
        have f2 : c2 = _ := (List.cons.inj e2).1
        have f3 : c3 = _ := (List.cons.inj e3).1
        have f4 : c4 = _ := (List.cons.inj e4).1
        have f5 : c5 = _ := (List.cons.inj e5).1
        have f6 : c6 = _ := (List.cons.inj e6).1
        have f7 : c7 = _ := (List.cons.inj e7).1
        have f8 : c8 = _ := (List.cons.inj e8).1
        have f9 : c9 = _ := (List.cons.inj e9).1
        exact ⟨⟨⟨z0, z1, z2, z3, z4, z5, z6, z7, z8, z9⟩, ⟨bounds_u32 w0, bounds_i64 w1, bounds_u32 w2, bounds_i64 w3, bounds_i64 w4, bounds_i64 w5, bounds_i64 w6, bounds_i64 w7, bounds_i64 w8⟩⟩, by rw [f0, f1, f2, f3, f4, f5, f6, f7, f8, f9]; rfl⟩) (fun _ => rfl) hf
    simp only [Value.cells, List.cons.injEq, and_true] at hcs
    obtain ⟨rfl, rfl, rfl⟩ : A2 = A ∧ len2 = len ∧ cap2 = cap := by simpa using hcs
    refine ⟨l.map (·.1), by rw [List.length_map]; exact hll, hlc, hm, ?_, fun x hx => ?_⟩
    · have e : (l.map (·.1)).flatMap encDn = l.flatMap fun a => encDn a.1 := by rw [List.flatMap_map]
      rw [e]
      exact CellsIn.of_cells0 hc
    · obtain ⟨a, _, rfl⟩ := List.mem_map.1 hx
      exact a.2
  obtain ⟨a3, rfl, rfl, rfl, w3⟩ := open_int Try.underlying25 (hval 3 25 v3 rfl rfl) h3
  obtain ⟨a4, rfl, rfl, rfl, w4⟩ := open_int Try.underlying3 (hval 4 3 v4 rfl rfl) h4
  obtain ⟨a5, rfl, rfl, rfl, w5⟩ := open_int Try.underlying3 (hval 5 3 v5 rfl rfl) h5
  clear hA0 hval0
  obtain ⟨l1, rfl, hlc1, hm1, hl1, hx1⟩ := X1
  obtain ⟨l2, rfl, hlc2, hm2, hl2, hx2⟩ := X2
  refine (makes_any A1 A2 cap1 cap2 l1 l2 a0 a3 a4 a5 W hl1 hl2 hx1 hx2 (bounds_u32 w3)).mono fun e W' ⟨he, bel⟩ => ?_
  subst he
  exact ⟨_, rfl, _, _, _, [], _, [], hW', trodAll_mk1 (shut_bool Try.underlying4 _), (trodAll_cons_mk (shut_int Try.underlying22 w0) (trodAll_cons_mk (Below.trod laidOut (by kernel_rfl) (of_decide_eq_true (by kernel_rfl)) k1 bel lt1) (trodAll_cons_mk (Below.trod laidOut (by kernel_rfl) (of_decide_eq_true (by kernel_rfl)) k2 bel lt2) (trodAll_cons_mk (shut_int Try.underlying25 w3) (trodAll_cons_mk (shut_int Try.underlying3 w4) (trodAll_cons_mk (shut_int Try.underlying3 w5) trodAll_mk0)))))), rfl, bel.frame _, fun h => by cases h⟩

theorem over : Rows.tableMakesRow.holds Try.pinned (OpenSpec.ofChange Rows.tableMakesSpec) :=
  OpenClaim.holds_of_wide 3 Try.f3 rfl rfl rfl rfl rfl rfl rfl ⟨rfl, rfl, rfl, rfl, rfl⟩ rfl rfl rfl rfl rfl (by kernel_rfl) Try.func3 (by kernel_rfl)
    (of_decide_eq_true (by kernel_rfl)) (by unfold Func.isWrapper; first | (rw [if_pos (by decide +kernel)]; kernel_rfl) | (rw [if_neg (by decide +kernel)]; exact ⟨rfl, rfl⟩))
    (fun os started H enc _ => lifted os started H enc)

theorem proved : Rows.TableMakesSaid := over
#print axioms proved
end Go.Proofs.Yteljkdihlklliaa.lawTableMakes
