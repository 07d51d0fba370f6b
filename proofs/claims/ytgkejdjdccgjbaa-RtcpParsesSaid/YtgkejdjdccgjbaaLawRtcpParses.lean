/- RtcpParses of the package louverlaw09: for every input the call returns true, and its arguments read afterwards as they did before. No condition. -/
import Derived.Test.YtgkejdjdccgjbaaB10

namespace Go.Proofs.Ytgkejdjdccgjbaa.lawRtcpParses
open Go.ChangeShapes Go.WideShapes Go.ChangeAt Go.RowKit Go.Deep
open Go.Proofs.Ytgkejdjdccgjbaa

theorem own : ownKnob Try.prog.godebug = none := by kernel_rfl
theorem laidOut : laidOutB Try.prog = true := by kernel_rfl

set_option maxRecDepth 100000 in
theorem lifted (os : Os) (started : os.Started) (H : Type) (enc : TypeId × Value → H) :
    ReturnsInHanded {} Try.checked os 4 .any (Rows.rtcpParsesSpec.pre6 enc Try.prog Try.f4 Rows.rtcpParsesRow.domain false) (Rows.rtcpParsesSpec.post enc Try.prog Try.f4 false true false false) := by
  refine returnsInHanded_of_change (C := Try.checked) own started (by kernel_rfl) Try.func4
    (ChangeSpec.witness6 (enc := enc) (C := Try.checked) false ⟨#[], #[.slice none 0 0, .slice none 0 0, .slice none 0 0, .slice none 0 0], []⟩ 8 (by kernel_rfl) (by kernel_rfl) (by kernel_rfl) (by kernel_rfl)) ?_
  intro W base args ds gs before hval0 hW hcnd _
  have hval : ∀ (j : Nat) t v, Try.f4.params[j]? = some t → args[j]? = some v → Value.okWide Try.prog W .any base t v := hval0
  have hW' := hW
  obtain ⟨p, q, hA0, hV, rfl, hfz, hnd⟩ := hW
  have hA : DataW.TrodAll enc Try.prog W 0 (fun _ => true) true Try.f4.params.toList args.toList ds p := hA0
  rw [Try.params4] at hA hval
  obtain ⟨v0, vs0, d0, ds0, p0, q0, hargs, rfl, rfl, h0, r0⟩ := trodAll_cons hA
  obtain ⟨v1, vs1, d1, ds1, p1, q1, rfl, rfl, rfl, h1, r1⟩ := trodAll_cons r0
  obtain ⟨v2, vs2, d2, ds2, p2, q2, rfl, rfl, rfl, h2, r2⟩ := trodAll_cons r1
  obtain ⟨v3, vs3, d3, ds3, p3, q3, rfl, rfl, rfl, h3, r3⟩ := trodAll_cons r2
  obtain ⟨rfl, rfl, rfl⟩ := trodAll_nil r3
  obtain rfl : args = #[v0, v1, v2, v3] := by cases args; simp_all
  obtain ⟨rfl, rfl⟩ := trodVars_none hV
  obtain ⟨A0, len0, cap0, rfl⟩ := okWide_slice Try.underlying22 (hval 0 22 v0 rfl rfl)
  have k0 := h0
  have lt0 : ∀ x ∈ p0, x.block < W.heap.size := by obtain ⟨m, hm⟩ := k0; exact DataW.trod_lt m _ _ _ hm
  have X0 : ∃ l : List (Mg × Hd), l.length = len0 ∧ len0 ≤ cap0 ∧ cap0 ≤ maxLen ∧ CellsIn W 0 W.heap.size 12 A0 len0 (l.flatMap encM) ∧ ∀ x ∈ l, MgIn W 0 x.1 x.2 ∧ x.1.Num := by
    obtain ⟨fuel, hf⟩ := h0
    obtain ⟨A, c, l, hcs, hlc, hm, hc, hx⟩ := open_msgs hf
    simp only [Value.cells, List.cons.injEq, and_true] at hcs
    obtain ⟨rfl, rfl, rfl⟩ : A0 = A ∧ len0 = l.length ∧ cap0 = c := by simpa using hcs
    exact ⟨l, rfl, hlc, hm, hc, hx⟩
  obtain ⟨A1, len1, cap1, rfl⟩ := okWide_slice Try.underlying33 (hval 1 33 v1 rfl rfl)
  have k1 := h1
  have lt1 : ∀ x ∈ p1, x.block < W.heap.size := by obtain ⟨m, hm⟩ := k1; exact DataW.trod_lt m _ _ _ hm
  have X1 : ∃ l : List Int, len1 ≤ cap1 ∧ cap1 ≤ maxLen ∧ l.length = len1 ∧ Cells W W.heap.size 1 A1 len1 (l.map (Value.int .u16)) ∧ ∀ x ∈ l, (Lit.int .u16 x).wf = true := by
    obtain ⟨fuel, hf⟩ := h1
    obtain ⟨A, len, cap, l, hcs, hlc, hm, hll, hc⟩ := rd_cells (α := { x : Int // (Lit.int .u16 x).wf = true }) (fun a => [.int .u16 a.1]) (size := 1) Try.underlying33 (by kernel_rfl) (by omega) (fun n cs y hcl hy => by
      obtain ⟨z, e, wz⟩ := rd_int Try.underlying34 hy
      exact ⟨⟨z, wz⟩, e⟩) (fun _ => rfl) hf
    simp only [Value.cells, List.cons.injEq, and_true] at hcs
    obtain ⟨rfl, rfl, rfl⟩ : A1 = A ∧ len1 = len ∧ cap1 = cap := by simpa using hcs
    refine ⟨l.map (·.1), hlc, hm, by rw [List.length_map]; exact hll, ?_, fun x hx => ?_⟩
    · have e : (l.map (·.1)).map (Value.int .u16) = l.flatMap fun a => [.int .u16 a.1] := by
        rw [flat_one (fun a : { x : Int // (Lit.int .u16 x).wf = true } => Value.int .u16 a.1), List.map_map]; rfl
      rw [e]; exact hc
    · obtain ⟨a, _, rfl⟩ := List.mem_map.1 hx
      exact a.2
  obtain ⟨A2, len2, cap2, rfl⟩ := okWide_slice Try.underlying25 (hval 2 25 v2 rfl rfl)
  have k2 := h2
  have lt2 : ∀ x ∈ p2, x.block < W.heap.size := by obtain ⟨m, hm⟩ := k2; exact DataW.trod_lt m _ _ _ hm
  have X2 : ∃ l : List Int, len2 ≤ cap2 ∧ cap2 ≤ maxLen ∧ l.length = len2 ∧ Cells W W.heap.size 1 A2 len2 (l.map (Value.int .u8)) ∧ ∀ x ∈ l, (Lit.int .u8 x).wf = true := by
    obtain ⟨fuel, hf⟩ := h2
    obtain ⟨A, len, cap, l, hcs, hlc, hm, hll, hc⟩ := rd_cells (α := { x : Int // (Lit.int .u8 x).wf = true }) (fun a => [.int .u8 a.1]) (size := 1) Try.underlying25 (by kernel_rfl) (by omega) (fun n cs y hcl hy => by
      obtain ⟨z, e, wz⟩ := rd_int Try.underlying5 hy
      exact ⟨⟨z, wz⟩, e⟩) (fun _ => rfl) hf
    simp only [Value.cells, List.cons.injEq, and_true] at hcs
    obtain ⟨rfl, rfl, rfl⟩ : A2 = A ∧ len2 = len ∧ cap2 = cap := by simpa using hcs
    refine ⟨l.map (·.1), hlc, hm, by rw [List.length_map]; exact hll, ?_, fun x hx => ?_⟩
    · have e : (l.map (·.1)).map (Value.int .u8) = l.flatMap fun a => [.int .u8 a.1] := by
        rw [flat_one (fun a : { x : Int // (Lit.int .u8 x).wf = true } => Value.int .u8 a.1), List.map_map]; rfl
      rw [e]; exact hc
    · obtain ⟨a, _, rfl⟩ := List.mem_map.1 hx
      exact a.2
  obtain ⟨A3, len3, cap3, rfl⟩ := okWide_slice Try.underlying25 (hval 3 25 v3 rfl rfl)
  have k3 := h3
  have lt3 : ∀ x ∈ p3, x.block < W.heap.size := by obtain ⟨m, hm⟩ := k3; exact DataW.trod_lt m _ _ _ hm
  have X3 : ∃ l : List Int, len3 ≤ cap3 ∧ cap3 ≤ maxLen ∧ l.length = len3 ∧ Cells W W.heap.size 1 A3 len3 (l.map (Value.int .u8)) ∧ ∀ x ∈ l, (Lit.int .u8 x).wf = true := by
    obtain ⟨fuel, hf⟩ := h3
    obtain ⟨A, len, cap, l, hcs, hlc, hm, hll, hc⟩ := rd_cells (α := { x : Int // (Lit.int .u8 x).wf = true }) (fun a => [.int .u8 a.1]) (size := 1) Try.underlying25 (by kernel_rfl) (by omega) (fun n cs y hcl hy => by
      obtain ⟨z, e, wz⟩ := rd_int Try.underlying5 hy
      exact ⟨⟨z, wz⟩, e⟩) (fun _ => rfl) hf
    simp only [Value.cells, List.cons.injEq, and_true] at hcs
    obtain ⟨rfl, rfl, rfl⟩ : A3 = A ∧ len3 = len ∧ cap3 = cap := by simpa using hcs
    refine ⟨l.map (·.1), hlc, hm, by rw [List.length_map]; exact hll, ?_, fun x hx => ?_⟩
    · have e : (l.map (·.1)).map (Value.int .u8) = l.flatMap fun a => [.int .u8 a.1] := by
        rw [flat_one (fun a : { x : Int // (Lit.int .u8 x).wf = true } => Value.int .u8 a.1), List.map_map]; rfl
      rw [e]; exact hc
    · obtain ⟨a, _, rfl⟩ := List.mem_map.1 hx
      exact a.2
  clear hA0 hval0
  obtain ⟨l, rfl, hlc0, hm0, hl0, hx0⟩ := X0
  obtain ⟨l1, hlc1, hm1, hll1, hl1, hwf1⟩ := X1
  have hn1 := okWide_none Try.underlying33 (hval 1 33 (.slice A1 len1 cap1) rfl rfl)
  obtain ⟨l2, hlc2, hm2, hll2, hl2, hwf2⟩ := X2
  have hn2 := okWide_none Try.underlying25 (hval 2 25 (.slice A2 len2 cap2) rfl rfl)
  obtain ⟨l3, hlc3, hm3, hll3, hl3, hwf3⟩ := X3
  have hn3 := okWide_none Try.underlying25 (hval 3 25 (.slice A3 len3 cap3) rfl rfl)
  unfold maxLen at hm0 hm1 hm2 hm3
  have hr1 := RowIn.of_cells (c := cap1) hl1 hll1 hn1 hlc1 (by omega)
  have hr2 := RowIn.of_cells (c := cap2) hl2 hll2 hn2 hlc2 (by omega)
  have hr3 := RowIn.of_cells (c := cap3) hl3 hll3 hn3 hlc3 (by omega)
  have hca := parses_any A0 cap0 l ⟨A1, cap1, l1⟩ ⟨A2, cap2, l2⟩ ⟨A3, cap3, l3⟩ W hlc0 (by omega) hl0 hx0 hr1 hr2 hr3 (fun x hx => (by have := bounds_u16 (hwf1 x hx); omega)) (fun x hx => (by have := bounds_u8 (hwf2 x hx); omega)) (fun x hx => (by have := bounds_u8 (hwf3 x hx); omega))
  unfold encR at hca
  dsimp only at hca
  rw [hll1, hll2, hll3] at hca
  refine hca.mono fun e W' ⟨he, bel⟩ => ?_
  subst he
  exact ⟨_, rfl, _, _, _, [], _, [], hW', trodAll_mk1 (shut_bool Try.underlying4 _), (trodAll_cons_mk (Below.trod laidOut (by kernel_rfl) (of_decide_eq_true (by kernel_rfl)) k0 bel lt0) (trodAll_cons_mk (Below.trod laidOut (by kernel_rfl) (of_decide_eq_true (by kernel_rfl)) k1 bel lt1) (trodAll_cons_mk (Below.trod laidOut (by kernel_rfl) (of_decide_eq_true (by kernel_rfl)) k2 bel lt2) (trodAll_cons_mk (Below.trod laidOut (by kernel_rfl) (of_decide_eq_true (by kernel_rfl)) k3 bel lt3) trodAll_mk0)))), rfl, bel.frame _, fun h => by cases h⟩

theorem over : Rows.rtcpParsesRow.holds Try.pinned (OpenSpec.ofChange Rows.rtcpParsesSpec) :=
  OpenClaim.holds_of_wide 4 Try.f4 rfl rfl rfl rfl rfl rfl rfl ⟨rfl, rfl, rfl, rfl, rfl⟩ rfl rfl rfl rfl rfl (by kernel_rfl) Try.func4 (by kernel_rfl)
    (of_decide_eq_true (by kernel_rfl)) (by unfold Func.isWrapper; first | (rw [if_pos (by decide +kernel)]; kernel_rfl) | (rw [if_neg (by decide +kernel)]; exact ⟨rfl, rfl⟩))
    (fun os started H enc _ => lifted os started H enc)

theorem proved : Rows.RtcpParsesSaid := over
#print axioms proved
end Go.Proofs.Ytgkejdjdccgjbaa.lawRtcpParses
