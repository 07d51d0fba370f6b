/- RtcpOthers of the package louverlaw09: for every input the call returns true, and its arguments read afterwards as they did before. No condition. -/
import Derived.Test.YtgkejdjdccgjbaaROthers
import Derived.Test.YtgkejdjdccgjbaaOpen
namespace Go.Proofs.Ytgkejdjdccgjbaa.lawRtcpOthers
open Go.ChangeShapes Go.WideShapes Go.ChangeAt Go.RowKit Go.Deep
open Go.Proofs.Ytgkejdjdccgjbaa

theorem own : ownKnob Try.prog.godebug = none := by kernel_rfl
theorem laidOut : laidOutB Try.prog = true := by kernel_rfl

set_option maxRecDepth 100000 in
theorem lifted (os : Os) (started : os.Started) (H : Type) (enc : TypeId × Value → H) :
    ReturnsInHanded {} Try.checked os 8 .any (Rows.rtcpOthersSpec.pre6 enc Try.prog Try.f8 Rows.rtcpOthersRow.domain false) (Rows.rtcpOthersSpec.post enc Try.prog Try.f8 false true false false) := by
  refine returnsInHanded_of_change (C := Try.checked) own started (by kernel_rfl) Try.func8
    (ChangeSpec.witness6 (enc := enc) (C := Try.checked) false ⟨#[], #[.int .u8 0, .int .u8 0, .slice none 0 0], []⟩ 8 (by kernel_rfl) (by kernel_rfl) (by kernel_rfl) (by kernel_rfl)) ?_
  intro W base args ds gs before hval0 hW hcnd _
  have hval : ∀ (j : Nat) t v, Try.f8.params[j]? = some t → args[j]? = some v → Value.okWide Try.prog W .any base t v := hval0
  have hW' := hW
  obtain ⟨p, q, hA0, hV, rfl, hfz, hnd⟩ := hW
  have hA : DataW.TrodAll enc Try.prog W 0 (fun _ => true) true Try.f8.params.toList args.toList ds p := hA0
  rw [Try.params8] at hA hval
  obtain ⟨v0, vs0, d0, ds0, p0, q0, hargs, rfl, rfl, h0, r0⟩ := trodAll_cons hA
  obtain ⟨v1, vs1, d1, ds1, p1, q1, rfl, rfl, rfl, h1, r1⟩ := trodAll_cons r0
  obtain ⟨v2, vs2, d2, ds2, p2, q2, rfl, rfl, rfl, h2, r2⟩ := trodAll_cons r1
  obtain ⟨rfl, rfl, rfl⟩ := trodAll_nil r2
  obtain rfl : args = #[v0, v1, v2] := by cases args; simp_all
  obtain ⟨rfl, rfl⟩ := trodVars_none hV
  obtain ⟨a0, rfl, rfl, rfl, w0⟩ := open_int Try.underlying5 (hval 0 5 v0 rfl rfl) h0
  obtain ⟨a1, rfl, rfl, rfl, w1⟩ := open_int Try.underlying5 (hval 1 5 v1 rfl rfl) h1
  obtain ⟨A2, len2, cap2, rfl⟩ := okWide_slice Try.underlying25 (hval 2 25 v2 rfl rfl)
  have k2 := h2
  have lt2 : ∀ x ∈ p2, x.block < W.heap.size := by obtain ⟨m, hm⟩ := k2; exact DataW.trod_lt m _ _ _ hm
  have X2 : ∃ l : List Int, len2 ≤ cap2 ∧ cap2 ≤ maxLen ∧ l.length = len2 ∧ Cells W W.heap.size 1 A2 len2 (l.map (Value.int .u8)) ∧ ∀ x ∈ l, (Lit.int .u8 x).wf = true := by
    obtain ⟨fuel, hf⟩ := h2
    obtain ⟨A, len, cap, l, hcs, hlc, hm, hll, hc⟩ := rd_cells (α := { x : Int // (Lit.int .u8 x).wf = true }) (fun a => [.int .u8 a.1]) (size := 1) Try.underlying25 (by kernel_rfl) (by omega) (fun n cs y hcl hy => by
      obtain ⟨z, e, wz⟩ := rd_int Try.underlying5 hy
      exact ⟨⟨z, wz⟩, e⟩) (fun _ => rfl) hf
    simp only [Value.cells, List.cons.injEq, and_true] at hcs
    obtain ⟨rfl, rfl, rfl⟩ : A2 = A ∧ len2 = len ∧ cap2 = cap := by simpa using hcs
    refine ⟨l.map (·.1), hlc, hm, by rw [List.length_map]; exact hll, ?_, fun x hx => ?_⟩
    · have e : (l.map (·.1)).map (Value.int .u8) = l.flatMap fun a => [.int .u8 a.1] := by
        rw [flat_one (fun a : { x : Int // (Lit.int .u8 x).wf = true } => Value.int .u8 a.1), List.map_map]; rfl
      rw [e]; exact hc
    · obtain ⟨a, _, rfl⟩ := List.mem_map.1 hx
      exact a.2
  clear hA0 hval0
  obtain ⟨l, hlc2, hm2, hll2, hl2, hwf2⟩ := X2
  have hb0 := bounds_u8 w0
  have hb1 := bounds_u8 w1
  have hn2 := okWide_none Try.underlying25 (hval 2 25 (.slice A2 len2 cap2) rfl rfl)
  unfold maxLen at hm2
  refine (others_any a0 a1 A2 len2 cap2 l W hb0.1 (by omega) hb1.1 (by omega) (by omega) (by omega) hn2 hll2 hl2 (fun x hx => (by have := bounds_u8 (hwf2 x hx); omega))).mono fun e W' ⟨he, bel⟩ => ?_
  subst he
  exact ⟨_, rfl, _, _, _, [], _, [], hW', trodAll_mk1 (shut_bool Try.underlying4 _), (trodAll_cons_mk (shut_int Try.underlying5 w0) (trodAll_cons_mk (shut_int Try.underlying5 w1) (trodAll_cons_mk (Below.trod laidOut (by kernel_rfl) (of_decide_eq_true (by kernel_rfl)) k2 bel lt2) trodAll_mk0))), rfl, bel.frame _, fun h => by cases h⟩

theorem over : Rows.rtcpOthersRow.holds Try.pinned (OpenSpec.ofChange Rows.rtcpOthersSpec) :=
  OpenClaim.holds_of_wide 8 Try.f8 rfl rfl rfl rfl rfl rfl rfl ⟨rfl, rfl, rfl, rfl, rfl⟩ rfl rfl rfl rfl rfl (by kernel_rfl) Try.func8 (by kernel_rfl)
    (of_decide_eq_true (by kernel_rfl)) (by unfold Func.isWrapper; first | (rw [if_pos (by decide +kernel)]; kernel_rfl) | (rw [if_neg (by decide +kernel)]; exact ⟨rfl, rfl⟩))
    (fun os started H enc _ => lifted os started H enc)

theorem proved : Rows.RtcpOthersSaid := over
#print axioms proved
end Go.Proofs.Ytgkejdjdccgjbaa.lawRtcpOthers
