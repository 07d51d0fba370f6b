/- RtcpPuts of the package louverlaw09: for every input the call returns true, and its arguments read afterwards as they did before. No condition. -/
import Derived.Test.YtgkejdjdccgjbaaB8

namespace Go.Proofs.Ytgkejdjdccgjbaa.lawRtcpPuts
open Go.ChangeShapes Go.WideShapes Go.ChangeAt Go.RowKit Go.Deep
open Go.Proofs.Ytgkejdjdccgjbaa

theorem own : ownKnob Try.prog.godebug = none := by kernel_rfl
theorem laidOut : laidOutB Try.prog = true := by kernel_rfl

set_option maxRecDepth 100000 in
theorem lifted (os : Os) (started : os.Started) (H : Type) (enc : TypeId × Value → H) :
    ReturnsInHanded {} Try.checked os 3 .any (Rows.rtcpPutsSpec.pre6 enc Try.prog Try.f3 Rows.rtcpPutsRow.domain false) (Rows.rtcpPutsSpec.post enc Try.prog Try.f3 false true false false) := by
  refine returnsInHanded_of_change (C := Try.checked) own started (by kernel_rfl) Try.func3
    (ChangeSpec.witness6 (enc := enc) (C := Try.checked) false ⟨#[], #[.slice none 0 0], []⟩ 8 (by kernel_rfl) (by kernel_rfl) (by kernel_rfl) (by kernel_rfl)) ?_
  intro W base args ds gs before hval0 hW hcnd _
  have hval : ∀ (j : Nat) t v, Try.f3.params[j]? = some t → args[j]? = some v → Value.okWide Try.prog W .any base t v := hval0
  have hW' := hW
  obtain ⟨p, q, hA0, hV, rfl, hfz, hnd⟩ := hW
  have hA : DataW.TrodAll enc Try.prog W 0 (fun _ => true) true Try.f3.params.toList args.toList ds p := hA0
  rw [Try.params3] at hA hval
  obtain ⟨v0, vs0, d0, ds0, p0, q0, hargs, rfl, rfl, h0, r0⟩ := trodAll_cons hA
  obtain ⟨rfl, rfl, rfl⟩ := trodAll_nil r0
  obtain rfl : args = #[v0] := by cases args; simp_all
  obtain ⟨rfl, rfl⟩ := trodVars_none hV
  obtain ⟨A0, len0, cap0, rfl⟩ := okWide_slice Try.underlying22 (hval 0 22 v0 rfl rfl)
  have k0 := h0
  have lt0 : ∀ x ∈ p0, x.block < W.heap.size := by obtain ⟨m, hm⟩ := k0; exact DataW.trod_lt m _ _ _ hm
  have X0 : ∃ l : List (Mg × Hd), l.length = len0 ∧ len0 ≤ cap0 ∧ cap0 ≤ maxLen ∧ CellsIn W 0 W.heap.size 12 A0 len0 (l.flatMap encM) ∧ ∀ x ∈ l, MgIn W 0 x.1 x.2 ∧ x.1.Num := by
    obtain ⟨fuel, hf⟩ := h0
    obtain ⟨A, c, l, hcs, hlc, hm, hc, hx⟩ := open_msgs hf
    simp only [Value.cells, List.cons.injEq, and_true] at hcs
    obtain ⟨rfl, rfl, rfl⟩ : A0 = A ∧ len0 = l.length ∧ cap0 = c := by simpa using hcs
    exact ⟨l, rfl, hlc, hm, hc, hx⟩
  clear hA0 hval0
  obtain ⟨l, rfl, hlc0, hm0, hl0, hx0⟩ := X0
  unfold maxLen at hm0
  refine (puts_any A0 cap0 l W hlc0 (by omega) hl0 hx0).mono fun e W' ⟨he, bel⟩ => ?_
  subst he
  exact ⟨_, rfl, _, _, _, [], _, [], hW', trodAll_mk1 (shut_bool Try.underlying4 _), (trodAll_cons_mk (Below.trod laidOut (by kernel_rfl) (of_decide_eq_true (by kernel_rfl)) k0 bel lt0) trodAll_mk0), rfl, bel.frame _, fun h => by cases h⟩

theorem over : Rows.rtcpPutsRow.holds Try.pinned (OpenSpec.ofChange Rows.rtcpPutsSpec) :=
  OpenClaim.holds_of_wide 3 Try.f3 rfl rfl rfl rfl rfl rfl rfl ⟨rfl, rfl, rfl, rfl, rfl⟩ rfl rfl rfl rfl rfl (by kernel_rfl) Try.func3 (by kernel_rfl)
    (of_decide_eq_true (by kernel_rfl)) (by unfold Func.isWrapper; first | (rw [if_pos (by decide +kernel)]; kernel_rfl) | (rw [if_neg (by decide +kernel)]; exact ⟨rfl, rfl⟩))
    (fun os started H enc _ => lifted os started H enc)

theorem proved : Rows.RtcpPutsSaid := over
#print axioms proved
end Go.Proofs.Ytgkejdjdccgjbaa.lawRtcpPuts
