/- QueueOwn of the package louverlaw03: for every input the call returns true, and its arguments read afterwards as they did before. No condition. -/
import Derived.Test.YtbgfoeaddnhnnaaQOwn
import Derived.Test.YtbgfoeaddnhnnaaOpen
namespace Go.Proofs.Ytbgfoeaddnhnnaa.lawQueueOwn
open Go.ChangeShapes Go.WideShapes Go.ChangeAt Go.RowKit Go.Deep
open Go.Proofs.Ytbgfoeaddnhnnaa

theorem own : ownKnob Try.prog.godebug = none := by kernel_rfl
theorem laidOut : laidOutB Try.prog = true := by kernel_rfl

set_option maxRecDepth 100000 in
theorem lifted (os : Os) (started : os.Started) (H : Type) (enc : TypeId × Value → H) :
    ReturnsInHanded {} Try.checked os 7 .any (Rows.queueOwnSpec.pre6 enc Try.prog Try.f7 Rows.queueOwnRow.domain false) (Rows.queueOwnSpec.post enc Try.prog Try.f7 false true false false) := by
  refine returnsInHanded_of_change (C := Try.checked) own started (by kernel_rfl) Try.func7
    (ChangeSpec.witness6 (enc := enc) (C := Try.checked) false ⟨#[], #[.slice none 0 0], []⟩ 8 (by kernel_rfl) (by kernel_rfl) (by kernel_rfl) (by kernel_rfl)) ?_
  intro W base args ds gs before hval0 hW hcnd _
  have hval : ∀ (j : Nat) t v, Try.f7.params[j]? = some t → args[j]? = some v → Value.okWide Try.prog W .any base t v := hval0
  have hW' := hW
  obtain ⟨p, q, hA0, hV, rfl, hfz, hnd⟩ := hW
  have hA : DataW.TrodAll enc Try.prog W 0 (fun _ => true) true Try.f7.params.toList args.toList ds p := hA0
  rw [Try.params7] at hA hval
  obtain ⟨v0, vs0, d0, ds0, p0, q0, hargs, rfl, rfl, h0, r0⟩ := trodAll_cons hA
  obtain ⟨rfl, rfl, rfl⟩ := trodAll_nil r0
  obtain rfl : args = #[v0] := by cases args; simp_all
  obtain ⟨rfl, rfl⟩ := trodVars_none hV
  obtain ⟨A0, len0, cap0, rfl⟩ := okWide_slice Try.underlying33 (hval 0 33 v0 rfl rfl)
  have k0 := h0
  have lt0 : ∀ x ∈ p0, x.block < W.heap.size := by obtain ⟨m, hm⟩ := k0; exact DataW.trod_lt m _ _ _ hm
  have X0 : ∃ l : List Int, len0 ≤ cap0 ∧ cap0 ≤ maxLen ∧ l.length = len0 ∧ Cells W W.heap.size 1 A0 len0 (l.map (Value.int .i64)) ∧ ∀ x ∈ l, (Lit.int .i64 x).wf = true := by
    obtain ⟨fuel, hf⟩ := h0
    obtain ⟨A, len, cap, l, hcs, hlc, hm, hll, hc⟩ := rd_cells (α := { x : Int // (Lit.int .i64 x).wf = true }) (fun a => [.int .i64 a.1]) (size := 1) Try.underlying33 (by kernel_rfl) (by omega) (fun n cs y hcl hy => by
      obtain ⟨z, e, wz⟩ := rd_int Try.underlying3 hy
      exact ⟨⟨z, wz⟩, e⟩) (fun _ => rfl) hf
    simp only [Value.cells, List.cons.injEq, and_true] at hcs
    obtain ⟨rfl, rfl, rfl⟩ : A0 = A ∧ len0 = len ∧ cap0 = cap := by simpa using hcs
    refine ⟨l.map (·.1), hlc, hm, by rw [List.length_map]; exact hll, ?_, fun x hx => ?_⟩
    · have e : (l.map (·.1)).map (Value.int .i64) = l.flatMap fun a => [.int .i64 a.1] := by
        rw [flat_one (fun a : { x : Int // (Lit.int .i64 x).wf = true } => Value.int .i64 a.1), List.map_map]; rfl
      rw [e]; exact hc
    · obtain ⟨a, _, rfl⟩ := List.mem_map.1 hx
      exact a.2
  clear hA0 hval0
  obtain ⟨l, hlc0, hm0, hll0, hl0, _⟩ := X0
  unfold maxLen at hm0
  refine (own_any A0 len0 cap0 l W (by omega) hll0 hl0).mono fun e W' ⟨he, bel⟩ => ?_
  subst he
  exact ⟨_, rfl, _, _, _, [], _, [], hW', trodAll_mk1 (shut_bool Try.underlying4 _), (trodAll_cons_mk (Below.trod laidOut (by kernel_rfl) (of_decide_eq_true (by kernel_rfl)) k0 bel lt0) trodAll_mk0), rfl, bel.frame _, fun h => by cases h⟩

theorem over : Rows.queueOwnRow.holds Try.pinned (OpenSpec.ofChange Rows.queueOwnSpec) :=
  OpenClaim.holds_of_wide 7 Try.f7 rfl rfl rfl rfl rfl rfl rfl ⟨rfl, rfl, rfl, rfl, rfl⟩ rfl rfl rfl rfl rfl (by kernel_rfl) Try.func7 (by kernel_rfl)
    (of_decide_eq_true (by kernel_rfl)) (by unfold Func.isWrapper; first | (rw [if_pos (by decide +kernel)]; kernel_rfl) | (rw [if_neg (by decide +kernel)]; exact ⟨rfl, rfl⟩))
    (fun os started H enc _ => lifted os started H enc)

theorem proved : Rows.QueueOwnSaid := over
#print axioms proved
end Go.Proofs.Ytbgfoeaddnhnnaa.lawQueueOwn
