/- QueueBounds of the package louverlaw03: for every input the call returns true, and its arguments read afterwards as they did before. No condition. -/
import Derived.Test.YtbgfoeaddnhnnaaQBounds
import Derived.Test.YtbgfoeaddnhnnaaOpen
namespace Go.Proofs.Ytbgfoeaddnhnnaa.lawQueueBounds
open Go.ChangeShapes Go.WideShapes Go.ChangeAt Go.RowKit Go.Deep
open Go.Proofs.Ytbgfoeaddnhnnaa

theorem own : ownKnob Try.prog.godebug = none := by kernel_rfl
theorem laidOut : laidOutB Try.prog = true := by kernel_rfl

set_option maxRecDepth 100000 in
theorem lifted (os : Os) (started : os.Started) (H : Type) (enc : TypeId × Value → H) :
    ReturnsInHanded {} Try.checked os 5 .any (Rows.queueBoundsSpec.pre6 enc Try.prog Try.f5 Rows.queueBoundsRow.domain false) (Rows.queueBoundsSpec.post enc Try.prog Try.f5 false true false false) := by
  refine returnsInHanded_of_change (C := Try.checked) own started (by kernel_rfl) Try.func5
    (ChangeSpec.witness6 (enc := enc) (C := Try.checked) false ⟨#[], #[.int .i64 0, .slice none 0 0], []⟩ 8 (by kernel_rfl) (by kernel_rfl) (by kernel_rfl) (by kernel_rfl)) ?_
  intro W base args ds gs before hval0 hW hcnd _
  have hval : ∀ (j : Nat) t v, Try.f5.params[j]? = some t → args[j]? = some v → Value.okWide Try.prog W .any base t v := hval0
  have hW' := hW
  obtain ⟨p, q, hA0, hV, rfl, hfz, hnd⟩ := hW
  have hA : DataW.TrodAll enc Try.prog W 0 (fun _ => true) true Try.f5.params.toList args.toList ds p := hA0
  rw [Try.params5] at hA hval
  obtain ⟨v0, vs0, d0, ds0, p0, q0, hargs, rfl, rfl, h0, r0⟩ := trodAll_cons hA
  obtain ⟨v1, vs1, d1, ds1, p1, q1, rfl, rfl, rfl, h1, r1⟩ := trodAll_cons r0
  obtain ⟨rfl, rfl, rfl⟩ := trodAll_nil r1
  obtain rfl : args = #[v0, v1] := by cases args; simp_all
  obtain ⟨rfl, rfl⟩ := trodVars_none hV
  obtain ⟨a0, rfl, rfl, rfl, w0⟩ := open_int Try.underlying3 (hval 0 3 v0 rfl rfl) h0
  obtain ⟨A1, len1, cap1, rfl⟩ := okWide_slice Try.underlying33 (hval 1 33 v1 rfl rfl)
  have k1 := h1
  have lt1 : ∀ x ∈ p1, x.block < W.heap.size := by obtain ⟨m, hm⟩ := k1; exact DataW.trod_lt m _ _ _ hm
  have X1 : ∃ l : List Int, len1 ≤ cap1 ∧ cap1 ≤ maxLen ∧ l.length = len1 ∧ Cells W W.heap.size 1 A1 len1 (l.map (Value.int .i64)) ∧ ∀ x ∈ l, (Lit.int .i64 x).wf = true := by
    obtain ⟨fuel, hf⟩ := h1
    obtain ⟨A, len, cap, l, hcs, hlc, hm, hll, hc⟩ := rd_cells (α := { x : Int // (Lit.int .i64 x).wf = true }) (fun a => [.int .i64 a.1]) (size := 1) Try.underlying33 (by kernel_rfl) (by omega) (fun n cs y hcl hy => by
      obtain ⟨z, e, wz⟩ := rd_int Try.underlying3 hy
      exact ⟨⟨z, wz⟩, e⟩) (fun _ => rfl) hf
    simp only [Value.cells, List.cons.injEq, and_true] at hcs
    obtain ⟨rfl, rfl, rfl⟩ : A1 = A ∧ len1 = len ∧ cap1 = cap := by simpa using hcs
    refine ⟨l.map (·.1), hlc, hm, by rw [List.length_map]; exact hll, ?_, fun x hx => ?_⟩
    · have e : (l.map (·.1)).map (Value.int .i64) = l.flatMap fun a => [.int .i64 a.1] := by
        rw [flat_one (fun a : { x : Int // (Lit.int .i64 x).wf = true } => Value.int .i64 a.1), List.map_map]; rfl
      rw [e]; exact hc
    · obtain ⟨a, _, rfl⟩ := List.mem_map.1 hx
      exact a.2
  clear hA0 hval0
  obtain ⟨l, hlc1, hm1, hll1, hl1, _⟩ := X1
  unfold maxLen at hm1
  refine (bounds_any a0 A1 len1 cap1 l W (by omega) hll1 hl1).mono fun e W' ⟨he, bel⟩ => ?_
  subst he
  exact ⟨_, rfl, _, _, _, [], _, [], hW', trodAll_mk1 (shut_bool Try.underlying4 _), (trodAll_cons_mk (shut_int Try.underlying3 w0) (trodAll_cons_mk (Below.trod laidOut (by kernel_rfl) (of_decide_eq_true (by kernel_rfl)) k1 bel lt1) trodAll_mk0)), rfl, bel.frame _, fun h => by cases h⟩

theorem over : Rows.queueBoundsRow.holds Try.pinned (OpenSpec.ofChange Rows.queueBoundsSpec) :=
  OpenClaim.holds_of_wide 5 Try.f5 rfl rfl rfl rfl rfl rfl rfl ⟨rfl, rfl, rfl, rfl, rfl⟩ rfl rfl rfl rfl rfl (by kernel_rfl) Try.func5 (by kernel_rfl)
    (of_decide_eq_true (by kernel_rfl)) (by unfold Func.isWrapper; first | (rw [if_pos (by decide +kernel)]; kernel_rfl) | (rw [if_neg (by decide +kernel)]; exact ⟨rfl, rfl⟩))
    (fun os started H enc _ => lifted os started H enc)

theorem proved : Rows.QueueBoundsSaid := over
#print axioms proved
end Go.Proofs.Ytbgfoeaddnhnnaa.lawQueueBounds
