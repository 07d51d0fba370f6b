/- QueuePlays of the package louverlaw03: for every input the call returns true, and its arguments read afterwards as they did before. No condition. -/
import Derived.Test.YtbgfoeaddnhnnaaQPlays
import Derived.Test.YtbgfoeaddnhnnaaOpen
namespace Go.Proofs.Ytbgfoeaddnhnnaa.lawQueuePlays
open Go.ChangeShapes Go.WideShapes Go.ChangeAt Go.RowKit Go.Deep
open Go.Proofs.Ytbgfoeaddnhnnaa

theorem own : ownKnob Try.prog.godebug = none := by kernel_rfl
theorem laidOut : laidOutB Try.prog = true := by kernel_rfl

set_option maxRecDepth 100000 in
theorem lifted (os : Os) (started : os.Started) (H : Type) (enc : TypeId × Value → H) :
    ReturnsInHanded {} Try.checked os 4 .any (Rows.queuePlaysSpec.pre6 enc Try.prog Try.f4 Rows.queuePlaysRow.domain false) (Rows.queuePlaysSpec.post enc Try.prog Try.f4 false true false false) := by
  refine returnsInHanded_of_change (C := Try.checked) own started (by kernel_rfl) Try.func4
    (ChangeSpec.witness6 (enc := enc) (C := Try.checked) false ⟨#[], #[.int .u8 0, .slice none 0 0], []⟩ 8 (by kernel_rfl) (by kernel_rfl) (by kernel_rfl) (by kernel_rfl)) ?_
  intro W base args ds gs before hval0 hW hcnd _
  have hval : ∀ (j : Nat) t v, Try.f4.params[j]? = some t → args[j]? = some v → Value.okWide Try.prog W .any base t v := hval0
  have hW' := hW
  obtain ⟨p, q, hA0, hV, rfl, hfz, hnd⟩ := hW
  have hA : DataW.TrodAll enc Try.prog W 0 (fun _ => true) true Try.f4.params.toList args.toList ds p := hA0
  rw [Try.params4] at hA hval
  obtain ⟨v0, vs0, d0, ds0, p0, q0, hargs, rfl, rfl, h0, r0⟩ := trodAll_cons hA
  obtain ⟨v1, vs1, d1, ds1, p1, q1, rfl, rfl, rfl, h1, r1⟩ := trodAll_cons r0
  obtain ⟨rfl, rfl, rfl⟩ := trodAll_nil r1
  obtain rfl : args = #[v0, v1] := by cases args; simp_all
  obtain ⟨rfl, rfl⟩ := trodVars_none hV
  obtain ⟨a0, rfl, rfl, rfl, w0⟩ := open_int Try.underlying5 (hval 0 5 v0 rfl rfl) h0
  obtain ⟨A1, len1, cap1, rfl⟩ := okWide_slice Try.underlying22 (hval 1 22 v1 rfl rfl)
  have k1 := h1
  have lt1 : ∀ x ∈ p1, x.block < W.heap.size := by obtain ⟨m, hm⟩ := k1; exact DataW.trod_lt m _ _ _ hm
  have X1 : ∃ l, len1 ≤ cap1 ∧ cap1 ≤ maxLen ∧ Cells W W.heap.size 2 A1 len1 (actCells l) := by
    obtain ⟨fuel, hf⟩ := h1
    obtain ⟨A, len, cap, l, hcs, hlc, hm, _, hc⟩ := rd_cells (fun a : Int × Int => [.int .i64 a.1, .int .i64 a.2]) (size := 2) Try.underlying22 (by kernel_rfl) (by omega) (fun n cs y hcl hy => by
      obtain ⟨m, hm⟩ := rd_struct (n := n) (fs := _) Try.underlying27 (by kernel_rfl) hy
      match cs, hcl with
      | [c0, c1], _ =>
        obtain ⟨y0, hy0⟩ := hm 0 _ c0 rfl rfl
        obtain ⟨y1, hy1⟩ := hm 1 _ c1 rfl rfl
        obtain ⟨z0, e0, _⟩ := rd_int Try.underlying3 hy0
        obtain ⟨z1, e1, _⟩ := rd_int Try.underlying3 hy1
        exact ⟨(z0, z1), by rw [List.cons.injEq] at e0 e1; rw [e0.1, e1.1]⟩) (fun _ => rfl) hf
    simp only [Value.cells, List.cons.injEq, and_true] at hcs
    obtain ⟨rfl, rfl, rfl⟩ : A1 = A ∧ len1 = len ∧ cap1 = cap := by simpa using hcs
    exact ⟨l, hlc, hm, hc⟩
  clear hA0 hval0
  obtain ⟨l, hlc1, hm1, hl1⟩ := X1
  have hb0 := bounds_u8 w0
  unfold maxLen at hm1
  refine (plays_any a0 A1 len1 cap1 l W (by omega) (by omega) (by omega) hl1).mono fun e W' ⟨he, bel⟩ => ?_
  subst he
  exact ⟨_, rfl, _, _, _, [], _, [], hW', trodAll_mk1 (shut_bool Try.underlying4 _), (trodAll_cons_mk (shut_int Try.underlying5 w0) (trodAll_cons_mk (Below.trod laidOut (by kernel_rfl) (of_decide_eq_true (by kernel_rfl)) k1 bel lt1) trodAll_mk0)), rfl, bel.frame _, fun h => by cases h⟩

theorem over : Rows.queuePlaysRow.holds Try.pinned (OpenSpec.ofChange Rows.queuePlaysSpec) :=
  OpenClaim.holds_of_wide 4 Try.f4 rfl rfl rfl rfl rfl rfl rfl ⟨rfl, rfl, rfl, rfl, rfl⟩ rfl rfl rfl rfl rfl (by kernel_rfl) Try.func4 (by kernel_rfl)
    (of_decide_eq_true (by kernel_rfl)) (by unfold Func.isWrapper; first | (rw [if_pos (by decide +kernel)]; kernel_rfl) | (rw [if_neg (by decide +kernel)]; exact ⟨rfl, rfl⟩))
    (fun os started H enc _ => lifted os started H enc)

theorem proved : Rows.QueuePlaysSaid := over
#print axioms proved
end Go.Proofs.Ytbgfoeaddnhnnaa.lawQueuePlays
