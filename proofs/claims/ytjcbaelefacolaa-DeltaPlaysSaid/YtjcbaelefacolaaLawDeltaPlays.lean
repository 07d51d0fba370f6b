/- DeltaPlays of the package louverlaw18: for every input the call returns true, and its arguments read afterwards as they did before. No condition. -/
import Derived.Test.YtjcbaelefacolaaB15
import Derived.Test.YtjcbaelefacolaaB14

namespace Go.Proofs.Ytjcbaelefacolaa.lawDeltaPlays
open Go.ChangeShapes Go.WideShapes Go.ChangeAt Go.RowKit Go.Deep
open Go.Proofs.Ytjcbaelefacolaa

theorem own : ownKnob Try.prog.godebug = none := by kernel_rfl
theorem laidOut : laidOutB Try.prog = true := by kernel_rfl

set_option maxRecDepth 100000 in
theorem lifted (os : Os) (started : os.Started) (H : Type) (enc : TypeId × Value → H) :
    ReturnsInHanded {} Try.checked os 3 .any (Rows.deltaPlaysSpec.pre6 enc Try.prog Try.f3 Rows.deltaPlaysRow.domain false) (Rows.deltaPlaysSpec.post enc Try.prog Try.f3 false true false false) := by
  refine returnsInHanded_of_change (C := Try.checked) own started (by kernel_rfl) Try.func3
    (ChangeSpec.witness6 (enc := enc) (C := Try.checked) false ⟨#[], #[.agg #[.int .i64 0, .int .i64 0, .int .i64 0, .int .i64 0], .slice none 0 0], []⟩ 8 (by kernel_rfl) (by kernel_rfl) (by kernel_rfl) (by kernel_rfl)) ?_
  intro W base args ds gs before hval0 hW hcnd _
  have hval : ∀ (j : Nat) t v, Try.f3.params[j]? = some t → args[j]? = some v → Value.okWide Try.prog W .any base t v := hval0
  have hW' := hW
  obtain ⟨p, q, hA0, hV, rfl, hfz, hnd⟩ := hW
  have hA : DataW.TrodAll enc Try.prog W 0 (fun _ => true) true Try.f3.params.toList args.toList ds p := hA0
  rw [Try.params3] at hA hval
  obtain ⟨v0, vs0, d0, ds0, p0, q0, hargs, rfl, rfl, h0, r0⟩ := trodAll_cons hA
  obtain ⟨v1, vs1, d1, ds1, p1, q1, rfl, rfl, rfl, h1, r1⟩ := trodAll_cons r0
  obtain ⟨rfl, rfl, rfl⟩ := trodAll_nil r1
  obtain rfl : args = #[v0, v1] := by cases args; simp_all
  obtain ⟨rfl, rfl⟩ := trodVars_none hV
  obtain ⟨cs0, rfl, hz0⟩ := okWide_struct Try.underlying23 (hval 0 23 v0 rfl rfl)
  have k0 := h0
  have lt0 : ∀ x ∈ p0, x.block < W.heap.size := by obtain ⟨m, hm⟩ := k0; exact DataW.trod_lt m _ _ _ hm
  have X0 : ∃ c : Cf, cs0 = ([.int .i64 c.people, .int .i64 c.tracks, .int .i64 c.subs, .int .i64 c.slots] : List Value).toArray := by
    obtain ⟨fuel, hf⟩ := h0
    obtain ⟨c, hc⟩ := open_conf (by rw [show (Value.agg cs0).cells = cs0 from rfl, Array.length_toList]; exact hz0.trans (by kernel_rfl)) hf
    exact ⟨c, Array.toList_inj.1 hc⟩
  obtain ⟨A1, len1, cap1, rfl⟩ := okWide_slice Try.underlying24 (hval 1 24 v1 rfl rfl)
  have k1 := h1
  have lt1 : ∀ x ∈ p1, x.block < W.heap.size := by obtain ⟨m, hm⟩ := k1; exact DataW.trod_lt m _ _ _ hm
  have X1 : ∃ l : List (Rq × SH), l.length = len1 ∧ len1 ≤ cap1 ∧ cap1 ≤ maxLen ∧ CellsIn W 0 W.heap.size 8 A1 len1 (l.flatMap encQ) ∧ ∀ x ∈ l, RqIn W x.1 x.2 := by
    obtain ⟨fuel, hf⟩ := h1
    obtain ⟨A, c, l, hcs, hlc, hm, hc, hx⟩ := open_reqs hf
    simp only [Value.cells, List.cons.injEq, and_true] at hcs
    obtain ⟨rfl, rfl, rfl⟩ : A1 = A ∧ len1 = l.length ∧ cap1 = c := by simpa using hcs
    exact ⟨l, rfl, hlc, hm, hc, hx⟩
  clear hA0 hval0
  obtain ⟨c, rfl⟩ := X0
  obtain ⟨l, rfl, hlc1, hm1, hl1, hx1⟩ := X1
  unfold maxLen at hm1
  refine (plays_any c A1 cap1 l W (by omega) hl1 hx1).mono fun e W' ⟨he, bel⟩ => ?_
  subst he
  exact ⟨_, rfl, _, _, _, [], _, [], hW', trodAll_mk1 (shut_bool Try.underlying4 _), (trodAll_cons_mk (Below.trod laidOut (by kernel_rfl) (of_decide_eq_true (by kernel_rfl)) k0 bel lt0) (trodAll_cons_mk (Below.trod laidOut (by kernel_rfl) (of_decide_eq_true (by kernel_rfl)) k1 bel lt1) trodAll_mk0)), rfl, bel.frame _, fun h => by cases h⟩

theorem over : Rows.deltaPlaysRow.holds Try.pinned (OpenSpec.ofChange Rows.deltaPlaysSpec) :=
  OpenClaim.holds_of_wide 3 Try.f3 rfl rfl rfl rfl rfl rfl rfl ⟨rfl, rfl, rfl, rfl, rfl⟩ rfl rfl rfl rfl rfl (by kernel_rfl) Try.func3 (by kernel_rfl)
    (of_decide_eq_true (by kernel_rfl)) (by unfold Func.isWrapper; first | (rw [if_pos (by decide +kernel)]; kernel_rfl) | (rw [if_neg (by decide +kernel)]; exact ⟨rfl, rfl⟩))
    (fun os started H enc _ => lifted os started H enc)

theorem proved : Rows.DeltaPlaysSaid := over
#print axioms proved
end Go.Proofs.Ytjcbaelefacolaa.lawDeltaPlays
