/- PinsPlays of the package louverlaw16: for every input the call returns true, and its arguments read afterwards as they did before. No condition. -/
import Derived.Test.YtembadjfialenaaPPlays2
import Derived.Test.YtembadjfialenaaOpen
import Derived.Test.YtembadjfialenaaOpen2
namespace Go.Proofs.Ytembadjfialenaa.lawPinsPlays
open Go.ChangeShapes Go.WideShapes Go.ChangeAt Go.RowKit Go.Deep
open Go.Proofs.Ytembadjfialenaa

theorem own : ownKnob Try.prog.godebug = none := by kernel_rfl
theorem laidOut : laidOutB Try.prog = true := by kernel_rfl

set_option maxRecDepth 100000 in
theorem lifted (os : Os) (started : os.Started) (H : Type) (enc : TypeId × Value → H) :
    ReturnsInHanded {} Try.checked os 3 .any (Rows.pinsPlaysSpec.pre6 enc Try.prog Try.f3 Rows.pinsPlaysRow.domain false) (Rows.pinsPlaysSpec.post enc Try.prog Try.f3 false true false false) := by
  refine returnsInHanded_of_change (C := Try.checked) own started (by kernel_rfl) Try.func3
    (ChangeSpec.witness6 (enc := enc) (C := Try.checked) false ⟨#[], #[.int .u8 0, .slice none 0 0], []⟩ 8 (by kernel_rfl) (by kernel_rfl) (by kernel_rfl) (by kernel_rfl)) ?_
  intro W base args ds gs before hval0 hW hcnd _
  have hval : ∀ (j : Nat) t v, Try.f3.params[j]? = some t → args[j]? = some v → Value.okWide Try.prog W .any base t v := hval0
  have hW' := hW
  obtain ⟨p, q, hA0, hV, rfl, hfz, hnd⟩ := hW
  have hA : DataW.TrodAll enc Try.prog W 0 (fun _ => true) true Try.f3.params.toList args.toList ds p := hA0
  rw [Try.params3] at hA hval
  obtain ⟨v0, vs0, d0, ds0, p0, q0, hargs, rfl, rfl, h0, r0⟩ := trodAll_cons hA
  obtain ⟨v1, vs1, d1, ds1, p1, q1, rfl, rfl, rfl, h1, r1⟩ := trodAll_cons r0
  obtain ⟨rfl, rfl, rfl⟩ := trodAll_nil r1
  obtain rfl : args = #[v0, v1] := by cases args; simp_all
  obtain ⟨rfl, rfl⟩ := trodVars_none hV
  obtain ⟨a0, rfl, rfl, rfl, w0⟩ := open_int Try.underlying5 (hval 0 5 v0 rfl rfl) h0
  obtain ⟨A1, len1, cap1, rfl⟩ := okWide_slice Try.underlying22 (hval 1 22 v1 rfl rfl)
  have k1 := h1
  have lt1 : ∀ x ∈ p1, x.block < W.heap.size := by obtain ⟨m, hm⟩ := k1; exact DataW.trod_lt m _ _ _ hm
  have X1 : ∃ l : List PAct, len1 ≤ cap1 ∧ cap1 ≤ maxLen ∧ l.length = len1 ∧ Cells W W.heap.size 5 A1 len1 (l.flatMap encA) ∧ ∀ x ∈ l, (Lit.int .u64 x.epoch).wf = true := by
    obtain ⟨fuel, hf⟩ := h1
    obtain ⟨A, len, cap, l, hcs, hlc, hm, hll, hc⟩ := rd_cells (α := { x : PAct // (Lit.int .u64 x.epoch).wf = true }) (fun a => encA a.1) (size := 5) Try.underlying22 (by kernel_rfl) (by omega) (fun n cs y hcl hy => by
      obtain ⟨m, hm⟩ := rd_fields (n := n) (fs := _) Try.underlying35 hy
      match cs, hcl with
      | [c0, c1, c2, c3, c4], _ =>
        obtain ⟨y0, hy0⟩ := hm 0 _ 3 0 1 rfl rfl rfl (by kernel_rfl)
        obtain ⟨y1, hy1⟩ := hm 1 _ 3 1 1 rfl rfl rfl (by kernel_rfl)
        obtain ⟨y2, hy2⟩ := hm 2 _ 30 2 1 rfl rfl rfl (by kernel_rfl)
        obtain ⟨y3, hy3⟩ := hm 3 _ 33 3 2 rfl rfl rfl (by kernel_rfl)
        obtain ⟨z0, e0, _⟩ := rd_int Try.underlying3 hy0
        obtain ⟨z1, e1, _⟩ := rd_int Try.underlying3 hy1
        obtain ⟨z2, e2, w2⟩ := rd_int Try.underlying30 hy2
        obtain ⟨m3, hm3⟩ := rd_fields (fs := _) Try.underlying33 hy3
        obtain ⟨y4, hy4⟩ := hm3 0 _ 3 0 1 rfl rfl rfl (by kernel_rfl)
        obtain ⟨y5, hy5⟩ := hm3 1 _ 31 1 1 rfl rfl rfl (by kernel_rfl)
        obtain ⟨z4, e4, _⟩ := rd_int Try.underlying3 hy4
        obtain ⟨z5, e5, _⟩ := rd_int Try.underlying31 hy5
        have f0 : c0 = _ := (List.cons.inj e0).1
        have f1 : c1 = _ := (List.cons.inj e1).1
        have f2 : c2 = _ := (List.cons.inj e2).1
        have f4 : c3 = _ := (List.cons.inj e4).1
        have f5 : c4 = _ := (List.cons.inj e5).1
        exact ⟨⟨⟨z0, z1, z2, z4, z5⟩, w2⟩, by rw [f0, f1, f2, f4, f5]; rfl⟩) (fun _ => rfl) hf
    simp only [Value.cells, List.cons.injEq, and_true] at hcs
    obtain ⟨rfl, rfl, rfl⟩ : A1 = A ∧ len1 = len ∧ cap1 = cap := by simpa using hcs
    refine ⟨l.map (·.1), hlc, hm, by rw [List.length_map]; exact hll, ?_, fun x hx => ?_⟩
    · have e : (l.map (·.1)).flatMap encA = l.flatMap fun a => encA a.1 := by rw [List.flatMap_map]
      rw [e]; exact hc
    · obtain ⟨a, _, rfl⟩ := List.mem_map.1 hx
      exact a.2
  clear hA0 hval0
  obtain ⟨l, hlc1, hm1, hll1, hl1, hwf1⟩ := X1
  have hb0 := bounds_u8 w0
  unfold maxLen at hm1
  refine (plays_any a0 A1 len1 cap1 l W (by omega) (by omega) (by omega) hll1 hl1 (fun x hx => bounds_u64 (hwf1 x hx))).mono fun e W' ⟨he, bel⟩ => ?_
  subst he
  exact ⟨_, rfl, _, _, _, [], _, [], hW', trodAll_mk1 (shut_bool Try.underlying4 _), (trodAll_cons_mk (shut_int Try.underlying5 w0) (trodAll_cons_mk (Below.trod laidOut (by kernel_rfl) (of_decide_eq_true (by kernel_rfl)) k1 bel lt1) trodAll_mk0)), rfl, bel.frame _, fun h => by cases h⟩

theorem over : Rows.pinsPlaysRow.holds Try.pinned (OpenSpec.ofChange Rows.pinsPlaysSpec) :=
  OpenClaim.holds_of_wide 3 Try.f3 rfl rfl rfl rfl rfl rfl rfl ⟨rfl, rfl, rfl, rfl, rfl⟩ rfl rfl rfl rfl rfl (by kernel_rfl) Try.func3 (by kernel_rfl)
    (of_decide_eq_true (by kernel_rfl)) (by unfold Func.isWrapper; first | (rw [if_pos (by decide +kernel)]; kernel_rfl) | (rw [if_neg (by decide +kernel)]; exact ⟨rfl, rfl⟩))
    (fun os started H enc _ => lifted os started H enc)

theorem proved : Rows.PinsPlaysSaid := over
#print axioms proved
end Go.Proofs.Ytembadjfialenaa.lawPinsPlays
