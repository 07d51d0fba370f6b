/- CmdPlays of the package louverlaw20: for every input the call returns true, and its arguments read afterwards as they did before. No condition. -/
import Derived.Test.YtdcekgdihnlbpaaCPlays
import Derived.Test.YtdcekgdihnlbpaaOpen
import Derived.Test.YtdcekgdihnlbpaaOpen2
namespace Go.Proofs.Ytdcekgdihnlbpaa.lawCmdPlays
open Go.ChangeShapes Go.WideShapes Go.ChangeAt Go.RowKit Go.Deep
open Go.Proofs.Ytdcekgdihnlbpaa

theorem own : ownKnob Try.prog.godebug = none := by kernel_rfl
theorem laidOut : laidOutB Try.prog = true := by kernel_rfl

set_option maxRecDepth 100000 in
theorem lifted (os : Os) (started : os.Started) (H : Type) (enc : TypeId × Value → H) :
    ReturnsInHanded {} Try.checked os 4 .any (Rows.cmdPlaysSpec.pre6 enc Try.prog Try.f4 Rows.cmdPlaysRow.domain false) (Rows.cmdPlaysSpec.post enc Try.prog Try.f4 false true false false) := by
  refine returnsInHanded_of_change (C := Try.checked) own started (by kernel_rfl) Try.func4
    (ChangeSpec.witness6 (enc := enc) (C := Try.checked) false ⟨#[], #[.int .u8 0, .int .u8 0, .slice none 0 0], []⟩ 8 (by kernel_rfl) (by kernel_rfl) (by kernel_rfl) (by kernel_rfl)) ?_
  intro W base args ds gs before hval0 hW hcnd _
  have hval : ∀ (j : Nat) t v, Try.f4.params[j]? = some t → args[j]? = some v → Value.okWide Try.prog W .any base t v := hval0
  have hW' := hW
  obtain ⟨p, q, hA0, hV, rfl, hfz, hnd⟩ := hW
  have hA : DataW.TrodAll enc Try.prog W 0 (fun _ => true) true Try.f4.params.toList args.toList ds p := hA0
  rw [Try.params4] at hA hval
  obtain ⟨v0, vs0, d0, ds0, p0, q0, hargs, rfl, rfl, h0, r0⟩ := trodAll_cons hA
  obtain ⟨v1, vs1, d1, ds1, p1, q1, rfl, rfl, rfl, h1, r1⟩ := trodAll_cons r0
  obtain ⟨v2, vs2, d2, ds2, p2, q2, rfl, rfl, rfl, h2, r2⟩ := trodAll_cons r1
  obtain ⟨rfl, rfl, rfl⟩ := trodAll_nil r2
  obtain rfl : args = #[v0, v1, v2] := by cases args; simp_all
  obtain ⟨rfl, rfl⟩ := trodVars_none hV
  obtain ⟨a0, rfl, rfl, rfl, w0⟩ := open_int Try.underlying5 (hval 0 5 v0 rfl rfl) h0
  obtain ⟨a1, rfl, rfl, rfl, w1⟩ := open_int Try.underlying5 (hval 1 5 v1 rfl rfl) h1
  obtain ⟨A2, len2, cap2, rfl⟩ := okWide_slice Try.underlying37 (hval 2 37 v2 rfl rfl)
  have k2 := h2
  have lt2 : ∀ x ∈ p2, x.block < W.heap.size := by obtain ⟨m, hm⟩ := k2; exact DataW.trod_lt m _ _ _ hm
  have X2 : ∃ l : List CAct, len2 ≤ cap2 ∧ cap2 ≤ maxLen ∧ l.length = len2 ∧ Cells W W.heap.size 3 A2 len2 (l.flatMap encC) ∧ ∀ x ∈ l, (Lit.int .u64 x.epoch).wf = true := by
    obtain ⟨fuel, hf⟩ := h2
    obtain ⟨A, len, cap, l, hcs, hlc, hm, hll, hc⟩ := rd_cells (α := { x : CAct // (Lit.int .u64 x.epoch).wf = true }) (fun a => encC a.1) (size := 3) Try.underlying37 (by kernel_rfl) (by omega) (fun n cs y hcl hy => by
      obtain ⟨m, hm⟩ := rd_fields (n := n) (fs := _) Try.underlying44 hy
      match cs, hcl with
      | [c0, c1, c2], _ =>
        obtain ⟨y0, hy0⟩ := hm 0 _ 3 0 1 rfl rfl rfl (by kernel_rfl)
        obtain ⟨y1, hy1⟩ := hm 1 _ 3 1 1 rfl rfl rfl (by kernel_rfl)
        obtain ⟨y2, hy2⟩ := hm 2 _ 30 2 1 rfl rfl rfl (by kernel_rfl)
        obtain ⟨z0, e0, _⟩ := rd_int Try.underlying3 hy0
        obtain ⟨z1, e1, _⟩ := rd_int Try.underlying3 hy1
        obtain ⟨z2, e2, w2⟩ := rd_int Try.underlying30 hy2
        have f0 : c0 = _ := (List.cons.inj e0).1
        have f1 : c1 = _ := (List.cons.inj e1).1
        have f2 : c2 = _ := (List.cons.inj e2).1
        exact ⟨⟨⟨z0, z1, z2⟩, w2⟩, by rw [f0, f1, f2]; rfl⟩) (fun _ => rfl) hf
    simp only [Value.cells, List.cons.injEq, and_true] at hcs
    obtain ⟨rfl, rfl, rfl⟩ : A2 = A ∧ len2 = len ∧ cap2 = cap := by simpa using hcs
    refine ⟨l.map (·.1), hlc, hm, by rw [List.length_map]; exact hll, ?_, fun x hx => ?_⟩
    · have e : (l.map (·.1)).flatMap encC = l.flatMap fun a => encC a.1 := by rw [List.flatMap_map]
      rw [e]; exact hc
    · obtain ⟨a, _, rfl⟩ := List.mem_map.1 hx
      exact a.2
  clear hA0 hval0
  obtain ⟨l, hlc2, hm2, hll2, hl2, hwf2⟩ := X2
  have hb0 := bounds_u8 w0
  have hb1 := bounds_u8 w1
  unfold maxLen at hm2
  refine (plays_any a0 a1 A2 len2 cap2 l W (by omega) (by omega) (by omega) (by omega) (by omega) hll2 hl2).mono fun e W' ⟨he, bel⟩ => ?_
  subst he
  exact ⟨_, rfl, _, _, _, [], _, [], hW', trodAll_mk1 (shut_bool Try.underlying4 _), (trodAll_cons_mk (shut_int Try.underlying5 w0) (trodAll_cons_mk (shut_int Try.underlying5 w1) (trodAll_cons_mk (Below.trod laidOut (by kernel_rfl) (of_decide_eq_true (by kernel_rfl)) k2 bel lt2) trodAll_mk0))), rfl, bel.frame _, fun h => by cases h⟩

theorem over : Rows.cmdPlaysRow.holds Try.pinned (OpenSpec.ofChange Rows.cmdPlaysSpec) :=
  OpenClaim.holds_of_wide 4 Try.f4 rfl rfl rfl rfl rfl rfl rfl ⟨rfl, rfl, rfl, rfl, rfl⟩ rfl rfl rfl rfl rfl (by kernel_rfl) Try.func4 (by kernel_rfl)
    (of_decide_eq_true (by kernel_rfl)) (by unfold Func.isWrapper; first | (rw [if_pos (by decide +kernel)]; kernel_rfl) | (rw [if_neg (by decide +kernel)]; exact ⟨rfl, rfl⟩))
    (fun os started H enc _ => lifted os started H enc)

theorem proved : Rows.CmdPlaysSaid := over
#print axioms proved
end Go.Proofs.Ytdcekgdihnlbpaa.lawCmdPlays
