/- Messages that came in as an argument: where they and their rows lie. Plain law on readings. -/
import Derived.Test.YtgkejdjdccgjbaaMsg
import Derived.Test.YtgkejdjdccgjbaaStr
import Derived.Test.YtgkejdjdccgjbaaOpen2
namespace Go.Proofs.Ytgkejdjdccgjbaa
open Go Go.RowKit Go.ChangeShapes Go.WideShapes Go.Deep
set_option maxHeartbeats 1000000

theorem wf_u32 {z : Int} (h : (Lit.int .u32 z).wf = true) : U32 z := by
  have := bounds_u32 h
  exact ⟨by omega, by omega⟩
theorem wf_u64 {z : Int} (h : (Lit.int .u64 z).wf = true) : U64 z := by
  have := bounds_u64 h
  exact ⟨by omega, by omega⟩
theorem wf_u16 {z : Int} (h : (Lit.int .u16 z).wf = true) : U16 z := by
  have := bounds_u16 h
  exact ⟨by omega, by omega⟩
theorem wf_u8 {z : Int} (h : (Lit.int .u8 z).wf = true) : U8 z := by
  have := bounds_u8 h
  exact ⟨by omega, by omega⟩
theorem CellsIn.came {w : World} {size n : Nat} {A : Option Addr} {xs : List Value} (h : Cells w w.heap.size size A n xs) : CellsIn w 0 w.heap.size size A n xs :=
  ⟨h.1, fun hn => by
    obtain ⟨b, off, e, hlt, hc⟩ := h.2 hn
    exact ⟨b, off, e, Nat.zero_le _, hlt, hc⟩⟩
section
variable {H : Type} {enc : TypeId × Value → H} {w : World} {base : Nat} {spare : Nat → Bool} {held : Bool}
theorem rd_reports {fuel : Nat} {cs : List Value} {x : DataW H × List MemPlace} (hf : DataW.trod enc Try.prog w base spare held fuel 55 cs = some x) :
    ∃ (A : Option Addr) (c : Nat) (l : List Rep), cs = [.slice A l.length c] ∧ CellsIn w 0 w.heap.size 7 A l.length (l.flatMap encRep) ∧ ∀ r ∈ l, r.Ok := by
  obtain ⟨A, len, cap, l, hcs, _, _, hll, hc⟩ := rd_cells (α := { x : Rep // x.Ok }) (fun a => encRep a.1) (size := 7) Try.underlying55 (by kernel_rfl) (by omega) (fun n cs y hcl hy => by
    obtain ⟨m, hm⟩ := rd_fields (n := n) (fs := _) Try.underlying87 hy
    match cs, hcl with
    | [c0, c1, c2, c3, c4, c5, c6], _ =>
      obtain ⟨y0, hy0⟩ := hm 0 _ 43 0 1 rfl rfl rfl (by kernel_rfl)
      obtain ⟨y1, hy1⟩ := hm 1 _ 5 1 1 rfl rfl rfl (by kernel_rfl)
      obtain ⟨y2, hy2⟩ := hm 2 _ 43 2 1 rfl rfl rfl (by kernel_rfl)
      obtain ⟨y3, hy3⟩ := hm 3 _ 43 3 1 rfl rfl rfl (by kernel_rfl)
      obtain ⟨y4, hy4⟩ := hm 4 _ 43 4 1 rfl rfl rfl (by kernel_rfl)
      obtain ⟨y5, hy5⟩ := hm 5 _ 43 5 1 rfl rfl rfl (by kernel_rfl)
      obtain ⟨y6, hy6⟩ := hm 6 _ 43 6 1 rfl rfl rfl (by kernel_rfl)
      obtain ⟨z0, e0, w0⟩ := rd_int Try.underlying43 hy0
      obtain ⟨z1, e1, w1⟩ := rd_int Try.underlying5 hy1
      obtain ⟨z2, e2, w2⟩ := rd_int Try.underlying43 hy2
      obtain ⟨z3, e3, w3⟩ := rd_int Try.underlying43 hy3
      obtain ⟨z4, e4, w4⟩ := rd_int Try.underlying43 hy4
      obtain ⟨z5, e5, w5⟩ := rd_int Try.underlying43 hy5
      obtain ⟨z6, e6, w6⟩ := rd_int Try.underlying43 hy6
      have f0 : c0 = _ := (List.cons.inj e0).1
      have f1 : c1 = _ := (List.cons.inj e1).1
      have f2 : c2 = _ := (List.cons.inj e2).1
      have f3 : c3 = _ := (List.cons.inj e3).1
      have f4 : c4 = _ := (List.cons.inj e4).1
      have f5 : c5 = _ := (List.cons.inj e5).1
      have f6 : c6 = _ := (List.cons.inj e6).1
      exact ⟨⟨⟨z0, z1, z2, z3, z4, z5, z6⟩, ⟨wf_u32 w0, wf_u8 w1, wf_u32 w2, wf_u32 w3, wf_u32 w4, wf_u32 w5, wf_u32 w6⟩⟩, by rw [f0, f1, f2, f3, f4, f5, f6]; rfl⟩) (fun _ => rfl) hf
  have hl' : (l.map (·.1)).length = len := by rw [List.length_map]; exact hll
  refine ⟨A, cap, l.map (·.1), by rw [hl']; exact hcs, ?_, fun r hr => ?_⟩
  · rw [hl', List.flatMap_map]; exact CellsIn.came hc
  · obtain ⟨a, _, rfl⟩ := List.mem_map.1 hr
    exact a.2
theorem rd_who {fuel : Nat} {cs : List Value} {x : DataW H × List MemPlace} (hf : DataW.trod enc Try.prog w base spare held fuel 46 cs = some x) :
    ∃ (A : Option Addr) (c : Nat) (l : List Int), cs = [.slice A l.length c] ∧ CellsIn w 0 w.heap.size 1 A l.length (l.map (Value.int .u32)) ∧ ∀ r ∈ l, U32 r := by
  obtain ⟨A, len, cap, l, hcs, _, _, hll, hc⟩ := rd_cells (α := { x : Int // U32 x }) (fun a => [.int .u32 a.1]) (size := 1) Try.underlying46 (by kernel_rfl) (by omega) (fun n cs y hcl hy => by
    obtain ⟨z, e, wz⟩ := rd_int Try.underlying43 hy
    exact ⟨⟨z, wf_u32 wz⟩, e⟩) (fun _ => rfl) hf
  have hl' : (l.map (·.1)).length = len := by rw [List.length_map]; exact hll
  refine ⟨A, cap, l.map (·.1), by rw [hl']; exact hcs, ?_, fun r hr => ?_⟩
  · have e : (l.map (·.1)).map (Value.int .u32) = l.flatMap fun a => [.int .u32 a.1] := by
      rw [flat_one (fun a : { x : Int // U32 x } => Value.int .u32 a.1), List.map_map]; rfl
    rw [hl', e]; exact CellsIn.came hc
  · obtain ⟨a, _, rfl⟩ := List.mem_map.1 hr
    exact a.2
theorem rd_pairs {fuel : Nat} {cs : List Value} {x : DataW H × List MemPlace} (hf : DataW.trod enc Try.prog w base spare held fuel 56 cs = some x) :
    ∃ (A : Option Addr) (c : Nat) (l : List (Int × Int)), cs = [.slice A l.length c] ∧ CellsIn w 0 w.heap.size 2 A l.length (l.flatMap encPair) ∧ ∀ p ∈ l, U16 p.1 ∧ U16 p.2 := by
  obtain ⟨A, len, cap, l, hcs, _, _, hll, hc⟩ := rd_cells (α := { x : Int × Int // U16 x.1 ∧ U16 x.2 }) (fun a => encPair a.1) (size := 2) Try.underlying56 (by kernel_rfl) (by omega) (fun n cs y hcl hy => by
    obtain ⟨m, hm⟩ := rd_fields (n := n) (fs := _) Try.underlying68 hy
    match cs, hcl with
    | [c0, c1], _ =>
      obtain ⟨y0, hy0⟩ := hm 0 _ 34 0 1 rfl rfl rfl (by kernel_rfl)
      obtain ⟨y1, hy1⟩ := hm 1 _ 34 1 1 rfl rfl rfl (by kernel_rfl)
      obtain ⟨z0, e0, w0⟩ := rd_int Try.underlying34 hy0
      obtain ⟨z1, e1, w1⟩ := rd_int Try.underlying34 hy1
      have f0 : c0 = _ := (List.cons.inj e0).1
      have f1 : c1 = _ := (List.cons.inj e1).1
      exact ⟨⟨(z0, z1), ⟨wf_u16 w0, wf_u16 w1⟩⟩, by rw [f0, f1]; rfl⟩) (fun _ => rfl) hf
  have hl' : (l.map (·.1)).length = len := by rw [List.length_map]; exact hll
  refine ⟨A, cap, l.map (·.1), by rw [hl']; exact hcs, ?_, fun r hr => ?_⟩
  · rw [hl', List.flatMap_map]; exact CellsIn.came hc
  · obtain ⟨a, _, rfl⟩ := List.mem_map.1 hr
    exact a.2
theorem rd_asks {fuel : Nat} {cs : List Value} {x : DataW H × List MemPlace} (hf : DataW.trod enc Try.prog w base spare held fuel 57 cs = some x) :
    ∃ (A : Option Addr) (c : Nat) (l : List (Int × Int)), cs = [.slice A l.length c] ∧ CellsIn w 0 w.heap.size 2 A l.length (l.flatMap encAsk) ∧ ∀ p ∈ l, U32 p.1 ∧ U8 p.2 := by
  obtain ⟨A, len, cap, l, hcs, _, _, hll, hc⟩ := rd_cells (α := { x : Int × Int // U32 x.1 ∧ U8 x.2 }) (fun a => encAsk a.1) (size := 2) Try.underlying57 (by kernel_rfl) (by omega) (fun n cs y hcl hy => by
    obtain ⟨m, hm⟩ := rd_fields (n := n) (fs := _) Try.underlying91 hy
    match cs, hcl with
    | [c0, c1], _ =>
      obtain ⟨y0, hy0⟩ := hm 0 _ 43 0 1 rfl rfl rfl (by kernel_rfl)
      obtain ⟨y1, hy1⟩ := hm 1 _ 5 1 1 rfl rfl rfl (by kernel_rfl)
      obtain ⟨z0, e0, w0⟩ := rd_int Try.underlying43 hy0
      obtain ⟨z1, e1, w1⟩ := rd_int Try.underlying5 hy1
      have f0 : c0 = _ := (List.cons.inj e0).1
      have f1 : c1 = _ := (List.cons.inj e1).1
      exact ⟨⟨(z0, z1), ⟨wf_u32 w0, wf_u8 w1⟩⟩, by rw [f0, f1]; rfl⟩) (fun _ => rfl) hf
  have hl' : (l.map (·.1)).length = len := by rw [List.length_map]; exact hll
  refine ⟨A, cap, l.map (·.1), by rw [hl']; exact hcs, ?_, fun r hr => ?_⟩
  · rw [hl', List.flatMap_map]; exact CellsIn.came hc
  · obtain ⟨a, _, rfl⟩ := List.mem_map.1 hr
    exact a.2
theorem open_msgs {fuel : Nat} {cs : List Value} {x : DataW H × List MemPlace} (hf : DataW.trod enc Try.prog w base spare held fuel 22 cs = some x) :
    ∃ (A : Option Addr) (c : Nat) (l : List (Mg × Hd)), cs = [.slice A l.length c] ∧ l.length ≤ c ∧ c ≤ maxLen ∧ CellsIn w 0 w.heap.size 12 A l.length (l.flatMap encM) ∧ ∀ x ∈ l, MgIn w 0 x.1 x.2 ∧ x.1.Num := by
  obtain ⟨A, len, cap, l, hcs, hlc, hm, hll, hc⟩ := rd_cells (α := { x : Mg × Hd // MgIn w 0 x.1 x.2 ∧ x.1.Num }) (fun a => encM a.1) (size := 12) Try.underlying22 (by kernel_rfl) (by omega) (fun n cs y hcl hy => by
    obtain ⟨m, hm⟩ := rd_fields (n := n) (fs := _) Try.underlying59 hy
    match cs, hcl with
    | [c0, c1, c2, c3, c4, c5, c6, c7, c8, c9, c10, c11], _ =>
      obtain ⟨y0, hy0⟩ := hm 0 _ 3 0 1 rfl rfl rfl (by kernel_rfl)
      obtain ⟨y1, hy1⟩ := hm 1 _ 43 1 1 rfl rfl rfl (by kernel_rfl)
      obtain ⟨y2, hy2⟩ := hm 2 _ 43 2 1 rfl rfl rfl (by kernel_rfl)
      obtain ⟨y3, hy3⟩ := hm 3 _ 54 3 4 rfl rfl rfl (by kernel_rfl)
      obtain ⟨y7, hy7⟩ := hm 4 _ 55 7 1 rfl rfl rfl (by kernel_rfl)
      obtain ⟨y8, hy8⟩ := hm 5 _ 46 8 1 rfl rfl rfl (by kernel_rfl)
      obtain ⟨y9, hy9⟩ := hm 6 _ 56 9 1 rfl rfl rfl (by kernel_rfl)
      obtain ⟨y10, hy10⟩ := hm 7 _ 57 10 1 rfl rfl rfl (by kernel_rfl)
      obtain ⟨y11, hy11⟩ := hm 8 _ 5 11 1 rfl rfl rfl (by kernel_rfl)
      obtain ⟨z0, e0, w0⟩ := rd_int Try.underlying3 hy0
      obtain ⟨z1, e1, w1⟩ := rd_int Try.underlying43 hy1
      obtain ⟨z2, e2, w2⟩ := rd_int Try.underlying43 hy2
      obtain ⟨m3, hm3⟩ := rd_fields (fs := _) Try.underlying54 hy3
      obtain ⟨y3, hy3⟩ := hm3 0 _ 44 0 1 rfl rfl rfl (by kernel_rfl)
      obtain ⟨y4, hy4⟩ := hm3 1 _ 43 1 1 rfl rfl rfl (by kernel_rfl)
      obtain ⟨y5, hy5⟩ := hm3 2 _ 43 2 1 rfl rfl rfl (by kernel_rfl)
      obtain ⟨y6, hy6⟩ := hm3 3 _ 43 3 1 rfl rfl rfl (by kernel_rfl)
      obtain ⟨z3, e3, w3⟩ := rd_int Try.underlying44 hy3
      obtain ⟨z4, e4, w4⟩ := rd_int Try.underlying43 hy4
      obtain ⟨z5, e5, w5⟩ := rd_int Try.underlying43 hy5
      obtain ⟨z6, e6, w6⟩ := rd_int Try.underlying43 hy6
      obtain ⟨A7, k7, l7, e7, h7, n7⟩ := rd_reports hy7
      obtain ⟨A8, k8, l8, e8, h8, n8⟩ := rd_who hy8
      obtain ⟨A9, k9, l9, e9, h9, n9⟩ := rd_pairs hy9
      obtain ⟨A10, k10, l10, e10, h10, n10⟩ := rd_asks hy10
      obtain ⟨z11, e11, w11⟩ := rd_int Try.underlying5 hy11
      have f0 : c0 = _ := (List.cons.inj e0).1
      have f1 : c1 = _ := (List.cons.inj e1).1
      have f2 : c2 = _ := (List.cons.inj e2).1
      have f3 : c3 = _ := (List.cons.inj e3).1
      have f4 : c4 = _ := (List.cons.inj e4).1
      have f5 : c5 = _ := (List.cons.inj e5).1
      have f6 : c6 = _ := (List.cons.inj e6).1
      have f7 : c7 = _ := (List.cons.inj e7).1
      have f8 : c8 = _ := (List.cons.inj e8).1
      have f9 : c9 = _ := (List.cons.inj e9).1
      have f10 : c10 = _ := (List.cons.inj e10).1
      have f11 : c11 = _ := (List.cons.inj e11).1
      exact ⟨⟨(⟨z0, z1, z2, z3, z4, z5, z6, l7, l8, l9, l10, z11⟩, ⟨A7, k7, A8, k8, A9, k9, A10, k10⟩), ⟨h7, h8, h9, h10⟩, ⟨wf_u32 w1, wf_u32 w2, wf_u64 w3, wf_u32 w4, wf_u32 w5, wf_u32 w6, n7, n8, n9, n10, wf_u8 w11⟩⟩, by rw [f0, f1, f2, f3, f4, f5, f6, f7, f8, f9, f10, f11]; rfl⟩) (fun _ => rfl) hf
  have hl' : (l.map (·.1)).length = len := by rw [List.length_map]; exact hll
  refine ⟨A, cap, l.map (·.1), by rw [hl']; exact hcs, by rw [hl']; exact hlc, hm, ?_, fun r hr => ?_⟩
  · rw [hl', List.flatMap_map]; exact CellsIn.came hc
  · obtain ⟨a, _, rfl⟩ := List.mem_map.1 hr
    exact a.2
end
end Go.Proofs.Ytgkejdjdccgjbaa
