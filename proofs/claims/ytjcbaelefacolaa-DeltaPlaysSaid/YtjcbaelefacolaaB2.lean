/- Parts of the proof, one behind the other: Tail2, DCmp, DSub1, DFindP, DFindT, DFindB, Tail3, DMeth, Tail4, DClo3, DPut. No condition of their own. -/
import Derived.Test.YtjcbaelefacolaaB1
import Derived.OrdersHeld
import Derived.Lib.Hide
/- The region of YtjcbaelefacolaaTail over any class of worlds. -/
namespace Go.Proofs.Ytjcbaelefacolaa
open Go

section
variable {P : Program}

/-- The worlds of a class, as a type of its own (so that a walk sees one name for "some world of it"). -/
structure Cls (C : World → Prop) where
  w : World
  h : C w

theorem quiet_cls {C : World → Prop} {f : FuncId} {args : Array Value} {x : Cls C} {v : Value} (h : Calls P f args x.w fun e w' => e = .returned v ∧ C w') : Calls P f args x.w fun e w' => e = .returned v ∧ ∃ m : Cls C, w' = m.w :=
  h.mono fun _ w' ⟨he, hm⟩ => ⟨he, ⟨w', hm⟩, rfl⟩

/-- THE REGION, over any class of worlds: its operations up to the n-th answer alike in each world of the class, and stay in it. -/
theorem wp_moves_class_tail {id : Nat} {Q : Exit → Act → World → Prop} {a : Act} {w : World} {l : List Oper} (C : World → Prop) (hC : C (w.drewN 1)) (m n : Nat) (hm : P.follows .mixedOrders = true) (hB : tailB .any l.toArray m n = true)
    (hQ : ∀ c tmps a w, Q (.panic c) { a with tmps := tmps } w → Q (.panic c) a w)
    (h : Nonempty (Cls C) → wpQuiet P l.toArray (fun _ => True) (fun a0 => wpQuiet P l.toArray (fun w' => ∃ x : Cls C, w' = x.w) (fun a' => ∀ w', (∃ x : Cls C, w' = x.w) → wpList P l.toArray Q (l.drop n) a' w') ((l.take n).drop m) a0) (l.take m) a) :
    (Code.region id l.toArray true).wp P Q a w := by
  have h := h ⟨⟨_, hC⟩⟩
  simp only [tailB, Bool.and_eq_true, decide_eq_true_eq] at hB
  obtain ⟨⟨⟨⟨⟨hsel, hn⟩, hmn⟩, hs⟩, hc⟩, hpre⟩ := hB
  have hn' : n < l.length := by simpa using hn
  have hml : (l.take m).length = m := by rw [List.length_take]; omega
  have hhl : ((l.take n).drop m).length = n - m := by rw [List.length_drop, List.length_take]; omega
  have hsz : (l.drop n).length = l.toArray.size - n := by simp
  have inv0 : HeadInv .any l.toArray n (Array.replicate l.toArray.size false) :=
    ⟨by simp, fun j oj _ hl => by rw [getD_replicate_false] at hl; exact absurd hl (by decide), fun t _ ht => getD_in (by simpa using ht) (getD_replicate_false _ _)⟩
  refine wp_region_any hm ?_
  have K := pre_any (P := P) (md := .any) (Q := Q) (m := m) (F := n - m + (l.toArray.size - n)) (w := { w with drawn := w.drawn + 1 }) hsel (fun done a' ok hB' hq => ?_) hQ (l.take m) 0 _ a
    (fun j hj => by rw [hml] at hj; simp [hj]) (by simpa using hml) ⟨inv0, fun i hi => absurd hi (Nat.not_lt_zero i)⟩ (by rw [hml]; exact hpre) h
  · rw [hml, show m + (n - m + (l.toArray.size - n)) = l.toArray.size by omega] at K
    exact K
  · have H := HeadAny.lex (P := P) (md := .any) (g := l.toArray.size - n) hsel hs hc ((l.take n).drop m) m done a'
      (fun j hj => by
        rw [hhl] at hj
        have h1 : m + j < n := by omega
        simp [List.getElem?_drop, List.getElem?_take, h1]) (by rw [hhl]; omega) ok (by rw [hhl]; exact hB') hq
    rw [hhl] at H
    exact HeadAny.any (Q := Q) (g := l.toArray.size - n) (fun done a' w' hw' hL => by
      have h1 := wpAny_of_seqW (md := .any) (Q := Q) hsel hQ (l.drop n) n done a' w' (fun j _ => by simp [List.getElem?_drop]) (by rw [hsz]; exact hL.2.1) (hL.2.2 w' hw')
      rwa [hsz] at h1) (n - m) done a' _ ⟨⟨_, hC⟩, rfl⟩ H
theorem wp_class_tail {id : Nat} {Q : Exit → Act → World → Prop} {a : Act} {w : World} {l : List Oper} (C : World → Prop) (hC : C (w.drewN 1)) (n : Nat) (hm : P.follows .mixedOrders = true) (hB : tailB .any l.toArray 0 n = true)
    (hQ : ∀ c tmps a w, Q (.panic c) { a with tmps := tmps } w → Q (.panic c) a w)
    (h : Nonempty (Cls C) → wpQuiet P l.toArray (fun w' => ∃ x : Cls C, w' = x.w) (fun a' => ∀ w', (∃ x : Cls C, w' = x.w) → wpList P l.toArray Q (l.drop n) a' w') (l.take n) a) : (Code.region id l.toArray true).wp P Q a w :=
  wp_moves_class_tail C hC 0 n hm hB hQ h
end
end Go.Proofs.Ytjcbaelefacolaa
/- The layer delta: comparisons, bounds, and the function values of searches. No condition. -/
namespace Go.Proofs.Ytjcbaelefacolaa
open Go Go.RowKit
set_option maxHeartbeats 400000

theorem isnan_any (w : World) (x : Int) : Calls Try.prog 93 #[.int .i64 x] w fun e w' => e = .returned (.bool false) ∧ w = w' := by
  go_enter Try.func93, Try.ntmps93
  go_wp2
  go_ret
  exact ⟨rfl, rfl⟩
theorem compare_any (w : World) (x y : Int) : Calls Try.prog 69 #[.int .i64 x, .int .i64 y] w fun e w' => e = .returned (.int .i64 (cmpI x y)) ∧ w = w' := by
  have H1 := Lib.hid (isnan_any w x)
  have H2 := Lib.hid (isnan_any w y)
  unfold cmpI
  go_enter Try.func69, Try.ntmps69
  go_wp2_with fail
  refine H1.out.mono ?_
  rintro e w1 ⟨rfl, rfl⟩
  go_wp2_with fail
  refine H2.out.mono ?_
  rintro e w1 ⟨rfl, rfl⟩
  clear H1 H2
  by_cases h1 : x < y
  · go_wp2
    go_ret
    exact ⟨by simp [h1], rfl⟩
  · by_cases h2 : y < x
    · go_wp2
      go_ret
      exact ⟨by simp [h1, h2], rfl⟩
    · go_wp2
      go_ret
      exact ⟨by simp [h1, h2], rfl⟩
theorem in_any (w : World) (x a b : Int) : Calls Try.prog 32 #[.int .i64 x, .int .i64 a, .int .i64 b] w fun e w' => e = .returned (.bool (decide (a ≤ x) && decide (x ≤ b))) ∧ w = w' := by
  by_cases h1 : a ≤ x
  · by_cases h2 : x ≤ b
    · go_enter Try.func32, Try.ntmps32
      go_wp2
      go_ret
      exact ⟨by simp [h1, h2], rfl⟩
    · have d2 : decide (x ≤ b) = false := by simpa using h2
      go_enter Try.func32, Try.ntmps32
      go_wp2
      go_ret
      exact ⟨by simp [h1, h2], rfl⟩
  · have d1 : decide (a ≤ x) = false := by simpa using h1
    go_enter Try.func32, Try.ntmps32
    go_wp2
    go_ret
    exact ⟨by simp [h1], rfl⟩
theorem person1_any (w : World) (p : Per) (who : Int) : Calls Try.prog 68 #[.agg (encP p).toArray, .int .i64 who] w fun e w' => e = .returned (.int .i64 (cP who p)) ∧ Upd [] w w' := by
  obtain ⟨a, b, c⟩ := p
  unfold encP cP
  dsimp only
  go_enter Try.func68, Try.ntmps68
  go_wp2_with fail
  refine (compare_any _ a who).mono ?_
  rintro e w1 ⟨rfl, rfl⟩
  go_wp2
  go_ret
  exact ⟨rfl, (Upd.refl [] _).alloc _⟩
theorem track1_any (w : World) (x : Trk × SH) (id : Int) : Calls Try.prog 83 #[.agg (encT x).toArray, .int .i64 id] w fun e w' => e = .returned (.int .i64 (cT id x.1)) ∧ Upd [] w w' := by
  obtain ⟨⟨a, b, c, l⟩, ⟨A, k⟩⟩ := x
  unfold encT cT
  dsimp only
  go_enter Try.func83, Try.ntmps83
  go_wp2_with fail
  refine (compare_any _ a id).mono ?_
  rintro e w1 ⟨rfl, rfl⟩
  go_wp2
  go_ret
  exact ⟨rfl, (Upd.refl [] _).alloc _⟩
/-- cmp.Or of two numbers -/
theorem or_any {w : World} {A : Option Addr} {c : Nat} {x y : Int} (h : CellsIn w 0 w.heap.size 1 A 2 [.int .i64 x, .int .i64 y]) : Calls Try.prog 76 #[.slice A 2 c] w fun e w' => e = .returned (.int .i64 (if x ≠ 0 then x else y)) ∧ w = w' := by
  obtain ⟨b, off, rfl, _, hb, hc⟩ := h.2 (by omega)
  have c0 := hc 0 _ rfl
  have c1 := hc 1 _ rfl
  rw [Nat.add_zero] at c0
  clear hc h
  by_cases hx : x = 0
  · subst hx
    by_cases hy : y = 0
    · subst hy
      go_enter Try.func76, Try.ntmps76
      go_wp2
      go_loopg [8] 3 (fun gk x8 wr => (∃ i : Nat, i ≤ 2 ∧ 2 ≤ i + gk ∧ x8 = .int .i64 i) ∧ w = wr)
      case atStart => exact ⟨⟨0, by omega, by omega, rfl⟩, rfl⟩
      case round =>
        obtain ⟨⟨i, hi, hgi, rfl⟩, rfl⟩ := hrel
        match i, hi with
        | 0, _ => go_wp2; go_roundg (gk - 1); case measure => omega
                  case rel => exact ⟨⟨1, by omega, by omega, rfl⟩, rfl⟩
        | 1, _ => go_wp2; go_roundg (gk - 1); case measure => omega
                  case rel => exact ⟨⟨2, by omega, by omega, rfl⟩, rfl⟩
        | 2, _ => go_wp2; go_ret; exact ⟨by simp, rfl⟩
    · go_enter Try.func76, Try.ntmps76
      go_wp2
      go_loopg [8] 3 (fun gk x8 wr => (∃ i : Nat, i ≤ 1 ∧ 2 ≤ i + gk ∧ x8 = .int .i64 i) ∧ w = wr)
      case atStart => exact ⟨⟨0, by omega, by omega, rfl⟩, rfl⟩
      case round =>
        obtain ⟨⟨i, hi, hgi, rfl⟩, rfl⟩ := hrel
        match i, hi with
        | 0, _ => go_wp2; go_roundg (gk - 1); case measure => omega
                  case rel => exact ⟨⟨1, by omega, by omega, rfl⟩, rfl⟩
        | 1, _ => go_wp2; go_ret; exact ⟨by simp, rfl⟩
  · go_enter Try.func76, Try.ntmps76
    go_wp2
    go_loopg [8] 3 (fun gk x8 wr => (x8 = .int .i64 0) ∧ w = wr)
    case atStart => exact ⟨rfl, rfl⟩
    case round =>
      obtain ⟨rfl, rfl⟩ := hrel
      go_wp2
      go_ret
      exact ⟨by simp [hx], rfl⟩
end Go.Proofs.Ytjcbaelefacolaa
/- The layer delta: the function value of the search for a sub. No condition. -/
namespace Go.Proofs.Ytjcbaelefacolaa
open Go Go.RowKit
set_option maxHeartbeats 400000

set_option maxRecDepth 100000 in
set_option maxHeartbeats 400000 in
theorem sub1_any (w : World) (x : Sb) (who track layer tid : Int) (m : Bool) :
    Calls Try.prog 75 #[.agg (encB x).toArray, .agg #[.int .i64 who, .int .i64 track, .int .i64 layer, .int .i64 tid, .bool m]] w fun e w' => e = .returned (.int .i64 (cB who track x)) ∧ Upd [] w w' := by
  obtain ⟨a, b, c, d, e⟩ := x
  unfold encB cB
  dsimp only
  obtain ⟨y1, hy1⟩ : ∃ y1, y1 = cmpI a who := ⟨_, rfl⟩
  obtain ⟨y2, hy2⟩ : ∃ y2, y2 = cmpI b track := ⟨_, rfl⟩
  rw [← hy1, ← hy2]
  obtain ⟨y3, hy3⟩ : ∃ y3, y3 = (if y1 ≠ 0 then y1 else y2) := ⟨_, rfl⟩
  rw [← hy3]
  have HY3 := Lib.hid hy3
  clear hy3
  have HY1 := Lib.hid hy1
  have HY2 := Lib.hid hy2
  clear hy1 hy2
  go_enter Try.func75, Try.ntmps75
  go_upto_region 1 with fail
  obtain ⟨W, hW⟩ : ∃ W, W = (w.alloc (.cells #[.int .i64 a, .int .i64 b, .int .i64 c, .int .i64 d, .bool e] 55)).alloc (.cells #[.int .i64 who, .int .i64 track, .int .i64 layer, .int .i64 tid, .bool m] 55) := ⟨_, rfl⟩
  have hu : Upd [] w W := by rw [hW]; exact ((Upd.refl [] w).alloc _).alloc _
  have hb1 : Blk W w.heap.size 55 #[.int .i64 a, .int .i64 b, .int .i64 c, .int .i64 d, .bool e] := by rw [hW]; exact (Blk.new _ _ _).alloc _
  have hb2 : Blk W (w.heap.size + 1) 55 #[.int .i64 who, .int .i64 track, .int .i64 layer, .int .i64 tid, .bool m] := by
    have := Blk.new (w.alloc (.cells #[.int .i64 a, .int .i64 b, .int .i64 c, .int .i64 d, .bool e] 55)) 55 #[.int .i64 who, .int .i64 track, .int .i64 layer, .int .i64 tid, .bool m]
    rw [World.size_alloc] at this
    rw [hW]; exact this
  rw [← hW]
  obtain ⟨g, hg⟩ : ∃ g, g = w.heap.size := ⟨_, rfl⟩
  obtain ⟨g2, hg2⟩ : ∃ g2, g2 = g + 1 := ⟨_, rfl⟩
  rw [← hg] at hb1 hb2 ⊢
  rw [← hg2] at hb2 ⊢
  have c0 : ∀ z : Cls (Upd [] W), z.w.cell? ⟨g, 0, none⟩ = some (.int .i64 a) := fun z => (z.h.cell (p := ⟨g, 0, none⟩) hb1.lt (by simp)).trans (hb1.cell 0)
  have c1 : ∀ z : Cls (Upd [] W), z.w.cell? ⟨g, 1, none⟩ = some (.int .i64 b) := fun z => (z.h.cell (p := ⟨g, 1, none⟩) hb1.lt (by simp)).trans (hb1.cell 1)
  have d0 : ∀ z : Cls (Upd [] W), z.w.cell? ⟨g2, 0, none⟩ = some (.int .i64 who) := fun z => (z.h.cell (p := ⟨g2, 0, none⟩) hb2.lt (by simp)).trans (hb2.cell 0)
  have d1 : ∀ z : Cls (Upd [] W), z.w.cell? ⟨g2, 1, none⟩ = some (.int .i64 track) := fun z => (z.h.cell (p := ⟨g2, 1, none⟩) hb2.lt (by simp)).trans (hb2.cell 1)
  have H1 := Lib.hid (fun (z : Cls (Upd [] W)) => quiet_cls (C := Upd [] W) (x := z) ((compare_any z.w a who).mono fun e w' h => ⟨h.1, h.2 ▸ z.h⟩))
  have H2 := Lib.hid (fun (z : Cls (Upd [] W)) => quiet_cls (C := Upd [] W) (x := z) ((compare_any z.w b track).mono fun e w' h => ⟨h.1, h.2 ▸ z.h⟩))
  have HU := Lib.hid hu
  clear hW hb1 hb2 hu hg hg2
  rw [← HY1.out] at H1
  rw [← HY2.out] at H2
  refine wp_class_tail (Upd [] W) ((Upd.refl _ _).drewN 1) 10 (by kernel_rfl) (by kernel_rfl) (fun _ _ _ _ h => h) ?_
  intro hne
  simp only [List.take_succ_cons, List.take_zero, List.drop_succ_cons, List.drop_zero]
  repeat (go_big_quiet_step ((go_at_call 69; first | with_reducible exact H1.out _ | with_reducible exact H2.out _)))
  refine wpQuiet_nil ?_
  rintro _ ⟨xe, rfl⟩
  have hux := HU.out.next xe.h
  obtain ⟨W2, hW2⟩ : ∃ W2, W2 = xe.w := ⟨_, rfl⟩
  rw [← hW2] at hux ⊢
  have HUX := Lib.hid hux
  clear hW2 hux c0 c1 d0 d1 H1 H2
  have HO := Lib.hid (or_any (w := W2.alloc (.cells #[.int .i64 y1, .int .i64 y2] 3)) (A := some ⟨W2.heap.size, 0, none⟩) (c := 2) (x := y1) (y := y2) ⟨rfl, fun _ => ⟨W2.heap.size, 0, rfl, Nat.zero_le _, by simp, fun j u hj => by
    rw [Nat.zero_add, (Blk.new W2 3 #[.int .i64 y1, .int .i64 y2]).cell j]
    simpa using hj⟩⟩)
  rw [← HY3.out] at HO
  go_wp2_with fail
  refine HO.out.mono ?_
  rintro e w3 ⟨rfl, rfl⟩
  clear HO
  go_wp2
  go_ret
  exact ⟨rfl, HUX.out.alloc _⟩
end Go.Proofs.Ytjcbaelefacolaa
/- slices.BinarySearchFunc at louver/delta.Person. Conditions: what the search asks rises; no more than 100000. -/
namespace Go.Proofs.Ytjcbaelefacolaa
open Go Go.RowKit
set_option maxHeartbeats 400000

set_option maxRecDepth 100000 in
theorem findP_any {w : World} {A : Option Addr} {n c : Nat} {l : List Per} (who : Int) (h : CellsIn w 0 w.heap.size 3 A n (l.flatMap encP)) (hn : l.length = n) (hl : n ≤ 100000) (hr : Rise (cP who) l) :
    Calls Try.prog 67 #[.slice A n c, .int .i64 who, .func (.func 68) #[] #[]] w fun e w' => e = .returned (.tuple #[.int .i64 (low (cP who) l), .bool (has (cP who) l)]) ∧ Upd [] w w' := by
  have HC := Lib.hid h
  have HN := Lib.hid hn
  have HR := Lib.hid hr
  obtain ⟨lo, hlo⟩ : ∃ lo, lo = low (cP who) l := ⟨_, rfl⟩
  obtain ⟨ha, hha⟩ : ∃ ha, ha = has (cP who) l := ⟨_, rfl⟩
  rw [← hlo, ← hha]
  have HLO := Lib.hid hlo
  have HHA := Lib.hid hha
  clear h hn hr hlo hha
  go_enter Try.func67, Try.ntmps67
  go_wp2
  go_loopg [9, 10] (n + 1) (fun gk x9 x10 wr => ∃ (i j : Nat), i ≤ j ∧ j ≤ n ∧ j - i < gk ∧ x9 = .int .i64 i ∧ x10 = .int .i64 j ∧ i ≤ lo ∧ lo ≤ j ∧ Upd [] w wr)
  case atStart => exact ⟨0, n, Nat.zero_le _, Nat.le_refl _, by omega, rfl, rfl, Nat.zero_le _, by rw [HLO.out, ← HN.out]; exact low_le _ _, Upd.refl _ _⟩
  case round =>
    obtain ⟨i, j, hij, hjn, hgi, rfl, rfl, hil, hlj, hu⟩ := hrel
    by_cases hlt : i < j
    · have hlti : (i : Int) < (j : Int) := by omega
      obtain ⟨k, hk⟩ : ∃ k, k = (i + j) / 2 := ⟨_, rfl⟩
      have hki : i ≤ k ∧ k < j := by omega
      obtain ⟨x, hx⟩ : ∃ x, l[k]? = some x := ⟨_, List.getElem?_eq_getElem (by rw [HN.out]; omega)⟩
      obtain ⟨b, off, rfl, _, hb, hcc⟩ := HC.out.2 (by omega)
      have hcl := person1_any wr x who
      have hcx := rise_low HR.out k x hx
      rw [← HLO.out] at hcx
      try dsimp only at hcx
      obtain ⟨y, hy⟩ : ∃ y, y = cP who x := ⟨_, rfl⟩
      rw [← hy] at hcx hcl
      have HCX := Lib.hid hcx
      have HCL := Lib.hid hcl
      have c0 := (hu.cell (p := ⟨b, off + (k * 3 + 0), none⟩) hb (by simp)).trans (hcc (k * 3 + 0) _ (flat_get encP_len l k 0 x hx (by omega)))
      have c1 := (hu.cell (p := ⟨b, off + (k * 3 + 1), none⟩) hb (by simp)).trans (hcc (k * 3 + 1) _ (flat_get encP_len l k 1 x hx (by omega)))
      have c2 := (hu.cell (p := ⟨b, off + (k * 3 + 2), none⟩) hb (by simp)).trans (hcc (k * 3 + 2) _ (flat_get encP_len l k 2 x hx (by omega)))
      obtain ⟨x0, x1, x2⟩ := x
      simp only [encP, List.getElem?_cons_zero, List.getElem?_cons_succ, List.getElem_cons_zero, List.getElem_cons_succ, ← Nat.add_assoc, Nat.add_zero] at c0 c1 c2
      simp only [encP] at HCL
      have hsum : IntKind.i64.wrap ((i : Int) + (j : Int)) = ((i + j : Nat) : Int) := by rw [IntWalk.i64_in _ (by omega)]; omega
      have hsu : IntKind.u64.wrap ((i + j : Nat) : Int) = ((i + j : Nat) : Int) := IntWalk.u64_in _ (by omega)
      have hkn : (k : Int) < (n : Int) := by omega
      have hwk : IntKind.i64.wrap ((k : Int) + 1) = ((k + 1 : Nat) : Int) := by rw [IntWalk.i64_in _ (by omega)]; omega
      have HUU := Lib.hid hu
      have HK := Lib.hid hk
      have HDV : Hid (((i : Int) + (j : Int)) / 2 = (k : Int)) := Lib.hid (by omega)
      have hdw : IntKind.i64.wrap (k : Int) = (k : Int) := IntWalk.i64_in _ (by omega)
      clear hcx hcl hcc hu hx hy hb hk
      go_upto_region 5 with fail
      rw [HDV.out]
      go_wp2_with fail
      refine HCL.out.mono ?_
      rintro e w1 ⟨rfl, hu1⟩
      have HU1 := Lib.hid (HUU.out.next hu1)
      clear hu1 HCL c0 c1 c2
      by_cases hy0 : y < 0
      · go_wp2
        go_roundg (gk - 1)
        case measure => omega
        case rel => exact ⟨k + 1, j, by omega, hjn, by omega, by go_num, rfl, by
          have := HCX.out.2.1
          omega, hlj, HU1.out⟩
      · have hy0' : ¬ y < 0 := hy0
        go_wp2
        go_roundg (gk - 1)
        case measure => omega
        case rel => exact ⟨i, k, by omega, by omega, by omega, rfl, rfl, hil, by
          have := HCX.out.1
          omega, HU1.out⟩
    · obtain rfl : i = j := by omega
      obtain rfl : i = lo := by omega
      by_cases hin : i < n
      · have hini : (i : Int) < (n : Int) := by omega
        obtain ⟨x, hx⟩ : ∃ x, l[i]? = some x := ⟨_, List.getElem?_eq_getElem (by rw [HN.out]; omega)⟩
        obtain ⟨b, off, rfl, _, hb, hcc⟩ := HC.out.2 (by omega)
        have hcl := person1_any wr x who
        obtain ⟨y, hy⟩ : ∃ y, y = cP who x := ⟨_, rfl⟩
        rw [← hy] at hcl
        have HCL := Lib.hid hcl
        have HY : Hid (ha = decide (y = 0)) := by
          refine Lib.hid ?_
          have hra := rise_has HR.out
          rw [← HHA.out, ← HLO.out, hx] at hra
          rw [hy, ← Bool.coe_iff_coe, hra]
          simp
        have c0 := (hu.cell (p := ⟨b, off + (i * 3 + 0), none⟩) hb (by simp)).trans (hcc (i * 3 + 0) _ (flat_get encP_len l i 0 x hx (by omega)))
        have c1 := (hu.cell (p := ⟨b, off + (i * 3 + 1), none⟩) hb (by simp)).trans (hcc (i * 3 + 1) _ (flat_get encP_len l i 1 x hx (by omega)))
        have c2 := (hu.cell (p := ⟨b, off + (i * 3 + 2), none⟩) hb (by simp)).trans (hcc (i * 3 + 2) _ (flat_get encP_len l i 2 x hx (by omega)))
        obtain ⟨x0, x1, x2⟩ := x
        simp only [encP, List.getElem?_cons_zero, List.getElem?_cons_succ, List.getElem_cons_zero, List.getElem_cons_succ, ← Nat.add_assoc, Nat.add_zero] at c0 c1 c2
        simp only [encP] at HCL
        have HUU := Lib.hid hu
        clear hcl hcc hu hx hy hb
        go_wp2_with fail
        refine HCL.out.mono ?_
        rintro e w1 ⟨rfl, hu1⟩
        have HU1 := Lib.hid (HUU.out.next hu1)
        clear hu1 HCL c0 c1 c2
        by_cases hy0 : y = 0
        · subst hy0
          go_wp2
          exact bodyPost_res (v := .tuple #[.int .i64 (i : Int), .bool true]) (by simp [results, Try.results67, go_sem]) rfl ⟨by rw [HY.out]; rfl, HU1.out⟩
        · have hyb : (y == 0) = false := beq_eq_false_iff_ne.2 hy0
          go_wp2
          exact bodyPost_res (v := .tuple #[.int .i64 (i : Int), .bool false]) (by simp [results, Try.results67, go_sem]) rfl ⟨by rw [HY.out]; simp [hy0], HU1.out⟩
      · have hini : ¬ (i : Int) < (n : Int) := by omega
        have HY : Hid (ha = false) := by
          refine Lib.hid ?_
          have hra := rise_has HR.out
          rw [← HHA.out, ← HLO.out, List.getElem?_eq_none (by rw [HN.out]; omega)] at hra
          cases ha
          · rfl
          · exact absurd (hra.1 rfl) (by simp)
        have HUU := Lib.hid hu
        clear hu
        go_wp2
        exact bodyPost_res (v := .tuple #[.int .i64 (i : Int), .bool false]) (by simp [results, Try.results67, go_sem]) rfl ⟨by rw [HY.out], HUU.out⟩
end Go.Proofs.Ytjcbaelefacolaa
/- slices.BinarySearchFunc at louver/delta.Track. Conditions: what the search asks rises; no more than 100000. -/
namespace Go.Proofs.Ytjcbaelefacolaa
open Go Go.RowKit
set_option maxHeartbeats 400000

set_option maxRecDepth 100000 in
theorem findT_any {w : World} {A : Option Addr} {n c : Nat} {l : List (Trk × SH)} (id : Int) (h : CellsIn w 0 w.heap.size 4 A n (l.flatMap encT)) (hn : l.length = n) (hl : n ≤ 100000) (hr : Rise (fun x => cT id x.1) l) :
    Calls Try.prog 82 #[.slice A n c, .int .i64 id, .func (.func 83) #[] #[]] w fun e w' => e = .returned (.tuple #[.int .i64 (low (fun x => cT id x.1) l), .bool (has (fun x => cT id x.1) l)]) ∧ Upd [] w w' := by
  have HC := Lib.hid h
  have HN := Lib.hid hn
  have HR := Lib.hid hr
  obtain ⟨lo, hlo⟩ : ∃ lo, lo = low (fun x => cT id x.1) l := ⟨_, rfl⟩
  obtain ⟨ha, hha⟩ : ∃ ha, ha = has (fun x => cT id x.1) l := ⟨_, rfl⟩
  rw [← hlo, ← hha]
  have HLO := Lib.hid hlo
  have HHA := Lib.hid hha
  clear h hn hr hlo hha
  go_enter Try.func82, Try.ntmps82
  go_wp2
  go_loopg [9, 10] (n + 1) (fun gk x9 x10 wr => ∃ (i j : Nat), i ≤ j ∧ j ≤ n ∧ j - i < gk ∧ x9 = .int .i64 i ∧ x10 = .int .i64 j ∧ i ≤ lo ∧ lo ≤ j ∧ Upd [] w wr)
  case atStart => exact ⟨0, n, Nat.zero_le _, Nat.le_refl _, by omega, rfl, rfl, Nat.zero_le _, by rw [HLO.out, ← HN.out]; exact low_le _ _, Upd.refl _ _⟩
  case round =>
    obtain ⟨i, j, hij, hjn, hgi, rfl, rfl, hil, hlj, hu⟩ := hrel
    by_cases hlt : i < j
    · have hlti : (i : Int) < (j : Int) := by omega
      obtain ⟨k, hk⟩ : ∃ k, k = (i + j) / 2 := ⟨_, rfl⟩
      have hki : i ≤ k ∧ k < j := by omega
      obtain ⟨x, hx⟩ : ∃ x, l[k]? = some x := ⟨_, List.getElem?_eq_getElem (by rw [HN.out]; omega)⟩
      obtain ⟨b, off, rfl, _, hb, hcc⟩ := HC.out.2 (by omega)
      have hcl := track1_any wr x id
      have hcx := rise_low HR.out k x hx
      rw [← HLO.out] at hcx
      try dsimp only at hcx
      obtain ⟨y, hy⟩ : ∃ y, y = cT id x.1 := ⟨_, rfl⟩
      rw [← hy] at hcx hcl
      have HCX := Lib.hid hcx
      have HCL := Lib.hid hcl
      have c0 := (hu.cell (p := ⟨b, off + (k * 4 + 0), none⟩) hb (by simp)).trans (hcc (k * 4 + 0) _ (flat_get encT_len l k 0 x hx (by omega)))
      have c1 := (hu.cell (p := ⟨b, off + (k * 4 + 1), none⟩) hb (by simp)).trans (hcc (k * 4 + 1) _ (flat_get encT_len l k 1 x hx (by omega)))
      have c2 := (hu.cell (p := ⟨b, off + (k * 4 + 2), none⟩) hb (by simp)).trans (hcc (k * 4 + 2) _ (flat_get encT_len l k 2 x hx (by omega)))
      have c3 := (hu.cell (p := ⟨b, off + (k * 4 + 3), none⟩) hb (by simp)).trans (hcc (k * 4 + 3) _ (flat_get encT_len l k 3 x hx (by omega)))
      obtain ⟨⟨x0, x1, x2, xs⟩, ⟨xA, xc⟩⟩ := x
      simp only [encT, List.getElem?_cons_zero, List.getElem?_cons_succ, List.getElem_cons_zero, List.getElem_cons_succ, ← Nat.add_assoc, Nat.add_zero] at c0 c1 c2 c3
      simp only [encT] at HCL
      have hsum : IntKind.i64.wrap ((i : Int) + (j : Int)) = ((i + j : Nat) : Int) := by rw [IntWalk.i64_in _ (by omega)]; omega
      have hsu : IntKind.u64.wrap ((i + j : Nat) : Int) = ((i + j : Nat) : Int) := IntWalk.u64_in _ (by omega)
      have hkn : (k : Int) < (n : Int) := by omega
      have hwk : IntKind.i64.wrap ((k : Int) + 1) = ((k + 1 : Nat) : Int) := by rw [IntWalk.i64_in _ (by omega)]; omega
      have HUU := Lib.hid hu
      have HK := Lib.hid hk
      have HDV : Hid (((i : Int) + (j : Int)) / 2 = (k : Int)) := Lib.hid (by omega)
      have hdw : IntKind.i64.wrap (k : Int) = (k : Int) := IntWalk.i64_in _ (by omega)
      clear hcx hcl hcc hu hx hy hb hk
      go_upto_region 5 with fail
      rw [HDV.out]
      go_wp2_with fail
      refine HCL.out.mono ?_
      rintro e w1 ⟨rfl, hu1⟩
      have HU1 := Lib.hid (HUU.out.next hu1)
      clear hu1 HCL c0 c1 c2 c3
      by_cases hy0 : y < 0
      · go_wp2
        go_roundg (gk - 1)
        case measure => omega
        case rel => exact ⟨k + 1, j, by omega, hjn, by omega, by go_num, rfl, by
          have := HCX.out.2.1
          omega, hlj, HU1.out⟩
      · have hy0' : ¬ y < 0 := hy0
        go_wp2
        go_roundg (gk - 1)
        case measure => omega
        case rel => exact ⟨i, k, by omega, by omega, by omega, rfl, rfl, hil, by
          have := HCX.out.1
          omega, HU1.out⟩
    · obtain rfl : i = j := by omega
      obtain rfl : i = lo := by omega
      by_cases hin : i < n
      · have hini : (i : Int) < (n : Int) := by omega
        obtain ⟨x, hx⟩ : ∃ x, l[i]? = some x := ⟨_, List.getElem?_eq_getElem (by rw [HN.out]; omega)⟩
        obtain ⟨b, off, rfl, _, hb, hcc⟩ := HC.out.2 (by omega)
        have hcl := track1_any wr x id
        obtain ⟨y, hy⟩ : ∃ y, y = cT id x.1 := ⟨_, rfl⟩
        rw [← hy] at hcl
        have HCL := Lib.hid hcl
        have HY : Hid (ha = decide (y = 0)) := by
          refine Lib.hid ?_
          have hra := rise_has HR.out
          rw [← HHA.out, ← HLO.out, hx] at hra
          rw [hy, ← Bool.coe_iff_coe, hra]
          simp
        have c0 := (hu.cell (p := ⟨b, off + (i * 4 + 0), none⟩) hb (by simp)).trans (hcc (i * 4 + 0) _ (flat_get encT_len l i 0 x hx (by omega)))
        have c1 := (hu.cell (p := ⟨b, off + (i * 4 + 1), none⟩) hb (by simp)).trans (hcc (i * 4 + 1) _ (flat_get encT_len l i 1 x hx (by omega)))
        have c2 := (hu.cell (p := ⟨b, off + (i * 4 + 2), none⟩) hb (by simp)).trans (hcc (i * 4 + 2) _ (flat_get encT_len l i 2 x hx (by omega)))
        have c3 := (hu.cell (p := ⟨b, off + (i * 4 + 3), none⟩) hb (by simp)).trans (hcc (i * 4 + 3) _ (flat_get encT_len l i 3 x hx (by omega)))
        obtain ⟨⟨x0, x1, x2, xs⟩, ⟨xA, xc⟩⟩ := x
        simp only [encT, List.getElem?_cons_zero, List.getElem?_cons_succ, List.getElem_cons_zero, List.getElem_cons_succ, ← Nat.add_assoc, Nat.add_zero] at c0 c1 c2 c3
        simp only [encT] at HCL
        have HUU := Lib.hid hu
        clear hcl hcc hu hx hy hb
        go_wp2_with fail
        refine HCL.out.mono ?_
        rintro e w1 ⟨rfl, hu1⟩
        have HU1 := Lib.hid (HUU.out.next hu1)
        clear hu1 HCL c0 c1 c2 c3
        by_cases hy0 : y = 0
        · subst hy0
          go_wp2
          exact bodyPost_res (v := .tuple #[.int .i64 (i : Int), .bool true]) (by simp [results, Try.results82, go_sem]) rfl ⟨by rw [HY.out]; rfl, HU1.out⟩
        · have hyb : (y == 0) = false := beq_eq_false_iff_ne.2 hy0
          go_wp2
          exact bodyPost_res (v := .tuple #[.int .i64 (i : Int), .bool false]) (by simp [results, Try.results82, go_sem]) rfl ⟨by rw [HY.out]; simp [hy0], HU1.out⟩
      · have hini : ¬ (i : Int) < (n : Int) := by omega
        have HY : Hid (ha = false) := by
          refine Lib.hid ?_
          have hra := rise_has HR.out
          rw [← HHA.out, ← HLO.out, List.getElem?_eq_none (by rw [HN.out]; omega)] at hra
          cases ha
          · rfl
          · exact absurd (hra.1 rfl) (by simp)
        have HUU := Lib.hid hu
        clear hu
        go_wp2
        exact bodyPost_res (v := .tuple #[.int .i64 (i : Int), .bool false]) (by simp [results, Try.results82, go_sem]) rfl ⟨by rw [HY.out], HUU.out⟩
end Go.Proofs.Ytjcbaelefacolaa
/- slices.BinarySearchFunc at louver/delta.Sub. Conditions: what the search asks rises; no more than 100000. -/
namespace Go.Proofs.Ytjcbaelefacolaa
open Go Go.RowKit
set_option maxHeartbeats 400000

set_option maxRecDepth 100000 in
theorem findB_any {w : World} {A : Option Addr} {n c : Nat} {l : List Sb} (who track layer tid : Int) (m : Bool) (h : CellsIn w 0 w.heap.size 5 A n (l.flatMap encB)) (hn : l.length = n) (hl : n ≤ 100000) (hr : Rise (cB who track) l) :
    Calls Try.prog 74 #[.slice A n c, .agg #[.int .i64 who, .int .i64 track, .int .i64 layer, .int .i64 tid, .bool m], .func (.func 75) #[] #[]] w fun e w' => e = .returned (.tuple #[.int .i64 (low (cB who track) l), .bool (has (cB who track) l)]) ∧ Upd [] w w' := by
  have HC := Lib.hid h
  have HN := Lib.hid hn
  have HR := Lib.hid hr
  obtain ⟨W, hW⟩ : ∃ W, W = w.alloc (.cells #[.int .i64 who, .int .i64 track, .int .i64 layer, .int .i64 tid, .bool m] 55) := ⟨_, rfl⟩
  have hB : Blk W w.heap.size 55 #[.int .i64 who, .int .i64 track, .int .i64 layer, .int .i64 tid, .bool m] := by rw [hW]; exact Blk.new _ _ _
  have HW : Hid (Upd [] w W) := by rw [hW]; exact Lib.hid ((Upd.refl [] w).alloc _)
  obtain ⟨g, hg⟩ : ∃ g, g = w.heap.size := ⟨_, rfl⟩
  rw [← hg] at hB
  have HB := Lib.hid hB
  clear hB
  obtain ⟨lo, hlo⟩ : ∃ lo, lo = low (cB who track) l := ⟨_, rfl⟩
  obtain ⟨ha, hha⟩ : ∃ ha, ha = has (cB who track) l := ⟨_, rfl⟩
  rw [← hlo, ← hha]
  have HLO := Lib.hid hlo
  have HHA := Lib.hid hha
  clear h hn hr hlo hha
  go_enter Try.func74, Try.ntmps74
  go_upto_region 3 with fail
  rw [← hW, ← hg]
  clear hW hg
  go_loopg [9, 10] (n + 1) (fun gk x9 x10 wr => ∃ (i j : Nat), i ≤ j ∧ j ≤ n ∧ j - i < gk ∧ x9 = .int .i64 i ∧ x10 = .int .i64 j ∧ i ≤ lo ∧ lo ≤ j ∧ Upd [] W wr)
  case atStart => exact ⟨0, n, Nat.zero_le _, Nat.le_refl _, by omega, rfl, rfl, Nat.zero_le _, by rw [HLO.out, ← HN.out]; exact low_le _ _, Upd.refl _ _⟩
  case round =>
    obtain ⟨i, j, hij, hjn, hgi, rfl, rfl, hil, hlj, hu⟩ := hrel
    by_cases hlt : i < j
    · have hlti : (i : Int) < (j : Int) := by omega
      obtain ⟨k, hk⟩ : ∃ k, k = (i + j) / 2 := ⟨_, rfl⟩
      have hki : i ≤ k ∧ k < j := by omega
      obtain ⟨x, hx⟩ : ∃ x, l[k]? = some x := ⟨_, List.getElem?_eq_getElem (by rw [HN.out]; omega)⟩
      obtain ⟨b, off, rfl, _, hb, hcc⟩ := HC.out.2 (by omega)
      have hcl : ∀ z : Cls (Upd [] wr), _ := fun z => quiet_cls (C := Upd [] wr) (x := z) ((sub1_any z.w x who track layer tid m).mono fun e w' h => ⟨h.1, z.h.next h.2⟩)
      have hcx := rise_low HR.out k x hx
      rw [← HLO.out] at hcx
      try dsimp only at hcx
      obtain ⟨y, hy⟩ : ∃ y, y = cB who track x := ⟨_, rfl⟩
      rw [← hy] at hcx hcl
      have HCX := Lib.hid hcx
      have HCL := Lib.hid hcl
      have c0 : ∀ z : Cls (Upd [] wr), z.w.cell? ⟨b, off + (k * 5 + 0), none⟩ = _ := fun z => (((HW.out.next hu).next z.h).cell (p := ⟨b, off + (k * 5 + 0), none⟩) hb (by simp)).trans (hcc (k * 5 + 0) _ (flat_get encB_len l k 0 x hx (by omega)))
      have c1 : ∀ z : Cls (Upd [] wr), z.w.cell? ⟨b, off + (k * 5 + 1), none⟩ = _ := fun z => (((HW.out.next hu).next z.h).cell (p := ⟨b, off + (k * 5 + 1), none⟩) hb (by simp)).trans (hcc (k * 5 + 1) _ (flat_get encB_len l k 1 x hx (by omega)))
      have c2 : ∀ z : Cls (Upd [] wr), z.w.cell? ⟨b, off + (k * 5 + 2), none⟩ = _ := fun z => (((HW.out.next hu).next z.h).cell (p := ⟨b, off + (k * 5 + 2), none⟩) hb (by simp)).trans (hcc (k * 5 + 2) _ (flat_get encB_len l k 2 x hx (by omega)))
      have c3 : ∀ z : Cls (Upd [] wr), z.w.cell? ⟨b, off + (k * 5 + 3), none⟩ = _ := fun z => (((HW.out.next hu).next z.h).cell (p := ⟨b, off + (k * 5 + 3), none⟩) hb (by simp)).trans (hcc (k * 5 + 3) _ (flat_get encB_len l k 3 x hx (by omega)))
      have c4 : ∀ z : Cls (Upd [] wr), z.w.cell? ⟨b, off + (k * 5 + 4), none⟩ = _ := fun z => (((HW.out.next hu).next z.h).cell (p := ⟨b, off + (k * 5 + 4), none⟩) hb (by simp)).trans (hcc (k * 5 + 4) _ (flat_get encB_len l k 4 x hx (by omega)))
      obtain ⟨x0, x1, x2, x3, x4⟩ := x
      simp only [encB, List.getElem?_cons_zero, List.getElem?_cons_succ, List.getElem_cons_zero, List.getElem_cons_succ, ← Nat.add_assoc, Nat.add_zero] at c0 c1 c2 c3 c4
      simp only [encB] at HCL
      have hsum : IntKind.i64.wrap ((i : Int) + (j : Int)) = ((i + j : Nat) : Int) := by rw [IntWalk.i64_in _ (by omega)]; omega
      have hsu : IntKind.u64.wrap ((i + j : Nat) : Int) = ((i + j : Nat) : Int) := IntWalk.u64_in _ (by omega)
      have hkn : (k : Int) < (n : Int) := by omega
      have hwk : IntKind.i64.wrap ((k : Int) + 1) = ((k + 1 : Nat) : Int) := by rw [IntWalk.i64_in _ (by omega)]; omega
      have HUU := Lib.hid hu
      have HK := Lib.hid hk
      have HDV : Hid (((i : Int) + (j : Int)) / 2 = (k : Int)) := Lib.hid (by omega)
      have hdw : IntKind.i64.wrap (k : Int) = (k : Int) := IntWalk.i64_in _ (by omega)
      have d0 : ∀ z : Cls (Upd [] wr), z.w.cell? ⟨g, 0, none⟩ = some (.int .i64 who) := fun z => (((hu.next z.h)).cell (p := ⟨g, 0, none⟩) HB.out.lt (by simp)).trans (HB.out.cell 0)
      have d1 : ∀ z : Cls (Upd [] wr), z.w.cell? ⟨g, 1, none⟩ = some (.int .i64 track) := fun z => (((hu.next z.h)).cell (p := ⟨g, 1, none⟩) HB.out.lt (by simp)).trans (HB.out.cell 1)
      have d2 : ∀ z : Cls (Upd [] wr), z.w.cell? ⟨g, 2, none⟩ = some (.int .i64 layer) := fun z => (((hu.next z.h)).cell (p := ⟨g, 2, none⟩) HB.out.lt (by simp)).trans (HB.out.cell 2)
      have d3 : ∀ z : Cls (Upd [] wr), z.w.cell? ⟨g, 3, none⟩ = some (.int .i64 tid) := fun z => (((hu.next z.h)).cell (p := ⟨g, 3, none⟩) HB.out.lt (by simp)).trans (HB.out.cell 3)
      have d4 : ∀ z : Cls (Upd [] wr), z.w.cell? ⟨g, 4, none⟩ = some (.bool m) := fun z => (((hu.next z.h)).cell (p := ⟨g, 4, none⟩) HB.out.lt (by simp)).trans (HB.out.cell 4)
      clear hcx hcl hcc hu hx hy hb hk
      go_upto_region 5 with fail
      rw [HDV.out]
      refine wp_class_tail (Upd [] wr) ((Upd.refl _ _).drewN 1) 7 (by kernel_rfl) (by kernel_rfl) (fun _ _ _ _ h => h) ?_
      intro hne
      simp only [List.take_succ_cons, List.take_zero, List.drop_succ_cons, List.drop_zero]
      repeat (go_big_quiet_step ((go_at_call 75; with_reducible exact HCL.out _)))
      refine wpQuiet_nil ?_
      rintro _ ⟨xe, rfl⟩
      have hux := HUU.out.next xe.h
      obtain ⟨w1, hw1⟩ : ∃ W2, W2 = xe.w := ⟨_, rfl⟩
      rw [← hw1] at hux ⊢
      have HU1 := Lib.hid hux
      clear hw1 hux HCL c0 c1 c2 c3 c4 d0 d1 d2 d3 d4
      by_cases hy0 : y < 0
      · go_wp2
        go_roundg (gk - 1)
        case measure => omega
        case rel => exact ⟨k + 1, j, by omega, hjn, by omega, by go_num, rfl, by
          have := HCX.out.2.1
          omega, hlj, HU1.out⟩
      · have hy0' : ¬ y < 0 := hy0
        go_wp2
        go_roundg (gk - 1)
        case measure => omega
        case rel => exact ⟨i, k, by omega, by omega, by omega, rfl, rfl, hil, by
          have := HCX.out.1
          omega, HU1.out⟩
    · obtain rfl : i = j := by omega
      obtain rfl : i = lo := by omega
      by_cases hin : i < n
      · have hini : (i : Int) < (n : Int) := by omega
        obtain ⟨x, hx⟩ : ∃ x, l[i]? = some x := ⟨_, List.getElem?_eq_getElem (by rw [HN.out]; omega)⟩
        obtain ⟨b, off, rfl, _, hb, hcc⟩ := HC.out.2 (by omega)
        have hcl : ∀ z : Cls (Upd [] wr), _ := fun z => quiet_cls (C := Upd [] wr) (x := z) ((sub1_any z.w x who track layer tid m).mono fun e w' h => ⟨h.1, z.h.next h.2⟩)
        obtain ⟨y, hy⟩ : ∃ y, y = cB who track x := ⟨_, rfl⟩
        rw [← hy] at hcl
        have HCL := Lib.hid hcl
        have HY : Hid (ha = decide (y = 0)) := by
          refine Lib.hid ?_
          have hra := rise_has HR.out
          rw [← HHA.out, ← HLO.out, hx] at hra
          rw [hy, ← Bool.coe_iff_coe, hra]
          simp
        have c0 : ∀ z : Cls (Upd [] wr), z.w.cell? ⟨b, off + (i * 5 + 0), none⟩ = _ := fun z => (((HW.out.next hu).next z.h).cell (p := ⟨b, off + (i * 5 + 0), none⟩) hb (by simp)).trans (hcc (i * 5 + 0) _ (flat_get encB_len l i 0 x hx (by omega)))
        have c1 : ∀ z : Cls (Upd [] wr), z.w.cell? ⟨b, off + (i * 5 + 1), none⟩ = _ := fun z => (((HW.out.next hu).next z.h).cell (p := ⟨b, off + (i * 5 + 1), none⟩) hb (by simp)).trans (hcc (i * 5 + 1) _ (flat_get encB_len l i 1 x hx (by omega)))
        have c2 : ∀ z : Cls (Upd [] wr), z.w.cell? ⟨b, off + (i * 5 + 2), none⟩ = _ := fun z => (((HW.out.next hu).next z.h).cell (p := ⟨b, off + (i * 5 + 2), none⟩) hb (by simp)).trans (hcc (i * 5 + 2) _ (flat_get encB_len l i 2 x hx (by omega)))
        have c3 : ∀ z : Cls (Upd [] wr), z.w.cell? ⟨b, off + (i * 5 + 3), none⟩ = _ := fun z => (((HW.out.next hu).next z.h).cell (p := ⟨b, off + (i * 5 + 3), none⟩) hb (by simp)).trans (hcc (i * 5 + 3) _ (flat_get encB_len l i 3 x hx (by omega)))
        have c4 : ∀ z : Cls (Upd [] wr), z.w.cell? ⟨b, off + (i * 5 + 4), none⟩ = _ := fun z => (((HW.out.next hu).next z.h).cell (p := ⟨b, off + (i * 5 + 4), none⟩) hb (by simp)).trans (hcc (i * 5 + 4) _ (flat_get encB_len l i 4 x hx (by omega)))
        obtain ⟨x0, x1, x2, x3, x4⟩ := x
        simp only [encB, List.getElem?_cons_zero, List.getElem?_cons_succ, List.getElem_cons_zero, List.getElem_cons_succ, ← Nat.add_assoc, Nat.add_zero] at c0 c1 c2 c3 c4
        simp only [encB] at HCL
        have HUU := Lib.hid hu
        have d0 : ∀ z : Cls (Upd [] wr), z.w.cell? ⟨g, 0, none⟩ = some (.int .i64 who) := fun z => (((hu.next z.h)).cell (p := ⟨g, 0, none⟩) HB.out.lt (by simp)).trans (HB.out.cell 0)
        have d1 : ∀ z : Cls (Upd [] wr), z.w.cell? ⟨g, 1, none⟩ = some (.int .i64 track) := fun z => (((hu.next z.h)).cell (p := ⟨g, 1, none⟩) HB.out.lt (by simp)).trans (HB.out.cell 1)
        have d2 : ∀ z : Cls (Upd [] wr), z.w.cell? ⟨g, 2, none⟩ = some (.int .i64 layer) := fun z => (((hu.next z.h)).cell (p := ⟨g, 2, none⟩) HB.out.lt (by simp)).trans (HB.out.cell 2)
        have d3 : ∀ z : Cls (Upd [] wr), z.w.cell? ⟨g, 3, none⟩ = some (.int .i64 tid) := fun z => (((hu.next z.h)).cell (p := ⟨g, 3, none⟩) HB.out.lt (by simp)).trans (HB.out.cell 3)
        have d4 : ∀ z : Cls (Upd [] wr), z.w.cell? ⟨g, 4, none⟩ = some (.bool m) := fun z => (((hu.next z.h)).cell (p := ⟨g, 4, none⟩) HB.out.lt (by simp)).trans (HB.out.cell 4)
        clear hcl hcc hu hx hy hb
        go_upto_region 8 with fail
        refine wp_class_tail (Upd [] wr) ((Upd.refl _ _).drewN 1) 15 (by kernel_rfl) (by kernel_rfl) (fun _ _ _ _ h => h) ?_
        intro hne
        simp only [List.take_succ_cons, List.take_zero, List.drop_succ_cons, List.drop_zero]
        repeat (go_big_quiet_step ((go_at_call 75; with_reducible exact HCL.out _)))
        refine wpQuiet_nil ?_
        rintro _ ⟨xe, rfl⟩
        have hux := HUU.out.next xe.h
        obtain ⟨w1, hw1⟩ : ∃ W2, W2 = xe.w := ⟨_, rfl⟩
        rw [← hw1] at hux ⊢
        have HU1 := Lib.hid hux
        clear hw1 hux HCL c0 c1 c2 c3 c4 d0 d1 d2 d3 d4
        by_cases hy0 : y = 0
        · subst hy0
          go_wp2
          exact bodyPost_res (v := .tuple #[.int .i64 (i : Int), .bool true]) (by simp [results, Try.results74, go_sem]) rfl ⟨by rw [HY.out]; rfl, HW.out.next HU1.out⟩
        · have hyb : (y == 0) = false := beq_eq_false_iff_ne.2 hy0
          go_wp2
          exact bodyPost_res (v := .tuple #[.int .i64 (i : Int), .bool false]) (by simp [results, Try.results74, go_sem, hy0]) rfl ⟨by rw [HY.out]; simp [hy0], HW.out.next HU1.out⟩
      · have hini : ¬ (i : Int) < (n : Int) := by omega
        have HY : Hid (ha = false) := by
          refine Lib.hid ?_
          have hra := rise_has HR.out
          rw [← HHA.out, ← HLO.out, List.getElem?_eq_none (by rw [HN.out]; omega)] at hra
          cases ha
          · rfl
          · exact absurd (hra.1 rfl) (by simp)
        have HUU := Lib.hid hu
        have hd : decide ((i : Int) < (n : Int)) = false := decide_eq_false hini
        clear hu hini
        go_upto_region 8 with fail
        refine wp_class_tail (Upd [] wr) ((Upd.refl _ _).drewN 1) 15 (by kernel_rfl) (by kernel_rfl) (fun _ _ _ _ h => h) ?_
        intro hne
        simp only [List.take_succ_cons, List.take_zero, List.drop_succ_cons, List.drop_zero]
        repeat (go_big_quiet_step (fail))
        refine wpQuiet_nil ?_
        rintro _ ⟨xe, rfl⟩
        have hux := HUU.out.next xe.h
        obtain ⟨w1, hw1⟩ : ∃ W2, W2 = xe.w := ⟨_, rfl⟩
        rw [← hw1] at hux ⊢
        have HU1 := Lib.hid hux
        clear hw1 hux
        go_wp2
        exact bodyPost_res (v := .tuple #[.int .i64 (i : Int), .bool false]) (by simp [results, Try.results74, go_sem, hd]) rfl ⟨by rw [HY.out], HW.out.next HU1.out⟩
end Go.Proofs.Ytjcbaelefacolaa
/- A region that draws its order: some operations that give their value in whatever world are taken first, wherever they stand (nil checks, addresses, copies); then a head that stays in a class of worlds; then a tail in one forced order: one walk serves every order.
   Conditions: the Bool over the region holds; each operation of the head is quiet in the class; the tail is walked from each world of it. -/
namespace Go.Proofs.Ytjcbaelefacolaa
open Go

section
variable {P : Program} {ops : Array Oper} {md : Region.Mode} {C : World → Prop}

/-- what runs so ends, if it ends, with a value -/
def ValueOnly (s : Sem Next) : Prop := ∀ (P : Program) (w : World) (n : Next) (w' : World), s.run P w = .ok n w' → ∃ u, n = .value u
theorem ValueOnly.pure (u : Value) : ValueOnly (Pure.pure (.value u)) := fun P w n w' h => by
  rw [Sem.run_pure] at h
  injection h with h
  exact ⟨u, h.symm⟩
theorem ValueOnly.bind {α : Type} {s : Sem α} {f : α → Sem Next} (hf : ∀ x, ValueOnly (f x)) : ValueOnly (s >>= f) := fun P w n w' h => by
  rw [Sem.run_bind] at h
  cases hs : s.run P w with
  | ok x w1 => rw [hs, Result.andThen_ok] at h; exact hf x P w1 n w' h
  | halt e w1 => rw [hs] at h; cases h

/-- the operation is of a kind that gives a value and leaves the world alone, if it is quiet -/
def pureB (ops : Array Oper) (k : Nat) : Bool := match ops[k]? with
  | some o => match o.op with | .move _ => true | .assign _ => true | .fieldAddr _ _ _ => true | .indexAddr _ _ _ => true | .extract _ _ => true | .nilCheck _ => true | _ => false
  | none => false
theorem pureB_value {k : Nat} {o : Oper} {a : Act} (hk : ops[k]? = some o) (hm : pureB ops k = true) : ValueOnly (execOp a.eval o) := by
  unfold pureB at hm
  rw [hk] at hm
  dsimp only at hm
  split at hm
  · rename_i x hx; unfold execOp; rw [hx]; exact ValueOnly.pure _
  · rename_i x hx; unfold execOp; rw [hx]; exact ValueOnly.pure _
  · rename_i hx; unfold execOp; rw [hx]; exact ValueOnly.bind fun _ => ValueOnly.pure _
  · rename_i hx; unfold execOp; rw [hx]; exact ValueOnly.bind fun _ => ValueOnly.pure _
  · rename_i hx; unfold execOp; rw [hx]; exact ValueOnly.bind fun _ => ValueOnly.pure _
  · rename_i x hx
    unfold execOp
    rw [hx]
    dsimp only
    split
    · intro P w n w' h; simp [runtimePanic] at h
    · intro P w n w' h; simp [runtimePanic] at h
    · intro P w n w' h; simp [runtimePanic] at h
    · split
      · intro P w n w' h; simp [runtimePanic] at h
      · refine ValueOnly.bind fun _ => ValueOnly.bind fun _ => ?_
        split
        · exact ValueOnly.bind fun _ => ValueOnly.pure _
        · exact ValueOnly.pure _
      · exact ValueOnly.pure _
    · exact ValueOnly.pure _
  · cases hm
theorem yields_of_pure {k : Nat} {o : Oper} {v : Value} {a : Act} (hk : ops[k]? = some o) (hm : pureB ops k = true) (h : YieldsIn P ops (fun _ => True) o v a) : Yields P ops o v a := by
  rcases h with ⟨hw, h⟩ | ⟨hw, h⟩
  · refine .inl ⟨hw, fun w => ?_⟩
    have h1 := h w trivial
    have hv := pureB_value (a := a) hk hm
    unfold Oper.quietAt at h1
    cases hr : (execOp a.eval o).run P w with
    | ok n w' =>
      obtain ⟨u, rfl⟩ := hv P w n w' hr
      rw [hr] at h1
      obtain ⟨h2, h3⟩ := h1
      rw [h2, h3]
    | halt e w' => rw [hr] at h1; exact h1.elim
  · exact .inr ⟨hw, h⟩

/-- each of the operations up to the n-th is taken first, or waited for by a later one, up to the n-th -/
def sink3 (md : Region.Mode) (ops : Array Oper) (F : List Nat) (n : Nat) : Bool :=
  (List.range n).all fun i => F.contains i || (List.range (n + 1)).any fun j => decide (i < j) && Region.waitsFor md ops j i
/-- each operation behind the n-th is taken first, or waits for one from the n-th on that is not -/
def chain3 (md : Region.Mode) (ops : Array Oper) (F : List Nat) (n : Nat) : Bool :=
  (List.range ops.size).all fun t => decide (t ≤ n) || F.contains t || (List.range t).any fun j => decide (n ≤ j) && !F.contains j && Region.waitsFor md ops t j
/-- what holds of the marks while the head is under way -/
structure HeadOk3 (md : Region.Mode) (ops : Array Oper) (F : List Nat) (n : Nat) (done : Array Bool) : Prop where
  size : done.size = ops.size
  closed : ∀ j oj, ops[j]? = some oj → done.getD j false = true → ∀ e ∈ oj.after, Region.binds md e = true → done.getD e.on false = true
  tail : ∀ t, n ≤ t → t < ops.size → ¬ t ∈ F → done.getD t true = false
  pre : ∀ i, i ∈ F → done.getD i false = true

theorem HeadOk3.set {F : List Nat} {n i : Nat} {done : Array Bool} (h : HeadOk3 md ops F n done) (hi : i ∈ Region.ready md ops done) (hin : i < n) : HeadOk3 md ops F n (done.setIfInBounds i true) := by
  obtain ⟨_, oi, hoi, hall⟩ := mem_ready.1 hi
  refine ⟨by simp [h.size], fun j oj hj hl e he hb => ?_, fun t ht ht' hf => by rw [getD_set_ne true (by omega)]; exact h.tail t ht ht' hf, fun k hk => getD_set_true (h.pre k hk)⟩
  by_cases hij : i = j
  · subst hij
    have : oj = oi := Option.some.inj (hj.symm.trans hoi)
    subst this
    exact getD_set_true (hall e he hb)
  · rw [getD_set_ne false hij] at hl
    exact getD_set_true (h.closed j oj hj hl e he hb)

/-- as long as one of the head is still to come, none of the tail may come -/
theorem HeadOk3.waits {F : List Nat} {n : Nat} {done : Array Bool} (h : HeadOk3 md ops F n done) (hs : sink3 md ops F n = true) (hc : chain3 md ops F n = true) :
    ∀ (d i : Nat), n - i = d → i < n → done.getD i true = false → ∀ t, n ≤ t → t ∉ Region.ready md ops done := by
  intro d
  induction d using Nat.strongRecOn with
  | _ d ih =>
    intro i hd hi hun t ht hr
    obtain ⟨htun, ot, hot, hall⟩ := mem_ready.1 hr
    have htlt : t < ops.size := (Array.getElem?_eq_some_iff.1 hot).1
    have hF : ∀ j, done.getD j true = false → ¬ j ∈ F := fun j hj hm => by
      have h1 := h.pre j hm
      rw [getD_both hj] at h1
      exact absurd h1 (by decide)
    by_cases htn : t = n
    · have h1 := List.all_eq_true.1 hs i (List.mem_range.2 hi)
      simp only [Bool.or_eq_true, List.contains_iff_mem, hF i hun, false_or] at h1
      obtain ⟨j, hj, hj2⟩ := List.any_eq_true.1 h1
      simp only [Bool.and_eq_true, decide_eq_true_eq] at hj2
      obtain ⟨oj, hoj, e, he, hb, hon⟩ := Region.waitsFor_spec hj2.2
      have hjle := List.mem_range.1 hj
      by_cases hjt : j = t
      · rw [hjt, hot] at hoj
        have h2 := hall e (by rw [Option.some.inj hoj]; exact he) hb
        rw [hon, getD_both hun] at h2
        exact absurd h2 (by decide)
      · cases hl : done.getD j false with
        | true =>
          have h2 := h.closed j oj hoj hl e he hb
          rw [hon, getD_both hun] at h2
          exact absurd h2 (by decide)
        | false => exact ih (n - j) (by omega) j rfl (by omega) (getD_in (by rw [h.size]; omega) hl) t ht hr
    · have h1 := List.all_eq_true.1 hc t (List.mem_range.2 htlt)
      simp only [Bool.or_eq_true, decide_eq_true_eq, List.contains_iff_mem, hF t htun, or_false] at h1
      obtain ⟨j, hj, hj2⟩ := List.any_eq_true.1 (h1.resolve_left (by omega))
      simp only [Bool.and_eq_true, decide_eq_true_eq, Bool.not_eq_true'] at hj2
      have hjt := List.mem_range.1 hj
      obtain ⟨o', ho', e, he, hb, hon⟩ := Region.waitsFor_spec hj2.2
      rw [hot] at ho'
      have h3 := hall e (by rw [Option.some.inj ho']; exact he) hb
      rw [hon, getD_both (h.tail j hj2.1.1 (by omega) (by simpa using hj2.1.2))] at h3
      exact absurd h3 (by decide)

theorem HeadAny.first3 {F : List Nat} {n i : Nat} {oi : Oper} {v : Value} {L : Array Bool → Act → Prop} (hi : ops[i]? = some oi) (hsel : Region.noSelect ops = true)
    (hs : sink3 md ops F n = true) (hc : chain3 md ops F n = true) (hin : i < n) (hL : ∀ done a, L done a → ∀ j ∈ Region.ready md ops done, n ≤ j) :
    ∀ (f : Nat) (done : Array Bool) (a : Act), HeadOk3 md ops F n done →
      (∀ j oj, ops[j]? = some oj → j ≠ i → done.getD j true = false → (∀ e ∈ oj.after, Region.binds md e = true → e.on ≠ i) → oi.apart ops oj = true) →
      i ∈ Region.ready md ops done → YieldsIn P ops C oi v a →
      HeadAny P md ops C n L f (done.setIfInBounds i true) (a.put oi.dst v) → HeadAny P md ops C n L (f + 1) done a := by
  have spec := Region.noSelect_spec hsel
  intro f
  induction f with
  | zero =>
    intro done a ok _ hr hy H
    refine ⟨List.ne_nil_of_mem hr, fun j hj => ?_⟩
    have hjn : j < n := Nat.lt_of_not_le fun hle => ok.waits hs hc _ i rfl hin (mem_ready.1 hr).1 j hle hj
    refine ⟨hjn, ?_⟩
    by_cases hji : j = i
    · rw [hji]; exact hy.qOp hi H
    · exact absurd (hL _ _ H j (ready_mono hj hji)) (Nat.not_le_of_lt hjn)
  | succ f ih =>
    intro done a ok hfree hr hy H
    have hun := (mem_ready.1 hr).1
    refine ⟨List.ne_nil_of_mem hr, fun j hj => ?_⟩
    have hjn : j < n := Nat.lt_of_not_le fun hle => ok.waits hs hc _ i rfl hin hun j hle hj
    refine ⟨hjn, ?_⟩
    by_cases hji : j = i
    · rw [hji]; exact hy.qOp hi H
    · obtain ⟨hjun, oj, hoj, hall⟩ := mem_ready.1 hj
      have hnot : ∀ e ∈ oj.after, Region.binds md e = true → e.on ≠ i := by
        intro e he hb heq
        have h1 := hall e he hb
        rw [heq, getD_both hun] at h1
        exact absurd h1 (by decide)
      have h2 := qOp_put hoj (hfree j oj hoj hji hjun hnot) (fun cs b => spec i oi cs b hi) (fun cs b => spec j oj cs b hoj) hy (H.2 j (ready_mono hj hji)).2
      refine qOp_mono (fun a' h3 => ?_) h2
      refine ih (done.setIfInBounds j true) a' (ok.set hj hjn) (fun k ok hk hki hku hno => hfree k ok hk hki ?_ hno) (ready_mono hr (Ne.symm hji)) h3.1 ?_
      · by_cases hjk : j = k
        · rw [← hjk]; exact hjun
        · rwa [getD_set_ne true hjk] at hku
      · rw [Array.setIfInBounds_comm _ _ hji]; exact h3.2

/-- those operations -/
def pick3 (l : List Oper) (is : List Nat) : List Oper := is.map fun i => (l[i]?).getD { dst := none, op := .move (.const undef), after := #[], guard := none, type := 0, pos := "" }
/-- the tail: at each point the one operation that may come; or one that gives its value in whatever world -/
def seq3 (md : Region.Mode) (ops : Array Oper) : List Nat → Array Bool → Bool
  | [], done => (Region.ready md ops done).isEmpty
  | k :: is, done => decide (k < ops.size) && (decide (Region.ready md ops done = [k]) || (plainB ops k && (Region.ready md ops done).contains k && Region.free md ops done k)) && seq3 md ops is (done.setIfInBounds k true)
theorem pick3_cons {l : List Oper} {k : Nat} {is : List Nat} {o : Oper} (h : l[k]? = some o) : pick3 l (k :: is) = o :: pick3 l is := by
  unfold pick3; rw [List.map_cons, h]; rfl

theorem wpAny_of_seq3 {l : List Oper} {Q : Exit → Act → World → Prop} (hsel : Region.noSelect l.toArray = true) (hQ : ∀ c tmps a w, Q (.panic c) { a with tmps := tmps } w → Q (.panic c) a w) :
    ∀ (is : List Nat) (done : Array Bool) (a : Act) (w : World), seq3 md l.toArray is done = true → wpList P l.toArray Q (pick3 l is) a w → wpAny P md l.toArray Q is.length done a w := by
  intro is
  induction is with
  | nil => intro done a w hB h; exact ⟨by simpa [seq3] using hB, h⟩
  | cons k is ih =>
    intro done a w hB h
    simp only [seq3, Bool.and_eq_true, Bool.or_eq_true, decide_eq_true_eq] at hB
    obtain ⟨⟨hk, hB1⟩, hB2⟩ := hB
    obtain ⟨o, h0⟩ : ∃ o, l[k]? = some o := ⟨_, List.getElem?_eq_getElem (by simpa using hk)⟩
    rw [pick3_cons h0] at h
    have h0' : l.toArray[k]? = some o := by simpa using h0
    have hw : wpOp P l.toArray Q k (wpList P l.toArray Q (pick3 l is)) a w := by unfold wpOp; simp only [h0']; exact h
    rcases hB1 with hr | ⟨⟨hp, hr⟩, hf⟩
    · refine ⟨fun h1 => by rw [hr] at h1; exact absurd h1 (List.cons_ne_nil _ _), fun i hi => ?_⟩
      rw [hr] at hi
      obtain rfl : i = k := by simpa using hi
      exact wpOp_mono (fun a' w' h' => ih _ a' w' hB2 h') hw
    · obtain ⟨v, hy, hK⟩ := plain_yields h0' hp hw
      exact wpAny_take h0' hsel hf hr (fun c a' w' h' => hQ c (a'.put o.dst v).tmps a' w' (by rw [put_tmps]; exact h')) hy (ih _ _ w hB2 hK)

/-- the head, in the order of the list, then the tail -/
def lex3 (md : Region.Mode) (ops : Array Oper) (n : Nat) (T : List Nat) : List Nat → Array Bool → Bool
  | [], done => ((Region.ready md ops done).all fun j => decide (n ≤ j)) && seq3 md ops T done
  | k :: is, done => decide (k < n) && decide (k < ops.size) && (Region.ready md ops done).contains k && Region.free md ops done k && lex3 md ops n T is (done.setIfInBounds k true)

theorem HeadAny.lex3 {l : List Oper} {F T : List Nat} {n : Nat} {R : Act → Prop} (hsel : Region.noSelect l.toArray = true) (hs : sink3 md l.toArray F n = true) (hc : chain3 md l.toArray F n = true) :
    ∀ (is : List Nat) (done : Array Bool) (a : Act), HeadOk3 md l.toArray F n done →
      lex3 md l.toArray n T is done = true → wpQuiet P l.toArray C R (pick3 l is) a →
      HeadAny P md l.toArray C n (fun done' a' => ((Region.ready md l.toArray done').all fun j => decide (n ≤ j)) = true ∧ seq3 md l.toArray T done' = true ∧ R a') is.length done a := by
  intro is
  induction is with
  | nil =>
    intro done a _ hB h
    simp only [Go.Proofs.Ytjcbaelefacolaa.lex3, Bool.and_eq_true] at hB
    exact ⟨hB.1, hB.2, h⟩
  | cons k is ih =>
    intro done a ok hB h
    simp only [Go.Proofs.Ytjcbaelefacolaa.lex3, Bool.and_eq_true, decide_eq_true_eq] at hB
    obtain ⟨⟨⟨⟨hkn, hks⟩, hr⟩, hf⟩, hB'⟩ := hB
    obtain ⟨o, h0⟩ : ∃ o, l[k]? = some o := ⟨_, List.getElem?_eq_getElem (by simpa using hks)⟩
    have h0' : l.toArray[k]? = some o := by simpa using h0
    rw [pick3_cons h0] at h
    have hr' : k ∈ Region.ready md l.toArray done := by simpa using hr
    have hq : qOp P l.toArray C k (wpQuiet P l.toArray C R (pick3 l is)) a := by unfold qOp; simp only [h0']; exact h
    obtain ⟨v, hy, hK⟩ := yieldsIn_of_qOp h0' hq
    exact HeadAny.first3 h0' hsel hs hc hkn (fun done' a' hL j hj => by have := List.all_eq_true.1 hL.1 j hj; simpa using this) is.length done a ok (Region.free_spec h0' hf) hr' hy
      (ih _ _ (ok.set hr' hkn) hB' hK)

/-- those taken first, then the check of the rest -/
def pre3 (md : Region.Mode) (ops : Array Oper) (n : Nat) (H T : List Nat) : List Nat → Array Bool → Bool
  | [], done => lex3 md ops n T H done
  | k :: is, done => pureB ops k && decide (k < ops.size) && (Region.ready md ops done).contains k && Region.free md ops done k && pre3 md ops n H T is (done.setIfInBounds k true)
def tail3 (md : Region.Mode) (ops : Array Oper) (F H T : List Nat) (n : Nat) : Bool :=
  Region.noSelect ops && decide (F.length + (H.length + T.length) = ops.size) && sink3 md ops F n && chain3 md ops F n && pre3 md ops n H T F (Array.replicate ops.size false)

theorem pre_any3 {l : List Oper} {H T : List Nat} {Q : Exit → Act → World → Prop} {n G : Nat} {w : World} {R : Act → Prop} (hsel : Region.noSelect l.toArray = true) (hQ : ∀ c tmps a w, Q (.panic c) { a with tmps := tmps } w → Q (.panic c) a w) :
    ∀ (is Fd : List Nat) (done : Array Bool) (a : Act), HeadOk3 md l.toArray Fd 0 done →
      (∀ (done : Array Bool) (a : Act), HeadOk3 md l.toArray (is.reverse ++ Fd) 0 done → lex3 md l.toArray n T H done = true → R a → wpAny P md l.toArray Q G done a w) →
      pre3 md l.toArray n H T is done = true → wpQuiet P l.toArray (fun _ => True) R (pick3 l is) a → wpAny P md l.toArray Q (is.length + G) done a w := by
  intro is
  induction is with
  | nil =>
    intro Fd done a ok hR hB hq
    simp only [List.length_nil, Nat.zero_add]
    exact hR done a (by simpa using ok) hB hq
  | cons k is ih =>
    intro Fd done a ok hR hB hq
    simp only [pre3, Bool.and_eq_true, decide_eq_true_eq] at hB
    obtain ⟨⟨⟨⟨hmv, hks⟩, hr⟩, hf⟩, hB'⟩ := hB
    obtain ⟨o, h0⟩ : ∃ o, l[k]? = some o := ⟨_, List.getElem?_eq_getElem (by simpa using hks)⟩
    have h0' : l.toArray[k]? = some o := by simpa using h0
    rw [pick3_cons h0] at hq
    have hr' : k ∈ Region.ready md l.toArray done := by simpa using hr
    have hq' : qOp P l.toArray (fun _ => True) k (wpQuiet P l.toArray (fun _ => True) R (pick3 l is)) a := by unfold qOp; simp only [h0']; exact hq
    obtain ⟨v, hy, hK⟩ := yieldsIn_of_qOp h0' hq'
    rw [show (k :: is).length + G = (is.length + G) + 1 by simp; omega]
    have ok' : HeadOk3 md l.toArray (k :: Fd) 0 (done.setIfInBounds k true) := by
      obtain ⟨_, oi, hoi, hall⟩ := mem_ready.1 hr'
      refine ⟨by simp [ok.size], fun j oj hj hl e he hb => ?_, fun t ht ht' hF => ?_, fun i hi => ?_⟩
      · by_cases hij : k = j
        · subst hij
          have : oj = oi := Option.some.inj (hj.symm.trans hoi)
          subst this
          exact getD_set_true (hall e he hb)
        · rw [getD_set_ne false hij] at hl
          exact getD_set_true (ok.closed j oj hj hl e he hb)
      · rw [getD_set_ne true (fun e => hF (by simp [e]))]
        exact ok.tail t ht ht' (fun h => hF (by simp [h]))
      · by_cases hik : i = k
        · subst hik
          have : i < done.size := by rw [ok.size]; exact hks
          simp [this]
        · exact getD_set_true (ok.pre i (by simpa [hik] using hi))
    exact wpAny_take h0' hsel hf hr (fun c a' w' h' => hQ c (a'.put o.dst v).tmps a' w' (by rw [put_tmps]; exact h')) (yields_of_pure h0' hmv hy)
      (ih (k :: Fd) _ _ ok' (fun done a h => hR done a (by simpa using h)) hB' hK)

/-- THE REGION: F is taken first, then H (its operations stay in the class), then T. n: the first of T. -/
theorem wp_float_tail {id : Nat} {Q : Exit → Act → World → Prop} {a : Act} {w : World} {l : List Oper} (C : World → Prop) (hC : C (w.drewN 1)) (F H T : List Nat) (n : Nat) (hm : P.follows .mixedOrders = true) (hB : tail3 .any l.toArray F H T n = true)
    (hQ : ∀ c tmps a w, Q (.panic c) { a with tmps := tmps } w → Q (.panic c) a w)
    (h : Nonempty (Cls C) → wpQuiet P l.toArray (fun _ => True) (fun a0 => wpQuiet P l.toArray (fun w' => ∃ x : Cls C, w' = x.w) (fun a' => ∀ w', (∃ x : Cls C, w' = x.w) → wpList P l.toArray Q (pick3 l T) a' w') (pick3 l H) a0) (pick3 l F) a) :
    (Code.region id l.toArray true).wp P Q a w := by
  have h := h ⟨⟨_, hC⟩⟩
  simp only [tail3, Bool.and_eq_true, decide_eq_true_eq] at hB
  obtain ⟨⟨⟨⟨hsel, hlen⟩, hs⟩, hc⟩, hpre⟩ := hB
  have inv0 : HeadOk3 .any l.toArray [] 0 (Array.replicate l.toArray.size false) :=
    ⟨by simp, fun j oj _ hl => by rw [getD_replicate_false] at hl; exact absurd hl (by decide), fun t _ ht _ => getD_in (by simpa using ht) (getD_replicate_false _ _), fun i hi => by cases hi⟩
  refine wp_region_any hm ?_
  have K := pre_any3 (P := P) (md := .any) (Q := Q) (H := H) (T := T) (n := n) (G := H.length + T.length) (w := { w with drawn := w.drawn + 1 }) hsel hQ F [] _ a inv0 (fun done a' ok hB' hq => ?_) hpre h
  · rw [hlen] at K
    exact K
  · have ok' : HeadOk3 .any l.toArray F n done := ⟨ok.size, ok.closed, fun t _ ht hF => ok.tail t (Nat.zero_le _) ht (by simpa using hF), fun i hi => ok.pre i (by simpa using hi)⟩
    have HH := HeadAny.lex3 (P := P) (md := .any) (C := fun w' => ∃ x : Cls C, w' = x.w) hsel hs hc H done a' ok' hB' hq
    exact HeadAny.any (Q := Q) (g := T.length) (fun done a' w' hw' hL => wpAny_of_seq3 (md := .any) (Q := Q) hsel hQ T done a' w' hL.2.1 (hL.2.2 w' hw')) H.length done a' _ ⟨⟨_, hC⟩, rfl⟩ HH
end
end Go.Proofs.Ytjcbaelefacolaa
/- The layer delta: where somebody, a track, a sub stands. Conditions: rows that rise; no more than 100000. -/
namespace Go.Proofs.Ytjcbaelefacolaa
open Go Go.RowKit
set_option maxHeartbeats 400000

set_option maxRecDepth 100000 in
theorem person_any {w : World} {s : St} {h : SHd} (hp : RwIn w 0 3 h.pA s.ps.length h.pc (s.ps.flatMap encP)) (hl : s.ps.length ≤ 100000) (hu : UpP s.ps) (who : Int) :
    Calls Try.prog 33 #[.agg (scells s h).toArray, .int .i64 who] w fun e w' => e = .returned (.tuple #[.int .i64 (low (cP who) s.ps), .bool (has (cP who) s.ps)]) ∧ Upd [] w w' := by
  obtain ⟨c, ps, ts, bs⟩ := s
  obtain ⟨pA, pc, tx, tA, tc, bA, bc⟩ := h
  unfold scells
  dsimp only at hp hl hu ⊢
  obtain ⟨n, hn⟩ : ∃ n, n = ps.length := ⟨_, rfl⟩
  obtain ⟨n2, hn2⟩ : ∃ n2, n2 = ts.length := ⟨_, rfl⟩
  obtain ⟨n3, hn3⟩ : ∃ n3, n3 = bs.length := ⟨_, rfl⟩
  rw [← hn, ← hn2, ← hn3]
  rw [← hn] at hp hl
  obtain ⟨W, hW⟩ : ∃ W, W = w.alloc (.cells #[.int .i64 c.people, .int .i64 c.tracks, .int .i64 c.subs, .int .i64 c.slots, .slice pA n pc, .slice tA n2 tc, .slice bA n3 bc] 31) := ⟨_, rfl⟩
  have hw : Upd [] w W := by rw [hW]; exact (Upd.refl [] w).alloc _
  have HF := Lib.hid (findP_any (w := W) (A := pA) (n := n) (c := pc) who (hp.upd hw).l hn.symm hl (hu.rise who))
  have HU := Lib.hid hw
  obtain ⟨lo, hlo⟩ : ∃ lo, lo = low (cP who) ps := ⟨_, rfl⟩
  obtain ⟨ha, hha⟩ : ∃ ha, ha = has (cP who) ps := ⟨_, rfl⟩
  rw [← hlo, ← hha] at HF ⊢
  clear hp hu hw hn hn2 hn3 hlo hha
  go_enter Try.func33, Try.ntmps33
  go_wp2_with fail
  rw [← hW]
  clear hW
  refine HF.out.mono ?_
  rintro e w1 ⟨rfl, hu1⟩
  have HU1 := Lib.hid (HU.out.next hu1)
  clear hu1 HF
  go_wp2
  exact bodyPost_res (v := .tuple #[.int .i64 (lo : Int), .bool ha]) (by simp [results, Try.results33, go_sem]) rfl ⟨rfl, HU1.out⟩
set_option maxRecDepth 100000 in
theorem track_any {w : World} {s : St} {h : SHd} (hp : RwIn w 0 4 h.tA s.ts.length h.tc (h.tx.flatMap encT)) (hx : h.tx.map (·.1) = s.ts) (hl : s.ts.length ≤ 100000) (hu : UpT s.ts) (id : Int) :
    Calls Try.prog 55 #[.agg (scells s h).toArray, .int .i64 id] w fun e w' => e = .returned (.tuple #[.int .i64 (low (cT id) s.ts), .bool (has (cT id) s.ts)]) ∧ Upd [] w w' := by
  obtain ⟨c, ps, ts, bs⟩ := s
  obtain ⟨pA, pc, tx, tA, tc, bA, bc⟩ := h
  unfold scells
  dsimp only at hp hl hu hx ⊢
  obtain ⟨n, hn⟩ : ∃ n, n = ps.length := ⟨_, rfl⟩
  obtain ⟨n2, hn2⟩ : ∃ n2, n2 = ts.length := ⟨_, rfl⟩
  obtain ⟨n3, hn3⟩ : ∃ n3, n3 = bs.length := ⟨_, rfl⟩
  rw [← hn, ← hn2, ← hn3]
  rw [← hn2] at hp hl
  obtain ⟨W, hW⟩ : ∃ W, W = w.alloc (.cells #[.int .i64 c.people, .int .i64 c.tracks, .int .i64 c.subs, .int .i64 c.slots, .slice pA n pc, .slice tA n2 tc, .slice bA n3 bc] 31) := ⟨_, rfl⟩
  have hw : Upd [] w W := by rw [hW]; exact (Upd.refl [] w).alloc _
  have hr : Rise (fun x : Trk × SH => cT id x.1) tx := by
    have h1 := hu.rise id
    rw [← hx] at h1
    unfold Rise at h1 ⊢
    rwa [List.pairwise_map] at h1
  have hl1 : low (fun x : Trk × SH => cT id x.1) tx = low (cT id) ts := by unfold low; rw [← hx, List.countP_map]; rfl
  have hl2 : has (fun x : Trk × SH => cT id x.1) tx = has (cT id) ts := by unfold has; rw [← hx, List.any_map]; rfl
  have HF := Lib.hid (findT_any (w := W) (A := tA) (n := n2) (c := tc) id (hp.upd hw).l (by rw [hn2, ← hx, List.length_map]) hl hr)
  rw [hl1, hl2] at HF
  have HU := Lib.hid hw
  obtain ⟨lo, hlo⟩ : ∃ lo, lo = low (cT id) ts := ⟨_, rfl⟩
  obtain ⟨ha, hha⟩ : ∃ ha, ha = has (cT id) ts := ⟨_, rfl⟩
  rw [← hlo, ← hha] at HF ⊢
  clear hp hu hw hn hn2 hn3 hlo hha hx hr hl1 hl2
  go_enter Try.func55, Try.ntmps55
  go_wp2_with fail
  rw [← hW]
  clear hW
  refine HF.out.mono ?_
  rintro e w1 ⟨rfl, hu1⟩
  have HU1 := Lib.hid (HU.out.next hu1)
  clear hu1 HF
  go_wp2
  exact bodyPost_res (v := .tuple #[.int .i64 (lo : Int), .bool ha]) (by simp [results, Try.results55, go_sem]) rfl ⟨rfl, HU1.out⟩
set_option maxRecDepth 100000 in
theorem sub_any {w : World} {s : St} {h : SHd} (hp : RwIn w 0 5 h.bA s.bs.length h.bc (s.bs.flatMap encB)) (hl : s.bs.length ≤ 100000) (hu : UpB s.bs) (who track : Int) :
    Calls Try.prog 44 #[.agg (scells s h).toArray, .int .i64 who, .int .i64 track] w fun e w' => e = .returned (.tuple #[.int .i64 (low (cB who track) s.bs), .bool (has (cB who track) s.bs)]) ∧ Upd [] w w' := by
  obtain ⟨c, ps, ts, bs⟩ := s
  obtain ⟨pA, pc, tx, tA, tc, bA, bc⟩ := h
  unfold scells
  dsimp only at hp hl hu ⊢
  obtain ⟨n, hn⟩ : ∃ n, n = ps.length := ⟨_, rfl⟩
  obtain ⟨n2, hn2⟩ : ∃ n2, n2 = ts.length := ⟨_, rfl⟩
  obtain ⟨n3, hn3⟩ : ∃ n3, n3 = bs.length := ⟨_, rfl⟩
  rw [← hn, ← hn2, ← hn3]
  rw [← hn3] at hp hl
  obtain ⟨W, hW⟩ : ∃ W, W = w.alloc (.cells #[.int .i64 c.people, .int .i64 c.tracks, .int .i64 c.subs, .int .i64 c.slots, .slice pA n pc, .slice tA n2 tc, .slice bA n3 bc] 31) := ⟨_, rfl⟩
  have hw : Upd [] w W := by rw [hW]; exact (Upd.refl [] w).alloc _
  have HF := Lib.hid (findB_any (w := W) (A := bA) (n := n3) (c := bc) who track 0 0 false (hp.upd hw).l hn3.symm hl (hu.rise who track))
  have HU := Lib.hid hw
  obtain ⟨lo, hlo⟩ : ∃ lo, lo = low (cB who track) bs := ⟨_, rfl⟩
  obtain ⟨ha, hha⟩ : ∃ ha, ha = has (cB who track) bs := ⟨_, rfl⟩
  rw [← hlo, ← hha] at HF ⊢
  clear hp hu hw hn hn2 hn3 hlo hha
  go_enter Try.func44, Try.ntmps44
  go_wp2_with fail
  rw [← hW]
  clear hW
  refine HF.out.mono ?_
  rintro e w1 ⟨rfl, hu1⟩
  have HU1 := Lib.hid (HU.out.next hu1)
  clear hu1 HF
  go_wp2
  exact bodyPost_res (v := .tuple #[.int .i64 (lo : Int), .bool ha]) (by simp [results, Try.results44, go_sem]) rfl ⟨rfl, HU1.out⟩
/-- New -/
def confOk (c : Cf) : Bool := decide (1 ≤ c.people ∧ c.people ≤ 16 ∧ 1 ≤ c.tracks ∧ c.tracks ≤ 16 ∧ 1 ≤ c.subs ∧ c.subs ≤ 16 ∧ 1 ≤ c.slots ∧ c.slots ≤ 64)
def confM (c : Cf) : Cf := if confOk c then c else ⟨0, 0, 0, 0⟩
def newHd : SHd := ⟨none, 0, [], none, 0, none, 0⟩
set_option maxRecDepth 100000 in
theorem new_any (w : World) (c : Cf) :
    Calls Try.prog 20 #[.agg #[.int .i64 c.people, .int .i64 c.tracks, .int .i64 c.subs, .int .i64 c.slots]] w fun e w' =>
      e = .returned (.tuple #[.agg (scells (newM (confM c)) newHd).toArray, .int .i64 (if confOk c then 0 else 1)]) ∧ Upd [] w w' := by
  obtain ⟨a, b, d, e⟩ := c
  dsimp only
  by_cases hok : confOk ⟨a, b, d, e⟩ = true
  · have hm : confM ⟨a, b, d, e⟩ = ⟨a, b, d, e⟩ := by unfold confM; rw [if_pos hok]
    rw [hm, if_pos hok]
    unfold confOk at hok
    simp only [decide_eq_true_eq] at hok
    obtain ⟨h1, h2, h3, h4, h5, h6, h7, h8⟩ := hok
    have e1 : (decide ((1 : Int) ≤ a) && decide (a ≤ 16)) = true := by simp [h1, h2]
    have e2 : (decide ((1 : Int) ≤ b) && decide (b ≤ 16)) = true := by simp [h3, h4]
    have e3 : (decide ((1 : Int) ≤ d) && decide (d ≤ 16)) = true := by simp [h5, h6]
    have e4 : (decide ((1 : Int) ≤ e) && decide (e ≤ 64)) = true := by simp [h7, h8]
    have H1 : Hid (∀ w, _) := Lib.hid (fun w => in_any w a 1 16)
    have H2 : Hid (∀ w, _) := Lib.hid (fun w => in_any w b 1 16)
    have H3 : Hid (∀ w, _) := Lib.hid (fun w => in_any w d 1 16)
    have H4 : Hid (∀ w, _) := Lib.hid (fun w => in_any w e 1 64)
    rw [e1] at H1
    rw [e2] at H2
    rw [e3] at H3
    rw [e4] at H4
    clear h1 h2 h3 h4 h5 h6 h7 h8 e1 e2 e3 e4 hm
    go_enter Try.func20, Try.ntmps20
    go_wp2_with fail
    refine (H1.out _).mono ?_
    rintro _ _ ⟨rfl, rfl⟩
    go_wp2_with fail
    refine (H2.out _).mono ?_
    rintro _ _ ⟨rfl, rfl⟩
    go_wp2_with fail
    refine (H3.out _).mono ?_
    rintro _ _ ⟨rfl, rfl⟩
    go_wp2_with fail
    refine (H4.out _).mono ?_
    rintro _ _ ⟨rfl, rfl⟩
    go_wp2
    refine bodyPost_res (v := .tuple #[.agg #[.int .i64 a, .int .i64 b, .int .i64 d, .int .i64 e, .slice none 0 0, .slice none 0 0, .slice none 0 0], .int .i64 0]) (by simp [results, Try.results20, go_sem]) rfl ⟨rfl, ?_⟩
    repeat (first | exact Upd.refl _ _ | refine Upd.alloc ?_ _ | refine Upd.setCell ?_ (.inr (by simp)) _)
  · have hm : confM ⟨a, b, d, e⟩ = ⟨0, 0, 0, 0⟩ := by unfold confM; rw [if_neg hok]
    rw [hm, if_neg hok]
    have H1 : Hid (∀ w, _) := Lib.hid (fun w => in_any w a 1 16)
    have H2 : Hid (∀ w, _) := Lib.hid (fun w => in_any w b 1 16)
    have H3 : Hid (∀ w, _) := Lib.hid (fun w => in_any w d 1 16)
    have H4 : Hid (∀ w, _) := Lib.hid (fun w => in_any w e 1 64)
    have hf : ((decide ((1 : Int) ≤ a) && decide (a ≤ 16)) && (decide ((1 : Int) ≤ b) && decide (b ≤ 16)) && (decide ((1 : Int) ≤ d) && decide (d ≤ 16)) && (decide ((1 : Int) ≤ e) && decide (e ≤ 64))) = false := by
      rw [Bool.eq_false_iff]
      intro h
      apply hok
      unfold confOk
      simp only [Bool.and_eq_true, decide_eq_true_eq] at h ⊢
      omega
    obtain ⟨b1, hb1⟩ : ∃ x, x = (decide ((1 : Int) ≤ a) && decide (a ≤ 16)) := ⟨_, rfl⟩
    obtain ⟨b2, hb2⟩ : ∃ x, x = (decide ((1 : Int) ≤ b) && decide (b ≤ 16)) := ⟨_, rfl⟩
    obtain ⟨b3, hb3⟩ : ∃ x, x = (decide ((1 : Int) ≤ d) && decide (d ≤ 16)) := ⟨_, rfl⟩
    obtain ⟨b4, hb4⟩ : ∃ x, x = (decide ((1 : Int) ≤ e) && decide (e ≤ 64)) := ⟨_, rfl⟩
    rw [← hb1, ← hb2, ← hb3, ← hb4] at hf
    rw [← hb1] at H1
    rw [← hb2] at H2
    rw [← hb3] at H3
    rw [← hb4] at H4
    have HF := Lib.hid hf
    clear hf hb1 hb2 hb3 hb4 hok hm
    go_enter Try.func20, Try.ntmps20
    go_wp2_with fail
    refine (H1.out _).mono ?_
    rintro _ _ ⟨rfl, rfl⟩
    cases b1 with
    | false =>
      go_wp2
      refine bodyPost_res (v := .tuple #[.agg #[.int .i64 0, .int .i64 0, .int .i64 0, .int .i64 0, .slice none 0 0, .slice none 0 0, .slice none 0 0], .int .i64 1]) (by simp [results, Try.results20, go_sem]) rfl ⟨rfl, ?_⟩
      repeat (first | exact Upd.refl _ _ | refine Upd.alloc ?_ _ | refine Upd.setCell ?_ (.inr (by simp)) _)
    | true =>
    go_wp2_with fail
    refine (H2.out _).mono ?_
    rintro _ _ ⟨rfl, rfl⟩
    cases b2 with
    | false =>
      go_wp2
      refine bodyPost_res (v := .tuple #[.agg #[.int .i64 0, .int .i64 0, .int .i64 0, .int .i64 0, .slice none 0 0, .slice none 0 0, .slice none 0 0], .int .i64 1]) (by simp [results, Try.results20, go_sem]) rfl ⟨rfl, ?_⟩
      repeat (first | exact Upd.refl _ _ | refine Upd.alloc ?_ _ | refine Upd.setCell ?_ (.inr (by simp)) _)
    | true =>
    go_wp2_with fail
    refine (H3.out _).mono ?_
    rintro _ _ ⟨rfl, rfl⟩
    cases b3 with
    | false =>
      go_wp2
      refine bodyPost_res (v := .tuple #[.agg #[.int .i64 0, .int .i64 0, .int .i64 0, .int .i64 0, .slice none 0 0, .slice none 0 0, .slice none 0 0], .int .i64 1]) (by simp [results, Try.results20, go_sem]) rfl ⟨rfl, ?_⟩
      repeat (first | exact Upd.refl _ _ | refine Upd.alloc ?_ _ | refine Upd.setCell ?_ (.inr (by simp)) _)
    | true =>
    go_wp2_with fail
    refine (H4.out _).mono ?_
    rintro _ _ ⟨rfl, rfl⟩
    cases b4 with
    | false =>
      go_wp2
      refine bodyPost_res (v := .tuple #[.agg #[.int .i64 0, .int .i64 0, .int .i64 0, .int .i64 0, .slice none 0 0, .slice none 0 0, .slice none 0 0], .int .i64 1]) (by simp [results, Try.results20, go_sem]) rfl ⟨rfl, ?_⟩
      repeat (first | exact Upd.refl _ _ | refine Upd.alloc ?_ _ | refine Upd.setCell ?_ (.inr (by simp)) _)
    | true =>
    exact absurd HF.out (by decide)
end Go.Proofs.Ytjcbaelefacolaa
/- A region that draws its order: what only reads, and what gives its value in each world of a class, is taken first, wherever it stands; then a tail in one forced order, all of it but the last one within the class: one walk serves every order.
   Conditions: the Bool over the region holds; the class holds behind each operation of the tail but the last. -/
namespace Go.Proofs.Ytjcbaelefacolaa
open Go

section
variable {P : Program} {ops : Array Oper} {md : Region.Mode} {S : World → Prop} {Q : Exit → Act → World → Prop}

/-- the operation is of a kind that gives a value and leaves the world alone, if it is quiet -/
def valB (ops : Array Oper) (k : Nat) : Bool := match ops[k]? with
  | some o => match o.op with
    | .load _ _ => true | .build _ _ => true | .field _ _ _ => true | .binOp _ _ _ _ _ => true | .unOp _ _ _ => true | .convert _ _ _ => true | .pick _ _ _ => true | .slice _ _ _ _ _ => true | .makeFunc _ _ _ => true
    | .call c => match c.callee with | .builtin .len => true | _ => false
    | _ => pureB ops k
  | none => false
theorem valB_value {k : Nat} {o : Oper} {a : Act} (hk : ops[k]? = some o) (hm : valB ops k = true) : ValueOnly (execOp a.eval o) := by
  unfold valB at hm
  rw [hk] at hm
  dsimp only at hm
  split at hm
  · rename_i hx; unfold execOp; rw [hx]; exact ValueOnly.bind fun _ => ValueOnly.pure _
  · rename_i hx; unfold execOp; rw [hx]; exact ValueOnly.bind fun _ => ValueOnly.pure _
  · rename_i hx; unfold execOp; rw [hx]; exact ValueOnly.bind fun _ => ValueOnly.pure _
  · rename_i hx; unfold execOp; rw [hx]; exact ValueOnly.bind fun _ => ValueOnly.pure _
  · rename_i hx; unfold execOp; rw [hx]; exact ValueOnly.bind fun _ => ValueOnly.pure _
  · rename_i hx; unfold execOp; rw [hx]; exact ValueOnly.bind fun _ => ValueOnly.pure _
  · rename_i hx; unfold execOp; rw [hx]; exact ValueOnly.bind fun _ => ValueOnly.pure _
  · rename_i hx; unfold execOp; rw [hx]; exact ValueOnly.bind fun _ => ValueOnly.pure _
  · rename_i hx; unfold execOp; rw [hx]; exact ValueOnly.bind fun _ => ValueOnly.pure _
  · rename_i c hx
    split at hm
    · rename_i hc
      unfold execOp
      rw [hx]
      dsimp only
      unfold resolve
      rw [hc]
      intro P w n w' h
      simp only [Sem.run_bind, Sem.run_pure, Result.andThen_ok, invoke] at h
      exact (show ValueOnly (builtin .len _ _ _ _) from ValueOnly.bind fun _ => ValueOnly.pure _) P w n w' h
    · cases hm
  · exact pureB_value hk hm
theorem yieldsIf_of_val {k : Nat} {o : Oper} {v : Value} {a : Act} (hk : ops[k]? = some o) (hm : valB ops k = true) (h : YieldsIn P ops S o v a) : YieldsIf P ops S o v a := by
  rcases h with ⟨hw, h⟩ | ⟨hw, h⟩
  · refine .inl ⟨hw, fun w hS => ?_⟩
    have h1 := h w hS
    have hv := valB_value (a := a) hk hm
    unfold Oper.quietAt at h1
    cases hr : (execOp a.eval o).run P w with
    | ok n w' =>
      obtain ⟨u, rfl⟩ := hv P w n w' hr
      rw [hr] at h1
      obtain ⟨h2, h3⟩ := h1
      rw [h2, h3]
    | halt e w' => rw [hr] at h1; exact h1.elim
  · exact .inr ⟨hw, h⟩

/-- what is still to come comes in whatever order; behind each but the last one the class holds -/
def wpAnyD (P : Program) (md : Region.Mode) (ops : Array Oper) (Q : Exit → Act → World → Prop) (S : World → Prop) : Nat → Array Bool → Act → World → Prop
  | 0, done, a, w => Region.ready md ops done = [] ∧ Q .normal a w
  | fuel + 1, done, a, w =>
    (Region.ready md ops done = [] → Q .normal a w) ∧
    ∀ i ∈ Region.ready md ops done, wpOp P ops Q i (fun a' w' => ((∀ t, (done.setIfInBounds i true).getD t true = true) ∨ S w') ∧ wpAnyD P md ops Q S fuel (done.setIfInBounds i true) a' w') a w
theorem wpAny_of_D : ∀ (fuel : Nat) (done : Array Bool) (a : Act) (w : World), wpAnyD P md ops Q S fuel done a w → wpAny P md ops Q fuel done a w
  | 0, _, _, _, h => h
  | fuel + 1, _, _, _, h => ⟨h.1, fun i hi => wpOp_mono (fun a' w' h' => wpAny_of_D fuel _ a' w' h'.2) (h.2 i hi)⟩

/-- the marks agree with what waits for what -/
structure Marks4 (md : Region.Mode) (ops : Array Oper) (done : Array Bool) : Prop where
  size : done.size = ops.size
  closed : ∀ j oj, ops[j]? = some oj → done.getD j false = true → ∀ e ∈ oj.after, Region.binds md e = true → done.getD e.on false = true
theorem Marks4.set {i : Nat} {done : Array Bool} (h : Marks4 md ops done) (hi : i ∈ Region.ready md ops done) : Marks4 md ops (done.setIfInBounds i true) := by
  obtain ⟨_, oi, hoi, hall⟩ := mem_ready.1 hi
  refine ⟨by simp [h.size], fun j oj hj hl e he hb => ?_⟩
  by_cases hij : i = j
  · subst hij
    have : oj = oi := Option.some.inj (hj.symm.trans hoi)
    subst this
    exact getD_set_true (hall e he hb)
  · rw [getD_set_ne false hij] at hl
    exact getD_set_true (h.closed j oj hj hl e he hb)
/-- somebody waits for it -/
def awaited (md : Region.Mode) (ops : Array Oper) (i : Nat) : Bool := (List.range ops.size).any fun j => Region.waitsFor md ops j i

/-- if two may come now, and somebody waits for the first, they are not the last two -/
theorem not_last {i j : Nat} {done : Array Bool} (h : Marks4 md ops done) (ha : awaited md ops i = true) (hi : i ∈ Region.ready md ops done) (hj : j ∈ Region.ready md ops done) (hne : j ≠ i) :
    ¬ ∀ t, ((done.setIfInBounds i true).setIfInBounds j true).getD t true = true := by
  intro hall
  obtain ⟨k, hk, hw⟩ := List.any_eq_true.1 ha
  obtain ⟨ok, hok, e, he, hb, hon⟩ := Region.waitsFor_spec hw
  have hiu := (mem_ready.1 hi).1
  have hks : k < done.size := by rw [h.size]; exact List.mem_range.1 hk
  have hku : done.getD k true = false := by
    cases hd : done.getD k false with
    | true =>
      have := h.closed k ok hok hd e he hb
      rw [hon, getD_both hiu] at this
      cases this
    | false => exact getD_in hks hd
  have hki : k ≠ i := fun e' => by
    subst e'
    obtain ⟨_, oi, hoi, hal⟩ := mem_ready.1 hi
    rw [hok] at hoi
    have := hal e (by rw [← Option.some.inj hoi]; exact he) hb
    rw [hon, getD_both hiu] at this
    cases this
  have hkj : k ≠ j := fun e' => by
    subst e'
    obtain ⟨_, oj, hoj, hal⟩ := mem_ready.1 hj
    rw [hok] at hoj
    have := hal e (by rw [← Option.some.inj hoj]; exact he) hb
    rw [hon, getD_both hiu] at this
    cases this
  have h1 := hall k
  rw [getD_set_ne true (Ne.symm hkj), getD_set_ne true (Ne.symm hki), hku] at h1
  cases h1

theorem wpAnyD_first {i : Nat} {oi : Oper} {v : Value} (hi : ops[i]? = some oi) (hsel : ∀ (j : Nat) (o : Oper) cs b, ops[j]? = some o → o.op ≠ .select cs b) (haw : awaited md ops i = true)
    (hQ : ∀ c a w, Q (.panic c) (a.put oi.dst v) w → Q (.panic c) a w) :
    ∀ (fuel : Nat) (done : Array Bool) (a : Act) (w : World), Marks4 md ops done →
      (∀ j oj, ops[j]? = some oj → j ≠ i → done.getD j true = false → (∀ e ∈ oj.after, Region.binds md e = true → e.on ≠ i) → oi.apart ops oj = true) →
      i ∈ Region.ready md ops done → YieldsIf P ops S oi v a → S w →
      wpAnyD P md ops Q S fuel (done.setIfInBounds i true) (a.put oi.dst v) w → wpAnyD P md ops Q S (fuel + 1) done a w := by
  intro fuel
  induction fuel with
  | zero =>
    intro done a w _ _ hr hy hS H
    refine ⟨fun h => (by rw [h] at hr; cases hr), fun j hj => ?_⟩
    by_cases hji : j = i
    · subst hji; exact hy.wpOp hi hS ⟨.inr hS, H⟩
    · have := ready_mono hj hji
      rw [H.1] at this
      cases this
  | succ fuel ih =>
    intro done a w hM hfree hr hy hS H
    refine ⟨fun h => (by rw [h] at hr; cases hr), fun j hj => ?_⟩
    by_cases hji : j = i
    · subst hji; exact hy.wpOp hi hS ⟨.inr hS, H⟩
    · have h1 := H.2 j (ready_mono hj hji)
      obtain ⟨hjun, oj, hoj, hall⟩ := mem_ready.1 hj
      have hnot : ∀ e ∈ oj.after, Region.binds md e = true → e.on ≠ i := fun e he hb heq => by
        have h1 := hall e he hb
        rw [heq, getD_both (mem_ready.1 hr).1] at h1
        cases h1
      have h2 := wpOp_putIf hoj (hfree j oj hoj hji hjun hnot) (fun cs b => hsel i oi cs b hi) (fun cs b => hsel j oj cs b hoj) hQ hy h1
      have hfree' : ∀ k ok, ops[k]? = some ok → k ≠ i → (done.setIfInBounds j true).getD k true = false →
          (∀ e ∈ ok.after, Region.binds md e = true → e.on ≠ i) → oi.apart ops ok = true := fun k ok hk hki hun hno => by
        refine hfree k ok hk hki ?_ hno
        by_cases hjk : j = k
        · subst hjk; exact hjun
        · rw [getD_set_ne true hjk] at hun; exact hun
      refine wpOp_mono (fun a' w' h3 => ?_) h2
      have hS' : S w' := h3.2.1.resolve_left (not_last hM haw hr hj hji)
      refine ⟨.inr hS', ih (done.setIfInBounds j true) a' w' (hM.set hj) hfree' (ready_mono hr (Ne.symm hji)) h3.1 hS' ?_⟩
      rw [Array.setIfInBounds_comm _ _ hji]
      exact h3.2.2

/-- the tail, its last operation but within the class -/
def wpHeld (P : Program) (ops : Array Oper) (Q : Exit → Act → World → Prop) (S : World → Prop) : List Oper → Act → World → Prop
  | [], a, w => Q .normal a w
  | o :: rest, a, w =>
    if Region.wanted o (yielded ops a.tmps) then o.wp P a w (fun a' w' => (rest = [] ∨ S w') ∧ wpHeld P ops Q S rest a' w') Q ∨ (o.asks P a w ∧ LetsOut Q) else (rest = [] ∨ S w) ∧ wpHeld P ops Q S rest (a.put o.dst undef) w
theorem wpHeld_step {a : Act} {w : World} {o : Oper} {rest : List Oper} (hg : o.guard = none)
    (h : ∀ K : Act → World → Prop, RowKit.Hid (∀ a w, (rest = [] ∨ S w) → wpHeld P ops Q S rest a w → K a w) → Oper.wp P o a w K Q) : wpHeld P ops Q S (o :: rest) a w := by
  unfold wpHeld
  rw [if_pos (by simp [Region.wanted, hg])]
  exact .inl (h _ (Lib.hid (fun a w h1 h2 => ⟨h1, h2⟩)))
theorem wpHeld_last {a : Act} {w : World} {o : Oper} (h : wpList P ops Q [o] a w) : wpHeld P ops Q S [o] a w := by
  unfold wpHeld
  unfold wpList at h
  split
  · rename_i hw
    rw [if_pos hw] at h
    exact h.imp (Oper.wp_mono (fun a w h => ⟨.inl rfl, h⟩)) id
  · rename_i hw
    rw [if_neg hw] at h
    exact ⟨.inl rfl, h⟩

/-- at each point of the tail one operation may come -/
def seq4 (md : Region.Mode) (ops : Array Oper) : List Nat → Array Bool → Bool
  | [], done => (Region.ready md ops done).isEmpty && (List.range ops.size).all (fun t => done.getD t true)
  | k :: is, done => decide (k < ops.size) && decide (Region.ready md ops done = [k]) && seq4 md ops is (done.setIfInBounds k true)
theorem wpAnyD_of_seq4 {l : List Oper} : ∀ (is : List Nat) (done : Array Bool) (a : Act) (w : World), done.size = l.toArray.size → seq4 md l.toArray is done = true → wpHeld P l.toArray Q S (pick3 l is) a w → wpAnyD P md l.toArray Q S is.length done a w := by
  intro is
  induction is with
  | nil =>
    intro done a w _ hB h
    simp only [seq4, Bool.and_eq_true] at hB
    exact ⟨by simpa using hB.1, h⟩
  | cons k is ih =>
    intro done a w hsz hB h
    simp only [seq4, Bool.and_eq_true, decide_eq_true_eq] at hB
    obtain ⟨⟨hk, hr⟩, hB2⟩ := hB
    obtain ⟨o, h0⟩ : ∃ o, l[k]? = some o := ⟨_, List.getElem?_eq_getElem (by simpa using hk)⟩
    rw [pick3_cons h0] at h
    have h0' : l.toArray[k]? = some o := by simpa using h0
    refine ⟨fun h1 => by rw [hr] at h1; exact absurd h1 (List.cons_ne_nil _ _), fun i hi => ?_⟩
    rw [hr] at hi
    obtain rfl : i = k := by simpa using hi
    have hfin : is = [] → ∀ t, (done.setIfInBounds i true).getD t true = true := fun e t => by
      subst e
      simp only [seq4, Bool.and_eq_true] at hB2
      by_cases ht : t < l.toArray.size
      · exact List.all_eq_true.1 hB2.2 t (List.mem_range.2 ht)
      · have : ¬ t < (done.setIfInBounds i true).size := by rw [Array.size_setIfInBounds, hsz]; exact ht
        simp only [Array.getD_eq_getD_getElem?, Array.getElem?_eq_none (Nat.le_of_not_lt this)]
        rfl
    have hnil : ∀ is : List Nat, pick3 l is = [] → seq4 md l.toArray is (done.setIfInBounds i true) = true → is = [] := fun is hp hs => by
      cases is with
      | nil => rfl
      | cons k' is' =>
        simp only [seq4, Bool.and_eq_true, decide_eq_true_eq] at hs
        obtain ⟨o', ho'⟩ : ∃ o, l[k']? = some o := ⟨_, List.getElem?_eq_getElem (by simpa using hs.1.1)⟩
        rw [pick3_cons ho'] at hp
        cases hp
    have hK : ∀ a' w', ((pick3 l is = [] ∨ S w') ∧ wpHeld P l.toArray Q S (pick3 l is) a' w') → ((∀ t, (done.setIfInBounds i true).getD t true = true) ∨ S w') ∧ wpAnyD P md l.toArray Q S is.length (done.setIfInBounds i true) a' w' := fun a' w' h' =>
      ⟨h'.1.imp (fun e => hfin (hnil is e hB2)) id, ih _ a' w' (by rw [Array.size_setIfInBounds]; exact hsz) hB2 h'.2⟩
    unfold wpOp
    simp only [h0']
    unfold wpHeld at h
    split
    · rename_i hw
      rw [if_pos hw] at h
      exact h.imp (Oper.wp_mono hK) id
    · rename_i hw
      rw [if_neg hw] at h
      exact hK _ _ h

/-- those taken first, then the check of the tail -/
def pre4 (md : Region.Mode) (ops : Array Oper) (T : List Nat) : List Nat → Array Bool → Bool
  | [], done => seq4 md ops T done
  | k :: is, done => valB ops k && decide (k < ops.size) && awaited md ops k && (Region.ready md ops done).contains k && Region.free md ops done k && pre4 md ops T is (done.setIfInBounds k true)
def tail4 (md : Region.Mode) (ops : Array Oper) (F T : List Nat) : Bool :=
  Region.noSelect ops && decide (F.length + T.length = ops.size) && pre4 md ops T F (Array.replicate ops.size false)
theorem pre_anyD {l : List Oper} {T : List Nat} {w : World} (hsel : Region.noSelect l.toArray = true) (hQ : ∀ c tmps a w, Q (.panic c) { a with tmps := tmps } w → Q (.panic c) a w) (hS : S w) :
    ∀ (is : List Nat) (done : Array Bool) (a : Act), Marks4 md l.toArray done →
      pre4 md l.toArray T is done = true → wpQuiet P l.toArray S (fun a' => wpHeld P l.toArray Q S (pick3 l T) a' w) (pick3 l is) a → wpAnyD P md l.toArray Q S (is.length + T.length) done a w := by
  intro is
  induction is with
  | nil =>
    intro done a hM hB hq
    rw [List.length_nil, Nat.zero_add]
    exact wpAnyD_of_seq4 T done a w hM.size hB hq
  | cons k is ih =>
    intro done a hM hB hq
    simp only [pre4, Bool.and_eq_true, decide_eq_true_eq] at hB
    obtain ⟨⟨⟨⟨⟨hmv, hks⟩, haw⟩, hr⟩, hf⟩, hB'⟩ := hB
    obtain ⟨o, h0⟩ : ∃ o, l[k]? = some o := ⟨_, List.getElem?_eq_getElem (by simpa using hks)⟩
    have h0' : l.toArray[k]? = some o := by simpa using h0
    rw [pick3_cons h0] at hq
    have hr' : k ∈ Region.ready md l.toArray done := by simpa using hr
    have hq' : qOp P l.toArray S k (wpQuiet P l.toArray S (fun a' => wpHeld P l.toArray Q S (pick3 l T) a' w) (pick3 l is)) a := by unfold qOp; simp only [h0']; exact hq
    obtain ⟨v, hy, hK⟩ := yieldsIn_of_qOp h0' hq'
    rw [show (k :: is).length + T.length = (is.length + T.length) + 1 by simp; omega]
    exact wpAnyD_first h0' (Region.noSelect_spec hsel) haw (fun c a' w' h' => hQ c (a'.put o.dst v).tmps a' w' (by rw [put_tmps]; exact h')) (is.length + T.length) done a w hM (Region.free_spec h0' hf) hr' (yieldsIf_of_val h0' hmv hy) hS
      (ih _ _ (hM.set hr') hB' hK)

/-- THE REGION: F is taken first, then T; the class holds behind each of T but the last. -/
theorem wp_held_tail {id : Nat} {a : Act} {w : World} {l : List Oper} (C : World → Prop) (hC : C (w.drewN 1)) (F T : List Nat) (hm : P.follows .mixedOrders = true) (hB : tail4 .any l.toArray F T = true)
    (hQ : ∀ c tmps a w, Q (.panic c) { a with tmps := tmps } w → Q (.panic c) a w)
    (h : Nonempty (Cls C) → wpQuiet P l.toArray (fun w' => ∃ x : Cls C, w' = x.w) (fun a' => wpHeld P l.toArray Q (fun w' => ∃ x : Cls C, w' = x.w) (pick3 l T) a' (w.drewN 1)) (pick3 l F) a) :
    (Code.region id l.toArray true).wp P Q a w := by
  have h := h ⟨⟨_, hC⟩⟩
  simp only [tail4, Bool.and_eq_true, decide_eq_true_eq] at hB
  obtain ⟨⟨hsel, hlen⟩, hpre⟩ := hB
  have inv0 : Marks4 .any l.toArray (Array.replicate l.toArray.size false) :=
    ⟨by simp, fun j oj _ hl => by rw [getD_replicate_false] at hl; exact absurd hl (by decide)⟩
  have K := pre_anyD (P := P) (md := .any) (Q := Q) (T := T) (w := { w with drawn := w.drawn + 1 }) (S := fun w' => ∃ x : Cls C, w' = x.w) hsel hQ ⟨⟨_, hC⟩, rfl⟩ F _ a inv0 hpre h
  rw [hlen] at K
  exact wp_region_any hm (wpAny_of_D _ _ _ _ K)
end
end Go.Proofs.Ytjcbaelefacolaa
/- The layer delta: the function values of Leave, Unpublish, drop, Gone. Conditions: what they have captured lies there. -/
namespace Go.Proofs.Ytjcbaelefacolaa
open Go Go.RowKit
set_option maxHeartbeats 400000

theorem cellD_lt {w : World} {b o : Nat} {v : Value} (h : w.cell? ⟨b, o, none⟩ = some v) : b < w.heap.size := by
  rcases Nat.lt_or_ge b w.heap.size with h1 | h1
  · exact h1
  · simp [World.cell?, Array.getElem?_eq_none h1] at h
theorem leave1_any {w : World} {Z : Nat} {who : Int} (hz : w.cell? ⟨Z, 1, none⟩ = some (.int .i64 who)) (p : Per) :
    Calls Try.prog 51 #[.agg (encP p).toArray, .pointer (some ⟨Z, 0, none⟩)] w fun e w' => e = .returned (.bool (decide (p.who = who))) ∧ Upd [] w w' := by
  have hlt := cellD_lt hz
  obtain ⟨a, b, c⟩ := p
  unfold encP
  dsimp only
  obtain ⟨r, hr⟩ : ∃ r, r = decide (a = who) := ⟨_, rfl⟩
  rw [← hr]
  have hq : (a == who) = r := by rw [hr]; rfl
  clear hr
  go_enter Try.func51, Try.ntmps51
  go_wp2
  go_ret
  exact ⟨rfl, (Upd.refl _ _).alloc _⟩
theorem leave2_any {w : World} {Z : Nat} {who : Int} (hz : w.cell? ⟨Z, 1, none⟩ = some (.int .i64 who)) (b : Sb) :
    Calls Try.prog 52 #[.agg (encB b).toArray, .pointer (some ⟨Z, 0, none⟩)] w fun e w' => e = .returned (.bool (decide (b.who = who))) ∧ Upd [] w w' := by
  have hlt := cellD_lt hz
  obtain ⟨a, b, c, d, e⟩ := b
  unfold encB
  dsimp only
  obtain ⟨r, hr⟩ : ∃ r, r = decide (a = who) := ⟨_, rfl⟩
  rw [← hr]
  have hq : (a == who) = r := by rw [hr]; rfl
  clear hr
  go_enter Try.func52, Try.ntmps52
  go_wp2
  go_ret
  exact ⟨rfl, (Upd.refl _ _).alloc _⟩
theorem leave3_any {w : World} {Z : Nat} {who : Int} (hz : w.cell? ⟨Z, 1, none⟩ = some (.int .i64 who)) (x : Trk × SH) :
    Calls Try.prog 54 #[.agg (encT x).toArray, .pointer (some ⟨Z, 0, none⟩)] w fun e w' => e = .returned (.bool (decide (x.1.owner = who))) ∧ Upd [] w w' := by
  have hlt := cellD_lt hz
  obtain ⟨⟨i, a, c, l⟩, ⟨A, k⟩⟩ := x
  unfold encT
  dsimp only
  obtain ⟨r, hr⟩ : ∃ r, r = decide (a = who) := ⟨_, rfl⟩
  rw [← hr]
  have hq : (a == who) = r := by rw [hr]; rfl
  clear hr
  go_enter Try.func54, Try.ntmps54
  go_wp2
  go_ret
  exact ⟨rfl, (Upd.refl _ _).alloc _⟩
theorem unpub1_any {w : World} {Z : Nat} {id : Int} (hz : w.cell? ⟨Z, 4, none⟩ = some (.int .i64 id)) (x : Trk × SH) :
    Calls Try.prog 60 #[.agg (encT x).toArray, .pointer (some ⟨Z, 0, none⟩)] w fun e w' => e = .returned (.bool (decide (x.1.id = id))) ∧ Upd [] w w' := by
  have hlt := cellD_lt hz
  obtain ⟨⟨a, i, c, l⟩, ⟨A, k⟩⟩ := x
  unfold encT
  dsimp only
  obtain ⟨r, hr⟩ : ∃ r, r = decide (a = id) := ⟨_, rfl⟩
  rw [← hr]
  have hq : (a == id) = r := by rw [hr]; rfl
  clear hr
  go_enter Try.func60, Try.ntmps60
  go_wp2
  go_ret
  exact ⟨rfl, (Upd.refl _ _).alloc _⟩
/-- a state in a box, read -/
theorem box_cells {w : World} {T : Nat} {s : St} {h : SHd} (hb : Blk w T 31 (scells s h).toArray) :
    w.cell? ⟨T, 0, none⟩ = some (.int .i64 s.c.people) ∧ w.cell? ⟨T, 1, none⟩ = some (.int .i64 s.c.tracks) ∧ w.cell? ⟨T, 2, none⟩ = some (.int .i64 s.c.subs) ∧ w.cell? ⟨T, 3, none⟩ = some (.int .i64 s.c.slots) ∧
    w.cell? ⟨T, 4, none⟩ = some (.slice h.pA s.ps.length h.pc) ∧ w.cell? ⟨T, 5, none⟩ = some (.slice h.tA s.ts.length h.tc) ∧ w.cell? ⟨T, 6, none⟩ = some (.slice h.bA s.bs.length h.bc) :=
  ⟨hb.cell 0, hb.cell 1, hb.cell 2, hb.cell 3, hb.cell 4, hb.cell 5, hb.cell 6⟩
/-- Gone's: is the sub there? -/
theorem gone1_any {w : World} {Z : Nat} {s : St} {h : SHd} (hb : Blk w Z 31 (scells s h).toArray) (hp : RwIn w 0 5 h.bA s.bs.length h.bc (s.bs.flatMap encB)) (hl : s.bs.length ≤ 100000) (hu : UpB s.bs) (x : Sb) :
    Calls Try.prog 43 #[.agg (encB x).toArray, .pointer (some ⟨Z, 0, none⟩)] w fun e w' => e = .returned (.bool (has (cB x.who x.track) s.bs)) ∧ Upd [] w w' := by
  obtain ⟨z0, z1, z2, z3, z4, z5, z6⟩ := box_cells hb
  have hlt := hb.lt
  have HC := Lib.hid (fun (W : World) (u : Upd [] w W) => sub_any (w := W) (s := s) (h := h) (hp.upd u) hl hu x.who x.track)
  unfold scells at HC
  obtain ⟨a, b, c, d, e⟩ := x
  unfold encB
  dsimp only at HC ⊢
  obtain ⟨ha, hha⟩ : ∃ ha, ha = has (cB a b) s.bs := ⟨_, rfl⟩
  obtain ⟨lo, hlo⟩ : ∃ lo, lo = low (cB a b) s.bs := ⟨_, rfl⟩
  rw [← hha] at HC ⊢
  rw [← hlo] at HC
  obtain ⟨n, hn⟩ : ∃ n, n = s.ps.length := ⟨_, rfl⟩
  obtain ⟨n2, hn2⟩ : ∃ n2, n2 = s.ts.length := ⟨_, rfl⟩
  obtain ⟨n3, hn3⟩ : ∃ n3, n3 = s.bs.length := ⟨_, rfl⟩
  rw [← hn, ← hn2, ← hn3] at HC
  rw [← hn] at z4
  rw [← hn2] at z5
  rw [← hn3] at z6
  clear hha hlo hb hp hu hl hn hn2 hn3
  go_enter Try.func43, Try.ntmps43
  go_wp2_with fail
  refine (HC.out _ ((Upd.refl _ _).alloc _)).mono ?_
  rintro e1 w1 ⟨rfl, hu1⟩
  have HU := Lib.hid (((Upd.refl [] w).alloc (.cells #[.int .i64 a, .int .i64 b, .int .i64 c, .int .i64 d, .bool e] 55)).next hu1)
  clear hu1 HC
  go_wp2
  go_ret
  exact ⟨rfl, HU.out⟩
end Go.Proofs.Ytjcbaelefacolaa
/- The layer delta: a state in a box with another row. Plain laws on worlds. -/
namespace Go.Proofs.Ytjcbaelefacolaa
open Go Go.RowKit
set_option maxHeartbeats 400000

theorem own_in {w : World} {B size n c : Nat} {e : TypeId} {A : Option Addr} {xs : List Value} (h : w.ownsRow B e size (.slice A n c) n xs) : ∀ s, s ∈ A.toList.map (·.block) → (Value.slice A n c).ownBlock = some s ∧ B ≤ s := by
  intro s hs
  cases A with
  | none => simp at hs
  | some a =>
    have e1 : s = a.block := by simpa using hs
    subst e1
    exact ⟨rfl, (own_block_lt h rfl).1⟩
theorem TIn.putP {w w1 : World} {B T : Nat} {s : St} {h : SHd} (k : TIn w B T s h) (u : Upd (h.pA.toList.map (·.block)) w w1) {A' : Option Addr} {c' : Nat} {ps' : List Per}
    (ho : w1.ownsRow B 75 3 (.slice A' ps'.length c') ps'.length (ps'.flatMap encP)) :
    TIn (w1.setCell ⟨T, 4, none⟩ (.slice A' ps'.length c')) B T { s with ps := ps' } { h with pA := A', pc := c' } ∧ Upd (T :: h.pA.toList.map (·.block)) w (w1.setCell ⟨T, 4, none⟩ (.slice A' ps'.length c')) := by
  have hin := own_in k.r.p
  have hb1 : Blk w1 T 31 (scells s h).toArray := k.box.upd u (fun hm => own_box k.r.p k.box (by decide) (hin T hm).1)
  have us : Upd [T] w1 (w1.setCell ⟨T, 4, none⟩ (.slice A' ps'.length c')) := (Upd.refl [T] w1).setCell (.inl (by simp)) _
  have keep : ∀ {B size n : Nat} {e : TypeId} {v : Value} {xs : List Value}, w.ownsRow B e size v n xs → e ≠ 75 → w1.ownsRow B e size v n xs := fun {B size n e v xs} h' he => ownsRow_upd h' u (fun s hs => own_apart k.r.p h' (Ne.symm he) (hin s hs).1)
  have fin : ∀ {B size n : Nat} {e : TypeId} {v : Value} {xs : List Value}, w1.ownsRow B e size v n xs → e ≠ 31 → (w1.setCell ⟨T, 4, none⟩ (.slice A' ps'.length c')).ownsRow B e size v n xs := fun {B size n e v xs} h' he => ownsRow_upd h' us (fun s hs => by
    rw [List.mem_singleton] at hs
    subst hs
    exact own_box h' hb1 he)
  refine ⟨⟨hb1.store 4 _, k.BT, fin ho (by decide), fin (keep k.r.t (by decide)) (by decide), fin (keep k.r.b (by decide)) (by decide), k.r.tx, fun x hx => fin (keep (k.r.ss x hx) (by decide)) (by decide)⟩, ?_⟩
  exact (u.more (by intro s hs; exact List.mem_cons_of_mem _ hs)).setCell (.inl (by simp)) _
theorem TIn.putB {w w1 : World} {B T : Nat} {s : St} {h : SHd} (k : TIn w B T s h) (u : Upd (h.bA.toList.map (·.block)) w w1) {A' : Option Addr} {c' : Nat} {bs' : List Sb}
    (ho : w1.ownsRow B 55 5 (.slice A' bs'.length c') bs'.length (bs'.flatMap encB)) :
    TIn (w1.setCell ⟨T, 6, none⟩ (.slice A' bs'.length c')) B T { s with bs := bs' } { h with bA := A', bc := c' } ∧ Upd (T :: h.bA.toList.map (·.block)) w (w1.setCell ⟨T, 6, none⟩ (.slice A' bs'.length c')) := by
  have hin := own_in k.r.b
  have hb1 : Blk w1 T 31 (scells s h).toArray := k.box.upd u (fun hm => own_box k.r.b k.box (by decide) (hin T hm).1)
  have us : Upd [T] w1 (w1.setCell ⟨T, 6, none⟩ (.slice A' bs'.length c')) := (Upd.refl [T] w1).setCell (.inl (by simp)) _
  have keep : ∀ {B size n : Nat} {e : TypeId} {v : Value} {xs : List Value}, w.ownsRow B e size v n xs → e ≠ 55 → w1.ownsRow B e size v n xs := fun {B size n e v xs} h' he => ownsRow_upd h' u (fun s hs => own_apart k.r.b h' (Ne.symm he) (hin s hs).1)
  have fin : ∀ {B size n : Nat} {e : TypeId} {v : Value} {xs : List Value}, w1.ownsRow B e size v n xs → e ≠ 31 → (w1.setCell ⟨T, 6, none⟩ (.slice A' bs'.length c')).ownsRow B e size v n xs := fun {B size n e v xs} h' he => ownsRow_upd h' us (fun s hs => by
    rw [List.mem_singleton] at hs
    subst hs
    exact own_box h' hb1 he)
  refine ⟨⟨hb1.store 6 _, k.BT, fin (keep k.r.p (by decide)) (by decide), fin (keep k.r.t (by decide)) (by decide), fin ho (by decide), k.r.tx, fun x hx => fin (keep (k.r.ss x hx) (by decide)) (by decide)⟩, ?_⟩
  exact (u.more (by intro s hs; exact List.mem_cons_of_mem _ hs)).setCell (.inl (by simp)) _
theorem TIn.putT {w w1 : World} {B T : Nat} {s : St} {h : SHd} (k : TIn w B T s h) (u : Upd (h.tA.toList.map (·.block)) w w1) {A' : Option Addr} {c' : Nat} {ts' : List Trk} {tx' : List (Trk × SH)} (hm : tx'.map (·.1) = ts')
    (ho : w1.ownsRow B 76 4 (.slice A' ts'.length c') ts'.length (tx'.flatMap encT))
    (hs : ∀ x, x ∈ tx' → x ∈ h.tx ∨ w1.ownsRow B 64 1 (.slice x.2.A x.1.ss.length x.2.c) x.1.ss.length (x.1.ss.map (Value.int .u32))) :
    TIn (w1.setCell ⟨T, 5, none⟩ (.slice A' ts'.length c')) B T { s with ts := ts' } { h with tA := A', tc := c', tx := tx' } ∧ Upd (T :: h.tA.toList.map (·.block)) w (w1.setCell ⟨T, 5, none⟩ (.slice A' ts'.length c')) := by
  have hin := own_in k.r.t
  have hb1 : Blk w1 T 31 (scells s h).toArray := k.box.upd u (fun hm => own_box k.r.t k.box (by decide) (hin T hm).1)
  have us : Upd [T] w1 (w1.setCell ⟨T, 5, none⟩ (.slice A' ts'.length c')) := (Upd.refl [T] w1).setCell (.inl (by simp)) _
  have keep : ∀ {B size n : Nat} {e : TypeId} {v : Value} {xs : List Value}, w.ownsRow B e size v n xs → e ≠ 76 → w1.ownsRow B e size v n xs := fun {B size n e v xs} h' he => ownsRow_upd h' u (fun s hs => own_apart k.r.t h' (Ne.symm he) (hin s hs).1)
  have fin : ∀ {B size n : Nat} {e : TypeId} {v : Value} {xs : List Value}, w1.ownsRow B e size v n xs → e ≠ 31 → (w1.setCell ⟨T, 5, none⟩ (.slice A' ts'.length c')).ownsRow B e size v n xs := fun {B size n e v xs} h' he => ownsRow_upd h' us (fun s hs => by
    rw [List.mem_singleton] at hs
    subst hs
    exact own_box h' hb1 he)
  refine ⟨⟨hb1.store 5 _, k.BT, fin (keep k.r.p (by decide)) (by decide), fin ho (by decide), fin (keep k.r.b (by decide)) (by decide), hm, fun x hx => ?_⟩, ?_⟩
  · rcases hs x hx with hx | hx
    · exact fin (keep (k.r.ss x hx) (by decide)) (by decide)
    · exact fin hx (by decide)
  · exact (u.more (by intro s hs; exact List.mem_cons_of_mem _ hs)).setCell (.inl (by simp)) _
/-- a sub changed in place -/
theorem TIn.setB {w w1 : World} {B T g : Nat} {s : St} {h : SHd} (k : TIn w B T s h) (hg : h.bA = some ⟨g, 0, none⟩) (u : Upd [g] w w1) {bs' : List Sb} (hl : bs'.length = s.bs.length)
    (ho : w1.ownsRow B 55 5 (.slice (some ⟨g, 0, none⟩) s.bs.length h.bc) s.bs.length (bs'.flatMap encB)) : TIn w1 B T { s with bs := bs' } h := by
  have hgs : (Value.slice h.bA s.bs.length h.bc).ownBlock = some g := by rw [hg]; rfl
  have keep : ∀ {B size n : Nat} {e : TypeId} {v : Value} {xs : List Value}, w.ownsRow B e size v n xs → e ≠ 55 → w1.ownsRow B e size v n xs := fun {B size n e v xs} h' he => ownsRow_upd h' u (fun s hs => by
    rw [List.mem_singleton] at hs
    subst hs
    exact own_apart k.r.b h' (Ne.symm he) hgs)
  have hb : Blk w1 T 31 (scells s h).toArray := k.box.upd u (fun hm => by
    rw [List.mem_singleton] at hm
    exact own_box k.r.b k.box (by decide) (by rw [hm]; exact hgs))
  refine ⟨?_, k.BT, keep k.r.p (by decide), keep k.r.t (by decide), ?_, k.r.tx, fun x hx => keep (k.r.ss x hx) (by decide)⟩
  · unfold scells at hb ⊢
    dsimp only
    rw [hl]
    exact hb
  · dsimp only
    rw [hl, hg]
    exact ho
theorem erase_flat {α : Type} {f : α → List Value} {size : Nat} (hf : ∀ z, (f z).length = size) (l : List α) (i : Nat) : (l.flatMap f).take (i * size) ++ (l.flatMap f).drop ((i + 1) * size) = (l.eraseIdx i).flatMap f := by
  have hd : ∀ k, (l.flatMap f).drop (k * size) = (l.drop k).flatMap f := fun k => by
    by_cases hk : k ≤ l.length
    · have e : (l.flatMap f) = (l.take k).flatMap f ++ (l.drop k).flatMap f := by rw [← List.flatMap_append, List.take_append_drop]
      rw [e, List.drop_left' (by rw [flat_length hf, List.length_take, Nat.min_eq_left hk])]
    · rw [List.drop_eq_nil_of_le (by rw [flat_length hf]; exact Nat.mul_le_mul_right _ (by omega)), List.drop_eq_nil_of_le (by omega)]
      rfl
  rw [flat_take hf, hd, ← List.flatMap_append, List.eraseIdx_eq_take_drop_succ]
/-- what has changed lies from block B on -/
theorem below_of {w w1 : World} {B T : Nat} {A : Option Addr} (u : Upd (T :: A.toList.map (·.block)) w w1) (hT : B ≤ T) (hB : B ≤ w.heap.size) (hA : ∀ s, s ∈ A.toList.map (·.block) → B ≤ s) : Below B w w1 :=
  u.below hB (fun s hs => by
    rcases List.mem_cons.1 hs with rfl | hs
    · exact hT
    · exact hA s hs)
/-- a request's SSRCs, below block B -/
structure QIn (w : World) (B : Nat) (q : Rq) (h : SH) : Prop where
  l : CellsIn w 0 B 1 h.A q.ss.length (q.ss.map (Value.int .u32))
  nl : h.A = none → q.ss.length = 0 ∧ h.c = 0
  le : q.ss.length ≤ h.c
  cm : h.c ≤ 9223372036854775807
  pos : ∀ x, x ∈ q.ss → 0 ≤ x
  few : q.ss.length ≤ 6
theorem QIn.below {w w' : World} {B : Nat} {q : Rq} {h : SH} (k : QIn w B q h) (u : Below B w w') : QIn w' B q h := ⟨k.l.below u (Nat.le_refl _), k.nl, k.le, k.cm, k.pos, k.few⟩
theorem QIn.row {w : World} {B : Nat} {q : Rq} {h : SH} (k : QIn w B q h) (hB : B ≤ w.heap.size) : RwIn w 0 1 h.A q.ss.length h.c (q.ss.map (Value.int .u32)) := ⟨k.l.more (Nat.le_refl _) hB, k.nl, k.le, k.cm⟩
end Go.Proofs.Ytjcbaelefacolaa
