/- The region of YtgkejdjdccgjbaaTail over any class of worlds. -/
import Derived.Test.YtgkejdjdccgjbaaTail
namespace Go.Proofs.Ytgkejdjdccgjbaa
open Go

section
variable {P : Program}

/-- The worlds of a class, as a type of its own (so that a walk sees one name for "some world of it"). -/
structure Cls (C : World → Prop) where
  w : World
  h : C w

theorem quiet_cls {C : World → Prop} {f : FuncId} {args : Array Value} {x : Cls C} {v : Value} (h : Calls P f args x.w fun e w' => e = .returned v ∧ C w') : Calls P f args x.w fun e w' => e = .returned v ∧ ∃ m : Cls C, w' = m.w :=
  h.mono fun _ w' ⟨he, hm⟩ => ⟨he, ⟨w', hm⟩, rfl⟩

/-- THE REGION, over any class of worlds: its operations up to the n-th answer alike in each world of the class, and stay in it. -/
theorem wp_moves_class_tail {id : Nat} {Q : Exit → Act → World → Prop} {a : Act} {w : World} {l : List Oper} (C : World → Prop) (hC : C (w.drewN 1)) (m n : Nat) (hm : P.follows .mixedOrders = true) (hB : tailB .any l.toArray m n = true)
    (hQ : ∀ c tmps a w, Q (.panic c) { a with tmps := tmps } w → Q (.panic c) a w)
    (h : Nonempty (Cls C) → wpQuiet P l.toArray (fun _ => True) (fun a0 => wpQuiet P l.toArray (fun w' => ∃ x : Cls C, w' = x.w) (fun a' => ∀ w', (∃ x : Cls C, w' = x.w) → wpList P l.toArray Q (l.drop n) a' w') ((l.take n).drop m) a0) (l.take m) a) :
    (Code.region id l.toArray true).wp P Q a w := by
  have h := h ⟨⟨_, hC⟩⟩
  simp only [tailB, Bool.and_eq_true, decide_eq_true_eq] at hB
  obtain ⟨⟨⟨⟨⟨hsel, hn⟩, hmn⟩, hs⟩, hc⟩, hpre⟩ := hB
  have hn' : n < l.length := by simpa using hn
  have hml : (l.take m).length = m := by rw [List.length_take]; omega
  have hhl : ((l.take n).drop m).length = n - m := by rw [List.length_drop, List.length_take]; omega
  have hsz : (l.drop n).length = l.toArray.size - n := by simp
  have inv0 : HeadInv .any l.toArray n (Array.replicate l.toArray.size false) :=
    ⟨by simp, fun j oj _ hl => by rw [getD_replicate_false] at hl; exact absurd hl (by decide), fun t _ ht => getD_in (by simpa using ht) (getD_replicate_false _ _)⟩
  refine wp_region_any hm ?_
  have K := pre_any (P := P) (md := .any) (Q := Q) (m := m) (F := n - m + (l.toArray.size - n)) (w := { w with drawn := w.drawn + 1 }) hsel (fun done a' ok hB' hq => ?_) hQ (l.take m) 0 _ a
    (fun j hj => by rw [hml] at hj; simp [hj]) (by simpa using hml) ⟨inv0, fun i hi => absurd hi (Nat.not_lt_zero i)⟩ (by rw [hml]; exact hpre) h
  · rw [hml, show m + (n - m + (l.toArray.size - n)) = l.toArray.size by omega] at K
    exact K
  · have H := HeadAny.lex (P := P) (md := .any) (g := l.toArray.size - n) hsel hs hc ((l.take n).drop m) m done a'
      (fun j hj => by
        rw [hhl] at hj
        have h1 : m + j < n := by omega
        simp [List.getElem?_drop, List.getElem?_take, h1]) (by rw [hhl]; omega) ok (by rw [hhl]; exact hB') hq
    rw [hhl] at H
    exact HeadAny.any (Q := Q) (g := l.toArray.size - n) (fun done a' w' hw' hL => by
      have h1 := wpAny_of_seqW (md := .any) (Q := Q) hsel hQ (l.drop n) n done a' w' (fun j _ => by simp [List.getElem?_drop]) (by rw [hsz]; exact hL.2.1) (hL.2.2 w' hw')
      rwa [hsz] at h1) (n - m) done a' _ ⟨⟨_, hC⟩, rfl⟩ H
theorem wp_class_tail {id : Nat} {Q : Exit → Act → World → Prop} {a : Act} {w : World} {l : List Oper} (C : World → Prop) (hC : C (w.drewN 1)) (n : Nat) (hm : P.follows .mixedOrders = true) (hB : tailB .any l.toArray 0 n = true)
    (hQ : ∀ c tmps a w, Q (.panic c) { a with tmps := tmps } w → Q (.panic c) a w)
    (h : Nonempty (Cls C) → wpQuiet P l.toArray (fun w' => ∃ x : Cls C, w' = x.w) (fun a' => ∀ w', (∃ x : Cls C, w' = x.w) → wpList P l.toArray Q (l.drop n) a' w') (l.take n) a) : (Code.region id l.toArray true).wp P Q a w :=
  wp_moves_class_tail C hC 0 n hm hB hQ h
end
end Go.Proofs.Ytgkejdjdccgjbaa
