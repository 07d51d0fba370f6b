/- The pins' functions over plain lists, one contract each. Conditions: the pins as before. -/
import Derived.Test.YtembadjfialenaaSweep3
import Derived.Test.YtembadjfialenaaPins2
namespace Go.Proofs.Ytembadjfialenaa
open Go Go.RowKit
set_option maxHeartbeats 400000

def mInstall (ws : List Wk) (i ep : Int) : List Wk × Int :=
  if i < 0 ∨ (ws.length : Int) ≤ i then (ws, 1) else match ws[i.toNat]? with
  | some x => if ep < x.at_ then (ws, 23) else (ws.set i.toNat { x with at_ := ep }, 0)
  | none => (ws, 1)
def mPin (ws : List Wk) (i : Int) : List Wk × Int × Int :=
  if i < 0 ∨ (ws.length : Int) ≤ i then (ws, 0, 1) else match ws[i.toNat]? with
  | some x => if x.looks = true then (ws, 0, 23) else (ws.set i.toNat { x with looks := true, sees := x.at_ }, x.at_, 0)
  | none => (ws, 0, 1)
def mUnpin (ws : List Wk) (i : Int) : List Wk × Int :=
  if i < 0 ∨ (ws.length : Int) ≤ i then (ws, 1) else match ws[i.toNat]? with
  | some x => if x.looks = true then (ws.set i.toNat { x with looks := false }, 0) else (ws, 23)
  | none => (ws, 1)
def mRetire (wts : List Wt) (x : Wt) : List Wt × Int := if wts.length = 64 then (wts, 20) else (wts ++ [x], 0)

section
variable {w : World} {N g lw : Nat} {ws : List Wk} {wts : List Wt} {wv : Value}
theorem install_any (h : IsP w N g lw ws wts wv) (i ep : Int) :
    Calls Try.prog 11 #[.pointer (some ⟨g, 0, none⟩), .int .i64 i, .int .u64 ep] w fun e w' => e = .returned (.int .i64 (mInstall ws i ep).2) ∧ IsP w' N g lw (mInstall ws i ep).1 wts wv ∧ Upd [lw] w w' := by
  unfold mInstall
  by_cases hi : i < 0 ∨ (ws.length : Int) ≤ i
  · rw [if_pos hi]
    refine (install_arg h i ep hi).mono ?_
    rintro e w' ⟨rfl, rfl⟩
    exact ⟨rfl, h, Upd.refl _ _⟩
  · rw [if_neg hi]
    have hil : i.toNat < ws.length := by omega
    have hx : ws[i.toNat]? = some ws[i.toNat] := List.getElem?_eq_getElem hil
    generalize ws[i.toNat] = x at hx
    simp only [hx]
    by_cases hlt : ep < x.at_
    · rw [if_pos hlt]
      refine (install_low h i.toNat i ep x (by omega) hx hlt).mono ?_
      rintro e w' ⟨rfl, rfl⟩
      exact ⟨rfl, h, Upd.refl _ _⟩
    · rw [if_neg hlt]
      refine (install_yes h i.toNat i ep x (by omega) hx hlt).mono ?_
      rintro e w' ⟨rfl, h1, h2⟩
      exact ⟨rfl, h1, h2⟩
theorem pin_any (h : IsP w N g lw ws wts wv) (i : Int) :
    Calls Try.prog 13 #[.pointer (some ⟨g, 0, none⟩), .int .i64 i] w fun e w' => e = .returned (.tuple #[.int .u64 (mPin ws i).2.1, .int .i64 (mPin ws i).2.2]) ∧ IsP w' N g lw (mPin ws i).1 wts wv ∧ Upd [lw] w w' := by
  unfold mPin
  by_cases hi : i < 0 ∨ (ws.length : Int) ≤ i
  · rw [if_pos hi]
    refine (pin_arg h i hi).mono ?_
    rintro e w' ⟨rfl, rfl⟩
    exact ⟨rfl, h, Upd.refl _ _⟩
  · rw [if_neg hi]
    have hil : i.toNat < ws.length := by omega
    have hx : ws[i.toNat]? = some ws[i.toNat] := List.getElem?_eq_getElem hil
    generalize ws[i.toNat] = x at hx
    simp only [hx]
    by_cases hlt : x.looks = true
    · rw [if_pos hlt]
      refine (pin_state h i.toNat i x (by omega) hx hlt).mono ?_
      rintro e w' ⟨rfl, rfl⟩
      exact ⟨rfl, h, Upd.refl _ _⟩
    · rw [if_neg hlt]
      refine (pin_yes h i.toNat i x (by omega) hx (by simpa using hlt)).mono ?_
      rintro e w' ⟨rfl, h1, h2⟩
      exact ⟨rfl, h1, h2⟩
theorem unpin_any (h : IsP w N g lw ws wts wv) (i : Int) :
    Calls Try.prog 15 #[.pointer (some ⟨g, 0, none⟩), .int .i64 i] w fun e w' => e = .returned (.int .i64 (mUnpin ws i).2) ∧ IsP w' N g lw (mUnpin ws i).1 wts wv ∧ Upd [lw] w w' := by
  unfold mUnpin
  by_cases hi : i < 0 ∨ (ws.length : Int) ≤ i
  · rw [if_pos hi]
    refine (unpin_arg h i hi).mono ?_
    rintro e w' ⟨rfl, rfl⟩
    exact ⟨rfl, h, Upd.refl _ _⟩
  · rw [if_neg hi]
    have hil : i.toNat < ws.length := by omega
    have hx : ws[i.toNat]? = some ws[i.toNat] := List.getElem?_eq_getElem hil
    generalize ws[i.toNat] = x at hx
    simp only [hx]
    by_cases hlt : x.looks = true
    · rw [if_pos hlt]
      refine (unpin_yes h i.toNat i x (by omega) hx hlt).mono ?_
      rintro e w' ⟨rfl, h1, h2⟩
      exact ⟨rfl, h1, h2⟩
    · rw [if_neg hlt]
      refine (unpin_state h i.toNat i x (by omega) hx (by simpa using hlt)).mono ?_
      rintro e w' ⟨rfl, rfl⟩
      exact ⟨rfl, h, Upd.refl _ _⟩
theorem retire_any (h : IsP w N g lw ws wts wv) (hN : N ≤ w.heap.size) (slot turn ep : Int) :
    Calls Try.prog 17 #[.pointer (some ⟨g, 0, none⟩), .agg #[.int .i64 slot, .int .u32 turn], .int .u64 ep] w fun e w' => e = .returned (.int .i64 (mRetire wts ⟨slot, turn, ep⟩).2) ∧
      ∃ wv', IsP w' N g lw ws (mRetire wts ⟨slot, turn, ep⟩).1 wv' ∧ Upd (g :: wv.ownBlock.toList) w w' ∧ (∀ b, wv'.ownBlock = some b → wv.ownBlock = some b ∨ w.heap.size ≤ b) := by
  unfold mRetire
  by_cases hf : wts.length = 64
  · rw [if_pos hf]
    refine (retire_full h slot turn ep hf).mono ?_
    rintro e w' ⟨rfl, hu⟩
    exact ⟨rfl, wv, h.upd hu (by simp) (by simp) (by simp), hu.more (by simp), fun b hb => .inl hb⟩
  · rw [if_neg hf]
    refine (retire_yes h hN slot turn ep (by have := h.few; omega)).mono ?_
    rintro e w' ⟨rfl, h1⟩
    exact ⟨rfl, h1⟩
end

/-- The pins, born since world w0 (nothing of which has changed). -/
structure PA (w0 w : World) (N g lw : Nat) (ws : List Wk) (wts : List Wt) (wv : Value) : Prop where
  is : IsP w N g lw ws wts wv
  N : N ≤ w.heap.size
  g : w0.heap.size ≤ g
  lw : w0.heap.size ≤ lw
  below : Below w0.heap.size w0 w

section
variable {w0 w w' : World} {N g lw : Nat} {ws : List Wk} {wts : List Wt} {wv : Value}
theorem PA.own (h : PA w0 w N g lw ws wts wv) : ∀ s, s ∈ g :: lw :: wv.ownBlock.toList → w0.heap.size ≤ s := by
  intro s hs
  have hg := h.g
  have hl := h.lw
  have := h.is.gN
  rcases List.mem_cons.1 hs with rfl | hs
  · exact hg
  · rcases List.mem_cons.1 hs with rfl | hs
    · exact hl
    · have := (h.is.foot (b := s) (by simpa using hs)).1; omega
theorem PA.step {ws' : List Wk} {wts' : List Wt} {wv' : Value} {S : List Nat} (h : PA w0 w N g lw ws wts wv) (hi : IsP w' N g lw ws' wts' wv') (u : Upd S w w') (hS : ∀ s, s ∈ S → s ∈ g :: lw :: wv.ownBlock.toList) : PA w0 w' N g lw ws' wts' wv' :=
  ⟨hi, Nat.le_trans h.N u.size, h.g, h.lw, h.below.trans (u.below h.below.size (fun s hs => h.own s (hS s hs)))⟩
theorem PA.upd (h : PA w0 w N g lw ws wts wv) (u : Upd [] w w') : PA w0 w' N g lw ws wts wv := h.step (h.is.upd u (by simp) (by simp) (by simp)) u (by simp)
theorem PA.drewN (h : PA w0 w N g lw ws wts wv) (n : Nat) : PA w0 (w.drewN n) N g lw ws wts wv := h.upd ((Upd.refl [] w).drewN n)
theorem PA.base (h : PA w0 w N g lw ws [] (.slice none 0 0)) (N' : Nat) (hN : N ≤ N') (hw : N' ≤ w.heap.size) : PA w0 w N' g lw ws [] (.slice none 0 0) :=
  ⟨{ h.is with own := World.ownsRow_nil _ _ _ _, gN := Nat.lt_of_lt_of_le h.is.gN hN, lN := Nat.lt_of_lt_of_le h.is.lN hN }, hw, h.g, h.lw, h.below⟩
theorem PA.new (hb : Below w0.heap.size w0 w) (n : Nat) (h1 : 1 ≤ n) (h2 : n ≤ 4) :
    Calls Try.prog 9 #[.int .i64 (n : Int)] w fun e w' => ∃ g lw, e = .returned (.pointer (some ⟨g, 0, none⟩)) ∧ PA w0 w' w'.heap.size g lw (List.replicate n ⟨0, 0, false⟩) [] (.slice none 0 0) ∧ Upd [] w w' := by
  refine (pnew_yes w n h1 h2).mono ?_
  rintro e w' ⟨rfl, hp, hu, hs⟩
  have := hb.size
  exact ⟨_, _, rfl, ⟨{ hp with own := World.ownsRow_nil _ _ _ _, gN := by omega, lN := by omega }, Nat.le_refl _, by omega, by omega, hb.trans (hu.below hb.size (by simp))⟩, hu⟩
theorem PA.install (h : PA w0 w N g lw ws wts wv) (i ep : Int) :
    Calls Try.prog 11 #[.pointer (some ⟨g, 0, none⟩), .int .i64 i, .int .u64 ep] w fun e w' => e = .returned (.int .i64 (mInstall ws i ep).2) ∧ PA w0 w' N g lw (mInstall ws i ep).1 wts wv ∧ Upd [lw] w w' := by
  refine (install_any h.is i ep).mono ?_
  rintro e w' ⟨rfl, h1, h2⟩
  exact ⟨rfl, h.step h1 h2 (by simp), h2⟩
theorem PA.pin (h : PA w0 w N g lw ws wts wv) (i : Int) :
    Calls Try.prog 13 #[.pointer (some ⟨g, 0, none⟩), .int .i64 i] w fun e w' => e = .returned (.tuple #[.int .u64 (mPin ws i).2.1, .int .i64 (mPin ws i).2.2]) ∧ PA w0 w' N g lw (mPin ws i).1 wts wv ∧ Upd [lw] w w' := by
  refine (pin_any h.is i).mono ?_
  rintro e w' ⟨rfl, h1, h2⟩
  exact ⟨rfl, h.step h1 h2 (by simp), h2⟩
theorem PA.unpin (h : PA w0 w N g lw ws wts wv) (i : Int) :
    Calls Try.prog 15 #[.pointer (some ⟨g, 0, none⟩), .int .i64 i] w fun e w' => e = .returned (.int .i64 (mUnpin ws i).2) ∧ PA w0 w' N g lw (mUnpin ws i).1 wts wv ∧ Upd [lw] w w' := by
  refine (unpin_any h.is i).mono ?_
  rintro e w' ⟨rfl, h1, h2⟩
  exact ⟨rfl, h.step h1 h2 (by simp), h2⟩
theorem PA.retire (h : PA w0 w N g lw ws wts wv) (slot turn ep : Int) :
    Calls Try.prog 17 #[.pointer (some ⟨g, 0, none⟩), .agg #[.int .i64 slot, .int .u32 turn], .int .u64 ep] w fun e w' => e = .returned (.int .i64 (mRetire wts ⟨slot, turn, ep⟩).2) ∧
      ∃ wv', PA w0 w' N g lw ws (mRetire wts ⟨slot, turn, ep⟩).1 wv' ∧ Upd (g :: wv.ownBlock.toList) w w' ∧ (∀ b, wv'.ownBlock = some b → wv.ownBlock = some b ∨ w.heap.size ≤ b) := by
  refine (retire_any h.is h.N slot turn ep).mono ?_
  rintro e w' ⟨rfl, wv', h1, h2, h3⟩
  exact ⟨rfl, wv', h.step h1 h2 (fun s hs => by rcases List.mem_cons.1 hs with rfl | hs <;> simp_all), h2, h3⟩
theorem PA.sweep (h : PA w0 w N g lw ws wts wv) :
    Calls Try.prog 19 #[.pointer (some ⟨g, 0, none⟩)] w fun e w' => ∃ rv wv', e = .returned rv ∧ PA w0 w' N g lw ws (wts.filter (stay (oldest ws))) wv' ∧ wv'.ownBlock = wv.ownBlock ∧
      w'.ownsRow w.heap.size 33 2 rv (wts.flatMap (take1 (oldest ws))).length ((wts.flatMap (take1 (oldest ws))).flatMap encR) ∧ Upd (g :: wv.ownBlock.toList) w w' := by
  refine (sweep_any h.is h.N).mono ?_
  rintro e w' ⟨rv, wv', rfl, h1, h2, h3, h4⟩
  exact ⟨rv, wv', rfl, h.step h1 h4 (fun s hs => by rcases List.mem_cons.1 hs with rfl | hs <;> simp_all), h2, h3, h4⟩
theorem PA.oldest (h : PA w0 w N g lw ws wts wv) :
    Calls Try.prog 20 #[.pointer (some ⟨g, 0, none⟩)] w fun e w' => e = .returned (.int .u64 (oldest ws)) ∧ PA w0 w' N g lw ws wts wv ∧ Upd [] w w' := by
  refine (oldest_any h.is).mono ?_
  rintro e w' ⟨rfl, h1⟩
  exact ⟨rfl, h.upd h1, h1⟩
theorem PA.waiting (h : PA w0 w N g lw ws wts wv) :
    Calls Try.prog 22 #[.pointer (some ⟨g, 0, none⟩)] w fun e w' => e = .returned (.int .i64 wts.length) ∧ w = w' := waiting_any h.is
end

/-- a swept ref, read -/
theorem ref_at {w : World} {N n : Nat} {v : Value} {R : List (Int × Int)} (h : w.ownsRow N 33 2 v n (R.flatMap encR)) : ∃ A c, v = .slice A n c ∧ ∀ i, i < n → ∃ b x, A = some ⟨b, 0, none⟩ ∧ N ≤ b ∧ b < w.heap.size ∧ R[i]? = some x ∧ w.cell? ⟨b, i * 2, none⟩ = some (.int .i64 x.1) ∧ w.cell? ⟨b, i * 2 + 1, none⟩ = some (.int .u32 x.2) := by
  obtain ⟨A, c, hv, _, hA, _⟩ := own_form h
  refine ⟨A, c, hv, fun i hi => ?_⟩
  obtain ⟨b, hb, hN, hlt⟩ := hA (by omega)
  subst hb
  subst hv
  have hl : R.length = n := by have := h.1; rw [flat_length encR_len] at this; omega
  have hil : i < R.length := by omega
  refine ⟨b, R[i], rfl, hN, hlt, List.getElem?_eq_getElem hil, ?_, ?_⟩
  · rw [h.cellAt (i * 2) (by omega)]; have := flat_get encR_len R i 0 R[i] (List.getElem?_eq_getElem hil) (by omega); simpa [encR] using this
  · rw [h.cellAt (i * 2 + 1) (by omega)]; have := flat_get encR_len R i 1 R[i] (List.getElem?_eq_getElem hil) (by omega); simpa [encR] using this
end Go.Proofs.Ytembadjfialenaa
