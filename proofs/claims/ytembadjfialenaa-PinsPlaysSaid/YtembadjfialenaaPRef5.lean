/- The document's pins over plain lists, one contract each; and how its workers are those of the code. Conditions: as before. -/
import Derived.Test.YtembadjfialenaaPRef4
namespace Go.Proofs.Ytembadjfialenaa
open Go Go.RowKit
set_option maxHeartbeats 400000

def rUnpin (ws : List Wk) (i : Int) : List Wk × Int :=
  if i < 0 ∨ (ws.length : Int) ≤ i then (ws, 1) else match ws[i.toNat]? with
  | some x => if x.looks = true then (ws.set i.toNat ⟨x.at_, 0, false⟩, 0) else (ws, 23)
  | none => (ws, 1)
/-- what is told of a worker that doesn't look -/
def nrm (x : Wk) : Wk := if x.looks = true then x else ⟨x.at_, 0, false⟩
theorem nrm_at (x : Wk) : (nrm x).at_ = x.at_ := by unfold nrm; split <;> rfl
theorem nrm_looks (x : Wk) : (nrm x).looks = x.looks := by unfold nrm; split <;> simp_all
theorem nrm_older (o : Int) (x : Wk) : older o (nrm x) = older o x := by
  unfold nrm
  split
  · rfl
  · rename_i h; simp [older, h]
theorem nrm_foldl (ws : List Wk) (o : Int) : (ws.map nrm).foldl older o = ws.foldl older o := by
  induction ws generalizing o with
  | nil => rfl
  | cons a ws ih => rw [List.map_cons, List.foldl_cons, List.foldl_cons, nrm_older, ih]
theorem nrm_oldest (ws : List Wk) : oldest (ws.map nrm) = oldest ws := by
  unfold oldest
  rw [nrm_foldl]
  cases ws with
  | nil => rfl
  | cons a ws => simp [nrm_at]
theorem nrm_install (ws : List Wk) (i ep : Int) : mInstall (ws.map nrm) i ep = ((mInstall ws i ep).1.map nrm, (mInstall ws i ep).2) := by
  unfold mInstall
  rw [List.length_map]
  split
  · rfl
  · rw [List.getElem?_map]
    cases h : ws[i.toNat]? with
    | none => rfl
    | some x =>
      simp only [Option.map_some, nrm_at]
      split
      · rfl
      · rw [List.map_set]
        congr 2
        obtain ⟨a, s, l⟩ := x
        cases l <;> rfl
theorem nrm_pin (ws : List Wk) (i : Int) : mPin (ws.map nrm) i = ((mPin ws i).1.map nrm, (mPin ws i).2) := by
  unfold mPin
  rw [List.length_map]
  split
  · rfl
  · rw [List.getElem?_map]
    cases h : ws[i.toNat]? with
    | none => rfl
    | some x =>
      simp only [Option.map_some, nrm_looks, nrm_at]
      split
      · rfl
      · rw [List.map_set]
        congr 2
theorem nrm_unpin (ws : List Wk) (i : Int) : rUnpin (ws.map nrm) i = ((mUnpin ws i).1.map nrm, (mUnpin ws i).2) := by
  unfold rUnpin mUnpin
  rw [List.length_map]
  split
  · rfl
  · rw [List.getElem?_map]
    cases h : ws[i.toNat]? with
    | none => rfl
    | some x =>
      simp only [Option.map_some, nrm_looks, nrm_at]
      split
      · rw [List.map_set]; rfl
      · rfl

/-- a slice that is as it was, or new -/
def Fresh (w : World) (n : Nat) (A A' : Option Addr) : Prop := 0 < n → ∀ a, A' = some a → A' = A ∨ w.heap.size ≤ a.block

def FreshB (w : World) (k k' : Nat) (B B' : Option Addr) : Prop := 0 < k' → ∀ a, B' = some a → (0 < k ∧ B' = B) ∨ w.heap.size ≤ a.block

section
variable {w : World} {lo n c k d : Nat} {A B : Option Addr} {ws : List Wk} {wts : List Wt}
theorem rinstall (h : RP w lo A n c B k d ws wts) (i ep : Int) :
    Calls Try.prog 10 #[.agg #[.slice A n c, .slice B k d], .int .i64 i, .int .u64 ep] w fun e w' => ∃ A' c', e = .returned (.tuple #[.agg #[.slice A' n c', .slice B k d], .int .i64 (mInstall ws i ep).2]) ∧
      RP w' lo A' n c' B k d (mInstall ws i ep).1 wts ∧ Below w.heap.size w w' ∧ Fresh w n A A' := by
  have hlen := h.len.1
  unfold mInstall
  rw [hlen]
  by_cases hi : i < 0 ∨ (n : Int) ≤ i
  · rw [if_pos hi]
    refine (rinstall_arg h i ep hi).mono ?_
    rintro e w' ⟨rfl, hb⟩
    exact ⟨A, c, rfl, h.upd (S := []) (Upd.of_below hb) (by simp), hb, fun _ a _ => .inl rfl⟩
  · rw [if_neg hi]
    obtain ⟨j, rfl⟩ : ∃ j : Nat, i = j := ⟨i.toNat, by omega⟩
    obtain ⟨x, hx⟩ : ∃ x, ws[j]? = some x := ⟨_, List.getElem?_eq_getElem (by omega)⟩
    rw [Int.toNat_natCast, hx]
    by_cases hl : ep < x.at_
    · simp only [if_pos hl]
      refine (rinstall_state h j ep x hx hl).mono ?_
      rintro e w' ⟨rfl, hb⟩
      exact ⟨A, c, rfl, h.upd (S := []) (Upd.of_below hb) (by simp), hb, fun _ a _ => .inl rfl⟩
    · simp only [if_neg hl]
      refine (rinstall_yes h j ep x hx (by omega)).mono ?_
      rintro e w' ⟨A', c', rfl, hr, hb, hf⟩
      exact ⟨A', c', rfl, hr, hb, fun _ a ha => .inr (hf a ha)⟩
theorem rpin (h : RP w lo A n c B k d ws wts) (i : Int) :
    Calls Try.prog 12 #[.agg #[.slice A n c, .slice B k d], .int .i64 i] w fun e w' => ∃ A' c', e = .returned (.tuple #[.agg #[.slice A' n c', .slice B k d], .int .u64 (mPin ws i).2.1, .int .i64 (mPin ws i).2.2]) ∧
      RP w' lo A' n c' B k d (mPin ws i).1 wts ∧ Below w.heap.size w w' ∧ Fresh w n A A' := by
  have hlen := h.len.1
  unfold mPin
  rw [hlen]
  by_cases hi : i < 0 ∨ (n : Int) ≤ i
  · rw [if_pos hi]
    refine (rpin_arg h i hi).mono ?_
    rintro e w' ⟨rfl, hb⟩
    exact ⟨A, c, rfl, h.upd (S := []) (Upd.of_below hb) (by simp), hb, fun _ a _ => .inl rfl⟩
  · rw [if_neg hi]
    obtain ⟨j, rfl⟩ : ∃ j : Nat, i = j := ⟨i.toNat, by omega⟩
    obtain ⟨x, hx⟩ : ∃ x, ws[j]? = some x := ⟨_, List.getElem?_eq_getElem (by omega)⟩
    rw [Int.toNat_natCast, hx]
    by_cases hl : x.looks = true
    · simp only [if_pos hl]
      refine (rpin_state h j x hx hl).mono ?_
      rintro e w' ⟨rfl, hb⟩
      exact ⟨A, c, rfl, h.upd (S := []) (Upd.of_below hb) (by simp), hb, fun _ a _ => .inl rfl⟩
    · simp only [if_neg hl]
      refine (rpin_yes h j x hx (by simpa using hl)).mono ?_
      rintro e w' ⟨A', c', rfl, hr, hb, hf⟩
      exact ⟨A', c', rfl, hr, hb, fun _ a ha => .inr (hf a ha)⟩
theorem runpin (h : RP w lo A n c B k d ws wts) (i : Int) :
    Calls Try.prog 14 #[.agg #[.slice A n c, .slice B k d], .int .i64 i] w fun e w' => ∃ A' c', e = .returned (.tuple #[.agg #[.slice A' n c', .slice B k d], .int .i64 (rUnpin ws i).2]) ∧
      RP w' lo A' n c' B k d (rUnpin ws i).1 wts ∧ Below w.heap.size w w' ∧ Fresh w n A A' := by
  have hlen := h.len.1
  unfold rUnpin
  rw [hlen]
  by_cases hi : i < 0 ∨ (n : Int) ≤ i
  · rw [if_pos hi]
    refine (runpin_arg h i hi).mono ?_
    rintro e w' ⟨rfl, hb⟩
    exact ⟨A, c, rfl, h.upd (S := []) (Upd.of_below hb) (by simp), hb, fun _ a _ => .inl rfl⟩
  · rw [if_neg hi]
    obtain ⟨j, rfl⟩ : ∃ j : Nat, i = j := ⟨i.toNat, by omega⟩
    obtain ⟨x, hx⟩ : ∃ x, ws[j]? = some x := ⟨_, List.getElem?_eq_getElem (by omega)⟩
    rw [Int.toNat_natCast, hx]
    by_cases hl : x.looks = true
    · simp only [if_pos hl]
      refine (runpin_yes h j x hx hl).mono ?_
      rintro e w' ⟨A', c', rfl, hr, hb, hf⟩
      exact ⟨A', c', rfl, hr, hb, fun _ a ha => .inr (hf a ha)⟩
    · simp only [if_neg hl]
      refine (runpin_state h j x hx (by simpa using hl)).mono ?_
      rintro e w' ⟨rfl, hb⟩
      exact ⟨A, c, rfl, h.upd (S := []) (Upd.of_below hb) (by simp), hb, fun _ a _ => .inl rfl⟩
theorem rretire (h : RP w lo A n c B k d ws wts) (slot turn ep : Int) :
    Calls Try.prog 16 #[.agg #[.slice A n c, .slice B k d], .agg #[.int .i64 slot, .int .u32 turn], .int .u64 ep] w fun e w' => ∃ B' k' d', e = .returned (.tuple #[.agg #[.slice A n c, .slice B' k' d'], .int .i64 (mRetire wts ⟨slot, turn, ep⟩).2]) ∧
      RP w' lo A n c B' k' d' ws (mRetire wts ⟨slot, turn, ep⟩).1 ∧ Below w.heap.size w w' ∧ FreshB w k k' B B' := by
  have hlen := h.len.2
  have hfew := h.few
  unfold mRetire
  rw [hlen]
  by_cases hk : k = 64
  · rw [if_pos hk]
    refine (rretire_full h slot turn ep hk).mono ?_
    rintro e w' ⟨rfl, hb⟩
    exact ⟨B, k, d, rfl, h.upd (S := []) (Upd.of_below hb) (by simp), hb, fun h a _ => .inl ⟨h, rfl⟩⟩
  · rw [if_neg hk]
    refine (rretire_yes h slot turn ep (by omega)).mono ?_
    rintro e w' ⟨B', d', rfl, hr, hb, hf⟩
    exact ⟨B', _, d', rfl, hr, hb, fun _ a ha => .inr (hf a ha)⟩
theorem roldest_nrm (h : RP w lo A n c B k d (ws.map nrm) wts) :
    Calls Try.prog 21 #[.agg #[.slice A n c, .slice B k d]] w fun e w' => e = .returned (.int .u64 (oldest ws)) ∧ w' = w.alloc (.cells #[.slice A n c, .slice B k d] 29) := by
  rw [← nrm_oldest]; exact roldest h
theorem rsweep_nrm (h : RP w lo A n c B k d (ws.map nrm) wts) :
    Calls Try.prog 18 #[.agg #[.slice A n c, .slice B k d]] w fun e w' => ∃ B' k' d' rv, e = .returned (.tuple #[.agg #[.slice A n c, .slice B' k' d'], rv]) ∧
      RP w' lo A n c B' k' d' (ws.map nrm) (wts.filter (stay (oldest ws))) ∧ w'.ownsRow w.heap.size 33 2 rv (wts.flatMap (take1 (oldest ws))).length ((wts.flatMap (take1 (oldest ws))).flatMap encR) ∧ Below w.heap.size w w' ∧ FreshB w k k' B B' := by
  have := rsweep h
  rw [nrm_oldest] at this
  refine this.mono ?_
  rintro e w' ⟨B', k', d', rv, rfl, h1, h2, h3, h4⟩
  exact ⟨B', k', d', rv, rfl, h1, h2, h3, fun hk a ha => .inr (h4 hk a ha)⟩
end
end Go.Proofs.Ytembadjfialenaa
