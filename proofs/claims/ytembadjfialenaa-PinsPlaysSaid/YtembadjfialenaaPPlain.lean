/- The pins over plain lists: the oldest epoch is the greatest one below all. Plain laws. -/
import Derived.Test.YtembadjfialenaaPinsM
namespace Go.Proofs.Ytembadjfialenaa
open Go Go.RowKit

/-- no worker is at, or looks at, less -/
def Low (b : Int) (ws : List Wk) : Prop := ∀ x ∈ ws, b ≤ x.at_ ∧ (x.looks = true → b ≤ x.sees)

theorem older_le (o : Int) (x : Wk) : older o x ≤ o ∧ older o x ≤ x.at_ ∧ (x.looks = true → older o x ≤ x.sees) := by
  unfold older
  split
  · exact ⟨by omega, by omega, fun _ => by omega⟩
  · rename_i h
    exact ⟨by omega, by omega, fun e => absurd e h⟩
theorem foldl_older (ws : List Wk) (o : Int) : ws.foldl older o ≤ o ∧ Low (ws.foldl older o) ws := by
  induction ws generalizing o with
  | nil => exact ⟨Int.le_refl _, by simp [Low]⟩
  | cons a ws ih =>
    rw [List.foldl_cons]
    have h1 := ih (older o a)
    have h2 := older_le o a
    refine ⟨by omega, fun x hx => ?_⟩
    rcases List.mem_cons.1 hx with rfl | hx
    · exact ⟨by omega, fun e => by have := h2.2.2 e; omega⟩
    · exact h1.2 x hx
theorem low_oldest (ws : List Wk) : Low (oldest ws) ws := (foldl_older ws _).2
theorem le_foldl {b : Int} (ws : List Wk) (o : Int) (ho : b ≤ o) (h : Low b ws) : b ≤ ws.foldl older o := by
  induction ws generalizing o with
  | nil => exact ho
  | cons a ws ih =>
    rw [List.foldl_cons]
    refine ih _ ?_ (fun x hx => h x (by simp [hx]))
    have ha := h a (by simp)
    unfold older
    split
    · rename_i e
      have := ha.2 e
      omega
    · omega
theorem le_oldest {b : Int} {ws : List Wk} (h1 : 1 ≤ ws.length) (h : Low b ws) : b ≤ oldest ws := by
  unfold oldest
  refine le_foldl ws _ ?_ h
  cases ws with
  | nil => simp at h1
  | cons a ws => simpa using (h a (by simp)).1
theorem low_set {b : Int} {ws : List Wk} {i : Nat} {y : Wk} (h : Low b ws) (hy : b ≤ y.at_ ∧ (y.looks = true → b ≤ y.sees)) : Low b (ws.set i y) := by
  intro x hx
  rcases List.mem_or_eq_of_mem_set hx with h1 | rfl
  · exact h x h1
  · exact hy
theorem low_install {b : Int} {ws : List Wk} (h : Low b ws) (i ep : Int) : Low b (mInstall ws i ep).1 := by
  unfold mInstall
  split
  · exact h
  · split
    · rename_i x hx
      have := h x (List.mem_of_getElem? hx)
      split
      · exact h
      · exact low_set h ⟨by dsimp only; omega, this.2⟩
    · exact h
theorem low_pin {b : Int} {ws : List Wk} (h : Low b ws) (i : Int) : Low b (mPin ws i).1 := by
  unfold mPin
  split
  · exact h
  · split
    · rename_i x hx
      have := h x (List.mem_of_getElem? hx)
      split
      · exact h
      · exact low_set h ⟨this.1, fun _ => this.1⟩
    · exact h
theorem low_unpin {b : Int} {ws : List Wk} (h : Low b ws) (i : Int) : Low b (mUnpin ws i).1 := by
  unfold mUnpin
  split
  · exact h
  · split
    · rename_i x hx
      have := h x (List.mem_of_getElem? hx)
      split
      · exact low_set h ⟨this.1, fun e => by simp at e⟩
      · exact h
    · exact h
theorem len_install (ws : List Wk) (i ep : Int) : (mInstall ws i ep).1.length = ws.length := by
  unfold mInstall
  split
  · rfl
  · split
    · split <;> simp
    · rfl
theorem len_pin (ws : List Wk) (i : Int) : (mPin ws i).1.length = ws.length := by
  unfold mPin
  split
  · rfl
  · split
    · split <;> simp
    · rfl
theorem len_unpin (ws : List Wk) (i : Int) : (mUnpin ws i).1.length = ws.length := by
  unfold mUnpin
  split
  · rfl
  · split
    · split <;> simp
    · rfl
theorem rise_install {ws : List Wk} (h1 : 1 ≤ ws.length) (i ep : Int) : oldest ws ≤ oldest (mInstall ws i ep).1 := le_oldest (by rw [len_install]; exact h1) (low_install (low_oldest ws) i ep)
theorem rise_pin {ws : List Wk} (h1 : 1 ≤ ws.length) (i : Int) : oldest ws ≤ oldest (mPin ws i).1 := le_oldest (by rw [len_pin]; exact h1) (low_pin (low_oldest ws) i)
theorem rise_unpin {ws : List Wk} (h1 : 1 ≤ ws.length) (i : Int) : oldest ws ≤ oldest (mUnpin ws i).1 := le_oldest (by rw [len_unpin]; exact h1) (low_unpin (low_oldest ws) i)

/-- An act: what kind, which worker, what epoch, which ref. -/
structure PAct where
  kind : Int
  worker : Int
  epoch : Int
  slot : Int
  turn : Int
def encA (x : PAct) : List Value := [.int .i64 x.kind, .int .i64 x.worker, .int .u64 x.epoch, .int .i64 x.slot, .int .u32 x.turn]
theorem encA_len (z : PAct) : (encA z).length = 5 := rfl

theorem act_at {w : World} {B len : Nat} {A : Option Addr} {l : List PAct} (h : Cells w B 5 A len (l.flatMap encA)) (hl : l.length = len) (i : Nat) (hi : i < len) :
    ∃ b off x, A = some ⟨b, off, none⟩ ∧ b < B ∧ l[i]? = some x ∧ w.cell? ⟨b, off + i * 5, none⟩ = some (.int .i64 x.kind) ∧ w.cell? ⟨b, off + i * 5 + 1, none⟩ = some (.int .i64 x.worker) ∧ w.cell? ⟨b, off + i * 5 + 2, none⟩ = some (.int .u64 x.epoch) ∧
      w.cell? ⟨b, off + i * 5 + 3, none⟩ = some (.int .i64 x.slot) ∧ w.cell? ⟨b, off + i * 5 + 4, none⟩ = some (.int .u32 x.turn) := by
  obtain ⟨b, off, e, hb, hc⟩ := h.2 (by omega)
  have hil : i < l.length := by omega
  have hx := List.getElem?_eq_getElem hil
  refine ⟨b, off, l[i], e, hb, hx, ?_, ?_, ?_, ?_, ?_⟩
  · have := hc (i * 5 + 0) _ (flat_get encA_len l i 0 l[i] hx (by omega)); simpa [encA, Nat.add_assoc] using this
  · have := hc (i * 5 + 1) _ (flat_get encA_len l i 1 l[i] hx (by omega)); simpa [encA, Nat.add_assoc] using this
  · have := hc (i * 5 + 2) _ (flat_get encA_len l i 2 l[i] hx (by omega)); simpa [encA, Nat.add_assoc] using this
  · have := hc (i * 5 + 3) _ (flat_get encA_len l i 3 l[i] hx (by omega)); simpa [encA, Nat.add_assoc] using this
  · have := hc (i * 5 + 4) _ (flat_get encA_len l i 4 l[i] hx (by omega)); simpa [encA, Nat.add_assoc] using this
end Go.Proofs.Ytembadjfialenaa
