/- rtcp: cut, of padding. Conditions: bytes. -/
import Derived.Test.YtgkejdjdccgjbaaIs
namespace Go.Proofs.Ytgkejdjdccgjbaa
open Go Go.RowKit
set_option maxHeartbeats 400000

theorem cut_no {w : World} {lo : Nat} {r : Rw} (h : RowIn w lo .u8 r) (hb : Byt r.xs) (last : Bool) (hc : cutM r.xs last = none) : Calls Try.prog 29 #[encR r, .bool last] w fun e w' => e = .returned (.tuple #[.slice none 0 0, .bool false]) ∧ w = w' := by
  obtain ⟨A, cp, xs⟩ := r
  unfold encR
  dsimp only at hc hb ⊢
  cases last with
  | false =>
    clear h hb hc
    go_enter Try.func29, Try.ntmps29
    go_wp2
    exact bodyPost_res (v := .tuple #[.slice none 0 0, .bool false]) (by simp [results, Try.results29, go_sem]) rfl ⟨rfl, rfl⟩
  | true =>
    by_cases hl : xs.length = 0
    · have hl' : (xs.length : Int) = 0 := by omega
      clear h hb hc
      obtain ⟨L, hL⟩ : ∃ L, L = xs.length := ⟨_, rfl⟩
      rw [← hL] at hl' ⊢
      clear hL hl
      go_enter Try.func29, Try.ntmps29
      go_wp2
      exact bodyPost_res (v := .tuple #[.slice none 0 0, .bool false]) (by simp [results, Try.results29, go_sem]) rfl ⟨rfl, rfl⟩
    · obtain ⟨b, off, hA, _, hbl, hcc⟩ := h.at (by dsimp only; omega)
      dsimp only at hA hcc
      subst hA
      have hne : xs ≠ [] := by intro e; subst e; exact hl rfl
      obtain ⟨x, hx⟩ : ∃ x, xs[xs.length - 1]? = some x := ⟨_, List.getElem?_eq_getElem (by omega)⟩
      have hgl : xs.getLastD 0 = x := by
        rw [List.getLastD_eq_getLast?, List.getLast?_eq_getElem?, hx]; rfl
      have c0 := hcc (xs.length - 1) x hx
      obtain ⟨hx0, hx1⟩ := hb x (List.mem_of_getElem? hx)
      have hd : x = 0 ∨ x % 4 ≠ 0 ∨ (xs.length : Int) < x := by
        unfold cutM at hc
        rw [if_neg (by simp [hl])] at hc
        dsimp only at hc
        rw [hgl] at hc
        by_cases hq : x = 0 ∨ x % 4 ≠ 0 ∨ (xs.length : Int) < x
        · exact hq
        · rw [if_neg hq] at hc; cases hc
      obtain ⟨k, hL⟩ : ∃ k, xs.length = k + 1 := ⟨xs.length - 1, by omega⟩
      rw [hL] at c0 hd ⊢
      rw [Nat.add_sub_cancel] at c0
      have hle := h.le
      have hcm := h.cm
      dsimp only at hle hcm
      have hkb : (k : Int) ≤ 9223372036854775806 := by omega
      have hln : ¬ ((k + 1 : Nat) : Int) = 0 := by omega
      have hln2 : ¬ (k : Int) + 1 = 0 := by omega
      clear h hb hc hcc hL hx hgl hne hl hle hcm
      by_cases h1 : x = 0
      · subst h1
        go_enter Try.func29, Try.ntmps29
        go_wp2
        exact bodyPost_res (v := .tuple #[.slice none 0 0, .bool false]) (by simp [results, Try.results29, go_sem]) rfl ⟨rfl, rfl⟩
      by_cases h2 : x % 4 = 0
      · have h3 : ((k + 1 : Nat) : Int) < x := by rcases hd with h | h | h <;> first | exact absurd h h1 | exact absurd h2 h | exact h
        have h3' : (k : Int) + 1 < x := by omega
        clear hd
        go_enter Try.func29, Try.ntmps29
        go_wp2
        exact bodyPost_res (v := .tuple #[.slice none 0 0, .bool false]) (by simp [results, Try.results29, go_sem]) rfl ⟨rfl, rfl⟩
      · clear hd
        go_enter Try.func29, Try.ntmps29
        go_wp2
        exact bodyPost_res (v := .tuple #[.slice none 0 0, .bool false]) (by simp [results, Try.results29, go_sem]) rfl ⟨rfl, rfl⟩
theorem cut_yes {w : World} {lo : Nat} {r : Rw} (h : RowIn w lo .u8 r) (hb : Byt r.xs) (ys : List Int) (hc : cutM r.xs true = some ys) : Calls Try.prog 29 #[encR r, .bool true] w fun e w' => ∃ q, e = .returned (.tuple #[encR q, .bool true]) ∧ q.xs = ys ∧ RowIn w lo .u8 q ∧ q.A = r.A ∧ w = w' := by
  obtain ⟨A, cp, xs⟩ := r
  unfold encR
  dsimp only at hc hb ⊢
  have hl : ¬ xs.length = 0 := by
    intro e
    unfold cutM at hc
    rw [if_pos (.inr e)] at hc
    cases hc
  obtain ⟨b, off, hA, _, hbl, hcc⟩ := h.at (by dsimp only; omega)
  dsimp only at hA hcc
  subst hA
  have hne : xs ≠ [] := by intro e; subst e; exact hl rfl
  obtain ⟨x, hx⟩ : ∃ x, xs[xs.length - 1]? = some x := ⟨_, List.getElem?_eq_getElem (by omega)⟩
  have hgl : xs.getLastD 0 = x := by
    rw [List.getLastD_eq_getLast?, List.getLast?_eq_getElem?, hx]; rfl
  have c0 := hcc (xs.length - 1) x hx
  obtain ⟨hx0, hx1⟩ := hb x (List.mem_of_getElem? hx)
  have hd : ¬ (x = 0 ∨ x % 4 ≠ 0 ∨ (xs.length : Int) < x) ∧ ys = xs.take (xs.length - x.toNat) := by
    unfold cutM at hc
    rw [if_neg (by simp [hl])] at hc
    dsimp only at hc
    rw [hgl] at hc
    by_cases hq : x = 0 ∨ x % 4 ≠ 0 ∨ (xs.length : Int) < x
    · rw [if_pos hq] at hc; cases hc
    · rw [if_neg hq] at hc; exact ⟨hq, (Option.some.inj hc).symm⟩
  obtain ⟨hd1, hys⟩ := hd
  obtain ⟨n, rfl⟩ : ∃ n : Nat, x = n := ⟨x.toNat, by omega⟩
  rw [Int.toNat_natCast] at hys
  have h1 : ¬ (n : Int) = 0 := by omega
  have h2 : (n : Int) % 4 = 0 := by omega
  have h3 : n ≤ xs.length := by omega
  have hle := h.le
  have hcm := h.cm
  have HQ := Lib.hid (h.short (xs.length - n))
  have HYS := Lib.hid hys
  dsimp only at hle hcm
  have hlq : Hid ((xs.take (xs.length - n)).length = xs.length - n) := by show _ = _; rw [List.length_take]; omega
  obtain ⟨k, hL⟩ : ∃ k, xs.length = k + 1 := ⟨xs.length - 1, by omega⟩
  have HL := Lib.hid hL
  rw [hL] at c0 h3 hle ⊢
  rw [Nat.add_sub_cancel] at c0
  have hkb : (k : Int) ≤ 9223372036854775806 := by omega
  have hln2 : ¬ (k : Int) + 1 = 0 := by omega
  have h4 : ¬ (k : Int) + 1 < (n : Int) := by omega
  have h5 : 0 ≤ (k : Int) + 1 - (n : Int) := by omega
  have h6 : (k : Int) + 1 - (n : Int) ≤ (cp : Int) := by omega
  clear h hb hc hcc hL hx hgl hne hl hd1 hys
  go_enter Try.func29, Try.ntmps29
  go_wp2
  refine bodyPost_res (v := .tuple #[.slice (some ⟨b, off, none⟩) (k + 1 - n) cp, .bool true]) (by simp [results, Try.results29, go_sem]) rfl ⟨⟨some ⟨b, off, none⟩, cp, xs.take (xs.length - n)⟩, ?_, HYS.out.symm, HQ.out, rfl, rfl⟩
  dsimp only
  rw [hlq.out, HL.out]
end Go.Proofs.Ytgkejdjdccgjbaa
