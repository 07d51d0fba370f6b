/- Messages with padding behind the last one are parsed as they were. Plain laws, no program in sight. -/
import Derived.Test.YtgkejdjdccgjbaaBack2
namespace Go.Proofs.Ytgkejdjdccgjbaa
open Go Go.RowKit
set_option maxHeartbeats 1000000

theorem parseA_pre : ∀ (ms : List Mg), (∀ m, m ∈ ms → (bodyM m).is = true ∧ m.Num) → ∀ (f : Nat) (out : List Mg) (rest : List Int), rest.length ≠ 0 → (ms.flatMap msgB ++ rest).length ≤ 1500 → (ms.flatMap msgB ++ rest).length < f → ∃ g, rest.length < g ∧ parseA f out (ms.flatMap msgB ++ rest) = parseA g (out ++ ms.map backM) rest
  | [], _ => fun f out rest _ _ hf => ⟨f, by simpa using hf, by simp⟩
  | m :: ms, his => by
    intro f out rest hne hl hf
    rw [List.flatMap_cons, List.append_assoc] at hl hf ⊢
    rw [List.length_append] at hl hf
    have hs := step_exact (his m (by simp)).1 (his m (by simp)).2 (ms.flatMap msgB ++ rest) (by omega)
    obtain ⟨g, rfl⟩ : ∃ g, f = g + 1 := ⟨f - 1, by omega⟩
    obtain ⟨n, t, bs, e, _⟩ := msg_shape (his m (by simp)).1
    have hml : 4 ≤ (msgB m).length := by rw [e]; simp
    rw [parseA_ok hs, if_neg (by rw [List.length_append]; omega)]
    obtain ⟨k, hk1, hk2⟩ := parseA_pre ms (fun x hx => his x (by simp [hx])) g (out ++ [backM m]) rest hne (by omega) (by omega)
    exact ⟨k, hk1, by rw [hk2, List.append_assoc]; rfl⟩
theorem step_padded {m : Mg} (h : (bodyM m).is = true) (hnum : m.Num) (n : Nat) (hn4 : n % 4 = 0) (hn0 : 0 < n) (hn : n ≤ 255) (tail : List Int) (ht : tail.length = n) (hlast : tail.getLastD 0 = n) (bs : List Int) (hbs : bs = bytesOf (bodyM m).ps) (hl : bs.length + n ≤ 200000) :
    stepM ((160 + ((bodyM m).n : Int)) :: (bodyM m).t :: (((bs.length + n : Nat) : Int) / 4 / 256) :: (((bs.length + n : Nat) : Int) / 4 % 256) :: (bs ++ tail)) = .ok (backM m, []) := by
  have hb := body_n h
  have hty := body_type h
  have h4 := body_four m
  have hr := read_exact h hnum
  rw [← hbs] at h4 hr
  have hmul : 4 * ((((bs.length + n : Nat) : Int) / 4 / 256).toNat * 256 + (((bs.length + n : Nat) : Int) / 4 % 256).toNat) = (bs ++ tail).length := by rw [List.length_append, ht]; omega
  have hne : tail ≠ [] := by intro e; rw [e] at ht; simp at ht; omega
  have hcut : cutM (bs ++ tail) true = some bs := by
    have hgl : (bs ++ tail).getLastD 0 = (n : Int) := by
      rw [← hlast]
      rw [List.getLastD_eq_getLast?, List.getLastD_eq_getLast?, List.getLast?_append]
      cases hq : tail.getLast? with
      | none => exact absurd (List.getLast?_eq_none_iff.1 hq) hne
      | some z => rfl
    unfold cutM
    rw [if_neg (by rw [List.length_append, ht]; simp; omega)]
    dsimp only
    rw [hgl, if_neg (by rw [List.length_append, ht]; omega)]
    have e : (bs ++ tail).length - ((n : Int)).toNat = bs.length := by rw [List.length_append, ht]; simp
    rw [e, List.take_left]
  have hbo : bodyOf (160 + ((bodyM m).n : Int)) ((bs ++ tail).take (bs ++ tail).length) (decide (((bs ++ tail).drop (bs ++ tail).length).length = 0)) = some bs := by
    unfold bodyOf
    rw [if_pos (by omega), List.take_length, List.drop_length]
    exact hcut
  have hs := stepM_read (x0 := 160 + ((bodyM m).n : Int)) (x1 := (bodyM m).t) (x2 := ((bs.length + n : Nat) : Int) / 4 / 256) (x3 := ((bs.length + n : Nat) : Int) / 4 % 256) (rest := bs ++ tail) (b := bs) (isM_head (by omega) (by omega)) (by rw [hmul]; omega) (by rw [hmul]; exact hbo)
  have he : ((160 + ((bodyM m).n : Int)) % 32).toNat = (bodyM m).n := by omega
  rw [he, hr, hmul, List.drop_length, if_pos rfl] at hs
  exact hs
/-- Parse of what Put made, with padding behind the last message -/
theorem parse_padded {ms : List Mg} {m : Mg} (his : ∀ x, x ∈ ms ++ [m] → (bodyM x).is = true ∧ x.Num) (n : Nat) (hn4 : n % 4 = 0) (hn0 : 0 < n) (hn : n ≤ 255) (tail : List Int) (ht : tail.length = n) (hlast : tail.getLastD 0 = n) (bs : List Int) (hbs : bs = bytesOf (bodyM m).ps)
    (hl : (ms.flatMap msgB).length + bs.length + n + 4 ≤ 1500) :
    parseM (ms.flatMap msgB ++ ((160 + ((bodyM m).n : Int)) :: (bodyM m).t :: (((bs.length + n : Nat) : Int) / 4 / 256) :: (((bs.length + n : Nat) : Int) / 4 % 256) :: (bs ++ tail))) = ((ms ++ [m]).map backM, 0) := by
  have hlen : (ms.flatMap msgB ++ ((160 + ((bodyM m).n : Int)) :: (bodyM m).t :: (((bs.length + n : Nat) : Int) / 4 / 256) :: (((bs.length + n : Nat) : Int) / 4 % 256) :: (bs ++ tail))).length = (ms.flatMap msgB).length + bs.length + n + 4 := by
    simp [ht]; omega
  unfold parseM
  rw [if_neg (by rw [hlen]; omega)]
  obtain ⟨g, hg, e⟩ := parseA_pre ms (fun x hx => his x (by simp [hx])) _ [] ((160 + ((bodyM m).n : Int)) :: (bodyM m).t :: (((bs.length + n : Nat) : Int) / 4 / 256) :: (((bs.length + n : Nat) : Int) / 4 % 256) :: (bs ++ tail)) (by simp) (by rw [hlen]; omega) (Nat.lt_succ_self _)
  rw [e]
  obtain ⟨k, rfl⟩ : ∃ k, g = k + 1 := ⟨g - 1, by omega⟩
  have hm := his m (by simp)
  rw [parseA_ok (step_padded hm.1 hm.2 n hn4 hn0 hn tail ht hlast bs hbs (by omega))]
  simp
end Go.Proofs.Ytgkejdjdccgjbaa
