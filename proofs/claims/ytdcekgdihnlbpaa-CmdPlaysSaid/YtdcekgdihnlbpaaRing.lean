/- A ring that holds a row: plain laws on lists, no program in sight. -/
import Derived.Below
namespace Go.Proofs.Ytdcekgdihnlbpaa

/-- The ring holds the row xs from place a on. -/
structure RingAt {α : Type} (ring : List α) (cap a : Nat) (xs : List α) : Prop where
  size : ring.length = cap
  at_ : a < cap
  len : xs.length ≤ cap
  get : ∀ i, i < xs.length → ring[(a + i) % cap]? = xs[i]?

theorem mod_inj {a i j c : Nat} (hi : i < c) (hj : j < c) (h : (a + i) % c = (a + j) % c) : i = j := by
  have h1 := Nat.div_add_mod (a + i) c
  have h2 := Nat.div_add_mod (a + j) c
  rw [h] at h1
  rcases Nat.lt_trichotomy ((a + i) / c) ((a + j) / c) with hl | he | hl
  · have := Nat.mul_le_mul_left c (Nat.succ_le_of_lt hl)
    rw [Nat.mul_succ] at this
    omega
  · rw [he] at h1
    omega
  · have := Nat.mul_le_mul_left c (Nat.succ_le_of_lt hl)
    rw [Nat.mul_succ] at this
    omega

section
variable {α : Type} {ring : List α} {cap a : Nat} {xs : List α}
theorem RingAt.new (cap : Nat) (h : 1 ≤ cap) (z : α) : RingAt (List.replicate cap z) cap 0 [] :=
  ⟨List.length_replicate, by omega, Nat.zero_le _, fun i hi => absurd hi (Nat.not_lt_zero i)⟩
theorem RingAt.push (h : RingAt ring cap a xs) (hl : xs.length < cap) (x : α) : RingAt (ring.set ((a + xs.length) % cap) x) cap a (xs ++ [x]) := by
  refine ⟨by rw [List.length_set]; exact h.size, h.at_, by simp; omega, fun i hi => ?_⟩
  simp only [List.length_append, List.length_cons, List.length_nil] at hi
  have hcap : 0 < cap := by omega
  by_cases e : i = xs.length
  · subst e
    rw [List.getElem?_set_self (by rw [h.size]; exact Nat.mod_lt _ hcap)]
    simp
  · rw [List.getElem?_set_ne (fun he => e (mod_inj (by omega) (by omega) he.symm)), h.get i (by omega), List.getElem?_append_left (by omega)]
theorem RingAt.pop {x : α} (h : RingAt ring cap a (x :: xs)) (z : α) : RingAt (ring.set a z) cap ((a + 1) % cap) xs := by
  have hl := h.len
  simp only [List.length_cons] at hl
  have hcap : 0 < cap := by have := h.at_; omega
  refine ⟨by rw [List.length_set]; exact h.size, Nat.mod_lt _ hcap, by omega, fun i hi => ?_⟩
  have hm : ((a + 1) % cap + i) % cap = (a + (i + 1)) % cap := by rw [Nat.mod_add_mod, Nat.add_assoc, Nat.add_comm 1 i]
  rw [hm, List.getElem?_set_ne (fun he => ?_), h.get (i + 1) (by simp; omega)]
  · simp
  · have h0 : (a + 0) % cap = (a + (i + 1)) % cap := by rw [Nat.add_zero, Nat.mod_eq_of_lt h.at_]; exact he
    exact absurd (mod_inj (by omega) (by omega) h0) (by omega)
theorem RingAt.first {x : α} (h : RingAt ring cap a (x :: xs)) : ring[a]? = some x := by
  have := h.get 0 (by simp)
  rw [Nat.add_zero, Nat.mod_eq_of_lt h.at_] at this
  simpa using this
theorem RingAt.lt (h : RingAt ring cap a xs) (i : Nat) : (a + i) % cap < ring.length := by
  rw [h.size]; exact Nat.mod_lt _ (by have := h.at_; omega)
end
end Go.Proofs.Ytdcekgdihnlbpaa
