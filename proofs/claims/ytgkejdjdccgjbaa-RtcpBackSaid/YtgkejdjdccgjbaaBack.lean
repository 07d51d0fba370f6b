/- What is put is read back as it was: the numbers. Plain laws, no program in sight. -/
import Derived.Test.YtgkejdjdccgjbaaJoin
namespace Go.Proofs.Ytgkejdjdccgjbaa
open Go Go.RowKit
set_option maxHeartbeats 1000000

theorem be_zero (x : Int) : be x 0 = [] := rfl
theorem be_succ (x : Int) (n : Nat) : be x (n + 1) = be (x / 256) n ++ [x % 256] := by
  unfold be
  rw [List.range_succ, List.map_append]
  congr 1
  · apply List.map_congr_left
    intro i hi
    have hi' : i < n := List.mem_range.1 hi
    have e : 8 * (n + 1 - 1 - i) = 8 + 8 * (n - 1 - i) := by omega
    rw [e, Int.pow_add, ← Int.ediv_ediv_of_nonneg (by decide : (0 : Int) ≤ 2 ^ 8)]
    rfl
  · simp
theorem numOf_be (n : Nat) : ∀ x : Int, 0 ≤ x → numOf (be x n) = x % 256 ^ n := by
  induction n with
  | zero => intro x _; rw [be_zero, Int.pow_zero, Int.emod_one]; rfl
  | succ n ih =>
    intro x hx
    rw [be_succ, numOf_snoc, ih (x / 256) (Int.ediv_nonneg hx (by decide)), Int.pow_succ]
    have h1 := Int.emod_add_mul_ediv x (256 ^ n * 256)
    have h2 := Int.emod_add_mul_ediv (x / 256) (256 ^ n)
    have h3 := Int.emod_add_mul_ediv x 256
    have h4 : x / 256 / 256 ^ n = x / (256 ^ n * 256) := by rw [Int.mul_comm, Int.ediv_ediv_of_nonneg (by decide)]
    rw [h4] at h2
    have e : 256 ^ n * 256 * (x / (256 ^ n * 256)) = 256 * (256 ^ n * (x / (256 ^ n * 256))) := by rw [Int.mul_comm (256 ^ n) 256, Int.mul_assoc]
    rw [e] at h1
    omega
theorem numM_be (x : Int) (n : Nat) (rest : List Int) (hx : 0 ≤ x) : numS (be x n ++ rest, 0) n = x % 256 ^ n ∧ after (be x n ++ rest, 0) n = (rest, 0) := by
  have e : numM (be x n ++ rest) 0 n = (x % 256 ^ n, rest, 0) := by
    have hl : ¬ (be x n ++ rest).length < n := by rw [List.length_append, be_length]; omega
    unfold numM
    rw [if_neg (by decide), if_neg hl, List.take_left' (be_length x n), List.drop_left' (be_length x n), numOf_be n x hx]
  unfold numS after
  dsimp only
  rw [e]
  exact ⟨rfl, rfl⟩
theorem numU32 {x : Int} (rest : List Int) (h : U32 x) : numS (be x 4 ++ rest, 0) 4 = x ∧ after (be x 4 ++ rest, 0) 4 = (rest, 0) := by
  obtain ⟨h1, h2⟩ := numM_be x 4 rest h.1
  refine ⟨?_, h2⟩
  rw [h1]
  exact Int.emod_eq_of_lt h.1 (by have := h.2; omega)
theorem numU16 {x : Int} (rest : List Int) (h : U16 x) : numS (be x 2 ++ rest, 0) 2 = x ∧ after (be x 2 ++ rest, 0) 2 = (rest, 0) := by
  obtain ⟨h1, h2⟩ := numM_be x 2 rest h.1
  refine ⟨?_, h2⟩
  rw [h1]
  exact Int.emod_eq_of_lt h.1 (by have := h.2; omega)
theorem numU8 {x : Int} (rest : List Int) (h : U8 x) : numS (be x 1 ++ rest, 0) 1 = x ∧ after (be x 1 ++ rest, 0) 1 = (rest, 0) := by
  obtain ⟨h1, h2⟩ := numM_be x 1 rest h.1
  refine ⟨?_, h2⟩
  rw [h1]
  exact Int.emod_eq_of_lt h.1 (by have := h.2; omega)
theorem numU64 {x : Int} (rest : List Int) (h : U64 x) : numS (be x 8 ++ rest, 0) 8 = x ∧ after (be x 8 ++ rest, 0) 8 = (rest, 0) := by
  obtain ⟨h1, h2⟩ := numM_be x 8 rest h.1
  refine ⟨?_, h2⟩
  rw [h1]
  exact Int.emod_eq_of_lt h.1 (by have := h.2; omega)
/-- a report as it comes back -/
def lostM (r : Rep) : Rep := ⟨r.ssrc, r.part, r.lost % 16777216, r.high, r.jitter, r.last, r.delay⟩
theorem bytesOf_app (a b : List (Int × Nat)) : bytesOf (a ++ b) = bytesOf a ++ bytesOf b := by simp [bytesOf]
theorem bytesOf_cons (p : Int × Nat) (b : List (Int × Nat)) : bytesOf (p :: b) = be p.1 p.2 ++ bytesOf b := rfl
theorem bytesOf_nil : bytesOf [] = [] := rfl
theorem rep_back {r : Rep} (h : r.Ok) (rest : List Int) : repS (bytesOf (repParts r) ++ rest, 0) = lostM r ∧ repA (bytesOf (repParts r) ++ rest, 0) = (rest, 0) := by
  obtain ⟨q0, q1, q2, q3, q4, q5, q6⟩ := r
  obtain ⟨a0, a1, a2, a3, a4, a5, a6⟩ := h
  dsimp only at a0 a1 a2 a3 a4 a5 a6
  have e : bytesOf (repParts ⟨q0, q1, q2, q3, q4, q5, q6⟩) ++ rest = be q0 4 ++ (be q1 1 ++ (be q2 3 ++ (be q3 4 ++ (be q4 4 ++ (be q5 4 ++ (be q6 4 ++ rest)))))) := by
    simp [repParts, bytesOf, List.append_assoc]
  rw [e]
  obtain ⟨n0, s0⟩ := numU32 (be q1 1 ++ (be q2 3 ++ (be q3 4 ++ (be q4 4 ++ (be q5 4 ++ (be q6 4 ++ rest)))))) a0
  obtain ⟨n1, s1⟩ := numU8 (be q2 3 ++ (be q3 4 ++ (be q4 4 ++ (be q5 4 ++ (be q6 4 ++ rest))))) a1
  obtain ⟨n2, s2⟩ := numM_be q2 3 (be q3 4 ++ (be q4 4 ++ (be q5 4 ++ (be q6 4 ++ rest)))) a2.1
  obtain ⟨n3, s3⟩ := numU32 (be q4 4 ++ (be q5 4 ++ (be q6 4 ++ rest))) a3
  obtain ⟨n4, s4⟩ := numU32 (be q5 4 ++ (be q6 4 ++ rest)) a4
  obtain ⟨n5, s5⟩ := numU32 (be q6 4 ++ rest) a5
  obtain ⟨n6, s6⟩ := numU32 rest a6
  unfold repS repA lostM
  simp only [s0, s1, s2, s3, s4, s5, s6, n0, n1, n2, n3, n4, n5, n6]
  exact ⟨rfl, trivial⟩
theorem reps_back : ∀ (n : Nat) (rs : List Rep), rs.length = n → (∀ r, r ∈ rs → r.Ok) → ∀ rest, repsM n (bytesOf (rs.flatMap repParts) ++ rest, 0) = (rs.map lostM, (rest, 0))
  | 0, rs, hl, _, rest => by
    have : rs = [] := List.eq_nil_of_length_eq_zero hl
    subst this
    rfl
  | n + 1, rs, hl, h, rest => by
    obtain ⟨r0, r, rfl⟩ : ∃ r0 r, rs = r0 ++ [r] := by
      rcases List.eq_nil_or_concat rs with e | ⟨a, b, e⟩
      · subst e; simp at hl
      · exact ⟨a, b, by rw [e, List.concat_eq_append]⟩
    have hl0 : r0.length = n := by simpa using hl
    have ih := reps_back n r0 hl0 (fun x hx => h x (by simp [hx])) (bytesOf (repParts r) ++ rest)
    have e : bytesOf ((r0 ++ [r]).flatMap repParts) ++ rest = bytesOf (r0.flatMap repParts) ++ (bytesOf (repParts r) ++ rest) := by
      rw [List.flatMap_append, bytesOf_app, List.append_assoc]
      simp
    obtain ⟨h1, h2⟩ := rep_back (h r (by simp)) rest
    rw [e, repsM, ih]
    dsimp only
    rw [h1, h2, List.map_append]
    rfl
theorem who_back : ∀ (n : Nat) (l : List Int), l.length = n → (∀ x, x ∈ l → U32 x) → ∀ rest, whoM n (bytesOf (l.map fun x => (x, 4)) ++ rest, 0) = (l, (rest, 0))
  | 0, l, hl, _, rest => by
    have : l = [] := List.eq_nil_of_length_eq_zero hl
    subst this
    rfl
  | n + 1, l, hl, h, rest => by
    obtain ⟨r0, r, rfl⟩ : ∃ r0 r, l = r0 ++ [r] := by
      rcases List.eq_nil_or_concat l with e | ⟨a, b, e⟩
      · subst e; simp at hl
      · exact ⟨a, b, by rw [e, List.concat_eq_append]⟩
    have hl0 : r0.length = n := by simpa using hl
    have ih := who_back n r0 hl0 (fun x hx => h x (by simp [hx])) (be r 4 ++ rest)
    have e : bytesOf ((r0 ++ [r]).map fun x => (x, 4)) ++ rest = bytesOf (r0.map fun x => (x, 4)) ++ (be r 4 ++ rest) := by
      rw [List.map_append, bytesOf_app, List.append_assoc]
      simp [bytesOf]
    obtain ⟨h1, h2⟩ := numU32 rest (h r (by simp))
    rw [e, whoM, ih]
    dsimp only
    rw [h1, h2]
theorem pairs_back : ∀ (n : Nat) (l : List (Int × Int)), l.length = n → (∀ p, p ∈ l → U16 p.1 ∧ U16 p.2) → ∀ rest, pairsM n (bytesOf (l.flatMap pairParts) ++ rest, 0) = (l, (rest, 0))
  | 0, l, hl, _, rest => by
    have : l = [] := List.eq_nil_of_length_eq_zero hl
    subst this
    rfl
  | n + 1, l, hl, h, rest => by
    obtain ⟨r0, r, rfl⟩ : ∃ r0 r, l = r0 ++ [r] := by
      rcases List.eq_nil_or_concat l with e | ⟨a, b, e⟩
      · subst e; simp at hl
      · exact ⟨a, b, by rw [e, List.concat_eq_append]⟩
    have hl0 : r0.length = n := by simpa using hl
    have ih := pairs_back n r0 hl0 (fun x hx => h x (by simp [hx])) (be r.1 2 ++ (be r.2 2 ++ rest))
    have e : bytesOf ((r0 ++ [r]).flatMap pairParts) ++ rest = bytesOf (r0.flatMap pairParts) ++ (be r.1 2 ++ (be r.2 2 ++ rest)) := by
      rw [List.flatMap_append, bytesOf_app, List.append_assoc]
      simp [bytesOf, pairParts]
    obtain ⟨a, b⟩ := h r (by simp)
    obtain ⟨h1, h2⟩ := numU16 (be r.2 2 ++ rest) a
    obtain ⟨h3, h4⟩ := numU16 rest b
    rw [e, pairsM, ih]
    dsimp only
    unfold pairS pairA
    rw [h1, h2, h3, h4]
theorem asks_back : ∀ (n : Nat) (l : List (Int × Int)), l.length = n → (∀ p, p ∈ l → U32 p.1 ∧ U8 p.2) → ∀ rest, asksM n (bytesOf (l.flatMap askParts) ++ rest, 0) = (l, (rest, 0))
  | 0, l, hl, _, rest => by
    have : l = [] := List.eq_nil_of_length_eq_zero hl
    subst this
    rfl
  | n + 1, l, hl, h, rest => by
    obtain ⟨r0, r, rfl⟩ : ∃ r0 r, l = r0 ++ [r] := by
      rcases List.eq_nil_or_concat l with e | ⟨a, b, e⟩
      · subst e; simp at hl
      · exact ⟨a, b, by rw [e, List.concat_eq_append]⟩
    have hl0 : r0.length = n := by simpa using hl
    have ih := asks_back n r0 hl0 (fun x hx => h x (by simp [hx])) (be r.1 4 ++ (be r.2 1 ++ (be 0 3 ++ rest)))
    have e : bytesOf ((r0 ++ [r]).flatMap askParts) ++ rest = bytesOf (r0.flatMap askParts) ++ (be r.1 4 ++ (be r.2 1 ++ (be 0 3 ++ rest))) := by
      rw [List.flatMap_append, bytesOf_app, List.append_assoc]
      simp [bytesOf, askParts]
    obtain ⟨a, b⟩ := h r (by simp)
    obtain ⟨h1, h2⟩ := numU32 (be r.2 1 ++ (be 0 3 ++ rest)) a
    obtain ⟨h3, h4⟩ := numU8 (be 0 3 ++ rest) b
    obtain ⟨_, h6⟩ := numM_be 0 3 rest (by decide)
    rw [e, asksM, ih]
    dsimp only
    unfold askS askA
    rw [h1, h2, h3, h4, h6]
end Go.Proofs.Ytgkejdjdccgjbaa
