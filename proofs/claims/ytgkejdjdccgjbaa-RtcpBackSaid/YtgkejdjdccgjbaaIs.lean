/- rtcp: Is, cut, kind. Conditions: bytes. -/
import Derived.Test.YtgkejdjdccgjbaaNum
namespace Go.Proofs.Ytgkejdjdccgjbaa
open Go Go.RowKit
set_option maxHeartbeats 400000

set_option maxRecDepth 100000 in
theorem and192 (a : Int) (h0 : 0 ≤ a) (h1 : a ≤ 255) : bits .and .u8 a 192 = a / 64 * 64 := by
  obtain ⟨n, rfl⟩ : ∃ n : Nat, a = n := ⟨a.toNat, by omega⟩
  have h : ∀ n : Fin 256, n.val &&& 192 = n.val / 64 * 64 := by decide
  rw [show (192 : Int) = ((192 : Nat) : Int) by rfl, u8_and_nat _ _ (by omega) (by omega)]
  have hh := h ⟨n, by omega⟩
  dsimp only at hh
  omega
set_option maxRecDepth 100000 in
theorem and32 (a : Int) (h0 : 0 ≤ a) (h1 : a ≤ 255) : bits .and .u8 a 32 = a / 32 % 2 * 32 := by
  obtain ⟨n, rfl⟩ : ∃ n : Nat, a = n := ⟨a.toNat, by omega⟩
  have h : ∀ n : Fin 256, n.val &&& 32 = n.val / 32 % 2 * 32 := by decide
  rw [show (32 : Int) = ((32 : Nat) : Int) by rfl, u8_and_nat _ _ (by omega) (by omega)]
  have hh := h ⟨n, by omega⟩
  dsimp only at hh
  omega
set_option maxRecDepth 100000 in
theorem and31 (a : Int) (h0 : 0 ≤ a) (h1 : a ≤ 255) : bits .and .u8 a 31 = a % 32 := by
  obtain ⟨n, rfl⟩ : ∃ n : Nat, a = n := ⟨a.toNat, by omega⟩
  have h : ∀ n : Fin 256, n.val &&& 31 = n.val % 32 := by decide
  rw [show (31 : Int) = ((31 : Nat) : Int) by rfl, u8_and_nat _ _ (by omega) (by omega)]
  have hh := h ⟨n, by omega⟩
  dsimp only at hh
  omega

def isM (xs : List Int) : Bool := decide (2 ≤ xs.length) && decide (128 ≤ xs.headD 0 ∧ xs.headD 0 < 192) && decide (192 ≤ (xs.drop 1).headD 0 ∧ (xs.drop 1).headD 0 ≤ 223)
theorem is_any {w : World} {lo : Nat} {r : Rw} (h : RowIn w lo .u8 r) (hb : Byt r.xs) : Calls Try.prog 17 #[encR r] w fun e w' => e = .returned (.bool (isM r.xs)) ∧ w = w' := by
  obtain ⟨A, cp, xs⟩ := r
  unfold encR
  dsimp only at hb ⊢
  by_cases hl : 2 ≤ xs.length
  · obtain ⟨b, off, hA, _, hbl, hcc⟩ := h.at (by dsimp only; omega)
    dsimp only at hA hcc
    subst hA
    match xs, hl with
    | x :: y :: zs, _ =>
      have c0 := hcc 0 x rfl
      have c1 := hcc 1 y rfl
      rw [Nat.add_zero] at c0
      obtain ⟨hx0, hx1⟩ := hb x (by simp)
      obtain ⟨hy0, hy1⟩ := hb y (by simp)
      have ha := and192 x hx0 hx1
      have hlen : (2 : Int) ≤ ((x :: y :: zs).length : Int) := by simp; omega
      have hm : isM (x :: y :: zs) = (decide (128 ≤ x ∧ x < 192) && decide (192 ≤ y ∧ y ≤ 223)) := by simp [isM]
      rw [hm]
      obtain ⟨n, hn⟩ : ∃ n, n = (x :: y :: zs).length := ⟨_, rfl⟩
      rw [← hn] at hlen ⊢
      clear h hcc hb hm hn
      have d0 : decide ((2 : Int) ≤ (n : Int)) = true := by simpa using hlen
      by_cases h1 : 128 ≤ x ∧ x < 192
      · have e1 : x / 64 * 64 = 128 := by omega
        by_cases h2 : 192 ≤ y
        · have d2 : decide (192 ≤ y) = true := by simpa using h2
          by_cases h3 : y ≤ 223
          · have d3 : decide (y ≤ 223) = true := by simpa using h3
            go_enter Try.func17, Try.ntmps17
            go_wp2
            go_ret
            exact ⟨congrArg (fun b => Ending.returned (.bool b)) (show true = _ by simp [h1, h2, h3]), rfl⟩
          · have d3 : decide (y ≤ 223) = false := by simpa using h3
            go_enter Try.func17, Try.ntmps17
            go_wp2
            go_ret
            exact ⟨congrArg (fun b => Ending.returned (.bool b)) (show false = _ by simp [h3]), rfl⟩
        · have d2 : decide (192 ≤ y) = false := by simpa using h2
          go_enter Try.func17, Try.ntmps17
          go_wp2
          go_ret
          exact ⟨congrArg (fun b => Ending.returned (.bool b)) (show false = _ by simp [h2]), rfl⟩
      · have e1 : ¬ x / 64 * 64 = 128 := by omega
        go_enter Try.func17, Try.ntmps17
        go_wp2
        go_ret
        exact ⟨congrArg (fun b => Ending.returned (.bool b)) (show false = _ by simp [h1]), rfl⟩
  · have d0 : decide ((2 : Int) ≤ (xs.length : Int)) = false := by simp; omega
    have hm : isM xs = false := by simp [isM]; omega
    rw [hm]
    clear h hb hm
    go_enter Try.func17, Try.ntmps17
    go_wp2
    go_ret
    exact ⟨congrArg (fun b => Ending.returned (.bool b)) (show false = _ by simp), rfl⟩
/-- a body without its padding; none: it is none -/
def cutM (xs : List Int) (last : Bool) : Option (List Int) :=
  if last = false ∨ xs.length = 0 then none
  else
    let n := xs.getLastD 0
    if n = 0 ∨ n % 4 ≠ 0 ∨ (xs.length : Int) < n then none else some (xs.take (xs.length - n.toNat))
theorem RowIn.short {w : World} {lo : Nat} {k : IntKind} {b off c : Nat} {xs : List Int} (n : Nat) (h : RowIn w lo k ⟨some ⟨b, off, none⟩, c, xs⟩) : RowIn w lo k ⟨some ⟨b, off, none⟩, c, xs.take n⟩ := by
  have hl := h.le
  have hm := h.cm
  dsimp only at hl hm
  refine ⟨⟨by simp, fun hp => ?_⟩, (fun e => by cases e), by dsimp only; rw [List.length_take]; omega, by dsimp only; omega⟩
  rw [List.length_take] at hp
  obtain ⟨b', off', e, h1, h2, hc⟩ := h.l.2 (by dsimp only; omega)
  refine ⟨b', off', e, h1, h2, fun j u hu => hc j u ?_⟩
  rw [List.map_take, List.getElem?_take] at hu
  split at hu
  · exact hu
  · cases hu
def kindM (t count : Int) : Int := if t = 200 then 0 else if t = 201 then 1 else if t = 203 then 2 else if t = 205 ∧ count = 1 then 3 else if t = 206 ∧ count = 1 then 4 else if t = 206 ∧ count = 4 then 5 else 6
theorem kind_any (t count : Int) (w : World) : Calls Try.prog 41 #[.int .u8 t, .int .i64 count] w fun e w' => e = .returned (.int .i64 (kindM t count)) ∧ w = w' := by
  unfold kindM
  by_cases h0 : t = 200
  · subst h0
    go_enter Try.func41, Try.ntmps41
    go_wp2
    go_ret
    exact ⟨rfl, rfl⟩
  by_cases h1 : t = 201
  · subst h1
    go_enter Try.func41, Try.ntmps41
    go_wp2
    go_ret
    exact ⟨rfl, rfl⟩
  by_cases h2 : t = 203
  · subst h2
    go_enter Try.func41, Try.ntmps41
    go_wp2
    go_ret
    exact ⟨rfl, rfl⟩
  rw [if_neg h0, if_neg h1, if_neg h2]
  by_cases h3 : t = 205
  · subst h3
    by_cases h4 : count = 1
    · subst h4
      go_enter Try.func41, Try.ntmps41
      go_wp2
      go_ret
      exact ⟨rfl, rfl⟩
    · rw [if_neg (by simp [h4]), if_neg (by simp), if_neg (by simp)]
      go_enter Try.func41, Try.ntmps41
      go_wp2
      go_ret
      exact ⟨rfl, rfl⟩
  by_cases h5 : t = 206
  · subst h5
    by_cases h4 : count = 1
    · subst h4
      go_enter Try.func41, Try.ntmps41
      go_wp2
      go_ret
      exact ⟨rfl, rfl⟩
    · by_cases h6 : count = 4
      · subst h6
        go_enter Try.func41, Try.ntmps41
        go_wp2
        go_ret
        exact ⟨rfl, rfl⟩
      · rw [if_neg (by simp), if_neg (by simp [h4]), if_neg (by simp [h6])]
        go_enter Try.func41, Try.ntmps41
        go_wp2
        go_ret
        exact ⟨rfl, rfl⟩
  rw [if_neg (by simp [h3]), if_neg (by simp [h5]), if_neg (by simp [h5])]
  go_enter Try.func41, Try.ntmps41
  go_wp2
  go_ret
  exact ⟨rfl, rfl⟩
end Go.Proofs.Ytgkejdjdccgjbaa
