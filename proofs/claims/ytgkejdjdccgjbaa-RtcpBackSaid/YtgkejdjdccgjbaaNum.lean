/- octet's Cut: Num. Conditions: sizes of 1 to 8; bytes. -/
import Derived.Test.YtgkejdjdccgjbaaCut
import Derived.Laws.BitsAllLaws
namespace Go.Proofs.Ytgkejdjdccgjbaa
open Go Go.RowKit
set_option maxHeartbeats 400000

def numOf (bs : List Int) : Int := bs.foldl (fun x b => x * 256 + b) 0
theorem numOf_snoc (bs : List Int) (b : Int) : numOf (bs ++ [b]) = numOf bs * 256 + b := by simp [numOf]
def Byt (bs : List Int) : Prop := ∀ b, b ∈ bs → 0 ≤ b ∧ b ≤ 255
theorem numOf_lt (bs : List Int) (h : Byt bs) : 0 ≤ numOf bs ∧ numOf bs < 256 ^ bs.length := by
  suffices ∀ (n : Nat) (bs : List Int), bs.length = n → Byt bs → 0 ≤ numOf bs ∧ numOf bs < 256 ^ bs.length from this _ bs rfl h
  intro n
  induction n with
  | zero =>
    intro bs hl _
    obtain rfl := List.eq_nil_of_length_eq_zero hl
    simp [numOf]
  | succ n ih =>
    intro bs hl hb
    have hne : bs ≠ [] := by intro e; subst e; simp at hl
    have e := List.dropLast_concat_getLast hne
    have hd := ih bs.dropLast (by simp; omega) (fun b hm => hb b (List.dropLast_subset _ hm))
    have hx := hb (bs.getLast hne) (List.getLast_mem hne)
    rw [← e, numOf_snoc, List.length_append, List.length_singleton, Int.pow_succ]
    omega

theorem pow256 {a b : Nat} (h : a ≤ b) : (256 : Int) ^ a ≤ 256 ^ b := by
  have h2 := Int.ofNat_le.2 (Nat.pow_le_pow_right (n := 256) (by decide) h)
  rw [Int.natCast_pow, Int.natCast_pow] at h2
  exact h2
theorem or_byte (y x : Int) (h0 : 0 ≤ y) (h1 : y < 72057594037927936) (h2 : 0 ≤ x) (h3 : x ≤ 255) : bits .or .u64 (y * 256) x = y * 256 + x := by
  obtain ⟨a, rfl⟩ : ∃ a : Nat, y = a := ⟨y.toNat, by omega⟩
  obtain ⟨b, rfl⟩ : ∃ b : Nat, x = b := ⟨x.toNat, by omega⟩
  have e : 256 * a ||| b = 256 * a + b := (Nat.two_pow_add_eq_or_of_lt (i := 8) (by omega) a).symm
  rw [show (a : Int) * 256 = ((256 * a : Nat) : Int) by omega, u64_or_nat _ _ (by omega) (by omega), e]
  omega

section
variable {w w' : World} {c lo : Nat} {r : Rw} {er : Int}
set_option maxRecDepth 100000 in
theorem num_yes (h : CutIs w c lo r 0) (n : Nat) (h1 : 1 ≤ n) (h8 : n ≤ 8) (hn : n ≤ r.xs.length) (hb : Byt r.xs) : Calls Try.prog 44 #[.pointer (some ⟨c, 0, none⟩), .int .i64 n] w fun e w' => ∃ r', e = .returned (.int .u64 (numOf (r.xs.take n))) ∧ r'.xs = r.xs.drop n ∧ CutIs w' c lo r' 0 ∧ (∀ a, r'.A = some a → ∃ a0, r.A = some a0 ∧ a0.block = a.block) ∧ Upd [c] w w' := by
  have HM := Lib.hid (may_any n w h1 h8)
  have HC := Lib.hid (take_yes h n hn)
  have HBY : Hid (Byt (r.xs.take n)) := fun b hm => hb b (List.mem_of_mem_take hm)
  have hl : (r.xs.take n).length = n := by rw [List.length_take]; omega
  generalize r.xs.take n = bs at HC HBY hl ⊢
  clear h hn hb
  go_enter Try.func44, Try.ntmps44
  go_wp2_with fail
  refine HM.out.mono ?_
  rintro e w1 ⟨rfl, rfl⟩
  go_wp2_with fail
  refine HC.out.mono ?_
  rintro e w1 ⟨q, r', rfl, hq1, hq2, hq3, hq4, hq5, hq6, hqk, hq7⟩
  have hql : q.xs.length = n := by rw [hq1, hl]
  obtain ⟨b, off, hA, _, hbl, hcc⟩ := hq4.at (by omega)
  rw [hq1] at hcc
  unfold encR
  rw [hql]
  have HR := Lib.hid hq3
  have HC6 := Lib.hid hq6
  have HU := Lib.hid (And.intro hqk hq7)
  have HCC := Lib.hid hcc
  obtain ⟨qA, qc, qx⟩ := q
  dsimp only at hA hq2 ⊢
  subst hA
  subst hq2
  have HL := Lib.hid hl
  clear hq1 hq3 hq4 hq5 hq6 hqk hq7 hql hcc HC HM hl
  go_wp2
  go_loopg [5, 14] qc (fun gk x5 x14 wr => ∃ i : Nat, i ≤ qc ∧ qc ≤ i + gk ∧ x14 = .int .i64 i ∧ x5 = .int .u64 (numOf (bs.take i)) ∧ wr = w1)
  case atStart => exact ⟨0, Nat.zero_le _, by omega, rfl, rfl, rfl⟩
  case round =>
    obtain ⟨i, hi, hgi, rfl, rfl, rfl⟩ := hrel
    by_cases hlt : i < qc
    · obtain ⟨x, hx⟩ : ∃ x, bs[i]? = some x := ⟨_, List.getElem?_eq_getElem (by rw [HL.out]; exact hlt)⟩
      have c0 := HCC.out i x hx
      obtain ⟨hx0, hx1⟩ := HBY.out x (List.mem_of_getElem? hx)
      have hnum := numOf_lt (bs.take i) (fun b hm => HBY.out b (List.mem_of_mem_take hm))
      have hpow : (256 : Int) ^ (bs.take i).length ≤ 256 ^ 7 := by
        rw [List.length_take]
        have h7 : min i bs.length ≤ 7 := by have := HL.out; omega
        exact pow256 h7
      have HS : Hid (numOf (bs.take (i + 1)) = numOf (bs.take i) * 256 + x) := by
        rw [List.take_add_one, hx, Option.toList_some, numOf_snoc]; exact Lib.hid rfl
      obtain ⟨y, hy⟩ : ∃ y, y = numOf (bs.take i) := ⟨_, rfl⟩
      rw [← hy] at hnum HS ⊢
      have hy0 := hnum.1
      have hy1 : y < 72057594037927936 := by have := hnum.2; omega
      clear hx hy hnum hpow
      go_wp2
      rw [or_byte y x hy0 hy1 hx0 hx1]
      go_roundg (gk - 1)
      case measure => omega
      case rel => exact ⟨i + 1, by omega, by omega, by go_num, by rw [HS.out], rfl⟩
    · obtain rfl : i = qc := by omega
      rw [List.take_of_length_le (by rw [HL.out]; exact Nat.le_refl _)]
      clear hlt
      go_wp2
      go_ret
      exact ⟨r', rfl, HR.out, HC6.out, HU.out⟩
theorem num_short (h : CutIs w c lo r 0) (n : Nat) (h1 : 1 ≤ n) (h8 : n ≤ 8) (hn : r.xs.length < n) : Calls Try.prog 44 #[.pointer (some ⟨c, 0, none⟩), .int .i64 n] w fun e w' => e = .returned (.int .u64 0) ∧ CutIs w' c lo r 10 ∧ Upd [c] w w' := by
  have HM := Lib.hid (may_any n w h1 h8)
  have HC := Lib.hid (take_short h n hn)
  clear h
  go_enter Try.func44, Try.ntmps44
  go_wp2_with fail
  refine HM.out.mono ?_
  rintro e w1 ⟨rfl, rfl⟩
  go_wp2_with fail
  refine HC.out.mono ?_
  rintro e w1 ⟨rfl, hq1, hq2⟩
  have H1 := Lib.hid hq1
  have H2 := Lib.hid hq2
  clear hq1 hq2 HM HC
  go_wp2
  go_loopg [5, 14] 0 (fun gk x5 x14 wr => x5 = .int .u64 0 ∧ x14 = .int .i64 0 ∧ wr = w1)
  case atStart => exact ⟨rfl, rfl, rfl⟩
  case round =>
    obtain ⟨rfl, rfl, rfl⟩ := hrel
    go_wp2
    go_ret
    exact ⟨rfl, H1.out, H2.out⟩
theorem num_err (h : CutIs w c lo r er) (n : Nat) (h1 : 1 ≤ n) (h8 : n ≤ 8) (he : er ≠ 0) : Calls Try.prog 44 #[.pointer (some ⟨c, 0, none⟩), .int .i64 n] w fun e w' => e = .returned (.int .u64 0) ∧ w = w' := by
  have HM := Lib.hid (may_any n w h1 h8)
  have HC := Lib.hid (take_err h n he)
  clear h
  go_enter Try.func44, Try.ntmps44
  go_wp2_with fail
  refine HM.out.mono ?_
  rintro e w1 ⟨rfl, rfl⟩
  go_wp2_with fail
  refine HC.out.mono ?_
  rintro e w1 ⟨rfl, rfl⟩
  clear HM HC
  go_wp2
  go_loopg [5, 14] 0 (fun gk x5 x14 wr => x5 = .int .u64 0 ∧ x14 = .int .i64 0 ∧ wr = w)
  case atStart => exact ⟨rfl, rfl, rfl⟩
  case round =>
    obtain ⟨rfl, rfl, rfl⟩ := hrel
    go_wp2
    go_ret
    exact ⟨rfl, rfl⟩
end
end Go.Proofs.Ytgkejdjdccgjbaa
