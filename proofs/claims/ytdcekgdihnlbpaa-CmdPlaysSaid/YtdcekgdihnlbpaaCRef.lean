/- The document's board: its state in memory; Room, Acked. Conditions: 1 to 4 shards, rooms of 1 to 5. -/
import Derived.Test.YtdcekgdihnlbpaaCState
import Derived.Test.YtdcekgdihnlbpaaCells
import Derived.Deep.LoopGhost
namespace Go.Proofs.Ytdcekgdihnlbpaa
open Go Go.RowKit
set_option maxHeartbeats 400000

/-- a slice of integers: where it lies, its capacity, what it holds -/
structure Rw where
  A : Option Addr
  c : Nat
  xs : List Int
def encR (r : Rw) : Value := .slice r.A r.xs.length r.c
/-- such a slice in memory, in blocks from lo on -/
structure RowIn (w : World) (lo : Nat) (k : IntKind) (r : Rw) : Prop where
  l : CellsIn w lo w.heap.size 1 r.A r.xs.length (r.xs.map (Value.int k))
  nl : r.A = none → r.xs.length = 0 ∧ r.c = 0
  le : r.xs.length ≤ r.c
  cm : r.c ≤ 9223372036854775807
theorem RowIn.below {w w' : World} {lo : Nat} {k : IntKind} {r : Rw} (h : RowIn w lo k r) (b : Below w.heap.size w w') : RowIn w' lo k r :=
  ⟨(h.l.below b (Nat.le_refl _)).more (Nat.le_refl _) b.size, h.nl, h.le, h.cm⟩
theorem RowIn.upd {S : List Nat} {w w' : World} {lo : Nat} {k : IntKind} {r : Rw} (h : RowIn w lo k r) (u : Upd S w w') (hS : ∀ s, s ∈ S → s < lo) : RowIn w' lo k r :=
  ⟨(h.l.upd u (Nat.le_refl _) (fun s hs => .inl (hS s hs))).more (Nat.le_refl _) u.size, h.nl, h.le, h.cm⟩
theorem RowIn.at {w : World} {lo : Nat} {k : IntKind} {r : Rw} (h : RowIn w lo k r) (hn : 0 < r.xs.length) : ∃ b off, r.A = some ⟨b, off, none⟩ ∧ lo ≤ b ∧ b < w.heap.size ∧ ∀ (i : Nat) (x : Int), r.xs[i]? = some x → w.cell? ⟨b, off + i, none⟩ = some (.int k x) := by
  obtain ⟨b, off, e, h1, h2, hc⟩ := h.l.2 hn
  exact ⟨b, off, e, h1, h2, fun i x hx => hc i _ (by rw [List.getElem?_map, hx]; rfl)⟩

/-- of a new block -/
def Fr (w : World) (A : Option Addr) : Prop := ∀ a, A = some a → w.heap.size ≤ a.block
theorem Fr.some {w : World} {g o : Nat} (h : w.heap.size ≤ g) : Fr w (some ⟨g, o, none⟩) := fun a e => by injection e with e; subst e; exact h
/-- of the same block as before -/
def Kp (A A' : Option Addr) : Prop := ∀ a, A' = some a → ∃ a0, A = some a0 ∧ a0.block = a.block
theorem Kp.some {b o o' : Nat} : Kp (some ⟨b, o, none⟩) (some ⟨b, o', none⟩) := fun a e => by injection e with e; subst e; exact ⟨_, rfl, rfl⟩

structure RB (w : World) (lo n k : Nat) (TA : Option Addr) (tc : Nat) (rows : List Rw) (S E L : Rw) : Prop where
  t : CellsIn w lo w.heap.size 1 TA n (rows.map encR)
  tl : rows.length = n
  r : ∀ r, r ∈ rows → RowIn w lo .u64 r ∧ r.xs.length ≤ k
  s : RowIn w lo .i64 S
  e : RowIn w lo .u64 E
  l : RowIn w lo .u64 L
  se : E.xs.length = S.xs.length
  sm : S.xs.length ≤ n * k
  ll : L.xs.length = n
  tn : n ≤ tc
  tm : tc ≤ 9223372036854775807
  n1 : 1 ≤ n
  n4 : n ≤ 4
  k1 : 1 ≤ k
  k5 : k ≤ 5
  low : lo ≤ w.heap.size
/-- the struct's cells -/
def bcells (n k : Nat) (TA : Option Addr) (tc : Nat) (S E L : Rw) : Array Value := #[.slice TA n tc, .slice S.A S.xs.length S.c, .slice E.A E.xs.length E.c, .slice L.A L.xs.length L.c, .int .i64 k]
section
variable {w w' : World} {lo n k tc : Nat} {TA : Option Addr} {rows : List Rw} {S E L : Rw}
theorem RB.upd {X : List Nat} (h : RB w lo n k TA tc rows S E L) (u : Upd X w w') (hS : ∀ s, s ∈ X → s < lo) : RB w' lo n k TA tc rows S E L :=
  { h with t := (h.t.upd u (Nat.le_refl _) (fun s hs => .inl (hS s hs))).more (Nat.le_refl _) u.size, r := fun r hr => ⟨(h.r r hr).1.upd u hS, (h.r r hr).2⟩, s := h.s.upd u hS, e := h.e.upd u hS, l := h.l.upd u hS, low := Nat.le_trans h.low u.size }
theorem RB.below (h : RB w lo n k TA tc rows S E L) (b : Below w.heap.size w w') : RB w' lo n k TA tc rows S E L :=
  { h with t := (h.t.below b (Nat.le_refl _)).more (Nat.le_refl _) b.size, r := fun r hr => ⟨(h.r r hr).1.below b, (h.r r hr).2⟩, s := h.s.below b, e := h.e.below b, l := h.l.below b, low := Nat.le_trans h.low b.size }
theorem RB.at (h : RB w lo n k TA tc rows S E L) : ∃ b off, TA = some ⟨b, off, none⟩ ∧ lo ≤ b ∧ b < w.heap.size ∧ ∀ (i : Nat) (r : Rw), rows[i]? = some r → w.cell? ⟨b, off + i, none⟩ = some (.slice r.A r.xs.length r.c) := by
  obtain ⟨b, off, e, h1, h2, hc⟩ := h.t.2 (by have := h.n1; omega)
  exact ⟨b, off, e, h1, h2, fun i r hr => hc i _ (by rw [List.getElem?_map, hr]; rfl)⟩
/-- a row has room -/
def rroom (k : Nat) (rows : List Rw) : Bool := rows.all fun r => decide (r.xs.length < k)
theorem rroom_no {k : Nat} {rows : List Rw} {i : Nat} {r : Rw} (h : rows[i]? = some r) (hl : ¬ r.xs.length < k) : rroom k rows = false := by
  unfold rroom
  rw [List.all_eq_false]
  exact ⟨r, List.mem_of_getElem? h, by simpa using hl⟩
theorem rroom_yes {k : Nat} {rows : List Rw} (h : ∀ (i : Nat) (r : Rw), rows[i]? = some r → r.xs.length < k) : rroom k rows = true := by
  unfold rroom
  rw [List.all_eq_true]
  intro xs hx
  obtain ⟨i, hi⟩ := List.getElem?_of_mem hx
  simpa using h i xs hi

set_option maxHeartbeats 1000000 in
theorem rroom_any (h : RB w lo n k TA tc rows S E L) :
    Calls Try.prog 25 #[.agg (bcells n k TA tc S E L)] w fun e w' => e = .returned (.bool (rroom k rows)) ∧ Upd [] w w' := by
  obtain ⟨b, off, rfl, hb1, hb2, hc⟩ := h.at
  have hn4 := h.n4
  have hk5 := h.k5
  have htl := h.tl
  have hrl : ∀ r, r ∈ rows → r.xs.length ≤ k := fun r hr => (h.r r hr).2
  obtain ⟨W1, hW1⟩ : ∃ W1, W1 = w.alloc (.cells (bcells n k (some ⟨b, off, none⟩) tc S E L) 41) := ⟨_, rfl⟩
  have hB : Blk W1 w.heap.size 41 (bcells n k (some ⟨b, off, none⟩) tc S E L) := by rw [hW1]; exact Blk.new _ _ _
  have hu : Upd [] w W1 := by rw [hW1]; exact (Upd.refl _ _).alloc _
  have b0 : W1.cell? ⟨w.heap.size, 0, none⟩ = some (.slice (some ⟨b, off, none⟩) n tc) := hB.cell 0
  have b4 : W1.cell? ⟨w.heap.size, 4, none⟩ = some (.int .i64 k) := hB.cell 4
  have HC : Hid (∀ (i : Nat) (r : Rw), rows[i]? = some r → W1.cell? ⟨b, off + i, none⟩ = some (.slice r.A r.xs.length r.c)) := fun i r hr => (hu.cell (p := ⟨b, off + i, none⟩) hb2 (by simp)).trans (hc i r hr)
  have HU := Lib.hid hu
  have HRL := Lib.hid hrl
  have HTL := Lib.hid htl
  clear h hc hB hu hrl htl
  unfold bcells at hW1 ⊢
  go_enter Try.func25, Try.ntmps25
  go_wp2
  rw [← hW1]
  clear hW1
  obtain ⟨X, hX⟩ : ∃ X, X = w.heap.size := ⟨_, rfl⟩
  rw [← hX] at b0 b4 ⊢
  clear hX
  go_loopg [3] n (fun gk x3 wr => ∃ i : Nat, i ≤ n ∧ n ≤ i + gk ∧ x3 = .int .i64 i ∧ (∀ (j : Nat) (r : Rw), j < i → rows[j]? = some r → r.xs.length < k) ∧ Upd [] W1 wr)
  case atStart => exact ⟨0, Nat.zero_le _, by omega, rfl, fun j r h => absurd h (Nat.not_lt_zero _), Upd.refl _ _⟩
  case round =>
    obtain ⟨i, hi, hgi, rfl, hp, hu⟩ := hrel
    have d0 := (hu.cell (p := ⟨X, 0, none⟩) (cell_lt b0) (by simp)).trans b0
    have d4 := (hu.cell (p := ⟨X, 4, none⟩) (cell_lt b4) (by simp)).trans b4
    have HP := Lib.hid hp
    have HUr := Lib.hid hu
    clear hp hu
    by_cases hlt : i < n
    · obtain ⟨r, hr⟩ : ∃ r, rows[i]? = some r := ⟨_, List.getElem?_eq_getElem (by have := HTL.out; omega)⟩
      have hrk := HRL.out r (List.mem_of_getElem? hr)
      have c0 := HC.out i r hr
      have c1 := (HUr.out.cell (p := ⟨b, off + i, none⟩) (cell_lt c0) (by simp)).trans c0
      by_cases hl : r.xs.length < k
      · have dl : decide ((k : Int) ≤ (r.xs.length : Int)) = false := by simp; omega
        have HR := Lib.hid hr
        clear hr c0
        go_upto_region 4 with fail
        go_quiet (fail)
        go_wp2
        go_roundg (gk - 1)
        case measure => omega
        case rel => exact ⟨i + 1, by omega, by omega, by go_num, fun j r' hj hr' => by
          rcases Nat.lt_succ_iff_lt_or_eq.1 hj with h | rfl
          · exact HP.out j r' h hr'
          · rw [HR.out] at hr'; obtain rfl := Option.some.inj hr'; exact hl, HUr.out.drewN _⟩
      · have dl : decide ((k : Int) ≤ (r.xs.length : Int)) = true := by simp; omega
        have HR := Lib.hid (rroom_no hr hl)
        clear hr c0
        go_upto_region 4 with fail
        go_quiet (fail)
        go_wp2
        go_ret
        exact ⟨by rw [HR.out]; rfl, (HU.out.next HUr.out).drewN _⟩
    · obtain rfl : i = n := by omega
      have HR : Hid (rroom k rows = true) := rroom_yes fun j r hr => HP.out j r (by have := (List.getElem?_eq_some_iff.1 hr).1; have := HTL.out; omega) hr
      clear hlt
      go_wp2
      go_ret
      exact ⟨by rw [HR.out]; rfl, HU.out.next HUr.out⟩

def minUp (xs : List Int) (i : Nat) : Int := (xs.take i).foldl min (xs.headD 0)
theorem minUp_snoc (xs : List Int) (i : Nat) (x : Int) (h : xs[i]? = some x) : minUp xs (i + 1) = if x < minUp xs i then x else minUp xs i := by
  unfold minUp
  rw [List.take_add_one, h, Option.toList_some, List.foldl_append, List.foldl_cons, List.foldl_nil]
  generalize (xs.take i).foldl min (xs.headD 0) = y
  rw [Int.min_def]
  split <;> split <;> omega
theorem minUp_all (xs : List Int) (h : 0 < xs.length) : minUp xs xs.length = minL xs := by
  cases xs with
  | nil => simp at h
  | cons a l =>
    unfold minUp minL
    rw [List.take_of_length_le (Nat.le_refl _), List.headD_cons, List.foldl_cons, Int.min_self]

set_option maxHeartbeats 1000000 in
theorem racked_any (h : RB w lo n k TA tc rows S E L) :
    Calls Try.prog 22 #[.agg (bcells n k TA tc S E L)] w fun e w' => e = .returned (.int .u64 (minL L.xs)) ∧ Upd [] w w' := by
  have hll := h.ll
  have hn1 := h.n1
  have hn4 := h.n4
  obtain ⟨b, off, hA, hb1, hb2, hc⟩ := h.l.at (by omega)
  obtain ⟨LA, lc, xs⟩ := L
  dsimp only at hA hc hll ⊢
  subst hA
  obtain ⟨W1, hW1⟩ : ∃ W1, W1 = w.alloc (.cells (bcells n k TA tc S E ⟨some ⟨b, off, none⟩, lc, xs⟩) 41) := ⟨_, rfl⟩
  have hB : Blk W1 w.heap.size 41 (bcells n k TA tc S E ⟨some ⟨b, off, none⟩, lc, xs⟩) := by rw [hW1]; exact Blk.new _ _ _
  have hu : Upd [] w W1 := by rw [hW1]; exact (Upd.refl _ _).alloc _
  have b3 : W1.cell? ⟨w.heap.size, 3, none⟩ = some (.slice (some ⟨b, off, none⟩) n lc) := by rw [← hll]; exact hB.cell 3
  have HC : Hid (∀ (i : Nat) (x : Int), xs[i]? = some x → W1.cell? ⟨b, off + i, none⟩ = some (.int .u64 x)) := fun i r hr => (hu.cell (p := ⟨b, off + i, none⟩) hb2 (by simp)).trans (hc i r hr)
  obtain ⟨x0, hx0⟩ : ∃ x, xs[0]? = some x := ⟨_, List.getElem?_eq_getElem (by omega)⟩
  have c0 := HC.out 0 x0 hx0
  rw [Nat.add_zero] at c0
  have hm0 : x0 = minUp xs 0 := by
    unfold minUp
    cases xs with
    | nil => simp at hx0
    | cons a l => simp at hx0; simp [hx0]
  have HU := Lib.hid hu
  have HLL := Lib.hid hll
  have HM0 := Lib.hid hm0
  clear h hc hB hu hll hx0 hm0
  unfold bcells at hW1 ⊢
  dsimp only at hW1 ⊢
  go_enter Try.func22, Try.ntmps22
  go_upto_region 1 with fail
  rw [← hW1]
  clear hW1
  obtain ⟨X, hX⟩ : ∃ X, X = w.heap.size := ⟨_, rfl⟩
  rw [← hX] at b3 ⊢
  clear hX
  go_wp2
  clear c0
  go_loopg [3, 4] n (fun gk x3 x4 wr => ∃ i : Nat, i ≤ n ∧ n ≤ i + gk ∧ x4 = .int .i64 i ∧ x3 = .int .u64 (minUp xs i) ∧ wr = W1)
  case atStart => exact ⟨0, Nat.zero_le _, by omega, rfl, by rw [← HM0.out], rfl⟩
  case round =>
    obtain ⟨i, hi, hgi, rfl, rfl, rfl⟩ := hrel
    by_cases hlt : i < n
    · obtain ⟨x, hx⟩ : ∃ x, xs[i]? = some x := ⟨_, List.getElem?_eq_getElem (by have := HLL.out; omega)⟩
      have c1 := HC.out i x hx
      have HS := Lib.hid (minUp_snoc xs i x hx)
      generalize hy : minUp xs i = y at HS ⊢
      clear hx hy
      by_cases hl : x < y
      · go_wp2
        go_roundg (gk - 1)
        case measure => omega
        case rel => exact ⟨i + 1, by omega, by omega, by go_num, by rw [HS.out, if_pos hl], rfl⟩
      · go_wp2
        go_roundg (gk - 1)
        case measure => omega
        case rel => exact ⟨i + 1, by omega, by omega, by go_num, by rw [HS.out, if_neg (by omega)], rfl⟩
    · obtain rfl : i = n := by omega
      have HR : Hid (minUp xs i = minL xs) := by
        show _ = _
        have := minUp_all xs (by have := HLL.out; omega)
        rw [HLL.out] at this; exact this
      rw [HR.out]
      clear hlt
      go_wp2
      go_ret
      exact ⟨rfl, HU.out⟩
end
end Go.Proofs.Ytdcekgdihnlbpaa
