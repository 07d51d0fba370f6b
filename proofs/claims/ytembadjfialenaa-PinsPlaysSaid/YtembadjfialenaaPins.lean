/- The pins' functions: what each does in memory. Conditions: between 1 and 4 workers, at most 64 things wait. -/
import Derived.Test.YtembadjfialenaaRows
import Derived.Test.YtembadjfialenaaFlat
namespace Go.Proofs.Ytembadjfialenaa
open Go Go.RowKit
set_option maxHeartbeats 400000

/-- A worker: where it is at, what it looks at, whether it looks. -/
structure Wk where
  at_ : Int
  sees : Int
  looks : Bool
/-- What waits: a ref, and its epoch. -/
structure Wt where
  slot : Int
  turn : Int
  ep : Int
def encW (x : Wk) : List Value := [.int .u64 x.at_, .int .u64 x.sees, .bool x.looks]
def encT (x : Wt) : List Value := [.int .i64 x.slot, .int .u32 x.turn, .int .u64 x.ep]
def encR (x : Int × Int) : List Value := [.int .i64 x.1, .int .u32 x.2]
theorem encW_len (z : Wk) : (encW z).length = 3 := rfl
theorem encT_len (z : Wt) : (encT z).length = 3 := rfl
theorem encR_len (z : Int × Int) : (encR z).length = 2 := rfl

/-- The pins in memory: block g the struct, block lw the workers; the slice wv, from block N on, what waits. -/
structure IsP (w : World) (N g lw : Nat) (ws : List Wk) (wts : List Wt) (wv : Value) : Prop where
  blk : Blk w g 63 #[.slice (some ⟨lw, 0, none⟩) ws.length ws.length, wv]
  wks : Blk w lw 71 (ws.flatMap encW).toArray
  own : w.ownsRow N 75 3 wv wts.length (wts.flatMap encT)
  n1 : 1 ≤ ws.length
  n4 : ws.length ≤ 4
  few : wts.length ≤ 64
  gN : g < N
  lN : lw < N

theorem IsP.ne {w : World} {N g lw : Nat} {ws : List Wk} {wts : List Wt} {wv : Value} (h : IsP w N g lw ws wts wv) : g ≠ lw := h.blk.ne h.wks (by decide)
theorem IsP.foot {w : World} {N g lw : Nat} {ws : List Wk} {wts : List Wt} {wv : Value} (h : IsP w N g lw ws wts wv) {b : Nat} (hb : wv.ownBlock = some b) : N ≤ b ∧ b < w.heap.size := own_block_lt h.own hb
theorem IsP.upd {w w' : World} {N g lw : Nat} {ws : List Wk} {wts : List Wt} {wv : Value} {S : List Nat} (h : IsP w N g lw ws wts wv) (u : Upd S w w') (hg : g ∉ S) (hl : lw ∉ S) (hS : ∀ s, s ∈ S → wv.ownBlock ≠ some s) : IsP w' N g lw ws wts wv :=
  { h with blk := h.blk.upd u hg, wks := h.wks.upd u hl, own := ownsRow_upd h.own u hS }
theorem IsP.drewN {w : World} {N g lw : Nat} {ws : List Wk} {wts : List Wt} {wv : Value} (h : IsP w N g lw ws wts wv) (n : Nat) : IsP (w.drewN n) N g lw ws wts wv := { h with }

/-- a worker's cells -/
theorem IsP.wk {w : World} {N g lw : Nat} {ws : List Wk} {wts : List Wt} {wv : Value} (h : IsP w N g lw ws wts wv) {i : Nat} {x : Wk} (hi : ws[i]? = some x) :
    w.cell? ⟨lw, i * 3, none⟩ = some (.int .u64 x.at_) ∧ w.cell? ⟨lw, i * 3 + 1, none⟩ = some (.int .u64 x.sees) ∧ w.cell? ⟨lw, i * 3 + 2, none⟩ = some (.bool x.looks) := by
  refine ⟨?_, ?_, ?_⟩
  · rw [h.wks.cell]; have := flat_get encW_len ws i 0 x hi (by omega); simpa [encW] using this
  · rw [h.wks.cell]; have := flat_get encW_len ws i 1 x hi (by omega); simpa [encW] using this
  · rw [h.wks.cell]; have := flat_get encW_len ws i 2 x hi (by omega); simpa [encW] using this
/-- one field of one worker is another -/
theorem IsP.setW {w : World} {N g lw : Nat} {ws : List Wk} {wts : List Wt} {wv : Value} (h : IsP w N g lw ws wts wv) {i j : Nat} {x x' : Wk} {v : Value} (hi : ws[i]? = some x) (hj : j < 3) (hx : encW x' = (encW x).set j v) :
    IsP (w.setCell ⟨lw, i * 3 + j, none⟩ v) N g lw (ws.set i x') wts wv := by
  have h1 := h.wks.store (i * 3 + j) v
  have e : (ws.flatMap encW).toArray.setIfInBounds (i * 3 + j) v = ((ws.set i x').flatMap encW).toArray := by
    apply Array.ext'
    simp only [Array.toList_setIfInBounds]
    exact flat_set encW_len ws i j x x' v hi hj hx
  rw [e] at h1
  have hg := h.blk.other (p := ⟨lw, i * 3 + j, none⟩) h.ne v
  refine ⟨by rw [List.length_set]; exact hg, h1, ownsRow_upd h.own ((Upd.refl [lw] w).setCell (by simp) v) (fun s hs he => ?_), by rw [List.length_set]; exact h.n1, by rw [List.length_set]; exact h.n4, h.few, h.gN, h.lN⟩
  have := (h.foot he).1
  have := h.lN
  simp at hs
  omega

/-- what a walk reads of the struct -/
theorem IsP.st {w : World} {N g lw : Nat} {ws : List Wk} {wts : List Wt} {wv : Value} (h : IsP w N g lw ws wts wv) :
    w.cell? ⟨g, 0, none⟩ = some (.slice (some ⟨lw, 0, none⟩) ws.length ws.length) ∧ w.cell? ⟨g, 1, none⟩ = some wv ∧ w.frozen? ⟨g, 1, none⟩ = false ∧ (∀ i, w.frozen? ⟨lw, i, none⟩ = false) :=
  ⟨h.blk.cell 0, h.blk.cell 1, h.blk.frozen 1, h.wks.frozen⟩

theorem of_yes (g lw n i : Nat) (w : World) (h0 : w.cell? ⟨g, 0, none⟩ = some (.slice (some ⟨lw, 0, none⟩) n n)) (hi : i < n) (hn : n ≤ 4) (iv : Int) (hv : iv = (i : Int)) :
    Calls Try.prog 24 #[.pointer (some ⟨g, 0, none⟩), .int .i64 iv] w fun e w' => e = .returned (.tuple #[.pointer (some ⟨lw, i * 3, none⟩), .int .i64 0]) ∧ w = w' := by
  subst hv
  have h1 : ¬ (i : Int) < 0 := by omega
  have h2 : ¬ (n : Int) ≤ (i : Int) := by omega
  go_enter Try.func24, Try.ntmps24
  go_wp2
  go_ret2
  exact ⟨rfl, rfl⟩
theorem of_no (g lw n : Nat) (w : World) (h0 : w.cell? ⟨g, 0, none⟩ = some (.slice (some ⟨lw, 0, none⟩) n n)) (iv : Int) (hv : iv < 0 ∨ (n : Int) ≤ iv) :
    Calls Try.prog 24 #[.pointer (some ⟨g, 0, none⟩), .int .i64 iv] w fun e w' => e = .returned (.tuple #[.pointer none, .int .i64 1]) ∧ w = w' := by
  rcases hv with h | h
  · go_enter Try.func24, Try.ntmps24
    go_wp2
    go_ret2
    exact ⟨rfl, rfl⟩
  · have h1 : ¬ iv < 0 := by omega
    go_enter Try.func24, Try.ntmps24
    go_wp2
    go_ret2
    exact ⟨rfl, rfl⟩

section
variable {w : World} {N g lw : Nat} {ws : List Wk} {wts : List Wt} {wv : Value}
theorem install_arg (h : IsP w N g lw ws wts wv) (i ep : Int) (hi : i < 0 ∨ (ws.length : Int) ≤ i) :
    Calls Try.prog 11 #[.pointer (some ⟨g, 0, none⟩), .int .i64 i, .int .u64 ep] w fun e w' => e = .returned (.int .i64 1) ∧ w = w' := by
  have hc := Lib.hid (of_no g lw ws.length w h.st.1 i hi)
  go_enter Try.func11, Try.ntmps11
  go_wp2_with fail
  refine hc.out.mono ?_
  rintro e w' ⟨rfl, rfl⟩
  go_wp2
  go_ret
  exact ⟨rfl, rfl⟩
theorem install_low (h : IsP w N g lw ws wts wv) (i : Nat) (iv ep : Int) (x : Wk) (hv : iv = (i : Int)) (hi : ws[i]? = some x) (hlt : ep < x.at_) :
    Calls Try.prog 11 #[.pointer (some ⟨g, 0, none⟩), .int .i64 iv, .int .u64 ep] w fun e w' => e = .returned (.int .i64 23) ∧ w = w' := by
  subst hv
  have hil : i < ws.length := (List.getElem?_eq_some_iff.1 hi).1
  have hc := Lib.hid (of_yes g lw ws.length i w h.st.1 hil h.n4 i rfl)
  have c0 := (h.wk hi).1
  go_enter Try.func11, Try.ntmps11
  go_wp2_with fail
  refine hc.out.mono ?_
  rintro e w' ⟨rfl, rfl⟩
  go_wp2
  go_ret
  exact ⟨rfl, rfl⟩
theorem install_yes (h : IsP w N g lw ws wts wv) (i : Nat) (iv ep : Int) (x : Wk) (hv : iv = (i : Int)) (hi : ws[i]? = some x) (hlt : ¬ ep < x.at_) :
    Calls Try.prog 11 #[.pointer (some ⟨g, 0, none⟩), .int .i64 iv, .int .u64 ep] w fun e w' => e = .returned (.int .i64 0) ∧ IsP w' N g lw (ws.set i { x with at_ := ep }) wts wv ∧ Upd [lw] w w' := by
  subst hv
  have hil : i < ws.length := (List.getElem?_eq_some_iff.1 hi).1
  have hc := Lib.hid (of_yes g lw ws.length i w h.st.1 hil h.n4 i rfl)
  have c0 := (h.wk hi).1
  have f0 := h.st.2.2.2 (i * 3)
  have HF := Lib.hid (h.setW (j := 0) (x' := { x with at_ := ep }) (v := .int .u64 ep) hi (by omega) rfl)
  go_enter Try.func11, Try.ntmps11
  go_wp2_with fail
  refine hc.out.mono ?_
  rintro e w' ⟨rfl, rfl⟩
  go_wp2
  go_ret
  exact ⟨rfl, HF.out, (Upd.refl _ _).setCell (by simp) _⟩
theorem pin_arg (h : IsP w N g lw ws wts wv) (i : Int) (hi : i < 0 ∨ (ws.length : Int) ≤ i) :
    Calls Try.prog 13 #[.pointer (some ⟨g, 0, none⟩), .int .i64 i] w fun e w' => e = .returned (.tuple #[.int .u64 0, .int .i64 1]) ∧ w = w' := by
  have hc := Lib.hid (of_no g lw ws.length w h.st.1 i hi)
  go_enter Try.func13, Try.ntmps13
  go_wp2_with fail
  refine hc.out.mono ?_
  rintro e w' ⟨rfl, rfl⟩
  go_wp2
  go_ret2
  exact ⟨rfl, rfl⟩
theorem pin_state (h : IsP w N g lw ws wts wv) (i : Nat) (iv : Int) (x : Wk) (hv : iv = (i : Int)) (hi : ws[i]? = some x) (hx : x.looks = true) :
    Calls Try.prog 13 #[.pointer (some ⟨g, 0, none⟩), .int .i64 iv] w fun e w' => e = .returned (.tuple #[.int .u64 0, .int .i64 23]) ∧ w = w' := by
  subst hv
  have hil : i < ws.length := (List.getElem?_eq_some_iff.1 hi).1
  have hc := Lib.hid (of_yes g lw ws.length i w h.st.1 hil h.n4 i rfl)
  have c2 := (h.wk hi).2.2
  rw [hx] at c2
  go_enter Try.func13, Try.ntmps13
  go_wp2_with fail
  refine hc.out.mono ?_
  rintro e w' ⟨rfl, rfl⟩
  go_wp2
  go_ret2
  exact ⟨rfl, rfl⟩
theorem pin_yes (h : IsP w N g lw ws wts wv) (i : Nat) (iv : Int) (x : Wk) (hv : iv = (i : Int)) (hi : ws[i]? = some x) (hx : x.looks = false) :
    Calls Try.prog 13 #[.pointer (some ⟨g, 0, none⟩), .int .i64 iv] w fun e w' => e = .returned (.tuple #[.int .u64 x.at_, .int .i64 0]) ∧
      IsP w' N g lw (ws.set i { at_ := x.at_, sees := x.at_, looks := true }) wts wv ∧ Upd [lw] w w' := by
  subst hv
  have hil : i < ws.length := (List.getElem?_eq_some_iff.1 hi).1
  have hc := Lib.hid (of_yes g lw ws.length i w h.st.1 hil h.n4 i rfl)
  obtain ⟨c0, c1, c2⟩ := h.wk hi
  rw [hx] at c2
  have f1 := h.st.2.2.2 (i * 3 + 1)
  have f2 := h.st.2.2.2 (i * 3 + 2)
  have h1 := h.setW (j := 2) (x' := { x with looks := true }) (v := .bool true) hi (by omega) (by cases x; rfl)
  have h2 := h1.setW (i := i) (j := 1) (x := { x with looks := true }) (x' := { at_ := x.at_, sees := x.at_, looks := true }) (v := .int .u64 x.at_) (by rw [List.getElem?_set_self hil]) (by omega) rfl
  rw [List.set_set] at h2
  have HF := Lib.hid h2
  clear h1 h2
  go_enter Try.func13, Try.ntmps13
  go_wp2_with fail
  refine hc.out.mono ?_
  rintro e w' ⟨rfl, rfl⟩
  go_wp2
  go_ret2
  exact ⟨rfl, HF.out, ((Upd.refl _ _).setCell (by simp) _).setCell (by simp) _⟩
theorem unpin_arg (h : IsP w N g lw ws wts wv) (i : Int) (hi : i < 0 ∨ (ws.length : Int) ≤ i) :
    Calls Try.prog 15 #[.pointer (some ⟨g, 0, none⟩), .int .i64 i] w fun e w' => e = .returned (.int .i64 1) ∧ w = w' := by
  have hc := Lib.hid (of_no g lw ws.length w h.st.1 i hi)
  go_enter Try.func15, Try.ntmps15
  go_wp2_with fail
  refine hc.out.mono ?_
  rintro e w' ⟨rfl, rfl⟩
  go_wp2
  go_ret
  exact ⟨rfl, rfl⟩
theorem unpin_state (h : IsP w N g lw ws wts wv) (i : Nat) (iv : Int) (x : Wk) (hv : iv = (i : Int)) (hi : ws[i]? = some x) (hx : x.looks = false) :
    Calls Try.prog 15 #[.pointer (some ⟨g, 0, none⟩), .int .i64 iv] w fun e w' => e = .returned (.int .i64 23) ∧ w = w' := by
  subst hv
  have hil : i < ws.length := (List.getElem?_eq_some_iff.1 hi).1
  have hc := Lib.hid (of_yes g lw ws.length i w h.st.1 hil h.n4 i rfl)
  have c2 := (h.wk hi).2.2
  rw [hx] at c2
  go_enter Try.func15, Try.ntmps15
  go_wp2_with fail
  refine hc.out.mono ?_
  rintro e w' ⟨rfl, rfl⟩
  go_wp2
  go_ret
  exact ⟨rfl, rfl⟩
theorem unpin_yes (h : IsP w N g lw ws wts wv) (i : Nat) (iv : Int) (x : Wk) (hv : iv = (i : Int)) (hi : ws[i]? = some x) (hx : x.looks = true) :
    Calls Try.prog 15 #[.pointer (some ⟨g, 0, none⟩), .int .i64 iv] w fun e w' => e = .returned (.int .i64 0) ∧ IsP w' N g lw (ws.set i { x with looks := false }) wts wv ∧ Upd [lw] w w' := by
  subst hv
  have hil : i < ws.length := (List.getElem?_eq_some_iff.1 hi).1
  have hc := Lib.hid (of_yes g lw ws.length i w h.st.1 hil h.n4 i rfl)
  have c2 := (h.wk hi).2.2
  rw [hx] at c2
  have f2 := h.st.2.2.2 (i * 3 + 2)
  have HF := Lib.hid (h.setW (j := 2) (x' := { x with looks := false }) (v := .bool false) hi (by omega) (by cases x; rfl))
  go_enter Try.func15, Try.ntmps15
  go_wp2_with fail
  refine hc.out.mono ?_
  rintro e w' ⟨rfl, rfl⟩
  go_wp2
  go_ret
  exact ⟨rfl, HF.out, (Upd.refl _ _).setCell (by simp) _⟩
theorem waiting_any (h : IsP w N g lw ws wts wv) :
    Calls Try.prog 22 #[.pointer (some ⟨g, 0, none⟩)] w fun e w' => e = .returned (.int .i64 wts.length) ∧ w = w' := by
  obtain ⟨A, c, hv, _⟩ := own_form h.own
  have c1 := h.st.2.1
  rw [hv] at c1
  go_enter Try.func22, Try.ntmps22
  go_wp2
  go_ret
  exact ⟨rfl, rfl⟩

/-- the oldest epoch, worker by worker -/
def older (o : Int) (x : Wk) : Int := if x.looks then min (min o x.at_) x.sees else min o x.at_
def oldest (ws : List Wk) : Int := ws.foldl older (ws.head?.map (·.at_) |>.getD 0)

theorem oldest_any (h : IsP w N g lw ws wts wv) :
    Calls Try.prog 20 #[.pointer (some ⟨g, 0, none⟩)] w fun e w' => e = .returned (.int .u64 (oldest ws)) ∧ Upd [] w w' := by
  have hne : ∃ x, ws[0]? = some x := ⟨ws[0]'(h.n1), List.getElem?_eq_getElem h.n1⟩
  obtain ⟨x0, hx0⟩ := hne
  have c0 := (h.wk hx0).1
  rw [Nat.zero_mul] at c0
  have s0 := h.st.1
  have HH := Lib.hid h
  obtain ⟨n, hn⟩ : ∃ n, n = ws.length := ⟨_, rfl⟩
  rw [← hn] at s0
  have HN := Lib.hid hn
  have h1 : 1 ≤ n := by rw [hn]; exact h.n1
  have h4 : n ≤ 4 := by rw [hn]; exact h.n4
  have HO : Hid (oldest ws = (ws.take n).foldl older x0.at_) := by
    show _ = _
    rw [hn, List.take_length]
    unfold oldest
    rw [List.head?_eq_getElem?, hx0]; rfl
  clear h hn hx0
  go_enter Try.func20, Try.ntmps20
  go_wp2
  go_loopw [3, 20] (fun o i wr => ∃ k : Nat, k ≤ n ∧ i = .int .i64 k ∧ o = .int .u64 ((ws.take k).foldl older x0.at_) ∧ Upd [] w wr) (fun _ i _ => n - (intOf i).toNat)
  case atStart => exact ⟨0, Nat.zero_le _, rfl, rfl, Upd.refl _ _⟩
  case round =>
    obtain ⟨k, hk, rfl, rfl, hu⟩ := hrel
    by_cases hlt : k < n
    · have hkl : k < ws.length := by rw [← HN.out]; exact hlt
      have hh := HH.out.upd hu (by simp) (by simp) (by simp)
      obtain ⟨x, hx⟩ : ∃ x, ws[k]? = some x := ⟨ws[k], List.getElem?_eq_getElem hkl⟩
      obtain ⟨c1, c2, c3⟩ := hh.wk hx
      have hlw := hh.wks.lt
      have HT : Hid ((ws.take (k + 1)).foldl older x0.at_ = older ((ws.take k).foldl older x0.at_) x) := by
        show _ = _
        rw [List.take_add_one, hx]; simp
      obtain ⟨o, ho⟩ : ∃ o, o = (ws.take k).foldl older x0.at_ := ⟨_, rfl⟩
      rw [← ho] at HT ⊢
      clear hh hx ho
      cases hl : x.looks with
      | true =>
        have HL := Lib.hid hl
        rw [hl] at c3
        clear hl
        go_wp2
        go_roundw
        case rel => exact ⟨k + 1, by omega, by go_num, by rw [HT.out, older, HL.out]; simp only [if_true, Int.min_def]; congr 1; repeat' split <;> omega, hu.alloc _⟩
        case measure => simp [intOf]; omega
      | false =>
        have HL := Lib.hid hl
        rw [hl] at c3
        clear hl
        go_wp2
        go_roundw
        case rel => exact ⟨k + 1, by omega, by go_num, by rw [HT.out, older, HL.out]; simp only [Bool.false_eq_true, if_false, Int.min_def]; congr 1; repeat' split <;> omega, hu.alloc _⟩
        case measure => simp [intOf]; omega
    · obtain rfl : k = n := by omega
      go_wp2
      go_ret
      exact ⟨ret_int HO.out.symm, hu⟩
end
end Go.Proofs.Ytembadjfialenaa
