/- The document's queue: what its Push and Pop tell. Conditions: the row is that of a slice in memory, of at most 4096 numbers. -/
import Derived.Test.YtbgfoeaddnhnnaaQOrder
namespace Go.Proofs.Ytbgfoeaddnhnnaa
open Go Go.RowKit

/-- A slice whose cells lie in blocks from lo to hi. -/
def CellsIn (w : World) (lo hi size : Nat) (A : Option Addr) (n : Nat) (xs : List Value) : Prop :=
  xs.length = n * size ∧ (0 < n → ∃ b off, A = some ⟨b, off, none⟩ ∧ lo ≤ b ∧ b < hi ∧ ∀ (j : Nat) (u : Value), xs[j]? = some u → w.cell? ⟨b, off + j, none⟩ = some u)
section
variable {w w' : World} {lo hi size n : Nat} {A : Option Addr} {xs : List Value}
theorem CellsIn.upd {S : List Nat} (h : CellsIn w lo hi size A n xs) (u : Upd S w w') (hh : hi ≤ w.heap.size) (hS : ∀ s, s ∈ S → s < lo ∨ hi ≤ s) : CellsIn w' lo hi size A n xs :=
  ⟨h.1, fun hn => by
    obtain ⟨b, off, e, h1, h2, hc⟩ := h.2 hn
    exact ⟨b, off, e, h1, h2, fun j v hv => (u.cell (p := ⟨b, off + j, none⟩) (Nat.lt_of_lt_of_le h2 hh) (fun hb => by have := hS b hb; omega)).trans (hc j v hv)⟩⟩
theorem CellsIn.below {B : Nat} (h : CellsIn w lo hi size A n xs) (u : Below B w w') (hh : hi ≤ B) : CellsIn w' lo hi size A n xs :=
  ⟨h.1, fun hn => by
    obtain ⟨b, off, e, h1, h2, hc⟩ := h.2 hn
    exact ⟨b, off, e, h1, h2, fun j v hv => (u.cell (p := ⟨b, off + j, none⟩) (Nat.lt_of_lt_of_le h2 hh)).trans (hc j v hv)⟩⟩
theorem CellsIn.more {lo' hi' : Nat} (h : CellsIn w lo hi size A n xs) (h1 : lo' ≤ lo) (h2 : hi ≤ hi') : CellsIn w lo' hi' size A n xs :=
  ⟨h.1, fun hn => by
    obtain ⟨b, off, e, h3, h4, hc⟩ := h.2 hn
    exact ⟨b, off, e, by omega, by omega, hc⟩⟩
theorem CellsIn.nil (w : World) (lo hi size : Nat) (A : Option Addr) : CellsIn w lo hi size A 0 [] := ⟨by simp, fun h => absurd h (Nat.lt_irrefl 0)⟩
theorem CellsIn.of_own {e : TypeId} {c : Nat} (h : w.ownsRow lo e size (.slice A n c) n xs) : CellsIn w lo w.heap.size size A n xs := by
  refine ⟨h.1, fun hn => ?_⟩
  obtain ⟨A', c', hv, _, hA, _⟩ := own_form h
  injection hv with h1 h2 h3
  subst h1
  obtain ⟨g, hg, hlo, hlt⟩ := hA hn
  subst hg
  refine ⟨g, 0, rfl, hlo, hlt, fun j u hu => ?_⟩
  have := h.cells (g := g) rfl j u hu
  rw [Nat.zero_add]
  by_cases hj : j = 0
  · subst hj; simpa [Addr.add] using this
  · simpa [Addr.add, hj] using this
/-- what an append wants of its source -/
theorem CellsIn.src (h : CellsIn w lo hi size A n xs) : ∀ ad, A = some ad → ∀ (j : Nat) (u : Value), xs[j]? = some u → w.cell? (ad.add j) = some u := by
  intro ad had j u hu
  have hj := (List.getElem?_eq_some_iff.1 hu).1
  have hn : 0 < n := by
    rcases Nat.eq_zero_or_pos n with h0 | h0
    · have := h.1; rw [h0, Nat.zero_mul] at this; omega
    · exact h0
  obtain ⟨b, off, e, _, _, hc⟩ := h.2 hn
  rw [had] at e
  injection e with e
  subst e
  have := hc j u hu
  unfold Addr.add
  by_cases hj0 : j = 0
  · subst hj0; simpa using this
  · simpa [hj0] using this
end

theorem own_cap {w : World} {B : Nat} {e : TypeId} {size n c : Nat} {A : Option Addr} {xs : List Value} (h : w.ownsRow B e size (.slice A n c) n xs) : c ≤ 9223372036854775807 := by
  rcases h.2 with ⟨hv, _⟩ | ⟨g, cap, cur, hv, _, _, _, hm, _⟩
  · injection hv with _ _ h3; omega
  · injection hv with _ _ h3; rw [h3]; exact hm

set_option maxHeartbeats 400000
theorem bodyPost_res {P : Program} {fn : Func} {R : Ending → World → Prop} {a : Act} {w : World} {v : Value} (h : (results fn a.tmps).run P w = .ok v w) (hd : a.defers = []) (hR : R (.returned v) w) : bodyPost P fn R .ret a w :=
  bodyPost_ret h hd hR

theorem rpush_no (A : Option Addr) (n c : Nat) (room x : Int) (w : World) (h : room ≤ n) :
    Calls Try.prog 14 #[.agg #[.slice A n c, .int .i64 room], .int .i64 x] w fun e w' => e = .returned (.tuple #[.agg #[.slice A n c, .int .i64 room], .bool false]) ∧ Below w.heap.size w w' := by
  go_enter Try.func14, Try.ntmps14
  go_wp2
  exact bodyPost_res (v := .tuple #[.agg #[.slice A n c, .int .i64 room], .bool false]) (by simp [results, Try.results14, go_sem]) rfl
    ⟨rfl, (((Below.refl _ _).alloc (Nat.le_refl _) _).alloc (by simp) _)⟩

theorem rpush_yes (A : Option Addr) (n c lo : Nat) (room x : Int) (l : List Int) (w : World) (h : (n : Int) < room) (hr : room ≤ 4096) (hA : A = none → n = 0 ∧ c = 0) (hc : CellsIn w lo w.heap.size 1 A n (l.map (Value.int .i64))) :
    Calls Try.prog 14 #[.agg #[.slice A n c, .int .i64 room], .int .i64 x] w fun e w' => ∃ A' c', e = .returned (.tuple #[.agg #[.slice A' (n + 1) c', .int .i64 room], .bool true]) ∧
      (A' = none → n + 1 = 0 ∧ c' = 0) ∧ n + 1 ≤ c' ∧ c' ≤ 9223372036854775807 ∧ CellsIn w' w.heap.size w'.heap.size 1 A' (n + 1) ((l ++ [x]).map (Value.int .i64)) ∧ Below w.heap.size w w' := by
  obtain ⟨i0, hi0, hz0, hz1, hz2⟩ := info_parts QI.info
  have h' : ¬ room ≤ (n : Int) := by omega
  have h1c : ∀ u ∈ l.map (Value.int .i64), u.oneCell' = true := by intro u hu; obtain ⟨y, _, rfl⟩ := List.mem_map.1 hu; rfl
  rw [List.map_append]
  generalize l.map (Value.int .i64) = ys at hc h1c ⊢
  have HC := Lib.hid hc
  have H1 := Lib.hid h1c
  have hlen := hc.1
  clear hc h1c
  have H1a : w.heap.size ≤ w.heap.size + 1 + 1 := by omega
  go_enter Try.func14, Try.ntmps14
  go_wp2_with (at_builtin; refine wpList_append_src _ rfl (.tmp 14) (.tmp 16) 33 rfl (w.heap.size + 1 + 1) 3 i0 _ 1 8 Try.underlying33 hi0 hz0 hz1 hz2 rfl (by decide) (.slice none 0 0) 0 [] rfl (World.ownsRow_nil _ _ _ _) A n c ys rfl hA hlen ?s1 H1.out ?s3 ?s4 ?s5 ?_)
  case s1 => exact (HC.out.below (((Below.refl _ _).alloc (Nat.le_refl _) _).alloc (by simp) _) (Nat.le_refl _)).src
  case s3 => unfold maxLen; omega
  case s4 => omega
  · intro v1 w1 hown1 hg1 hat1
    have hbW := grown_upd (World.ownsRow_nil _ _ 3 1) hg1 (N := w.heap.size + 1 + 1) (by simp)
    have B0 : Blk w1 w.heap.size 35 #[.slice A n c, .int .i64 room] := ((Blk.new w _ _).alloc _).below hbW (by omega)
    have B1 : Blk w1 (w.heap.size + 1) 35 #[.slice none 0 0, .int .i64 0] := by
      have := (Blk.new (w.alloc (.cells #[.slice A n c, .int .i64 room] 35)) 35 #[.slice none 0 0, .int .i64 0])
      rw [World.size_alloc] at this
      exact this.below hbW (by omega)
    have hs1 : w.heap.size + 1 + 1 ≤ w1.heap.size := by have := hbW.size; simpa using this
    have hb1 : Below w.heap.size w w1 := (((Below.refl _ _).alloc (Nat.le_refl _) _).alloc (by simp) _).trans (hbW.mono (by omega))
    have HO := Lib.hid hown1
    have c00 := B0.cell 0
    have c01 := B0.cell 1
    have f00 := B0.frozen 0
    have f01 := B0.frozen 1
    have hlt0 := B0.lt
    clear hg1 hat1 hown1 hbW
    simp only [List.getElem?_toArray, List.getElem?_cons_zero, List.getElem?_cons_succ] at c00 c01
    go_wp2_with (at_builtin; refine wpList_append_own_at _ rfl (.tmp 18) (.tmp 20) 33 rfl (w.heap.size + 1 + 1) 3 i0 _ 1 8 Try.underlying33 hi0 hz0 hz1 hz2 rfl (by decide) _ n ys rfl (HO.out.alloc _) ⟨w1.heap.size, 0, none⟩ 1 1 [.int .i64 x] rfl rfl ?u1 ?u2 ?u3 ?u4 ?u5 ?_)
    case u1 =>
      intro j u hj
      match j, hj with
      | 0, hj => simp at hj; subst hj; exact (Blk.new w1 3 #[.int .i64 x]).cell 0
    case u2 => intro u hu; simp at hu; subst hu; rfl
    case u3 => unfold maxLen; omega
    case u4 => omega
    case u5 => simp; omega
    · intro v2 w2 hown2 hg2 _ hat2
      have hbW := grown_upd (HO.out.alloc _) hg2 (N := w.heap.size + 1 + 1) (by simp; omega)
      have D0 := (B0.alloc (.cells #[.int .i64 x] 3)).below hbW (by omega)
      have D1 := (B1.alloc (.cells #[.int .i64 x] 3)).below hbW (by omega)
      have hb2 : Below w.heap.size w w2 := (hb1.alloc hb1.size _).trans (hbW.mono (by omega))
      obtain ⟨A', c', hvf, hcap', hA', hAn⟩ := own_form hown2
      have hcells := CellsIn.of_own (hvf ▸ hown2)
      have hcm' := own_cap (hvf ▸ hown2)
      rw [hvf]
      have HCC := Lib.hid hcells
      have HAn := Lib.hid hAn
      have d00 := D0.cell 0
      have d01 := D0.cell 1
      have g00 := D0.frozen 0
      have e10 := D1.cell 0
      have e11 := D1.cell 1
      have g10 := D1.frozen 0
      have g11 := D1.frozen 1
      simp only [List.getElem?_toArray, List.getElem?_cons_zero, List.getElem?_cons_succ] at d00 d01 e10 e11
      clear hvf hA' hAn hcells hown2 hg2 hat2 hbW c00 c01 f00 f01
      go_wp2
      refine bodyPost_res (v := .tuple #[.agg #[.slice A' (n + 1) c', .int .i64 room], .bool true]) (by simp [results, Try.results14, go_sem, d00, d01, e10, e11]) rfl ⟨A', c', rfl, HAn.out, hcap', hcm', ?_, ?_⟩
      · have hu : Upd [w.heap.size, w.heap.size + 1] w2 (((w2.setCell ⟨w.heap.size, 0, none⟩ (.slice A' (n + 1) c')).setCell ⟨w.heap.size + 1, 0, none⟩ (.slice A' (n + 1) c')).setCell ⟨w.heap.size + 1, 1, none⟩ (.int .i64 room)) :=
          (((Upd.refl _ _).setCell (by simp) _).setCell (by simp) _).setCell (by simp) _
        exact (HCC.out.upd hu (Nat.le_refl _) (fun s hs => .inl (by simp at hs; omega))).more (by omega) hu.size
      · exact ((hb2.setCell (by exact Nat.le_refl _) _).setCell (by exact Nat.le_succ _) _).setCell (by exact Nat.le_succ _) _

theorem rpop_no (A : Option Addr) (c : Nat) (room : Int) (w : World) :
    Calls Try.prog 15 #[.agg #[.slice A 0 c, .int .i64 room]] w fun e w' => e = .returned (.tuple #[.agg #[.slice A 0 c, .int .i64 room], .int .i64 0, .bool false]) ∧ Below w.heap.size w w' := by
  go_enter Try.func15, Try.ntmps15
  go_wp2
  exact bodyPost_res (v := .tuple #[.agg #[.slice A 0 c, .int .i64 room], .int .i64 0, .bool false]) (by simp [results, Try.results15, go_sem]) rfl
    ⟨rfl, (((Below.refl _ _).alloc (Nat.le_refl _) _).alloc (by simp) _)⟩

theorem rpop_yes (A : Option Addr) (n c lo : Nat) (room x : Int) (l : List Int) (w : World) (hn : n + 1 ≤ 4096) (hcc : n + 1 ≤ c) (hcm : c ≤ 9223372036854775807) (hc : CellsIn w lo w.heap.size 1 A (n + 1) ((x :: l).map (Value.int .i64))) :
    Calls Try.prog 15 #[.agg #[.slice A (n + 1) c, .int .i64 room]] w fun e w' => ∃ A' c', e = .returned (.tuple #[.agg #[.slice A' n c', .int .i64 room], .int .i64 x, .bool true]) ∧
      (A' ≠ none) ∧ n ≤ c' ∧ c' ≤ 9223372036854775807 ∧ CellsIn w' lo w.heap.size 1 A' n (l.map (Value.int .i64)) ∧ Below w.heap.size w w' := by
  obtain ⟨b, off, rfl, h1, h2, hcell⟩ := hc.2 (by omega)
  have hx := hcell 0 (.int .i64 x) rfl
  rw [Nat.add_zero] at hx
  have hne : (((n + 1 : Nat) : Int) == 0) = false := by simp; omega
  have hlen : (l.map (Value.int .i64)).length = n * 1 := by have := hc.1; simp at this ⊢; omega
  have htail : 0 < n → ∃ b' off', (some (⟨b, off + 1, none⟩ : Addr)) = some ⟨b', off', none⟩ ∧ lo ≤ b' ∧ b' < w.heap.size ∧ ∀ (j : Nat) (u : Value), (l.map (Value.int .i64))[j]? = some u → w.cell? ⟨b', off' + j, none⟩ = some u :=
    fun _ => ⟨b, off + 1, rfl, h1, h2, fun j u hu => by
      have := hcell (j + 1) u (by simpa using hu)
      rwa [show off + (j + 1) = off + 1 + j by omega] at this⟩
  have HC := Lib.hid hc
  have HT : Hid (CellsIn w lo w.heap.size 1 (some ⟨b, off + 1, none⟩) n (l.map (Value.int .i64))) := ⟨hlen, htail⟩
  have HL := Lib.hid hlen
  clear hcell htail hc hlen
  by_cases hc1 : c = 1
  · obtain rfl : n = 0 := by omega
    subst hc1
    go_enter Try.func15, Try.ntmps15
    go_wp2
    exact bodyPost_res (v := .tuple #[.agg #[.slice (some ⟨b, off, none⟩) 0 0, .int .i64 room], .int .i64 x, .bool true]) (by simp [results, Try.results15, go_sem]) rfl
      ⟨some ⟨b, off, none⟩, 0, rfl, (fun h => by cases h), Nat.le_refl _, by omega, ⟨HL.out, fun h => absurd h (Nat.lt_irrefl 0)⟩, (((Below.refl _ _).alloc (Nat.le_refl _) _).alloc (by simp) _)⟩
  · have hc2 : 1 < c := by omega
    go_enter Try.func15, Try.ntmps15
    go_wp2
    refine bodyPost_res (v := .tuple #[.agg #[.slice (some ⟨b, off + 1, none⟩) n (c - 1), .int .i64 room], .int .i64 x, .bool true]) (by simp [results, Try.results15, go_sem]) rfl
      ⟨some ⟨b, off + 1, none⟩, c - 1, rfl, (fun h => by cases h), by omega, by omega, HT.out.below (((Below.refl _ _).alloc (Nat.le_refl _) _).alloc (by simp) _) (Nat.le_refl _), (((Below.refl _ _).alloc (Nat.le_refl _) _).alloc (by simp) _)⟩
end Go.Proofs.Ytbgfoeaddnhnnaa
