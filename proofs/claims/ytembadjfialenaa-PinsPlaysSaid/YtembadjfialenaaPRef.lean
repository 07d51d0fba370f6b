/- The document's pins: what its functions tell. Conditions: between 1 and 4 workers, at most 64 things wait. -/
import Derived.Test.YtembadjfialenaaPPlain
import Derived.Test.YtembadjfialenaaCells
namespace Go.Proofs.Ytembadjfialenaa
open Go Go.RowKit
set_option maxHeartbeats 400000

theorem infoRW : (Try.prog.info? 65).map (fun i => (i.zero, i.size, i.bytes)) = some (some (.agg #[.int .u64 0, .int .u64 0, .bool false]), 3, 24) := by kernel_rfl
theorem infoRT : (Try.prog.info? 73).map (fun i => (i.zero, i.size, i.bytes)) = some (some (.agg #[.int .i64 0, .int .u32 0, .int .u64 0]), 3, 24) := by kernel_rfl
theorem infoRR : (Try.prog.info? 33).map (fun i => (i.zero, i.size, i.bytes)) = some (some (.agg #[.int .i64 0, .int .u32 0]), 2, 16) := by kernel_rfl

/-- the document's pins: two slices, the workers and what waits -/
structure RP (w : World) (lo : Nat) (A : Option Addr) (n c : Nat) (B : Option Addr) (k d : Nat) (ws : List Wk) (wts : List Wt) : Prop where
  l : CellsIn w lo w.heap.size 3 A n (ws.flatMap encW)
  t : CellsIn w lo w.heap.size 3 B k (wts.flatMap encT)
  lA : A = none → n = 0 ∧ c = 0
  tB : B = none → k = 0 ∧ d = 0
  n1 : 1 ≤ n
  n4 : n ≤ 4
  few : k ≤ 64
  low : lo ≤ w.heap.size

section
variable {w w' : World} {lo n c k d : Nat} {A B : Option Addr} {ws : List Wk} {wts : List Wt}
theorem RP.upd {S : List Nat} (h : RP w lo A n c B k d ws wts) (u : Upd S w w') (hS : ∀ s, s ∈ S → s < lo) : RP w' lo A n c B k d ws wts :=
  { h with l := (h.l.upd u (Nat.le_refl _) (fun s hs => .inl (hS s hs))).more (Nat.le_refl _) u.size, t := (h.t.upd u (Nat.le_refl _) (fun s hs => .inl (hS s hs))).more (Nat.le_refl _) u.size, low := Nat.le_trans h.low u.size }
theorem RP.len (h : RP w lo A n c B k d ws wts) : ws.length = n ∧ wts.length = k := by
  have h1 := h.l.1
  have h2 := h.t.1
  rw [flat_length encW_len] at h1
  rw [flat_length encT_len] at h2
  exact ⟨by omega, by omega⟩
theorem RP.of {A' : Option Addr} {c' L : Nat} {ws' : List Wk} (h : RP w lo A n c B k d ws wts) (hb : Below w.heap.size w w') (hA : A' ≠ none) (hl : CellsIn w' L w'.heap.size 3 A' n (ws'.flatMap encW)) (hL : w.heap.size ≤ L) : RP w' lo A' n c' B k d ws' wts :=
  ⟨hl.more (Nat.le_trans h.low hL) (Nat.le_refl _), (h.t.below hb (Nat.le_refl _)).more (Nat.le_refl _) hb.size, fun e => absurd e hA, h.tB, h.n1, h.n4, h.few, Nat.le_trans h.low hb.size⟩
theorem RP.wk (h : RP w lo A n c B k d ws wts) : ∃ b off, A = some ⟨b, off, none⟩ ∧ lo ≤ b ∧ b < w.heap.size ∧ ∀ (i : Nat) (x : Wk), ws[i]? = some x →
    w.cell? ⟨b, off + i * 3, none⟩ = some (.int .u64 x.at_) ∧ w.cell? ⟨b, off + i * 3 + 1, none⟩ = some (.int .u64 x.sees) ∧ w.cell? ⟨b, off + i * 3 + 2, none⟩ = some (.bool x.looks) := by
  obtain ⟨b, off, e, h1, h2, hc⟩ := h.l.2 (by have := h.n1; omega)
  refine ⟨b, off, e, h1, h2, fun i x hx => ⟨?_, ?_, ?_⟩⟩
  · have := hc (i * 3) _ (by have := flat_get encW_len ws i 0 x hx (by omega); simpa [encW] using this); simpa using this
  · have := hc (i * 3 + 1) _ (by have := flat_get encW_len ws i 1 x hx (by omega); simpa [encW] using this); simpa [Nat.add_assoc] using this
  · have := hc (i * 3 + 2) _ (by have := flat_get encW_len ws i 2 x hx (by omega); simpa [encW] using this); simpa [Nat.add_assoc] using this
end

set_option maxHeartbeats 1000000 in
theorem with_any {w : World} {lo n c k d : Nat} {A B : Option Addr} {ws : List Wk} {wts : List Wt} (h : RP w lo A n c B k d ws wts) (i : Nat) (hi : i < n) (y0 y1 : Int) (y2 : Bool) :
    Calls Try.prog 23 #[.agg #[.slice A n c, .slice B k d], .int .i64 i, .agg #[.int .u64 y0, .int .u64 y1, .bool y2]] w fun e w' => ∃ A' c', e = .returned (.agg #[.slice A' n c', .slice B k d]) ∧
      A' ≠ none ∧ CellsIn w' w.heap.size w'.heap.size 3 A' n ((ws.set i ⟨y0, y1, y2⟩).flatMap encW) ∧ Below w.heap.size w w' := by
  obtain ⟨i0, hi0, hz0, hz1, hz2⟩ := info_parts infoRW
  have h1c : ∀ u ∈ ws.flatMap encW, u.oneCell' = true := by
    intro u hu
    obtain ⟨x, _, hx⟩ := List.mem_flatMap.1 hu
    simp [encW] at hx
    rcases hx with rfl | rfl | rfl <;> rfl
  have H := Lib.hid h
  have H1 := Lib.hid h1c
  have hn1 := h.n1
  have hn4 := h.n4
  obtain ⟨ys, hys⟩ : ∃ ys, ys = ws.flatMap encW := ⟨_, rfl⟩
  have HYS := Lib.hid hys
  have hlA := Lib.hid h.lA
  have hl1 : ys.length = n * 3 := by rw [hys]; exact h.l.1
  have HC : Hid (CellsIn w lo w.heap.size 3 A n ys) := by rw [hys]; exact Lib.hid h.l
  have H1y : Hid (∀ u ∈ ys, u.oneCell' = true) := by rw [hys]; exact H1
  have hi0' : (0 : Int) ≤ (i : Int) := by omega
  have hi1' : (i : Int) < (n : Int) := by omega
  have HLl := Lib.hid hl1
  clear h h1c hys H1 hl1
  go_enter Try.func23, Try.ntmps23
  go_wp2_with (at_builtin; refine wpList_append_src _ rfl (.tmp 8) (.tmp 10) 26 rfl (w.heap.size + 1 + 1 + 1) 65 i0 _ 3 24 Try.underlying26 hi0 hz0 hz1 hz2 rfl (by decide) (.slice none 0 0) 0 [] rfl (World.ownsRow_nil _ _ _ _) A n c ys rfl hlA.out HLl.out ?s1 H1y.out ?s3 ?s4 ?s5 ?_)
  case s1 => exact (HC.out.below ((((Below.refl _ _).alloc (Nat.le_refl _) _).alloc (by simp) _).alloc (by simp; omega) _) (Nat.le_refl _)).src
  case s3 => unfold maxLen; omega
  case s4 => omega
  case s5 => simp
  · intro v1 w1 hown1 hg1 hat1
    have hbW := grown_upd (World.ownsRow_nil _ _ 65 3) hg1 (N := w.heap.size + 1 + 1 + 1) (by simp)
    have B0 : Blk w1 w.heap.size 29 #[.slice A n c, .slice B k d] := (((Blk.new w _ _).alloc _).alloc _).below hbW (by omega)
    have B1 : Blk w1 (w.heap.size + 1) 65 #[.int .u64 y0, .int .u64 y1, .bool y2] := by
      have := ((Blk.new (w.alloc (.cells #[.slice A n c, .slice B k d] 29)) 65 #[.int .u64 y0, .int .u64 y1, .bool y2]).alloc (.cells #[.slice none 0 0, .slice none 0 0] 29))
      rw [World.size_alloc] at this
      exact this.below hbW (by omega)
    have B2 : Blk w1 (w.heap.size + 1 + 1) 29 #[.slice none 0 0, .slice none 0 0] := by
      have := (Blk.new ((w.alloc (.cells #[.slice A n c, .slice B k d] 29)).alloc (.cells #[.int .u64 y0, .int .u64 y1, .bool y2] 65)) 29 #[.slice none 0 0, .slice none 0 0])
      simp only [World.size_alloc] at this
      exact this.below hbW (by omega)
    have hs1 : w.heap.size + 1 + 1 + 1 ≤ w1.heap.size := by have := hbW.size; simpa using this
    have hb1 : Below w.heap.size w w1 := ((((Below.refl _ _).alloc (Nat.le_refl _) _).alloc (by simp) _).alloc (by simp; omega) _).trans (hbW.mono (by omega))
    obtain ⟨A', c', hv1, hcap, hA, hAn⟩ := own_form hown1
    obtain ⟨g, hg, hgN, hgl⟩ := hA (by omega)
    subst hg
    subst hv1
    have hcm := own_cap hown1
    have hyl := HLl.out
    have r0 := hown1.cellAt (i * 3) (by omega)
    have r1 := hown1.cellAt (i * 3 + 1) (by omega)
    have r2 := hown1.cellAt (i * 3 + 2) (by omega)
    have F := fun j => hown1.frozenAt j
    have f0 := F (i * 3)
    have f1 := F (i * 3 + 1)
    have f2 := F (i * 3 + 2)
    obtain ⟨z0, hz0'⟩ : ∃ z, ys[i * 3]? = some z := ⟨_, List.getElem?_eq_getElem (by omega)⟩
    obtain ⟨z1, hz1'⟩ : ∃ z, ys[i * 3 + 1]? = some z := ⟨_, List.getElem?_eq_getElem (by omega)⟩
    obtain ⟨z2, hz2'⟩ : ∃ z, ys[i * 3 + 2]? = some z := ⟨_, List.getElem?_eq_getElem (by omega)⟩
    rw [hz0'] at r0
    rw [hz1'] at r1
    rw [hz2'] at r2
    have c00 := B0.cell 0
    have c01 := B0.cell 1
    have g00 := B0.frozen 0
    have c10 := B1.cell 0
    have c11 := B1.cell 1
    have c12 : w1.cell? ⟨w.heap.size + 1, 2, none⟩ = some (.bool y2) := B1.cell 2
    have c20 := B2.cell 0
    have c21 := B2.cell 1
    have g20 := B2.frozen 0
    have g21 := B2.frozen 1
    simp only [List.getElem?_toArray, List.getElem?_cons_zero, List.getElem?_cons_succ] at c00 c01 c10 c11 c20 c21
    have n0 : g ≠ w.heap.size := by omega
    have n1 : g ≠ w.heap.size + 1 := by omega
    have n2 : g ≠ w.heap.size + 1 + 1 := by omega
    have HO := Lib.hid hown1
    have HB := Lib.hid hb1
    have hgl0 : w.heap.size < w1.heap.size := by omega
    have hgl1 : w.heap.size + 1 < w1.heap.size := by omega
    have hgl2 : w.heap.size + 1 + 1 < w1.heap.size := by omega
    clear hown1 hg1 hat1 hbW hb1 F hz0' hz1' hz2' hAn hA hyl
    go_wp2
    obtain ⟨x, hx⟩ : ∃ x, ws[i]? = some x := ⟨_, List.getElem?_eq_getElem (by have := H.out.len.1; omega)⟩
    have s1 := (HO.out.stored (i * 3) (.int .u64 y0)).1
    have s2 := (s1.stored (i * 3 + 1) (.int .u64 y1)).1
    have s3 := (s2.stored (i * 3 + 2) (.bool y2)).1
    have hil : i < ws.length := by have := H.out.len.1; omega
    have e3 : ((ys.set (i * 3) (.int .u64 y0)).set (i * 3 + 1) (.int .u64 y1)).set (i * 3 + 2) (.bool y2) = (ws.set i ⟨y0, y1, y2⟩).flatMap encW := by
      rw [HYS.out]
      have e0 := flat_set encW_len ws i 0 x { x with at_ := y0 } (.int .u64 y0) hx (by omega) rfl
      rw [Nat.add_zero] at e0
      rw [e0]
      have e1 := flat_set encW_len (ws.set i { x with at_ := y0 }) i 1 { x with at_ := y0 } { x with at_ := y0, sees := y1 } (.int .u64 y1) (List.getElem?_set_self hil) (by omega) rfl
      rw [e1, List.set_set]
      have e2 := flat_set encW_len (ws.set i { x with at_ := y0, sees := y1 }) i 2 { x with at_ := y0, sees := y1 } ⟨y0, y1, y2⟩ (.bool y2) (List.getElem?_set_self hil) (by omega) rfl
      rw [e2, List.set_set]
    rw [e3] at s3
    have hu : Upd [w.heap.size, w.heap.size + 1 + 1] (((w1.setCell ⟨g, i * 3, none⟩ (.int .u64 y0)).setCell ⟨g, i * 3 + 1, none⟩ (.int .u64 y1)).setCell ⟨g, i * 3 + 2, none⟩ (.bool y2))
        ((((((w1.setCell ⟨g, i * 3, none⟩ (.int .u64 y0)).setCell ⟨g, i * 3 + 1, none⟩ (.int .u64 y1)).setCell ⟨g, i * 3 + 2, none⟩ (.bool y2)).setCell ⟨w.heap.size, 0, none⟩ (.slice (some ⟨g, 0, none⟩) n c')).setCell ⟨w.heap.size + 1 + 1, 0, none⟩ (.slice (some ⟨g, 0, none⟩) n c')).setCell ⟨w.heap.size + 1 + 1, 1, none⟩ (.slice B k d)) :=
      (((Upd.refl _ _).setCell (by simp) _).setCell (by simp) _).setCell (by simp) _
    have hbf : Below w.heap.size w (((((((w1.setCell ⟨g, i * 3, none⟩ (.int .u64 y0)).setCell ⟨g, i * 3 + 1, none⟩ (.int .u64 y1)).setCell ⟨g, i * 3 + 2, none⟩ (.bool y2)).setCell ⟨w.heap.size, 0, none⟩ (.slice (some ⟨g, 0, none⟩) n c')).setCell ⟨w.heap.size + 1 + 1, 0, none⟩ (.slice (some ⟨g, 0, none⟩) n c')).setCell ⟨w.heap.size + 1 + 1, 1, none⟩ (.slice B k d))) :=
      (((HB.out.setCell (p := ⟨g, i * 3, none⟩) (by show _ ≤ g; omega) _).setCell (p := ⟨g, i * 3 + 1, none⟩) (by show _ ≤ g; omega) _).setCell (p := ⟨g, i * 3 + 2, none⟩) (by show _ ≤ g; omega) _).trans (hu.below (by have := HB.out.size; simpa [World.setCell] using this) (by simp; omega))
    refine bodyPost_res (v := .agg #[.slice (some ⟨g, 0, none⟩) n c', .slice B k d]) (by simp [results, Try.results23, go_sem, c00, c01, c20, c21, n0, n1, n2]) rfl ⟨_, c', rfl, (fun h => by cases h), ?_, hbf⟩
    exact ((CellsIn.of_own s3).upd hu (Nat.le_refl _) (fun s hs => .inl (by simp at hs; omega))).more (by omega) hu.size

theorem rinstall_arg {w : World} {lo n c k d : Nat} {A B : Option Addr} {ws : List Wk} {wts : List Wt} (h : RP w lo A n c B k d ws wts) (i ep : Int) (hi : i < 0 ∨ (n : Int) ≤ i) :
    Calls Try.prog 10 #[.agg #[.slice A n c, .slice B k d], .int .i64 i, .int .u64 ep] w fun e w' => e = .returned (.tuple #[.agg #[.slice A n c, .slice B k d], .int .i64 1]) ∧ Below w.heap.size w w' := by
  have HN := Lib.hid h.n1
  clear h
  rcases hi with hi | hi
  · go_enter Try.func10, Try.ntmps10
    go_wp2
    exact bodyPost_res (v := .tuple #[.agg #[.slice A n c, .slice B k d], .int .i64 1]) (by simp [results, Try.results10, go_sem]) rfl ⟨rfl, ((Below.refl _ _).alloc (Nat.le_refl _) _).alloc (by simp) _⟩
  · have h0 : ¬ i < 0 := by have := HN.out; omega
    go_enter Try.func10, Try.ntmps10
    go_wp2
    exact bodyPost_res (v := .tuple #[.agg #[.slice A n c, .slice B k d], .int .i64 1]) (by simp [results, Try.results10, go_sem]) rfl ⟨rfl, ((Below.refl _ _).alloc (Nat.le_refl _) _).alloc (by simp) _⟩
theorem rinstall_state {w : World} {lo n c k d : Nat} {A B : Option Addr} {ws : List Wk} {wts : List Wt} (h : RP w lo A n c B k d ws wts) (i : Nat) (ep : Int) (x : Wk) (hx : ws[i]? = some x) (hl : ep < x.at_) :
    Calls Try.prog 10 #[.agg #[.slice A n c, .slice B k d], .int .i64 i, .int .u64 ep] w fun e w' => e = .returned (.tuple #[.agg #[.slice A n c, .slice B k d], .int .i64 23]) ∧ Below w.heap.size w w' := by
  have hin : i < n := by have := h.len.1; have := (List.getElem?_eq_some_iff.1 hx).1; omega
  obtain ⟨b, off, rfl, hb1, hb2, hc⟩ := h.wk
  obtain ⟨c0, c1, c2⟩ := hc i x hx
  obtain ⟨xa, xs, xl⟩ := x
  dsimp only at c0 c1 c2 hl
  skip
  have h0 : ¬ (i : Int) < 0 := by omega
  have h1 : ¬ (n : Int) ≤ (i : Int) := by omega
  have h2 : (0 : Int) ≤ (i : Int) := by omega
  have h3 : (i : Int) < (n : Int) := by omega
  clear h hc hx
  go_enter Try.func10, Try.ntmps10
  go_wp2
  exact bodyPost_res (v := .tuple #[.agg #[.slice (some ⟨b, off, none⟩) n c, .slice B k d], .int .i64 23]) (by simp [results, Try.results10, go_sem]) rfl ⟨rfl, ((Below.refl _ _).alloc (Nat.le_refl _) _).alloc (by simp) _⟩
theorem rpin_arg {w : World} {lo n c k d : Nat} {A B : Option Addr} {ws : List Wk} {wts : List Wt} (h : RP w lo A n c B k d ws wts) (i : Int) (hi : i < 0 ∨ (n : Int) ≤ i) :
    Calls Try.prog 12 #[.agg #[.slice A n c, .slice B k d], .int .i64 i] w fun e w' => e = .returned (.tuple #[.agg #[.slice A n c, .slice B k d], .int .u64 0, .int .i64 1]) ∧ Below w.heap.size w w' := by
  have HN := Lib.hid h.n1
  clear h
  rcases hi with hi | hi
  · go_enter Try.func12, Try.ntmps12
    go_wp2
    exact bodyPost_res (v := .tuple #[.agg #[.slice A n c, .slice B k d], .int .u64 0, .int .i64 1]) (by simp [results, Try.results12, go_sem]) rfl ⟨rfl, ((Below.refl _ _).alloc (Nat.le_refl _) _).alloc (by simp) _⟩
  · have h0 : ¬ i < 0 := by have := HN.out; omega
    go_enter Try.func12, Try.ntmps12
    go_wp2
    exact bodyPost_res (v := .tuple #[.agg #[.slice A n c, .slice B k d], .int .u64 0, .int .i64 1]) (by simp [results, Try.results12, go_sem]) rfl ⟨rfl, ((Below.refl _ _).alloc (Nat.le_refl _) _).alloc (by simp) _⟩
theorem rpin_state {w : World} {lo n c k d : Nat} {A B : Option Addr} {ws : List Wk} {wts : List Wt} (h : RP w lo A n c B k d ws wts) (i : Nat) (x : Wk) (hx : ws[i]? = some x) (hl : x.looks = true) :
    Calls Try.prog 12 #[.agg #[.slice A n c, .slice B k d], .int .i64 i] w fun e w' => e = .returned (.tuple #[.agg #[.slice A n c, .slice B k d], .int .u64 0, .int .i64 23]) ∧ Below w.heap.size w w' := by
  have hin : i < n := by have := h.len.1; have := (List.getElem?_eq_some_iff.1 hx).1; omega
  obtain ⟨b, off, rfl, hb1, hb2, hc⟩ := h.wk
  obtain ⟨c0, c1, c2⟩ := hc i x hx
  obtain ⟨xa, xs, xl⟩ := x
  dsimp only at c0 c1 c2 hl
  subst hl
  have h0 : ¬ (i : Int) < 0 := by omega
  have h1 : ¬ (n : Int) ≤ (i : Int) := by omega
  have h2 : (0 : Int) ≤ (i : Int) := by omega
  have h3 : (i : Int) < (n : Int) := by omega
  clear h hc hx
  go_enter Try.func12, Try.ntmps12
  go_wp2
  exact bodyPost_res (v := .tuple #[.agg #[.slice (some ⟨b, off, none⟩) n c, .slice B k d], .int .u64 0, .int .i64 23]) (by simp [results, Try.results12, go_sem]) rfl ⟨rfl, (((Below.refl _ _).alloc (Nat.le_refl _) _).alloc (by simp) _).alloc (by simp; omega) _⟩
theorem runpin_arg {w : World} {lo n c k d : Nat} {A B : Option Addr} {ws : List Wk} {wts : List Wt} (h : RP w lo A n c B k d ws wts) (i : Int) (hi : i < 0 ∨ (n : Int) ≤ i) :
    Calls Try.prog 14 #[.agg #[.slice A n c, .slice B k d], .int .i64 i] w fun e w' => e = .returned (.tuple #[.agg #[.slice A n c, .slice B k d], .int .i64 1]) ∧ Below w.heap.size w w' := by
  have HN := Lib.hid h.n1
  clear h
  rcases hi with hi | hi
  · go_enter Try.func14, Try.ntmps14
    go_wp2
    exact bodyPost_res (v := .tuple #[.agg #[.slice A n c, .slice B k d], .int .i64 1]) (by simp [results, Try.results14, go_sem]) rfl ⟨rfl, ((Below.refl _ _).alloc (Nat.le_refl _) _).alloc (by simp) _⟩
  · have h0 : ¬ i < 0 := by have := HN.out; omega
    go_enter Try.func14, Try.ntmps14
    go_wp2
    exact bodyPost_res (v := .tuple #[.agg #[.slice A n c, .slice B k d], .int .i64 1]) (by simp [results, Try.results14, go_sem]) rfl ⟨rfl, ((Below.refl _ _).alloc (Nat.le_refl _) _).alloc (by simp) _⟩
theorem runpin_state {w : World} {lo n c k d : Nat} {A B : Option Addr} {ws : List Wk} {wts : List Wt} (h : RP w lo A n c B k d ws wts) (i : Nat) (x : Wk) (hx : ws[i]? = some x) (hl : x.looks = false) :
    Calls Try.prog 14 #[.agg #[.slice A n c, .slice B k d], .int .i64 i] w fun e w' => e = .returned (.tuple #[.agg #[.slice A n c, .slice B k d], .int .i64 23]) ∧ Below w.heap.size w w' := by
  have hin : i < n := by have := h.len.1; have := (List.getElem?_eq_some_iff.1 hx).1; omega
  obtain ⟨b, off, rfl, hb1, hb2, hc⟩ := h.wk
  obtain ⟨c0, c1, c2⟩ := hc i x hx
  obtain ⟨xa, xs, xl⟩ := x
  dsimp only at c0 c1 c2 hl
  subst hl
  have h0 : ¬ (i : Int) < 0 := by omega
  have h1 : ¬ (n : Int) ≤ (i : Int) := by omega
  have h2 : (0 : Int) ≤ (i : Int) := by omega
  have h3 : (i : Int) < (n : Int) := by omega
  clear h hc hx
  go_enter Try.func14, Try.ntmps14
  go_wp2
  exact bodyPost_res (v := .tuple #[.agg #[.slice (some ⟨b, off, none⟩) n c, .slice B k d], .int .i64 23]) (by simp [results, Try.results14, go_sem]) rfl ⟨rfl, ((Below.refl _ _).alloc (Nat.le_refl _) _).alloc (by simp) _⟩

set_option maxHeartbeats 1000000 in
theorem rinstall_yes {w : World} {lo n c k d : Nat} {A B : Option Addr} {ws : List Wk} {wts : List Wt} (h : RP w lo A n c B k d ws wts) (i : Nat) (ep : Int) (x : Wk) (hx : ws[i]? = some x) (hl : x.at_ ≤ ep) :
    Calls Try.prog 10 #[.agg #[.slice A n c, .slice B k d], .int .i64 i, .int .u64 ep] w fun e w' => ∃ A' c', e = .returned (.tuple #[.agg #[.slice A' n c', .slice B k d], .int .i64 0]) ∧
      RP w' lo A' n c' B k d (ws.set i { x with at_ := ep }) wts ∧ Below w.heap.size w w' ∧ (∀ a, A' = some a → w.heap.size ≤ a.block) := by
  have hin : i < n := by have := h.len.1; have := (List.getElem?_eq_some_iff.1 hx).1; omega
  obtain ⟨b, off, rfl, hb1, hb2, hc⟩ := h.wk
  obtain ⟨c0, c1, c2⟩ := hc i x hx
  obtain ⟨xa, xs, xl⟩ := x
  dsimp only at c0 c1 c2 hl
  have h0 : ¬ (i : Int) < 0 := by omega
  have h1 : ¬ (n : Int) ≤ (i : Int) := by omega
  have h2 : (0 : Int) ≤ (i : Int) := by omega
  have h3 : (i : Int) < (n : Int) := by omega
  have h4 : ¬ ep < xa := by omega
  have H := Lib.hid h
  clear h hc hx
  go_enter Try.func10, Try.ntmps10
  go_wp2_with fail
  have hu : Upd [] w (((w.alloc (.cells #[.slice (some ⟨b, off, none⟩) n c, .slice B k d] 29)).alloc (.cells #[.slice none 0 0, .slice none 0 0] 29)).alloc (.cells #[.int .u64 ep, .int .u64 xs, .bool xl] 65)) := (((Upd.refl _ _).alloc _).alloc _).alloc _
  refine (with_any (H.out.upd hu (by simp)) i hin ep xs xl).mono ?_
  rintro e w1 ⟨A', c', rfl, hA', hr, hb⟩
  have hbw := (hu.below (Nat.le_refl _) (by simp)).trans (hb.mono hu.size)
  have B2 : Blk w1 (w.heap.size + 1) 29 #[.slice none 0 0, .slice none 0 0] := by
    have := (Blk.new (w.alloc (.cells #[.slice (some ⟨b, off, none⟩) n c, .slice B k d] 29)) 29 #[.slice none 0 0, .slice none 0 0]).alloc (.cells #[.int .u64 ep, .int .u64 xs, .bool xl] 65)
    rw [World.size_alloc] at this
    exact this.below hb (by simp)
  have c20 := B2.cell 0
  have c21 := B2.cell 1
  have g20 := B2.frozen 0
  have g21 := B2.frozen 1
  have hgl2 := B2.lt
  simp only [List.getElem?_toArray, List.getElem?_cons_zero, List.getElem?_cons_succ] at c20 c21
  have HR := Lib.hid hr
  have HB := Lib.hid hbw
  have HA := Lib.hid hA'
  clear hr hbw hb hu hA'
  go_wp2
  refine bodyPost_res (v := .tuple #[.agg #[.slice A' n c', .slice B k d], .int .i64 0]) (by simp [results, Try.results10, go_sem, c20, c21]) rfl ⟨_, _, rfl, ?_, ?_, fun a ha => Nat.le_trans (by simp; omega) (HR.out.fresh (by have := H.out.n1; omega) a ha)⟩
  · exact H.out.of (HB.out.trans ((((Upd.refl [w.heap.size + 1] w1).setCell (by simp) _).setCell (by simp) _).below HB.out.size (by simp))) HA.out ((HR.out.upd (((Upd.refl [w.heap.size + 1] w1).setCell (by simp) _).setCell (by simp) _) (Nat.le_refl _) (fun s hs => .inl (by simp at hs; simp; omega))).more (Nat.le_refl _) (by simp [World.setCell])) (by simp; omega)
  · exact HB.out.trans ((((Upd.refl [w.heap.size + 1] w1).setCell (by simp) _).setCell (by simp) _).below HB.out.size (by simp))

end Go.Proofs.Ytembadjfialenaa
