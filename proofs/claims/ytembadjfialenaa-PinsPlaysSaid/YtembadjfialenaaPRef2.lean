/- The document's pins: Pin, Unpin. Conditions: as before. -/
import Derived.Test.YtembadjfialenaaPRef
import Derived.Deep.RegionHeld3
import Derived.Deep.DrawnRows
namespace Go.Proofs.Ytembadjfialenaa
open Go Go.RowKit
set_option maxHeartbeats 400000

/-- three blocks, one behind the other -/
theorem three_new (w : World) (a b c : Array Value) (s t u : TypeId) (q : Nat) :
    Blk ((((w.alloc (.cells a s)).alloc (.cells b t)).alloc (.cells c u)).drewN q) w.heap.size s a ∧ Blk ((((w.alloc (.cells a s)).alloc (.cells b t)).alloc (.cells c u)).drewN q) (w.heap.size + 1) t b ∧
      Blk ((((w.alloc (.cells a s)).alloc (.cells b t)).alloc (.cells c u)).drewN q) (w.heap.size + 1 + 1) u c ∧ ((((w.alloc (.cells a s)).alloc (.cells b t)).alloc (.cells c u)).drewN q).heap.size = w.heap.size + 1 + 1 + 1 := by
  refine ⟨(((Blk.new w s a).alloc _).alloc _).drewN q, ?_, ?_, ?_⟩
  · have := ((Blk.new (w.alloc (.cells a s)) t b).alloc (.cells c u)).drewN q
    rwa [World.size_alloc] at this
  · have := (Blk.new ((w.alloc (.cells a s)).alloc (.cells b t)) u c).drewN q
    simpa only [World.size_alloc] using this
  · show (((w.alloc (.cells a s)).alloc (.cells b t)).alloc (.cells c u)).heap.size = _
    simp
theorem two_new (w : World) (a b : Array Value) (s t : TypeId) (q : Nat) :
    Blk (((w.alloc (.cells a s)).alloc (.cells b t)).drewN q) w.heap.size s a ∧ Blk (((w.alloc (.cells a s)).alloc (.cells b t)).drewN q) (w.heap.size + 1) t b ∧ (((w.alloc (.cells a s)).alloc (.cells b t)).drewN q).heap.size = w.heap.size + 1 + 1 := by
  refine ⟨((Blk.new w s a).alloc _).drewN q, ?_, ?_⟩
  · have := (Blk.new (w.alloc (.cells a s)) t b).drewN q
    rwa [World.size_alloc] at this
  · show ((w.alloc (.cells a s)).alloc (.cells b t)).heap.size = _
    simp

set_option maxHeartbeats 1000000 in
theorem rpin_yes {w : World} {lo n c k d : Nat} {A B : Option Addr} {ws : List Wk} {wts : List Wt} (h : RP w lo A n c B k d ws wts) (i : Nat) (x : Wk) (hx : ws[i]? = some x) (hl : x.looks = false) :
    Calls Try.prog 12 #[.agg #[.slice A n c, .slice B k d], .int .i64 i] w fun e w' => ∃ A' c', e = .returned (.tuple #[.agg #[.slice A' n c', .slice B k d], .int .u64 x.at_, .int .i64 0]) ∧
      RP w' lo A' n c' B k d (ws.set i { x with looks := true, sees := x.at_ }) wts ∧ Below w.heap.size w w' ∧ (∀ a, A' = some a → w.heap.size ≤ a.block) := by
  have hin : i < n := by have := h.len.1; have := (List.getElem?_eq_some_iff.1 hx).1; omega
  obtain ⟨b, off, rfl, hb1, hb2, hc⟩ := h.wk
  obtain ⟨c0, c1, c2⟩ := hc i x hx
  obtain ⟨xa, xs, xl⟩ := x
  dsimp only at c0 c1 c2 hl
  have h0 : ¬ (i : Int) < 0 := by omega
  have h1 : ¬ (n : Int) ≤ (i : Int) := by omega
  have h2 : (0 : Int) ≤ (i : Int) := by omega
  have h3 : (i : Int) < (n : Int) := by omega
  subst hl
  have H := Lib.hid h
  have HU : Hid (Upd [] w ((((w.alloc (.cells #[.slice (some ⟨b, off, none⟩) n c, .slice B k d] 29)).alloc (.cells #[.slice none 0 0, .slice none 0 0] 29)).alloc (.cells #[.int .u64 xa, .int .u64 xs, .bool false] 65)).drewN 1)) := ((((Upd.refl _ _).alloc _).alloc _).alloc _).drewN 1
  have HN3 := Lib.hid (three_new w #[.slice (some ⟨b, off, none⟩) n c, .slice B k d] #[.slice none 0 0, .slice none 0 0] #[.int .u64 xa, .int .u64 xs, .bool false] 29 29 65 1)
  have t2 : (((w.alloc (.cells #[.slice (some ⟨b, off, none⟩) n c, .slice B k d] 29)).alloc (.cells #[.slice none 0 0, .slice none 0 0] 29)).alloc (.cells #[.int .u64 xa, .int .u64 xs, .bool false] 65)).cell? ⟨w.heap.size + 1 + 1, 0, none⟩ = some (.int .u64 xa) := HN3.out.2.2.1.cell 0
  clear h hc hx
  go_enter Try.func12, Try.ntmps12
  go_wp2_with fail
  go_region_held3 (fun w' => w'.cell? ⟨w.heap.size, 0, none⟩ = some (.slice (some ⟨b, off, none⟩) n c) ∧ w'.cell? ⟨w.heap.size, 1, none⟩ = some (.slice B k d) ∧ w'.cell? ⟨w.heap.size + 1 + 1, 0, none⟩ = some (.int .u64 xa))
    (first | go_keep | exact ⟨s0, s1, s2⟩ | exact ⟨(HN3.out.1.cell 0).trans rfl, (HN3.out.1.cell 1).trans rfl, (HN3.out.2.2.1.cell 0).trans rfl⟩ | (dsimp only; refine ⟨?_, ?_, ?_⟩ <;> go_keep) | exact ⟨(hus.cell (p := ⟨w.heap.size, 0, none⟩) (by show w.heap.size < _; omega) (by simp)).trans s0, (hus.cell (p := ⟨w.heap.size, 1, none⟩) (by show w.heap.size < _; omega) (by simp)).trans s1, (hus.cell (p := ⟨w.heap.size + 1 + 1, 0, none⟩) (by show w.heap.size + 1 + 1 < _; omega) (by simp)).trans s2⟩)
    (first | (go_at_call 23; refine (with_any (H.out.upd HU.out (by simp)) i hin xa xa true).mono ?_; rintro e w1 ⟨A', c', rfl, hA', hr, hb⟩; have hsz := hb.size; rw [HN3.out.2.2.2] at hsz; have B1 := HN3.out.1.below hb (by rw [HN3.out.2.2.2]; omega); have B2 := HN3.out.2.1.below hb (by rw [HN3.out.2.2.2]; omega); have B3 := HN3.out.2.2.1.below hb (by rw [HN3.out.2.2.2]; omega); have s0 := B1.cell 0; have s1 := B1.cell 1; have s2 := B3.cell 0; have c20 := B2.cell 0; have c21 := B2.cell 1; have g20 := B2.frozen 0; have g21 := B2.frozen 1; simp only [List.getElem?_toArray, List.getElem?_cons_zero, List.getElem?_cons_succ] at s0 s1 s2 c20 c21; have hus : Upd [w.heap.size + 1] w1 ((w1.setCell ⟨w.heap.size + 1, 0, none⟩ (.slice A' n c')).setCell ⟨w.heap.size + 1, 1, none⟩ (.slice B k d)) := (((Upd.refl _ _).setCell (by simp) _).setCell (by simp) _); have HR := Lib.hid hr; have HA := Lib.hid hA'; have HB := Lib.hid hb; clear hr hA' hb B1 B2 B3))
  go_wp2
  refine bodyPost_res (v := .tuple #[.agg #[.slice A' n c', .slice B k d], .int .u64 xa, .int .i64 0]) (by simp [results, Try.results12, go_sem, c20, c21]) rfl ⟨_, _, rfl, ?_, ?_, fun a ha => Nat.le_trans HU.out.size (HR.out.fresh (by have := H.out.n1; omega) a ha)⟩
  · exact H.out.of (((HU.out.below (Nat.le_refl _) (by simp)).trans (HB.out.mono HU.out.size)).trans (hus.below (by omega) (by simp))) HA.out ((HR.out.upd hus (Nat.le_refl _) (fun s hs => .inl (by simp at hs; rw [HN3.out.2.2.2]; omega))).more (Nat.le_refl _) hus.size) HU.out.size
  · exact ((HU.out.below (Nat.le_refl _) (by simp)).trans (HB.out.mono HU.out.size)).trans (hus.below (by omega) (by simp))

set_option maxHeartbeats 1000000 in
theorem runpin_yes {w : World} {lo n c k d : Nat} {A B : Option Addr} {ws : List Wk} {wts : List Wt} (h : RP w lo A n c B k d ws wts) (i : Nat) (x : Wk) (hx : ws[i]? = some x) (hl : x.looks = true) :
    Calls Try.prog 14 #[.agg #[.slice A n c, .slice B k d], .int .i64 i] w fun e w' => ∃ A' c', e = .returned (.tuple #[.agg #[.slice A' n c', .slice B k d], .int .i64 0]) ∧
      RP w' lo A' n c' B k d (ws.set i ⟨x.at_, 0, false⟩) wts ∧ Below w.heap.size w w' ∧ (∀ a, A' = some a → w.heap.size ≤ a.block) := by
  have hin : i < n := by have := h.len.1; have := (List.getElem?_eq_some_iff.1 hx).1; omega
  obtain ⟨b, off, rfl, hb1, hb2, hc⟩ := h.wk
  obtain ⟨c0, c1, c2⟩ := hc i x hx
  obtain ⟨xa, xs, xl⟩ := x
  dsimp only at c0 c1 c2 hl
  have h0 : ¬ (i : Int) < 0 := by omega
  have h1 : ¬ (n : Int) ≤ (i : Int) := by omega
  have h2 : (0 : Int) ≤ (i : Int) := by omega
  have h3 : (i : Int) < (n : Int) := by omega
  have hbn1 : b ≠ w.heap.size + 1 := by omega
  have hbn0 : b ≠ w.heap.size := by omega
  subst hl
  have H := Lib.hid h
  have HU : Hid (∀ q, Upd [] w (((w.alloc (.cells #[.slice (some ⟨b, off, none⟩) n c, .slice B k d] 29)).alloc (.cells #[.slice none 0 0, .slice none 0 0] 29)).drewN q)) := fun q => (((Upd.refl _ _).alloc _).alloc _).drewN q
  have HN3 := Lib.hid (two_new w #[.slice (some ⟨b, off, none⟩) n c, .slice B k d] #[.slice none 0 0, .slice none 0 0] 29 29)
  clear h hc hx
  go_enter Try.func14, Try.ntmps14
  go_wp2_with fail
  refine wp_quiet_tail 9 (by kernel_rfl) (by kernel_rfl) (fun _ _ _ _ h => h) ?_
  simp only [List.take_succ_cons, List.take_zero, List.drop_succ_cons, List.drop_zero]
  repeat (go_big_quiet_step (fail))
  refine wpQuiet_nil ?_
  rintro _ ⟨nq, rfl⟩
  have HU := Lib.hid (HU.out nq)
  have HN3 := Lib.hid (HN3.out nq)
  go_wp2_with fail
  refine (with_any (H.out.upd HU.out (by simp)) i hin xa 0 false).mono ?_
  rintro e w1 ⟨A', c', rfl, hA', hr, hb⟩
  have hsz := hb.size
  rw [HN3.out.2.2] at hsz
  have B2 := HN3.out.2.1.below hb (by rw [HN3.out.2.2]; omega)
  have c20 := B2.cell 0
  have c21 := B2.cell 1
  have g20 := B2.frozen 0
  have g21 := B2.frozen 1
  simp only [List.getElem?_toArray, List.getElem?_cons_zero, List.getElem?_cons_succ] at c20 c21
  have hus : Upd [w.heap.size + 1] w1 ((w1.setCell ⟨w.heap.size + 1, 0, none⟩ (.slice A' n c')).setCell ⟨w.heap.size + 1, 1, none⟩ (.slice B k d)) := (((Upd.refl _ _).setCell (by simp) _).setCell (by simp) _)
  have HR := Lib.hid hr
  have HA := Lib.hid hA'
  have HB := Lib.hid hb
  clear hr hA' hb B2
  go_wp2
  refine bodyPost_res (v := .tuple #[.agg #[.slice A' n c', .slice B k d], .int .i64 0]) (by simp [results, Try.results14, go_sem, c20, c21]) rfl ⟨_, _, rfl, ?_, ?_, fun a ha => Nat.le_trans HU.out.size (HR.out.fresh (by have := H.out.n1; omega) a ha)⟩
  · exact H.out.of (((HU.out.below (Nat.le_refl _) (by simp)).trans (HB.out.mono HU.out.size)).trans (hus.below (by omega) (by simp))) HA.out ((HR.out.upd hus (Nat.le_refl _) (fun s hs => .inl (by simp at hs; rw [HN3.out.2.2]; omega))).more (Nat.le_refl _) hus.size) HU.out.size
  · exact ((HU.out.below (Nat.le_refl _) (by simp)).trans (HB.out.mono HU.out.size)).trans (hus.below (by omega) (by simp))
end Go.Proofs.Ytembadjfialenaa
