/- The queue's functions at the element type cmd.ack (two cells): what each does to the queue in memory. Conditions: the queue holds a row, with room for 1 to 4096. -/
import Derived.Test.YtdcekgdihnlbpaaRows
import Derived.Test.YtdcekgdihnlbpaaQueueWords
import Derived.Test.YtdcekgdihnlbpaaFlat
namespace Go.Proofs.Ytdcekgdihnlbpaa.QA
open Go Go.RowKit Go.Proofs.Ytdcekgdihnlbpaa
set_option maxHeartbeats 400000

def encK (x : Int × Int) : List Value := [.int .i64 x.1, .int .u64 x.2]
theorem encK_len (z : Int × Int) : (encK z).length = 2 := rfl
abbrev tS : TypeId := 88
abbrev tE : TypeId := 64
theorem info : (Try.prog.info? 64).map (fun i => (i.zero, i.size, i.bytes)) = some (some (.agg #[.int .i64 0, .int .u64 0]), 2, 16) := by kernel_rfl
theorem ne_types : tS ≠ tE := by decide

/-- Block p is a queue's struct, block r its ring; it holds the row xs, and has room for cap. -/
def Q (w : World) (p r cap : Nat) (xs : List (Int × Int)) : Prop :=
  ∃ (a : Nat) (ring : List (Int × Int)), RingAt ring cap a xs ∧ cap ≤ 4096 ∧ Blk w p tS #[.slice (some ⟨r, 0, none⟩) cap cap, .int .i64 a, .int .i64 xs.length] ∧ Blk w r tE (ring.flatMap encK).toArray

section
variable {w w' : World} {p r cap : Nat} {xs : List (Int × Int)}
theorem Q.upd {S : List Nat} (h : Q w p r cap xs) (u : Upd S w w') (hp : p ∉ S) (hr : r ∉ S) : Q w' p r cap xs := by
  obtain ⟨a, ring, h1, h2, h3, h4⟩ := h
  exact ⟨a, ring, h1, h2, h3.upd u hp, h4.upd u hr⟩
theorem Q.lt (h : Q w p r cap xs) : p < w.heap.size ∧ r < w.heap.size := by
  obtain ⟨a, ring, h1, h2, h3, h4⟩ := h
  exact ⟨h3.lt, h4.lt⟩
theorem Q.bound (h : Q w p r cap xs) : xs.length ≤ cap ∧ 1 ≤ cap ∧ cap ≤ 4096 := by
  obtain ⟨a, ring, h1, h2, h3, h4⟩ := h
  have := h1.at_
  exact ⟨h1.len, by omega, h2⟩

/-- what a walk wants of the cells -/
structure QCells (w : World) (p r cap a n : Nat) (ring : List (Int × Int)) : Prop where
  c0 : w.cell? ⟨p, 0, none⟩ = some (.slice (some ⟨r, 0, none⟩) cap cap)
  c1 : w.cell? ⟨p, 1, none⟩ = some (.int .i64 a)
  c2 : w.cell? ⟨p, 2, none⟩ = some (.int .i64 n)
  f1 : w.frozen? ⟨p, 1, none⟩ = false
  f2 : w.frozen? ⟨p, 2, none⟩ = false
  cr : ∀ i x, ring[i]? = some x → w.cell? ⟨r, i * 2, none⟩ = some (.int .i64 x.1) ∧ w.cell? ⟨r, i * 2 + 1, none⟩ = some (.int .u64 x.2)
  fr : ∀ i, w.frozen? ⟨r, i, none⟩ = false
  lp : p < w.heap.size
  lr : r < w.heap.size

theorem Q.cells (h : Q w p r cap xs) : ∃ (a : Nat) (ring : List (Int × Int)), RingAt ring cap a xs ∧ cap ≤ 4096 ∧ p ≠ r ∧ QCells w p r cap a xs.length ring ∧
    Blk w p tS #[.slice (some ⟨r, 0, none⟩) cap cap, .int .i64 a, .int .i64 xs.length] ∧ Blk w r tE (ring.flatMap encK).toArray := by
  obtain ⟨a, ring, h1, h2, h3, h4⟩ := h
  refine ⟨a, ring, h1, h2, h3.ne h4 ne_types, ⟨?_, ?_, ?_, h3.frozen 1, h3.frozen 2, fun i x hx => ⟨?_, ?_⟩, h4.frozen, h3.lt, h4.lt⟩, h3, h4⟩
  · rw [h3.cell]; rfl
  · rw [h3.cell]; rfl
  · rw [h3.cell]; rfl
  · rw [h4.cell]; have := flat_get encK_len ring i 0 x hx (by omega); simpa [encK] using this
  · rw [h4.cell]; have := flat_get encK_len ring i 1 x hx (by omega); simpa [encK] using this

theorem set2 (ring : List (Int × Int)) (k : Nat) (hk : k < ring.length) (x : Int × Int) : ((ring.flatMap encK).toArray.setIfInBounds (k * 2) (.int .i64 x.1)).setIfInBounds (k * 2 + 1) (.int .u64 x.2) = ((ring.set k x).flatMap encK).toArray := by
  apply Array.ext'
  simp only [Array.toList_setIfInBounds]
  have e0 := flat_set encK_len ring k 0 ring[k] (x.1, ring[k].2) (.int .i64 x.1) (List.getElem?_eq_getElem hk) (by omega) rfl
  rw [Nat.add_zero] at e0
  have e1 := flat_set encK_len (ring.set k (x.1, ring[k].2)) k 1 (x.1, ring[k].2) x (.int .u64 x.2) (List.getElem?_set_self hk) (by omega) rfl
  rw [e0, e1, List.set_set]
end

theorem len_any (p : Nat) (w : World) (n : Nat) (h2 : w.cell? ⟨p, 2, none⟩ = some (.int .i64 n)) :
    Calls Try.prog 37 #[.pointer (some ⟨p, 0, none⟩)] w fun e w' => e = .returned (.int .i64 n) ∧ w = w' := by
  go_enter Try.func37, Try.ntmps37
  go_wp2
  go_ret
  exact ⟨rfl, rfl⟩
theorem room_any (p r : Nat) (w : World) (cap n : Nat) (h0 : w.cell? ⟨p, 0, none⟩ = some (.slice (some ⟨r, 0, none⟩) cap cap)) (h2 : w.cell? ⟨p, 2, none⟩ = some (.int .i64 n)) (hn : n ≤ cap) (hc : cap ≤ 4096) :
    Calls Try.prog 42 #[.pointer (some ⟨p, 0, none⟩)] w fun e w' => e = .returned (.int .i64 ((cap : Int) - n)) ∧ ∃ q, w' = w.drewN q := by
  go_enter Try.func42, Try.ntmps42
  go_wp2
  go_quiet (fail)
  go_wp2
  go_ret
  exact ⟨rfl, _, rfl⟩
theorem place_any (p r : Nat) (w : World) (cap a : Nat) (i : Int) (k : Nat) (h0 : w.cell? ⟨p, 0, none⟩ = some (.slice (some ⟨r, 0, none⟩) cap cap)) (h1 : w.cell? ⟨p, 1, none⟩ = some (.int .i64 a))
    (ha : a < cap) (hi0 : 0 ≤ i) (hi : i ≤ 4096) (hc : cap ≤ 4096) (hk : Hid ((k : Int) = ((a : Int) + i) % cap)) :
    Calls Try.prog 43 #[.pointer (some ⟨p, 0, none⟩), .int .i64 i] w fun e w' => e = .returned (.int .i64 k) ∧ ∃ q, w' = w.drewN q := by
  go_enter Try.func43, Try.ntmps43
  go_wp2
  go_quiet (fail)
  go_wp2
  go_ret
  exact ⟨by rw [hk.out]; rfl, _, rfl⟩

set_option maxHeartbeats 1000000 in
theorem push_cells (p r : Nat) (w : World) (cap a n k : Nat) (x u : Int × Int) (ring : List (Int × Int)) (hc0 : QCells w p r cap a n ring)
    (ha : a < cap) (hn : n < cap) (hc : cap ≤ 4096) (hpr : p ≠ r) (hk : Hid ((k : Int) = ((a : Int) + (n : Int)) % cap)) (hkc : k < cap) (hx : ring[k]? = some u) :
    Calls Try.prog 34 #[.pointer (some ⟨p, 0, none⟩), .agg #[.int .i64 x.1, .int .u64 x.2]] w fun e w' => e = .returned (.bool true) ∧
      ∃ q o, w' = ((((w.alloc o).drewN q).setCell ⟨r, k * 2, none⟩ (.int .i64 x.1)).setCell ⟨r, k * 2 + 1, none⟩ (.int .u64 x.2)).setCell ⟨p, 2, none⟩ (.int .i64 (n + 1)) := by
  obtain ⟨h0, h1, h2, f1, f2, hcr, f3, lp, lr⟩ := hc0
  have f3k := f3 (k * 2)
  have f3k1 := f3 (k * 2 + 1)
  obtain ⟨cx, cy⟩ := hcr k u hx
  have hh : ((cap : Int) - n == 0) = false := by simp; omega
  have hpw : p ≠ w.heap.size := by omega
  have hrw : r ≠ w.heap.size := by omega
  clear hcr f3 hx
  go_enter Try.func34, Try.ntmps34
  have k0 : (w.alloc (.cells #[.int .i64 x.1, .int .u64 x.2] 64)).cell? ⟨p, 0, none⟩ = some (.slice (some ⟨r, 0, none⟩) cap cap) := (World.cell?_alloc_past _ _ _ lp).trans h0
  have k1 : (w.alloc (.cells #[.int .i64 x.1, .int .u64 x.2] 64)).cell? ⟨p, 1, none⟩ = some (.int .i64 a) := (World.cell?_alloc_past _ _ _ lp).trans h1
  have k2 : (w.alloc (.cells #[.int .i64 x.1, .int .u64 x.2] 64)).cell? ⟨p, 2, none⟩ = some (.int .i64 n) := (World.cell?_alloc_past _ _ _ lp).trans h2
  go_wp2_with (go_at_call 42; refine (room_any _ _ _ _ _ k0 k2 (by omega) (by omega)).mono ?_; rintro e w' ⟨rfl, q, rfl⟩)
  refine wp_quiet_tail 12 (by kernel_rfl) (by kernel_rfl) (fun _ _ _ _ h => h) ?_
  simp only [List.take_succ_cons, List.take_zero, List.drop_succ_cons, List.drop_zero]
  repeat (go_big_quiet_step ((go_at_call 43; exact quiet_more (place_any _ _ _ cap a n k k0 k1 (by omega) (by omega) (by omega) (by omega) hk))))
  refine wpQuiet_nil ?_
  rintro _ ⟨nq, rfl⟩
  go_wp2
  go_ret
  exact ⟨rfl, _, _, rfl⟩
theorem push_full (p r : Nat) (w : World) (cap : Nat) (x : Int × Int) (h0 : w.cell? ⟨p, 0, none⟩ = some (.slice (some ⟨r, 0, none⟩) cap cap)) (h2 : w.cell? ⟨p, 2, none⟩ = some (.int .i64 cap)) (hc : cap ≤ 4096) (lp : p < w.heap.size) :
    Calls Try.prog 34 #[.pointer (some ⟨p, 0, none⟩), .agg #[.int .i64 x.1, .int .u64 x.2]] w fun e w' => e = .returned (.bool false) ∧ Upd [] w w' := by
  have hh : ((cap : Int) - cap == 0) = true := by simp
  have k0 : (w.alloc (.cells #[.int .i64 x.1, .int .u64 x.2] 64)).cell? ⟨p, 0, none⟩ = some (.slice (some ⟨r, 0, none⟩) cap cap) := (World.cell?_alloc_past _ _ _ lp).trans h0
  have k2 : (w.alloc (.cells #[.int .i64 x.1, .int .u64 x.2] 64)).cell? ⟨p, 2, none⟩ = some (.int .i64 cap) := (World.cell?_alloc_past _ _ _ lp).trans h2
  go_enter Try.func34, Try.ntmps34
  go_wp2_with (go_at_call 42; refine (room_any _ _ _ _ _ k0 k2 (by omega) (by omega)).mono ?_; rintro e w' ⟨rfl, q, rfl⟩)
  go_ret
  exact ⟨rfl, ((Upd.refl _ _).alloc _).drewN _⟩

section
variable {w : World} {p r cap : Nat} {x : Int × Int} {xs : List (Int × Int)}
theorem push_yes (h : Q w p r cap xs) (x : Int × Int) (hl : xs.length < cap) :
    Calls Try.prog 34 #[.pointer (some ⟨p, 0, none⟩), .agg #[.int .i64 x.1, .int .u64 x.2]] w fun e w' => e = .returned (.bool true) ∧ Q w' p r cap (xs ++ [x]) ∧ Upd [p, r] w w' := by
  obtain ⟨a, ring, h1, h2, hpr, hc, h3, h4⟩ := h.cells
  have hlt := h1.lt xs.length
  have hkc : (a + xs.length) % cap < cap := by have := h1.size; omega
  refine (push_cells p r w cap a xs.length ((a + xs.length) % cap) x _ ring hc h1.at_ hl h2 hpr ?_ hkc (List.getElem?_eq_getElem hlt)).mono ?_
  · show _ = _
    rw [Int.natCast_emod]; rfl
  · rintro e w' ⟨rfl, q, o, rfl⟩
    refine ⟨rfl, ⟨a, _, h1.push hl x, h2, ?_, ?_⟩, (((((Upd.refl _ w).alloc o).drewN q).setCell (by simp) _).setCell (by simp) _).setCell (by simp) _⟩
    · have := ((((h3.alloc o).drewN q).other (p := ⟨r, (a + xs.length) % cap * 2, none⟩) hpr (.int .i64 x.1)).other (p := ⟨r, (a + xs.length) % cap * 2 + 1, none⟩) hpr (.int .u64 x.2)).store 2 (.int .i64 (xs.length + 1))
      simpa using this
    · have := (((h4.alloc o).drewN q).store ((a + xs.length) % cap * 2) (.int .i64 x.1)).store ((a + xs.length) % cap * 2 + 1) (.int .u64 x.2)
      rw [set2 _ _ hlt] at this
      exact this.other (p := ⟨p, 2, none⟩) (Ne.symm hpr) _
theorem push_no (h : Q w p r cap xs) (x : Int × Int) (hl : xs.length = cap) :
    Calls Try.prog 34 #[.pointer (some ⟨p, 0, none⟩), .agg #[.int .i64 x.1, .int .u64 x.2]] w fun e w' => e = .returned (.bool false) ∧ Q w' p r cap xs ∧ Upd [p, r] w w' := by
  obtain ⟨a, ring, h1, h2, hpr, hc, h3, h4⟩ := h.cells
  refine (push_full p r w cap x hc.c0 (by rw [hc.c2, hl]) h2 hc.lp).mono ?_
  rintro e w' ⟨rfl, hu⟩
  exact ⟨rfl, h.upd hu (by simp) (by simp), hu.more (by simp)⟩
theorem len (h : Q w p r cap xs) :
    Calls Try.prog 37 #[.pointer (some ⟨p, 0, none⟩)] w fun e w' => e = .returned (.int .i64 xs.length) ∧ w = w' := by
  obtain ⟨a, ring, h1, h2, hpr, hc, h3, h4⟩ := h.cells
  exact len_any p w _ hc.c2

theorem peek_no (h : Q w p r cap []) :
    Calls Try.prog 44 #[.pointer (some ⟨p, 0, none⟩)] w fun e w' => e = .returned (.tuple #[.agg #[.int .i64 0, .int .u64 0], .bool false]) ∧ Upd [] w w' := by
  have HL := Lib.hid (len (h.upd ((Upd.refl [] w).alloc (.cells #[.int .i64 0, .int .u64 0] 64)) (by simp) (by simp)))
  clear h
  go_enter Try.func44, Try.ntmps44
  go_wp2_with fail
  refine HL.out.mono ?_
  rintro e w1 ⟨rfl, rfl⟩
  go_wp2
  exact bodyPost_ret (v := .tuple #[.agg #[.int .i64 0, .int .u64 0], .bool false]) (by simp [results, Try.results44, go_sem]) rfl ⟨rfl, ((Upd.refl _ _).alloc _).alloc _⟩
theorem first_cell (h : Q w p r cap (x :: xs)) : ∃ a, a < cap ∧ cap ≤ 4096 ∧ w.cell? ⟨p, 0, none⟩ = some (.slice (some ⟨r, 0, none⟩) cap cap) ∧ w.cell? ⟨p, 1, none⟩ = some (.int .i64 a) ∧ w.cell? ⟨r, a * 2, none⟩ = some (.int .i64 x.1) ∧ w.cell? ⟨r, a * 2 + 1, none⟩ = some (.int .u64 x.2) ∧ p ≠ r := by
  obtain ⟨a, ring, h1, h2, hpr, hc, h3, h4⟩ := h.cells
  have hlt : a < ring.length := by have := h1.at_; have := h1.size; omega
  have h0 := h1.first
  exact ⟨a, h1.at_, h2, hc.c0, hc.c1, (hc.cr a x h0).1, (hc.cr a x h0).2, hpr⟩
theorem peek_yes (h : Q w p r cap (x :: xs)) :
    Calls Try.prog 44 #[.pointer (some ⟨p, 0, none⟩)] w fun e w' => e = .returned (.tuple #[.agg #[.int .i64 x.1, .int .u64 x.2], .bool true]) ∧ Upd [] w w' := by
  have HL := Lib.hid (len (h.upd ((Upd.refl [] w).alloc (.cells #[.int .i64 0, .int .u64 0] 64)) (by simp) (by simp)))
  obtain ⟨a, ha, hc4, c0, c1, d0, d1, hpr⟩ := first_cell h
  obtain ⟨lp, lr⟩ := h.lt
  have hpw : p ≠ w.heap.size := by omega
  have hrw : r ≠ w.heap.size := by omega
  have hh : (((x :: xs).length : Int) == 0) = false := by simp; omega
  have ha0 : (0 : Int) ≤ (a : Int) := by omega
  have ha1 : (a : Int) < (cap : Int) := by omega
  obtain ⟨n, hn⟩ : ∃ n, n = (x :: xs).length := ⟨_, rfl⟩
  rw [← hn] at HL hh
  clear h hn
  go_enter Try.func44, Try.ntmps44
  go_wp2_with fail
  refine HL.out.mono ?_
  rintro e w1 ⟨rfl, rfl⟩
  go_wp2_with fail
  refine wp_quiet_tail 10 (by kernel_rfl) (by kernel_rfl) (fun _ _ _ _ h => h) ?_
  simp only [List.take_succ_cons, List.take_zero, List.drop_succ_cons, List.drop_zero]
  repeat (go_big_quiet_step (fail))
  refine wpQuiet_nil ?_
  rintro _ ⟨nq, rfl⟩
  go_wp2
  refine bodyPost_ret (v := .tuple #[.agg #[.int .i64 x.1, .int .u64 x.2], .bool true]) (by simp [results, Try.results44, go_sem]) rfl ⟨rfl, ((((Upd.refl _ _).alloc _).drewN _).setCell (.inr (Nat.le_refl _)) _).setCell (.inr (Nat.le_refl _)) _⟩
theorem pop_no (h : Q w p r cap []) :
    Calls Try.prog 35 #[.pointer (some ⟨p, 0, none⟩)] w fun e w' => e = .returned (.tuple #[.agg #[.int .i64 0, .int .u64 0], .bool false]) ∧ Q w' p r cap [] ∧ Upd [p, r] w w' := by
  have hq := h.upd ((Upd.refl [] w).alloc (.cells #[.int .i64 0, .int .u64 0] 64)) (by simp) (by simp)
  have HP := Lib.hid (peek_no hq)
  have HH := Lib.hid h.lt
  have HQ := Lib.hid hq
  have HB := Lib.hid (Blk.new w 64 #[.int .i64 0, .int .u64 0])
  clear h hq
  go_enter Try.func35, Try.ntmps35
  go_wp2_with fail
  refine HP.out.mono ?_
  rintro e w1 ⟨rfl, hu⟩
  have hB := HB.out.upd hu (by simp)
  have b0 := hB.cell 0
  have b1 := hB.cell 1
  have f0 := hB.frozen 0
  have f1 := hB.frozen 1
  have hl := hB.lt
  simp only [List.getElem?_toArray, List.getElem?_cons_zero, List.getElem?_cons_succ] at b0 b1
  have HU := Lib.hid hu
  clear hu hB
  go_wp2
  have hf : Upd [] w (((w1.setCell ⟨w.heap.size, 0, none⟩ (.int .i64 0)).setCell ⟨w.heap.size, 1, none⟩ (.int .u64 0)).alloc (.cells #[.int .i64 0, .int .u64 0] 64)) := ((((((Upd.refl [] w).alloc _).next HU.out).setCell (.inr (Nat.le_refl _)) _).setCell (.inr (Nat.le_refl _)) _).alloc _)
  have hB2 := ((((HB.out.upd HU.out (by simp)).store 0 (.int .i64 0)).store 1 (.int .u64 0)).alloc (.cells #[.int .i64 0, .int .u64 0] 64))
  have e0 := hB2.cell 0
  have e1 := hB2.cell 1
  simp only [Array.getElem?_setIfInBounds, List.size_toArray, List.length_cons, List.length_nil, List.getElem?_toArray, List.getElem?_cons_zero, List.getElem?_cons_succ] at e0 e1
  have hu2 : Upd [w.heap.size] w1 (((w1.setCell ⟨w.heap.size, 0, none⟩ (.int .i64 0)).setCell ⟨w.heap.size, 1, none⟩ (.int .u64 0)).alloc (.cells #[.int .i64 0, .int .u64 0] 64)) := (((Upd.refl _ w1).setCell (by simp) _).setCell (by simp) _).alloc _
  refine bodyPost_ret (v := .tuple #[.agg #[.int .i64 0, .int .u64 0], .bool false]) (by simp [results, Try.results35, go_sem, e0, e1]) rfl ⟨rfl, ?_, hf.more (by simp)⟩
  exact (HQ.out.upd HU.out (by simp) (by simp)).upd hu2 (by have := HH.out.1; simp; omega) (by have := HH.out.2; simp; omega)
set_option maxHeartbeats 1000000 in
theorem pop_yes (h : Q w p r cap (x :: xs)) :
    Calls Try.prog 35 #[.pointer (some ⟨p, 0, none⟩)] w fun e w' => e = .returned (.tuple #[.agg #[.int .i64 x.1, .int .u64 x.2], .bool true]) ∧ Q w' p r cap xs ∧ Upd [p, r] w w' := by
  have hq := h.upd ((Upd.refl [] w).alloc (.cells #[.int .i64 0, .int .u64 0] 64)) (by simp) (by simp)
  have HP := Lib.hid (peek_yes hq)
  have HB := Lib.hid (Blk.new w 64 #[.int .i64 0, .int .u64 0])
  have HH := Lib.hid h.lt
  have HQ := Lib.hid hq
  clear h hq
  go_enter Try.func35, Try.ntmps35
  go_wp2_with fail
  refine HP.out.mono ?_
  rintro e w1 ⟨rfl, hu⟩
  have hq1 := HQ.out.upd hu (by simp) (by simp)
  obtain ⟨a, ring, h1, h2, hpr, hc, h3, h4⟩ := hq1.cells
  have ha := h1.at_
  have hbd := h1.len
  have hlt : a < ring.length := by have := h1.size; omega
  have c0 := hc.c0
  have c1 := hc.c1
  have c2 := hc.c2
  have g1 := hc.f1
  have g2 := hc.f2
  have r0 := hc.fr (a * 2)
  have r1 := hc.fr (a * 2 + 1)
  obtain ⟨d0, d1⟩ := hc.cr a _ (List.getElem?_eq_getElem hlt)
  have lp := hc.lp
  have lr := hc.lr
  have hB := HB.out.upd hu (by simp)
  have b0 := hB.cell 0
  have b1 := hB.cell 1
  have f0 := hB.frozen 0
  have f1 := hB.frozen 1
  have hl := hB.lt
  simp only [List.getElem?_toArray, List.getElem?_cons_zero, List.getElem?_cons_succ] at b0 b1
  have hp1 : p ≠ w.heap.size := by have := HH.out.1; omega
  have hr1 : r ≠ w.heap.size := by have := HH.out.2; omega
  have hp2 : p ≠ w1.heap.size := by omega
  have hr2 : r ≠ w1.heap.size := by omega
  have hp3 : p ≠ w1.heap.size + 1 := by omega
  have hr3 : r ≠ w1.heap.size + 1 := by omega
  have ha0 : (0 : Int) ≤ (a : Int) := by omega
  have ha1 : (a : Int) < (cap : Int) := by omega
  simp only [List.length_cons] at c2 hbd
  have c2' : w1.cell? ⟨p, 2, none⟩ = some (.int .i64 ((xs.length : Int) + 1)) := c2
  generalize ring[a] = u at d0 d1
  have HU := Lib.hid hu
  have H1 := Lib.hid h1
  have H3 := Lib.hid h3
  have H4 := Lib.hid h4
  clear hu hq1 hc h1 h3 h4 hB c2
  go_wp2_with fail
  refine wp_quiet_tail 10 (by kernel_rfl) (by kernel_rfl) (fun _ _ _ _ h => h) ?_
  simp only [List.take_succ_cons, List.take_zero, List.drop_succ_cons, List.drop_zero]
  repeat (go_big_quiet_step (fail))
  refine wpQuiet_nil ?_
  rintro _ ⟨nq, rfl⟩
  have hk : Hid ((((a + 1) % cap : Nat) : Int) = ((a : Int) + 1) % cap) := by show _ = _; rw [Int.natCast_emod]; rfl
  have bP := ((((H3.out.alloc (.cells #[.int .i64 x.1, .int .u64 x.2] 64)).alloc (.cells #[.int .i64 0, .int .u64 0] 64)).drewN nq).other (p := ⟨r, a * 2, none⟩) hpr (.int .i64 0)).other (p := ⟨r, a * 2 + 1, none⟩) hpr (.int .u64 0)
  have HBP := Lib.hid bP
  clear bP
  go_wp2_with fail
  refine (place_any p r _ cap a 1 ((a + 1) % cap) (HBP.out.cell 0) (HBP.out.cell 1) ha (by omega) (by omega) h2 hk).mono ?_
  rintro e w2 ⟨rfl, q2, rfl⟩
  generalize hke : (a + 1) % cap = k at hk
  have HKE := Lib.hid hke
  clear hke
  go_wp2
  have hHp : w.heap.size ≠ p := Ne.symm hp1
  have hHr : w.heap.size ≠ r := Ne.symm hr1
  have bB := (((((((((HB.out.upd HU.out (by simp)).alloc (.cells #[.int .i64 x.1, .int .u64 x.2] 64)).alloc (.cells #[.int .i64 0, .int .u64 0] 64)).drewN nq).other (p := ⟨r, a * 2, none⟩) hHr (.int .i64 0)).other (p := ⟨r, a * 2 + 1, none⟩) hHr (.int .u64 0)).drewN q2).other (p := ⟨p, 1, none⟩) hHp (.int .i64 k)).other (p := ⟨p, 2, none⟩) hHp (.int .i64 xs.length)).store 0 (.int .i64 x.1)
  have bB2 := bB.store 1 (.int .u64 x.2)
  have e0 := bB2.cell 0
  have e1 := bB2.cell 1
  simp only [Array.getElem?_setIfInBounds, List.size_toArray, List.length_cons, List.length_nil, List.getElem?_toArray, List.getElem?_cons_zero, List.getElem?_cons_succ] at e0 e1
  refine bodyPost_ret (v := .tuple #[.agg #[.int .i64 x.1, .int .u64 x.2], .bool true]) (by simp [results, Try.results35, go_sem, e0, e1]) rfl ⟨rfl, ⟨k, ring.set a (0, 0), ?_, h2, ?_, ?_⟩, ?_⟩
  · rw [← HKE.out]; exact H1.out.pop (0, 0)
  · have := (((((HBP.out.drewN q2).store 1 (.int .i64 k)).store 2 (.int .i64 xs.length)).other (p := ⟨w.heap.size, 0, none⟩) hp1 (.int .i64 x.1)).other (p := ⟨w.heap.size, 1, none⟩) hp1 (.int .u64 x.2))
    simpa using this
  · have := (((((H4.out.alloc (.cells #[.int .i64 x.1, .int .u64 x.2] 64)).alloc (.cells #[.int .i64 0, .int .u64 0] 64)).drewN nq).store (a * 2) (.int .i64 0)).store (a * 2 + 1) (.int .u64 0))
    rw [set2 _ _ hlt (0, 0)] at this
    exact ((((this.drewN q2).other (p := ⟨p, 1, none⟩) (Ne.symm hpr) _).other (p := ⟨p, 2, none⟩) (Ne.symm hpr) _).other (p := ⟨w.heap.size, 0, none⟩) hr1 _).other (p := ⟨w.heap.size, 1, none⟩) hr1 _
  · exact ((((((((((((Upd.refl [p, r] w).alloc _).trans HU.out (by simp)).alloc _).alloc _).drewN nq).setCell (by simp) _).setCell (by simp) _).drewN q2).setCell (by simp) _).setCell (by simp) _).setCell (.inr (Nat.le_refl _)) _).setCell (.inr (Nat.le_refl _)) _
end
/-- New, in its bounds. -/
theorem new_yes (w : World) (cap : Nat) (room : Int) (hr : Hid (room = cap)) (h1 : 1 ≤ room) (h2 : room ≤ 4096) :
    Calls Try.prog 26 #[.int .i64 room] w fun e w' => e = .returned (.pointer (some ⟨w.heap.size + 1, 0, none⟩)) ∧ Q w' (w.heap.size + 1) w.heap.size cap [] ∧ Upd [] w w' := by
  obtain rfl : room = cap := hr.out
  have hmk := fun W : World => run_mkN (P := Try.prog) 86 64 [.int .i64 0, .int .u64 0] 2 16 Try.underlying86 info rfl (by omega) cap (by omega) (by omega) W
  have e : ((List.replicate cap ()).flatMap fun _ => [Value.int .i64 0, .int .u64 0]) = (List.replicate cap ((0 : Int), (0 : Int))).flatMap encK := by
    clear hmk h1 h2 hr
    induction cap with
    | zero => rfl
    | succ n ih => rw [List.replicate_succ, List.replicate_succ, List.flatMap_cons, List.flatMap_cons, ih]; rfl
  rw [e] at hmk
  have HF : Hid (Q ((w.alloc (.cells ((List.replicate cap ((0 : Int), (0 : Int))).flatMap encK).toArray 64)).alloc (.cells #[.slice (some ⟨w.heap.size, 0, none⟩) cap cap, .int .i64 0, .int .i64 0] 88)) (w.heap.size + 1) w.heap.size cap []) := by
    refine ⟨0, _, RingAt.new cap (by omega) (0, 0), by omega, ?_, (Blk.new w _ _).alloc _⟩
    have := Blk.new (w.alloc (.cells ((List.replicate cap ((0 : Int), (0 : Int))).flatMap encK).toArray 64)) tS #[.slice (some ⟨w.heap.size, 0, none⟩) cap cap, .int .i64 0, .int .i64 0]
    rw [World.size_alloc] at this
    exact this
  generalize ((List.replicate cap ((0 : Int), (0 : Int))).flatMap encK).toArray = rz at hmk HF
  clear e hr
  go_enter Try.func26, Try.ntmps26
  go_wp2
  go_ret
  exact ⟨rfl, HF.out, ((Upd.refl _ w).alloc _).alloc _⟩
end Go.Proofs.Ytdcekgdihnlbpaa.QA
