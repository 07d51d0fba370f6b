/- The queue's functions at the element type *table.Table: what each does to the queue in memory. Conditions: the queue holds a row, with room for 1 to 4096. -/
import Derived.Test.YtdcekgdihnlbpaaRows
import Derived.Test.YtdcekgdihnlbpaaQueueWords
namespace Go.Proofs.Ytdcekgdihnlbpaa.QT
open Go Go.RowKit Go.Proofs.Ytdcekgdihnlbpaa
set_option maxHeartbeats 400000

abbrev Q (w : World) (p r cap : Nat) (xs : List (Option Addr)) : Prop := IsQ 90 28 (Value.pointer) w p r cap xs
abbrev tS : TypeId := 90
abbrev tE : TypeId := 28
theorem info : (Try.prog.info? 28).map (fun i => (i.zero, i.size, i.bytes)) = some (some (Value.pointer none), 1, 8) := by kernel_rfl

theorem len_any (p : Nat) (w : World) (n : Nat) (h2 : w.cell? ⟨p, 2, none⟩ = some (.int .i64 n)) :
    Calls Try.prog 33 #[.pointer (some ⟨p, 0, none⟩)] w fun e w' => e = .returned (.int .i64 n) ∧ w = w' := by
  go_enter Try.func33, Try.ntmps33
  go_wp2
  go_ret
  exact ⟨rfl, rfl⟩

theorem room_any (p r : Nat) (w : World) (cap n : Nat) (h0 : w.cell? ⟨p, 0, none⟩ = some (.slice (some ⟨r, 0, none⟩) cap cap)) (h2 : w.cell? ⟨p, 2, none⟩ = some (.int .i64 n)) (hn : n ≤ cap) (hc : cap ≤ 4096) :
    Calls Try.prog 38 #[.pointer (some ⟨p, 0, none⟩)] w fun e w' => e = .returned (.int .i64 ((cap : Int) - n)) ∧ ∃ q, w' = w.drewN q := by
  go_enter Try.func38, Try.ntmps38
  go_wp2
  go_quiet (fail)
  go_wp2
  go_ret
  exact ⟨rfl, _, rfl⟩

theorem place_any (p r : Nat) (w : World) (cap a : Nat) (i : Int) (k : Nat) (h0 : w.cell? ⟨p, 0, none⟩ = some (.slice (some ⟨r, 0, none⟩) cap cap)) (h1 : w.cell? ⟨p, 1, none⟩ = some (.int .i64 a))
    (ha : a < cap) (hi0 : 0 ≤ i) (hi : i ≤ 4096) (hc : cap ≤ 4096) (hk : Hid ((k : Int) = ((a : Int) + i) % cap)) :
    Calls Try.prog 40 #[.pointer (some ⟨p, 0, none⟩), .int .i64 i] w fun e w' => e = .returned (.int .i64 k) ∧ ∃ q, w' = w.drewN q := by
  go_enter Try.func40, Try.ntmps40
  go_wp2
  go_quiet (fail)
  go_wp2
  go_ret
  exact ⟨ret_int hk.out.symm, _, rfl⟩

theorem push_cells (p r : Nat) (w : World) (cap a n k : Nat) (x u : (Option Addr)) (ring : List (Option Addr)) (hc0 : QCells (Value.pointer) w p r cap a n ring)
    (ha : a < cap) (hn : n < cap) (hc : cap ≤ 4096) (hpr : p ≠ r) (hk : Hid ((k : Int) = ((a : Int) + (n : Int)) % cap)) (hkc : k < cap) (hx : w.cell? ⟨r, k, none⟩ = some (Value.pointer u)) :
    Calls Try.prog 30 #[.pointer (some ⟨p, 0, none⟩), Value.pointer x] w fun e w' => e = .returned (.bool true) ∧
      ∃ q, w' = ((w.drewN q).setCell ⟨r, k, none⟩ (Value.pointer x)).setCell ⟨p, 2, none⟩ (.int .i64 (n + 1)) := by
  obtain ⟨h0, h1, h2, f1, f2, hcr, f3⟩ := hc0
  have f3k := f3 k
  have hh : ((cap : Int) - n == 0) = false := by simp; omega
  clear hcr f3
  go_enter Try.func30, Try.ntmps30
  go_wp2_with (go_at_call 38; refine (room_any _ _ _ _ _ h0 h2 (by omega) (by omega)).mono ?_; rintro e w' ⟨rfl, q, rfl⟩)
  refine wp_quiet_tail 12 (by kernel_rfl) (by kernel_rfl) (fun _ _ _ _ h => h) ?_
  simp only [List.take_succ_cons, List.take_zero, List.drop_succ_cons, List.drop_zero]
  repeat (go_big_quiet_step ((go_at_call 40; exact quiet_more (place_any _ _ _ cap a n k h0 h1 (by omega) (by omega) (by omega) (by omega) hk))))
  refine wpQuiet_nil ?_
  rintro _ ⟨nq, rfl⟩
  go_wp2
  go_ret
  exact ⟨rfl, _, rfl⟩

theorem push_full (p r : Nat) (w : World) (cap : Nat) (x : (Option Addr)) (h0 : w.cell? ⟨p, 0, none⟩ = some (.slice (some ⟨r, 0, none⟩) cap cap)) (h2 : w.cell? ⟨p, 2, none⟩ = some (.int .i64 cap)) (hc : cap ≤ 4096) :
    Calls Try.prog 30 #[.pointer (some ⟨p, 0, none⟩), Value.pointer x] w fun e w' => e = .returned (.bool false) ∧ ∃ q, w' = w.drewN q := by
  have hh : ((cap : Int) - cap == 0) = true := by simp
  go_enter Try.func30, Try.ntmps30
  go_wp2_with (go_at_call 38; refine (room_any _ _ _ _ _ h0 h2 (by omega) (by omega)).mono ?_; rintro e w' ⟨rfl, q, rfl⟩)
  go_ret
  exact ⟨rfl, _, rfl⟩

theorem peek_cells (p r : Nat) (w : World) (cap a n : Nat) (u : (Option Addr)) (ring : List (Option Addr)) (hc0 : QCells (Value.pointer) w p r cap a n ring) (ha : a < cap) (hn : 0 < n) (hc : cap ≤ 4096) (hx : w.cell? ⟨r, a, none⟩ = some (Value.pointer u)) :
    Calls Try.prog 41 #[.pointer (some ⟨p, 0, none⟩)] w fun e w' => e = .returned (.tuple #[Value.pointer u, .bool true]) ∧ ∃ q, w' = w.drewN q := by
  obtain ⟨h0, h1, h2, f1, f2, hcr, f3⟩ := hc0
  have hh : ((n : Int) == 0) = false := by simp; omega
  clear hcr f3
  go_enter Try.func41, Try.ntmps41
  go_wp2_with (go_at_call 33; refine (len_any _ _ _ h2).mono ?_; rintro e w' ⟨rfl, rfl⟩)
  go_quiet (fail)
  go_wp2
  go_ret2
  exact ⟨rfl, _, rfl⟩

theorem peek_none (p : Nat) (w : World) (h2 : w.cell? ⟨p, 2, none⟩ = some (.int .i64 0)) :
    Calls Try.prog 41 #[.pointer (some ⟨p, 0, none⟩)] w fun e w' => e = .returned (.tuple #[Value.pointer none, .bool false]) ∧ w = w' := by
  have h2' : w.cell? ⟨p, 2, none⟩ = some (.int .i64 ((0 : Nat) : Int)) := h2
  go_enter Try.func41, Try.ntmps41
  go_wp2_with (go_at_call 33; refine (len_any _ _ _ h2').mono ?_; rintro e w' ⟨rfl, rfl⟩)
  go_ret2
  exact ⟨rfl, rfl⟩

theorem pop_none (p : Nat) (w : World) (h2 : w.cell? ⟨p, 2, none⟩ = some (.int .i64 0)) :
    Calls Try.prog 32 #[.pointer (some ⟨p, 0, none⟩)] w fun e w' => e = .returned (.tuple #[Value.pointer none, .bool false]) ∧ w = w' := by
  go_enter Try.func32, Try.ntmps32
  go_wp2_with (go_at_call 41; refine (peek_none _ _ h2).mono ?_; rintro e w' ⟨rfl, rfl⟩)
  go_ret2
  exact ⟨rfl, rfl⟩

theorem pop_cells (p r : Nat) (w : World) (cap a n k : Nat) (u : (Option Addr)) (ring : List (Option Addr)) (hc0 : QCells (Value.pointer) w p r cap a (n + 1) ring) (ha : a < cap) (hn : n < cap) (hc : cap ≤ 4096) (hpr : p ≠ r)
    (hk : Hid ((k : Int) = ((a : Int) + 1) % cap)) (hx : w.cell? ⟨r, a, none⟩ = some (Value.pointer u)) :
    Calls Try.prog 32 #[.pointer (some ⟨p, 0, none⟩)] w fun e w' => e = .returned (.tuple #[Value.pointer u, .bool true]) ∧
      ∃ q q', w' = ((((w.drewN q).setCell ⟨r, a, none⟩ (Value.pointer none)).setCell ⟨p, 1, none⟩ (.int .i64 (k : Nat))).setCell ⟨p, 2, none⟩ (.int .i64 n)).drewN q' := by
  have hc1 := hc0
  obtain ⟨h0, h1, h2, f1, f2, hcr, f3⟩ := hc0
  have f3a := f3 a
  have h2' : w.cell? ⟨p, 2, none⟩ = some (.int .i64 ((n : Int) + 1)) := h2
  have HC := Lib.hid hc1
  clear hcr f3 h2 hc1
  go_enter Try.func32, Try.ntmps32
  go_wp2_with (go_at_call 41; refine (peek_cells _ _ _ cap a (n + 1) u ring HC.out (by omega) (by omega) (by omega) hx).mono ?_; rintro e w' ⟨rfl, q, rfl⟩)
  refine wp_quiet_tail 10 (by kernel_rfl) (by kernel_rfl) (fun _ _ _ _ h => h) ?_
  simp only [List.take_succ_cons, List.take_zero, List.drop_succ_cons, List.drop_zero]
  repeat (go_big_quiet_step (fail))
  refine wpQuiet_nil ?_
  rintro _ ⟨nq, rfl⟩
  go_wp2_with (go_at_call 40; refine (place_any _ r _ cap a 1 k (by rw [World.cell?_setCell_other _ _ _ _ (by simp [Ne.symm hpr])]; exact h0) (by rw [World.cell?_setCell_other _ _ _ _ (by simp [Ne.symm hpr])]; exact h1) (by omega) (by omega) (by omega) (by omega) hk).mono ?_; rintro e w' ⟨rfl, q2, rfl⟩)
  go_ret2
  exact ⟨rfl, _, _, rfl⟩

theorem ne_types : tS ≠ tE := by decide

/-- Push, where there is room. -/
theorem push_yes {w : World} {p r cap : Nat} {xs : List (Option Addr)} (h : Q w p r cap xs) (x : (Option Addr)) (hl : xs.length < cap) :
    Calls Try.prog 30 #[.pointer (some ⟨p, 0, none⟩), Value.pointer x] w fun e w' => e = .returned (.bool true) ∧ Q w' p r cap (xs ++ [x]) ∧ Upd [p, r] w w' := by
  obtain ⟨a, ring, h1, h2, hpr, hc, h3, h4⟩ := IsQ.cells ne_types h
  have hlt := h1.lt xs.length
  have hkc : (a + xs.length) % cap < cap := by have := h1.size; omega
  refine (push_cells p r w cap a xs.length ((a + xs.length) % cap) x ring[(a + xs.length) % cap] ring hc h1.at_ hl h2 hpr ?_ hkc (hc.cr _ hlt)).mono ?_
  · show _ = _
    rw [Int.natCast_emod]; rfl
  · rintro e w' ⟨rfl, q, rfl⟩
    exact ⟨rfl, IsQ.pushed h1 h2 hpr h3 h4 hl x q⟩
theorem push_no {w : World} {p r cap : Nat} {xs : List (Option Addr)} (h : Q w p r cap xs) (x : (Option Addr)) (hl : xs.length = cap) :
    Calls Try.prog 30 #[.pointer (some ⟨p, 0, none⟩), Value.pointer x] w fun e w' => e = .returned (.bool false) ∧ Q w' p r cap xs ∧ Upd [p, r] w w' := by
  obtain ⟨a, ring, h1, h2, hpr, hc, h3, h4⟩ := IsQ.cells ne_types h
  refine (push_full p r w cap x hc.c0 (by rw [hc.c2, hl]) h2).mono ?_
  rintro e w' ⟨rfl, q, rfl⟩
  exact ⟨rfl, h.drewN q, (Upd.refl _ w).drewN q⟩
theorem pop_yes {w : World} {p r cap : Nat} {x : (Option Addr)} {xs : List (Option Addr)} (h : Q w p r cap (x :: xs)) :
    Calls Try.prog 32 #[.pointer (some ⟨p, 0, none⟩)] w fun e w' => e = .returned (.tuple #[Value.pointer x, .bool true]) ∧ Q w' p r cap xs ∧ Upd [p, r] w w' := by
  obtain ⟨a, ring, h1, h2, hpr, hc, h3, h4⟩ := IsQ.cells ne_types h
  have hlen := h1.len
  simp only [List.length_cons] at hlen
  have hx : w.cell? ⟨r, a, none⟩ = some (Value.pointer x) := by
    have hlt : a < ring.length := by have := h1.at_; have := h1.size; omega
    have h0 := h1.first
    rw [List.getElem?_eq_getElem hlt] at h0
    rw [hc.cr a hlt, Option.some.inj h0]
  refine (pop_cells p r w cap a xs.length ((a + 1) % cap) x ring hc h1.at_ (by omega) h2 hpr ?_ hx).mono ?_
  · show _ = _
    rw [Int.natCast_emod]; rfl
  · rintro e w' ⟨rfl, q, q', rfl⟩
    exact ⟨rfl, IsQ.popped (enc := Value.pointer) h1 h2 hpr h3 h4 (none) q q'⟩
theorem pop_no {w : World} {p r cap : Nat} (h : Q w p r cap []) :
    Calls Try.prog 32 #[.pointer (some ⟨p, 0, none⟩)] w fun e w' => e = .returned (.tuple #[Value.pointer none, .bool false]) ∧ w = w' := by
  obtain ⟨a, ring, h1, h2, hpr, hc, h3, h4⟩ := IsQ.cells ne_types h
  exact pop_none p w hc.c2
theorem peek_yes {w : World} {p r cap : Nat} {x : (Option Addr)} {xs : List (Option Addr)} (h : Q w p r cap (x :: xs)) :
    Calls Try.prog 41 #[.pointer (some ⟨p, 0, none⟩)] w fun e w' => e = .returned (.tuple #[Value.pointer x, .bool true]) ∧ Q w' p r cap (x :: xs) ∧ Upd [] w w' := by
  obtain ⟨a, ring, h1, h2, hpr, hc, h3, h4⟩ := IsQ.cells ne_types h
  have hlen := h1.len
  simp only [List.length_cons] at hlen
  have hx : w.cell? ⟨r, a, none⟩ = some (Value.pointer x) := by
    have hlt : a < ring.length := by have := h1.at_; have := h1.size; omega
    have h0 := h1.first
    rw [List.getElem?_eq_getElem hlt] at h0
    rw [hc.cr a hlt, Option.some.inj h0]
  refine (peek_cells p r w cap a _ x ring hc h1.at_ (by simp) h2 hx).mono ?_
  rintro e w' ⟨rfl, q, rfl⟩
  exact ⟨rfl, h.drewN q, (Upd.refl _ w).drewN q⟩
theorem peek_no {w : World} {p r cap : Nat} (h : Q w p r cap []) :
    Calls Try.prog 41 #[.pointer (some ⟨p, 0, none⟩)] w fun e w' => e = .returned (.tuple #[Value.pointer none, .bool false]) ∧ w = w' := by
  obtain ⟨a, ring, h1, h2, hpr, hc, h3, h4⟩ := IsQ.cells ne_types h
  exact peek_none p w hc.c2
theorem len {w : World} {p r cap : Nat} {xs : List (Option Addr)} (h : Q w p r cap xs) :
    Calls Try.prog 33 #[.pointer (some ⟨p, 0, none⟩)] w fun e w' => e = .returned (.int .i64 xs.length) ∧ w = w' := by
  obtain ⟨a, ring, h1, h2, hpr, hc, h3, h4⟩ := IsQ.cells ne_types h
  exact len_any p w _ hc.c2
theorem room {w : World} {p r cap : Nat} {xs : List (Option Addr)} (h : Q w p r cap xs) :
    Calls Try.prog 38 #[.pointer (some ⟨p, 0, none⟩)] w fun e w' => e = .returned (.int .i64 ((cap : Int) - xs.length)) ∧ ∃ q, w' = w.drewN q := by
  obtain ⟨a, ring, h1, h2, hpr, hc, h3, h4⟩ := IsQ.cells ne_types h
  exact room_any p r w cap _ hc.c0 hc.c2 h1.len h2

/-- New, in its bounds. -/
theorem new_yes (w : World) (cap : Nat) (room : Int) (hr : Hid (room = cap)) (h1 : 1 ≤ room) (h2 : room ≤ 4096) :
    Calls Try.prog 27 #[.int .i64 room] w fun e w' => e = .returned (.pointer (some ⟨w.heap.size + 1, 0, none⟩)) ∧ Q w' (w.heap.size + 1) w.heap.size cap [] ∧ Upd [] w w' := by
  obtain rfl : room = cap := hr.out
  have hmk := fun W : World => run_mk (P := Try.prog) 26 28 (Value.pointer none) 8 Try.underlying26 info rfl cap (by omega) (by omega) W
  have HF : Hid (Q ((w.alloc (.cells (List.replicate cap (Value.pointer none)).toArray 28)).alloc (.cells #[.slice (some ⟨w.heap.size, 0, none⟩) cap cap, .int .i64 0, .int .i64 0] 90)) (w.heap.size + 1) w.heap.size cap []) :=
    IsQ.made w cap (by omega) (by omega) (none)
  clear hr
  go_enter Try.func27, Try.ntmps27
  go_wp2
  go_ret
  exact ⟨rfl, HF.out, ((Upd.refl _ w).alloc _).alloc _⟩
theorem new_no (w : World) (room : Int) (hr : room < 1 ∨ 4096 < room) :
    Calls Try.prog 27 #[.int .i64 room] w fun e w' => e = .returned (.pointer none) ∧ w = w' := by
  rcases hr with h | h
  · go_enter Try.func27, Try.ntmps27
    go_wp2
    go_ret
    exact ⟨rfl, rfl⟩
  · have h' : ¬ room < 1 := by omega
    go_enter Try.func27, Try.ntmps27
    go_wp2
    go_ret
    exact ⟨rfl, rfl⟩

theorem push_any {w : World} {p r cap : Nat} {xs : List (Option Addr)} (h : Q w p r cap xs) (x : (Option Addr)) :
    Calls Try.prog 30 #[.pointer (some ⟨p, 0, none⟩), Value.pointer x] w fun e w' => (∃ b, e = .returned (.bool b)) ∧ (∃ ys, Q w' p r cap ys) ∧ Upd [p, r] w w' := by
  by_cases hl : xs.length < cap
  · exact (push_yes h x hl).mono fun e w' ⟨he, hq, hu⟩ => ⟨⟨_, he⟩, ⟨_, hq⟩, hu⟩
  · have := h.bound
    exact (push_no h x (by omega)).mono fun e w' ⟨he, hq, hu⟩ => ⟨⟨_, he⟩, ⟨_, hq⟩, hu⟩
theorem pop_any {w : World} {p r cap : Nat} {xs : List (Option Addr)} (h : Q w p r cap xs) :
    Calls Try.prog 32 #[.pointer (some ⟨p, 0, none⟩)] w fun e w' => (∃ x b, e = .returned (.tuple #[Value.pointer x, .bool b])) ∧ (∃ ys, Q w' p r cap ys) ∧ Upd [p, r] w w' := by
  cases xs with
  | nil => exact (pop_no h).mono fun e w' ⟨he, hw⟩ => ⟨⟨none, _, he⟩, ⟨_, hw ▸ h⟩, hw ▸ Upd.refl _ _⟩
  | cons x xs => exact (pop_yes h).mono fun e w' ⟨he, hq, hu⟩ => ⟨⟨_, _, he⟩, ⟨_, hq⟩, hu⟩
theorem len_n {w : World} {p r cap n : Nat} {xs : List (Option Addr)} (h : Q w p r cap xs) (hn : xs.length = n) :
    Calls Try.prog 33 #[.pointer (some ⟨p, 0, none⟩)] w fun e w' => e = .returned (.int .i64 n) ∧ w = w' := by
  subst hn; exact len h
theorem room_n {w : World} {p r cap n : Nat} {xs : List (Option Addr)} (h : Q w p r cap xs) (hn : xs.length = n) :
    Calls Try.prog 38 #[.pointer (some ⟨p, 0, none⟩)] w fun e w' => e = .returned (.int .i64 ((cap : Int) - n)) ∧ ∃ q, w' = w.drewN q := by
  subst hn; exact room h
end Go.Proofs.Ytdcekgdihnlbpaa.QT
