/- The queue's functions at the element type string: what each does to the queue in memory. Conditions: the queue holds a row, with room for 1 to 4096. -/
import Derived.Test.YtbgfoeaddnhnnaaRows
import Derived.Test.YtbgfoeaddnhnnaaQueueWords
namespace Go.Proofs.Ytbgfoeaddnhnnaa.QS
open Go Go.RowKit Go.Proofs.Ytbgfoeaddnhnnaa
set_option maxHeartbeats 400000

abbrev Q (w : World) (p r cap : Nat) (xs : List ByteArray) : Prop := IsQ 56 9 (Value.string) w p r cap xs
abbrev tS : TypeId := 56
abbrev tE : TypeId := 9
theorem info : (Try.prog.info? 9).map (fun i => (i.zero, i.size, i.bytes)) = some (some (Value.string ByteArray.empty), 1, 16) := by kernel_rfl

theorem len_any (p : Nat) (w : World) (n : Nat) (h2 : w.cell? ⟨p, 2, none⟩ = some (.int .i64 n)) :
    Calls Try.prog 21 #[.pointer (some ⟨p, 0, none⟩)] w fun e w' => e = .returned (.int .i64 n) ∧ w = w' := by
  go_enter Try.func21, Try.ntmps21
  go_wp2
  go_ret
  exact ⟨rfl, rfl⟩

theorem room_any (p r : Nat) (w : World) (cap n : Nat) (h0 : w.cell? ⟨p, 0, none⟩ = some (.slice (some ⟨r, 0, none⟩) cap cap)) (h2 : w.cell? ⟨p, 2, none⟩ = some (.int .i64 n)) (hn : n ≤ cap) (hc : cap ≤ 4096) :
    Calls Try.prog 22 #[.pointer (some ⟨p, 0, none⟩)] w fun e w' => e = .returned (.int .i64 ((cap : Int) - n)) ∧ ∃ q, w' = w.drewN q := by
  go_enter Try.func22, Try.ntmps22
  go_wp2
  go_quiet (fail)
  go_wp2
  go_ret
  exact ⟨rfl, _, rfl⟩

theorem place_any (p r : Nat) (w : World) (cap a : Nat) (i : Int) (k : Nat) (h0 : w.cell? ⟨p, 0, none⟩ = some (.slice (some ⟨r, 0, none⟩) cap cap)) (h1 : w.cell? ⟨p, 1, none⟩ = some (.int .i64 a))
    (ha : a < cap) (hi0 : 0 ≤ i) (hi : i ≤ 4096) (hc : cap ≤ 4096) (hk : Hid ((k : Int) = ((a : Int) + i) % cap)) :
    Calls Try.prog 26 #[.pointer (some ⟨p, 0, none⟩), .int .i64 i] w fun e w' => e = .returned (.int .i64 k) ∧ ∃ q, w' = w.drewN q := by
  go_enter Try.func26, Try.ntmps26
  go_wp2
  go_quiet (fail)
  go_wp2
  go_ret
  exact ⟨ret_int hk.out.symm, _, rfl⟩

theorem push_cells (p r : Nat) (w : World) (cap a n k : Nat) (x u : ByteArray) (ring : List ByteArray) (hc0 : QCells (Value.string) w p r cap a n ring)
    (ha : a < cap) (hn : n < cap) (hc : cap ≤ 4096) (hpr : p ≠ r) (hk : Hid ((k : Int) = ((a : Int) + (n : Int)) % cap)) (hkc : k < cap) (hx : w.cell? ⟨r, k, none⟩ = some (Value.string u)) :
    Calls Try.prog 20 #[.pointer (some ⟨p, 0, none⟩), Value.string x] w fun e w' => e = .returned (.bool true) ∧
      ∃ q, w' = ((w.drewN q).setCell ⟨r, k, none⟩ (Value.string x)).setCell ⟨p, 2, none⟩ (.int .i64 (n + 1)) := by
  obtain ⟨h0, h1, h2, f1, f2, hcr, f3⟩ := hc0
  have f3k := f3 k
  have hh : ((cap : Int) - n == 0) = false := by simp; omega
  clear hcr f3
  go_enter Try.func20, Try.ntmps20
  go_wp2_with (go_at_call 22; refine (room_any _ _ _ _ _ h0 h2 (by omega) (by omega)).mono ?_; rintro e w' ⟨rfl, q, rfl⟩)
  refine wp_quiet_tail 12 (by kernel_rfl) (by kernel_rfl) (fun _ _ _ _ h => h) ?_
  simp only [List.take_succ_cons, List.take_zero, List.drop_succ_cons, List.drop_zero]
  repeat (go_big_quiet_step ((go_at_call 26; exact quiet_more (place_any _ _ _ cap a n k h0 h1 (by omega) (by omega) (by omega) (by omega) hk))))
  refine wpQuiet_nil ?_
  rintro _ ⟨nq, rfl⟩
  go_wp2
  go_ret
  exact ⟨rfl, _, rfl⟩

theorem push_full (p r : Nat) (w : World) (cap : Nat) (x : ByteArray) (h0 : w.cell? ⟨p, 0, none⟩ = some (.slice (some ⟨r, 0, none⟩) cap cap)) (h2 : w.cell? ⟨p, 2, none⟩ = some (.int .i64 cap)) (hc : cap ≤ 4096) :
    Calls Try.prog 20 #[.pointer (some ⟨p, 0, none⟩), Value.string x] w fun e w' => e = .returned (.bool false) ∧ ∃ q, w' = w.drewN q := by
  have hh : ((cap : Int) - cap == 0) = true := by simp
  go_enter Try.func20, Try.ntmps20
  go_wp2_with (go_at_call 22; refine (room_any _ _ _ _ _ h0 h2 (by omega) (by omega)).mono ?_; rintro e w' ⟨rfl, q, rfl⟩)
  go_ret
  exact ⟨rfl, _, rfl⟩

theorem peek_cells (p r : Nat) (w : World) (cap a n : Nat) (u : ByteArray) (ring : List ByteArray) (hc0 : QCells (Value.string) w p r cap a n ring) (ha : a < cap) (hn : 0 < n) (hc : cap ≤ 4096) (hx : w.cell? ⟨r, a, none⟩ = some (Value.string u)) :
    Calls Try.prog 19 #[.pointer (some ⟨p, 0, none⟩)] w fun e w' => e = .returned (.tuple #[Value.string u, .bool true]) ∧ ∃ q, w' = w.drewN q := by
  obtain ⟨h0, h1, h2, f1, f2, hcr, f3⟩ := hc0
  have hh : ((n : Int) == 0) = false := by simp; omega
  clear hcr f3
  go_enter Try.func19, Try.ntmps19
  go_wp2_with (go_at_call 21; refine (len_any _ _ _ h2).mono ?_; rintro e w' ⟨rfl, rfl⟩)
  go_quiet (fail)
  go_wp2
  go_ret2
  exact ⟨rfl, _, rfl⟩

theorem peek_none (p : Nat) (w : World) (h2 : w.cell? ⟨p, 2, none⟩ = some (.int .i64 0)) :
    Calls Try.prog 19 #[.pointer (some ⟨p, 0, none⟩)] w fun e w' => e = .returned (.tuple #[Value.string ByteArray.empty, .bool false]) ∧ w = w' := by
  have h2' : w.cell? ⟨p, 2, none⟩ = some (.int .i64 ((0 : Nat) : Int)) := h2
  go_enter Try.func19, Try.ntmps19
  go_wp2_with (go_at_call 21; refine (len_any _ _ _ h2').mono ?_; rintro e w' ⟨rfl, rfl⟩)
  go_ret2
  exact ⟨rfl, rfl⟩

theorem pop_none (p : Nat) (w : World) (h2 : w.cell? ⟨p, 2, none⟩ = some (.int .i64 0)) :
    Calls Try.prog 18 #[.pointer (some ⟨p, 0, none⟩)] w fun e w' => e = .returned (.tuple #[Value.string ByteArray.empty, .bool false]) ∧ w = w' := by
  go_enter Try.func18, Try.ntmps18
  go_wp2_with (go_at_call 19; refine (peek_none _ _ h2).mono ?_; rintro e w' ⟨rfl, rfl⟩)
  go_ret2
  exact ⟨rfl, rfl⟩

theorem pop_cells (p r : Nat) (w : World) (cap a n k : Nat) (u : ByteArray) (ring : List ByteArray) (hc0 : QCells (Value.string) w p r cap a (n + 1) ring) (ha : a < cap) (hn : n < cap) (hc : cap ≤ 4096) (hpr : p ≠ r)
    (hk : Hid ((k : Int) = ((a : Int) + 1) % cap)) (hx : w.cell? ⟨r, a, none⟩ = some (Value.string u)) :
    Calls Try.prog 18 #[.pointer (some ⟨p, 0, none⟩)] w fun e w' => e = .returned (.tuple #[Value.string u, .bool true]) ∧
      ∃ q q', w' = ((((w.drewN q).setCell ⟨r, a, none⟩ (Value.string ByteArray.empty)).setCell ⟨p, 1, none⟩ (.int .i64 (k : Nat))).setCell ⟨p, 2, none⟩ (.int .i64 n)).drewN q' := by
  have hc1 := hc0
  obtain ⟨h0, h1, h2, f1, f2, hcr, f3⟩ := hc0
  have f3a := f3 a
  have h2' : w.cell? ⟨p, 2, none⟩ = some (.int .i64 ((n : Int) + 1)) := h2
  have HC := Lib.hid hc1
  clear hcr f3 h2 hc1
  go_enter Try.func18, Try.ntmps18
  go_wp2_with (go_at_call 19; refine (peek_cells _ _ _ cap a (n + 1) u ring HC.out (by omega) (by omega) (by omega) hx).mono ?_; rintro e w' ⟨rfl, q, rfl⟩)
  refine wp_quiet_tail 10 (by kernel_rfl) (by kernel_rfl) (fun _ _ _ _ h => h) ?_
  simp only [List.take_succ_cons, List.take_zero, List.drop_succ_cons, List.drop_zero]
  repeat (go_big_quiet_step (fail))
  refine wpQuiet_nil ?_
  rintro _ ⟨nq, rfl⟩
  go_wp2_with (go_at_call 26; refine (place_any _ r _ cap a 1 k (by rw [World.cell?_setCell_other _ _ _ _ (by simp [Ne.symm hpr])]; exact h0) (by rw [World.cell?_setCell_other _ _ _ _ (by simp [Ne.symm hpr])]; exact h1) (by omega) (by omega) (by omega) (by omega) hk).mono ?_; rintro e w' ⟨rfl, q2, rfl⟩)
  go_ret2
  exact ⟨rfl, _, _, rfl⟩

theorem ne_types : tS ≠ tE := by decide

/-- Push, where there is room. -/
theorem push_yes {w : World} {p r cap : Nat} {xs : List ByteArray} (h : Q w p r cap xs) (x : ByteArray) (hl : xs.length < cap) :
    Calls Try.prog 20 #[.pointer (some ⟨p, 0, none⟩), Value.string x] w fun e w' => e = .returned (.bool true) ∧ Q w' p r cap (xs ++ [x]) ∧ Upd [p, r] w w' := by
  obtain ⟨a, ring, h1, h2, hpr, hc, h3, h4⟩ := IsQ.cells ne_types h
  have hlt := h1.lt xs.length
  have hkc : (a + xs.length) % cap < cap := by have := h1.size; omega
  refine (push_cells p r w cap a xs.length ((a + xs.length) % cap) x ring[(a + xs.length) % cap] ring hc h1.at_ hl h2 hpr ?_ hkc (hc.cr _ hlt)).mono ?_
  · show _ = _
    rw [Int.natCast_emod]; rfl
  · rintro e w' ⟨rfl, q, rfl⟩
    exact ⟨rfl, IsQ.pushed h1 h2 hpr h3 h4 hl x q⟩
theorem push_no {w : World} {p r cap : Nat} {xs : List ByteArray} (h : Q w p r cap xs) (x : ByteArray) (hl : xs.length = cap) :
    Calls Try.prog 20 #[.pointer (some ⟨p, 0, none⟩), Value.string x] w fun e w' => e = .returned (.bool false) ∧ Q w' p r cap xs ∧ Upd [p, r] w w' := by
  obtain ⟨a, ring, h1, h2, hpr, hc, h3, h4⟩ := IsQ.cells ne_types h
  refine (push_full p r w cap x hc.c0 (by rw [hc.c2, hl]) h2).mono ?_
  rintro e w' ⟨rfl, q, rfl⟩
  exact ⟨rfl, h.drewN q, (Upd.refl _ w).drewN q⟩
theorem pop_yes {w : World} {p r cap : Nat} {x : ByteArray} {xs : List ByteArray} (h : Q w p r cap (x :: xs)) :
    Calls Try.prog 18 #[.pointer (some ⟨p, 0, none⟩)] w fun e w' => e = .returned (.tuple #[Value.string x, .bool true]) ∧ Q w' p r cap xs ∧ Upd [p, r] w w' := by
  obtain ⟨a, ring, h1, h2, hpr, hc, h3, h4⟩ := IsQ.cells ne_types h
  have hlen := h1.len
  simp only [List.length_cons] at hlen
  have hx : w.cell? ⟨r, a, none⟩ = some (Value.string x) := by
    have hlt : a < ring.length := by have := h1.at_; have := h1.size; omega
    have h0 := h1.first
    rw [List.getElem?_eq_getElem hlt] at h0
    rw [hc.cr a hlt, Option.some.inj h0]
  refine (pop_cells p r w cap a xs.length ((a + 1) % cap) x ring hc h1.at_ (by omega) h2 hpr ?_ hx).mono ?_
  · show _ = _
    rw [Int.natCast_emod]; rfl
  · rintro e w' ⟨rfl, q, q', rfl⟩
    exact ⟨rfl, IsQ.popped (enc := Value.string) h1 h2 hpr h3 h4 (ByteArray.empty) q q'⟩
theorem pop_no {w : World} {p r cap : Nat} (h : Q w p r cap []) :
    Calls Try.prog 18 #[.pointer (some ⟨p, 0, none⟩)] w fun e w' => e = .returned (.tuple #[Value.string ByteArray.empty, .bool false]) ∧ w = w' := by
  obtain ⟨a, ring, h1, h2, hpr, hc, h3, h4⟩ := IsQ.cells ne_types h
  exact pop_none p w hc.c2
theorem peek_yes {w : World} {p r cap : Nat} {x : ByteArray} {xs : List ByteArray} (h : Q w p r cap (x :: xs)) :
    Calls Try.prog 19 #[.pointer (some ⟨p, 0, none⟩)] w fun e w' => e = .returned (.tuple #[Value.string x, .bool true]) ∧ Q w' p r cap (x :: xs) ∧ Upd [] w w' := by
  obtain ⟨a, ring, h1, h2, hpr, hc, h3, h4⟩ := IsQ.cells ne_types h
  have hlen := h1.len
  simp only [List.length_cons] at hlen
  have hx : w.cell? ⟨r, a, none⟩ = some (Value.string x) := by
    have hlt : a < ring.length := by have := h1.at_; have := h1.size; omega
    have h0 := h1.first
    rw [List.getElem?_eq_getElem hlt] at h0
    rw [hc.cr a hlt, Option.some.inj h0]
  refine (peek_cells p r w cap a _ x ring hc h1.at_ (by simp) h2 hx).mono ?_
  rintro e w' ⟨rfl, q, rfl⟩
  exact ⟨rfl, h.drewN q, (Upd.refl _ w).drewN q⟩
theorem peek_no {w : World} {p r cap : Nat} (h : Q w p r cap []) :
    Calls Try.prog 19 #[.pointer (some ⟨p, 0, none⟩)] w fun e w' => e = .returned (.tuple #[Value.string ByteArray.empty, .bool false]) ∧ w = w' := by
  obtain ⟨a, ring, h1, h2, hpr, hc, h3, h4⟩ := IsQ.cells ne_types h
  exact peek_none p w hc.c2
theorem len {w : World} {p r cap : Nat} {xs : List ByteArray} (h : Q w p r cap xs) :
    Calls Try.prog 21 #[.pointer (some ⟨p, 0, none⟩)] w fun e w' => e = .returned (.int .i64 xs.length) ∧ w = w' := by
  obtain ⟨a, ring, h1, h2, hpr, hc, h3, h4⟩ := IsQ.cells ne_types h
  exact len_any p w _ hc.c2
theorem room {w : World} {p r cap : Nat} {xs : List ByteArray} (h : Q w p r cap xs) :
    Calls Try.prog 22 #[.pointer (some ⟨p, 0, none⟩)] w fun e w' => e = .returned (.int .i64 ((cap : Int) - xs.length)) ∧ ∃ q, w' = w.drewN q := by
  obtain ⟨a, ring, h1, h2, hpr, hc, h3, h4⟩ := IsQ.cells ne_types h
  exact room_any p r w cap _ hc.c0 hc.c2 h1.len h2

/-- New, in its bounds. -/
theorem new_yes (w : World) (cap : Nat) (room : Int) (hr : Hid (room = cap)) (h1 : 1 ≤ room) (h2 : room ≤ 4096) :
    Calls Try.prog 24 #[.int .i64 room] w fun e w' => e = .returned (.pointer (some ⟨w.heap.size + 1, 0, none⟩)) ∧ Q w' (w.heap.size + 1) w.heap.size cap [] ∧ Upd [] w w' := by
  obtain rfl : room = cap := hr.out
  have hmk := fun W : World => run_mk (P := Try.prog) 45 9 (Value.string ByteArray.empty) 16 Try.underlying45 info rfl cap (by omega) (by omega) W
  have HF : Hid (Q ((w.alloc (.cells (List.replicate cap (Value.string ByteArray.empty)).toArray 9)).alloc (.cells #[.slice (some ⟨w.heap.size, 0, none⟩) cap cap, .int .i64 0, .int .i64 0] 56)) (w.heap.size + 1) w.heap.size cap []) :=
    IsQ.made w cap (by omega) (by omega) (ByteArray.empty)
  clear hr
  go_enter Try.func24, Try.ntmps24
  go_wp2
  go_ret
  exact ⟨rfl, HF.out, ((Upd.refl _ w).alloc _).alloc _⟩
theorem new_no (w : World) (room : Int) (hr : room < 1 ∨ 4096 < room) :
    Calls Try.prog 24 #[.int .i64 room] w fun e w' => e = .returned (.pointer none) ∧ w = w' := by
  rcases hr with h | h
  · go_enter Try.func24, Try.ntmps24
    go_wp2
    go_ret
    exact ⟨rfl, rfl⟩
  · have h' : ¬ room < 1 := by omega
    go_enter Try.func24, Try.ntmps24
    go_wp2
    go_ret
    exact ⟨rfl, rfl⟩

theorem ringAt {w : World} {p r cap a : Nat} {xs ring : List ByteArray} (h1 : RingAt ring cap a xs) (hc : QCells (Value.string) w p r cap a xs.length ring) (k : Nat) (hk : k < xs.length) :
    w.cell? ⟨r, (a + k) % cap, none⟩ = some (Value.string xs[k]) := by
  have hlt := h1.lt k
  have h0 := h1.get k hk
  rw [List.getElem?_eq_getElem hlt, List.getElem?_eq_getElem hk] at h0
  rw [hc.cr _ hlt, Option.some.inj h0]

theorem all {w : World} {p r cap : Nat} {xs : List ByteArray} (h : Q w p r cap xs) :
    Calls Try.prog 23 #[.pointer (some ⟨p, 0, none⟩)] w fun e w' => ∃ v, e = .returned v ∧ w'.ownsRow w.heap.size tE 1 v xs.length (xs.map (Value.string)) ∧ Upd [] w w' := by
  obtain ⟨i0, hi0, hz0, hz1, hz2⟩ := info_parts info
  have hbd := h.bound
  have hlen := Lib.hid (len h)
  obtain ⟨n, hn⟩ : ∃ n, n = xs.length := ⟨_, rfl⟩
  rw [← hn] at hlen hbd
  have HN := Lib.hid hn
  clear hn
  go_enter Try.func23, Try.ntmps23
  go_wp2_with (go_at_call 21; refine hlen.out.mono ?_; rintro e w' ⟨rfl, rfl⟩)
  go_loopw [3, 7] (fun v i wr => ∃ k : Nat, k ≤ n ∧ i = .int .i64 k ∧ wr.ownsRow w.heap.size tE 1 v k ((xs.map (Value.string)).take k) ∧ Upd [] w wr) (fun _ i _ => n - (intOf i).toNat)
  case atStart => exact ⟨0, Nat.zero_le _, rfl, World.ownsRow_nil _ _ _ _, Upd.refl _ _⟩
  case round =>
    obtain ⟨k, hk, rfl, hown, hu⟩ := hrel
    by_cases hlt : k < n
    · obtain ⟨a, ring, h1, h2, hpr, hc, h3, h4⟩ := IsQ.cells ne_types (h.upd hu (by simp) (by simp))
      have hkx : k < xs.length := by rw [← HN.out]; exact hlt
      obtain ⟨j, hj⟩ : ∃ j, j = (a + k) % cap := ⟨_, rfl⟩
      have hcell := ringAt h1 hc k hkx
      rw [← hj] at hcell
      have hjc : j < cap := by rw [hj]; exact Nat.mod_lt _ (by omega)
      have HJ : Hid ((j : Int) = ((a : Int) + (k : Int)) % cap) := by show _ = _; rw [hj, Int.natCast_emod]; rfl
      have hacap := h1.at_
      have hTK : Hid ((xs.map (Value.string)).take (k + 1) = (xs.map (Value.string)).take k ++ [Value.string xs[k]]) := by
        show _ = _
        rw [List.take_succ_eq_append_getElem (by simpa using hkx)]; simp
      obtain ⟨x, hx⟩ : ∃ x, x = xs[k] := ⟨_, rfl⟩
      rw [← hx] at hcell hTK
      obtain ⟨g0, g1, _, _, _, _, _⟩ := hc
      have hsz := hu.size
      clear hj h1 h3 h4 hx hlen
      go_wp2_with fail
      refine wp_moves_quiet_tail 1 10 (by kernel_rfl) (by kernel_rfl) (fun _ _ _ _ h => h) ?_
      simp only [List.take_succ_cons, List.take_zero, List.drop_succ_cons, List.drop_zero]
      go_big_quiet_step (fail)
      refine wpQuiet_nil ?_
      repeat (go_big_quiet_step ((go_at_call 26; exact Calls.quiet_of (place_any _ _ _ cap a k j g0 g1 (by omega) (by omega) (by omega) (by omega) HJ))))
      refine wpQuiet_nil ?_
      rintro _ ⟨nq, rfl⟩
      go_wp2_with (at_builtin; refine wpList_append_own _ rfl _ _ 45 rfl w.heap.size 9 i0 _ 1 16 Try.underlying45 hi0 hz0 hz1 hz2 rfl (by decide) _ _ _ rfl (hown.alloc _) ⟨wr.heap.size, 0, none⟩ 1 1 [Value.string x] rfl rfl ?c1 ?c2 ?c3 ?c4 ?c5 ?_)
      case c1 =>
        intro j u hj
        match j, hj with
        | 0, hj => simp at hj; subst hj; exact (Blk.new (wr.drewN nq) 9 #[Value.string x]).cell 0
      case c2 => intro u hu; simp at hu; subst hu; rfl
      case c3 => unfold maxLen; omega
      case c4 => omega
      case c5 => simp; omega
      · intro v' w1 hown' hgrow _
        have hu' : Upd [] w w1 := ((hu.drewN nq).alloc (.cells #[Value.string x] 9)).trans (Upd.of_grown hgrow) (fun s hs => .inr ?_)
        · have hown1 : w1.ownsRow w.heap.size tE 1 v' (k + 1) ((xs.map (Value.string)).take (k + 1)) := by rw [hTK.out]; exact hown'
          clear hown' hgrow hown
          go_wp2
          go_roundw
          case rel => exact ⟨k + 1, by omega, by go_num, hown1, hu'⟩
          case measure => simp [intOf]; omega
        · rcases hown.2 with ⟨hv, _⟩ | ⟨g, _, _, hv, hg, _⟩
          · rw [hv] at hs; simp [Value.ownBlock] at hs
          · rw [hv] at hs
            have : s = g := by simpa [Value.ownBlock] using hs
            omega
    · obtain rfl : k = n := by omega
      have hown1 : wr.ownsRow w.heap.size tE 1 u3 xs.length (xs.map (Value.string)) := by
        have h1 : k = xs.length := HN.out
        rw [h1, List.take_of_length_le (by simp)] at hown
        exact hown
      clear hown hlen
      go_wp2
      go_ret
      exact ⟨_, rfl, hown1, hu⟩

theorem push_any {w : World} {p r cap : Nat} {xs : List ByteArray} (h : Q w p r cap xs) (x : ByteArray) :
    Calls Try.prog 20 #[.pointer (some ⟨p, 0, none⟩), Value.string x] w fun e w' => (∃ b, e = .returned (.bool b)) ∧ (∃ ys, Q w' p r cap ys) ∧ Upd [p, r] w w' := by
  by_cases hl : xs.length < cap
  · exact (push_yes h x hl).mono fun e w' ⟨he, hq, hu⟩ => ⟨⟨_, he⟩, ⟨_, hq⟩, hu⟩
  · have := h.bound
    exact (push_no h x (by omega)).mono fun e w' ⟨he, hq, hu⟩ => ⟨⟨_, he⟩, ⟨_, hq⟩, hu⟩
theorem pop_any {w : World} {p r cap : Nat} {xs : List ByteArray} (h : Q w p r cap xs) :
    Calls Try.prog 18 #[.pointer (some ⟨p, 0, none⟩)] w fun e w' => (∃ x b, e = .returned (.tuple #[Value.string x, .bool b])) ∧ (∃ ys, Q w' p r cap ys) ∧ Upd [p, r] w w' := by
  cases xs with
  | nil => exact (pop_no h).mono fun e w' ⟨he, hw⟩ => ⟨⟨ByteArray.empty, _, he⟩, ⟨_, hw ▸ h⟩, hw ▸ Upd.refl _ _⟩
  | cons x xs => exact (pop_yes h).mono fun e w' ⟨he, hq, hu⟩ => ⟨⟨_, _, he⟩, ⟨_, hq⟩, hu⟩
theorem len_n {w : World} {p r cap n : Nat} {xs : List ByteArray} (h : Q w p r cap xs) (hn : xs.length = n) :
    Calls Try.prog 21 #[.pointer (some ⟨p, 0, none⟩)] w fun e w' => e = .returned (.int .i64 n) ∧ w = w' := by
  subst hn; exact len h
theorem room_n {w : World} {p r cap n : Nat} {xs : List ByteArray} (h : Q w p r cap xs) (hn : xs.length = n) :
    Calls Try.prog 22 #[.pointer (some ⟨p, 0, none⟩)] w fun e w' => e = .returned (.int .i64 ((cap : Int) - n)) ∧ ∃ q, w' = w.drewN q := by
  subst hn; exact room h
end Go.Proofs.Ytbgfoeaddnhnnaa.QS
