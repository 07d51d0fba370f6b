/- cmd's New: a board of its own. Conditions: 1 to 4 shards, rooms for 1 to 1000; else none is. -/
import Derived.Test.YtdcekgdihnlbpaaBoard4
import Derived.Deep.RegionHeld3
import Derived.Deep.DrawnRows
import Derived.Deep.DeepCutAuto
import Derived.Deep.LoopGhost
import Derived.Deep.AppendLies
import Derived.Deep.RegionLaw
namespace Go.Proofs.Ytdcekgdihnlbpaa
open Go Go.RowKit
set_option maxHeartbeats 400000

theorem infoU : (Try.prog.info? 30).map (fun i => (i.zero, i.size, i.bytes)) = some (some (.int .u64 0), 1, 8) := by kernel_rfl
theorem infoQ : (Try.prog.info? 68).map (fun i => (i.zero, i.size, i.bytes)) = some (some (.pointer none), 1, 8) := by kernel_rfl

theorem row_type {w : World} {base : Nat} {e : TypeId} {size n : Nat} {v : Value} {xs : List Value} (h : w.ownsRow base e size v n xs) : ∀ g, v.ownBlock = some g → ∃ cur, Blk w g e cur := by
  intro g hg
  rcases h.2 with ⟨hv, _⟩ | ⟨g', cap, cur, hv, _, hh, _⟩
  · rw [hv] at hg; simp [Value.ownBlock] at hg
  · rw [hv] at hg
    have : g' = g := by simpa [Value.ownBlock] using hg
    subst this
    exact ⟨cur, hh⟩

/-- a board under way: so many queues are made -/
structure NB (w wr : World) (b pa ra la n k i : Nat) (prs : List (Nat × Nat)) (tv : Value) : Prop where
  blk : Blk wr b 67 #[tv, .pointer (some ⟨pa, 0, none⟩), .slice (some ⟨la, 0, none⟩) n n]
  row : wr.ownsRow w.heap.size 68 1 tv i (prs.map fun q => Value.pointer (some ⟨q.1, 0, none⟩))
  len : prs.length = i
  q : ∀ (j : Nat) (pr : Nat × Nat), prs[j]? = some pr → QT.Q wr pr.1 pr.2 k []
  inj : ∀ (i j : Nat) (p p' : Nat × Nat), prs[i]? = some p → prs[j]? = some p' → i ≠ j → p.1 ≠ p'.1 ∧ p.2 ≠ p'.2
  a : QA.Q wr pa ra (n * k) []
  l : Blk wr la 30 ((List.replicate n (0 : Int)).map (Value.int .u64)).toArray
  up : Upd [] w wr
  new : w.heap.size ≤ b ∧ w.heap.size ≤ pa ∧ w.heap.size ≤ ra ∧ w.heap.size ≤ la
  newq : ∀ pr, pr ∈ prs → w.heap.size ≤ pr.1 ∧ w.heap.size ≤ pr.2

theorem NB.step {w wr w2 w3 : World} {b pa ra la n k i p r g cap : Nat} {prs : List (Nat × Nat)} {tv : Value} {o : Obj} (h : NB w wr b pa ra la n k i prs tv) (hq : QT.Q w2 p r k []) (hp : wr.heap.size ≤ p) (hr : wr.heap.size ≤ r) (u2 : Upd [] wr w2)
    (hown : w3.ownsRow w.heap.size 68 1 (.slice (some ⟨g, 0, none⟩) (i + 1) cap) (i + 1) ((prs.map fun q => Value.pointer (some ⟨q.1, 0, none⟩)) ++ [.pointer (some ⟨p, 0, none⟩)])) (hg : (w2.alloc o).grownBy w3 tv.ownBlock) :
    NB w (w3.setCell ⟨b, 0, none⟩ (.slice (some ⟨g, 0, none⟩) (i + 1) cap)) b pa ra la n k (i + 1) (prs ++ [(p, r)]) (.slice (some ⟨g, 0, none⟩) (i + 1) cap) := by
  have u3 : Upd [] wr (w2.alloc o) := u2.alloc o
  have hrow : (w2.alloc o).ownsRow w.heap.size 68 1 tv i (prs.map fun q => Value.pointer (some ⟨q.1, 0, none⟩)) := ownsRow_upd h.row u3 (by simp)
  have u4 : Upd tv.ownBlock.toList (w2.alloc o) w3 := Upd.of_grown hg
  have ne4 : ∀ {x t cs}, Blk (w2.alloc o) x t cs → t ≠ 68 → x ∉ tv.ownBlock.toList := fun hb ht hm => by
    obtain ⟨cur, hc⟩ := row_type hrow _ (by simpa using hm)
    exact hb.ne hc ht rfl
  have keep : ∀ {x t cs}, Blk wr x t cs → t ≠ 68 → Blk w3 x t cs := fun hb ht => (hb.upd u3 (by simp)).upd u4 (ne4 (hb.upd u3 (by simp)) ht)
  have hb3 := keep h.blk (by decide)
  have u5 : Upd [b] w3 (w3.setCell ⟨b, 0, none⟩ (.slice (some ⟨g, 0, none⟩) (i + 1) cap)) := (Upd.refl _ _).setCell (by simp) _
  have ne5 : ∀ {x t cs}, Blk w3 x t cs → t ≠ 67 → x ∉ [b] := fun hb ht => by
    simp only [List.mem_cons, List.not_mem_nil, or_false]
    exact hb.ne hb3 ht
  have keep5 : ∀ {x t cs}, Blk w3 x t cs → t ≠ 67 → Blk (w3.setCell ⟨b, 0, none⟩ (.slice (some ⟨g, 0, none⟩) (i + 1) cap)) x t cs := fun hb ht => hb.upd u5 (ne5 hb ht)
  have kq : ∀ {W : World} {p r : Nat}, QT.Q W p r k [] → (∀ {x t cs}, Blk W x t cs → t ≠ 68 → Blk w3 x t cs) → QT.Q (w3.setCell ⟨b, 0, none⟩ (.slice (some ⟨g, 0, none⟩) (i + 1) cap)) p r k [] := fun hq kk => by
    obtain ⟨a, ring, h1, h2, h3, h4⟩ := hq
    exact ⟨a, ring, h1, h2, keep5 (kk h3 (by decide)) (by decide), keep5 (kk h4 (by decide)) (by decide)⟩
  have ka : QA.Q (w3.setCell ⟨b, 0, none⟩ (.slice (some ⟨g, 0, none⟩) (i + 1) cap)) pa ra (n * k) [] := by
    obtain ⟨a, ring, h1, h2, h3, h4⟩ := h.a
    exact ⟨a, ring, h1, h2, keep5 (keep h3 (by decide)) (by decide), keep5 (keep h4 (by decide)) (by decide)⟩
  have old : ∀ (j : Nat) (pr : Nat × Nat), prs[j]? = some pr → pr.1 < wr.heap.size ∧ pr.2 < wr.heap.size := fun j pr hj => IsQ.lt (h.q j pr hj)
  refine ⟨?_, ownsRow_upd (by rw [List.map_append]; exact hown) u5 (fun s hs e => ?_), by rw [List.length_append, h.len]; rfl, fun j pr hj => ?_, fun i' j' p1 p2 h1 h2 hne => ?_, ka, keep5 (keep h.l (by decide)) (by decide), ?_, h.new, fun pr hm => ?_⟩
  · have := hb3.store 0 (.slice (some ⟨g, 0, none⟩) (i + 1) cap)
    simpa using this
  · obtain ⟨cur, hc⟩ := row_type hown s e
    exact ne5 hc (by decide) hs
  · by_cases hj' : j < prs.length
    · rw [List.getElem?_append_left hj'] at hj
      exact kq (h.q j pr hj) keep
    · rw [List.getElem?_append_right (by omega)] at hj
      have e0 : j - prs.length = 0 := by
        have := (List.getElem?_eq_some_iff.1 hj).1
        simp at this; omega
      rw [e0] at hj
      obtain rfl : (p, r) = pr := by simpa using hj
      exact kq hq (fun hb ht => (hb.alloc o).upd u4 (ne4 (hb.alloc o) ht))
  · have gt : ∀ (j : Nat) (pr : Nat × Nat), (prs ++ [(p, r)])[j]? = some pr → (j < prs.length ∧ prs[j]? = some pr) ∨ (j = prs.length ∧ pr = (p, r)) := fun j pr hj => by
      by_cases hj' : j < prs.length
      · rw [List.getElem?_append_left hj'] at hj
        exact .inl ⟨hj', hj⟩
      · rw [List.getElem?_append_right (by omega)] at hj
        have e0 : j - prs.length = 0 := by
          have := (List.getElem?_eq_some_iff.1 hj).1
          simp at this; omega
        rw [e0] at hj
        exact .inr ⟨by omega, by simpa using hj.symm⟩
    rcases gt i' p1 h1 with ⟨a1, a2⟩ | ⟨a1, rfl⟩ <;> rcases gt j' p2 h2 with ⟨b1, b2⟩ | ⟨b1, rfl⟩
    · exact h.inj i' j' p1 p2 a2 b2 hne
    · have := old i' p1 a2; dsimp only; omega
    · have := old j' p2 b2; dsimp only; omega
    · omega
  · exact ((h.up.next u3).trans u4 (fun s hs => .inr (own_block_lt hrow (by simpa using hs)).1)).setCell (.inr h.new.1) _
  · have := h.up.size
    rcases List.mem_append.1 hm with hm | hm
    · exact h.newq pr hm
    · rw [List.mem_singleton] at hm; subst hm; dsimp only; omega

theorem NB.box3 {w wr w2 w3 : World} {b pa ra la n k i : Nat} {prs : List (Nat × Nat)} {tv : Value} {o : Obj} (h : NB w wr b pa ra la n k i prs tv) (u2 : Upd [] wr w2) (hg : (w2.alloc o).grownBy w3 tv.ownBlock) :
    Blk w3 b 67 #[tv, .pointer (some ⟨pa, 0, none⟩), .slice (some ⟨la, 0, none⟩) n n] := by
  have u3 : Upd [] wr (w2.alloc o) := u2.alloc o
  have hrow : (w2.alloc o).ownsRow w.heap.size 68 1 tv i (prs.map fun q => Value.pointer (some ⟨q.1, 0, none⟩)) := ownsRow_upd h.row u3 (by simp)
  have hb := h.blk.upd u3 (by simp)
  refine hb.upd (Upd.of_grown hg) (fun hm => ?_)
  obtain ⟨cur, hc⟩ := row_type hrow _ (by simpa using hm)
  exact hb.ne hc (by decide) rfl
theorem NB.zero {w W : World} {b pa ra la n k : Nat} (hb : Blk W b 67 #[.slice none 0 0, .pointer (some ⟨pa, 0, none⟩), .slice (some ⟨la, 0, none⟩) n n]) (ha : QA.Q W pa ra (n * k) []) (hl : Blk W la 30 ((List.replicate n (0 : Int)).map (Value.int .u64)).toArray)
    (hu : Upd [] w W) (hnew : w.heap.size ≤ b ∧ w.heap.size ≤ pa ∧ w.heap.size ≤ ra ∧ w.heap.size ≤ la) : NB w W b pa ra la n k 0 [] (.slice none 0 0) :=
  ⟨hb, World.ownsRow_nil _ _ _ _, rfl, by simp, by simp, ha, hl, hu, hnew, by simp⟩
/-- a board that is whole -/
theorem NB.done {w W : World} {b pa ra la n k : Nat} {prs : List (Nat × Nat)} {tv : Value} (h : NB w W b pa ra la n k n prs tv) (h1 : 1 ≤ n) (h4 : n ≤ 4) (hk1 : 1 ≤ k) (hk : k ≤ 1000) : ∃ B : Bd, B.b = b ∧ IsB W B k (List.replicate n []) [] (List.replicate n 0) ∧ B.prs.length = n ∧ ∀ s, s ∈ B.foot → w.heap.size ≤ s := by
  obtain ⟨A, c, hv, _, hA, _⟩ := own_form h.row
  obtain ⟨g, hg, hgn, _⟩ := hA (by omega)
  subst hg
  subst hv
  refine ⟨⟨b, g, c, la, pa, ra, prs⟩, rfl, ⟨by rw [h.len]; exact h.blk, ?_, fun i pr xs h1 h2 => ?_, h.inj, by rw [h.len]; exact h.a, h.l, by rw [List.length_replicate]; exact h.len.symm, by rw [List.length_replicate]; exact h.len.symm, by rw [h.len]; exact h1, by rw [h.len]; exact h4, hk1, hk, by simp⟩, h.len, fun s hs => ?_⟩
  · have h2 := h.row
    rw [← h.len] at h2
    refine ⟨h2.1, h2.2.imp id fun ⟨g', cap, cur, hv, hg, r⟩ => ⟨g', cap, cur, by rw [h.len] at hv; rw [h.len]; exact hv, Nat.zero_le _, r⟩⟩
  · have : xs = [] := by
      rw [List.getElem?_replicate] at h2
      split at h2
      · exact (Option.some.inj h2).symm
      · cases h2
    subst this
    exact h.q i pr h1
  · obtain ⟨n1, n2, n3, n4⟩ := h.new
    simp only [Bd.foot, List.mem_cons, List.mem_append] at hs
    rcases hs with rfl | rfl | rfl | rfl | rfl | hs | hs
    · exact n1
    · exact (own_block_lt h.row rfl).1
    · exact n4
    · exact n2
    · exact n3
    · obtain ⟨pr, hm, rfl⟩ := List.mem_map.1 hs
      exact (h.newq pr hm).1
    · obtain ⟨pr, hm, rfl⟩ := List.mem_map.1 hs
      exact (h.newq pr hm).2

theorem new_no (shards room : Int) (w : World) (h : shards < 1 ∨ 4 < shards ∨ room < 1 ∨ 1000 < room) :
    Calls Try.prog 8 #[.int .i64 shards, .int .i64 room] w fun e w' => e = .returned (.pointer none) ∧ w = w' := by
  by_cases h1 : shards < 1
  · go_enter Try.func8, Try.ntmps8
    go_wp2
    go_ret
    exact ⟨rfl, rfl⟩
  · have d1 : decide (shards < 1) = false := by simpa using h1
    by_cases h2 : 4 < shards
    · go_enter Try.func8, Try.ntmps8
      go_wp2
      go_ret
      exact ⟨rfl, rfl⟩
    · have d2 : decide (4 < shards) = false := by simpa using h2
      by_cases h3 : room < 1
      · go_enter Try.func8, Try.ntmps8
        go_wp2
        go_ret
        exact ⟨rfl, rfl⟩
      · have d3 : decide (room < 1) = false := by simpa using h3
        have h4 : 1000 < room := by omega
        clear h
        go_enter Try.func8, Try.ntmps8
        go_wp2
        go_ret
        exact ⟨rfl, rfl⟩

set_option maxHeartbeats 4000000 in
theorem new_yes (n k : Nat) (w : World) (h1 : 1 ≤ n) (h4 : n ≤ 4) (hk1 : 1 ≤ k) (hk : k ≤ 1000) :
    Calls Try.prog 8 #[.int .i64 n, .int .i64 k] w fun e w' => ∃ B : Bd, e = .returned (.pointer (some ⟨B.b, 0, none⟩)) ∧ IsB w' B k (List.replicate n []) [] (List.replicate n 0) ∧ B.prs.length = n ∧ (∀ s, s ∈ B.foot → w.heap.size ≤ s) ∧ Upd [] w w' := by
  have hnk : n * k ≤ 4 * 1000 := Nat.mul_le_mul h4 hk
  have hnk1 : 1 ≤ n * k := Nat.mul_le_mul h1 hk1
  have hmul : (n : Int) * (k : Int) = ((n * k : Nat) : Int) := by push_cast; rfl
  have hm0 : 1 ≤ (n : Int) * (k : Int) := by rw [hmul]; omega
  have hm1 : (n : Int) * (k : Int) ≤ 4000 := by rw [hmul]; omega
  have hmk := fun W : World => run_mk (P := Try.prog) 39 30 (.int .u64 0) 8 Try.underlying39 infoU rfl n (by omega) (by omega) W
  have d1 : decide ((n : Int) < 1) = false := by simp; omega
  have d2 : decide (4 < (n : Int)) = false := by simp; omega
  have d3 : decide ((k : Int) < 1) = false := by simp; omega
  have d4 : decide (1000 < (k : Int)) = false := by simp; omega
  have HMUL := Lib.hid hmul
  have HW := Lib.hid (IntWalk.i64_in ((n : Int) * (k : Int)) (by omega))
  generalize hrz : (List.replicate n (Value.int .u64 0)).toArray = rz at hmk
  have HRZ : Hid (rz = ((List.replicate n (0 : Int)).map (Value.int .u64)).toArray) := by show _ = _; rw [← hrz, List.map_replicate]
  clear hmul hrz
  go_enter Try.func8, Try.ntmps8
  go_upto_region 3 with fail
  go_cut [5] (fun s5 wd => ∃ b pa ra la, s5 = .pointer (some ⟨b, 0, none⟩) ∧ NB w wd b pa ra la n k 0 [] (.slice none 0 0))
  case first =>
    go_region_held3 (fun _ => True) (trivial)
      (first | (go_at_call 26; refine (QA.new_yes _ (n * k) _ (by show _ = _; rw [HW.out]; exact HMUL.out) (by rw [HW.out]; omega) (by rw [HW.out]; omega)).mono ?_; rintro e w5 ⟨rfl, hq5, hu5⟩; have hsz5 := hu5.size; have HQ5 := Lib.hid hq5; have HU5 := Lib.hid hu5; clear hq5 hu5))
    · go_wp2
      go_meet
      case rel =>
        have hsz : w.heap.size ≤ w5.heap.size := hsz5
        refine ⟨w5.heap.size + 1, w.heap.size + 1, w.heap.size, w5.heap.size, rfl, NB.zero ?_ ((HQ5.out.upd ((Upd.refl [] w5).alloc _) (by simp) (by simp)).upd ((Upd.refl [] _).alloc _) (by simp) (by simp)) ?_ (((((Upd.refl [] w).drewN 1).next HU5.out).alloc _).alloc _) ⟨by omega, by omega, by omega, by omega⟩⟩
        · have := Blk.new (w5.alloc (.cells rz 30)) 67 #[.slice none 0 0, .pointer (some ⟨w.heap.size + 1, 0, none⟩), .slice (some ⟨w5.heap.size, 0, none⟩) n n]
          rw [World.size_alloc] at this
          exact this
        · rw [← HRZ.out]; exact (Blk.new w5 _ rz).alloc _
    · go_wp2
      go_meet
      case rel =>
        have hsz : w.heap.size + 1 ≤ w5.heap.size := by have h5 : (w.alloc (.cells rz 30)).heap.size ≤ w5.heap.size := hsz5; simpa using h5
        refine ⟨w5.heap.size, w.heap.size + 1 + 1, w.heap.size + 1, w.heap.size, rfl, NB.zero (Blk.new w5 _ _) ?_ ?_ (((((Upd.refl [] w).alloc _).drewN 1).next HU5.out).alloc _) ⟨by omega, by omega, by omega, by omega⟩⟩
        · have h5 : QA.Q w5 ((w.alloc (.cells rz 30)).heap.size + 1) (w.alloc (.cells rz 30)).heap.size (n * k) [] := HQ5.out
          rw [World.size_alloc] at h5
          exact h5.upd ((Upd.refl [] w5).alloc _) (by simp) (by simp)
        · rw [← HRZ.out]
          exact (((Blk.new w _ rz).drewN 1).upd HU5.out (by simp)).alloc _
  obtain ⟨b, pa, ra, la, rfl, hn⟩ := hcut
  have HN := Lib.hid hn
  obtain ⟨i0, hi0, hz0, hz1, hz2⟩ := info_parts infoQ
  clear hn hmk HRZ HMUL hm0 hm1
  go_wp2
  go_loopg [29] n (fun gk x29 wr => ∃ (i : Nat) (prs : List (Nat × Nat)) (tv : Value), i ≤ n ∧ n ≤ i + gk ∧ x29 = .int .i64 i ∧ NB w wr b pa ra la n k i prs tv)
  case atStart => exact ⟨0, [], _, Nat.zero_le _, by omega, rfl, HN.out⟩
  case round =>
    obtain ⟨i, prs, tv, hi, hgi, rfl, hs⟩ := hrel
    by_cases hlt : i < n
    · obtain ⟨A, c, hv, hic, _, _⟩ := own_form hs.row
      subst hv
      have b0 : wr.cell? ⟨b, 0, none⟩ = some (.slice A i c) := hs.blk.cell 0
      have bf := hs.blk.frozen 0
      have hbl := hs.blk.lt
      obtain ⟨fl, hfl⟩ : ∃ fl, fl = prs.map (fun q => Value.pointer (some ⟨q.1, 0, none⟩)) := ⟨_, rfl⟩
      have hrow := hs.row
      rw [← hfl] at hrow
      have HFL := Lib.hid hfl
      have HROW := Lib.hid hrow
      have HS := Lib.hid hs
      clear hs hrow hfl
      go_upto_region 6 with fail
      · go_region_law (first
          | (refine step_append_lies _ (by rfl) _ _ _ (by rfl) w.heap.size 68 i0 _ 1 8 Try.underlying65 hi0 hz0 hz1 hz2 rfl (by omega) (.slice A i c) i fl (by rfl) (HROW5.out.alloc _) ⟨w5.heap.size, 0, none⟩ 1 1 [.pointer (some ⟨wr.heap.size + 1, 0, none⟩)] (by rfl) (by rfl) (World.news_of_block (cs := #[.pointer (some ⟨wr.heap.size + 1, 0, none⟩)]) (fr := (0, 0)) (heap_alloc_new w5 _)) (by simp [Value.oneCell']) (by omega) (by unfold maxLen; omega) (by omega) (by simp; omega) (w5.heap.size + 1) (by simp) ?_; intro gg cap w6 hown6 hgrow6 hat6 hlt6; have hB6 := HS.out.box3 HU5.out hgrow6; have k0 : w6.cell? ⟨b, 0, none⟩ = some (.slice A i c) := hB6.cell 0; have kf := hB6.frozen 0; have HO6 := Lib.hid hown6; have HG6 := Lib.hid hgrow6; clear hown6 hgrow6 hB6)
          | (go_simp; go_at_call 27; refine (QT.new_yes _ k _ (by show _ = _; rfl) (by omega) (by omega)).mono ?_; rintro e w5 ⟨rfl, hq5, hu5⟩; have HU5 : Hid (Upd [] wr w5) := Lib.hid (((Upd.refl [] wr).drewN 1).next hu5); have HROW5 : Hid (w5.ownsRow w.heap.size 68 1 (.slice A i c) i fl) := Lib.hid (ownsRow_upd HROW.out HU5.out (by simp)); have hsz5 := HU5.out.size; have hsz0 := HS.out.up.size; have HQ5 := Lib.hid hq5; have q0 : w5.cell? ⟨b, 0, none⟩ = some (.slice A i c) := (HU5.out.cell (p := ⟨b, 0, none⟩) hbl (by simp)).trans b0; have qb : b < w5.heap.size := Nat.lt_of_lt_of_le hbl hsz5; have qbn : b ≠ w5.heap.size := Nat.ne_of_lt qb; clear hq5 hu5))
        all_goals
          have HST := Lib.hid (HS.out.step (p := wr.heap.size + 1) (r := wr.heap.size) HQ5.out (Nat.le_succ _) (Nat.le_refl _) HU5.out (by rw [← HFL.out]; exact HO6.out) HG6.out)
          go_wp2
          go_roundg (gk - 1)
          case measure => omega
          case rel => exact ⟨i + 1, _, _, by omega, by omega, by go_num, HST.out⟩
    · obtain rfl : i = n := by omega
      obtain ⟨B, hB, h2, h3, h3n⟩ := hs.done h1 h4 hk1 hk
      have HU := Lib.hid hs.up
      have H2 := Lib.hid h2
      subst hB
      clear hs h2
      go_wp2
      go_ret
      exact ⟨B, rfl, H2.out, h3, h3n, HU.out⟩
end Go.Proofs.Ytdcekgdihnlbpaa
