/- QueuePlays: the walk. -/
import Derived.Test.YtbgfoeaddnhnnaaQRef
import Derived.Test.YtbgfoeaddnhnnaaQFills
import Derived.Deep.RegionHeld3
import Derived.Deep.DrawnRows
import Derived.Deep.DeepCutAuto
import Derived.Deep.LoopGhost
namespace Go.Proofs.Ytbgfoeaddnhnnaa
open Go Go.RowKit

/-- the state between two rounds: the queue, and the document's, hold one row -/
structure PlayAt (w wr : World) (N p r g cap : Nat) (A : Option Addr) (n c : Nat) (xs : List Int) : Prop where
  q : QI.Q wr p r cap xs
  blk : Blk wr g 35 #[.slice A n c, .int .i64 cap]
  len : xs.length = n
  nil : A = none → n = 0 ∧ c = 0
  cap1 : n ≤ c
  cap2 : c ≤ 9223372036854775807
  cells : CellsIn wr N wr.heap.size 1 A n (xs.map (Value.int .i64))
  below : Below w.heap.size w wr
  size : N ≤ wr.heap.size
  pN : p < N
  rN : r < N
  gN : g < N
  pw : w.heap.size ≤ p
  rw : w.heap.size ≤ r
  gw : w.heap.size ≤ g
  gp : g ≠ p
  gr : g ≠ r

theorem PlayAt.upd {w wr w1 : World} {N p r g cap n c : Nat} {A : Option Addr} {xs : List Int} (h : PlayAt w wr N p r g cap A n c xs) (hu : Upd [] wr w1) : PlayAt w w1 N p r g cap A n c xs :=
  { h with q := h.q.upd hu (by simp) (by simp), blk := h.blk.upd hu (by simp), cells := (h.cells.upd hu (Nat.le_refl _) (by simp)).more (Nat.le_refl _) hu.size,
           below := h.below.trans (hu.below h.below.size (by simp)), size := Nat.le_trans h.size hu.size }

/-- the document's queue has turned, the program's not yet -/
theorem PlayAt.turned {w wr w1 w2 : World} {N p r g cap n c n' c' lo : Nat} {A A' : Option Addr} {xs zs : List Int} (h : PlayAt w wr N p r g cap A n c xs) (hb : Below wr.heap.size wr w1)
    (u1 : Upd [g] w1 w2) (hblk : Blk w2 g 35 #[.slice A' n' c', .int .i64 cap]) (w3 : World) (hq : QI.Q w3 p r cap zs) (u2 : Upd [p, r] w2 w3)
    (hl : zs.length = n') (hA : A' = none → n' = 0 ∧ c' = 0) (h1 : n' ≤ c') (h2 : c' ≤ 9223372036854775807) (hlo : N ≤ lo) (hc : CellsIn w1 lo w1.heap.size 1 A' n' (zs.map (Value.int .i64))) :
    PlayAt w w3 N p r g cap A' n' c' zs := by
  have b1 : Below w.heap.size w w2 := (h.below.trans (hb.mono h.below.size)).trans (u1.below (B := w.heap.size) (Nat.le_trans h.below.size hb.size) (by simp; exact h.gw))
  have hN1 : N ≤ w1.heap.size := Nat.le_trans h.size hb.size
  have hgN := h.gN
  have hpN := h.pN
  have hrN := h.rN
  exact ⟨hq, hblk.upd u2 (by simp; exact ⟨h.gp, h.gr⟩), hl, hA, h1, h2,
    (((hc.upd u1 (Nat.le_refl _) (by simp; omega)).more (Nat.le_refl _) u1.size).upd u2 (Nat.le_refl _) (by simp; omega)).more hlo u2.size,
    b1.trans (u2.below (B := w.heap.size) b1.size (by simp; exact ⟨h.pw, h.rw⟩)), Nat.le_trans hN1 (Nat.le_trans u1.size u2.size), h.pN, h.rN, h.gN, h.pw, h.rw, h.gw, h.gp, h.gr⟩

set_option maxHeartbeats 2000000 in
set_option maxRecDepth 100000 in
theorem plays_any (room : Int) (A : Option Addr) (len cap : Nat) (l : List (Int × Int)) (w : World) (hr0 : 0 ≤ room) (hr1 : room ≤ 255) (hlen : len ≤ 9223372036854775807) (hl : Cells w w.heap.size 2 A len (actCells l)) :
    Calls Try.prog 4 #[.int .u8 room, .slice A len cap] w fun e w' => e = .returned (.bool true) ∧ Below w.heap.size w w' := by
  obtain ⟨m, hm⟩ : ∃ m : Nat, room % 9 = m := ⟨(room % 9).toNat, by omega⟩
  have hm9 : m < 9 := by omega
  have HL := Lib.hid hl
  clear hl
  by_cases hbig : 300 < (len : Int)
  · go_enter Try.func4, Try.ntmps4
    go_wp2_with fail
    refine (awake_any w).mono ?_
    rintro e w1 ⟨rfl, hu1⟩
    go_wp2
    go_ret
    exact ⟨rfl, hu1.below (Nat.le_refl _) (by simp)⟩
  · go_enter Try.func4, Try.ntmps4
    go_wp2_with fail
    refine (awake_any w).mono ?_
    rintro e w1 ⟨rfl, hu1⟩
    go_wp2_with fail
    refine (QI.new_yes w1 (m + 1) _ (by show _ = _; push_cast; rfl) (by omega) (by omega)).mono ?_
    rintro e w2 ⟨rfl, hq2, hu2⟩
    have hlt2 := IsQ.lt hq2
    obtain ⟨p, hp⟩ : ∃ p, p = w1.heap.size + 1 := ⟨_, rfl⟩
    obtain ⟨r, hr⟩ : ∃ r, r = w1.heap.size := ⟨_, rfl⟩
    obtain ⟨g, hg⟩ : ∃ g, g = w2.heap.size := ⟨_, rfl⟩
    obtain ⟨W, hW⟩ : ∃ W, W = w2.alloc (.cells #[.slice none 0 0, .int .i64 ((m + 1 : Nat) : Int)] 35) := ⟨_, rfl⟩
    rw [← hp, ← hr] at hq2 hlt2
    rw [← hp]
    have hb2 : Below w.heap.size w w2 := (hu1.next hu2).below (Nat.le_refl _) (by simp)
    have HP : Hid (PlayAt w W (g + 1) p r g (m + 1) none 0 0 []) := by
      have hWs : W.heap.size = w2.heap.size + 1 := by rw [hW, World.size_alloc]
      have hWu : Upd [] w2 W := by rw [hW]; exact (Upd.refl _ _).alloc _
      exact ⟨IsQ.upd hq2 hWu (by simp) (by simp), by rw [hW, hg]; exact Blk.new w2 _ _, rfl, fun _ => ⟨rfl, rfl⟩, Nat.le_refl _, by omega, CellsIn.nil _ _ _ _ _, hb2.trans (hWu.below hb2.size (by simp)), by omega, by omega, by omega, by omega,
        by have := hu1.size; omega, by have := hu1.size; omega, by have := hb2.size; omega, by omega, by omega⟩
    have HW := Lib.hid hW
    have HG := Lib.hid hg
    clear hp hr hq2 hu2 hu1 hlt2 hW hg hb2
    go_wp2
    have e1 : w2.alloc (.cells #[.slice none 0 0, .int .i64 ((m : Int) + 1)] 35) = W := HW.out.symm
    rw [e1, ← HG.out]
    clear e1 HW HG hm
    go_loopg [8] len (fun gk i wr => ∃ k : Nat, k ≤ len ∧ len ≤ k + gk ∧ i = .int .i64 k ∧ ∃ A n c xs, PlayAt w wr (g + 1) p r g (m + 1) A n c xs)
    case atStart => exact ⟨0, Nat.zero_le _, by omega, rfl, none, 0, 0, [], HP.out⟩
    case round =>
      obtain ⟨k, hk, hgk, rfl, A1, n, c, xs, hp⟩ := hrel
      by_cases hlt : k < len
      · obtain ⟨b, off, x, y, rfl, hbB, _, hx, hy⟩ := act_at HL.out k hlt
        have hx' := (hp.below.cell (p := ⟨b, off + k * 2, none⟩) hbB).trans hx
        have hy' := (hp.below.cell (p := ⟨b, off + k * 2 + 1, none⟩) hbB).trans hy
        have hi0 : (0 : Int) ≤ (k : Int) := by omega
        have hi1 : (k : Int) < (len : Int) := by omega
        have d0 := hp.blk.cell 0
        have d1 : wr.cell? ⟨g, 1, none⟩ = some (.int .i64 ((m : Int) + 1)) := hp.blk.cell 1
        simp only [List.getElem?_toArray, List.getElem?_cons_zero] at d0
        have HPP := Lib.hid hp
        have HX := Lib.hid hx
        have HY := Lib.hid hy
        have hbd := hp.q.bound
        have hln := hp.len
        have hgl : g < wr.heap.size := hp.blk.lt
        clear hp hx hy
        go_upto_region 11 with fail
        go_cut [49] (fun s49 wc => s49 = .int .i64 x ∧ wc = wr)
        case first =>

          go_wp2
          go_meet
          case rel => exact ⟨rfl, rfl⟩
        obtain ⟨rfl, rfl⟩ := hcut

        apply_assumption

        go_cut [] (fun wc => ∃ A2 n2 c2 xs2, PlayAt w wc (g + 1) p r g (m + 1) A2 n2 c2 xs2)
        case rest =>
          obtain ⟨A2, n2, c2, xs2, hp1⟩ := hcut
          clear HPP HX HY hx' hy' d0 d1 hbd hln hgl
          go_wp2_with fail
          refine (QI.all hp1.q).mono ?_
          rintro e w7 ⟨va, rfl, hva, hu7⟩
          have hp7 := hp1.upd hu7
          obtain ⟨Aa, ca, hvf, hca, hAa, _⟩ := own_form hva
          rw [hp1.len] at hvf hAa hva
          rw [hvf] at hva ⊢
          have HVA := Lib.hid hva
          have HAA := Lib.hid hAa
          have HS7 := Lib.hid hp7
          have hlen7 := QI.len hp7.q
          have hroom7 := QI.room hp7.q
          rw [hp7.len] at hlen7 hroom7
          have HLEN := Lib.hid hlen7
          have HROOM := Lib.hid hroom7
          have k0 := hp7.blk.cell 0
          have k1 : w7.cell? ⟨g, 1, none⟩ = some (.int .i64 ((m : Int) + 1)) := hp7.blk.cell 1
          simp only [List.getElem?_toArray, List.getElem?_cons_zero] at k0
          have hb2 : n2 ≤ m + 1 := by have := hp7.q.bound; have := hp7.len; omega
          have hwr : IntKind.i64.wrap ((m : Int) + 1 - (n2 : Int)) = (m : Int) + 1 - (n2 : Int) := IntWalk.i64_in _ (by omega)
          clear hvf hva hAa hp7 hlen7 hroom7 hp1 hu7
          go_wp2_with fail
          go_quiet ((first | (go_at_call 13; exact quiet_one (QI.len_n (HS7.out.q.drewN _) HS7.out.len)) | (go_at_call 12; exact Calls.quiet_of (QI.room_n (HS7.out.q.drewN _) HS7.out.len))))
          go_wp2
          obtain ⟨wi, hwi⟩ : ∃ wi : World, wi = w7.drewN nq := ⟨_, rfl⟩
          have HS8 : Hid (PlayAt w wi (g + 1) p r g (m + 1) A2 n2 c2 xs2) := by show PlayAt _ _ _ _ _ _ _ _ _ _ _; rw [hwi]; exact HS7.out.upd ((Upd.refl _ _).drewN _)
          have HVA8 : Hid (wi.ownsRow wc.heap.size QI.tE 1 (.slice Aa n2 ca) n2 (xs2.map (Value.int .i64))) := by show World.ownsRow _ _ _ _ _ _ _; rw [hwi]; exact HVA.out
          rw [← hwi]
          clear hwi HS7 HVA HLEN HROOM k0 k1
          go_loopw [22] (fun i wr => ∃ t : Nat, t ≤ n2 ∧ i = .int .i64 t ∧ ∃ q, wr = wi.drewN q) (fun i _ => n2 - (intOf i).toNat)
          case atStart => exact ⟨0, Nat.zero_le _, rfl, 0, rfl⟩
          case round =>
            obtain ⟨t, ht, rfl, q, rfl⟩ := hrel
            have k0 := HS8.out.blk.cell 0
            simp only [List.getElem?_toArray, List.getElem?_cons_zero] at k0
            by_cases hlt2 : t < n2
            · obtain ⟨g1, rfl, _⟩ := HAA.out (by omega)
              obtain ⟨b3, off3, rfl, _, _, hcc⟩ := HS8.out.cells.2 (by omega)
              have htl : t < xs2.length := by rw [HS8.out.len]; exact hlt2
              have hc1 := HVA8.out.cellAt t (by omega)
              have hc2 := hcc t _ (by rw [List.getElem?_map, List.getElem?_eq_getElem htl, Option.map_some])
              rw [List.getElem?_map, List.getElem?_eq_getElem htl, Option.map_some] at hc1
              obtain ⟨y, hy⟩ : ∃ y, y = xs2[t] := ⟨_, rfl⟩
              rw [← hy] at hc1 hc2
              have hi0 : (0 : Int) ≤ (t : Int) := by omega
              have hi1 : (t : Int) < (n2 : Int) := by omega
              clear hy hcc
              go_wp2_with fail
              go_quiet (fail)
              go_wp2
              go_roundw
              case rel => exact ⟨t + 1, by omega, by go_num, _, rfl⟩
              case measure => simp [intOf]; omega
            · go_wp2
              go_roundg (gk - 1)
              case measure => omega
              case rel => exact ⟨k + 1, by omega, by omega, by go_num, A2, n2, c2, xs2, HS8.out.upd ((Upd.refl _ _).drewN _)⟩
        case first =>
          have hkinds : (x = 0 ∨ x = 1) ∨ x = 2 ∨ (¬ x = 0 ∧ ¬ x = 1 ∧ ¬ x = 2) := by omega
          rcases hkinds with hk01 | hk2 | ⟨hk0, hk1, hk2⟩
          · -- push
            by_cases hful : n < m + 1
            · rcases hk01 with rfl | rfl
              all_goals
                obtain ⟨W0, rfl⟩ : ∃ W0 : World, W0 = wc := ⟨_, rfl⟩
                go_upto_region 18 with fail
                go_cut [9, 10] (fun s9 s10 wd => ∃ gv A2 c2, s9 = .pointer (some ⟨gv, 0, none⟩) ∧ s10 = .bool true ∧ Blk wd gv 35 #[.slice A2 (n + 1) c2, .int .i64 ((m : Int) + 1)] ∧
                  (A2 = none → n + 1 = 0 ∧ c2 = 0) ∧ n + 1 ≤ c2 ∧ c2 ≤ 9223372036854775807 ∧ CellsIn wd (g + 1) wd.heap.size 1 A2 (n + 1) ((xs ++ [y]).map (Value.int .i64)) ∧ Below W0.heap.size W0 wd)
                case first =>
                  have hcs := HPP.out.cells
                  have HCS := Lib.hid hcs
                  have HCA : Hid (∀ o, CellsIn (W0.alloc o) (g + 1) (W0.alloc o).heap.size 1 A1 n (xs.map (Value.int .i64))) := fun o => (hcs.upd ((Upd.refl [] W0).alloc o) (Nat.le_refl _) (by simp)).more (Nat.le_refl _) (by simp)
                  have HKA : Hid (∀ o, (W0.alloc o).cell? ⟨g, 0, none⟩ = some (.slice A1 n c) ∧ (W0.alloc o).cell? ⟨g, 1, none⟩ = some (.int .i64 ((m : Int) + 1)) ∧ (W0.alloc o).cell? ⟨b, off + k * 2 + 1, none⟩ = some (.int .i64 y)) :=
                    fun o => ⟨((HPP.out.upd ((Upd.refl [] W0).alloc o)).blk.cell 0).trans rfl, ((HPP.out.upd ((Upd.refl [] W0).alloc o)).blk.cell 1).trans rfl, (((Upd.refl [] W0).alloc o).cell (p := ⟨b, off + k * 2 + 1, none⟩) (Nat.lt_of_lt_of_le hbB HPP.out.below.size) (by simp)).trans hy'⟩
                  have hbW : b < W0.heap.size := Nat.lt_of_lt_of_le hbB HPP.out.below.size
                  have HNI := Lib.hid HPP.out.nil
                  have HM := HPP.out.size
                  have HLT : Hid (∀ o, W0.heap.size < (W0.alloc o).drew.heap.size) := fun o => by show W0.heap.size < (W0.alloc o).heap.size; rw [World.size_alloc]; exact Nat.lt_succ_self _
                  have HC1 := Lib.hid HPP.out.cap1
                  have HC2 := Lib.hid HPP.out.cap2
                  clear hcs
                  go_region_held3 (fun w' => w'.cell? ⟨g, 0, none⟩ = some (.slice A1 n c) ∧ w'.cell? ⟨g, 1, none⟩ = some (.int .i64 ((m : Int) + 1)) ∧ w'.cell? ⟨b, off + k * 2 + 1, none⟩ = some (.int .i64 y))
                    (first | go_keep | exact ⟨s0, s1, s2⟩ | exact ⟨((((Upd.refl [W0.heap.size] w3).setCell (by simp) _).setCell (by simp) _).cell (p := ⟨g, 0, none⟩) (by show g < _; simp at hsz3; omega) (by simp; omega)).trans s0, ((((Upd.refl [W0.heap.size] w3).setCell (by simp) _).setCell (by simp) _).cell (p := ⟨g, 1, none⟩) (by show g < _; simp at hsz3; omega) (by simp; omega)).trans s1, ((((Upd.refl [W0.heap.size] w3).setCell (by simp) _).setCell (by simp) _).cell (p := ⟨b, off + k * 2 + 1, none⟩) (by show b < _; simp at hsz3; omega) (by simp; omega)).trans s2⟩)
                    (first | (go_at_call 14; refine (rpush_yes A1 n c (g + 1) _ y xs _ (by omega) (by omega) HNI.out (by first | exact HCS.out | exact HCA.out _)).mono ?_; rintro e w3 ⟨A2, c2, rfl, hA2, hn2, hc2, hcs2, hb3⟩; have HA2 := Lib.hid hA2; have HCS2 := Lib.hid hcs2; clear hA2 hcs2; have hold := (old_cells hb3).1; have hof := (old_cells hb3).2; have hsz3 := hb3.size; have s0 := (hb3.cell (p := ⟨g, 0, none⟩) (by first | exact hgl | (simp; omega))).trans (by first | exact d0 | exact (HKA.out _).1); have s1 := (hb3.cell (p := ⟨g, 1, none⟩) (by first | exact hgl | (simp; omega))).trans (by first | exact d1 | exact (HKA.out _).2.1); have s2 := (hb3.cell (p := ⟨b, off + k * 2 + 1, none⟩) (by first | exact hbW | (simp; omega))).trans (by first | exact hy' | exact (HKA.out _).2.2); have HBW : Hid (Below W0.heap.size W0 w3) := Lib.hid (by first | exact (Below.refl _ W0).drew.trans hb3 | exact ((Below.refl _ W0).alloc (Nat.le_refl _) _).drew.trans (hb3.mono (by simp))); have HB3 := Lib.hid hb3; clear hb3))
                  · go_wp2
                    go_meet
                    case rel =>
                      refine ⟨_, _, _, rfl, rfl, Blk.new w3 _ _, HA2.out, hn2, hc2, (HCS2.out.upd ((Upd.refl [] w3).alloc _) (Nat.le_refl _) (by simp)).more (by first | exact HM | exact Nat.le_refl _) (Nat.le_trans (Nat.le_refl _) (by simp)), ?_⟩
                      exact HBW.out.trans (((Upd.refl [] w3).alloc _).below HBW.out.size (by simp))
                  · go_wp2
                    go_meet
                    case rel =>
                      have hu : Upd [W0.heap.size] w3 ((w3.setCell ⟨W0.heap.size, 0, none⟩ (.slice A2 (n + 1) c2)).setCell ⟨W0.heap.size, 1, none⟩ (.int .i64 ((m : Int) + 1))) := ((Upd.refl _ _).setCell (by simp) _).setCell (by simp) _
                      refine ⟨_, _, _, rfl, rfl, ((((Blk.new W0 _ #[.slice none 0 0, .int .i64 0]).drewN 1).below HB3.out (HLT.out _)).store 0 (.slice A2 (n + 1) c2)).store 1 (.int .i64 ((m : Int) + 1)), HA2.out, hn2, hc2, ?_, ?_⟩
                      · exact (HCS2.out.upd hu (Nat.le_refl _) (fun s hs => .inl (by have e : s = W0.heap.size := (by simpa using hs); rw [e]; exact HLT.out _))).more (by first | exact Nat.le_trans HM (by simp) | exact Nat.le_refl _) (Nat.le_trans (Nat.le_refl _) hu.size)
                      · exact HBW.out.trans (hu.below HBW.out.size (by simp))
                obtain ⟨gv, A2, c2, rfl, rfl, hB, hA2, hn2, hc2, hcs2, hb3⟩ := hcut
                have q0 := hB.cell 0
                have q1 : wc.cell? ⟨gv, 1, none⟩ = some (.int .i64 ((m : Int) + 1)) := hB.cell 1
                simp only [List.getElem?_toArray, List.getElem?_cons_zero] at q0
                have hG := HPP.out.blk.below hb3 hgl
                have d0' := hG.cell 0
                have d1' : wc.cell? ⟨g, 1, none⟩ = some (.int .i64 ((m : Int) + 1)) := hG.cell 1
                simp only [List.getElem?_toArray, List.getElem?_cons_zero] at d0'
                have f0 := hG.frozen 0
                have f1 := hG.frozen 1
                have hy2 := (hb3.cell (p := ⟨b, off + k * 2 + 1, none⟩) (Nat.lt_of_lt_of_le hbB HPP.out.below.size)).trans hy'
                have hbg : b ≠ g := by have := HPP.out.gw; omega
                have hu1 : Upd [g] wc ((wc.setCell ⟨g, 0, none⟩ (.slice A2 (n + 1) c2)).setCell ⟨g, 1, none⟩ (.int .i64 ((m : Int) + 1))) := ((Upd.refl _ _).setCell (by simp) _).setCell (by simp) _
                have HU1 := Lib.hid hu1
                have hq1 : QI.Q ((wc.setCell ⟨g, 0, none⟩ (.slice A2 (n + 1) c2)).setCell ⟨g, 1, none⟩ (.int .i64 ((m : Int) + 1))) p r (m + 1) xs :=
                  IsQ.upd (IsQ.below HPP.out.q hb3 (IsQ.lt HPP.out.q).1 (IsQ.lt HPP.out.q).2) hu1 (by simp; exact HPP.out.gp.symm) (by simp; exact HPP.out.gr.symm)
                have HQ1 := Lib.hid (QI.push_yes hq1 y (by rw [hln]; exact hful))
                have hbk1 := (hG.store 0 (.slice A2 (n + 1) c2)).store 1 (.int .i64 ((m : Int) + 1))
                have HBK := Lib.hid hbk1
                have HCS2 := Lib.hid hcs2
                have HB3 := Lib.hid hb3
                have HA2 := Lib.hid hA2
                clear hu1 hq1 hbk1 hcs2 hb3 hA2 hB hG d0 d1 hx' hy'
                go_wp2_with fail
                refine HQ1.out.mono ?_
                rintro e w5 ⟨rfl, hq5, hu5⟩
                have HP5 := Lib.hid (HPP.out.turned HB3.out HU1.out HBK.out w5 hq5 hu5 (by simp [hln]) HA2.out hn2 hc2 (Nat.le_refl _) HCS2.out)
                clear hq5 hu5
                go_wp2
                go_meet
                case rel => exact ⟨_, _, _, _, HP5.out⟩
            · rcases hk01 with rfl | rfl
              all_goals
                obtain ⟨W0, rfl⟩ : ∃ W0 : World, W0 = wc := ⟨_, rfl⟩
                go_upto_region 18 with fail
                go_cut [9, 10] (fun s9 s10 wd => ∃ gv A2 c2, s9 = .pointer (some ⟨gv, 0, none⟩) ∧ s10 = .bool false ∧ Blk wd gv 35 #[.slice A2 (n) c2, .int .i64 ((m : Int) + 1)] ∧
                  (A2 = none → n = 0 ∧ c2 = 0) ∧ n ≤ c2 ∧ c2 ≤ 9223372036854775807 ∧ CellsIn wd (g + 1) wd.heap.size 1 A2 (n) ((xs).map (Value.int .i64)) ∧ Below W0.heap.size W0 wd)
                case first =>
                  have hcs := HPP.out.cells
                  have HCS := Lib.hid hcs
                  have HCA : Hid (∀ o, CellsIn (W0.alloc o) (g + 1) (W0.alloc o).heap.size 1 A1 n (xs.map (Value.int .i64))) := fun o => (hcs.upd ((Upd.refl [] W0).alloc o) (Nat.le_refl _) (by simp)).more (Nat.le_refl _) (by simp)
                  have HKA : Hid (∀ o, (W0.alloc o).cell? ⟨g, 0, none⟩ = some (.slice A1 n c) ∧ (W0.alloc o).cell? ⟨g, 1, none⟩ = some (.int .i64 ((m : Int) + 1)) ∧ (W0.alloc o).cell? ⟨b, off + k * 2 + 1, none⟩ = some (.int .i64 y)) :=
                    fun o => ⟨((HPP.out.upd ((Upd.refl [] W0).alloc o)).blk.cell 0).trans rfl, ((HPP.out.upd ((Upd.refl [] W0).alloc o)).blk.cell 1).trans rfl, (((Upd.refl [] W0).alloc o).cell (p := ⟨b, off + k * 2 + 1, none⟩) (Nat.lt_of_lt_of_le hbB HPP.out.below.size) (by simp)).trans hy'⟩
                  have hbW : b < W0.heap.size := Nat.lt_of_lt_of_le hbB HPP.out.below.size
                  have HNI := Lib.hid HPP.out.nil
                  have HM := HPP.out.size
                  have HLT : Hid (∀ o, W0.heap.size < (W0.alloc o).drew.heap.size) := fun o => by show W0.heap.size < (W0.alloc o).heap.size; rw [World.size_alloc]; exact Nat.lt_succ_self _
                  have HC1 := Lib.hid HPP.out.cap1
                  have HC2 := Lib.hid HPP.out.cap2
                  clear hcs
                  go_region_held3 (fun w' => w'.cell? ⟨g, 0, none⟩ = some (.slice A1 n c) ∧ w'.cell? ⟨g, 1, none⟩ = some (.int .i64 ((m : Int) + 1)) ∧ w'.cell? ⟨b, off + k * 2 + 1, none⟩ = some (.int .i64 y))
                    (first | go_keep | exact ⟨s0, s1, s2⟩ | exact ⟨((((Upd.refl [W0.heap.size] w3).setCell (by simp) _).setCell (by simp) _).cell (p := ⟨g, 0, none⟩) (by show g < _; simp at hsz3; omega) (by simp; omega)).trans s0, ((((Upd.refl [W0.heap.size] w3).setCell (by simp) _).setCell (by simp) _).cell (p := ⟨g, 1, none⟩) (by show g < _; simp at hsz3; omega) (by simp; omega)).trans s1, ((((Upd.refl [W0.heap.size] w3).setCell (by simp) _).setCell (by simp) _).cell (p := ⟨b, off + k * 2 + 1, none⟩) (by show b < _; simp at hsz3; omega) (by simp; omega)).trans s2⟩)
                    (first | (go_at_call 14; refine (rpush_no A1 n c _ y _ (by omega)).mono ?_; rintro e w3 ⟨rfl, hb3⟩; have hn2 := HC1.out; have hc2 := HC2.out; have HA2 := HNI; have HCS2 : Hid (CellsIn w3 (g + 1) W0.heap.size 1 A1 n (xs.map (Value.int .i64))) := (by show CellsIn _ _ _ _ _ _ _; first | exact ((HCS.out.upd ((Upd.refl [] W0).drewN 1) (Nat.le_refl _) (by simp)).below hb3 (Nat.le_refl _)).more (Nat.le_refl _) (Nat.le_refl _) | exact ((HCS.out.upd (((Upd.refl [] W0).alloc _).drewN 1) (Nat.le_refl _) (by simp)).below hb3 (Nat.le_of_lt (HLT.out _))).more (Nat.le_refl _) (Nat.le_refl _)); have hold := (old_cells hb3).1; have hof := (old_cells hb3).2; have hsz3 := hb3.size; have s0 := (hb3.cell (p := ⟨g, 0, none⟩) (by first | exact hgl | (simp; omega))).trans (by first | exact d0 | exact (HKA.out _).1); have s1 := (hb3.cell (p := ⟨g, 1, none⟩) (by first | exact hgl | (simp; omega))).trans (by first | exact d1 | exact (HKA.out _).2.1); have s2 := (hb3.cell (p := ⟨b, off + k * 2 + 1, none⟩) (by first | exact hbW | (simp; omega))).trans (by first | exact hy' | exact (HKA.out _).2.2); have HBW : Hid (Below W0.heap.size W0 w3) := Lib.hid (by first | exact (Below.refl _ W0).drew.trans hb3 | exact ((Below.refl _ W0).alloc (Nat.le_refl _) _).drew.trans (hb3.mono (by simp))); have HB3 := Lib.hid hb3; clear hb3))
                  · go_wp2
                    go_meet
                    case rel =>
                      refine ⟨_, _, _, rfl, rfl, Blk.new w3 _ _, HA2.out, hn2, hc2, (HCS2.out.upd ((Upd.refl [] w3).alloc _) HBW.out.size (by simp)).more (by first | exact HM | exact Nat.le_refl _) (Nat.le_trans HBW.out.size (by simp)), ?_⟩
                      exact HBW.out.trans (((Upd.refl [] w3).alloc _).below HBW.out.size (by simp))
                  · go_wp2
                    go_meet
                    case rel =>
                      have hu : Upd [W0.heap.size] w3 ((w3.setCell ⟨W0.heap.size, 0, none⟩ (.slice A1 (n) c)).setCell ⟨W0.heap.size, 1, none⟩ (.int .i64 ((m : Int) + 1))) := ((Upd.refl _ _).setCell (by simp) _).setCell (by simp) _
                      refine ⟨_, _, _, rfl, rfl, ((((Blk.new W0 _ #[.slice none 0 0, .int .i64 0]).drewN 1).below HB3.out (HLT.out _)).store 0 (.slice A1 (n) c)).store 1 (.int .i64 ((m : Int) + 1)), HA2.out, hn2, hc2, ?_, ?_⟩
                      · exact (HCS2.out.upd hu HBW.out.size (fun s hs => .inr (by have e : s = W0.heap.size := (by simpa using hs); rw [e]; exact Nat.le_refl _))).more (by first | exact Nat.le_trans HM (by simp) | exact Nat.le_refl _) (Nat.le_trans HBW.out.size hu.size)
                      · exact HBW.out.trans (hu.below HBW.out.size (by simp))
                obtain ⟨gv, A2, c2, rfl, rfl, hB, hA2, hn2, hc2, hcs2, hb3⟩ := hcut
                have q0 := hB.cell 0
                have q1 : wc.cell? ⟨gv, 1, none⟩ = some (.int .i64 ((m : Int) + 1)) := hB.cell 1
                simp only [List.getElem?_toArray, List.getElem?_cons_zero] at q0
                have hG := HPP.out.blk.below hb3 hgl
                have d0' := hG.cell 0
                have d1' : wc.cell? ⟨g, 1, none⟩ = some (.int .i64 ((m : Int) + 1)) := hG.cell 1
                simp only [List.getElem?_toArray, List.getElem?_cons_zero] at d0'
                have f0 := hG.frozen 0
                have f1 := hG.frozen 1
                have hy2 := (hb3.cell (p := ⟨b, off + k * 2 + 1, none⟩) (Nat.lt_of_lt_of_le hbB HPP.out.below.size)).trans hy'
                have hbg : b ≠ g := by have := HPP.out.gw; omega
                have hu1 : Upd [g] wc ((wc.setCell ⟨g, 0, none⟩ (.slice A2 (n) c2)).setCell ⟨g, 1, none⟩ (.int .i64 ((m : Int) + 1))) := ((Upd.refl _ _).setCell (by simp) _).setCell (by simp) _
                have HU1 := Lib.hid hu1
                have hq1 : QI.Q ((wc.setCell ⟨g, 0, none⟩ (.slice A2 (n) c2)).setCell ⟨g, 1, none⟩ (.int .i64 ((m : Int) + 1))) p r (m + 1) xs :=
                  IsQ.upd (IsQ.below HPP.out.q hb3 (IsQ.lt HPP.out.q).1 (IsQ.lt HPP.out.q).2) hu1 (by simp; exact HPP.out.gp.symm) (by simp; exact HPP.out.gr.symm)
                have HQ1 := Lib.hid (QI.push_no hq1 y (by omega))
                have hbk1 := (hG.store 0 (.slice A2 (n) c2)).store 1 (.int .i64 ((m : Int) + 1))
                have HBK := Lib.hid hbk1
                have HCS2 := Lib.hid hcs2
                have HB3 := Lib.hid hb3
                have HA2 := Lib.hid hA2
                clear hu1 hq1 hbk1 hcs2 hb3 hA2 hB hG d0 d1 hx' hy'
                go_wp2_with fail
                refine HQ1.out.mono ?_
                rintro e w5 ⟨rfl, hq5, hu5⟩
                have HP5 := Lib.hid (HPP.out.turned HB3.out HU1.out HBK.out w5 hq5 hu5 hln HA2.out hn2 hc2 (Nat.le_refl _) HCS2.out)
                clear hq5 hu5
                go_wp2
                go_meet
                case rel => exact ⟨_, _, _, _, HP5.out⟩
          · subst hk2
            cases xs with
            | nil =>
              obtain ⟨W0, rfl⟩ : ∃ W0 : World, W0 = wc := ⟨_, rfl⟩
              obtain rfl : n = 0 := by simpa using hln.symm
              have HCS := Lib.hid HPP.out.cells
              have HC1 := Lib.hid HPP.out.cap1
              have HC2 := Lib.hid HPP.out.cap2
              clear hbd hln
              go_wp2_with fail
              refine (rpop_no A1 c _ _).mono ?_
              rintro e w3 ⟨rfl, hb3⟩
              have hG := HPP.out.blk.below hb3 hgl
              have d0' := hG.cell 0
              have d1' : w3.cell? ⟨g, 1, none⟩ = some (.int .i64 ((m : Int) + 1)) := hG.cell 1
              simp only [List.getElem?_toArray, List.getElem?_cons_zero] at d0'
              have f0 := hG.frozen 0
              have f1 := hG.frozen 1
              have hgl3 : g < w3.heap.size := hG.lt
              have hu1 : Upd [g] w3 (((w3.setCell ⟨g, 0, none⟩ (.slice A1 0 c)).setCell ⟨g, 1, none⟩ (.int .i64 ((m : Int) + 1))).alloc (.cells #[.slice A1 0 c, .int .i64 ((m : Int) + 1)] 35)) := (((Upd.refl _ _).setCell (by simp) _).setCell (by simp) _).alloc _
              have hq1 : QI.Q (((w3.setCell ⟨g, 0, none⟩ (.slice A1 0 c)).setCell ⟨g, 1, none⟩ (.int .i64 ((m : Int) + 1))).alloc (.cells #[.slice A1 0 c, .int .i64 ((m : Int) + 1)] 35)) p r (m + 1) _ := IsQ.upd (IsQ.below HPP.out.q hb3 (IsQ.lt HPP.out.q).1 (IsQ.lt HPP.out.q).2) hu1 (by simp; exact HPP.out.gp.symm) (by simp; exact HPP.out.gr.symm)
              have hbk := ((hG.store 0 (.slice A1 0 c)).store 1 (.int .i64 ((m : Int) + 1))).alloc (.cells #[.slice A1 0 c, .int .i64 ((m : Int) + 1)] 35)
              have HQ1 := Lib.hid (QI.pop_no hq1)
              have HQ0 := Lib.hid hq1
              have HU1 := Lib.hid hu1
              have HBK := Lib.hid hbk
              have HB3 := Lib.hid hb3
              clear hu1 hq1 hbk hb3 hG d0 d1 hx' hy'
              go_wp2_with fail
              refine HQ1.out.mono ?_
              rintro e w5 ⟨rfl, rfl⟩
              have HP5 := Lib.hid (HPP.out.turned HB3.out HU1.out HBK.out _ HQ0.out (Upd.refl _ _) rfl HPP.out.nil HC1.out HC2.out (Nat.le_refl _) (CellsIn.nil _ _ _ _ _))
              go_wp2
              go_meet
              case rel => exact ⟨_, _, _, _, HP5.out⟩
            | cons x0 xt =>
              obtain ⟨W0, rfl⟩ : ∃ W0 : World, W0 = wc := ⟨_, rfl⟩
              obtain rfl : n = xt.length + 1 := by simpa using hln.symm
              have HCS := Lib.hid HPP.out.cells
              have HC1 := Lib.hid HPP.out.cap1
              have HC2 := Lib.hid HPP.out.cap2
              have hbd2 : xt.length + 1 ≤ 4096 := by have := hbd.1; simp only [List.length_cons] at this; omega
              clear hbd hln
              go_wp2_with fail
              refine (rpop_yes A1 xt.length c (g + 1) _ x0 xt _ (by omega) HC1.out HC2.out HCS.out).mono ?_
              rintro e w3 ⟨A2, c2, rfl, hA2, hn2, hc2, hcs2, hb3⟩
              have HCS2 := Lib.hid hcs2
              have HA2 := Lib.hid hA2
              clear hcs2 hA2
              have hG := HPP.out.blk.below hb3 hgl
              have d0' := hG.cell 0
              have d1' : w3.cell? ⟨g, 1, none⟩ = some (.int .i64 ((m : Int) + 1)) := hG.cell 1
              simp only [List.getElem?_toArray, List.getElem?_cons_zero] at d0'
              have f0 := hG.frozen 0
              have f1 := hG.frozen 1
              have hgl3 : g < w3.heap.size := hG.lt
              have hu1 : Upd [g] w3 (((w3.setCell ⟨g, 0, none⟩ (.slice A2 xt.length c2)).setCell ⟨g, 1, none⟩ (.int .i64 ((m : Int) + 1))).alloc (.cells #[.slice A2 xt.length c2, .int .i64 ((m : Int) + 1)] 35)) := (((Upd.refl _ _).setCell (by simp) _).setCell (by simp) _).alloc _
              have hq1 : QI.Q (((w3.setCell ⟨g, 0, none⟩ (.slice A2 xt.length c2)).setCell ⟨g, 1, none⟩ (.int .i64 ((m : Int) + 1))).alloc (.cells #[.slice A2 xt.length c2, .int .i64 ((m : Int) + 1)] 35)) p r (m + 1) _ := IsQ.upd (IsQ.below HPP.out.q hb3 (IsQ.lt HPP.out.q).1 (IsQ.lt HPP.out.q).2) hu1 (by simp; exact HPP.out.gp.symm) (by simp; exact HPP.out.gr.symm)
              have hbk := ((hG.store 0 (.slice A2 xt.length c2)).store 1 (.int .i64 ((m : Int) + 1))).alloc (.cells #[.slice A2 xt.length c2, .int .i64 ((m : Int) + 1)] 35)
              have HQ1 := Lib.hid (QI.pop_yes hq1)
              have HQ0 := Lib.hid hq1
              have HU1 := Lib.hid hu1
              have HBK := Lib.hid hbk
              have HB3 := Lib.hid hb3
              clear hu1 hq1 hbk hb3 hG d0 d1 hx' hy'
              go_wp2_with fail
              refine HQ1.out.mono ?_
              rintro e w5 ⟨rfl, hq5, hu5⟩
              have HP5 := Lib.hid (HPP.out.turned HB3.out HU1.out HBK.out w5 hq5 hu5 rfl (fun h => absurd h HA2.out) hn2 hc2 (Nat.le_refl _) (HCS2.out.more (Nat.le_refl _) HB3.out.size))
              clear hq5 hu5
              go_wp2
              go_meet
              case rel => exact ⟨_, _, _, _, HP5.out⟩
          · skip
            cases xs with
            | nil =>
              obtain ⟨W0, rfl⟩ : ∃ W0 : World, W0 = wc := ⟨_, rfl⟩
              obtain rfl : n = 0 := by simpa using hln.symm
              have HCS := Lib.hid HPP.out.cells
              have HC1 := Lib.hid HPP.out.cap1
              have HC2 := Lib.hid HPP.out.cap2
              clear hbd hln
              go_wp2_with fail
              refine (rpop_no A1 c _ _).mono ?_
              rintro e w3 ⟨rfl, hb3⟩
              have hG := HPP.out.blk.below hb3 hgl
              have d0' := hG.cell 0
              have d1' : w3.cell? ⟨g, 1, none⟩ = some (.int .i64 ((m : Int) + 1)) := hG.cell 1
              simp only [List.getElem?_toArray, List.getElem?_cons_zero] at d0'
              have f0 := hG.frozen 0
              have f1 := hG.frozen 1
              have hgl3 : g < w3.heap.size := hG.lt
              have hp3 : PlayAt w (w3.alloc (.cells #[.slice A1 0 c, .int .i64 ((m : Int) + 1)] 35)) (g + 1) p r g (m + 1) A1 _ c _ := HPP.out.upd ((Upd.of_below hb3).next ((Upd.refl [] w3).alloc _))
              have HQ1 := Lib.hid (QI.peek_no hp3.q)
              have HP3 := Lib.hid hp3
              clear hp3 hb3 hG d0 d1 hx' hy'
              go_wp2_with fail
              refine HQ1.out.mono ?_
              rintro e w5 ⟨rfl, rfl⟩
              have HP5 := HP3
              go_wp2
              go_meet
              case rel => exact ⟨_, _, _, _, HP5.out⟩
            | cons x0 xt =>
              obtain ⟨W0, rfl⟩ : ∃ W0 : World, W0 = wc := ⟨_, rfl⟩
              obtain rfl : n = xt.length + 1 := by simpa using hln.symm
              have HCS := Lib.hid HPP.out.cells
              have HC1 := Lib.hid HPP.out.cap1
              have HC2 := Lib.hid HPP.out.cap2
              have hbd2 : xt.length + 1 ≤ 4096 := by have := hbd.1; simp only [List.length_cons] at this; omega
              clear hbd hln
              go_wp2_with fail
              refine (rpop_yes A1 xt.length c (g + 1) _ x0 xt _ (by omega) HC1.out HC2.out HCS.out).mono ?_
              rintro e w3 ⟨A2, c2, rfl, hA2, hn2, hc2, hcs2, hb3⟩
              have HCS2 := Lib.hid hcs2
              have HA2 := Lib.hid hA2
              clear hcs2 hA2
              have hG := HPP.out.blk.below hb3 hgl
              have d0' := hG.cell 0
              have d1' : w3.cell? ⟨g, 1, none⟩ = some (.int .i64 ((m : Int) + 1)) := hG.cell 1
              simp only [List.getElem?_toArray, List.getElem?_cons_zero] at d0'
              have f0 := hG.frozen 0
              have f1 := hG.frozen 1
              have hgl3 : g < w3.heap.size := hG.lt
              have hp3 : PlayAt w (w3.alloc (.cells #[.slice A2 xt.length c2, .int .i64 ((m : Int) + 1)] 35)) (g + 1) p r g (m + 1) A1 _ c _ := HPP.out.upd ((Upd.of_below hb3).next ((Upd.refl [] w3).alloc _))
              have HQ1 := Lib.hid (QI.peek_yes hp3.q)
              have HP3 := Lib.hid hp3
              clear hp3 hb3 hG d0 d1 hx' hy'
              go_wp2_with fail
              refine HQ1.out.mono ?_
              rintro e w5 ⟨rfl, _, hu5⟩
              have HP5 := Lib.hid (HP3.out.upd hu5)
              clear hu5
              go_wp2
              go_meet
              case rel => exact ⟨_, _, _, _, HP5.out⟩
      · go_wp2
        go_ret
        exact ⟨rfl, hp.below⟩
end Go.Proofs.Ytbgfoeaddnhnnaa
