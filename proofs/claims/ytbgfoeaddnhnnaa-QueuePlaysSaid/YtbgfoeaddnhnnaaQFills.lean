/- QueueFills: the walk. -/
import Derived.Test.YtbgfoeaddnhnnaaQAwake
namespace Go.Proofs.Ytbgfoeaddnhnnaa
open Go Go.RowKit

/-- Something that is done, as cells. -/
def actCells (l : List (Int × Int)) : List Value := l.flatMap fun a => [.int .i64 a.1, .int .i64 a.2]
theorem actCells_get (l : List (Int × Int)) (i : Nat) (h : i < l.length) : (actCells l)[i * 2]? = some (.int .i64 l[i].1) ∧ (actCells l)[i * 2 + 1]? = some (.int .i64 l[i].2) := by
  induction l generalizing i with
  | nil => simp at h
  | cons a l ih =>
    cases i with
    | zero => simp [actCells]
    | succ i =>
      have h' : i < l.length := by simpa using h
      have := ih i h'
      simp only [actCells, List.flatMap_cons] at this ⊢
      rw [List.getElem?_append_right (by simp; omega), List.getElem?_append_right (by simp; omega)]
      simp only [List.length_cons, List.length_nil, List.getElem_cons_succ]
      rw [show (i + 1) * 2 - 2 = i * 2 by omega, show (i + 1) * 2 + 1 - 2 = i * 2 + 1 by omega]
      exact this
theorem actCells_length (l : List (Int × Int)) : (actCells l).length = l.length * 2 := by
  induction l with
  | nil => rfl
  | cons a l ih => simp only [actCells, List.flatMap_cons, List.length_append, List.length_cons, List.length_nil] at ih ⊢; omega

/-- what a round reads of the actions -/
theorem act_at {w : World} {B len : Nat} {A : Option Addr} {l : List (Int × Int)} (h : Cells w B 2 A len (actCells l)) (k : Nat) (hk : k < len) :
    ∃ b off x y, A = some ⟨b, off, none⟩ ∧ b < B ∧ l[k]? = some (x, y) ∧ w.cell? ⟨b, off + k * 2, none⟩ = some (.int .i64 x) ∧ w.cell? ⟨b, off + k * 2 + 1, none⟩ = some (.int .i64 y) := by
  obtain ⟨b, off, e, hb, hc⟩ := h.2 (by omega)
  have hl : k < l.length := by have := h.1; rw [actCells_length] at this; omega
  have hg := actCells_get l k hl
  exact ⟨b, off, l[k].1, l[k].2, e, hb, by rw [List.getElem?_eq_getElem hl], hc _ _ hg.1, by rw [Nat.add_assoc]; exact hc _ _ hg.2⟩

set_option maxHeartbeats 1000000 in
theorem fills_any (room : Int) (A : Option Addr) (len cap : Nat) (l : List (Int × Int)) (w : World) (hr0 : 0 ≤ room) (hr1 : room ≤ 255) (hlen : len ≤ 9223372036854775807) (hl : Cells w w.heap.size 2 A len (actCells l)) :
    Calls Try.prog 3 #[.int .u8 room, .slice A len cap] w fun e w' => e = .returned (.bool true) ∧ Below w.heap.size w w' := by
  obtain ⟨m, hm⟩ : ∃ m : Nat, room % 9 = m := ⟨(room % 9).toNat, by omega⟩
  have hm9 : m < 9 := by omega
  have HL := Lib.hid hl
  clear hl
  by_cases hbig : 200 < (len : Int)
  · go_enter Try.func3, Try.ntmps3
    go_wp2_with fail
    refine (awake_any w).mono ?_
    rintro e w1 ⟨rfl, hu1⟩
    go_wp2
    go_ret
    exact ⟨rfl, hu1.below (Nat.le_refl _) (by simp)⟩
  · go_enter Try.func3, Try.ntmps3
    go_wp2_with fail
    refine (awake_any w).mono ?_
    rintro e w1 ⟨rfl, hu1⟩
    go_wp2_with fail
    refine (QI.new_yes w1 (m + 1) _ (by show _ = _; push_cast; rfl) (by omega) (by omega)).mono ?_
    rintro e w2 ⟨rfl, hq2, hu2⟩
    obtain ⟨p, hp⟩ : ∃ p, p = w1.heap.size + 1 := ⟨_, rfl⟩
    obtain ⟨r, hr⟩ : ∃ r, r = w1.heap.size := ⟨_, rfl⟩
    rw [← hp, ← hr] at hq2
    rw [← hp]
    have hpB : w.heap.size ≤ p := by have := hu1.size; omega
    have hrB : w.heap.size ≤ r := by have := hu1.size; omega
    have hb2 : Below w.heap.size w w2 := (hu1.next hu2).below (Nat.le_refl _) (by simp)
    have HQ2 := Lib.hid hq2
    clear hp hr hq2 hu2 hu1
    go_wp2
    go_loopw [8] (fun i wr => ∃ k : Nat, k ≤ len ∧ i = .int .i64 k ∧ (∃ xs, QI.Q wr p r (m + 1) xs) ∧ Below w.heap.size w wr) (fun i _ => len - (intOf i).toNat)
    case atStart => exact ⟨0, Nat.zero_le _, rfl, ⟨[], HQ2.out⟩, hb2⟩
    case round =>
      obtain ⟨k, hk, rfl, ⟨xs, hq⟩, hb⟩ := hrel
      by_cases hlt : k < len
      · obtain ⟨b, off, x, y, rfl, hbB, _, hx, hy⟩ := act_at HL.out k hlt
        have hx' := (hb.cell (p := ⟨b, off + k * 2, none⟩) hbB).trans hx
        have hy' := (hb.cell (p := ⟨b, off + k * 2 + 1, none⟩) hbB).trans hy
        clear hx hy
        by_cases hkind : x < 2
        · go_wp2_with fail
          refine (QI.push_any hq y).mono ?_
          rintro e w3 ⟨⟨bb, rfl⟩, ⟨ys, hq3⟩, hu3⟩
          have hb3 := hb.trans (hu3.below (B := w.heap.size) hb.size (by simp; omega))
          clear hx' hy'
          go_wp2
          go_roundw
          case rel => exact ⟨k + 1, by omega, by go_num, ⟨_, hq3⟩, hb3⟩
          case measure => simp [intOf]; omega
        · go_wp2_with fail
          refine (QI.pop_any hq).mono ?_
          rintro e w3 ⟨⟨xx, bb, rfl⟩, ⟨ys, hq3⟩, hu3⟩
          have hb3 := hb.trans (hu3.below (B := w.heap.size) hb.size (by simp; omega))
          clear hx' hy'
          go_wp2
          go_roundw
          case rel => exact ⟨k + 1, by omega, by go_num, ⟨_, hq3⟩, hb3⟩
          case measure => simp [intOf]; omega
      · have hbd := hq.bound
        go_wp2_with fail
        refine (QI.room hq).mono ?_
        rintro e w3 ⟨rfl, q, rfl⟩
        have hq3 := Lib.hid (hq.drewN q)
        have hb3 : Below w.heap.size w (wr.drewN q) := ⟨hb.os, hb.tape, hb.output, hb.size, hb.block⟩
        clear hq
        go_wp2
        obtain ⟨wo, hwo⟩ : ∃ wo : World, wo = wr.drewN q := ⟨_, rfl⟩
        rw [← hwo] at hq3 hb3 ⊢
        clear hwo
        go_loopw [10] (fun i wr => ∃ j : Nat, j ≤ m + 1 - xs.length ∧ i = .int .i64 j ∧ (∃ ys, QI.Q wr p r (m + 1) ys ∧ ys.length = xs.length + j) ∧ Below w.heap.size w wr) (fun i _ => m + 1 - (intOf i).toNat)
        case atStart => exact ⟨0, Nat.zero_le _, rfl, ⟨xs, hq3.out, rfl⟩, hb3⟩
        case round =>
          obtain ⟨j, hj, rfl, ⟨ys, hqy, hyl⟩, hby⟩ := hrel
          have HY := Lib.hid hyl
          clear hyl
          by_cases hlt2 : j < m + 1 - xs.length
          · have hlt3 : (j : Int) < ((m + 1 : Nat) : Int) - xs.length := by omega
            go_wp2_with fail
            refine (QI.push_yes hqy (j : Int) (by rw [HY.out]; omega)).mono ?_
            rintro e w4 ⟨rfl, hq4, hu4⟩
            have hb4 := hby.trans (hu4.below (B := w.heap.size) hby.size (by simp; omega))
            go_wp2
            go_roundw
            case rel => exact ⟨j + 1, by omega, by go_num, ⟨_, hq4, by simp [HY.out]; omega⟩, hb4⟩
            case measure => simp [intOf]; omega
          · have hlt3 : ¬ (j : Int) < ((m + 1 : Nat) : Int) - xs.length := by omega
            have hful : ys.length = m + 1 := by rw [HY.out]; omega
            have HF := Lib.hid hful
            clear hful
            go_wp2_with fail
            refine (QI.push_no hqy 5 HF.out).mono ?_
            rintro e w4 ⟨rfl, hq4, hu4⟩
            have hb4 := hby.trans (hu4.below (B := w.heap.size) hby.size (by simp; omega))
            go_wp2_with fail
            refine (QI.len hq4).mono ?_
            rintro e w5 ⟨rfl, rfl⟩
            have HQ4 := Lib.hid hq4
            have hyl : (ys.length : Int) = (m : Int) + 1 := by rw [HF.out]; push_cast; rfl
            clear hq4 hu4 hby hqy
            go_wp2
            obtain ⟨wi, hwi⟩ : ∃ wi : World, wi = w4 := ⟨_, rfl⟩
            rw [← hwi] at HQ4 hb4 ⊢
            clear hwi hyl
            go_loopw [11, 12, 13] (fun i x y wr => ∃ t : Nat, t ≤ m + 1 ∧ i = .int .i64 t ∧ (∃ zs, QI.Q wr p r (m + 1) zs ∧ zs.length = m + 1 - t) ∧ Below w.heap.size w wr) (fun i _ _ _ => m + 1 - (intOf i).toNat)
            case atStart => exact ⟨0, Nat.zero_le _, rfl, ⟨ys, HQ4.out, HF.out⟩, hb4⟩
            case round =>
              obtain ⟨t, ht, rfl, ⟨zs, hqz, hzl⟩, hbz⟩ := hrel
              have HZ := Lib.hid hzl
              clear hzl
              by_cases hlt4 : t < m + 1
              · have hlt5 : (t : Int) < (m : Int) + 1 := by omega
                cases zs with
                | nil => have := HZ.out; simp at this; omega
                | cons z zs =>
                  go_wp2_with fail
                  refine (QI.pop_yes hqz).mono ?_
                  rintro e w6 ⟨rfl, hq6, hu6⟩
                  have hb6 := hbz.trans (hu6.below (B := w.heap.size) hbz.size (by simp; omega))
                  go_wp2
                  go_roundw
                  case rel => exact ⟨t + 1, by omega, by go_num, ⟨_, hq6, by have := HZ.out; simp at this; omega⟩, hb6⟩
                  case measure => simp [intOf]; omega
              · have hlt5 : ¬ (t : Int) < (m : Int) + 1 := by omega
                obtain rfl : zs = [] := List.eq_nil_of_length_eq_zero (by rw [HZ.out]; omega)
                go_wp2_with fail
                refine (QI.pop_no hqz).mono ?_
                rintro e w6 ⟨rfl, rfl⟩
                go_wp2_with fail
                refine (QI.room hqz).mono ?_
                rintro e w7 ⟨rfl, q7, rfl⟩
                go_wp2
                go_ret
                exact ⟨ret_bool (by simp), ⟨hbz.os, hbz.tape, hbz.output, hbz.size, hbz.block⟩⟩
end Go.Proofs.Ytbgfoeaddnhnnaa
