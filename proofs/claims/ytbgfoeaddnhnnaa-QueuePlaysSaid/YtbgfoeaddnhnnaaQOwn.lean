/- QueueOwn: the walk. -/
import Derived.Test.YtbgfoeaddnhnnaaQAwake
namespace Go.Proofs.Ytbgfoeaddnhnnaa
open Go Go.RowKit

/-- what a walk reads of a slice of integers that came in -/
theorem int_at {w : World} {B len : Nat} {A : Option Addr} {l : List Int} {k : IntKind} (h : Cells w B 1 A len (l.map (Value.int k))) (i : Nat) (hi : i < len) :
    ∃ b off, A = some ⟨b, off, none⟩ ∧ b < B ∧ ∀ (j : Nat) (hj : j < l.length), w.cell? ⟨b, off + j, none⟩ = some (.int k l[j]) := by
  obtain ⟨b, off, e, hb, hc⟩ := h.2 (by omega)
  exact ⟨b, off, e, hb, fun j hj => hc j _ (by simp [hj])⟩

theorem take_snoc {α : Type} (l : List α) (k : Nat) (h : k < l.length) : l.take k ++ [l[k]] = l.take (k + 1) := (List.take_succ_eq_append_getElem h).symm

set_option maxHeartbeats 1000000 in
theorem own_any (A : Option Addr) (len cap : Nat) (l : List Int) (w : World) (hlen : len ≤ 9223372036854775807) (hll : l.length = len) (hl : Cells w w.heap.size 1 A len (l.map (Value.int .i64))) :
    Calls Try.prog 7 #[.slice A len cap] w fun e w' => e = .returned (.bool true) ∧ Below w.heap.size w w' := by
  have HL := Lib.hid hl
  have HLL := Lib.hid hll
  clear hl hll
  by_cases hbig : 100 < (len : Int)
  · go_enter Try.func7, Try.ntmps7
    go_wp2_with fail
    refine (awake_any w).mono ?_
    rintro e w1 ⟨rfl, hu1⟩
    go_wp2
    go_ret
    exact ⟨rfl, hu1.below (Nat.le_refl _) (by simp)⟩
  · go_enter Try.func7, Try.ntmps7
    go_wp2_with fail
    refine (awake_any w).mono ?_
    rintro e w1 ⟨rfl, hu1⟩
    go_wp2_with fail
    refine (QI.new_yes w1 200 _ (by show _ = _; rfl) (by omega) (by omega)).mono ?_
    rintro e w2 ⟨rfl, hq2, hu2⟩
    go_wp2_with fail
    refine (QI.new_yes w2 200 _ (by show _ = _; rfl) (by omega) (by omega)).mono ?_
    rintro e w3 ⟨rfl, hp3, hu3⟩
    have hq3 := IsQ.upd hq2 hu3 (by simp) (by simp)
    have hlt2 := IsQ.lt hq2
    obtain ⟨p, hp⟩ : ∃ p, p = w1.heap.size + 1 := ⟨_, rfl⟩
    obtain ⟨r, hr⟩ : ∃ r, r = w1.heap.size := ⟨_, rfl⟩
    obtain ⟨p', hp'⟩ : ∃ p, p = w2.heap.size + 1 := ⟨_, rfl⟩
    obtain ⟨r', hr'⟩ : ∃ r, r = w2.heap.size := ⟨_, rfl⟩
    rw [← hp, ← hr] at hq3
    rw [← hp', ← hr'] at hp3
    rw [← hp, ← hp']
    have hpB : w.heap.size ≤ p := by have := hu1.size; omega
    have hrB : w.heap.size ≤ r := by have := hu1.size; omega
    have hpB' : w.heap.size ≤ p' := by have := hu1.size; have := hu2.size; omega
    have hrB' : w.heap.size ≤ r' := by have := hu1.size; have := hu2.size; omega
    have h1 : p ≠ p' := by omega
    have h2 : p ≠ r' := by omega
    have h3 : r ≠ p' := by omega
    have h4 : r ≠ r' := by omega
    have hb3 : Below w.heap.size w w3 := (hu1.next (hu2.next hu3)).below (Nat.le_refl _) (by simp)
    have HQ3 := Lib.hid hq3
    have HP3 := Lib.hid hp3
    clear hp hr hp' hr' hq2 hu2 hu1 hu3 hq3 hp3 hlt2
    go_wp2
    go_loopw [6] (fun i wr => ∃ k : Nat, k ≤ len ∧ i = .int .i64 k ∧ QI.Q wr p r 200 (l.take k) ∧ QI.Q wr p' r' 200 (l.reverse.take k) ∧ Below w.heap.size w wr) (fun i _ => len - (intOf i).toNat)
    case atStart => exact ⟨0, Nat.zero_le _, rfl, HQ3.out, HP3.out, hb3⟩
    case round =>
      obtain ⟨k, hk, rfl, hq, hp, hb⟩ := hrel
      by_cases hlt : k < len
      · obtain ⟨b, off, rfl, hbB, hc⟩ := int_at HL.out k hlt
        have hkl : k < l.length := by rw [HLL.out]; exact hlt
        have hkr : len - 1 - k < l.length := by rw [HLL.out]; omega
        obtain ⟨x, hx⟩ : ∃ x, x = l[k] := ⟨_, rfl⟩
        obtain ⟨y, hy⟩ : ∃ y, y = l[len - 1 - k] := ⟨_, rfl⟩
        have hcx := hc k hkl
        have hcy := hc (len - 1 - k) hkr
        rw [← hx] at hcx
        rw [← hy] at hcy
        have hcx' := (hb.cell (p := ⟨b, off + k, none⟩) hbB).trans hcx
        have T1 : Hid (l.take k ++ [x] = l.take (k + 1)) := by show _ = _; rw [hx]; exact take_snoc l k hkl
        have T2 : Hid (l.reverse.take k ++ [y] = l.reverse.take (k + 1)) := by
          show _ = _
          have hh := HLL.out
          have hkv : k < l.reverse.length := by rw [List.length_reverse]; exact hkl
          have he : l.reverse[k] = y := by rw [List.getElem_reverse, hy]; congr 1; omega
          rw [← he]; exact take_snoc _ k hkv
        have L1 : (l.take k).length < 200 := by rw [List.length_take]; omega
        have L2 : (l.reverse.take k).length < 200 := by rw [List.length_take]; omega
        clear hc hcx hx hy hkl
        go_wp2_with fail
        refine (QI.push_yes hq x L1).mono ?_
        rintro e w4 ⟨rfl, hq4, hu4⟩
        have hp4 := IsQ.upd hp hu4 (by simp [Ne.symm h1, Ne.symm h3]) (by simp [Ne.symm h2, Ne.symm h4])
        have hb4 := hb.trans (hu4.below (B := w.heap.size) hb.size (by simp; omega))
        have hcy' := (hb4.cell (p := ⟨b, off + (len - 1 - k), none⟩) hbB).trans hcy
        clear hcx' hcy
        go_wp2_with fail
        refine (QI.push_yes hp4 y L2).mono ?_
        rintro e w5 ⟨rfl, hp5, hu5⟩
        have hq5 := IsQ.upd hq4 hu5 (by simp [h1, h2]) (by simp [h3, h4])
        have hb5 := hb4.trans (hu5.below (B := w.heap.size) hb4.size (by simp; omega))
        clear hcy'
        rw [T1.out] at hq5
        rw [T2.out] at hp5
        go_wp2
        go_roundw
        case rel => exact ⟨k + 1, by omega, by go_num, hq5, hp5, hb5⟩
        case measure => simp [intOf]; omega
      · obtain rfl : k = len := by omega
        have e1 : l.take k = l := by rw [← HLL.out, List.take_length]
        have e2 : l.reverse.take k = l.reverse := by rw [← HLL.out, ← List.length_reverse, List.take_length]
        rw [e1] at hq
        rw [e2] at hp
        clear e1 e2
        go_wp2_with fail
        refine (QI.all hq).mono ?_
        rintro e w4 ⟨v, rfl, hv, hu4⟩
        have hq4 := IsQ.upd hq hu4 (by simp) (by simp)
        have hp4 := IsQ.upd hp hu4 (by simp) (by simp)
        have hb4 := hb.trans (hu4.below (B := w.heap.size) hb.size (by simp))
        obtain ⟨A', cap', hvf, hcap', hA', _⟩ := own_form hv
        rw [HLL.out] at hvf hA' hcap'
        rw [hvf] at hv ⊢
        have HA := Lib.hid hA'
        have HV := Lib.hid hv
        have HQ4 := Lib.hid hq4
        have HP4 := Lib.hid hp4
        have hpr1 := IsQ.lt hq
        have hpr2 := IsQ.lt hp
        have hsz := hb.size
        clear hvf hv hA' hq4 hp4 hq hp hu4
        go_wp2
        obtain ⟨wi, hwi⟩ : ∃ wi : World, wi = w4 := ⟨_, rfl⟩
        obtain ⟨N, hN⟩ : ∃ N, N = wr.heap.size := ⟨_, rfl⟩
        rw [← hwi] at HQ4 HP4 HV HA hb4 ⊢
        rw [← hN] at HV HA hsz hpr1 hpr2
        clear hwi hN hb
        go_loopw [8] (fun i wr => ∃ t : Nat, t ≤ k ∧ i = .int .i64 t ∧ (∃ ys : List Int, ys.length = k ∧ wr.ownsRow N 3 1 (.slice A' k cap') k (ys.map (Value.int .i64))) ∧ QI.Q wr p r 200 l ∧ QI.Q wr p' r' 200 l.reverse ∧ Below w.heap.size w wr) (fun i _ => k - (intOf i).toNat)
        case atStart => exact ⟨0, Nat.zero_le _, rfl, ⟨l, HLL.out, by have := HV.out; rw [HLL.out] at this; exact this⟩, HQ4.out, HP4.out, hb4⟩
        case round =>
          obtain ⟨t, ht, rfl, ⟨ys, hyl, hown⟩, hq, hp, hb⟩ := hrel
          by_cases hlt2 : t < k
          · obtain ⟨g, rfl, hNg, _⟩ := HA.out (by omega)
            have hty : t < ys.length := by rw [hyl]; exact hlt2
            have hcell := hown.cellAt t (by rw [Nat.mul_one]; exact hlt2)
            rw [List.getElem?_map, List.getElem?_eq_getElem hty, Option.map_some] at hcell
            have hfz := hown.frozenAt t
            obtain ⟨y, hy⟩ : ∃ y, y = ys[t] := ⟨_, rfl⟩
            rw [← hy] at hcell
            have ST := fun u => (hown.stored t u).1
            have HST := Lib.hid ST
            have HYL := Lib.hid hyl
            clear hy ST hown hyl
            go_wp2
            have hu : Upd [g] wr (wr.setCell ⟨g, t, none⟩ (.int .i64 (wrap64 (y + 1)))) := (Upd.refl _ wr).setCell (by simp) _
            have hq' := IsQ.upd hq hu (by simp; omega) (by simp; omega)
            have hp' := IsQ.upd hp hu (by simp; omega) (by simp; omega)
            have hb' := hb.trans (hu.below (B := w.heap.size) hb.size (by simp; omega))
            go_roundw
            case rel => exact ⟨t + 1, by omega, by go_num, ⟨ys.set t (wrap64 (y + 1)), by rw [List.length_set]; exact HYL.out, by rw [List.map_set]; exact HST.out _⟩, hq', hp', hb'⟩
            case measure => simp [intOf]; omega
          · have HQ5 := Lib.hid hq
            have HP5 := Lib.hid hp
            clear hown hq hp hyl
            go_wp2
            obtain ⟨wj, hwj⟩ : ∃ wj : World, wj = wr := ⟨_, rfl⟩
            rw [← hwj] at HQ5 HP5 hb ⊢
            clear hwj hb4 HV HQ4 HP4
            go_loopw [9, 10, 11, 12, 13] (fun i x1 x2 x3 x4 wr => ∃ s : Nat, s ≤ k ∧ i = .int .i64 s ∧ QI.Q wr p r 200 (l.drop s) ∧ QI.Q wr p' r' 200 (l.reverse.drop s) ∧ Below w.heap.size w wr) (fun i _ _ _ _ _ => k - (intOf i).toNat)
            case atStart => exact ⟨0, Nat.zero_le _, rfl, HQ5.out, HP5.out, hb⟩
            case round =>
              obtain ⟨s, hs, rfl, hq, hp, hb6⟩ := hrel
              by_cases hlt3 : s < k
              · obtain ⟨b, off, rfl, hbB, hc⟩ := int_at HL.out s hlt3
                have hh := HLL.out
                have hsl : s < l.length := by omega
                have hsr : k - 1 - s < l.length := by omega
                have hsv : s < l.reverse.length := by rw [List.length_reverse]; exact hsl
                rw [List.drop_eq_getElem_cons hsl] at hq
                rw [List.drop_eq_getElem_cons hsv] at hp
                have he : l.reverse[s] = l[k - 1 - s] := by rw [List.getElem_reverse]; congr 1; omega
                rw [he] at hp
                have hcx := hc s hsl
                have hcy := hc (k - 1 - s) hsr
                obtain ⟨x, hx⟩ : ∃ x, x = l[s] := ⟨_, rfl⟩
                obtain ⟨y, hy⟩ : ∃ y, y = l[k - 1 - s] := ⟨_, rfl⟩
                rw [← hx] at hcx hq
                rw [← hy] at hcy hp
                clear hx hy he hh hc
                go_wp2_with fail
                refine (QI.pop_yes hq).mono ?_
                rintro e w6 ⟨rfl, hq6, hu6⟩
                have hp6 := IsQ.upd hp hu6 (by simp [Ne.symm h1, Ne.symm h3]) (by simp [Ne.symm h2, Ne.symm h4])
                have hb7 := hb6.trans (hu6.below (B := w.heap.size) hb6.size (by simp; omega))
                go_wp2_with fail
                refine (QI.pop_yes hp6).mono ?_
                rintro e w7 ⟨rfl, hp7, hu7⟩
                have hq7 := IsQ.upd hq6 hu7 (by simp [h1, h2]) (by simp [h3, h4])
                have hb8 := hb7.trans (hu7.below (B := w.heap.size) hb7.size (by simp; omega))
                have hcx' := (hb8.cell (p := ⟨b, off + s, none⟩) hbB).trans hcx
                have hcy' := (hb8.cell (p := ⟨b, off + (k - 1 - s), none⟩) hbB).trans hcy
                clear hcx hcy
                go_wp2
                go_roundw
                case rel => exact ⟨s + 1, by omega, by go_num, hq7, hp7, hb8⟩
                case measure => simp [intOf]; omega
              · obtain rfl : s = k := by omega
                have e1 : l.drop s = [] := by rw [← HLL.out, List.drop_length]
                have e2 : l.reverse.drop s = [] := by rw [← HLL.out, ← List.length_reverse, List.drop_length]
                rw [e1] at hq
                rw [e2] at hp
                clear e1 e2
                go_wp2_with fail
                refine (QI.len hq).mono ?_
                rintro e w6 ⟨rfl, rfl⟩
                go_wp2_with fail
                refine (QI.len hp).mono ?_
                rintro e w6 ⟨rfl, rfl⟩
                go_wp2
                go_ret
                exact ⟨ret_bool (by simp), hb6⟩
end Go.Proofs.Ytbgfoeaddnhnnaa
