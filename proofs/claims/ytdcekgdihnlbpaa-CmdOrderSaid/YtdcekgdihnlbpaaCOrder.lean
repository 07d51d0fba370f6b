/- CmdOrder: the walk. -/
import Derived.Test.YtdcekgdihnlbpaaCOrd
import Derived.Deep.LoopGhost
import Derived.Lib.Builder
namespace Go.Proofs.Ytdcekgdihnlbpaa
open Go Go.RowKit
set_option maxHeartbeats 400000

theorem u8_at {w : World} {B len : Nat} {A : Option Addr} {l : List Int} (h : Cells w B 1 A len (l.map (Value.int .u8))) (hl : l.length = len) (i : Nat) (hi : i < len) :
    ∃ b off x, A = some ⟨b, off, none⟩ ∧ b < B ∧ x ∈ l ∧ w.cell? ⟨b, off + i, none⟩ = some (.int .u8 x) := by
  obtain ⟨b, off, e, hb, hc⟩ := h.2 (by omega)
  have hil : i < l.length := by omega
  refine ⟨b, off, l[i], e, hb, List.getElem_mem _, ?_⟩
  exact hc i _ (by rw [List.getElem?_map, List.getElem?_eq_getElem hil]; rfl)

set_option maxRecDepth 100000 in
set_option maxHeartbeats 4000000 in
theorem order_any (a0 a1 : Int) (A : Option Addr) (len cap : Nat) (l : List Int) (w : World) (h0 : 0 ≤ a0) (h1 : a0 ≤ 255) (h2 : 0 ≤ a1) (h3 : a1 ≤ 255) (hlen : len ≤ 9223372036854775807) (hll : l.length = len) (hl : Cells w w.heap.size 1 A len (l.map (Value.int .u8))) (hwf : ∀ x ∈ l, 0 ≤ x ∧ x ≤ 255) :
    Calls Try.prog 3 #[.int .u8 a0, .int .u8 a1, .slice A len cap] w fun e w' => e = .returned (.bool true) ∧ Below w.heap.size w w' := by
  have HL := Lib.hid hl
  have HLL := Lib.hid hll
  have HWF := Lib.hid hwf
  clear hl hll hwf
  by_cases hbig : 150 < (len : Int)
  · go_enter Try.func3, Try.ntmps3
    go_wp2_with fail
    refine (awake_any w).mono ?_
    rintro e w1 ⟨rfl, hu1⟩
    go_wp2
    go_ret
    exact ⟨rfl, hu1.below (Nat.le_refl _) (by simp)⟩
  · obtain ⟨m, hm⟩ : ∃ m : Nat, (m : Int) = a0 % 4 := ⟨(a0 % 4).toNat, by omega⟩
    obtain ⟨r, hr⟩ : ∃ r : Nat, (r : Int) = a1 % 5 := ⟨(a1 % 5).toNat, by omega⟩
    have hm4 : m < 4 := by omega
    have hr5 : r < 5 := by omega
    have hmod : a0 % 4 = (m : Int) := hm.symm
    have hrod : a1 % 5 = (r : Int) := hr.symm
    clear hm hr
    go_enter Try.func3, Try.ntmps3
    go_wp2_with fail
    refine (awake_any w).mono ?_
    rintro e w1 ⟨rfl, hu1⟩
    have hb1 := hu1.below (Nat.le_refl _) (by simp)
    go_wp2_with fail
    have hn := new_yes (m + 1) (r + 1) w1 (by omega) (by omega) (by omega) (by omega)
    rw [show ((m + 1 : Nat) : Int) = (m : Int) + 1 by omega, show ((r + 1 : Nat) : Int) = (r : Int) + 1 by omega] at hn
    refine hn.mono ?_
    clear hn hmod hrod
    rintro e w2 ⟨B, rfl, hb2, hnn, hnew, hu2⟩
    have hmk := run_mk (P := Try.prog) 27 3 (.int .i64 0) 8 Try.underlying27 infoI rfl (m + 1) (by omega) (by omega) w2
    rw [show ((m + 1 : Nat) : Int) = (m : Int) + 1 by omega] at hmk
    obtain ⟨rz, hrz⟩ : ∃ rz, rz = (List.replicate (m + 1) (Value.int .i64 0)).toArray := ⟨_, rfl⟩
    rw [← hrz] at hmk
    obtain ⟨W2, hW2⟩ : ∃ W2, W2 = w2.alloc (.cells rz 3) := ⟨_, rfl⟩
    obtain ⟨gn, hgn⟩ : ∃ gn, gn = w2.heap.size := ⟨_, rfl⟩
    obtain ⟨N, hN⟩ : ∃ N, N = W2.heap.size := ⟨_, rfl⟩
    have hgs : N = gn + 1 := by rw [hN, hW2, hgn]; simp
    have hs2 : OrdAt w W2 N B (m + 1) (r + 1) gn (.slice none 0 0) [] (List.replicate (m + 1) 0) [] (List.replicate (m + 1) 0) := by
      have hu := (Upd.refl [] w2).alloc (.cells rz 3)
      have h1 := hb2.more hu
      rw [← hW2] at h1
      have h2 := Blk.new w2 3 rz
      rw [← hW2, ← hgn] at h2
      have hwb := hb1.trans (hu2.below hb1.size (by simp))
      refine ⟨?_, hnn, World.ownsRow_nil _ _ _ _, ?_, fun j hj => ?_, fun s hs => ?_, ⟨by rw [hgn]; exact hwb.size, by omega⟩, by rw [hgs, hgn]; exact Nat.le_succ_of_le hwb.size, by omega, by rw [hW2]; exact hwb.trans (hu.below hwb.size (by simp))⟩
      · have e : left [] (List.replicate (m + 1) 0) = List.replicate (m + 1) [] := by unfold left; rw [List.map_replicate]; rfl
        rw [e]; exact h1
      · rw [List.map_replicate, show List.replicate (m + 1) (Value.int .i64 ((0 : Nat) : Int)) = List.replicate (m + 1) (Value.int .i64 0) from rfl, ← hrz]; exact h2
      · obtain rfl := List.eq_of_mem_replicate hj; omega
      · have h3 := hb2.footlt s hs
        have h4 := Nat.le_trans hb1.size (hnew s hs)
        omega
    have HS2 := Lib.hid hs2
    clear hs2 hb2 hnn hnew hu2 hu1 hb1 hrz
    go_wp2
    rw [← hW2, ← hgn]
    clear hW2 hN hgn hgs hmk
    go_loopg [10, 12] len (fun gk x10 x12 wr => ∃ (k : Nat) (sent : List Addr) (next : List Nat) (acks : List (Int × Int)) (last : List Int), k ≤ len ∧ len ≤ k + gk ∧ x12 = .int .i64 k ∧ sent.length ≤ k ∧ OrdAt w wr N B (m + 1) (r + 1) gn x10 sent next acks last)
    case atStart => exact ⟨0, _, _, _, _, Nat.zero_le _, by omega, rfl, Nat.le_refl _, HS2.out⟩
    case round =>
      obtain ⟨gA, rfl⟩ : ∃ gA : Nat, gA = gk := ⟨gk, rfl⟩
      obtain ⟨k, sent, next, acks, last, hk, hgk, rfl, hsk, hs⟩ := hrel
      by_cases hlt : k < len
      · obtain ⟨b, off, x, rfl, hbB, hx, c0⟩ := u8_at HL.out HLL.out k hlt
        obtain ⟨hx0, hx1⟩ := HWF.out x hx
        obtain ⟨q, hqx⟩ : ∃ q : Nat, (q : Int) = x % ((m : Int) + 1) := ⟨(x % ((m : Int) + 1)).toNat, by have := Int.emod_nonneg x (show (m : Int) + 1 ≠ 0 by omega); omega⟩
        have hqm : q < m + 1 := by have := Int.emod_lt_of_pos x (show (0 : Int) < (m : Int) + 1 by omega); omega
        obtain ⟨As, cs, hve, _, hAs, _⟩ := own_form hs.own
        subst hve
        have hcs := own_cap hs.own
        have HS := Lib.hid hs
        clear hs
        go_wp2_with fail
        refine (of_any _ _).mono ?_
        rintro e w4 ⟨g1, m1, m1', rfl, _, _, hu4⟩
        have HS4 := Lib.hid (HS.out.more hu4)
        clear hu4 HS
        go_upto_region 14 with fail
        go_cut [48] (fun s48 wd => ∃ p : Bool, s48 = .bool p ∧ Upd B.foot w4 wd ∧ IsB wd B (r + 1) (if p then left (sent ++ [⟨g1, 0, none⟩]) next else left sent next) acks last)
        case first =>
         as_aux_lemma =>
          have hc := Lib.hid (HS4.out.is.send ⟨g1, 0, none⟩)
          go_wp2_with fail
          refine hc.out.mono ?_
          rintro e w5 ⟨he, hb5, hu5⟩
          by_cases hp : hasRoom (r + 1) (left sent next) = true
          · rw [show mSend (r + 1) (left sent next) ⟨g1, 0, none⟩ = (0, (left sent next).map (· ++ [some ⟨g1, 0, none⟩])) by simp only [mSend, if_pos hp]] at he hb5
            dsimp only at he hb5
            rw [left_send _ _ _ HS4.out.le] at hb5
            subst he
            have HB := Lib.hid hb5
            have HU := Lib.hid hu5
            clear hb5 hu5 hc hAs hp
            go_wp2
            go_meet
            case rel => exact ⟨true, rfl, HU.out, HB.out⟩
          · rw [show mSend (r + 1) (left sent next) ⟨g1, 0, none⟩ = (20, left sent next) by simp only [mSend, if_neg hp]] at he hb5
            dsimp only at he hb5
            subst he
            have HB := Lib.hid hb5
            have HU := Lib.hid hu5
            clear hb5 hu5 hc hAs hp
            go_wp2
            go_meet
            case rel => exact ⟨false, rfl, HU.out, HB.out⟩
        obtain ⟨p, rfl, hu5, hb5⟩ := hcut
        apply_assumption
        obtain ⟨w5, rfl⟩ : ∃ W0 : World, W0 = wc := ⟨_, rfl⟩
        go_cut [10] (fun s10 wd => ∃ (sent : List Addr), sent.length ≤ k + 1 ∧ OrdAt w wd N B (m + 1) (r + 1) gn s10 sent next acks last)
        case first =>
         as_aux_lemma =>
          cases p
          · have HS6 := Lib.hid (HS4.out.step hb5 hu5)
            clear hb5 hu5 hAs
            go_wp2
            go_meet
            case rel => exact ⟨_, by omega, HS6.out⟩
          · have ho5 := HS4.out.row hu5
            obtain ⟨ys, hys⟩ : ∃ ys, ys = sent.map fun a => Value.pointer (some a) := ⟨_, rfl⟩
            rw [← hys] at ho5
            have HO5 := Lib.hid ho5
            have HYS := Lib.hid hys
            have HB5 := Lib.hid hb5
            have HU5 := Lib.hid hu5
            have hNs : N ≤ w5.heap.size := Nat.le_trans HS4.out.size hu5.size
            obtain ⟨i0, hi0, hz0, hz1, hz2⟩ := info_parts infoT
            clear hb5 hu5 ho5 hys hAs
            go_wp2_with (at_builtin; refine wpList_append_own_at _ rfl (.tmp 49) (.tmp 51) 26 rfl N 28 i0 _ 1 8 Try.underlying26 hi0 hz0 hz1 hz2 rfl (by decide) _ sent.length ys rfl (HO5.out.alloc _) ⟨w5.heap.size, 0, none⟩ 1 1 [.pointer (some ⟨g1, 0, none⟩)] rfl rfl ?u1 ?u2 ?u3 ?u4 ?u5 ?_)
            case u2 => rfl
            case u3 => first | (unfold maxLen; omega) | omega | (simp; omega)
            case u4 => first | (unfold maxLen; omega) | omega | (simp; omega)
            case u5 => first | (unfold maxLen; omega) | omega | (simp; omega)
            intro v6 w6 hown6 hg6 _ hat6
            have HS6 := Lib.hid (HS4.out.pushed HB5.out HU5.out (by rw [HYS.out] at hown6; exact hown6) hg6)
            clear hown6 hg6 hat6
            go_wp2
            go_meet
            case rel => exact ⟨_, by simp; omega, HS6.out⟩
        case rest =>
         as_aux_lemma =>
          obtain ⟨sent, hsk1, hs⟩ := hcut
          obtain ⟨As, cs, hve, _, hAs, _⟩ := own_form hs.own
          subst hve
          have e0 := (hs.bel.cell (p := ⟨b, off + k, none⟩) hbB).trans c0
          obtain ⟨j, hj, hjl⟩ := hs.has hqm
          have hcs := own_cap hs.own
          have n0 := hs.at hj
          have hmod := hqx.symm
          have HS := Lib.hid hs
          clear hs HS4 c0 hqx
          go_upto_region 17 with fail
          rw [hmod]
          have hc := HS.out.is.take q
          clear hmod e0
          by_cases hjs : j < sent.length
          · obtain ⟨g, hg, _, _⟩ := hAs (by omega)
            subst hg
            obtain ⟨ji, hji⟩ : ∃ ji, Try.prog.info? 81 = some ji := Option.isSome_iff_exists.1 (by kernel_rfl)
            obtain ⟨a, ha⟩ : ∃ a, sent[j]? = some a := ⟨_, List.getElem?_eq_getElem hjs⟩
            rw [left_take sent next q j hj a ha] at hc
            dsimp only at hc
            have HC := Lib.hid hc
            clear hc hAs
            go_wp2_with fail
            refine HC.out.mono ?_
            rintro e w6 ⟨rfl, hb6, hu6⟩
            have hn6 := HS.out.nxt hu6
            have n6 : w6.cell? ⟨gn, q, none⟩ = some (.int .i64 j) := by rw [hn6.cell q, List.getElem?_toArray, List.getElem?_map, hj]; rfl
            have nf := hn6.frozen q
            have c6 : w6.cell? ⟨g, j, none⟩ = some (.pointer (some a)) := by
              rw [(HS.out.row hu6).cellAt j (by omega), List.getElem?_map, ha]; rfl
            have HS7 := Lib.hid (HS.out.took q j hj hjs hb6 hu6)
            have hne := fun W : World => Lib.run_neq_ptr_same (P := Try.prog) (w := W) a Try.underlying28 hji
            have djs : (j : Int) < (sent.length : Int) := by omega
            clear hb6 hu6 HC hn6 n0
            go_upto_region 22 with fail
            obtain ⟨W7, hW7⟩ : ∃ W7, W7 = w6.setCell ⟨gn, q, none⟩ (.int .i64 ((j : Int) + 1)) := ⟨_, rfl⟩
            rw [← hW7] at HS7 ⊢
            obtain ⟨nx7, hnx7⟩ : ∃ nx7, nx7 = next.set q (j + 1) := ⟨_, rfl⟩
            rw [← hnx7] at HS7
            clear hW7 n6 nf c6 hnx7 hne djs
            go_wp2
            go_loopg [17] (m + 1) (fun gk x17 wx => ∃ y : Nat, y ≤ m + 1 ∧ m + 1 ≤ y + gk ∧ x17 = .int .i64 y ∧ OrdAt w wx N B (m + 1) (r + 1) gn (.slice (some ⟨g, 0, none⟩) sent.length cs) sent nx7 acks last)
            case atStart => exact ⟨0, Nat.zero_le _, by omega, rfl, HS7.out⟩
            case round =>
              obtain ⟨y, hy, hgy, rfl, hs⟩ := hrel
              by_cases hyl : y < m + 1
              · obtain ⟨jy, hjy, hjyl⟩ := hs.has hyl
                have c7 := hs.at hjy
                have hlf := hs.lft hjy
                have hq : ∀ nq, Calls Try.prog 12 #[.pointer (some ⟨B.b, 0, none⟩), .int .i64 y] (wr.drewN nq) fun e w' => e = .returned (.int .i64 ((sent.length : Int) - (jy : Int))) ∧ wr.drewN nq = w' := fun nq => by
                  have := queued_yes (hs.is.more ((Upd.refl [] wr).drewN nq)) y _ hlf
                  rw [List.length_map, List.length_drop, show ((sent.length - jy : Nat) : Int) = (sent.length : Int) - (jy : Int) by omega] at this
                  exact this
                have HQ := Lib.hid hq
                have HSx := Lib.hid hs
                clear hs hlf hq
                go_upto_region 25 with fail
                go_quiet ((go_at_call 12; exact quiet_one (HQ.out _)))
                go_wp2
                go_roundg (gk - 1)
                case measure => omega
                case rel => exact ⟨y + 1, by omega, by omega, by go_num, HSx.out.more ((Upd.refl [] wr).drewN _)⟩
              · obtain rfl : y = m + 1 := by omega
                have HSx := Lib.hid hs
                clear hs
                go_wp2
                go_roundg (gA - 1)
                case measure => omega
                case rel => exact ⟨k + 1, _, _, _, _, by omega, by omega, by go_num, hsk1, HSx.out⟩
          · rw [left_none sent next q j hj (by omega)] at hc
            dsimp only at hc
            have HC := Lib.hid hc
            clear hc hAs
            go_wp2_with fail
            refine HC.out.mono ?_
            rintro e w6 ⟨rfl, hb6, hu6⟩
            have hn6 := HS.out.nxt hu6
            have n6 : w6.cell? ⟨gn, q, none⟩ = some (.int .i64 j) := by rw [hn6.cell q, List.getElem?_toArray, List.getElem?_map, hj]; rfl
            have HS7 := Lib.hid (HS.out.step hb6 hu6)
            have djs : ¬ (j : Int) < (sent.length : Int) := by omega
            clear hb6 hu6 HC hn6 n0
            go_upto_region 22 with fail
            clear n6 djs
            go_wp2
            go_loopg [17] (m + 1) (fun gk x17 wx => ∃ y : Nat, y ≤ m + 1 ∧ m + 1 ≤ y + gk ∧ x17 = .int .i64 y ∧ OrdAt w wx N B (m + 1) (r + 1) gn (.slice As sent.length cs) sent next acks last)
            case atStart => exact ⟨0, Nat.zero_le _, by omega, rfl, HS7.out⟩
            case round =>
              obtain ⟨y, hy, hgy, rfl, hs⟩ := hrel
              by_cases hyl : y < m + 1
              · obtain ⟨jy, hjy, hjyl⟩ := hs.has hyl
                have c7 := hs.at hjy
                have hlf := hs.lft hjy
                have hq : ∀ nq, Calls Try.prog 12 #[.pointer (some ⟨B.b, 0, none⟩), .int .i64 y] (wr.drewN nq) fun e w' => e = .returned (.int .i64 ((sent.length : Int) - (jy : Int))) ∧ wr.drewN nq = w' := fun nq => by
                  have := queued_yes (hs.is.more ((Upd.refl [] wr).drewN nq)) y _ hlf
                  rw [List.length_map, List.length_drop, show ((sent.length - jy : Nat) : Int) = (sent.length : Int) - (jy : Int) by omega] at this
                  exact this
                have HQ := Lib.hid hq
                have HSx := Lib.hid hs
                clear hs hlf hq
                go_upto_region 25 with fail
                go_quiet ((go_at_call 12; exact quiet_one (HQ.out _)))
                go_wp2
                go_roundg (gk - 1)
                case measure => omega
                case rel => exact ⟨y + 1, by omega, by omega, by go_num, HSx.out.more ((Upd.refl [] wr).drewN _)⟩
              · obtain rfl : y = m + 1 := by omega
                have HSx := Lib.hid hs
                clear hs
                go_wp2
                go_roundg (gA - 1)
                case measure => omega
                case rel => exact ⟨k + 1, _, _, _, _, by omega, by omega, by go_num, hsk1, HSx.out⟩
      · obtain rfl : k = len := by omega
        obtain ⟨Ae, ce, hve, _⟩ := own_form hs.own
        have HB := Lib.hid hs.bel
        subst hve
        clear hs
        go_wp2
        go_ret
        exact ⟨rfl, HB.out⟩
end Go.Proofs.Ytdcekgdihnlbpaa
