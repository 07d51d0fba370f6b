/- CmdRooms: the walk. -/
import Derived.Test.YtdcekgdihnlbpaaCState
import Derived.Test.YtdcekgdihnlbpaaCells
import Derived.Deep.LoopGhost
namespace Go.Proofs.Ytdcekgdihnlbpaa
open Go Go.RowKit
set_option maxHeartbeats 400000

theorem infoI : (Try.prog.info? 3).map (fun i => (i.zero, i.size, i.bytes)) = some (some (.int .i64 0), 1, 8) := by kernel_rfl
theorem hasRoom_snoc (r : Nat) (tabs : List (List (Option Addr))) (k : Nat) (x : List (Option Addr)) (h : tabs[k]? = some x) : hasRoom r (tabs.take (k + 1)) = (hasRoom r (tabs.take k) && decide (x.length < r)) := by
  unfold hasRoom
  rw [List.take_add_one, h, Option.toList_some, List.all_append]; simp
theorem decide_int {a b : Nat} {x y : Int} (h1 : x = a) (h2 : y = b) : decide (x < y) = decide (a < b) := by subst h1; subst h2; simp
theorem all_snoc {α : Type} (f : α → Bool) (l : List α) (k : Nat) (x : α) (h : l[k]? = some x) : (l.take (k + 1)).all f = ((l.take k).all f && f x) := by
  rw [List.take_add_one, h, Option.toList_some, List.all_append]; simp

set_option maxRecDepth 100000 in
set_option maxHeartbeats 4000000 in
theorem rooms_any (a0 a1 : Int) (A : Option Addr) (len cap : Nat) (l : List CAct) (w : World) (h0 : 0 ≤ a0) (h1 : a0 ≤ 255) (h2 : 0 ≤ a1) (h3 : a1 ≤ 255) (hlen : len ≤ 9223372036854775807) (hll : l.length = len) (hl : Cells w w.heap.size 3 A len (l.flatMap encC)) :
    Calls Try.prog 6 #[.int .u8 a0, .int .u8 a1, .slice A len cap] w fun e w' => e = .returned (.bool true) ∧ Below w.heap.size w w' := by
  have HL := Lib.hid hl
  have HLL := Lib.hid hll
  clear hl hll
  by_cases hbig : 200 < (len : Int)
  · go_enter Try.func6, Try.ntmps6
    go_wp2_with fail
    refine (awake_any w).mono ?_
    rintro e w1 ⟨rfl, hu1⟩
    go_wp2
    go_ret
    exact ⟨rfl, hu1.below (Nat.le_refl _) (by simp)⟩
  · obtain ⟨m, hm⟩ : ∃ m : Nat, (m : Int) = a0 % 4 := ⟨(a0 % 4).toNat, by omega⟩
    obtain ⟨r, hr⟩ : ∃ r : Nat, (r : Int) = a1 % 5 := ⟨(a1 % 5).toNat, by omega⟩
    have hm4 : m < 4 := by omega
    have hr5 : r < 5 := by omega
    have hmod : a0 % 4 = (m : Int) := hm.symm
    have hrod : a1 % 5 = (r : Int) := hr.symm
    clear hm hr
    go_enter Try.func6, Try.ntmps6
    go_wp2_with fail
    refine (awake_any w).mono ?_
    rintro e w1 ⟨rfl, hu1⟩
    have hb1 := hu1.below (Nat.le_refl _) (by simp)
    go_wp2_with fail
    have hn := new_yes (m + 1) (r + 1) w1 (by omega) (by omega) (by omega) (by omega)
    rw [show ((m + 1 : Nat) : Int) = (m : Int) + 1 by omega, show ((r + 1 : Nat) : Int) = (r : Int) + 1 by omega] at hn
    refine hn.mono ?_
    clear hn hmod hrod
    rintro e w2 ⟨B, rfl, hb2, hnn, hnew, hu2⟩
    obtain ⟨N, hN⟩ : ∃ N, N = w2.heap.size := ⟨_, rfl⟩
    have hs2 : RoomsAt w w2 N B (m + 1) (r + 1) (List.replicate (m + 1) []) [] (List.replicate (m + 1) 0) (.slice none 0 0) [] 0 :=
      ⟨hb2, hnn, World.ownsRow_nil _ _ _ _, fun s hs => ⟨Nat.le_trans hb1.size (hnew s hs), by rw [hN]; exact hb2.footlt s hs⟩, by rw [hN]; exact Nat.le_trans hb1.size hu2.size, by omega, hb1.trans (hu2.below hb1.size (by simp)), rfl, Nat.le_refl _⟩
    have HS2 := Lib.hid hs2
    clear hs2 hb2 hnn hnew hu2 hu1 hb1 hN
    go_wp2
    go_loopg [11, 12, 13] len (fun gk x11 x12 x13 wr => ∃ (k : Nat) (tabs : List (List (Option Addr))) (acks : List (Int × Int)) (last : List Int) (who : List Int) (nx : Nat), k ≤ len ∧ len ≤ k + gk ∧ x13 = .int .i64 k ∧ x12 = .int .i64 nx ∧ who.length ≤ k ∧ RoomsAt w wr N B (m + 1) (r + 1) tabs acks last x11 who nx)
    case atStart => exact ⟨0, _, _, _, _, 0, Nat.zero_le _, by omega, rfl, rfl, Nat.le_refl _, HS2.out⟩
    case round =>
      obtain ⟨gA, rfl⟩ : ∃ gA : Nat, gA = gk := ⟨gk, rfl⟩
      obtain ⟨k, tabs, acks, last, who, nx, hk, hgk, rfl, rfl, hwk, hs⟩ := hrel
      by_cases hlt : k < len
      · obtain ⟨b, off, x, rfl, hbB, hx, c0, c1, c2⟩ := act_at HL.out HLL.out k hlt
        have e0 := (hs.bel.cell (p := ⟨b, off + k * 3, none⟩) hbB).trans c0
        have e1 := (hs.bel.cell (p := ⟨b, off + k * 3 + 1, none⟩) hbB).trans c1
        have e2 := (hs.bel.cell (p := ⟨b, off + k * 3 + 2, none⟩) hbB).trans c2
        clear c0 c1 c2 hx
        obtain ⟨kind, shard, epoch⟩ := x
        dsimp only at e0 e1 e2
        obtain ⟨Aw, cw, hve, hAw⟩ := own_form hs.own
        subst hve
        have hcw := own_cap hs.own
        have HS := Lib.hid hs
        clear hs hAw
        go_upto_region 15 with fail
        obtain ⟨W1, hW1⟩ : ∃ W1, W1 = wr.alloc (.cells #[.int .i64 kind, .int .i64 shard, .int .u64 epoch] 44) := ⟨_, rfl⟩
        obtain ⟨X, hXe⟩ : ∃ X, X = wr.heap.size := ⟨_, rfl⟩
        have HS1 : Hid (RoomsAt w W1 N B (m + 1) (r + 1) tabs acks last (.slice Aw who.length cw) who nx) := by show RoomsAt _ _ _ _ _ _ _ _ _ _ _ _; rw [hW1]; exact HS.out.more ((Upd.refl _ _).alloc _)
        have hX : Blk W1 X 44 #[.int .i64 kind, .int .i64 shard, .int .u64 epoch] := by rw [hW1, hXe]; exact Blk.new wr _ _
        rw [← hW1, ← hXe]
        clear hW1 hXe HS e0 e1 e2
        go_wp2
        go_loopg [15, 16] (m + 1) (fun gq x15 x16 wx => ∃ q : Nat, q ≤ m + 1 ∧ m + 1 ≤ q + gq ∧ x16 = .int .i64 q ∧ x15 = .bool (hasRoom (r + 1) (tabs.take q)) ∧ wx = W1)
        case atStart => exact ⟨0, Nat.zero_le _, by omega, rfl, rfl, rfl⟩
        case round =>
          obtain ⟨q, hq, hgq, rfl, rfl, rfl⟩ := hrel
          by_cases hlq : q < m + 1
          · obtain ⟨xs, hx⟩ : ∃ xs, tabs[q]? = some xs := ⟨_, List.getElem?_eq_getElem (by have := HS1.out.is.lt; have := HS1.out.nn; omega)⟩
            have hc := Lib.hid (queued_yes HS1.out.is q xs hx)
            have hsn := Lib.hid (hasRoom_snoc (r + 1) tabs q xs hx)
            obtain ⟨p, hp⟩ : ∃ p, p = hasRoom (r + 1) (tabs.take q) := ⟨_, rfl⟩
            rw [← hp]
            have HP := Lib.hid hp
            clear hx hp
            cases p
            · go_wp2
              go_roundg (gk - 1)
              case measure => omega
              case rel => exact ⟨q + 1, by omega, by omega, by go_num, by rw [hsn.out, ← HP.out]; first | rfl | (rw [Bool.true_and]; congr 1; exact decide_int rfl (by omega)), rfl⟩
            · go_wp2_with fail
              refine hc.out.mono ?_
              rintro e w3 ⟨rfl, rfl⟩
              go_wp2
              go_roundg (gk - 1)
              case measure => omega
              case rel => exact ⟨q + 1, by omega, by omega, by go_num, by rw [hsn.out, ← HP.out]; first | rfl | (rw [Bool.true_and]; congr 1; exact decide_int rfl (by omega)), rfl⟩
          · obtain rfl : q = m + 1 := by omega
            have htk : tabs.take (m + 1) = tabs := List.take_of_length_le (by have := HS1.out.is.lt; have := HS1.out.nn; omega)
            rw [htk]
            obtain ⟨p, hp⟩ : ∃ p, p = hasRoom (r + 1) tabs := ⟨_, rfl⟩
            have hc := room_any HS1.out.is
            rw [← hp] at hc ⊢
            have HP := Lib.hid hp
            have HC := Lib.hid hc
            clear hp htk hc
            go_wp2_with fail
            refine HC.out.mono ?_
            rintro e W1 ⟨rfl, hu3⟩
            have HS3 := Lib.hid (HS1.out.more hu3)
            have hX3 := hX.upd hu3 (by simp)
            have x0 : W1.cell? ⟨X, 0, none⟩ = some (.int .i64 kind) := hX3.cell 0
            have x1 : W1.cell? ⟨X, 1, none⟩ = some (.int .i64 shard) := hX3.cell 1
            have x2 : W1.cell? ⟨X, 2, none⟩ = some (.int .u64 epoch) := hX3.cell 2
            have HX3 := Lib.hid hX3
            clear hX HC HS1 hu3 hX3
            go_upto_region 22 with fail
            go_cut [65] (fun s65 wd => s65 = .int .i64 kind ∧ wd = W1)
            case first =>
              go_wp2
              go_meet
              case rel => exact ⟨rfl, rfl⟩
            obtain ⟨rfl, rfl⟩ := hcut
            apply_assumption
            obtain ⟨W1, rfl⟩ : ∃ W1 : World, W1 = wc := ⟨_, rfl⟩
            go_cut [11, 12] (fun s11 s12 wd => ∃ (tabs : List (List (Option Addr))) (acks : List (Int × Int)) (last : List Int) (who : List Int) (nx : Nat), s12 = .int .i64 nx ∧ who.length ≤ k + 1 ∧ RoomsAt w wd N B (m + 1) (r + 1) tabs acks last s11 who nx)
            case rest =>
             as_aux_lemma =>
              obtain ⟨tabs, acks, last, who, nx, rfl, hwk1, hs⟩ := hcut
              obtain ⟨Aw, cw, hve, hAw⟩ := own_form hs.own
              subst hve
              have hcw := own_cap hs.own
              have hcnt := hs.cnt
              have hle := hs.is.a.bound.1
              rw [hs.nn] at hle
              have hmul : (((m + 1) * (r + 1) : Nat) : Int) = ((m : Int) + 1) * ((r : Int) + 1) := by push_cast; rfl
              have hm0 : ((m : Int) + 1) * ((r : Int) + 1) ≤ 20 := by
                have := Nat.mul_le_mul (show m + 1 ≤ 4 by omega) (show r + 1 ≤ 5 by omega)
                omega
              have hd : decide (((m : Int) + 1) * ((r : Int) + 1) < (who.length : Int) - (nx : Int)) = false := by
                simp only [decide_eq_false_iff_not]; omega
              have hac : (acks.length : Int) = (who.length : Int) - (nx : Int) := by omega
              have hm1 : 0 ≤ ((m : Int) + 1) * ((r : Int) + 1) := by omega
              have hc := acks_any hs.is
              rw [hac] at hc
              have hc := Lib.hid hc
              have HS4 := Lib.hid hs
              clear hs hAw hmul hle x0 x1 x2 HS3 HX3
              go_wp2_with fail
              refine hc.out.mono ?_
              rintro e w4 ⟨rfl, rfl⟩
              go_wp2
              go_roundg (gA - 1)
              case measure => omega
              case rel => exact ⟨k + 1, _, _, _, _, nx, by omega, by omega, by go_num, rfl, hwk1, HS4.out⟩
            case first =>
              have hc0 := own_cap HS3.out.own
              by_cases hk0 : kind = 0 ∨ kind = 1
              · have hd0 : ∀ (x : Bool), x = decide (kind = 0) → True := fun _ _ => trivial
                rcases hk0 with rfl | rfl <;>
                · as_aux_lemma =>
                  go_wp2_with fail
                  refine (of_any epoch _).mono ?_
                  rintro e w4 ⟨g1, m1, m1', rfl, ht1, hg1, hu4⟩
                  have HS4 := Lib.hid (HS3.out.more hu4)
                  have hc := HS4.out.is.send ⟨g1, 0, none⟩
                  have hse : (mSend (r + 1) tabs ⟨g1, 0, none⟩).1 = if p then 0 else 20 := by unfold mSend; rw [← HP.out]; cases p <;> rfl
                  rw [hse] at hc
                  have HC := Lib.hid hc
                  clear hc hse ht1 hu4 x0 x1 x2
                  go_wp2_with fail
                  refine HC.out.mono ?_
                  rintro e w5 ⟨rfl, hb5, hu5⟩
                  have HS5 := Lib.hid (HS4.out.step hb5 hu5 HS4.out.ak HS4.out.nle)
                  clear hb5 hu5 HC
                  cases p <;>
                  · go_wp2
                    go_meet
                    case rel => exact ⟨_, _, _, _, nx, rfl, by omega, HS5.out⟩
              · by_cases hk2 : kind = 2 ∨ kind = 3
                · rcases hk2 with rfl | rfl <;>
                  · as_aux_lemma =>
                    have HC := Lib.hid (HS3.out.is.take shard)
                    go_wp2_with fail
                    refine HC.out.mono ?_
                    rintro e w5 ⟨rfl, hb5, hu5⟩
                    have HS5 := Lib.hid (HS3.out.step hb5 hu5 HS3.out.ak HS3.out.nle)
                    clear hb5 hu5 HC x0 x1 x2
                    go_wp2
                    go_meet
                    case rel => exact ⟨_, _, _, _, nx, rfl, by omega, HS5.out⟩
                · have d0 : ¬ kind = 0 := by omega
                  have d1 : ¬ kind = 1 := by omega
                  have d2 : ¬ kind = 2 := by omega
                  have d3 : ¬ kind = 3 := by omega
                  clear hk0 hk2
                  by_cases hk4 : kind = 4
                  · subst hk4
                    as_aux_lemma =>
                    have hc := HS3.out.is.ack shard epoch
                    by_cases hi : (shard < 0 ∨ (B.prs.length : Int) ≤ shard) ∨ ¬ acks.length < B.prs.length * (r + 1)
                    · have he : ∃ er : Int, ¬ er = 0 ∧ mAck B.prs.length (r + 1) acks shard epoch = (er, acks) := by
                        by_cases h1 : shard < 0 ∨ (B.prs.length : Int) ≤ shard
                        · exact ⟨1, by decide, by simp only [mAck, if_pos h1]⟩
                        · exact ⟨20, by decide, by simp only [mAck, if_neg h1, if_neg (hi.resolve_left h1)]⟩
                      obtain ⟨er, her, he⟩ := he
                      rw [he] at hc
                      dsimp only at hc
                      have HC := Lib.hid hc
                      clear hc he hi
                      go_wp2_with fail
                      refine HC.out.mono ?_
                      rintro e w5 ⟨rfl, hb5, hu5⟩
                      have HS5 := Lib.hid (HS3.out.step hb5 hu5 HS3.out.ak HS3.out.nle)
                      clear hb5 hu5 HC x0 x1 x2
                      go_wp2
                      go_meet
                      case rel => exact ⟨_, _, _, _, nx, rfl, by omega, HS5.out⟩
                    · rw [not_or, Classical.not_not] at hi
                      rw [show mAck B.prs.length (r + 1) acks shard epoch = (0, acks ++ [(shard, epoch)]) by simp only [mAck, if_neg hi.1, if_pos hi.2]] at hc
                      dsimp only at hc
                      have HC := Lib.hid hc
                      clear hc hi
                      go_wp2_with fail
                      refine HC.out.mono ?_
                      rintro e w5 ⟨rfl, hb5, hu5⟩
                      have hX5 := HX3.out.upd hu5 (HS3.out.is.apart HX3.out (by decide) (by decide) (by decide) (by decide) (by decide) (by decide) (by decide))
                      have y1 : w5.cell? ⟨X, 1, none⟩ = some (.int .i64 shard) := hX5.cell 1
                      have ho5 := HS3.out.row hu5
                      obtain ⟨ys, hys⟩ : ∃ ys, ys = who.map (Value.int .i64) := ⟨_, rfl⟩
                      rw [← hys] at ho5
                      have HO5 := Lib.hid ho5
                      have HYS := Lib.hid hys
                      have HB5 := Lib.hid hb5
                      have HU5 := Lib.hid hu5
                      have hNs : N ≤ w5.heap.size := Nat.le_trans HS3.out.size hu5.size
                      obtain ⟨i0, hi0, hz0, hz1, hz2⟩ := info_parts infoI
                      clear hb5 hu5 HC x0 x1 x2 hX5 ho5 hys
                      go_wp2_with (at_builtin; refine wpList_append_own_at _ rfl (.tmp 122) (.tmp 125) 27 rfl N 3 i0 _ 1 8 Try.underlying27 hi0 hz0 hz1 hz2 rfl (by decide) _ who.length ys rfl (HO5.out.alloc _) ⟨w5.heap.size, 0, none⟩ 1 1 [.int .i64 shard] rfl rfl ?u1 ?u2 ?u3 ?u4 ?u5 ?_)
                      case u1 =>
                        intro j u hj
                        match j, hj with
                        | 0, hj => simp at hj; subst hj; exact (Blk.new w5 3 #[.int .i64 shard]).cell 0
                      case u2 => intro u hu; simp at hu; subst hu; rfl
                      case u3 => unfold maxLen; omega
                      case u4 => omega
                      case u5 => simp; omega
                      intro v6 w6 hown6 hg6 _ hat6
                      have HS6 := Lib.hid (HS3.out.pushed HB5.out HU5.out (by rw [HYS.out] at hown6; exact hown6) hg6)
                      clear hown6 hg6 hat6 y1
                      go_wp2
                      go_meet
                      case rel => exact ⟨_, _, _, _, nx, rfl, by simp; omega, HS6.out⟩
                  · have d4 : ¬ kind = 4 := hk4
                    as_aux_lemma =>
                    clear hk4
                    have HC := Lib.hid HS3.out.is.collect
                    go_wp2_with fail
                    refine HC.out.mono ?_
                    rintro e w5 (⟨hacks, rfl, hb5, hu5⟩ | ⟨i, x, xs, hacks, hi, rfl, hb5, hu5⟩)
                    · have hcnt := HS3.out.cnt
                      rw [hacks] at hcnt
                      have dn : ¬ (nx : Int) < (who.length : Int) := by
                        simp at hcnt; omega
                      have HS5 := Lib.hid (HS3.out.step hb5 hu5 (by rw [← hacks]; exact HS3.out.ak) HS3.out.nle)
                      clear hb5 hu5 HC x0 x1 x2 hacks hcnt
                      go_wp2
                      go_meet
                      case rel => exact ⟨_, _, _, _, nx, rfl, by omega, HS5.out⟩
                    · have hak := HS3.out.ak
                      have hcnt := HS3.out.cnt
                      rw [hacks] at hak hcnt
                      have hnl : nx < who.length := by simp at hcnt; omega
                      have dn : ¬ (who.length : Int) ≤ (nx : Int) := by omega
                      rw [List.drop_eq_getElem_cons hnl, List.map_cons] at hak
                      have hw0 : who[nx] = (i : Int) := (List.cons.inj hak).1.symm
                      have HS5 := Lib.hid (HS3.out.step hb5 hu5 (nx' := nx + 1) (List.cons.inj hak).2 hnl)
                      obtain ⟨Aw', cw', hve', _, hAw', _⟩ := own_form HS5.out.own
                      obtain ⟨g, hg, _, _⟩ := hAw' (by omega)
                      injection hve' with e1 e2 e3
                      rw [← e1] at hg
                      subst hg
                      have cx : w5.cell? ⟨g, nx, none⟩ = some (.int .i64 i) := by
                        have := HS5.out.own.cellAt nx (by omega)
                        rw [List.getElem?_map, List.getElem?_eq_getElem hnl, hw0] at this
                        simpa using this
                      clear hb5 hu5 HC x0 x1 x2 hacks hcnt hak hw0 hAw' e1 e2 e3
                      go_wp2
                      go_meet
                      case rel => exact ⟨_, _, _, _, nx + 1, by go_num, by omega, HS5.out⟩
      · obtain rfl : k = len := by omega
        obtain ⟨Ae, ce, hve, _⟩ := own_form hs.own
        have HB := Lib.hid hs.bel
        subst hve
        clear hs
        go_wp2
        go_ret
        exact ⟨rfl, HB.out⟩
end Go.Proofs.Ytdcekgdihnlbpaa
