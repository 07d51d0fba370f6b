/- The document's pins: Sweep. Conditions: as before. -/
import Derived.Test.YtembadjfialenaaPRef3
import Derived.Test.YtembadjfialenaaPSafe
namespace Go.Proofs.Ytembadjfialenaa
open Go Go.RowKit
set_option maxHeartbeats 400000

/-- the loop's state -/
structure SwAt (w wr : World) (k : Nat) (o : Int) (L B : Value) (wts : List Wt) (q : Nat) (x4 x5 : Value) : Prop where
  out : wr.ownsRow (w.heap.size + 1 + 1 + 1) 33 2 x4 ((wts.take q).flatMap (take1 o)).length (((wts.take q).flatMap (take1 o)).flatMap encR)
  left : wr.ownsRow (w.heap.size + 1 + 1 + 1) 73 3 x5 ((wts.take q).filter (stay o)).length (((wts.take q).filter (stay o)).flatMap encT)
  ap : Apart x4 x5
  b0 : Blk wr w.heap.size 29 #[L, B]
  b1 : Blk wr (w.heap.size + 1) 29 #[.slice none 0 0, .slice none 0 0]
  below : Below w.heap.size w wr
  size : w.heap.size + 1 + 1 + 1 ≤ wr.heap.size

theorem SwAt.stays {w wr w1 : World} {k q : Nat} {o : Int} {L B x4 x5 x5' : Value} {wts : List Wt} {x : Wt} {ob : Obj} (h : SwAt w wr k o L B wts q x4 x5) (hx : wts[q]? = some x) (hs : o < x.ep)
    (hown : w1.ownsRow (w.heap.size + 1 + 1 + 1) 73 3 x5' (((wts.take q).filter (stay o)).length + 1) (((wts.take q).filter (stay o)).flatMap encT ++ encT x)) (hg : (wr.alloc ob).grownBy w1 x5.ownBlock)
    (hat : x5'.ownBlock = x5.ownBlock ∨ x5'.ownBlock = some (wr.alloc ob).heap.size) : SwAt w w1 k o L B wts (q + 1) x4 x5' := by
  have e1 : wts.take (q + 1) = wts.take q ++ [x] := by rw [List.take_add_one, hx]; rfl
  have e2 : (wts.take (q + 1)).filter (stay o) = (wts.take q).filter (stay o) ++ [x] := by rw [e1, List.filter_append]; simp [stay, hs]
  have e3 : (wts.take (q + 1)).flatMap (take1 o) = (wts.take q).flatMap (take1 o) := by rw [e1, List.flatMap_append]; simp [take1]; omega
  have hbW := grown_upd (h.left.alloc ob) hg (N := w.heap.size + 1 + 1 + 1) (by have := h.size; simp; omega)
  refine ⟨?_, ?_, Apart.append hat (h.out.alloc ob) h.ap, (h.b0.alloc ob).below hbW (by omega), (h.b1.alloc ob).below hbW (by omega), (h.below.alloc h.below.size ob).trans (hbW.mono (by omega)), Nat.le_trans h.size (Nat.le_trans (by simp) hbW.size)⟩
  · rw [e3]; exact Apart.kept (h.out.alloc ob) hg h.ap
  · rw [e2, List.length_append, List.flatMap_append]; simpa using hown
theorem SwAt.goes {w wr w1 : World} {k q : Nat} {o : Int} {L B x4 x5 x4' : Value} {wts : List Wt} {x : Wt} {ob : Obj} (h : SwAt w wr k o L B wts q x4 x5) (hx : wts[q]? = some x) (hs : x.ep ≤ o)
    (hown : w1.ownsRow (w.heap.size + 1 + 1 + 1) 33 2 x4' (((wts.take q).flatMap (take1 o)).length + 1) (((wts.take q).flatMap (take1 o)).flatMap encR ++ encR (x.slot, x.turn))) (hg : (wr.alloc ob).grownBy w1 x4.ownBlock)
    (hat : x4'.ownBlock = x4.ownBlock ∨ x4'.ownBlock = some (wr.alloc ob).heap.size) : SwAt w w1 k o L B wts (q + 1) x4' x5 := by
  have e1 : wts.take (q + 1) = wts.take q ++ [x] := by rw [List.take_add_one, hx]; rfl
  have e2 : (wts.take (q + 1)).filter (stay o) = (wts.take q).filter (stay o) := by rw [e1, List.filter_append]; simp [stay]; omega
  have e3 : (wts.take (q + 1)).flatMap (take1 o) = (wts.take q).flatMap (take1 o) ++ [(x.slot, x.turn)] := by rw [e1, List.flatMap_append]; simp [take1, hs]
  have hbW := grown_upd (h.out.alloc ob) hg (N := w.heap.size + 1 + 1 + 1) (by have := h.size; simp; omega)
  refine ⟨?_, ?_, (Apart.append hat (h.left.alloc ob) h.ap.symm).symm, (h.b0.alloc ob).below hbW (by omega), (h.b1.alloc ob).below hbW (by omega), (h.below.alloc h.below.size ob).trans (hbW.mono (by omega)), Nat.le_trans h.size (Nat.le_trans (by simp) hbW.size)⟩
  · rw [e3, List.length_append, List.flatMap_append]; simpa using hown
  · rw [e2]; exact Apart.kept (h.left.alloc ob) hg h.ap.symm

set_option maxHeartbeats 2000000 in
theorem rsweep {w : World} {lo n c k d : Nat} {A B : Option Addr} {ws : List Wk} {wts : List Wt} (h : RP w lo A n c B k d ws wts) :
    Calls Try.prog 18 #[.agg #[.slice A n c, .slice B k d]] w fun e w' => ∃ B' k' d' rv, e = .returned (.tuple #[.agg #[.slice A n c, .slice B' k' d'], rv]) ∧
      RP w' lo A n c B' k' d' ws (wts.filter (stay (oldest ws))) ∧ w'.ownsRow w.heap.size 33 2 rv (wts.flatMap (take1 (oldest ws))).length ((wts.flatMap (take1 (oldest ws))).flatMap encR) ∧ Below w.heap.size w w' ∧ (0 < k' → ∀ a, B' = some a → w.heap.size ≤ a.block) := by
  obtain ⟨i0, hi0, hz0, hz1, hz2⟩ := info_parts infoRT
  obtain ⟨r0, hr0, hy0, hy1, hy2⟩ := info_parts infoRR
  have hlen := h.len.2
  have hfew := h.few
  have H := Lib.hid h
  have HLEN := Lib.hid hlen
  have HN3 := Lib.hid (three_new w #[.slice A n c, .slice B k d] #[.slice none 0 0, .slice none 0 0] #[.slice A n c, .slice B k d] 29 29 29 0)
  have HU : Hid (Upd [] w (((w.alloc (.cells #[.slice A n c, .slice B k d] 29)).alloc (.cells #[.slice none 0 0, .slice none 0 0] 29)).alloc (.cells #[.slice A n c, .slice B k d] 29))) := (((Upd.refl _ _).alloc _).alloc _).alloc _
  have hold := roldest (h.upd (S := []) (((Upd.refl [] w).alloc (.cells #[.slice A n c, .slice B k d] 29)).alloc (.cells #[.slice none 0 0, .slice none 0 0] 29)) (by simp))
  have HO := Lib.hid hold
  generalize ho : oldest ws = o at HO ⊢
  clear h hlen hold ho
  go_enter Try.func18, Try.ntmps18
  go_wp2_with fail
  refine HO.out.mono ?_
  rintro e w1 ⟨rfl, hw1⟩
  have HS : Hid (SwAt w w1 k o (.slice A n c) (.slice B k d) wts 0 (.slice none 0 0) (.slice none 0 0)) := by
    show SwAt _ _ _ _ _ _ _ _ _ _
    rw [hw1]
    exact ⟨World.ownsRow_nil _ _ _ _, World.ownsRow_nil _ _ _ _, Apart.nil _, HN3.out.1, HN3.out.2.1, HU.out.below (Nat.le_refl _) (by simp), Nat.le_of_eq HN3.out.2.2.2.symm⟩
  clear hw1 HN3 HU HO
  go_wp2
  go_loopg [4, 5, 7] k (fun gk x4 x5 x7 wr => ∃ q : Nat, q ≤ k ∧ k ≤ q + gk ∧ x7 = .int .i64 q ∧ SwAt w wr k o (.slice A n c) (.slice B k d) wts q x4 x5)
  case atStart => exact ⟨0, Nat.zero_le _, by omega, rfl, HS.out⟩
  case round =>
    obtain ⟨q, hq, hgq, rfl, hs⟩ := hrel
    have d0 := hs.b0.cell 0
    have d1 := hs.b0.cell 1
    simp only [List.getElem?_toArray, List.getElem?_cons_zero, List.getElem?_cons_succ] at d0 d1
    have hl0 := hs.b0.lt
    by_cases hlt : q < k
    · obtain ⟨x, hx⟩ : ∃ x, wts[q]? = some x := ⟨_, List.getElem?_eq_getElem (by rw [HLEN.out]; exact hlt)⟩
      obtain ⟨b, off, rfl, hb1, hb2, hc⟩ := H.out.t.2 (by omega)
      have c0 := (hs.below.cell (p := ⟨b, off + (q * 3 + 0), none⟩) hb2).trans (hc _ _ (flat_get encT_len wts q 0 x hx (by omega)))
      have c1 := (hs.below.cell (p := ⟨b, off + (q * 3 + 1), none⟩) hb2).trans (hc _ _ (flat_get encT_len wts q 1 x hx (by omega)))
      have c2 := (hs.below.cell (p := ⟨b, off + (q * 3 + 2), none⟩) hb2).trans (hc _ _ (flat_get encT_len wts q 2 x hx (by omega)))
      rw [Nat.add_zero] at c0
      rw [← Nat.add_assoc] at c1 c2
      have HX := Lib.hid hx
      have hi0' : (0 : Int) ≤ (q : Int) := by omega
      have hi1' : (q : Int) < (k : Int) := by omega
      have hsz := hs.size
      have hbN : b ≠ wr.heap.size := by have := hs.below.size; omega
      obtain ⟨Ao, co, hvo, _⟩ := own_form hs.out
      obtain ⟨Al, cl, hvl, _⟩ := own_form hs.left
      have hlo : ((wts.take q).flatMap (take1 o)).length ≤ 64 := by have := count_swept o (wts.take q); have := List.length_take_le q wts; omega
      have hll : ((wts.take q).filter (stay o)).length ≤ 64 := by have := count_swept o (wts.take q); have := List.length_take_le q wts; omega
      have HOO := Lib.hid hs.out
      have HLL := Lib.hid hs.left
      obtain ⟨xs, xt, xe⟩ := x
      simp only [encT, List.getElem?_cons_zero, List.getElem?_cons_succ] at c0 c1 c2
      have HSS := Lib.hid hs
      clear hs hx hc
      by_cases hst : o < xe
      · obtain ⟨ys, hys⟩ : ∃ ys, ys = ((wts.take q).filter (stay o)).flatMap encT := ⟨_, rfl⟩
        obtain ⟨m, hm⟩ : ∃ m, m = ((wts.take q).filter (stay o)).length := ⟨_, rfl⟩
        rw [← hys, ← hm] at HLL
        rw [← hm] at hvl hll
        have HYS := Lib.hid hys
        have HM := Lib.hid hm
        clear hys hm hvo hvl hlo
        go_wp2_with (at_builtin; refine wpList_append_own_at _ rfl (.tmp 25) (.tmp 31) 27 rfl (w.heap.size + 1 + 1 + 1) 73 i0 _ 3 24 Try.underlying27 hi0 hz0 hz1 hz2 rfl (by decide) _ m ys rfl (HLL.out.alloc _) ⟨wr.heap.size, 0, none⟩ 1 1 [.int .i64 xs, .int .u32 xt, .int .u64 xe] rfl rfl ?u1 ?u2 ?u3 ?u4 ?u5 ?_)
        case u1 => exact World.news_of_block (cs := #[.int .i64 xs, .int .u32 xt, .int .u64 xe]) (fr := (0, 0)) (heap_alloc_new wr _)
        case u2 => simp [Value.oneCell']
        case u3 => unfold maxLen; omega
        case u4 => omega
        case u5 => simp; omega
        intro v1 w1 hown1 hg1 _ hat1
        have HS1 := Lib.hid (HSS.out.stays HX.out hst (by rw [← HM.out, ← HYS.out]; exact hown1) hg1 (by rw [World.size_alloc]; exact hat1))
        clear hown1 hg1 hat1
        go_wp2
        go_roundg (gk - 1)
        case measure => omega
        case rel => exact ⟨q + 1, by omega, by omega, by go_num, HS1.out⟩
      · have hst' : xe ≤ o := by omega
        obtain ⟨ys, hys⟩ : ∃ ys, ys = ((wts.take q).flatMap (take1 o)).flatMap encR := ⟨_, rfl⟩
        obtain ⟨m, hm⟩ : ∃ m, m = ((wts.take q).flatMap (take1 o)).length := ⟨_, rfl⟩
        rw [← hys, ← hm] at HOO
        rw [← hm] at hvo hlo
        have HYS := Lib.hid hys
        have HM := Lib.hid hm
        clear hys hm hvo hvl hll
        go_wp2_with (at_builtin; refine wpList_append_own_at _ rfl (.tmp 33) (.tmp 40) 48 rfl (w.heap.size + 1 + 1 + 1) 33 r0 _ 2 16 Try.underlying48 hr0 hy0 hy1 hy2 rfl (by decide) _ m ys rfl (HOO.out.alloc _) ⟨wr.heap.size, 0, none⟩ 1 1 [.int .i64 xs, .int .u32 xt] rfl rfl ?u1 ?u2 ?u3 ?u4 ?u5 ?_)
        case u2 => exact ⟨rfl, rfl⟩
        case u3 => unfold maxLen; omega
        case u4 => omega
        case u5 => omega
        intro v1 w1 hown1 hg1 _ hat1
        have HS1 := Lib.hid (HSS.out.goes HX.out hst' (by rw [← HM.out, ← HYS.out]; exact hown1) hg1 (by rw [World.size_alloc]; exact hat1))
        clear hown1 hg1 hat1
        go_wp2
        go_roundg (gk - 1)
        case measure => omega
        case rel => exact ⟨q + 1, by omega, by omega, by go_num, HS1.out⟩
    · obtain rfl : q = k := by omega
      have htake : wts.take q = wts := List.take_of_length_le (by rw [HLEN.out]; exact Nat.le_refl _)
      have hout := hs.out
      have hleft := hs.left
      rw [htake] at hout hleft
      obtain ⟨Ao, co, hvo, _⟩ := own_form hout
      obtain ⟨Al, cl, hvl, hcl, hA, hAn⟩ := own_form hleft
      have hap := hs.ap
      subst hvo
      subst hvl
      have e0 := hs.b1.cell 0
      have e1 := hs.b1.cell 1
      simp only [List.getElem?_toArray, List.getElem?_cons_zero, List.getElem?_cons_succ] at e0 e1
      have g01 := hs.b0.frozen 1
      have g10 := hs.b1.frozen 0
      have g11 := hs.b1.frozen 1
      have hl1 := hs.b1.lt
      have HB := Lib.hid hs.below
      have HL := Lib.hid hleft
      have HR := Lib.hid hout
      have HSZ := Lib.hid hs.size
      have hcnt := count_swept o wts
      have HA := Lib.hid hAn
      have HA1 := Lib.hid hA
      clear hs hout hleft hap htake hA hAn
      go_wp2
      have hu : Upd [w.heap.size, w.heap.size + 1] wr (((wr.setCell ⟨w.heap.size, 1, none⟩ (.slice Al (wts.filter (stay o)).length cl)).setCell ⟨w.heap.size + 1, 0, none⟩ (.slice A n c)).setCell ⟨w.heap.size + 1, 1, none⟩ (.slice Al (wts.filter (stay o)).length cl)) := (((Upd.refl _ _).setCell (by simp) _).setCell (by simp) _).setCell (by simp) _
      have hbf := HB.out.trans (hu.below HB.out.size (by simp))
      refine bodyPost_res (v := .tuple #[.agg #[.slice A n c, .slice Al (wts.filter (stay o)).length cl], .slice Ao (wts.flatMap (take1 o)).length co]) (by simp [results, Try.results18, go_sem, d0, d1, e0, e1]) rfl
        ⟨Al, _, cl, _, rfl, ⟨(H.out.l.below hbf (Nat.le_refl _)).more (Nat.le_refl _) hbf.size, ?_, H.out.lA, HA.out, H.out.n1, H.out.n4, by have := HLEN.out; omega, Nat.le_trans H.out.low hbf.size⟩, ?_, hbf, fun hk a ha => by obtain ⟨g, e1, e2, _⟩ := HA1.out hk; rw [ha] at e1; obtain rfl := Option.some.inj e1; show _ ≤ g; omega⟩
      · exact ((CellsIn.of_own HL.out).upd hu (Nat.le_refl _) (fun s hs => .inl (by simp at hs; omega))).more (by have := H.out.low; omega) hu.size
      · refine own_le (ownsRow_upd HR.out hu (fun s hs he => ?_)) (by omega)
        have := (own_block_lt HR.out he).1
        simp at hs; omega
end Go.Proofs.Ytembadjfialenaa
