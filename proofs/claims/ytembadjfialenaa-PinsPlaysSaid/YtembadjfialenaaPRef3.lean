/- The document's pins: Oldest, Retire. Conditions: as before. -/
import Derived.Test.YtembadjfialenaaPRef2
import Derived.Deep.LoopGhost
namespace Go.Proofs.Ytembadjfialenaa
open Go Go.RowKit
set_option maxHeartbeats 400000

theorem roldest {w : World} {lo n c k d : Nat} {A B : Option Addr} {ws : List Wk} {wts : List Wt} (h : RP w lo A n c B k d ws wts) :
    Calls Try.prog 21 #[.agg #[.slice A n c, .slice B k d]] w fun e w' => e = .returned (.int .u64 (oldest ws)) ∧ w' = w.alloc (.cells #[.slice A n c, .slice B k d] 29) := by
  obtain ⟨b, off, rfl, hb1, hb2, hc⟩ := h.wk
  have hlen := h.len.1
  obtain ⟨x0, hx0⟩ : ∃ x, ws[0]? = some x := ⟨_, List.getElem?_eq_getElem (by have := h.n1; omega)⟩
  have c0 := (hc 0 x0 hx0).1
  rw [Nat.zero_mul, Nat.add_zero] at c0
  have HC := Lib.hid hc
  have HN := Lib.hid hlen
  have h1 := h.n1
  have h4 := h.n4
  have HO : Hid (oldest ws = (ws.take n).foldl older x0.at_) := by
    show _ = _
    rw [← hlen, List.take_length]
    unfold oldest
    rw [List.head?_eq_getElem?, hx0]; rfl
  have hn0 : (0 : Int) < (n : Int) := by omega
  have hbw : b ≠ w.heap.size := by omega
  clear h hc hx0 hlen
  go_enter Try.func21, Try.ntmps21
  go_wp2
  go_loopg [3, 4] n (fun gk o i wr => ∃ q : Nat, q ≤ n ∧ n ≤ q + gk ∧ i = .int .i64 q ∧ o = .int .u64 ((ws.take q).foldl older x0.at_) ∧ w.alloc (.cells #[.slice (some ⟨b, off, none⟩) n c, .slice B k d] 29) = wr)
  case atStart => exact ⟨0, Nat.zero_le _, by omega, rfl, rfl, rfl⟩
  case round =>
    obtain ⟨q, hq, hgq, rfl, rfl, rfl⟩ := hrel
    by_cases hlt : q < n
    · obtain ⟨x, hx⟩ : ∃ x, ws[q]? = some x := ⟨_, List.getElem?_eq_getElem (by rw [HN.out]; exact hlt)⟩
      obtain ⟨c1, c2, c3⟩ := HC.out q x hx
      have HT : Hid ((ws.take (q + 1)).foldl older x0.at_ = older ((ws.take q).foldl older x0.at_) x) := by
        show _ = _
        rw [List.take_add_one, hx]; simp
      obtain ⟨o, ho⟩ : ∃ o, o = (ws.take q).foldl older x0.at_ := ⟨_, rfl⟩
      rw [← ho] at HT ⊢
      have hi0 : (0 : Int) ≤ (q : Int) := by omega
      have hi1 : (q : Int) < (n : Int) := by omega
      obtain ⟨xa, xs, xl⟩ := x
      dsimp only at c1 c2 c3
      clear hx ho
      cases xl with
      | true =>
        by_cases ha : xa < o
        · by_cases hs : xs < xa
          · go_wp2
            go_roundg (gk - 1)
            case measure => omega
            case rel => exact ⟨q + 1, by omega, by omega, by go_num, by rw [HT.out, older]; simp only [if_true, Int.min_def]; congr 1; repeat' split <;> omega, rfl⟩
          · have hs' : decide (xs < xa) = false := by simpa using hs
            go_wp2
            go_roundg (gk - 1)
            case measure => omega
            case rel => exact ⟨q + 1, by omega, by omega, by go_num, by rw [HT.out, older]; simp only [if_true, Int.min_def]; congr 1; repeat' split <;> omega, rfl⟩
        · by_cases hs : xs < o
          · go_wp2
            go_roundg (gk - 1)
            case measure => omega
            case rel => exact ⟨q + 1, by omega, by omega, by go_num, by rw [HT.out, older]; simp only [if_true, Int.min_def]; congr 1; repeat' split <;> omega, rfl⟩
          · have hs' : decide (xs < o) = false := by simpa using hs
            go_wp2
            go_roundg (gk - 1)
            case measure => omega
            case rel => exact ⟨q + 1, by omega, by omega, by go_num, by rw [HT.out, older]; simp only [if_true, Int.min_def]; congr 1; repeat' split <;> omega, rfl⟩
      | false =>
        by_cases ha : xa < o
        · go_wp2
          go_roundg (gk - 1)
          case measure => omega
          case rel => exact ⟨q + 1, by omega, by omega, by go_num, by rw [HT.out, older]; simp only [Int.min_def]; congr 1; repeat' split <;> simp_all <;> omega, rfl⟩
        · go_wp2
          go_roundg (gk - 1)
          case measure => omega
          case rel => exact ⟨q + 1, by omega, by omega, by go_num, by rw [HT.out, older]; simp only [Int.min_def]; congr 1; repeat' split <;> simp_all <;> omega, rfl⟩
    · obtain rfl : q = n := by omega
      go_wp2
      go_ret
      exact ⟨by rw [HO.out]; rfl, rfl⟩

theorem rretire_full {w : World} {lo n c k d : Nat} {A B : Option Addr} {ws : List Wk} {wts : List Wt} (h : RP w lo A n c B k d ws wts) (slot turn ep : Int) (hf : k = 64) :
    Calls Try.prog 16 #[.agg #[.slice A n c, .slice B k d], .agg #[.int .i64 slot, .int .u32 turn], .int .u64 ep] w fun e w' => e = .returned (.tuple #[.agg #[.slice A n c, .slice B k d], .int .i64 20]) ∧ Below w.heap.size w w' := by
  subst hf
  clear h
  go_enter Try.func16, Try.ntmps16
  go_wp2
  exact bodyPost_res (v := .tuple #[.agg #[.slice A n c, .slice B 64 d], .int .i64 20]) (by simp [results, Try.results16, go_sem]) rfl ⟨rfl, (((Below.refl _ _).alloc (Nat.le_refl _) _).alloc (by simp) _).alloc (by simp; omega) _⟩

set_option maxHeartbeats 1000000 in
theorem rretire_yes {w : World} {lo n c k d : Nat} {A B : Option Addr} {ws : List Wk} {wts : List Wt} (h : RP w lo A n c B k d ws wts) (slot turn ep : Int) (hf : k < 64) :
    Calls Try.prog 16 #[.agg #[.slice A n c, .slice B k d], .agg #[.int .i64 slot, .int .u32 turn], .int .u64 ep] w fun e w' => ∃ B' d', e = .returned (.tuple #[.agg #[.slice A n c, .slice B' (k + 1) d'], .int .i64 0]) ∧
      RP w' lo A n c B' (k + 1) d' ws (wts ++ [⟨slot, turn, ep⟩]) ∧ Below w.heap.size w w' ∧ (∀ a, B' = some a → w.heap.size ≤ a.block) := by
  obtain ⟨i0, hi0, hz0, hz1, hz2⟩ := info_parts infoRT
  have h1c : ∀ u ∈ wts.flatMap encT, u.oneCell' = true := by
    intro u hu
    obtain ⟨x, _, hx⟩ := List.mem_flatMap.1 hu
    simp [encT] at hx
    rcases hx with rfl | rfl | rfl <;> rfl
  have H := Lib.hid h
  have H1 := Lib.hid h1c
  have hb : ¬ (64 : Int) ≤ (k : Int) := by omega
  obtain ⟨ys, hys⟩ : ∃ ys, ys = wts.flatMap encT := ⟨_, rfl⟩
  have HYS := Lib.hid hys
  have hlB := Lib.hid h.tB
  have hl1 : ys.length = k * 3 := by rw [hys]; exact h.t.1
  have HC : Hid (CellsIn w lo w.heap.size 3 B k ys) := by rw [hys]; exact Lib.hid h.t
  have H1y : Hid (∀ u ∈ ys, u.oneCell' = true) := by rw [hys]; exact H1
  have HLl := Lib.hid hl1
  have HN3 := Lib.hid (three_new w #[.slice A n c, .slice B k d] #[.int .i64 slot, .int .u32 turn] #[.slice none 0 0, .slice none 0 0] 29 33 29 0)
  have HU3 : Hid (Upd [] w (((w.alloc (.cells #[.slice A n c, .slice B k d] 29)).alloc (.cells #[.int .i64 slot, .int .u32 turn] 33)).alloc (.cells #[.slice none 0 0, .slice none 0 0] 29))) := (((Upd.refl _ _).alloc _).alloc _).alloc _
  clear h h1c hys H1 hl1
  go_enter Try.func16, Try.ntmps16
  go_wp2_with (at_builtin; refine wpList_append_src _ rfl (.tmp 14) (.tmp 16) 27 rfl (w.heap.size + 1 + 1 + 1) 73 i0 _ 3 24 Try.underlying27 hi0 hz0 hz1 hz2 rfl (by decide) (.slice none 0 0) 0 [] rfl (World.ownsRow_nil _ _ _ _) B k d ys rfl hlB.out HLl.out ?s1 H1y.out ?s3 ?s4 ?s5 ?_)
  case s1 => exact (HC.out.below (HU3.out.below (Nat.le_refl _) (by simp)) (Nat.le_refl _)).src
  case s3 => unfold maxLen; omega
  case s4 => omega

  · intro v1 w1 hown1 hg1 hat1
    have hbW := grown_upd (World.ownsRow_nil _ _ 73 3) hg1 (N := w.heap.size + 1 + 1 + 1) (by simp)
    have B0 : Blk w1 w.heap.size 29 #[.slice A n c, .slice B k d] := Blk.below HN3.out.1 hbW (by omega)
    have B1 : Blk w1 (w.heap.size + 1) 33 #[.int .i64 slot, .int .u32 turn] := Blk.below HN3.out.2.1 hbW (by omega)
    have B2 : Blk w1 (w.heap.size + 1 + 1) 29 #[.slice none 0 0, .slice none 0 0] := Blk.below HN3.out.2.2.1 hbW (by omega)
    have hs1 : w.heap.size + 1 + 1 + 1 ≤ w1.heap.size := by have := hbW.size; simpa using this
    have hb1 : Below w.heap.size w w1 := (HU3.out.below (Nat.le_refl _) (by simp)).trans (hbW.mono (by omega))
    have HO := Lib.hid hown1
    have HB1 := Lib.hid hb1
    have HB0 := Lib.hid B0
    have HBB := Lib.hid B1
    have HB2 := Lib.hid B2
    have c01 := B0.cell 1
    have b0 := B1.cell 0
    have b1 := B1.cell 1
    have g01 := B0.frozen 1
    simp only [List.getElem?_toArray, List.getElem?_cons_zero, List.getElem?_cons_succ] at c01 b0 b1
    have hgl0 : w.heap.size < w1.heap.size := by omega
    have hgl1 : w.heap.size + 1 < w1.heap.size := by omega
    clear hown1 hg1 hat1 hbW hb1 B0 B1 B2
    go_wp2_with (at_builtin; refine wpList_append_own_at _ rfl (.tmp 18) (.tmp 22) 27 rfl (w.heap.size + 1 + 1 + 1) 73 i0 _ 3 24 Try.underlying27 hi0 hz0 hz1 hz2 rfl (by decide) _ k ys rfl (HO.out.alloc _) ⟨w1.heap.size, 0, none⟩ 1 1 [.int .i64 slot, .int .u32 turn, .int .u64 ep] rfl rfl ?u1 ?u2 ?u3 ?u4 ?u5 ?_)
    case u1 => exact World.news_of_block (cs := #[.int .i64 slot, .int .u32 turn, .int .u64 ep]) (fr := (0, 0)) (heap_alloc_new w1 _)
    case u2 => simp [Value.oneCell']
    case u3 => unfold maxLen; omega
    case u4 => omega
    case u5 => simp; omega
    · intro v2 w2 hown2 hg2 _ hat2
      have hbW := grown_upd (HO.out.alloc _) hg2 (N := w.heap.size + 1 + 1 + 1) (by simp; omega)
      have D0 := (HB0.out.alloc (.cells #[.int .i64 slot, .int .u32 turn, .int .u64 ep] 73)).below hbW (by omega)
      have D2 := (HB2.out.alloc (.cells #[.int .i64 slot, .int .u32 turn, .int .u64 ep] 73)).below hbW (by omega)
      have hb2 : Below w.heap.size w w2 := (HB1.out.alloc HB1.out.size _).trans (hbW.mono (by omega))
      obtain ⟨B', d', hvf, hcap', hA', hAn⟩ := own_form hown2
      obtain ⟨g, hg, hgN, hgl⟩ := hA' (by omega)
      subst hg
      subst hvf
      have hcells := CellsIn.of_own hown2
      have hcm' := own_cap hown2
      have HCC := Lib.hid hcells
      have d00 := D0.cell 0
      have d01 := D0.cell 1
      have g00 := D0.frozen 0
      have g01 := D0.frozen 1
      have e10 := D2.cell 0
      have e11 := D2.cell 1
      have g10 := D2.frozen 0
      have g11 := D2.frozen 1
      have hl0 := D0.lt
      have hl2 := D2.lt
      simp only [List.getElem?_toArray, List.getElem?_cons_zero, List.getElem?_cons_succ] at d00 d01 e10 e11
      have HB2' := Lib.hid hb2
      clear hA' hcells hown2 hg2 hat2 hbW D0 D2 hb2 hAn
      go_wp2
      have hu : Upd [w.heap.size, w.heap.size + 1 + 1] w2 (((w2.setCell ⟨w.heap.size, 1, none⟩ (.slice (some ⟨g, 0, none⟩) (k + 1) d')).setCell ⟨w.heap.size + 1 + 1, 0, none⟩ (.slice A n c)).setCell ⟨w.heap.size + 1 + 1, 1, none⟩ (.slice (some ⟨g, 0, none⟩) (k + 1) d')) := (((Upd.refl _ _).setCell (by simp) _).setCell (by simp) _).setCell (by simp) _
      have hbf := HB2'.out.trans (hu.below HB2'.out.size (by simp; omega))
      refine bodyPost_res (v := .tuple #[.agg #[.slice A n c, .slice (some ⟨g, 0, none⟩) (k + 1) d'], .int .i64 0]) (by simp [results, Try.results16, go_sem, d00, d01, e10, e11]) rfl ⟨_, d', rfl, ⟨?_, ?_, H.out.lA, fun h => (by cases h), H.out.n1, H.out.n4, by omega, Nat.le_trans H.out.low hbf.size⟩, hbf, fun a ha => by obtain rfl := Option.some.inj ha; show _ ≤ g; omega⟩
      · exact (H.out.l.below hbf (Nat.le_refl _)).more (Nat.le_refl _) hbf.size
      · rw [List.flatMap_append, ← HYS.out]
        exact (HCC.out.upd hu (Nat.le_refl _) (fun s hs => .inl (by simp at hs; omega))).more (by have := H.out.low; omega) hu.size
end Go.Proofs.Ytembadjfialenaa
