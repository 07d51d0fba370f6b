/- The pins' functions, further: New, Retire. Conditions as before. -/
import Derived.Test.YtembadjfialenaaPins
import Derived.Deep.RegionHeld3
import Derived.Deep.AppendLies
import Derived.Deep.RegionLaw
import Derived.Deep.DrawnRows
namespace Go.Proofs.Ytembadjfialenaa
open Go Go.RowKit
set_option maxHeartbeats 400000
theorem infoT : (Try.prog.info? 75).map (fun i => (i.zero, i.size, i.bytes)) = some (some (.agg #[.int .i64 0, .int .u32 0, .int .u64 0]), 3, 24) := by kernel_rfl
theorem infoW : (Try.prog.info? 71).map (fun i => (i.zero, i.size, i.bytes)) = some (some (.agg #[.int .u64 0, .int .u64 0, .bool false]), 3, 24) := by kernel_rfl

/-- New, in its bounds. -/
theorem pnew_yes (w : World) (n : Nat) (h1 : 1 ≤ n) (h2 : n ≤ 4) :
    Calls Try.prog 9 #[.int .i64 (n : Int)] w fun e w' => e = .returned (.pointer (some ⟨w.heap.size + 1, 0, none⟩)) ∧
      IsP w' (w.heap.size + 2) (w.heap.size + 1) w.heap.size (List.replicate n ⟨0, 0, false⟩) [] (.slice none 0 0) ∧ Upd [] w w' ∧ w'.heap.size = w.heap.size + 2 := by
  have hmk := fun W : World => run_mkN (P := Try.prog) 60 71 [.int .u64 0, .int .u64 0, .bool false] 3 24 Try.underlying60 infoW rfl (by omega) n (by omega) (by omega) W
  have e : ((List.replicate n ()).flatMap fun _ => [Value.int .u64 0, .int .u64 0, .bool false]) = (List.replicate n (⟨0, 0, false⟩ : Wk)).flatMap encW := by
    clear hmk h1 h2
    induction n with
    | zero => rfl
    | succ n ih => rw [List.replicate_succ, List.replicate_succ, List.flatMap_cons, List.flatMap_cons, ih]; rfl
  rw [e] at hmk
  generalize hws : List.replicate n (⟨0, 0, false⟩ : Wk) = ws at hmk ⊢
  have hwl : ws.length = n := by rw [← hws]; simp
  have HF : Hid (IsP ((w.alloc (.cells (ws.flatMap encW).toArray 71)).alloc (.cells #[.slice (some ⟨w.heap.size, 0, none⟩) n n, .slice none 0 0] 63)) (w.heap.size + 2) (w.heap.size + 1) w.heap.size ws [] (.slice none 0 0)) := by
    refine ⟨?_, (Blk.new w _ _).alloc _, World.ownsRow_nil _ _ _ _, by omega, by omega, by simp, by omega, by omega⟩
    have := Blk.new (w.alloc (.cells (ws.flatMap encW).toArray 71)) 63 #[.slice (some ⟨w.heap.size, 0, none⟩) n n, .slice none 0 0]
    rw [World.size_alloc] at this
    rw [hwl]; exact this
  clear hws hwl e
  go_enter Try.func9, Try.ntmps9
  go_wp2
  go_ret
  exact ⟨rfl, HF.out, ((Upd.refl _ w).alloc _).alloc _, by simp⟩
theorem pnew_no (w : World) (n : Int) (h : n < 1 ∨ 4 < n) :
    Calls Try.prog 9 #[.int .i64 n] w fun e w' => e = .returned (.pointer none) ∧ w = w' := by
  rcases h with h | h
  · go_enter Try.func9, Try.ntmps9
    go_wp2
    go_ret
    exact ⟨rfl, rfl⟩
  · have h' : ¬ n < 1 := by omega
    go_enter Try.func9, Try.ntmps9
    go_wp2
    go_ret
    exact ⟨rfl, rfl⟩

section
variable {w : World} {N g lw : Nat} {ws : List Wk} {wts : List Wt} {wv : Value}
theorem retire_full (h : IsP w N g lw ws wts wv) (slot turn ep : Int) (hf : wts.length = 64) :
    Calls Try.prog 17 #[.pointer (some ⟨g, 0, none⟩), .agg #[.int .i64 slot, .int .u32 turn], .int .u64 ep] w fun e w' => e = .returned (.int .i64 20) ∧ Upd [] w w' := by
  obtain ⟨A, c, hv, _⟩ := own_form h.own
  have c1 := h.st.2.1
  rw [hv, hf] at c1
  have hlt := h.blk.lt
  have hb : (((64 : Nat) : Int) == 64) = true := by decide
  go_enter Try.func17, Try.ntmps17
  go_wp2
  go_ret
  exact ⟨rfl, (Upd.refl _ _).alloc _⟩

theorem retire_yes (h : IsP w N g lw ws wts wv) (hN : N ≤ w.heap.size) (slot turn ep : Int) (hf : wts.length < 64) :
    Calls Try.prog 17 #[.pointer (some ⟨g, 0, none⟩), .agg #[.int .i64 slot, .int .u32 turn], .int .u64 ep] w fun e w' => e = .returned (.int .i64 0) ∧
      ∃ wv', IsP w' N g lw ws (wts ++ [⟨slot, turn, ep⟩]) wv' ∧ Upd (g :: wv.ownBlock.toList) w w' ∧ (∀ b, wv'.ownBlock = some b → wv.ownBlock = some b ∨ w.heap.size ≤ b) := by
  obtain ⟨i0, hi0, hz0, hz1, hz2⟩ := info_parts infoT
  obtain ⟨A, c, hv, _⟩ := own_form h.own
  have c1 := h.st.2.1
  have hown := h.own
  rw [hv] at c1
  have hlt := h.blk.lt
  have hfz := h.st.2.2.1
  have hgN := h.gN
  have ag : wv.ownBlock ≠ some g := fun e => by have := (h.foot e).1; omega
  have HH := Lib.hid h
  have hb : ((wts.length : Int) == 64) = false := by simp; omega
  have HV := Lib.hid hv
  have ag' : (Value.slice A wts.length c).ownBlock ≠ some g := by rw [← hv]; exact ag
  have hown' : w.ownsRow N 75 3 (.slice A wts.length c) wts.length (wts.flatMap encT) := by rw [← hv]; exact hown
  obtain ⟨k, hk⟩ : ∃ k, k = wts.length := ⟨_, rfl⟩
  have HK := Lib.hid hk
  generalize hfl : wts.flatMap encT = fl at hown'
  have HFL := Lib.hid hfl
  rw [← hk] at hown' c1 hb hf ag'
  have hfa : ∀ o, (w.alloc o).frozen? ⟨g, 1, none⟩ = false := fun o => (h.blk.alloc o).frozen 1
  have hfb : ∀ o o', ((w.alloc o).alloc o').frozen? ⟨g, 1, none⟩ = false := fun o o' => ((h.blk.alloc o).alloc o').frozen 1
  have hca : ∀ o o', ((w.alloc o).alloc o').cell? ⟨g, 1, none⟩ = some (.slice A k c) := fun o o' => (((h.blk.alloc o).alloc o').cell 1).trans (by rw [hv, ← hk]; rfl)
  have HNB : Hid (∀ o : Obj, ((w.alloc o).alloc (.cells #[.int .i64 slot, .int .u32 turn, .int .u64 ep] 75)).heap[w.heap.size + 1]? = some (.cells #[.int .i64 slot, .int .u32 turn, .int .u64 ep] 75 (0, 0))) := by
    intro o
    have := heap_alloc_new (w.alloc o) (.cells #[.int .i64 slot, .int .u32 turn, .int .u64 ep] 75)
    rwa [World.size_alloc] at this
  clear h hv hown ag hk hfl
  go_enter Try.func17, Try.ntmps17
  go_wp2_with fail
  go_region_law ((refine step_append_lies _ (by rfl) _ _ _ (by rfl) N 75 i0 _ 3 24 Try.underlying61 hi0 hz0 hz1 hz2 rfl (by omega) (.slice A k c) k fl (by rfl) (((hown'.alloc _).alloc _).drew) ⟨w.heap.size + 1, 0, none⟩ 1 1 [.int .i64 slot, .int .u32 turn, .int .u64 ep] (by rfl) (by rfl) (World.news_of_block (cs := #[.int .i64 slot, .int .u32 turn, .int .u64 ep]) (t := 75) (fr := (0, 0)) (HNB.out _)) (by simp [Value.oneCell']) (by omega) (by unfold maxLen; omega) (by omega) (by simp; omega) (w.heap.size + 1 + 1) (by simp) ?_; intro gg cap w1 hown1 hgrow hat hlt1; have hc1 : w1.cell? ⟨g, 1, none⟩ = some (.slice A k c) := (hgrow.cell_far _ (by simp; omega) (Ne.symm ag')).trans (hca _ _); have hf1 : w1.frozen? ⟨g, 1, none⟩ = false := (hgrow.frozen_far _ (by simp; omega) (Ne.symm ag')).trans (hfb _ _)))
  all_goals
    have HFIN : Hid (IsP (w1.setCell ⟨g, 1, none⟩ (.slice (some ⟨gg, 0, none⟩) (k + 1) cap)) N g lw ws (wts ++ [⟨slot, turn, ep⟩]) (.slice (some ⟨gg, 0, none⟩) (k + 1) cap)) := by
      have h := HH.out
      have hk := HK.out
      have hb1 : ∀ b, b < w.heap.size → (Value.slice A k c).ownBlock ≠ some b → w1.heap[b]? = w.heap[b]? := fun b hb hne => by
        rw [hgrow.block b (by simp; omega) (fun e => hne e.symm)]
        show ((w.alloc _).alloc _).heap[b]? = _
        rw [Below.heap_alloc _ _ _ (by simp; omega), Below.heap_alloc _ _ _ hb]
      have hgg : gg ≠ g := fun e => by
        rcases hat with e1 | e1
        · exact ag' (by rw [e1, e])
        · omega
      have hlw : lw ≠ g := Ne.symm h.ne
      have hll := h.wks.lt
      have hlN := h.lN
      have al : (Value.slice A k c).ownBlock ≠ some lw := fun e => by have := (own_block_lt hown' e).1; omega
      have B1 : Blk w1 g 63 #[.slice (some ⟨lw, 0, none⟩) ws.length ws.length, wv] := (hb1 g hlt ag').trans h.blk
      have B2 := B1.store 1 (.slice (some ⟨gg, 0, none⟩) (k + 1) cap)
      have B3 : Blk w1 lw 71 (ws.flatMap encW).toArray := (hb1 lw hll al).trans h.wks
      refine ⟨by simpa using B2, B3.other (p := ⟨g, 1, none⟩) hlw _, ?_, h.n1, h.n4, by simp; omega, h.gN, h.lN⟩
      have e1 : (wts ++ [(⟨slot, turn, ep⟩ : Wt)]).flatMap encT = fl ++ [.int .i64 slot, .int .u32 turn, .int .u64 ep] := by rw [List.flatMap_append, HFL.out]; rfl
      rw [e1, List.length_append, ← hk]
      exact ownsRow_upd hown1 ((Upd.refl [g] _).setCell (by simp) _) (fun s hs he => by simp [Value.ownBlock] at he hs; omega)
    have HUP : Hid (Upd (g :: wv.ownBlock.toList) w (w1.setCell ⟨g, 1, none⟩ (.slice (some ⟨gg, 0, none⟩) (k + 1) cap))) := by
      have hv := HV.out
      rw [← HK.out] at hv
      rw [hv]
      have u0 : Upd (g :: (Value.slice A k c).ownBlock.toList) w w1 := ((((Upd.refl _ w).alloc _).alloc _).drewN 1).trans ((Upd.of_grown hgrow).more (T := g :: (Value.slice A k c).ownBlock.toList) (fun s hs => List.mem_cons_of_mem _ hs)) (fun s hs => .inl hs)
      exact u0.setCell (by simp) _
    have HAT : Hid (∀ b, (Value.slice (some ⟨gg, 0, none⟩) (k + 1) cap).ownBlock = some b → wv.ownBlock = some b ∨ w.heap.size ≤ b) := by
      intro b hb
      have hv := HV.out
      rw [← HK.out] at hv
      rw [hv]
      have : gg = b := by simpa [Value.ownBlock] using hb
      subst this
      rcases hat with e1 | e1
      · exact .inl e1
      · exact .inr (by omega)
    clear hown1 hgrow hat hlt1 hc1 hf1 hca hfa hfb HNB
    go_wp2
    go_ret
    exact ⟨rfl, _, HFIN.out, HUP.out, HAT.out⟩
end
end Go.Proofs.Ytembadjfialenaa
