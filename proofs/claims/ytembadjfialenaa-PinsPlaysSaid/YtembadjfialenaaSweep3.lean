/- Sweep. Conditions: the pins as before. -/
import Derived.Test.YtembadjfialenaaSweep2
namespace Go.Proofs.Ytembadjfialenaa
open Go Go.RowKit
set_option maxHeartbeats 400000

theorem own_le {w : World} {base base' size n : Nat} {e : TypeId} {v : Value} {xs : List Value} (h : w.ownsRow base e size v n xs) (hb : base' ≤ base) : w.ownsRow base' e size v n xs :=
  ⟨h.1, h.2.imp id fun ⟨g, cap, cur, hv, hg, r⟩ => ⟨g, cap, cur, hv, Nat.le_trans hb hg, r⟩⟩

/-- the deletion, whatever row -/
theorem delete_all {w : World} {M Q O N n c : Nat} {A : Option Addr} {o : Int} {ov : Value} {R : List Wt} (h : OutAt w M Q O o ov []) (hr : w.ownsRow N 75 3 (.slice A n c) n (R.flatMap encT)) (hA : ∀ b, A = some ⟨b, 0, none⟩ → b < M ∧ b ≠ O ∧ b ≠ Q)
    (hn : n ≤ 64) (hRl : R.length = n) :
    Calls Try.prog 25 #[.slice A n c, .func (.func 26) #[] #[.pointer (some ⟨Q, 0, none⟩), .pointer (some ⟨O, 0, none⟩)]] w fun e w' =>
      Kept M (O :: (Value.slice A n c).ownBlock.toList) w w' ∧ ∃ n', e = .returned (.slice A n' c) ∧ n' = (R.filter (stay o)).length ∧
        w'.ownsRow N 75 3 (.slice A n' c) n' ((R.filter (stay o)).flatMap encT) ∧ ∃ ov', OutAt w' M Q O o ov' (R.flatMap (take1 o)) := by
  obtain ⟨A', c', hv, _, hAf, hA0⟩ := own_form hr
  injection hv with e1 _ e2
  subst e1
  subst e2
  cases A with
  | some a =>
    have hb : ∃ b, a = ⟨b, 0, none⟩ := by
      rcases hr.2 with ⟨h', _⟩ | ⟨g', cap', cur, h', _⟩
      · simp at h'
      · simp only [Value.slice.injEq, Option.some.injEq] at h'
        exact ⟨g', h'.1⟩
    obtain ⟨b, rfl⟩ := hb
    obtain ⟨h1, h2, h3⟩ := hA b rfl
    refine (delete_any h hr h1 h2 h3 hn hRl).mono ?_
    rintro e w' ⟨hk, hr⟩
    exact ⟨hk.more (by simp [Value.ownBlock]), hr⟩
  | none =>
    obtain ⟨rfl, rfl⟩ := hA0 rfl
    have hR : R = [] := List.length_eq_zero_iff.1 hRl
    subst hR
    have HR := Lib.hid hr
    have hcall := Lib.hid (index_any h hr (by simp) hn hRl)
    clear h hr hRl hA hAf hA0
    go_enter Try.func25, Try.ntmps25
    go_wp2_with fail
    refine hcall.out.mono ?_
    rintro e w1 ⟨hk1, ⟨rfl, hall, ov1, ho1⟩ | ⟨i, rfl, hi, _⟩⟩
    · have HE := Lib.hid (show _ ∧ _ from ⟨hk1, ho1⟩)
      clear hk1 hall ho1
      go_wp2
      go_ret
      exact ⟨HE.out.1.more (by simp), 0, rfl, rfl, World.ownsRow_nil _ _ _ _, ov1, HE.out.2⟩
    · omega

section
variable {w : World} {N g lw : Nat} {ws : List Wk} {wts : List Wt} {wv : Value}
theorem sweep_any (h : IsP w N g lw ws wts wv) (hN : N ≤ w.heap.size) :
    Calls Try.prog 19 #[.pointer (some ⟨g, 0, none⟩)] w fun e w' => ∃ rv wv', e = .returned rv ∧ IsP w' N g lw ws (wts.filter (stay (oldest ws))) wv' ∧ wv'.ownBlock = wv.ownBlock ∧
      w'.ownsRow w.heap.size 33 2 rv (wts.flatMap (take1 (oldest ws))).length ((wts.flatMap (take1 (oldest ws))).flatMap encR) ∧ Upd (g :: wv.ownBlock.toList) w w' := by
  have HH := Lib.hid h
  have hfew := h.few
  have hgN := h.gN
  obtain ⟨A, c, hwv, _, hA, hA0⟩ := own_form h.own
  subst hwv
  have g1 := h.st.2.1
  have hcall := fun (w : World) (h : IsP w N g lw ws wts (.slice A wts.length c)) => Lib.hid (oldest_any h)
  clear h
  go_enter Try.func19, Try.ntmps19
  go_wp2_with fail
  have hB := Blk.new w 48 #[.slice none 0 0]
  have hp1 := HH.out.upd ((Upd.refl [] w).alloc (.cells #[.slice none 0 0] 48)) (by simp) (by simp) (by simp)
  have hfoot := fun b => HH.out.foot (b := b)
  refine (hcall _ hp1).out.mono ?_
  rintro e w1 ⟨rfl, hu1⟩
  have hp2 := hp1.upd hu1 (by simp) (by simp) (by simp)
  have hB2 := hB.upd hu1 (by simp)
  have hs1 : w.heap.size + 1 ≤ w1.heap.size := by simpa using hu1.size
  have hu01 : Upd [] w w1 := ((Upd.refl [] w).alloc (.cells #[.slice none 0 0] 48)).trans hu1 (by simp)
  obtain ⟨O, hO⟩ : ∃ O, O = w.heap.size := ⟨_, rfl⟩
  rw [← hO] at hB2 hs1 ⊢
  have HO := Lib.hid hO
  have hON : N ≤ O := by omega
  obtain ⟨o, ho⟩ : ∃ o, o = oldest ws := ⟨_, rfl⟩
  rw [← ho]
  have HOL := Lib.hid ho
  clear hcall hp1 hB hu1 hO ho
  -- the box of the oldest
  have hp3 := hp2.upd ((Upd.refl [] w1).alloc (.cells #[.int .u64 o] 30)) (by simp) (by simp) (by simp)
  have hQ := Blk.new w1 30 #[.int .u64 o]
  have hB3 := hB2.alloc (.cells #[.int .u64 o] 30)
  have hOA : OutAt (w1.alloc (.cells #[.int .u64 o] 30)) (w1.heap.size + 1) w1.heap.size O o (.slice none 0 0) [] :=
    ⟨hQ, hB3, World.ownsRow_nil _ _ _ _, by omega, by omega, by simp⟩
  have hdel := Lib.hid (delete_all hOA hp3.own (fun b hb => by have := hfoot b (by rw [hb]; rfl); have := HO.out; omega) hfew rfl)
  have g2 := hp3.st.2.1
  have HP := Lib.hid (show _ ∧ _ ∧ _ from ⟨hp3, hOA, hu01⟩)
  clear hp2 hQ hB3 hB2 hOA hu01 hp3
  go_wp2_with fail
  refine hdel.out.mono ?_
  rintro e w2 ⟨hk, n', rfl, hn', hrow, ov', hout⟩
  obtain ⟨hp3, _, hu1⟩ := HP.out
  have hgO : g ∉ O :: (Value.slice A wts.length c).ownBlock.toList := by
    intro hm
    rcases List.mem_cons.1 hm with e | e
    · omega
    · have := hfoot g (by simpa using e); omega
  have hlO : lw ∉ O :: (Value.slice A wts.length c).ownBlock.toList := by
    intro hm
    have := HH.out.lN
    rcases List.mem_cons.1 hm with e | e
    · omega
    · have := hfoot lw (by simpa using e); omega
  have hgb := hk.blk hp3.blk (by omega) hgO
  have hlb := hk.blk hp3.wks (by have := HH.out.lN; omega) hlO
  have g3 := hgb.cell 1
  have f3 := hgb.frozen 1
  simp only [List.getElem?_toArray, List.getElem?_cons_zero, List.getElem?_cons_succ] at g3
  have o3 := (hout.out.other (p := ⟨g, 1, none⟩) (by simp; omega) (.slice A n' c)).cell 0
  simp only [List.getElem?_toArray, List.getElem?_cons_zero] at o3
  have hu3 : Upd (g :: (Value.slice A wts.length c).ownBlock.toList) w (w2.setCell ⟨g, 1, none⟩ (.slice A n' c)) := by
    refine ⟨hk.os.trans hu1.os, hk.tape.trans hu1.tape, hk.output.trans hu1.output, ?_, fun k hkl hkn => ?_⟩
    · have := hk.size; have := hu1.size; simp [World.setCell] at *; omega
    · have := HO.out
      have hk1 : k ≠ g := fun e => hkn (by simp [e])
      have hk2 : k ∉ (Value.slice A wts.length c).ownBlock.toList := fun e => hkn (List.mem_cons_of_mem _ e)
      rw [heap_setCell_other _ _ _ _ (by simpa using hk1), hk.block k (by omega) (fun hm => (List.mem_cons.1 hm).elim (fun e => by omega) hk2), Below.heap_alloc _ _ _ (by omega)]
      exact hu1.block k hkl (by simp)
  have hu23 : Upd [g] w2 (w2.setCell ⟨g, 1, none⟩ (.slice A n' c)) := (Upd.refl _ _).setCell (by simp) _
  have HF : Hid (IsP (w2.setCell ⟨g, 1, none⟩ (.slice A n' c)) N g lw ws (wts.filter (stay o)) (.slice A n' c) ∧ (w2.setCell ⟨g, 1, none⟩ (.slice A n' c)).ownsRow w.heap.size 33 2 ov' (wts.flatMap (take1 o)).length ((wts.flatMap (take1 o)).flatMap encR) ∧ Upd (g :: (Value.slice A wts.length c).ownBlock.toList) w (w2.setCell ⟨g, 1, none⟩ (.slice A n' c))) := by
    refine ⟨⟨by simpa using hgb.store 1 (.slice A n' c), hlb.upd hu23 (by simpa using fun e => HH.out.ne e.symm), ?_, HH.out.n1, HH.out.n4, ?_, HH.out.gN, HH.out.lN⟩, ?_, hu3⟩
    · have := ownsRow_upd hrow hu23 (fun s hs he => by have := (own_block_lt hrow he).1; simp at hs; omega)
      rwa [← hn']
    · have := List.length_filter_le (stay o) wts; omega
    · exact ownsRow_upd (own_le hout.own (by have := HO.out; omega)) hu23 (fun s hs he => by have := (own_block_lt hout.own he).1; simp at hs; omega)
  clear hk hn' hrow hout hp3 hu1 hgO hlO hgb hlb hu3 hu23 hA hA0 hfoot
  go_wp2
  go_ret
  rw [← HOL.out]
  exact ⟨ov', .slice A n' c, rfl, HF.out.1, by cases A <;> rfl, HF.out.2⟩
theorem sweep_none (w : World) :
    Calls Try.prog 19 #[.pointer none] w fun e w' => e = .returned (.slice none 0 0) ∧ w = w' := by
  go_enter Try.func19, Try.ntmps19
  go_wp2
  go_ret
  exact ⟨rfl, rfl⟩
end
end Go.Proofs.Ytembadjfialenaa
