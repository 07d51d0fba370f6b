/- Deletion, and Sweep. Conditions: the pins as before. -/
import Derived.Test.YtembadjfialenaaSweep
import Derived.Test.YtembadjfialenaaClear
namespace Go.Proofs.Ytembadjfialenaa
open Go Go.RowKit
set_option maxHeartbeats 400000

/-- what stays -/
def stay (o : Int) (x : Wt) : Bool := decide (o < x.ep)

/-- within the deletion: i stay of the first j; the rest is as it was -/
structure Mid (w0 w : World) (M Q O N n c b : Nat) (o : Int) (R : List Wt) (i j : Nat) : Prop where
  lt : i < j
  le : j ≤ n
  row : ∃ X : List Wt, X.length = n ∧ X.take i = (R.take j).filter (stay o) ∧ X.drop j = R.drop j ∧ w.ownsRow N 75 3 (.slice (some ⟨b, 0, none⟩) n c) n (X.flatMap encT)
  out : ∃ ov, OutAt w M Q O o ov ((R.take j).flatMap (take1 o))
  kept : Kept M [b, O] w0 w

theorem stay_all {o : Int} {l : List Wt} (h : ∀ x ∈ l, o < x.ep) : l.filter (stay o) = l ∧ l.flatMap (take1 o) = [] := by
  induction l with
  | nil => exact ⟨rfl, rfl⟩
  | cons a l ih =>
    have h1 := h a (by simp)
    have h2 := ih (fun x hx => h x (by simp [hx]))
    constructor
    · rw [List.filter_cons_of_pos (by simpa [stay] using h1), h2.1]
    · rw [List.flatMap_cons, h2.2]; simp [take1]; omega

theorem take1_few (o : Int) (l : List Wt) : (l.flatMap (take1 o)).length ≤ l.length := by
  induction l with
  | nil => simp
  | cons a l ih => rw [List.flatMap_cons, List.length_append, List.length_cons]; have : (take1 o a).length ≤ 1 := by unfold take1; split <;> simp
                   omega

theorem Mid.start {w0 w : World} {M Q O N n c b : Nat} {o : Int} {R : List Wt} {i : Nat} {ov : Value} {x : Wt} (hr : w.ownsRow N 75 3 (.slice (some ⟨b, 0, none⟩) n c) n (R.flatMap encT)) (hl : R.length = n) (hi : i < n)
    (hall : ∀ x ∈ R.take i, o < x.ep) (hx : R[i]? = some x) (hxo : x.ep ≤ o) (ho : OutAt w M Q O o ov (take1 o x)) (hk : Kept M [O] w0 w) : Mid w0 w M Q O N n c b o R i (i + 1) := by
  refine ⟨by omega, by omega, ⟨R, hl, ?_, rfl, hr⟩, ⟨ov, ?_⟩, hk.trans (T := []) (Kept.refl _ _ _) (by simp) |>.more (by simp)⟩
  · rw [take_snoc hx, List.filter_append, (stay_all hall).1, List.filter_cons_of_neg (by simp [stay]; omega)]; simp
  · rw [take_snoc hx, List.flatMap_append, (stay_all hall).2]; simpa using ho

/-- three cells stored are one element -/
def set3 (w : World) (b i : Nat) (x : Wt) : World := ((w.setCell ⟨b, i * 3, none⟩ (.int .i64 x.slot)).setCell ⟨b, i * 3 + 1, none⟩ (.int .u32 x.turn)).setCell ⟨b, i * 3 + 2, none⟩ (.int .u64 x.ep)
theorem set3_row {w : World} {N b n c i : Nat} {X : List Wt} (h : w.ownsRow N 75 3 (.slice (some ⟨b, 0, none⟩) n c) n (X.flatMap encT)) (hi : i < X.length) (x : Wt) :
    (set3 w b i x).ownsRow N 75 3 (.slice (some ⟨b, 0, none⟩) n c) n ((X.set i x).flatMap encT) ∧ Upd [b] w (set3 w b i x) := by
  have hy : X[i]? = some X[i] := List.getElem?_eq_getElem hi
  have h1 := (h.stored (i * 3 + 0) (.int .i64 x.slot)).1
  rw [flat_set encT_len X i 0 X[i] { X[i] with slot := x.slot } _ hy (by omega) rfl] at h1
  have h2 := (h1.stored (i * 3 + 1) (.int .u32 x.turn)).1
  rw [flat_set encT_len _ i 1 { X[i] with slot := x.slot } { X[i] with slot := x.slot, turn := x.turn } _ (by rw [List.getElem?_set_self hi]) (by omega) rfl, List.set_set] at h2
  have h3 := (h2.stored (i * 3 + 2) (.int .u64 x.ep)).1
  rw [flat_set encT_len _ i 2 { X[i] with slot := x.slot, turn := x.turn } x _ (by rw [List.getElem?_set_self hi]) (by omega) rfl, List.set_set] at h3
  exact ⟨h3, (((Upd.refl [b] w).setCell (by simp) _).setCell (by simp) _).setCell (by simp) _⟩

theorem Mid.skip {w0 w w' : World} {M Q O N n c b : Nat} {o : Int} {R : List Wt} {i j : Nat} {ov : Value} {x : Wt} (hm : Mid w0 w M Q O N n c b o R i j) (hb : b < M ∧ b ≠ O) (hlt : j < n) (hx : R[j]? = some x) (hxo : x.ep ≤ o)
    (ho : OutAt w' M Q O o ov ((R.take j).flatMap (take1 o) ++ take1 o x)) (hk : Kept M [O] w w') : Mid w0 w' M Q O N n c b o R i (j + 1) := by
  obtain ⟨X, hXl, hXt, hXd, hXr⟩ := hm.row
  refine ⟨by have := hm.lt; omega, by omega, ⟨X, hXl, ?_, ?_, Kept.own hXr hk (fun b' hb' => by
      obtain rfl : b = b' := by simpa [Value.ownBlock] using hb'
      exact ⟨hb.1, by simpa using hb.2⟩)⟩, ⟨ov, ?_⟩, hm.kept.trans hk (fun t ht => .inl (by simp at ht ⊢; exact .inr ht))⟩
  · rw [take_snoc hx, List.filter_append, hXt, List.filter_cons_of_neg (by simp [stay]; omega)]; simp
  · have := congrArg (List.drop 1) hXd
    simpa [List.drop_drop] using this
  · rw [take_snoc hx, List.flatMap_append]; simpa using ho

theorem Mid.put {w0 w w' : World} {M Q O N n c b : Nat} {o : Int} {R : List Wt} {i j : Nat} {ov : Value} {x : Wt} (hm : Mid w0 w M Q O N n c b o R i j) (hb : b < M ∧ b ≠ O) (hbQ : b ≠ Q) (hlt : j < n) (hx : R[j]? = some x) (hxo : ¬ x.ep ≤ o)
    (ho : OutAt w' M Q O o ov ((R.take j).flatMap (take1 o) ++ take1 o x)) (hob : ov.ownBlock ≠ some b) (hk : Kept M [O] w w') : Mid w0 (set3 w' b i x) M Q O N n c b o R (i + 1) (j + 1) := by
  obtain ⟨X, hXl, hXt, hXd, hXr⟩ := hm.row
  have hij := hm.lt
  have hr := Kept.own hXr hk (fun b' hb' => by
      obtain rfl : b = b' := by simpa [Value.ownBlock] using hb'
      exact ⟨hb.1, by simpa using hb.2⟩)
  have h3 := set3_row hr (i := i) (by omega) x
  refine ⟨by omega, by omega, ⟨X.set i x, by simpa using hXl, ?_, ?_, h3.1⟩, ⟨ov, ?_⟩, (hm.kept.trans hk (fun t ht => .inl (by simp at ht ⊢; exact .inr ht))).trans (Kept.of_upd h3.2 ho.MS) (fun t ht => .inl (by simp at ht ⊢; exact .inl ht))⟩
  · rw [take_snoc hx, List.filter_append, ← hXt, take_snoc (x := x) (by rw [List.getElem?_set_self (by omega)]), List.take_set_of_le (by omega), List.filter_cons_of_pos (by simp [stay]; omega)]; simp
  · rw [List.drop_set_of_lt (by omega)]
    have := congrArg (List.drop 1) hXd
    simpa [List.drop_drop] using this
  · rw [take_snoc hx, List.flatMap_append]
    have hQ := ho.q.upd h3.2 (by simpa using fun e => hbQ e.symm)
    have hO := ho.out.upd h3.2 (by simpa using fun e => hb.2 e.symm)
    have hw := ownsRow_upd ho.own h3.2 (fun s hs he => hob (by simp at hs; rw [← hs]; exact he))
    simpa using (⟨hQ, hO, hw, ho.QM, ho.OM, Nat.le_trans ho.MS h3.2.size⟩ : OutAt (set3 w' b i x) M Q O o ov _)

theorem delete_any {w : World} {M Q O N n c b : Nat} {o : Int} {ov : Value} {R : List Wt} (h : OutAt w M Q O o ov []) (hr : w.ownsRow N 75 3 (.slice (some ⟨b, 0, none⟩) n c) n (R.flatMap encT)) (hbM : b < M) (hbO : b ≠ O) (hbQ : b ≠ Q)
    (hn : n ≤ 64) (hRl : R.length = n) :
    Calls Try.prog 25 #[.slice (some ⟨b, 0, none⟩) n c, .func (.func 26) #[] #[.pointer (some ⟨Q, 0, none⟩), .pointer (some ⟨O, 0, none⟩)]] w fun e w' =>
      Kept M [b, O] w w' ∧ ∃ n', e = .returned (.slice (some ⟨b, 0, none⟩) n' c) ∧ n' = (R.filter (stay o)).length ∧
        w'.ownsRow N 75 3 (.slice (some ⟨b, 0, none⟩) n' c) n' ((R.filter (stay o)).flatMap encT) ∧ ∃ ov', OutAt w' M Q O o ov' (R.flatMap (take1 o)) := by
  have HH := Lib.hid h
  have HR := Lib.hid hr
  have HL := Lib.hid hRl
  have hcall := Lib.hid (index_any h hr (fun b' hb' => by injection hb' with e; injection e with e; subst e; exact ⟨hbM, hbO⟩) hn hRl)
  clear h hr hRl
  go_enter Try.func25, Try.ntmps25
  go_wp2_with fail
  refine hcall.out.mono ?_
  rintro e w1 ⟨hk1, ⟨rfl, hall, ov1, ho1⟩ | ⟨i, rfl, hi, hall, x, hx, hxo, ov1, ho1⟩⟩
  · have HE := Lib.hid (show _ ∧ _ ∧ _ from ⟨hk1, hall, ho1⟩)
    clear hk1 hall ho1
    go_wp2
    go_ret
    have hs := stay_all HE.out.2.1
    refine ⟨HE.out.1.more (by simp), n, rfl, by rw [hs.1, HL.out], ?_, ov1, by rw [hs.2]; exact HE.out.2.2⟩
    rw [hs.1]
    exact Kept.own HR.out HE.out.1 (fun b' hb' => by
      obtain rfl : b = b' := by simpa [Value.ownBlock] using hb'
      exact ⟨hbM, by simpa using hbO⟩)
  · have hr1 := Kept.own HR.out hk1 (fun b' hb' => by
      obtain rfl : b = b' := by simpa [Value.ownBlock] using hb'
      exact ⟨hbM, by simpa using hbO⟩)
    have HE := Lib.hid (Mid.start hr1 HL.out hi hall hx hxo ho1 hk1)
    clear hk1 hall hx ho1 hr1
    go_wp2
    go_loopw [5, 6] (fun x5 x6 wr => ∃ i j : Nat, x5 = .int .i64 i ∧ x6 = .int .i64 j ∧ Mid w wr M Q O N n c b o R i j) (fun _ x6 _ => n - (intOf x6).toNat)
    case atStart => exact ⟨i, i + 1, rfl, by simp, HE.out⟩
    case round =>
      obtain ⟨i, j, rfl, rfl, hm⟩ := hrel
      have hij := hm.lt
      obtain ⟨X, hXl, hXt, hXd, hXr⟩ := hm.row
      obtain ⟨ov2, ho2⟩ := hm.out
      by_cases hlt : j < n
      · obtain ⟨b', x, hbb, hNb, hbs, hx, c0, c1, c2, hfz⟩ := row_at hXr j hlt
        injection hbb with hbb
        injection hbb with hbb
        subst hbb
        have HX := Lib.hid (show _ ∧ _ ∧ _ ∧ _ ∧ _ from ⟨hx, hXl, hXt, hXd, hXr⟩)
        have hMS := ho2.MS
        have hB := Blk.new wr 75 (encT x).toArray
        have ho3 := ho2.upd ((Upd.refl [] wr).alloc (.cells (encT x).toArray 75))
        have hcall2 := Lib.hid (del_any ho3 x (by have := take1_few o (R.take j); rw [List.length_take] at this; omega))
        go_wp2_with fail
        refine hcall2.out.mono ?_
        rintro e w2 ⟨rfl, ov3, h1, h2, h3⟩
        have hk2 : Kept M [O] wr w2 := (Kept.of_upd ((Upd.refl [O] wr).alloc (.cells (encT x).toArray 75)) hMS).trans h2 (fun t ht => .inl ht)
        have hRx : R[j]? = some x := by
          have := congrArg (fun l => l[0]?) hXd
          simp only [List.getElem?_drop] at this
          rw [← hx]; simpa using this.symm
        by_cases hxo' : x.ep ≤ o
        · have HN := Lib.hid (hm.skip ⟨hbM, hbO⟩ hlt hRx hxo' h1 hk2)
          clear h1 h2 h3 hk2 hm ho2 ho3 hXr hXl hXt hXd c0 c1 c2 hfz hx hRx hB
          simp only [hxo', decide_true]
          go_wp2
          go_roundw
          case rel => exact ⟨_, _, _, _, _, _, _, _, _, _, _, _, _, _, _, _, _, _, _, _, _, _, _, ⟨i, j + 1, rfl, by simp, HN.out⟩, rfl⟩
          case measure => simp [intOf]; omega
        · have hBx : Blk w2 wr.heap.size 75 (encT x).toArray := (h3 wr.heap.size (by simp) (by have := ho2.OM; omega) (fun e => by have := (own_block_lt ho2.own e).2; omega)).trans hB
          have HN := Lib.hid (hm.put ⟨hbM, hbO⟩ hbQ hlt hRx hxo' h1 (fun e => by have := (own_block_lt h1.own e).1; omega) hk2)
          have d0 := hBx.cell 0
          have d1 := hBx.cell 1
          have d2 := hBx.cell 2
          simp only [encT, List.getElem?_toArray, List.getElem?_cons_zero, List.getElem?_cons_succ] at d0 d1 d2
          have hr2 := Kept.own hXr hk2 (fun b' hb' => by
            obtain rfl : b = b' := by simpa [Value.ownBlock] using hb'
            exact ⟨hbM, by simpa using hbO⟩)
          obtain ⟨_, y, hbb, _, hbs2, _, e0, e1, e2, hfz2⟩ := row_at hr2 i (by omega)
          injection hbb with hbb
          injection hbb with hbb
          subst hbb
          have f0 := hfz2 (i * 3)
          have f1 := hfz2 (i * 3 + 1)
          have f2 := hfz2 (i * 3 + 2)
          have hbne : b ≠ wr.heap.size := by omega
          clear h1 h2 h3 hk2 hm ho2 ho3 hXr hXl hXt hXd c0 c1 c2 hfz hx hRx hB hBx hr2 hfz2
          simp only [hxo', decide_false]
          go_wp2
          exact ⟨⟨i + 1, by simp, j + 1, by simp, HN.out⟩, by simp [intOf]; omega⟩
      · have hjn : j = n := by have := hm.le; omega
        subst hjn
        have hcn : j ≤ c := by obtain ⟨_, _, hv, hnc, _⟩ := own_form hXr; injection hv with _ _ e; omega
        obtain ⟨w3, hclr, hrow, hu3⟩ := run_clear_tail (size := 3) (P := Try.prog) (t := 61) (ty := 0) (zc := [.int .i64 0, .int .u32 0, .int .u64 0]) Try.underlying61 (fun w => by kernel_rfl) rfl (by decide) hXr hij (c - i)
        have HF : Hid (Kept M [b, O] w w3 ∧ i = (R.filter (stay o)).length ∧ w3.ownsRow N 75 3 (.slice (some ⟨b, 0, none⟩) i c) i ((R.filter (stay o)).flatMap encT) ∧ ∃ ov', OutAt w3 M Q O o ov' (R.flatMap (take1 o))) := by
          have hRj : R.take j = R := by rw [← HL.out, List.take_length]
          rw [hRj] at hXt ho2
          have hil : i = (R.filter (stay o)).length := by rw [← hXt, List.length_take]; omega
          have hmk := hm.kept
          rw [flat_take encT_len, hXt] at hrow
          refine ⟨(hmk.trans (Kept.of_upd hu3 ho2.MS) (fun t ht => .inl (by simp at ht ⊢; exact .inl ht))), hil, hrow, ov2, ?_⟩
          have hob : ov2.ownBlock ≠ some b := fun e => by have := (own_block_lt ho2.own e).1; omega
          exact ⟨ho2.q.upd hu3 (by simpa using fun e => hbQ e.symm), ho2.out.upd hu3 (by simpa using fun e => hbO e.symm), ownsRow_upd ho2.own hu3 (fun s hs he => hob (by simp at hs; rw [← hs]; exact he)), ho2.QM, ho2.OM, Nat.le_trans ho2.MS hu3.size⟩
        clear hm hXr hXl hXt hXd ho2 hrow hu3
        go_wp2
        go_ret
        exact ⟨HF.out.1, i, rfl, HF.out.2⟩
end Go.Proofs.Ytembadjfialenaa
