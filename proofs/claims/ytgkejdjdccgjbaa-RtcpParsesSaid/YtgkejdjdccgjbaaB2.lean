/- Parts of the proof, one behind the other: Tail4, Tail5, Tail7, SNum, Num, PNum, Parts. No condition of their own. -/
import Derived.Test.YtgkejdjdccgjbaaB1
import Derived.OrdersHeld
import Derived.Lib.Hide
import Derived.Laws.Concat
import Derived.Laws.BitsAllLaws
import Derived.Laws.Strings2
import Derived.Shelf.RegionOpen
import Derived.Shelf.Abstract
import Derived.Deep.DeepCutAuto
import Derived.Deep.DrawnRows
import Derived.BigQuiet
/- A region that draws its order: what only reads, and what gives its value in each world of a class, is taken first, wherever it stands; then a tail in one forced order, all of it but the last one within the class: one walk serves every order.
   Conditions: the Bool over the region holds; the class holds behind each operation of the tail but the last. -/
namespace Go.Proofs.Ytgkejdjdccgjbaa
open Go

section
variable {P : Program} {ops : Array Oper} {md : Region.Mode} {S : World → Prop} {Q : Exit → Act → World → Prop}

/-- the operation is of a kind that gives a value and leaves the world alone, if it is quiet -/
def valB (ops : Array Oper) (k : Nat) : Bool := match ops[k]? with
  | some o => match o.op with
    | .load _ _ => true | .build _ _ => true | .field _ _ _ => true | .binOp _ _ _ _ _ => true | .unOp _ _ _ => true | .convert _ _ _ => true | .pick _ _ _ => true | .slice _ _ _ _ _ => true | .makeFunc _ _ _ => true | .index _ _ _ => true
    | .call c => match c.callee with | .builtin .len => true | _ => false
    | _ => pureB ops k
  | none => false
theorem valB_value {k : Nat} {o : Oper} {a : Act} (hk : ops[k]? = some o) (hm : valB ops k = true) : ValueOnly (execOp a.eval o) := by
  unfold valB at hm
  rw [hk] at hm
  dsimp only at hm
  split at hm
  · rename_i hx; unfold execOp; rw [hx]; exact ValueOnly.bind fun _ => ValueOnly.pure _
  · rename_i hx; unfold execOp; rw [hx]; exact ValueOnly.bind fun _ => ValueOnly.pure _
  · rename_i hx; unfold execOp; rw [hx]; exact ValueOnly.bind fun _ => ValueOnly.pure _
  · rename_i hx; unfold execOp; rw [hx]; exact ValueOnly.bind fun _ => ValueOnly.pure _
  · rename_i hx; unfold execOp; rw [hx]; exact ValueOnly.bind fun _ => ValueOnly.pure _
  · rename_i hx; unfold execOp; rw [hx]; exact ValueOnly.bind fun _ => ValueOnly.pure _
  · rename_i hx; unfold execOp; rw [hx]; exact ValueOnly.bind fun _ => ValueOnly.pure _
  · rename_i hx; unfold execOp; rw [hx]; exact ValueOnly.bind fun _ => ValueOnly.pure _
  · rename_i hx; unfold execOp; rw [hx]; exact ValueOnly.bind fun _ => ValueOnly.pure _
  · rename_i hx; unfold execOp; rw [hx]; exact ValueOnly.bind fun _ => ValueOnly.pure _
  · rename_i c hx
    split at hm
    · rename_i hc
      unfold execOp
      rw [hx]
      dsimp only
      unfold resolve
      rw [hc]
      intro P w n w' h
      simp only [Sem.run_bind, Sem.run_pure, Result.andThen_ok, invoke] at h
      exact (show ValueOnly (builtin .len _ _ _ _) from ValueOnly.bind fun _ => ValueOnly.pure _) P w n w' h
    · cases hm
  · exact pureB_value hk hm
theorem yieldsIf_of_val {k : Nat} {o : Oper} {v : Value} {a : Act} (hk : ops[k]? = some o) (hm : valB ops k = true) (h : YieldsIn P ops S o v a) : YieldsIf P ops S o v a := by
  rcases h with ⟨hw, h⟩ | ⟨hw, h⟩
  · refine .inl ⟨hw, fun w hS => ?_⟩
    have h1 := h w hS
    have hv := valB_value (a := a) hk hm
    unfold Oper.quietAt at h1
    cases hr : (execOp a.eval o).run P w with
    | ok n w' =>
      obtain ⟨u, rfl⟩ := hv P w n w' hr
      rw [hr] at h1
      obtain ⟨h2, h3⟩ := h1
      rw [h2, h3]
    | halt e w' => rw [hr] at h1; exact h1.elim
  · exact .inr ⟨hw, h⟩

/-- what is still to come comes in whatever order; behind each but the last one the class holds -/
def wpAnyD (P : Program) (md : Region.Mode) (ops : Array Oper) (Q : Exit → Act → World → Prop) (S : World → Prop) : Nat → Array Bool → Act → World → Prop
  | 0, done, a, w => Region.ready md ops done = [] ∧ Q .normal a w
  | fuel + 1, done, a, w =>
    (Region.ready md ops done = [] → Q .normal a w) ∧
    ∀ i ∈ Region.ready md ops done, wpOp P ops Q i (fun a' w' => ((∀ t, (done.setIfInBounds i true).getD t true = true) ∨ S w') ∧ wpAnyD P md ops Q S fuel (done.setIfInBounds i true) a' w') a w
theorem wpAny_of_D : ∀ (fuel : Nat) (done : Array Bool) (a : Act) (w : World), wpAnyD P md ops Q S fuel done a w → wpAny P md ops Q fuel done a w
  | 0, _, _, _, h => h
  | fuel + 1, _, _, _, h => ⟨h.1, fun i hi => wpOp_mono (fun a' w' h' => wpAny_of_D fuel _ a' w' h'.2) (h.2 i hi)⟩

/-- the marks agree with what waits for what -/
structure Marks4 (md : Region.Mode) (ops : Array Oper) (done : Array Bool) : Prop where
  size : done.size = ops.size
  closed : ∀ j oj, ops[j]? = some oj → done.getD j false = true → ∀ e ∈ oj.after, Region.binds md e = true → done.getD e.on false = true
theorem Marks4.set {i : Nat} {done : Array Bool} (h : Marks4 md ops done) (hi : i ∈ Region.ready md ops done) : Marks4 md ops (done.setIfInBounds i true) := by
  obtain ⟨_, oi, hoi, hall⟩ := mem_ready.1 hi
  refine ⟨by simp [h.size], fun j oj hj hl e he hb => ?_⟩
  by_cases hij : i = j
  · subst hij
    have : oj = oi := Option.some.inj (hj.symm.trans hoi)
    subst this
    exact getD_set_true (hall e he hb)
  · rw [getD_set_ne false hij] at hl
    exact getD_set_true (h.closed j oj hj hl e he hb)
/-- somebody waits for it -/
def awaited (md : Region.Mode) (ops : Array Oper) (i : Nat) : Bool := (List.range ops.size).any fun j => Region.waitsFor md ops j i

/-- if two may come now, and somebody waits for the first, they are not the last two -/
theorem not_last {i j : Nat} {done : Array Bool} (h : Marks4 md ops done) (ha : awaited md ops i = true) (hi : i ∈ Region.ready md ops done) (hj : j ∈ Region.ready md ops done) (hne : j ≠ i) :
    ¬ ∀ t, ((done.setIfInBounds i true).setIfInBounds j true).getD t true = true := by
  intro hall
  obtain ⟨k, hk, hw⟩ := List.any_eq_true.1 ha
  obtain ⟨ok, hok, e, he, hb, hon⟩ := Region.waitsFor_spec hw
  have hiu := (mem_ready.1 hi).1
  have hks : k < done.size := by rw [h.size]; exact List.mem_range.1 hk
  have hku : done.getD k true = false := by
    cases hd : done.getD k false with
    | true =>
      have := h.closed k ok hok hd e he hb
      rw [hon, getD_both hiu] at this
      cases this
    | false => exact getD_in hks hd
  have hki : k ≠ i := fun e' => by
    subst e'
    obtain ⟨_, oi, hoi, hal⟩ := mem_ready.1 hi
    rw [hok] at hoi
    have := hal e (by rw [← Option.some.inj hoi]; exact he) hb
    rw [hon, getD_both hiu] at this
    cases this
  have hkj : k ≠ j := fun e' => by
    subst e'
    obtain ⟨_, oj, hoj, hal⟩ := mem_ready.1 hj
    rw [hok] at hoj
    have := hal e (by rw [← Option.some.inj hoj]; exact he) hb
    rw [hon, getD_both hiu] at this
    cases this
  have h1 := hall k
  rw [getD_set_ne true (Ne.symm hkj), getD_set_ne true (Ne.symm hki), hku] at h1
  cases h1

theorem wpAnyD_first {i : Nat} {oi : Oper} {v : Value} (hi : ops[i]? = some oi) (hsel : ∀ (j : Nat) (o : Oper) cs b, ops[j]? = some o → o.op ≠ .select cs b) (haw : awaited md ops i = true)
    (hQ : ∀ c a w, Q (.panic c) (a.put oi.dst v) w → Q (.panic c) a w) :
    ∀ (fuel : Nat) (done : Array Bool) (a : Act) (w : World), Marks4 md ops done →
      (∀ j oj, ops[j]? = some oj → j ≠ i → done.getD j true = false → (∀ e ∈ oj.after, Region.binds md e = true → e.on ≠ i) → oi.apart ops oj = true) →
      i ∈ Region.ready md ops done → YieldsIf P ops S oi v a → S w →
      wpAnyD P md ops Q S fuel (done.setIfInBounds i true) (a.put oi.dst v) w → wpAnyD P md ops Q S (fuel + 1) done a w := by
  intro fuel
  induction fuel with
  | zero =>
    intro done a w _ _ hr hy hS H
    refine ⟨fun h => (by rw [h] at hr; cases hr), fun j hj => ?_⟩
    by_cases hji : j = i
    · subst hji; exact hy.wpOp hi hS ⟨.inr hS, H⟩
    · have := ready_mono hj hji
      rw [H.1] at this
      cases this
  | succ fuel ih =>
    intro done a w hM hfree hr hy hS H
    refine ⟨fun h => (by rw [h] at hr; cases hr), fun j hj => ?_⟩
    by_cases hji : j = i
    · subst hji; exact hy.wpOp hi hS ⟨.inr hS, H⟩
    · have h1 := H.2 j (ready_mono hj hji)
      obtain ⟨hjun, oj, hoj, hall⟩ := mem_ready.1 hj
      have hnot : ∀ e ∈ oj.after, Region.binds md e = true → e.on ≠ i := fun e he hb heq => by
        have h1 := hall e he hb
        rw [heq, getD_both (mem_ready.1 hr).1] at h1
        cases h1
      have h2 := wpOp_putIf hoj (hfree j oj hoj hji hjun hnot) (fun cs b => hsel i oi cs b hi) (fun cs b => hsel j oj cs b hoj) hQ hy h1
      have hfree' : ∀ k ok, ops[k]? = some ok → k ≠ i → (done.setIfInBounds j true).getD k true = false →
          (∀ e ∈ ok.after, Region.binds md e = true → e.on ≠ i) → oi.apart ops ok = true := fun k ok hk hki hun hno => by
        refine hfree k ok hk hki ?_ hno
        by_cases hjk : j = k
        · subst hjk; exact hjun
        · rw [getD_set_ne true hjk] at hun; exact hun
      refine wpOp_mono (fun a' w' h3 => ?_) h2
      have hS' : S w' := h3.2.1.resolve_left (not_last hM haw hr hj hji)
      refine ⟨.inr hS', ih (done.setIfInBounds j true) a' w' (hM.set hj) hfree' (ready_mono hr (Ne.symm hji)) h3.1 hS' ?_⟩
      rw [Array.setIfInBounds_comm _ _ hji]
      exact h3.2.2

/-- the tail, its last operation but within the class -/
def wpHeld (P : Program) (ops : Array Oper) (Q : Exit → Act → World → Prop) (S : World → Prop) : List Oper → Act → World → Prop
  | [], a, w => Q .normal a w
  | o :: rest, a, w =>
    if Region.wanted o (yielded ops a.tmps) then o.wp P a w (fun a' w' => (rest = [] ∨ S w') ∧ wpHeld P ops Q S rest a' w') Q ∨ (o.asks P a w ∧ LetsOut Q) else (rest = [] ∨ S w) ∧ wpHeld P ops Q S rest (a.put o.dst undef) w
theorem wpHeld_step {a : Act} {w : World} {o : Oper} {rest : List Oper} (hg : o.guard = none)
    (h : ∀ K : Act → World → Prop, RowKit.Hid (∀ a w, (rest = [] ∨ S w) → wpHeld P ops Q S rest a w → K a w) → Oper.wp P o a w K Q) : wpHeld P ops Q S (o :: rest) a w := by
  unfold wpHeld
  rw [if_pos (by simp [Region.wanted, hg])]
  exact .inl (h _ (Lib.hid (fun a w h1 h2 => ⟨h1, h2⟩)))
theorem wpHeld_last {a : Act} {w : World} {o : Oper} (h : wpList P ops Q [o] a w) : wpHeld P ops Q S [o] a w := by
  unfold wpHeld
  unfold wpList at h
  split
  · rename_i hw
    rw [if_pos hw] at h
    exact h.imp (Oper.wp_mono (fun a w h => ⟨.inl rfl, h⟩)) id
  · rename_i hw
    rw [if_neg hw] at h
    exact ⟨.inl rfl, h⟩

/-- at each point of the tail one operation may come -/
def seq4 (md : Region.Mode) (ops : Array Oper) : List Nat → Array Bool → Bool
  | [], done => (Region.ready md ops done).isEmpty && (List.range ops.size).all (fun t => done.getD t true)
  | k :: is, done => decide (k < ops.size) && decide (Region.ready md ops done = [k]) && seq4 md ops is (done.setIfInBounds k true)
theorem wpAnyD_of_seq4 {l : List Oper} : ∀ (is : List Nat) (done : Array Bool) (a : Act) (w : World), done.size = l.toArray.size → seq4 md l.toArray is done = true → wpHeld P l.toArray Q S (pick3 l is) a w → wpAnyD P md l.toArray Q S is.length done a w := by
  intro is
  induction is with
  | nil =>
    intro done a w _ hB h
    simp only [seq4, Bool.and_eq_true] at hB
    exact ⟨by simpa using hB.1, h⟩
  | cons k is ih =>
    intro done a w hsz hB h
    simp only [seq4, Bool.and_eq_true, decide_eq_true_eq] at hB
    obtain ⟨⟨hk, hr⟩, hB2⟩ := hB
    obtain ⟨o, h0⟩ : ∃ o, l[k]? = some o := ⟨_, List.getElem?_eq_getElem (by simpa using hk)⟩
    rw [pick3_cons h0] at h
    have h0' : l.toArray[k]? = some o := by simpa using h0
    refine ⟨fun h1 => by rw [hr] at h1; exact absurd h1 (List.cons_ne_nil _ _), fun i hi => ?_⟩
    rw [hr] at hi
    obtain rfl : i = k := by simpa using hi
    have hfin : is = [] → ∀ t, (done.setIfInBounds i true).getD t true = true := fun e t => by
      subst e
      simp only [seq4, Bool.and_eq_true] at hB2
      by_cases ht : t < l.toArray.size
      · exact List.all_eq_true.1 hB2.2 t (List.mem_range.2 ht)
      · have : ¬ t < (done.setIfInBounds i true).size := by rw [Array.size_setIfInBounds, hsz]; exact ht
        simp only [Array.getD_eq_getD_getElem?, Array.getElem?_eq_none (Nat.le_of_not_lt this)]
        rfl
    have hnil : ∀ is : List Nat, pick3 l is = [] → seq4 md l.toArray is (done.setIfInBounds i true) = true → is = [] := fun is hp hs => by
      cases is with
      | nil => rfl
      | cons k' is' =>
        simp only [seq4, Bool.and_eq_true, decide_eq_true_eq] at hs
        obtain ⟨o', ho'⟩ : ∃ o, l[k']? = some o := ⟨_, List.getElem?_eq_getElem (by simpa using hs.1.1)⟩
        rw [pick3_cons ho'] at hp
        cases hp
    have hK : ∀ a' w', ((pick3 l is = [] ∨ S w') ∧ wpHeld P l.toArray Q S (pick3 l is) a' w') → ((∀ t, (done.setIfInBounds i true).getD t true = true) ∨ S w') ∧ wpAnyD P md l.toArray Q S is.length (done.setIfInBounds i true) a' w' := fun a' w' h' =>
      ⟨h'.1.imp (fun e => hfin (hnil is e hB2)) id, ih _ a' w' (by rw [Array.size_setIfInBounds]; exact hsz) hB2 h'.2⟩
    unfold wpOp
    simp only [h0']
    unfold wpHeld at h
    split
    · rename_i hw
      rw [if_pos hw] at h
      exact h.imp (Oper.wp_mono hK) id
    · rename_i hw
      rw [if_neg hw] at h
      exact hK _ _ h

/-- those taken first, then the check of the tail -/
def pre4 (md : Region.Mode) (ops : Array Oper) (T : List Nat) : List Nat → Array Bool → Bool
  | [], done => seq4 md ops T done
  | k :: is, done => valB ops k && decide (k < ops.size) && awaited md ops k && (Region.ready md ops done).contains k && Region.free md ops done k && pre4 md ops T is (done.setIfInBounds k true)
def tail4 (md : Region.Mode) (ops : Array Oper) (F T : List Nat) : Bool :=
  Region.noSelect ops && decide (F.length + T.length = ops.size) && pre4 md ops T F (Array.replicate ops.size false)
theorem pre_anyD {l : List Oper} {T : List Nat} {w : World} (hsel : Region.noSelect l.toArray = true) (hQ : ∀ c tmps a w, Q (.panic c) { a with tmps := tmps } w → Q (.panic c) a w) (hS : S w) :
    ∀ (is : List Nat) (done : Array Bool) (a : Act), Marks4 md l.toArray done →
      pre4 md l.toArray T is done = true → wpQuiet P l.toArray S (fun a' => wpHeld P l.toArray Q S (pick3 l T) a' w) (pick3 l is) a → wpAnyD P md l.toArray Q S (is.length + T.length) done a w := by
  intro is
  induction is with
  | nil =>
    intro done a hM hB hq
    rw [List.length_nil, Nat.zero_add]
    exact wpAnyD_of_seq4 T done a w hM.size hB hq
  | cons k is ih =>
    intro done a hM hB hq
    simp only [pre4, Bool.and_eq_true, decide_eq_true_eq] at hB
    obtain ⟨⟨⟨⟨⟨hmv, hks⟩, haw⟩, hr⟩, hf⟩, hB'⟩ := hB
    obtain ⟨o, h0⟩ : ∃ o, l[k]? = some o := ⟨_, List.getElem?_eq_getElem (by simpa using hks)⟩
    have h0' : l.toArray[k]? = some o := by simpa using h0
    rw [pick3_cons h0] at hq
    have hr' : k ∈ Region.ready md l.toArray done := by simpa using hr
    have hq' : qOp P l.toArray S k (wpQuiet P l.toArray S (fun a' => wpHeld P l.toArray Q S (pick3 l T) a' w) (pick3 l is)) a := by unfold qOp; simp only [h0']; exact hq
    obtain ⟨v, hy, hK⟩ := yieldsIn_of_qOp h0' hq'
    rw [show (k :: is).length + T.length = (is.length + T.length) + 1 by simp; omega]
    exact wpAnyD_first h0' (Region.noSelect_spec hsel) haw (fun c a' w' h' => hQ c (a'.put o.dst v).tmps a' w' (by rw [put_tmps]; exact h')) (is.length + T.length) done a w hM (Region.free_spec h0' hf) hr' (yieldsIf_of_val h0' hmv hy) hS
      (ih _ _ (hM.set hr') hB' hK)

/-- THE REGION: F is taken first, then T; the class holds behind each of T but the last. -/
theorem wp_held_tail {id : Nat} {a : Act} {w : World} {l : List Oper} (C : World → Prop) (hC : C (w.drewN 1)) (F T : List Nat) (hm : P.follows .mixedOrders = true) (hB : tail4 .any l.toArray F T = true)
    (hQ : ∀ c tmps a w, Q (.panic c) { a with tmps := tmps } w → Q (.panic c) a w)
    (h : Nonempty (Cls C) → wpQuiet P l.toArray (fun w' => ∃ x : Cls C, w' = x.w) (fun a' => wpHeld P l.toArray Q (fun w' => ∃ x : Cls C, w' = x.w) (pick3 l T) a' (w.drewN 1)) (pick3 l F) a) :
    (Code.region id l.toArray true).wp P Q a w := by
  have h := h ⟨⟨_, hC⟩⟩
  simp only [tail4, Bool.and_eq_true, decide_eq_true_eq] at hB
  obtain ⟨⟨hsel, hlen⟩, hpre⟩ := hB
  have inv0 : Marks4 .any l.toArray (Array.replicate l.toArray.size false) :=
    ⟨by simp, fun j oj _ hl => by rw [getD_replicate_false] at hl; exact absurd hl (by decide)⟩
  have K := pre_anyD (P := P) (md := .any) (Q := Q) (T := T) (w := { w with drawn := w.drawn + 1 }) (S := fun w' => ∃ x : Cls C, w' = x.w) hsel hQ ⟨⟨_, hC⟩, rfl⟩ F _ a inv0 hpre h
  rw [hlen] at K
  exact wp_region_any hm (wpAny_of_D _ _ _ _ K)
end
end Go.Proofs.Ytgkejdjdccgjbaa
/- A region that draws its order: reads first, wherever they stand; then a call, beside which an alloc floats; then copies; then a tail in one forced order. Two walks serve every order: the alloc ahead of the call, and behind it.
   Conditions: the Bool over the region holds; each read is quiet in the class; the class holds behind each operation but the last. -/
namespace Go.Proofs.Ytgkejdjdccgjbaa
open Go

section
variable {P : Program} {ops : Array Oper} {md : Region.Mode} {S : World → Prop} {Q : Exit → Act → World → Prop}

/-- some operations in a row, the class behind each; then K -/
def wpHeldK (P : Program) (ops : Array Oper) (Q : Exit → Act → World → Prop) (S : World → Prop) (K : Act → World → Prop) : List Oper → Act → World → Prop
  | [], a, w => K a w
  | o :: rest, a, w =>
    if Region.wanted o (yielded ops a.tmps) then o.wp P a w (fun a' w' => S w' ∧ wpHeldK P ops Q S K rest a' w') Q ∨ (o.asks P a w ∧ LetsOut Q) else S w ∧ wpHeldK P ops Q S K rest (a.put o.dst undef) w
theorem wpHeldK_step {K : Act → World → Prop} {a : Act} {w : World} {o : Oper} {rest : List Oper} (hg : o.guard = none)
    (h : ∀ J : Act → World → Prop, RowKit.Hid (∀ a w, S w → wpHeldK P ops Q S K rest a w → J a w) → Oper.wp P o a w J Q) : wpHeldK P ops Q S K (o :: rest) a w := by
  unfold wpHeldK
  rw [if_pos (by simp [Region.wanted, hg])]
  exact .inl (h _ (Lib.hid (fun a w h1 h2 => ⟨h1, h2⟩)))
/-- one operation of a held tail by a law on lists -/
theorem wpHeld_list {o : Oper} {rest : List Oper} {a : Act} {w : World} (h : ∀ Q1 : Exit → Act → World → Prop, RowKit.Hid (∀ a w, (rest = [] ∨ S w) → wpHeld P ops Q S rest a w → Q1 .normal a w) → wpList P ops Q1 [o] a w) : wpHeld P ops Q S (o :: rest) a w := by
  have h1 := h (fun e a w => match e with | .normal => (rest = [] ∨ S w) ∧ wpHeld P ops Q S rest a w | e => Q e a w) (Lib.hid (fun a w k1 k2 => ⟨k1, k2⟩))
  unfold wpHeld
  unfold wpList at h1
  split
  · rename_i hw
    rw [if_pos hw] at h1
    exact h1
  · rename_i hw
    rw [if_neg hw] at h1
    exact h1
theorem wpQuiet_then {K : Act → World → Prop} {a : Act} {w : World} (h : K a w) : wpHeldK P ops Q S K [] a w := h
theorem op_of_heldK {K : Act → World → Prop} {a : Act} {w : World} {i : Nat} {o : Oper} {rest : List Oper} (h0 : ops[i]? = some o) (h : wpHeldK P ops Q S K (o :: rest) a w) : wpOp P ops Q i (fun a' w' => S w' ∧ wpHeldK P ops Q S K rest a' w') a w := by
  unfold wpOp
  simp only [h0]
  unfold wpHeldK at h
  exact h
theorem wpQuiet_imp {R R' : Act → Prop} (h : ∀ a, R a → R' a) : ∀ (l : List Oper) (a : Act), wpQuiet P ops S R l a → wpQuiet P ops S R' l a := by
  intro l
  induction l with
  | nil => intro a ha; exact h a ha
  | cons o rest ih =>
    intro a ha
    unfold wpQuiet at ha ⊢
    split
    · rename_i hw
      rw [if_pos hw] at ha
      obtain ⟨v, h1, h2⟩ := ha
      exact ⟨v, h1, ih _ h2⟩
    · rename_i hw
      rw [if_neg hw] at ha
      exact ih _ ha
/-- marked, one behind the other -/
def markAll : List Nat → Array Bool → Array Bool
  | [], done => done
  | k :: is, done => markAll is (done.setIfInBounds k true)
def pre5 (md : Region.Mode) (ops : Array Oper) : List Nat → Array Bool → Bool
  | [], _ => true
  | k :: is, done => valB ops k && decide (k < ops.size) && awaited md ops k && (Region.ready md ops done).contains k && Region.free md ops done k && pre5 md ops is (done.setIfInBounds k true)
theorem marks_all : ∀ (is : List Nat) (done : Array Bool), Marks4 md ops done → pre5 md ops is done = true → Marks4 md ops (markAll is done) := by
  intro is
  induction is with
  | nil => intro done h _; exact h
  | cons k is ih =>
    intro done h hB
    simp only [pre5, Bool.and_eq_true, decide_eq_true_eq] at hB
    exact ih _ (h.set (by simpa using hB.1.1.2)) hB.2
theorem pre_anyD2 {l : List Oper} {w : World} {m : Nat} (hsel : Region.noSelect l.toArray = true) (hQ : ∀ c tmps a w, Q (.panic c) { a with tmps := tmps } w → Q (.panic c) a w) (hS : S w) :
    ∀ (is : List Nat) (done : Array Bool) (a : Act), Marks4 md l.toArray done →
      pre5 md l.toArray is done = true → wpQuiet P l.toArray S (fun a' => wpAnyD P md l.toArray Q S m (markAll is done) a' w) (pick3 l is) a → wpAnyD P md l.toArray Q S (is.length + m) done a w := by
  intro is
  induction is with
  | nil =>
    intro done a _ _ hq
    rw [List.length_nil, Nat.zero_add]
    exact hq
  | cons k is ih =>
    intro done a hM hB hq
    simp only [pre5, Bool.and_eq_true, decide_eq_true_eq] at hB
    obtain ⟨⟨⟨⟨⟨hmv, hks⟩, haw⟩, hr⟩, hf⟩, hB'⟩ := hB
    obtain ⟨o, h0⟩ : ∃ o, l[k]? = some o := ⟨_, List.getElem?_eq_getElem (by simpa using hks)⟩
    have h0' : l.toArray[k]? = some o := by simpa using h0
    rw [pick3_cons h0] at hq
    have hr' : k ∈ Region.ready md l.toArray done := by simpa using hr
    have hq' : qOp P l.toArray S k (wpQuiet P l.toArray S (fun a' => wpAnyD P md l.toArray Q S m (markAll (k :: is) done) a' w) (pick3 l is)) a := by unfold qOp; simp only [h0']; exact hq
    obtain ⟨v, hy, hK⟩ := yieldsIn_of_qOp h0' hq'
    rw [show (k :: is).length + m = (is.length + m) + 1 by simp; omega]
    exact wpAnyD_first h0' (Region.noSelect_spec hsel) haw (fun c a' w' h' => hQ c (a'.put o.dst v).tmps a' w' (by rw [put_tmps]; exact h')) (is.length + m) done a w hM (Region.free_spec h0' hf) hr' (yieldsIf_of_val h0' hmv hy) hS
      (ih _ _ (hM.set hr') hB' hK)

def new5 (md : Region.Mode) (ops : Array Oper) (F : List Nat) (k al : Nat) (P2 T2 : List Nat) : Bool :=
  Region.noSelect ops && decide (F.length + (P2.length + T2.length + 2) = ops.size) && pre5 md ops F (Array.replicate ops.size false) && decide (k < ops.size) && decide (al < ops.size) &&
  decide (Region.ready md ops (markAll F (Array.replicate ops.size false)) = [k, al]) &&
  decide (Region.ready md ops ((markAll F (Array.replicate ops.size false)).setIfInBounds al true) = [k]) &&
  pre4 md ops T2 P2 (((markAll F (Array.replicate ops.size false)).setIfInBounds al true).setIfInBounds k true) &&
  pre4 md ops (al :: T2) P2 ((markAll F (Array.replicate ops.size false)).setIfInBounds k true)

/-- THE REGION: F is taken first; then the call and the alloc, in either order; then P2 and T2. -/
theorem wp_new_call {id : Nat} {a : Act} {w : World} {l : List Oper} (C : World → Prop) (hC : C (w.drewN 1)) (F : List Nat) (k al : Nat) (P2 T2 : List Nat) (hm : P.follows .mixedOrders = true) (hB : new5 .any l.toArray F k al P2 T2 = true)
    (hQ : ∀ c tmps a w, Q (.panic c) { a with tmps := tmps } w → Q (.panic c) a w)
    (h : Nonempty (Cls C) → wpQuiet P l.toArray (fun w' => ∃ x : Cls C, w' = x.w) (fun a' =>
      wpHeldK P l.toArray Q (fun w' => ∃ x : Cls C, w' = x.w) (fun a2 w2 => wpQuiet P l.toArray (fun w' => ∃ x : Cls C, w' = x.w) (fun a3 => wpHeld P l.toArray Q (fun w' => ∃ x : Cls C, w' = x.w) (pick3 l T2) a3 w2) (pick3 l P2) a2) (pick3 l [al, k]) a' (w.drewN 1) ∧
      wpHeldK P l.toArray Q (fun w' => ∃ x : Cls C, w' = x.w) (fun a2 w2 => wpQuiet P l.toArray (fun w' => ∃ x : Cls C, w' = x.w) (fun a3 => wpHeld P l.toArray Q (fun w' => ∃ x : Cls C, w' = x.w) (pick3 l (al :: T2)) a3 w2) (pick3 l P2) a2) (pick3 l [k]) a' (w.drewN 1)) (pick3 l F) a) :
    (Code.region id l.toArray true).wp P Q a w := by
  have h := h ⟨⟨_, hC⟩⟩
  simp only [new5, Bool.and_eq_true, decide_eq_true_eq] at hB
  obtain ⟨⟨⟨⟨⟨⟨⟨⟨hsel, hlen⟩, hpre⟩, hk⟩, hal⟩, hr0⟩, hr1⟩, hp1⟩, hp2⟩ := hB
  have inv0 : Marks4 .any l.toArray (Array.replicate l.toArray.size false) :=
    ⟨by simp, fun j oj _ hl => by rw [getD_replicate_false] at hl; exact absurd hl (by decide)⟩
  have inv1 := marks_all F _ inv0 hpre
  obtain ⟨ok, h0⟩ : ∃ o, l[k]? = some o := ⟨_, List.getElem?_eq_getElem (by simpa using hk)⟩
  have h0' : l.toArray[k]? = some ok := by simpa using h0
  obtain ⟨oa, g0⟩ : ∃ o, l[al]? = some o := ⟨_, List.getElem?_eq_getElem (by simpa using hal)⟩
  have g0' : l.toArray[al]? = some oa := by simpa using g0
  have mk : k ∈ Region.ready .any l.toArray (markAll F (Array.replicate l.toArray.size false)) := by rw [hr0]; simp
  have ma : al ∈ Region.ready .any l.toArray (markAll F (Array.replicate l.toArray.size false)) := by rw [hr0]; simp
  have mk2 : k ∈ Region.ready .any l.toArray ((markAll F (Array.replicate l.toArray.size false)).setIfInBounds al true) := by rw [hr1]; simp
  refine wp_region_any hm ?_
  have key := pre_anyD2 (P := P) (md := .any) (Q := Q) (m := P2.length + T2.length + 2) (w := { w with drawn := w.drawn + 1 }) (S := fun w' => ∃ x : Cls C, w' = x.w) hsel hQ ⟨⟨_, hC⟩, rfl⟩ F _ a inv0 hpre (wpQuiet_imp (fun a' ha' => ?_) _ _ h)
  · rw [hlen] at key
    exact wpAny_of_D _ _ _ _ key
  obtain ⟨G1, G2⟩ := ha'
  rw [pick3_cons g0, pick3_cons h0] at G1
  rw [pick3_cons h0] at G2
  refine ⟨fun hn => (by rw [hr0] at hn; cases hn), fun i hi => ?_⟩
  rw [hr0] at hi
  rcases List.mem_cons.1 hi with rfl | hi
  · refine wpOp_mono (fun a2 w2 h2 => ⟨.inr h2.1, ?_⟩) (op_of_heldK h0' G2)
    have h3 : wpQuiet P l.toArray (fun w' => ∃ x : Cls C, w' = x.w) (fun a3 => wpHeld P l.toArray Q (fun w' => ∃ x : Cls C, w' = x.w) (pick3 l (al :: T2)) a3 w2) (pick3 l P2) a2 := h2.2
    have := pre_anyD (P := P) (md := .any) (Q := Q) (T := al :: T2) (w := w2) hsel hQ h2.1 P2 _ a2 (inv1.set mk) hp2 h3
    rw [show P2.length + (al :: T2).length = P2.length + T2.length + 1 by simp; omega] at this
    exact this
  · obtain rfl : i = al := by simpa using hi
    refine wpOp_mono (fun a2 w2 h2 => ⟨.inr h2.1, ?_⟩) (op_of_heldK g0' G1)
    refine ⟨fun hn => (by rw [hr1] at hn; cases hn), fun j hj => ?_⟩
    rw [hr1] at hj
    obtain rfl : j = k := by simpa using hj
    refine wpOp_mono (fun a3 w3 h3 => ⟨.inr h3.1, ?_⟩) (op_of_heldK h0' h2.2)
    have h4 : wpQuiet P l.toArray (fun w' => ∃ x : Cls C, w' = x.w) (fun a3 => wpHeld P l.toArray Q (fun w' => ∃ x : Cls C, w' = x.w) (pick3 l T2) a3 w3) (pick3 l P2) a3 := h3.2
    exact pre_anyD (P := P) (md := .any) (Q := Q) (T := T2) (w := w3) hsel hQ h3.1 P2 _ a3 ((inv1.set ma).set mk2) hp1 h4
end
end Go.Proofs.Ytgkejdjdccgjbaa
/- A law: a drawn region walked by a script: what only gives a value is taken first, what may come up beside it is parted. Conditions: the marks that the kernel decides. -/
namespace Go.Proofs.Ytgkejdjdccgjbaa
open Go Go.RowKit
set_option maxHeartbeats 400000
/-- How a region is walked: operations that give a value are taken first; one comes up alone; two may come up; a smaller class of worlds from here on; a forced tail. -/
inductive Scr where
  | take (is : List Nat) (s : Scr)
  | one (k : Nat) (s : Scr)
  | fork (k al : Nat) (s1 s2 : Scr)
  | narrow (s : Scr)
  | last (T : List Nat)
section
variable {P : Program} {Q : Exit → Act → World → Prop}
def Scr.ok (md : Region.Mode) (ops : Array Oper) : Scr → Nat → Array Bool → Bool
  | .take is s, n, done => decide (is.length ≤ n) && pre5 md ops is done && Scr.ok md ops s (n - is.length) (markAll is done)
  | .one k s, n, done => decide (1 ≤ n) && decide (k < ops.size) && decide (Region.ready md ops done = [k]) && Scr.ok md ops s (n - 1) (done.setIfInBounds k true)
  | .fork k al s1 s2, n, done => decide (1 ≤ n) && decide (k < ops.size) && decide (al < ops.size) && decide (Region.ready md ops done = [k, al]) && Scr.ok md ops s1 (n - 1) (done.setIfInBounds k true) && Scr.ok md ops s2 (n - 1) (done.setIfInBounds al true)
  | .narrow s, n, done => Scr.ok md ops s n done
  | .last T, n, done => decide (T.length = n) && decide (done.size = ops.size) && seq4 md ops T done
def wpS (P : Program) (l : List Oper) (Q : Exit → Act → World → Prop) : Scr → (World → Prop) → Act → World → Prop
  | .take is s, S, a, w => wpQuiet P l.toArray S (fun a' => wpS P l Q s S a' w) (pick3 l is) a
  | .one k s, S, a, w => wpHeldK P l.toArray Q S (fun a' w' => wpS P l Q s S a' w') (pick3 l [k]) a w
  | .fork k al s1 s2, S, a, w => wpHeldK P l.toArray Q S (fun a' w' => wpS P l Q s1 S a' w') (pick3 l [k]) a w ∧ wpHeldK P l.toArray Q S (fun a' w' => wpS P l Q s2 S a' w') (pick3 l [al]) a w
  | .narrow s, S, a, w => ∃ S' : World → Prop, (∀ w', S' w' → S w') ∧ S' w ∧ wpS P l Q s S' a w
  | .last T, S, a, w => wpHeld P l.toArray Q S (pick3 l T) a w
theorem wpAnyD_imp {md : Region.Mode} {ops : Array Oper} {S S' : World → Prop} (hi : ∀ w, S' w → S w) : ∀ (n : Nat) (done : Array Bool) (a : Act) (w : World), wpAnyD P md ops Q S' n done a w → wpAnyD P md ops Q S n done a w
  | 0, _, _, _, h => h
  | _ + 1, _, _, _, h => ⟨h.1, fun i hj => wpOp_mono (fun a' w' h' => ⟨h'.1.imp id (hi w'), wpAnyD_imp hi _ _ a' w' h'.2⟩) (h.2 i hj)⟩
theorem scr_any {l : List Oper} (hsel : Region.noSelect l.toArray = true) (hQ : ∀ c tmps a w, Q (.panic c) { a with tmps := tmps } w → Q (.panic c) a w) :
    ∀ (s : Scr) (S : World → Prop) (n : Nat) (done : Array Bool) (a : Act) (w : World), Marks4 .any l.toArray done → S w → s.ok .any l.toArray n done = true → wpS P l Q s S a w → wpAnyD P .any l.toArray Q S n done a w
  | .take is s, S, n, done, a, w, hM, hS, hB, h => by
    simp only [Scr.ok, Bool.and_eq_true, decide_eq_true_eq] at hB
    obtain ⟨⟨hn, hp⟩, hB⟩ := hB
    have := pre_anyD2 (P := P) (md := .any) (Q := Q) (S := S) (m := n - is.length) (w := w) hsel hQ hS is done a hM hp (wpQuiet_imp (fun a' ha' => scr_any hsel hQ s S _ _ _ _ (marks_all is _ hM hp) hS hB ha') _ _ h)
    rwa [show is.length + (n - is.length) = n by omega] at this
  | .one k s, S, n, done, a, w, hM, hS, hB, h => by
    simp only [Scr.ok, Bool.and_eq_true, decide_eq_true_eq] at hB
    obtain ⟨⟨⟨hn, hk⟩, hr⟩, hB⟩ := hB
    obtain ⟨n, rfl⟩ : ∃ m, n = m + 1 := ⟨n - 1, by omega⟩
    obtain ⟨ok, h0⟩ : ∃ o, l[k]? = some o := ⟨_, List.getElem?_eq_getElem (by simpa using hk)⟩
    have h0' : l.toArray[k]? = some ok := by simpa using h0
    have mk : k ∈ Region.ready .any l.toArray done := by rw [hr]; simp
    have h1 : wpHeldK P l.toArray Q S (fun a' w' => wpS P l Q s S a' w') (pick3 l [k]) a w := h
    rw [pick3_cons h0] at h1
    refine ⟨fun hn => (by rw [hr] at hn; cases hn), fun i hi => ?_⟩
    rw [hr] at hi
    obtain rfl : i = k := by simpa using hi
    exact wpOp_mono (fun a2 w2 h2 => ⟨.inr h2.1, scr_any hsel hQ s S n _ a2 w2 (hM.set mk) h2.1 hB h2.2⟩) (op_of_heldK h0' h1)
  | .fork k al s1 s2, S, n, done, a, w, hM, hS, hB, h => by
    simp only [Scr.ok, Bool.and_eq_true, decide_eq_true_eq] at hB
    obtain ⟨⟨⟨⟨⟨hn, hk⟩, hal⟩, hr⟩, hB1⟩, hB2⟩ := hB
    obtain ⟨n, rfl⟩ : ∃ m, n = m + 1 := ⟨n - 1, by omega⟩
    obtain ⟨ok, h0⟩ : ∃ o, l[k]? = some o := ⟨_, List.getElem?_eq_getElem (by simpa using hk)⟩
    have h0' : l.toArray[k]? = some ok := by simpa using h0
    obtain ⟨oa, g0⟩ : ∃ o, l[al]? = some o := ⟨_, List.getElem?_eq_getElem (by simpa using hal)⟩
    have g0' : l.toArray[al]? = some oa := by simpa using g0
    have mk : k ∈ Region.ready .any l.toArray done := by rw [hr]; simp
    have ma : al ∈ Region.ready .any l.toArray done := by rw [hr]; simp
    have h1 : wpHeldK P l.toArray Q S (fun a' w' => wpS P l Q s1 S a' w') (pick3 l [k]) a w := h.1
    have h2 : wpHeldK P l.toArray Q S (fun a' w' => wpS P l Q s2 S a' w') (pick3 l [al]) a w := h.2
    rw [pick3_cons h0] at h1
    rw [pick3_cons g0] at h2
    refine ⟨fun hn => (by rw [hr] at hn; cases hn), fun i hi => ?_⟩
    rw [hr] at hi
    rcases List.mem_cons.1 hi with rfl | hi
    · exact wpOp_mono (fun a2 w2 h3 => ⟨.inr h3.1, scr_any hsel hQ s1 S n _ a2 w2 (hM.set mk) h3.1 hB1 h3.2⟩) (op_of_heldK h0' h1)
    · obtain rfl : i = al := by simpa using hi
      exact wpOp_mono (fun a2 w2 h3 => ⟨.inr h3.1, scr_any hsel hQ s2 S n _ a2 w2 (hM.set ma) h3.1 hB2 h3.2⟩) (op_of_heldK g0' h2)
  | .narrow s, S, n, done, a, w, hM, _, hB, h => by
    obtain ⟨S', h1, h2, h3⟩ := h
    exact wpAnyD_imp h1 _ _ _ _ (scr_any hsel hQ s S' n done a w hM h2 hB h3)
  | .last T, S, n, done, a, w, hM, hS, hB, h => by
    simp only [Scr.ok, Bool.and_eq_true, decide_eq_true_eq] at hB
    obtain ⟨⟨rfl, hsz⟩, hB⟩ := hB
    exact wpAnyD_of_seq4 T done a w hsz hB h
theorem wpS_take {l : List Oper} {is : List Nat} {s : Scr} {S : World → Prop} {a : Act} {w : World} (h : wpQuiet P l.toArray S (fun a' => wpS P l Q s S a' w) (pick3 l is) a) : wpS P l Q (.take is s) S a w := h
theorem wpS_one {l : List Oper} {k : Nat} {s : Scr} {S : World → Prop} {a : Act} {w : World} (h : wpHeldK P l.toArray Q S (fun a' w' => wpS P l Q s S a' w') (pick3 l [k]) a w) : wpS P l Q (.one k s) S a w := h
theorem wpS_fork {l : List Oper} {k al : Nat} {s1 s2 : Scr} {S : World → Prop} {a : Act} {w : World} (h1 : wpHeldK P l.toArray Q S (fun a' w' => wpS P l Q s1 S a' w') (pick3 l [k]) a w) (h2 : wpHeldK P l.toArray Q S (fun a' w' => wpS P l Q s2 S a' w') (pick3 l [al]) a w) : wpS P l Q (.fork k al s1 s2) S a w := ⟨h1, h2⟩
theorem wpS_narrow {l : List Oper} {s : Scr} {S : World → Prop} {a : Act} {w : World} (C : World → Prop) (hi : ∀ w', C w' → S w') (hw : C w) (h : wpS P l Q s (fun w' => ∃ x : Cls C, w' = x.w) a w) : wpS P l Q (.narrow s) S a w :=
  ⟨fun w' => ∃ x : Cls C, w' = x.w, fun w' ⟨x, e⟩ => by rw [e]; exact hi _ x.h, ⟨⟨w, hw⟩, rfl⟩, h⟩
theorem wpS_last {l : List Oper} {T : List Nat} {S : World → Prop} {a : Act} {w : World} (h : wpHeld P l.toArray Q S (pick3 l T) a w) : wpS P l Q (.last T) S a w := h
/-- THE REGION, by a script. -/
theorem wp_script {id : Nat} {a : Act} {w : World} {l : List Oper} (C : World → Prop) (hC : C (w.drewN 1)) (s : Scr) (hm : P.follows .mixedOrders = true)
    (hB : (Region.noSelect l.toArray && s.ok .any l.toArray l.toArray.size (Array.replicate l.toArray.size false)) = true)
    (hQ : ∀ c tmps a w, Q (.panic c) { a with tmps := tmps } w → Q (.panic c) a w)
    (h : Nonempty (Cls C) → wpS P l Q s (fun w' => ∃ x : Cls C, w' = x.w) a (w.drewN 1)) : (Code.region id l.toArray true).wp P Q a w := by
  have h := h ⟨⟨_, hC⟩⟩
  rw [Bool.and_eq_true] at hB
  have inv0 : Marks4 .any l.toArray (Array.replicate l.toArray.size false) :=
    ⟨by simp, fun j oj _ hl => by rw [getD_replicate_false] at hl; exact absurd hl (by decide)⟩
  refine wp_region_any hm ?_
  exact wpAny_of_D _ _ _ _ (scr_any hB.1 hQ s _ _ _ a _ inv0 ⟨⟨_, hC⟩, rfl⟩ hB.2 h)
end
end Go.Proofs.Ytgkejdjdccgjbaa
/- The document's numbers as bytes (louverref01.Num, louverref09.four). Conditions: the number fits its type; one to eight bytes. -/
namespace Go.Proofs.Ytgkejdjdccgjbaa
open Go Go.RowKit
set_option maxHeartbeats 400000
theorem cellN_lt {w : World} {b o : Nat} {v : Value} (h : w.cell? ⟨b, o, none⟩ = some v) : b < w.heap.size := by
  rcases Nat.lt_or_ge b w.heap.size with h1 | h1
  · exact h1
  · simp [World.cell?, Array.getElem?_eq_none h1] at h
theorem strOf_app (a b : List Int) : strOfNums a ++ strOfNums b = strOfNums (a ++ b) := by
  unfold strOfNums
  rw [List.map_append]
  apply ByteArray.ext
  simp [ByteArray.data_append]
theorem str_add (a b : List Int) (h : a.length + b.length ≤ 9223372036854775807) (z : World) : (Op.stringOp .add (strOfNums a) (strOfNums b)).run Try.prog z = .ok (.string (strOfNums (a ++ b))) z := by
  rw [← strOf_app]
  exact run_string_add_sum (P := Try.prog) (w := z) (strOfNums a) (strOfNums b) (by rw [strOfNums_size, strOfNums_size]; exact h)
theorem be_cons (x : Int) (n : Nat) : be x (n + 1) = (x / 2 ^ (8 * n) % 256) :: be x n := by
  unfold be
  rw [List.range_succ_eq_map, List.map_cons, List.map_map]
  congr 1
  refine List.map_congr_left fun i hi => ?_
  simp only [Function.comp_apply]
  rw [show n + 1 - 1 - (i + 1) = n - 1 - i by omega]
theorem be_zero0 (x : Int) : be x 0 = [] := rfl
theorem shift_succ (x : Int) (i : Nat) : x / 2 ^ (8 * i) / 256 = x / 2 ^ (8 * (i + 1)) := by
  rw [Int.ediv_ediv_of_nonneg (Int.le_of_lt (Int.pow_pos (by decide)))]
  congr 1
  rw [show 8 * (i + 1) = 8 * i + 8 by omega, Int.pow_add]
  rfl
theorem str_one {w : World} {g : Nat} {x : Int} (h : Blk w g 5 #[.int .u8 x]) : (convert 25 9 (.slice (some ⟨g, 0, none⟩) 1 1)).run Try.prog w = .ok (.string (strOfNums [x])) w :=
  run_convert_bytes_arg w _ 5 Try.underlying25 Try.underlying5 g 0 _ 1 [x] rfl (fun i hi => by
    obtain rfl : i = 0 := by simpa using hi
    exact h.cell 0) _ Try.underlying9
theorem go_tmod (x : Int) (h : 0 ≤ x) : x.tmod 256 = x % 256 := by rw [Int.tmod_eq_emod_of_nonneg h]
theorem go_tdiv (x : Int) (h : 0 ≤ x) : x.tdiv 256 = x / 256 := by rw [Int.tdiv_eq_ediv_of_nonneg h]
set_option maxRecDepth 100000 in
theorem dnum_any (w : World) (x : Int) (n : Nat) (hx : 0 ≤ x ∧ x ≤ 18446744073709551615) (h1 : 1 ≤ n) (h8 : n ≤ 8) :
    Calls Try.prog 37 #[.int .u64 x, .int .i64 n] w fun e w' => e = .returned (.string (strOfNums (be x n))) ∧ Upd [] w w' := by
  have HX := Lib.hid hx
  have k1 : ¬ ((n : Int) < 1) := by omega
  have k2 : ¬ ((8 : Int) < (n : Int)) := by omega
  clear hx
  go_enter Try.func37, Try.ntmps37
  go_wp2
  go_loopg [0, 5, 6] n (fun gk x0 x5 x6 wr => ∃ i : Nat, i ≤ n ∧ n ≤ i + gk ∧ x6 = .int .i64 i ∧ x5 = .string (strOfNums (be x i)) ∧ x0 = .int .u64 (x / 2 ^ (8 * i)) ∧ Upd [] w wr)
  case atStart => exact ⟨0, Nat.zero_le _, by omega, rfl, rfl, by simp, Upd.refl _ _⟩
  case round =>
    obtain ⟨i, hi, hgi, rfl, rfl, rfl, hu⟩ := hrel
    by_cases hlt : i < n
    · have hlti : (i : Int) < (n : Int) := by omega
      have hwi : IntKind.i64.wrap ((i : Int) + 1) = (i : Int) + 1 := IntWalk.i64_in _ (by omega)
      obtain ⟨y, hy⟩ : ∃ y, y = x / 2 ^ (8 * i) := ⟨_, rfl⟩
      have hy0 : 0 ≤ y := by rw [hy]; exact Int.ediv_nonneg HX.out.1 (Int.le_of_lt (Int.pow_pos (by decide)))
      have hyl : y ≤ 18446744073709551615 := by rw [hy]; exact Int.le_trans (Int.ediv_le_self _ HX.out.1) HX.out.2
      have HS := Lib.hid (shift_succ x i)
      have HB := Lib.hid (be_cons x i)
      rw [← hy] at HS HB ⊢
      obtain ⟨bs, hbs⟩ : ∃ l, l = be x i := ⟨_, rfl⟩
      have HL : Hid (bs.length = i) := Lib.hid (by rw [hbs, be_length])
      rw [← hbs] at HB ⊢
      have h256 := go_tmod y hy0
      have hq256 := go_tdiv y hy0
      obtain ⟨z, hz⟩ : ∃ z, z = y % 256 := ⟨_, rfl⟩
      have hz0 : 0 ≤ z ∧ z ≤ 255 := by omega
      have hwz : IntKind.u8.wrap z = z := by unfold IntKind.wrap; simp [IntKind.bits, IntKind.signed]; omega
      obtain ⟨yq, hyq⟩ : ∃ q, q = y / 256 := ⟨_, rfl⟩
      have hyq0 : 0 ≤ yq ∧ yq ≤ 18446744073709551615 := by omega
      rw [← hz] at h256 HB
      rw [← hyq] at hq256 HS
      obtain ⟨G, hG⟩ : ∃ G, G = wr.heap.size := ⟨_, rfl⟩
      obtain ⟨W, hW⟩ : ∃ W, W = wr.alloc (.cells #[.int .u8 z] 5) := ⟨_, rfl⟩
      have hcv := str_one (w := W) (g := G) (x := z) (by rw [hW, hG]; exact Blk.new _ _ _)
      have hu2 : Upd [] w W := hu.next (by rw [hW]; exact (Upd.refl [] wr).alloc _)
      have hadd := run_string_add_sum (P := Try.prog) (w := W) (strOfNums [z]) (strOfNums bs) (by rw [strOfNums_size, strOfNums_size, HL.out]; simp; omega)
      rw [strOf_app, List.singleton_append, ← HB.out] at hadd
      rw [hW] at hcv hadd
      rw [hG] at hcv
      have HU2 := Lib.hid hu2
      have HW := Lib.hid hW
      clear hbs hy hz hyq hu hu2 hG hW
      go_wp2
      go_roundg (gk - 1)
      case measure => omega
      case rel => exact ⟨i + 1, by omega, by omega, by go_num, rfl, by rw [HS.out], by rw [← HW.out]; exact HU2.out⟩
    · obtain rfl : i = n := by omega
      have HU := Lib.hid hu
      clear hu
      go_wp2
      go_ret
      exact ⟨rfl, HU.out⟩
set_option maxRecDepth 100000 in
theorem dfour_any (w : World) (x : Int) (hx : 0 ≤ x ∧ x ≤ 4294967295) :
    Calls Try.prog 36 #[.int .u32 x] w fun e w' => e = .returned (.string (strOfNums (be x 4))) ∧ Upd [] w w' := by
  have hc : IntKind.u64.wrap x = x := by unfold IntKind.wrap; simp [IntKind.bits, IntKind.signed]; omega
  have HN := Lib.hid (fun w => dnum_any w x 4 ⟨by omega, by omega⟩ (by decide) (by decide))
  clear hx
  go_enter Try.func36, Try.ntmps36
  go_wp2_with fail
  refine (HN.out _).mono ?_
  rintro _ w1 ⟨rfl, hu⟩
  clear HN
  go_wp2
  go_ret
  exact ⟨rfl, hu⟩
end Go.Proofs.Ytgkejdjdccgjbaa
/- octet's Cut: Num. Conditions: sizes of 1 to 8; bytes. -/
namespace Go.Proofs.Ytgkejdjdccgjbaa
open Go Go.RowKit
set_option maxHeartbeats 400000

def numOf (bs : List Int) : Int := bs.foldl (fun x b => x * 256 + b) 0
theorem numOf_snoc (bs : List Int) (b : Int) : numOf (bs ++ [b]) = numOf bs * 256 + b := by simp [numOf]
def Byt (bs : List Int) : Prop := ∀ b, b ∈ bs → 0 ≤ b ∧ b ≤ 255
theorem numOf_lt (bs : List Int) (h : Byt bs) : 0 ≤ numOf bs ∧ numOf bs < 256 ^ bs.length := by
  suffices ∀ (n : Nat) (bs : List Int), bs.length = n → Byt bs → 0 ≤ numOf bs ∧ numOf bs < 256 ^ bs.length from this _ bs rfl h
  intro n
  induction n with
  | zero =>
    intro bs hl _
    obtain rfl := List.eq_nil_of_length_eq_zero hl
    simp [numOf]
  | succ n ih =>
    intro bs hl hb
    have hne : bs ≠ [] := by intro e; subst e; simp at hl
    have e := List.dropLast_concat_getLast hne
    have hd := ih bs.dropLast (by simp; omega) (fun b hm => hb b (List.dropLast_subset _ hm))
    have hx := hb (bs.getLast hne) (List.getLast_mem hne)
    rw [← e, numOf_snoc, List.length_append, List.length_singleton, Int.pow_succ]
    omega

theorem pow256 {a b : Nat} (h : a ≤ b) : (256 : Int) ^ a ≤ 256 ^ b := by
  have h2 := Int.ofNat_le.2 (Nat.pow_le_pow_right (n := 256) (by decide) h)
  rw [Int.natCast_pow, Int.natCast_pow] at h2
  exact h2
theorem or_byte (y x : Int) (h0 : 0 ≤ y) (h1 : y < 72057594037927936) (h2 : 0 ≤ x) (h3 : x ≤ 255) : bits .or .u64 (y * 256) x = y * 256 + x := by
  obtain ⟨a, rfl⟩ : ∃ a : Nat, y = a := ⟨y.toNat, by omega⟩
  obtain ⟨b, rfl⟩ : ∃ b : Nat, x = b := ⟨x.toNat, by omega⟩
  have e : 256 * a ||| b = 256 * a + b := (Nat.two_pow_add_eq_or_of_lt (i := 8) (by omega) a).symm
  rw [show (a : Int) * 256 = ((256 * a : Nat) : Int) by omega, u64_or_nat _ _ (by omega) (by omega), e]
  omega

section
variable {w w' : World} {c lo : Nat} {r : Rw} {er : Int}
set_option maxRecDepth 100000 in
theorem num_yes (h : CutIs w c lo r 0) (n : Nat) (h1 : 1 ≤ n) (h8 : n ≤ 8) (hn : n ≤ r.xs.length) (hb : Byt r.xs) : Calls Try.prog 44 #[.pointer (some ⟨c, 0, none⟩), .int .i64 n] w fun e w' => ∃ r', e = .returned (.int .u64 (numOf (r.xs.take n))) ∧ r'.xs = r.xs.drop n ∧ CutIs w' c lo r' 0 ∧ (∀ a, r'.A = some a → ∃ a0, r.A = some a0 ∧ a0.block = a.block) ∧ Upd [c] w w' := by
  have HM := Lib.hid (may_any n w h1 h8)
  have HC := Lib.hid (take_yes h n hn)
  have HBY : Hid (Byt (r.xs.take n)) := fun b hm => hb b (List.mem_of_mem_take hm)
  have hl : (r.xs.take n).length = n := by rw [List.length_take]; omega
  generalize r.xs.take n = bs at HC HBY hl ⊢
  clear h hn hb
  go_enter Try.func44, Try.ntmps44
  go_wp2_with fail
  refine HM.out.mono ?_
  rintro e w1 ⟨rfl, rfl⟩
  go_wp2_with fail
  refine HC.out.mono ?_
  rintro e w1 ⟨q, r', rfl, hq1, hq2, hq3, hq4, hq5, hq6, hqk, hq7⟩
  have hql : q.xs.length = n := by rw [hq1, hl]
  obtain ⟨b, off, hA, _, hbl, hcc⟩ := hq4.at (by omega)
  rw [hq1] at hcc
  unfold encR
  rw [hql]
  have HR := Lib.hid hq3
  have HC6 := Lib.hid hq6
  have HU := Lib.hid (And.intro hqk hq7)
  have HCC := Lib.hid hcc
  obtain ⟨qA, qc, qx⟩ := q
  dsimp only at hA hq2 ⊢
  subst hA
  subst hq2
  have HL := Lib.hid hl
  clear hq1 hq3 hq4 hq5 hq6 hqk hq7 hql hcc HC HM hl
  go_wp2
  go_loopg [5, 14] qc (fun gk x5 x14 wr => ∃ i : Nat, i ≤ qc ∧ qc ≤ i + gk ∧ x14 = .int .i64 i ∧ x5 = .int .u64 (numOf (bs.take i)) ∧ wr = w1)
  case atStart => exact ⟨0, Nat.zero_le _, by omega, rfl, rfl, rfl⟩
  case round =>
    obtain ⟨i, hi, hgi, rfl, rfl, rfl⟩ := hrel
    by_cases hlt : i < qc
    · obtain ⟨x, hx⟩ : ∃ x, bs[i]? = some x := ⟨_, List.getElem?_eq_getElem (by rw [HL.out]; exact hlt)⟩
      have c0 := HCC.out i x hx
      obtain ⟨hx0, hx1⟩ := HBY.out x (List.mem_of_getElem? hx)
      have hnum := numOf_lt (bs.take i) (fun b hm => HBY.out b (List.mem_of_mem_take hm))
      have hpow : (256 : Int) ^ (bs.take i).length ≤ 256 ^ 7 := by
        rw [List.length_take]
        have h7 : min i bs.length ≤ 7 := by have := HL.out; omega
        exact pow256 h7
      have HS : Hid (numOf (bs.take (i + 1)) = numOf (bs.take i) * 256 + x) := by
        rw [List.take_add_one, hx, Option.toList_some, numOf_snoc]; exact Lib.hid rfl
      obtain ⟨y, hy⟩ : ∃ y, y = numOf (bs.take i) := ⟨_, rfl⟩
      rw [← hy] at hnum HS ⊢
      have hy0 := hnum.1
      have hy1 : y < 72057594037927936 := by have := hnum.2; omega
      clear hx hy hnum hpow
      go_wp2
      rw [or_byte y x hy0 hy1 hx0 hx1]
      go_roundg (gk - 1)
      case measure => omega
      case rel => exact ⟨i + 1, by omega, by omega, by go_num, by rw [HS.out], rfl⟩
    · obtain rfl : i = qc := by omega
      rw [List.take_of_length_le (by rw [HL.out]; exact Nat.le_refl _)]
      clear hlt
      go_wp2
      go_ret
      exact ⟨r', rfl, HR.out, HC6.out, HU.out⟩
theorem num_short (h : CutIs w c lo r 0) (n : Nat) (h1 : 1 ≤ n) (h8 : n ≤ 8) (hn : r.xs.length < n) : Calls Try.prog 44 #[.pointer (some ⟨c, 0, none⟩), .int .i64 n] w fun e w' => e = .returned (.int .u64 0) ∧ CutIs w' c lo r 10 ∧ Upd [c] w w' := by
  have HM := Lib.hid (may_any n w h1 h8)
  have HC := Lib.hid (take_short h n hn)
  clear h
  go_enter Try.func44, Try.ntmps44
  go_wp2_with fail
  refine HM.out.mono ?_
  rintro e w1 ⟨rfl, rfl⟩
  go_wp2_with fail
  refine HC.out.mono ?_
  rintro e w1 ⟨rfl, hq1, hq2⟩
  have H1 := Lib.hid hq1
  have H2 := Lib.hid hq2
  clear hq1 hq2 HM HC
  go_wp2
  go_loopg [5, 14] 0 (fun gk x5 x14 wr => x5 = .int .u64 0 ∧ x14 = .int .i64 0 ∧ wr = w1)
  case atStart => exact ⟨rfl, rfl, rfl⟩
  case round =>
    obtain ⟨rfl, rfl, rfl⟩ := hrel
    go_wp2
    go_ret
    exact ⟨rfl, H1.out, H2.out⟩
theorem num_err (h : CutIs w c lo r er) (n : Nat) (h1 : 1 ≤ n) (h8 : n ≤ 8) (he : er ≠ 0) : Calls Try.prog 44 #[.pointer (some ⟨c, 0, none⟩), .int .i64 n] w fun e w' => e = .returned (.int .u64 0) ∧ w = w' := by
  have HM := Lib.hid (may_any n w h1 h8)
  have HC := Lib.hid (take_err h n he)
  clear h
  go_enter Try.func44, Try.ntmps44
  go_wp2_with fail
  refine HM.out.mono ?_
  rintro e w1 ⟨rfl, rfl⟩
  go_wp2_with fail
  refine HC.out.mono ?_
  rintro e w1 ⟨rfl, rfl⟩
  clear HM HC
  go_wp2
  go_loopg [5, 14] 0 (fun gk x5 x14 wr => x5 = .int .u64 0 ∧ x14 = .int .i64 0 ∧ wr = w)
  case atStart => exact ⟨rfl, rfl, rfl⟩
  case round =>
    obtain ⟨rfl, rfl, rfl⟩ := hrel
    go_wp2
    go_ret
    exact ⟨rfl, rfl⟩
end
end Go.Proofs.Ytgkejdjdccgjbaa
/- The document's numbers out of bytes (louverref01.some, Take; louverref09.num). Conditions: so many bytes are there; one to eight of them. -/
namespace Go.Proofs.Ytgkejdjdccgjbaa
open Go Go.RowKit
set_option maxHeartbeats 400000
theorem strOf_extract (xs : List Int) (a b : Nat) : (strOfNums xs).extract a b = strOfNums ((xs.drop a).take (b - a)) := by
  unfold strOfNums
  rw [ByteArray.extract_mk, List.map_take, List.map_drop]
theorem strOf_get {xs : List Int} {i : Nat} {x : Int} (h : i < (strOfNums xs).size) (hx : xs[i]? = some x) (hb : 0 ≤ x ∧ x ≤ 255) : (((strOfNums xs)[i]'h).toNat : Int) = x := by
  obtain ⟨hi, rfl⟩ := List.getElem?_eq_some_iff.1 hx
  have e : ((strOfNums xs)[i]'h) = UInt8.ofNat (xs[i]).toNat := by
    exact (by simp : ((List.map (fun n : Int => UInt8.ofNat n.toNat) xs).toArray)[i]'(by simpa using hi) = UInt8.ofNat (xs[i]).toNat)
  rw [e, UInt8.toNat_ofNat']
  omega
set_option maxRecDepth 100000 in
theorem dsome_any (w : World) (xs : List Int) (n : Nat) (hn : n ≤ xs.length) :
    Calls Try.prog 53 #[.agg #[.string (strOfNums xs), .int .i64 0], .int .i64 n, .bool true] w fun e w' => e = .returned (.tuple #[.agg #[.string (strOfNums (xs.drop n)), .int .i64 0], .string (strOfNums (xs.take n))]) ∧ Upd [] w w' := by
  obtain ⟨T, hT⟩ : ∃ T, T = w.heap.size := ⟨_, rfl⟩
  obtain ⟨W1, hW1⟩ : ∃ W, W = w.alloc (.cells #[.string (strOfNums xs), .int .i64 0] 113) := ⟨_, rfl⟩
  obtain ⟨W, hW⟩ : ∃ W, W = W1.alloc (.cells #[.string { data := #[] }, .int .i64 0] 113) := ⟨_, rfl⟩
  have u1 : Upd [] w W1 := by rw [hW1]; exact (Upd.refl [] w).alloc _
  have u2 : Upd [] W1 W := by rw [hW]; exact (Upd.refl [] W1).alloc _
  have s1 : W1.heap.size = T + 1 := by rw [hW1, World.size_alloc, hT]
  have hbT : Blk W T 113 #[.string (strOfNums xs), .int .i64 0] := by
    have : Blk W1 T 113 #[.string (strOfNums xs), .int .i64 0] := by rw [hW1, hT]; exact Blk.new _ _ _
    exact this.upd u2 (by simp)
  have hbR : Blk W (T + 1) 113 #[.string { data := #[] }, .int .i64 0] := by rw [hW, ← s1]; exact Blk.new _ _ _
  have HU := Lib.hid (u1.next u2)
  have HBT := Lib.hid hbT
  have HBR := Lib.hid hbR
  have HT := Lib.hid hT
  have hsz : (strOfNums xs).size = xs.length := strOfNums_size xs
  have hn0 : ¬ ((xs.length : Int) < (n : Int)) := by omega
  have hn1 : (n : Int) ≤ (xs.length : Int) := by omega
  have hx1 : (strOfNums xs).extract 0 n = strOfNums (xs.take n) := by rw [strOf_extract, List.drop_zero, Nat.sub_zero]
  have hx2 : (strOfNums xs).extract n xs.length = strOfNums (xs.drop n) := by rw [strOf_extract, List.take_of_length_le (by rw [List.length_drop]; exact Nat.le_refl _)]
  obtain ⟨a, ha⟩ : ∃ a, a = strOfNums (xs.take n) := ⟨_, rfl⟩
  obtain ⟨d, hd⟩ : ∃ d, d = strOfNums (xs.drop n) := ⟨_, rfl⟩
  rw [← ha] at hx1 ⊢
  rw [← hd] at hx2 ⊢
  have m0 : W.cell? ⟨T, 0, none⟩ = some (.string (strOfNums xs)) := hbT.cell 0
  have m1 : W.cell? ⟨T, 1, none⟩ = some (.int .i64 0) := hbT.cell 1
  have f0 := hbT.frozen 0
  obtain ⟨w2, hw2⟩ : ∃ x, x = W.setCell ⟨T, 0, none⟩ (.string d) := ⟨_, rfl⟩
  have us2 : Upd [T] W w2 := by rw [hw2]; exact (Upd.refl [T] W).setCell (.inl (by simp)) _
  have hb2 : Blk w2 T 113 #[.string d, .int .i64 0] := by rw [hw2]; exact hbT.store 0 _
  have hr2 := hbR.upd us2 (by simp)
  obtain ⟨w3, hw3⟩ : ∃ x, x = (w2.setCell ⟨T + 1, 0, none⟩ (.string d)).setCell ⟨T + 1, 1, none⟩ (.int .i64 0) := ⟨_, rfl⟩
  have us3 : Upd [T + 1] w2 w3 := by rw [hw3]; exact ((Upd.refl [T + 1] w2).setCell (p := ⟨T + 1, 0, none⟩) (.inl (by simp)) _).setCell (p := ⟨T + 1, 1, none⟩) (.inl (by simp)) _
  have hr3 : Blk w3 (T + 1) 113 #[.string d, .int .i64 0] := by
    have h1 : Blk (w2.setCell ⟨T + 1, 0, none⟩ (.string d)) (T + 1) 113 #[.string d, .int .i64 0] := hr2.store 0 _
    rw [hw3]
    exact h1.store 1 _
  have HFIN : Hid (Upd [] w w3) := Lib.hid (Upd.of_below (((HU.out.below (Nat.le_refl _) (by simp)).trans (us2.below HU.out.size (fun s hs => by rw [List.mem_singleton] at hs; subst hs; rw [HT.out]; exact Nat.le_refl _))).trans (us3.below (Nat.le_trans HU.out.size us2.size) (fun s hs => by rw [List.mem_singleton] at hs; subst hs; rw [HT.out]; exact Nat.le_succ _))))
  have HB2 := Lib.hid hb2
  have HR2 := Lib.hid hr2
  have HR3 := Lib.hid hr3
  have HW2 := Lib.hid hw2
  have HW3 := Lib.hid hw3
  clear hbT hbR u1 u2 s1 ha hd us2 hb2 hr2 us3 hr3 hw2 hw3
  go_enter Try.func53, Try.ntmps53
  go_upto_region 1 with fail
  rw [← hW1, ← hW, ← hT]
  clear hW1 hW hT
  go_upto_region 11 with fail
  rw [← HW2.out]
  clear m0 m1 f0
  have m0 : w2.cell? ⟨T, 0, none⟩ = some (.string d) := HB2.out.cell 0
  have m1 : w2.cell? ⟨T, 1, none⟩ = some (.int .i64 0) := HB2.out.cell 1
  have r0 : w2.cell? ⟨T + 1, 0, none⟩ = some (.string { data := #[] }) := HR2.out.cell 0
  have r1 : w2.cell? ⟨T + 1, 1, none⟩ = some (.int .i64 0) := HR2.out.cell 1
  have f0 := HR2.out.frozen 0
  have f1 := HR2.out.frozen 1
  go_wp2
  rw [← HW3.out]
  have g0 : w3.cell? ⟨T + 1, 0, none⟩ = some (.string d) := HR3.out.cell 0
  have g1 : w3.cell? ⟨T + 1, 1, none⟩ = some (.int .i64 0) := HR3.out.cell 1
  exact bodyPost_res (v := .tuple #[.agg #[.string d, .int .i64 0], .string a]) (by simp [results, Try.results53, go_sem, Addr.add, g0, g1]) rfl ⟨rfl, HFIN.out⟩
set_option maxRecDepth 100000 in
theorem dtake_any (w : World) (xs : List Int) (n : Nat) (h1 : 1 ≤ n) (h8 : n ≤ 8) (hn : n ≤ xs.length) (hb : Byt xs) :
    Calls Try.prog 52 #[.agg #[.string (strOfNums xs), .int .i64 0], .int .i64 n] w fun e w' => e = .returned (.tuple #[.agg #[.string (strOfNums (xs.drop n)), .int .i64 0], .int .u64 (numOf (xs.take n))]) ∧ Upd [] w w' := by
  obtain ⟨T, hT⟩ : ∃ T, T = w.heap.size := ⟨_, rfl⟩
  obtain ⟨W1, hW1⟩ : ∃ W, W = w.alloc (.cells #[.string (strOfNums xs), .int .i64 0] 113) := ⟨_, rfl⟩
  obtain ⟨W, hW⟩ : ∃ W, W = W1.alloc (.cells #[.string { data := #[] }, .int .i64 0] 113) := ⟨_, rfl⟩
  have u1 : Upd [] w W1 := by rw [hW1]; exact (Upd.refl [] w).alloc _
  have u2 : Upd [] W1 W := by rw [hW]; exact (Upd.refl [] W1).alloc _
  have s1 : W1.heap.size = T + 1 := by rw [hW1, World.size_alloc, hT]
  have hbT : Blk W T 113 #[.string (strOfNums xs), .int .i64 0] := by
    have : Blk W1 T 113 #[.string (strOfNums xs), .int .i64 0] := by rw [hW1, hT]; exact Blk.new _ _ _
    exact this.upd u2 (by simp)
  have hbR : Blk W (T + 1) 113 #[.string { data := #[] }, .int .i64 0] := by rw [hW, ← s1]; exact Blk.new _ _ _
  have HU := Lib.hid (u1.next u2)
  have HBT := Lib.hid hbT
  have HBR := Lib.hid hbR
  have HT := Lib.hid hT
  have HS := Lib.hid (fun w => dsome_any w xs n hn)
  have hl1 : (1 : Int) ≤ (n : Int) := by omega
  have hl8 : (n : Int) ≤ 8 := by omega
  have m0 : W.cell? ⟨T, 0, none⟩ = some (.string (strOfNums xs)) := hbT.cell 0
  have m1 : W.cell? ⟨T, 1, none⟩ = some (.int .i64 0) := hbT.cell 1
  obtain ⟨ys, hys⟩ : ∃ l, l = xs.take n := ⟨_, rfl⟩
  obtain ⟨zs, hzs⟩ : ∃ l, l = xs.drop n := ⟨_, rfl⟩
  rw [← hys, ← hzs] at HS ⊢
  have hyl : ys.length = n := by rw [hys, List.length_take]; omega
  have HBY : Hid (Byt ys) := Lib.hid (fun b h => hb b (by rw [hys] at h; exact List.mem_of_mem_take h))
  clear hbT hbR u1 u2 s1 hys hzs hn hb
  go_enter Try.func52, Try.ntmps52
  go_upto_region 1 with fail
  rw [← hW1, ← hW, ← hT]
  clear hW1 hW hT
  go_wp2_with fail
  refine (HS.out _).mono ?_
  rintro _ w1 ⟨rfl, hu1⟩
  have HU1 := Lib.hid (HU.out.next hu1)
  have hb1 := HBT.out.upd hu1 (by simp)
  have hr1 := HBR.out.upd hu1 (by simp)
  clear m0 m1 HS
  have m0 : w1.cell? ⟨T, 0, none⟩ = some (.string (strOfNums xs)) := hb1.cell 0
  have m1 : w1.cell? ⟨T, 1, none⟩ = some (.int .i64 0) := hb1.cell 1
  have f0 := hb1.frozen 0
  have f1 := hb1.frozen 1
  obtain ⟨w2, hw2⟩ : ∃ x, x = (w1.setCell ⟨T, 0, none⟩ (.string (strOfNums zs))).setCell ⟨T, 1, none⟩ (.int .i64 0) := ⟨_, rfl⟩
  have us2 : Upd [T] w1 w2 := by rw [hw2]; exact ((Upd.refl [T] w1).setCell (p := ⟨T, 0, none⟩) (.inl (by simp)) _).setCell (p := ⟨T, 1, none⟩) (.inl (by simp)) _
  have HB2 : Hid (Blk w2 T 113 #[.string (strOfNums zs), .int .i64 0]) := Lib.hid (by
    have h1 : Blk (w1.setCell ⟨T, 0, none⟩ (.string (strOfNums zs))) T 113 #[.string (strOfNums zs), .int .i64 0] := hb1.store 0 _
    rw [hw2]
    exact h1.store 1 _)
  have HR2 := Lib.hid (hr1.upd us2 (by simp))
  have HU2 : Hid (Upd [] w w2) := Lib.hid (Upd.of_below ((HU1.out.below (Nat.le_refl _) (by simp)).trans (us2.below HU1.out.size (fun s hs => by rw [List.mem_singleton] at hs; subst hs; rw [HT.out]; exact Nat.le_refl _))))
  have HW2 := Lib.hid hw2
  clear hu1 hb1 hr1 us2 hw2
  go_upto_region 2 with fail
  rw [← HW2.out]
  clear m0 m1 f0 f1
  go_wp2
  go_loopg [7, 8] n (fun gk x7 x8 wr => ∃ i : Nat, i ≤ n ∧ n ≤ i + gk ∧ x8 = .int .i64 i ∧ x7 = .int .u64 (numOf (ys.take i)) ∧ w2 = wr)
  case atStart => exact ⟨0, Nat.zero_le _, by omega, rfl, rfl, rfl⟩
  case round =>
    obtain ⟨i, hi, hgi, rfl, rfl, rfl⟩ := hrel
    by_cases hlt : i < n
    · obtain ⟨x, hx⟩ : ∃ x, ys[i]? = some x := ⟨_, List.getElem?_eq_getElem (by rw [hyl]; exact hlt)⟩
      have hxb := HBY.out x (List.mem_of_getElem? hx)
      have htk : ys.take (i + 1) = ys.take i ++ [x] := by rw [List.take_add_one, hx]; rfl
      have HNS : Hid (numOf (ys.take (i + 1)) = numOf (ys.take i) * 256 + x) := Lib.hid (by rw [htk, numOf_snoc])
      have hlt' := numOf_lt (ys.take i) (fun b h => HBY.out b (List.mem_of_mem_take h))
      rw [List.length_take, Nat.min_eq_left (by omega)] at hlt'
      have hpw : (256 : Int) ^ i ≤ 256 ^ 7 := pow256 (by omega)
      obtain ⟨y, hy⟩ : ∃ y, y = numOf (ys.take i) := ⟨_, rfl⟩
      rw [← hy] at hlt' HNS ⊢
      have h7 : (256 : Int) ^ 7 = 72057594037927936 := by decide
      have hy1 : 0 ≤ y ∧ y < 72057594037927936 := by omega
      have hlti : (i : Int) < (n : Int) := by omega
      have hsy : (strOfNums ys).size = n := by rw [strOfNums_size, hyl]
      have hwi : IntKind.i64.wrap ((i : Int) + 1) = (i : Int) + 1 := IntWalk.i64_in _ (by omega)
      have hw1 : IntKind.u64.wrap (256 * y) = 256 * y := by unfold IntKind.wrap; simp [IntKind.bits, IntKind.signed]; omega
      have hw2 : IntKind.u64.wrap x = x := by unfold IntKind.wrap; simp [IntKind.bits, IntKind.signed]; omega
      have hw3 : IntKind.u64.wrap (256 * y + x) = 256 * y + x := by unfold IntKind.wrap; simp [IntKind.bits, IntKind.signed]; omega
      have hget := strOf_get (xs := ys) (i := i) (by rw [hsy]; exact hlt) hx hxb
      clear htk hlt' hpw hy h7 hx
      go_wp2
      go_roundg (gk - 1)
      case measure => omega
      case rel => exact ⟨i + 1, by omega, by omega, by go_num, by rw [HNS.out, Int.mul_comm], rfl⟩
    · obtain rfl : i = n := by omega
      have hsy : (strOfNums ys).size = i := by rw [strOfNums_size, hyl]
      have htl : ys.take i = ys := List.take_of_length_le (by omega)
      rw [htl]
      have m0 : w2.cell? ⟨T, 0, none⟩ = some (.string (strOfNums zs)) := HB2.out.cell 0
      have m1 : w2.cell? ⟨T, 1, none⟩ = some (.int .i64 0) := HB2.out.cell 1
      have r0 : w2.cell? ⟨T + 1, 0, none⟩ = some (.string { data := #[] }) := HR2.out.cell 0
      have r1 : w2.cell? ⟨T + 1, 1, none⟩ = some (.int .i64 0) := HR2.out.cell 1
      have f0 := HR2.out.frozen 0
      have f1 := HR2.out.frozen 1
      obtain ⟨w3, hw3⟩ : ∃ x, x = (w2.setCell ⟨T + 1, 0, none⟩ (.string (strOfNums zs))).setCell ⟨T + 1, 1, none⟩ (.int .i64 0) := ⟨_, rfl⟩
      have us3 : Upd [T + 1] w2 w3 := by rw [hw3]; exact ((Upd.refl [T + 1] w2).setCell (p := ⟨T + 1, 0, none⟩) (.inl (by simp)) _).setCell (p := ⟨T + 1, 1, none⟩) (.inl (by simp)) _
      have HR3 : Hid (Blk w3 (T + 1) 113 #[.string (strOfNums zs), .int .i64 0]) := Lib.hid (by
        have h1 : Blk (w2.setCell ⟨T + 1, 0, none⟩ (.string (strOfNums zs))) (T + 1) 113 #[.string (strOfNums zs), .int .i64 0] := HR2.out.store 0 _
        rw [hw3]
        exact h1.store 1 _)
      have HFIN : Hid (Upd [] w w3) := Lib.hid (Upd.of_below ((HU2.out.below (Nat.le_refl _) (by simp)).trans (us3.below HU2.out.size (fun s hs => by rw [List.mem_singleton] at hs; subst hs; rw [HT.out]; exact Nat.le_succ _))))
      have HW3 := Lib.hid hw3
      clear us3 hw3 htl
      go_wp2
      rw [← HW3.out]
      have g0 : w3.cell? ⟨T + 1, 0, none⟩ = some (.string (strOfNums zs)) := HR3.out.cell 0
      have g1 : w3.cell? ⟨T + 1, 1, none⟩ = some (.int .i64 0) := HR3.out.cell 1
      exact bodyPost_res (v := .tuple #[.agg #[.string (strOfNums zs), .int .i64 0], .int .u64 (numOf ys)]) (by simp [results, Try.results52, go_sem, Addr.add, g0, g1]) rfl ⟨rfl, HFIN.out⟩
set_option maxRecDepth 100000 in
theorem dnumat_any (w : World) (xs : List Int) (at_ n : Nat) (h1 : 1 ≤ n) (h8 : n ≤ 8) (hn : at_ + n ≤ xs.length) (hb : Byt xs) (hl : xs.length ≤ 9223372036854775807) :
    Calls Try.prog 31 #[.string (strOfNums xs), .int .i64 at_, .int .i64 n] w fun e w' => e = .returned (.int .u64 (numOf ((xs.drop at_).take n))) ∧ Upd [] w w' := by
  have HT := Lib.hid (fun w => dtake_any w (xs.drop at_) n h1 h8 (by rw [List.length_drop]; omega) (fun b h => hb b (List.mem_of_mem_drop h)))
  have hx2 : (strOfNums xs).extract at_ xs.length = strOfNums (xs.drop at_) := by rw [strOf_extract, List.take_of_length_le (by rw [List.length_drop]; exact Nat.le_refl _)]
  have hsz : (strOfNums xs).size = xs.length := strOfNums_size xs
  have hle : (at_ : Int) ≤ (xs.length : Int) := by omega
  obtain ⟨ys, hys⟩ : ∃ l, l = xs.drop at_ := ⟨_, rfl⟩
  rw [← hys] at HT hx2 ⊢
  obtain ⟨v, hv⟩ : ∃ v, v = numOf (ys.take n) := ⟨_, rfl⟩
  rw [← hv] at HT ⊢
  clear hys hv hn
  go_enter Try.func31, Try.ntmps31
  go_wp2_with fail
  refine (HT.out _).mono ?_
  rintro _ w1 ⟨rfl, hu⟩
  clear HT
  go_wp2
  go_ret
  exact ⟨rfl, hu.alloc _⟩
end Go.Proofs.Ytgkejdjdccgjbaa
/- rtcp: four, reports. Conditions: no more than 60 reports, their fields numbers of their types. -/
namespace Go.Proofs.Ytgkejdjdccgjbaa
open Go Go.RowKit
set_option maxHeartbeats 400000

/-- append of any row of known cells onto a row of the call's own, as one step of a region that draws -/
theorem step_append_src {P : Program} (w : World) {ops : Array Oper} {o : Oper} {a : Act} {K : Act → World → Prop} {Q : Exit → Act → World → Prop} {F : Prop} (hgd : o.guard = none) (s x : Operand) (t : TypeId)
    (ho : o.op = .call { callee := .builtin .append, args := #[s, x], argTypes := #[t, t] })
    (base : Nat) (e : TypeId) (i : TypeInfo) (z : Value) (size bytes : Nat) (ht : P.underlying t = some (.slice e)) (hi : P.info? e = some i) (hz : i.zero = some z) (hsize : i.size = size) (hby : i.bytes = bytes)
    (hzs : z.cells.size = size) (hsz : 0 < size) (v : Value) (n : Nat) (xs : List Value) (hs : a.eval s = v) (hown : w.ownsRow base e size v n xs)
    (A : Option Addr) (m c : Nat) (news : List Value) (hx : a.eval x = .slice A m c) (hA : A = none → m = 0 ∧ c = 0) (hn : news.length = m * size)
    (hcells : ∀ ad, A = some ad → ∀ (j : Nat) (u : Value), news[j]? = some u → w.cell? (ad.add j) = some u) (h1 : ∀ u ∈ news, u.oneCell' = true)
    (h63 : n + m ≤ maxLen) (hbytes : (n + m) * bytes ≤ 140737488355328) (hbase : base ≤ w.heap.size)
    (h : ∀ v' w', w'.ownsRow base e size v' (n + m) (xs ++ news) → w.grownBy w' v.ownBlock → (v'.ownBlock = v.ownBlock ∨ v'.ownBlock = some w.heap.size) → K (a.put o.dst v') w') :
    if Region.wanted o (yielded ops a.tmps) = true then Oper.wp P o a w K Q else F := by
  have hw : Region.wanted o (yielded ops a.tmps) = true := by simp [Region.wanted, hgd]
  rw [if_pos hw]
  cases A with
  | none =>
    obtain ⟨hm, hc⟩ := hA rfl
    subst hm
    subst hc
    have hnil : news = [] := List.eq_nil_of_length_eq_zero (by simpa using hn)
    subst hnil
    have hrun := run_append_owned_none (P := P) (w := w) base t o.type e i size ht hi v n xs hown
    unfold Oper.wp
    simp [execOp, ho, resolve, invoke, builtin, hs, hx, hrun, Result.andThen]
    exact h v w (by simpa using hown) (World.grownBy.refl w _) (.inl rfl)
  | some ad =>
    obtain ⟨v', w', hr, h2, h3, h4, h5⟩ := run_append_own_at (P := P) w base t o.type e i z size bytes ht hi hz hsize hby hzs hsz v n xs hown ad m c news hn (hcells ad rfl) h1 h63 hbytes hbase
    unfold Oper.wp execOp
    simp only [ho, resolve, invoke, builtin, Sem.run_bind, Sem.run_pure, Result.andThen_ok, List.map_toArray, List.map_cons, List.map_nil, hs, hx, hr]
    exact h v' w' h2 h3 h5

theorem four_any (x : Int) (w : World) (h0 : 0 ≤ x) (h1 : x ≤ 4294967295) : Calls Try.prog 33 #[.int .u32 x] w fun e w' => e = .returned (.agg #[.int .u64 x, .int .i64 4]) ∧ Upd [] w w' := by
  go_enter Try.func33, Try.ntmps33
  go_wp2
  exact bodyPost_res (v := .agg #[.int .u64 x, .int .i64 4]) (by simp [results, Try.results33, go_sem]) rfl ⟨rfl, (Upd.refl _ _).alloc _⟩

structure Rep where
  ssrc : Int
  part : Int
  lost : Int
  high : Int
  jitter : Int
  last : Int
  delay : Int
def encRep (r : Rep) : List Value := [.int .u32 r.ssrc, .int .u8 r.part, .int .u32 r.lost, .int .u32 r.high, .int .u32 r.jitter, .int .u32 r.last, .int .u32 r.delay]
theorem encRep_len (r : Rep) : (encRep r).length = 7 := rfl
def U32 (x : Int) : Prop := 0 ≤ x ∧ x ≤ 4294967295
def U8 (x : Int) : Prop := 0 ≤ x ∧ x ≤ 255
structure Rep.Ok (r : Rep) : Prop where
  ssrc : U32 r.ssrc
  part : U8 r.part
  lost : U32 r.lost
  high : U32 r.high
  jitter : U32 r.jitter
  last : U32 r.last
  delay : U32 r.delay
def repParts (r : Rep) : List (Int × Nat) := [(r.ssrc, 4), (r.part, 1), (r.lost, 3), (r.high, 4), (r.jitter, 4), (r.last, 4), (r.delay, 4)]
theorem infoP : (Try.prog.info? 94).map (fun i => (i.zero, i.size, i.bytes)) = some (some (.agg #[.int .u64 0, .int .i64 0]), 2, 16) := by kernel_rfl

set_option maxRecDepth 100000 in
set_option maxHeartbeats 4000000 in
theorem reports_any {w : World} {lo : Nat} {A : Option Addr} {cap : Nat} {rs : List Rep} (hc : CellsIn w lo w.heap.size 7 A rs.length (rs.flatMap encRep)) (hp : ∀ r, r ∈ rs → r.Ok) (hl : rs.length ≤ 60) :
    Calls Try.prog 34 #[.slice A rs.length cap] w fun e w' => ∃ v, e = .returned v ∧ w'.ownsRow w.heap.size 94 2 v (7 * rs.length) ((rs.flatMap repParts).flatMap encP) ∧ Below w.heap.size w w' := by
  obtain ⟨j0, hj0, hy0, hy1, hy2⟩ := info_parts infoP
  have HC := Lib.hid hc
  have HP := Lib.hid hp
  clear hc hp
  go_enter Try.func34, Try.ntmps34
  go_wp2
  go_loopg [3, 8] rs.length (fun gk x3 x8 wr => ∃ (i : Nat), i ≤ rs.length ∧ rs.length ≤ i + gk ∧ x8 = .int .i64 i ∧ wr.ownsRow w.heap.size 94 2 x3 (7 * i) (((rs.take i).flatMap repParts).flatMap encP) ∧ Below w.heap.size w wr)
  case atStart => exact ⟨0, Nat.zero_le _, by omega, rfl, World.ownsRow_nil _ _ _ _, Below.refl _ _⟩
  case round =>
    obtain ⟨i, hi, hgi, rfl, hown, hbel⟩ := hrel
    obtain ⟨Av, cv, hve, _⟩ := own_form hown
    subst hve
    by_cases hlt : i < rs.length
    · obtain ⟨r, hri⟩ : ∃ p, rs[i]? = some p := ⟨_, List.getElem?_eq_getElem hlt⟩
      have hok := HP.out r (List.mem_of_getElem? hri)
      obtain ⟨b, off, rfl, hb1, hb2, hcc⟩ := HC.out.2 (by omega)
      have c0 := (hbel.cell (p := ⟨b, off + (i * 7 + 0), none⟩) hb2).trans (hcc (i * 7 + 0) _ (flat_get encRep_len rs i 0 r hri (by omega)))
      have c1 := (hbel.cell (p := ⟨b, off + (i * 7 + 1), none⟩) hb2).trans (hcc (i * 7 + 1) _ (flat_get encRep_len rs i 1 r hri (by omega)))
      have c2 := (hbel.cell (p := ⟨b, off + (i * 7 + 2), none⟩) hb2).trans (hcc (i * 7 + 2) _ (flat_get encRep_len rs i 2 r hri (by omega)))
      have c3 := (hbel.cell (p := ⟨b, off + (i * 7 + 3), none⟩) hb2).trans (hcc (i * 7 + 3) _ (flat_get encRep_len rs i 3 r hri (by omega)))
      have c4 := (hbel.cell (p := ⟨b, off + (i * 7 + 4), none⟩) hb2).trans (hcc (i * 7 + 4) _ (flat_get encRep_len rs i 4 r hri (by omega)))
      have c5 := (hbel.cell (p := ⟨b, off + (i * 7 + 5), none⟩) hb2).trans (hcc (i * 7 + 5) _ (flat_get encRep_len rs i 5 r hri (by omega)))
      have c6 := (hbel.cell (p := ⟨b, off + (i * 7 + 6), none⟩) hb2).trans (hcc (i * 7 + 6) _ (flat_get encRep_len rs i 6 r hri (by omega)))
      obtain ⟨q0, q1, q2, q3, q4, q5, q6⟩ := r
      obtain ⟨⟨a0, b0⟩, ⟨a1, b1⟩, ⟨a2, b2⟩, ⟨a3, b3⟩, ⟨a4, b4⟩, ⟨a5, b5⟩, ⟨a6, b6⟩⟩ := hok
      dsimp only at a0 b0 a1 b1 a2 b2 a3 b3 a4 b4 a5 b5 a6 b6
      simp only [← Nat.add_assoc, Nat.add_zero] at c0 c1 c2 c3 c4 c5 c6
      have HOW := Lib.hid hown
      have HB := Lib.hid hbel
      have HRI := Lib.hid hri
      clear hcc hown hbel hri
      go_upto_region 5 with fail
      obtain ⟨W1, hW1⟩ : ∃ W1, W1 = wr.alloc (.cells #[.int .u32 q0, .int .u8 q1, .int .u32 q2, .int .u32 q3, .int .u32 q4, .int .u32 q5, .int .u32 q6] 87) := ⟨_, rfl⟩
      obtain ⟨X, hXe⟩ : ∃ X, X = wr.heap.size := ⟨_, rfl⟩
      rw [← hW1, ← hXe]
      have hX : Blk W1 X 87 #[.int .u32 q0, .int .u8 q1, .int .u32 q2, .int .u32 q3, .int .u32 q4, .int .u32 q5, .int .u32 q6] := by rw [hW1, hXe]; exact Blk.new wr _ _
      have HOW1 : Hid (W1.ownsRow w.heap.size 94 2 (.slice Av (7 * i) cv) (7 * i) (((rs.take i).flatMap repParts).flatMap encP)) := by rw [hW1]; exact Lib.hid (HOW.out.alloc _)
      have HB1 : Hid (Below w.heap.size w W1) := by rw [hW1]; exact Lib.hid (HB.out.alloc HB.out.size _)
      have x0 : ∀ x : Cls (Upd [] W1), x.w.cell? ⟨X, 0, none⟩ = some (.int .u32 q0) := fun x => (hX.upd x.h (by simp)).cell 0
      have x1 : ∀ x : Cls (Upd [] W1), x.w.cell? ⟨X, 1, none⟩ = some (.int .u8 q1) := fun x => (hX.upd x.h (by simp)).cell 1
      have x2 : ∀ x : Cls (Upd [] W1), x.w.cell? ⟨X, 2, none⟩ = some (.int .u32 q2) := fun x => (hX.upd x.h (by simp)).cell 2
      have x3 : ∀ x : Cls (Upd [] W1), x.w.cell? ⟨X, 3, none⟩ = some (.int .u32 q3) := fun x => (hX.upd x.h (by simp)).cell 3
      have x4 : ∀ x : Cls (Upd [] W1), x.w.cell? ⟨X, 4, none⟩ = some (.int .u32 q4) := fun x => (hX.upd x.h (by simp)).cell 4
      have x5 : ∀ x : Cls (Upd [] W1), x.w.cell? ⟨X, 5, none⟩ = some (.int .u32 q5) := fun x => (hX.upd x.h (by simp)).cell 5
      have x6 : ∀ x : Cls (Upd [] W1), x.w.cell? ⟨X, 6, none⟩ = some (.int .u32 q6) := fun x => (hX.upd x.h (by simp)).cell 6
      have HF : Hid (∀ (x : Cls (Upd [] W1)) (y : Int), 0 ≤ y → y ≤ 4294967295 → Calls Try.prog 33 #[.int .u32 y] x.w fun e w' => e = .returned (.agg #[.int .u64 y, .int .i64 4]) ∧ ∃ m : Cls (Upd [] W1), w' = m.w) := fun x y h1 h2 => quiet_cls ((four_any y x.w h1 h2).mono fun e w' h => ⟨h.1, x.h.next h.2⟩)
      clear hW1 hXe HOW HB c0 c1 c2 c3 c4 c5 c6 hX
      refine wp_moves_class_tail (Upd [] W1) ((Upd.refl _ _).drewN 1) 1 24 (by kernel_rfl) (by kernel_rfl) (fun _ _ _ _ h => h) ?_
      intro hne
      simp only [List.take_succ_cons, List.take_zero, List.drop_succ_cons, List.drop_zero]
      repeat (go_big_quiet_step (fail))
      refine wpQuiet_nil (show wpQuiet _ _ _ _ _ _ from ?_)
      repeat (go_big_quiet_step ((go_at_call 33; exact HF.out _ _ (by assumption) (by assumption))))
      refine wpQuiet_nil ?_
      rintro _ ⟨xe, rfl⟩
      have hox := ownsRow_upd HOW1.out xe.h (by simp)
      have hbx : Below w.heap.size w xe.w := HB1.out.trans (xe.h.below HB1.out.size (by simp))
      obtain ⟨ys, hys⟩ : ∃ ys, ys = ((rs.take i).flatMap repParts).flatMap encP := ⟨_, rfl⟩
      rw [← hys] at hox
      have HYS := Lib.hid hys
      have HOX := Lib.hid hox
      have HBX := Lib.hid hbx
      obtain ⟨W2, hW2⟩ : ∃ W2, W2 = xe.w := ⟨_, rfl⟩
      rw [← hW2] at HOX HBX ⊢
      clear hW2 hox hbx hys HOW1 HB1 HF x0 x1 x2 x3 x4 x5 x6
      go_wp2_with (at_builtin; refine wpList_append_own_at _ rfl (.tmp 12) (.tmp 36) 69 rfl w.heap.size 94 j0 _ 2 16 Try.underlying69 hj0 hy0 hy1 hy2 rfl (by decide) _ (7 * i) ys rfl (HOX.out.alloc _) ⟨W2.heap.size, 0, none⟩ 7 7 [.int .u64 q0, .int .i64 4, .int .u64 q1, .int .i64 1, .int .u64 q2, .int .i64 3, .int .u64 q3, .int .i64 4, .int .u64 q4, .int .i64 4, .int .u64 q5, .int .i64 4, .int .u64 q6, .int .i64 4] rfl rfl ?u1 ?u2 ?u3 ?u4 ?u5 ?_)
      case u1 => exact blk_src (Blk.new W2 94 _)
      case u2 => intro u hu; simp at hu; rcases hu with h | h | h | h | h | h | h | h | h | h | h | h | h | h <;> subst h <;> rfl
      case u3 => unfold maxLen; omega
      case u4 => omega
      case u5 => simp; have := HBX.out.size; omega
      intro v1 w1 hown1 hg1 _ hat1
      have hb1 := grown_upd (HOX.out.alloc (.cells #[.int .u64 q0, .int .i64 4, .int .u64 q1, .int .i64 1, .int .u64 q2, .int .i64 3, .int .u64 q3, .int .i64 4, .int .u64 q4, .int .i64 4, .int .u64 q5, .int .i64 4, .int .u64 q6, .int .i64 4] 94)) hg1 (Nat.le_trans HBX.out.size (by simp))
      have hbel1 := (HBX.out.alloc HBX.out.size _).trans hb1
      obtain ⟨A1, c1, hv1, _⟩ := own_form hown1
      subst hv1
      have hown2 : w1.ownsRow w.heap.size 94 2 (.slice A1 (7 * i + 7) c1) (7 * (i + 1)) (((rs.take (i + 1)).flatMap repParts).flatMap encP) := by
        rw [List.take_add_one, HRI.out, Option.toList_some, List.flatMap_append, List.flatMap_append, ← HYS.out]
        exact hown1
      have HO := Lib.hid hown2
      have HBE := Lib.hid hbel1
      clear hown1 hown2 hg1 hat1 hb1 hbel1
      go_wp2
      go_roundg (gk - 1)
      case measure => omega
      case rel => exact ⟨i + 1, by omega, by omega, by go_num, HO.out, HBE.out⟩
    · obtain rfl : i = rs.length := by omega
      rw [List.take_of_length_le (Nat.le_refl _)] at hown
      have HOW := Lib.hid hown
      have HB := Lib.hid hbel
      clear hown hbel
      go_wp2
      go_ret
      exact ⟨_, rfl, HOW.out, HB.out⟩
end Go.Proofs.Ytgkejdjdccgjbaa
