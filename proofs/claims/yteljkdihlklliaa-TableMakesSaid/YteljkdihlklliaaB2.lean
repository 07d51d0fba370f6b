/- Parts of the proof, one behind the other: Tail5, Tail7, TMake, TRead, TSource. No condition of their own. -/
import Derived.Test.YteljkdihlklliaaB1
import Derived.Maps.OwnOps
import Derived.Maps.OwnSet
import Derived.Deep.LoopGhost
import Derived.Deep.DeepCutAuto
import Derived.Deep.DeepFit
import Derived.BigQuiet
import Derived.Maps.RangeWalk
/- A region that draws its order: reads first, wherever they stand; then a call, beside which an alloc floats; then copies; then a tail in one forced order. Two walks serve every order: the alloc ahead of the call, and behind it.
   Conditions: the Bool over the region holds; each read is quiet in the class; the class holds behind each operation but the last. -/
namespace Go.Proofs.Yteljkdihlklliaa
open Go

section
variable {P : Program} {ops : Array Oper} {md : Region.Mode} {S : World → Prop} {Q : Exit → Act → World → Prop}

/-- some operations in a row, the class behind each; then K -/
def wpHeldK (P : Program) (ops : Array Oper) (Q : Exit → Act → World → Prop) (S : World → Prop) (K : Act → World → Prop) : List Oper → Act → World → Prop
  | [], a, w => K a w
  | o :: rest, a, w =>
    if Region.wanted o (yielded ops a.tmps) then o.wp P a w (fun a' w' => S w' ∧ wpHeldK P ops Q S K rest a' w') Q ∨ (o.asks P a w ∧ LetsOut Q) else S w ∧ wpHeldK P ops Q S K rest (a.put o.dst undef) w
theorem wpHeldK_step {K : Act → World → Prop} {a : Act} {w : World} {o : Oper} {rest : List Oper} (hg : o.guard = none)
    (h : ∀ J : Act → World → Prop, RowKit.Hid (∀ a w, S w → wpHeldK P ops Q S K rest a w → J a w) → Oper.wp P o a w J Q) : wpHeldK P ops Q S K (o :: rest) a w := by
  unfold wpHeldK
  rw [if_pos (by simp [Region.wanted, hg])]
  exact .inl (h _ (Lib.hid (fun a w h1 h2 => ⟨h1, h2⟩)))
/-- one operation of a held tail by a law on lists -/
theorem wpHeld_list {o : Oper} {rest : List Oper} {a : Act} {w : World} (h : ∀ Q1 : Exit → Act → World → Prop, RowKit.Hid (∀ a w, (rest = [] ∨ S w) → wpHeld P ops Q S rest a w → Q1 .normal a w) → wpList P ops Q1 [o] a w) : wpHeld P ops Q S (o :: rest) a w := by
  have h1 := h (fun e a w => match e with | .normal => (rest = [] ∨ S w) ∧ wpHeld P ops Q S rest a w | e => Q e a w) (Lib.hid (fun a w k1 k2 => ⟨k1, k2⟩))
  unfold wpHeld
  unfold wpList at h1
  split
  · rename_i hw
    rw [if_pos hw] at h1
    exact h1
  · rename_i hw
    rw [if_neg hw] at h1
    exact h1
theorem wpQuiet_then {K : Act → World → Prop} {a : Act} {w : World} (h : K a w) : wpHeldK P ops Q S K [] a w := h
theorem op_of_heldK {K : Act → World → Prop} {a : Act} {w : World} {i : Nat} {o : Oper} {rest : List Oper} (h0 : ops[i]? = some o) (h : wpHeldK P ops Q S K (o :: rest) a w) : wpOp P ops Q i (fun a' w' => S w' ∧ wpHeldK P ops Q S K rest a' w') a w := by
  unfold wpOp
  simp only [h0]
  unfold wpHeldK at h
  exact h
theorem wpQuiet_imp {R R' : Act → Prop} (h : ∀ a, R a → R' a) : ∀ (l : List Oper) (a : Act), wpQuiet P ops S R l a → wpQuiet P ops S R' l a := by
  intro l
  induction l with
  | nil => intro a ha; exact h a ha
  | cons o rest ih =>
    intro a ha
    unfold wpQuiet at ha ⊢
    split
    · rename_i hw
      rw [if_pos hw] at ha
      obtain ⟨v, h1, h2⟩ := ha
      exact ⟨v, h1, ih _ h2⟩
    · rename_i hw
      rw [if_neg hw] at ha
      exact ih _ ha
/-- marked, one behind the other -/
def markAll : List Nat → Array Bool → Array Bool
  | [], done => done
  | k :: is, done => markAll is (done.setIfInBounds k true)
def pre5 (md : Region.Mode) (ops : Array Oper) : List Nat → Array Bool → Bool
  | [], _ => true
  | k :: is, done => valB ops k && decide (k < ops.size) && awaited md ops k && (Region.ready md ops done).contains k && Region.free md ops done k && pre5 md ops is (done.setIfInBounds k true)
theorem marks_all : ∀ (is : List Nat) (done : Array Bool), Marks4 md ops done → pre5 md ops is done = true → Marks4 md ops (markAll is done) := by
  intro is
  induction is with
  | nil => intro done h _; exact h
  | cons k is ih =>
    intro done h hB
    simp only [pre5, Bool.and_eq_true, decide_eq_true_eq] at hB
    exact ih _ (h.set (by simpa using hB.1.1.2)) hB.2
theorem pre_anyD2 {l : List Oper} {w : World} {m : Nat} (hsel : Region.noSelect l.toArray = true) (hQ : ∀ c tmps a w, Q (.panic c) { a with tmps := tmps } w → Q (.panic c) a w) (hS : S w) :
    ∀ (is : List Nat) (done : Array Bool) (a : Act), Marks4 md l.toArray done →
      pre5 md l.toArray is done = true → wpQuiet P l.toArray S (fun a' => wpAnyD P md l.toArray Q S m (markAll is done) a' w) (pick3 l is) a → wpAnyD P md l.toArray Q S (is.length + m) done a w := by
  intro is
  induction is with
  | nil =>
    intro done a _ _ hq
    rw [List.length_nil, Nat.zero_add]
    exact hq
  | cons k is ih =>
    intro done a hM hB hq
    simp only [pre5, Bool.and_eq_true, decide_eq_true_eq] at hB
    obtain ⟨⟨⟨⟨⟨hmv, hks⟩, haw⟩, hr⟩, hf⟩, hB'⟩ := hB
    obtain ⟨o, h0⟩ : ∃ o, l[k]? = some o := ⟨_, List.getElem?_eq_getElem (by simpa using hks)⟩
    have h0' : l.toArray[k]? = some o := by simpa using h0
    rw [pick3_cons h0] at hq
    have hr' : k ∈ Region.ready md l.toArray done := by simpa using hr
    have hq' : qOp P l.toArray S k (wpQuiet P l.toArray S (fun a' => wpAnyD P md l.toArray Q S m (markAll (k :: is) done) a' w) (pick3 l is)) a := by unfold qOp; simp only [h0']; exact hq
    obtain ⟨v, hy, hK⟩ := yieldsIn_of_qOp h0' hq'
    rw [show (k :: is).length + m = (is.length + m) + 1 by simp; omega]
    exact wpAnyD_first h0' (Region.noSelect_spec hsel) haw (fun c a' w' h' => hQ c (a'.put o.dst v).tmps a' w' (by rw [put_tmps]; exact h')) (is.length + m) done a w hM (Region.free_spec h0' hf) hr' (yieldsIf_of_val h0' hmv hy) hS
      (ih _ _ (hM.set hr') hB' hK)

def new5 (md : Region.Mode) (ops : Array Oper) (F : List Nat) (k al : Nat) (P2 T2 : List Nat) : Bool :=
  Region.noSelect ops && decide (F.length + (P2.length + T2.length + 2) = ops.size) && pre5 md ops F (Array.replicate ops.size false) && decide (k < ops.size) && decide (al < ops.size) &&
  decide (Region.ready md ops (markAll F (Array.replicate ops.size false)) = [k, al]) &&
  decide (Region.ready md ops ((markAll F (Array.replicate ops.size false)).setIfInBounds al true) = [k]) &&
  pre4 md ops T2 P2 (((markAll F (Array.replicate ops.size false)).setIfInBounds al true).setIfInBounds k true) &&
  pre4 md ops (al :: T2) P2 ((markAll F (Array.replicate ops.size false)).setIfInBounds k true)

/-- THE REGION: F is taken first; then the call and the alloc, in either order; then P2 and T2. -/
theorem wp_new_call {id : Nat} {a : Act} {w : World} {l : List Oper} (C : World → Prop) (hC : C (w.drewN 1)) (F : List Nat) (k al : Nat) (P2 T2 : List Nat) (hm : P.follows .mixedOrders = true) (hB : new5 .any l.toArray F k al P2 T2 = true)
    (hQ : ∀ c tmps a w, Q (.panic c) { a with tmps := tmps } w → Q (.panic c) a w)
    (h : Nonempty (Cls C) → wpQuiet P l.toArray (fun w' => ∃ x : Cls C, w' = x.w) (fun a' =>
      wpHeldK P l.toArray Q (fun w' => ∃ x : Cls C, w' = x.w) (fun a2 w2 => wpQuiet P l.toArray (fun w' => ∃ x : Cls C, w' = x.w) (fun a3 => wpHeld P l.toArray Q (fun w' => ∃ x : Cls C, w' = x.w) (pick3 l T2) a3 w2) (pick3 l P2) a2) (pick3 l [al, k]) a' (w.drewN 1) ∧
      wpHeldK P l.toArray Q (fun w' => ∃ x : Cls C, w' = x.w) (fun a2 w2 => wpQuiet P l.toArray (fun w' => ∃ x : Cls C, w' = x.w) (fun a3 => wpHeld P l.toArray Q (fun w' => ∃ x : Cls C, w' = x.w) (pick3 l (al :: T2)) a3 w2) (pick3 l P2) a2) (pick3 l [k]) a' (w.drewN 1)) (pick3 l F) a) :
    (Code.region id l.toArray true).wp P Q a w := by
  have h := h ⟨⟨_, hC⟩⟩
  simp only [new5, Bool.and_eq_true, decide_eq_true_eq] at hB
  obtain ⟨⟨⟨⟨⟨⟨⟨⟨hsel, hlen⟩, hpre⟩, hk⟩, hal⟩, hr0⟩, hr1⟩, hp1⟩, hp2⟩ := hB
  have inv0 : Marks4 .any l.toArray (Array.replicate l.toArray.size false) :=
    ⟨by simp, fun j oj _ hl => by rw [getD_replicate_false] at hl; exact absurd hl (by decide)⟩
  have inv1 := marks_all F _ inv0 hpre
  obtain ⟨ok, h0⟩ : ∃ o, l[k]? = some o := ⟨_, List.getElem?_eq_getElem (by simpa using hk)⟩
  have h0' : l.toArray[k]? = some ok := by simpa using h0
  obtain ⟨oa, g0⟩ : ∃ o, l[al]? = some o := ⟨_, List.getElem?_eq_getElem (by simpa using hal)⟩
  have g0' : l.toArray[al]? = some oa := by simpa using g0
  have mk : k ∈ Region.ready .any l.toArray (markAll F (Array.replicate l.toArray.size false)) := by rw [hr0]; simp
  have ma : al ∈ Region.ready .any l.toArray (markAll F (Array.replicate l.toArray.size false)) := by rw [hr0]; simp
  have mk2 : k ∈ Region.ready .any l.toArray ((markAll F (Array.replicate l.toArray.size false)).setIfInBounds al true) := by rw [hr1]; simp
  refine wp_region_any hm ?_
  have key := pre_anyD2 (P := P) (md := .any) (Q := Q) (m := P2.length + T2.length + 2) (w := { w with drawn := w.drawn + 1 }) (S := fun w' => ∃ x : Cls C, w' = x.w) hsel hQ ⟨⟨_, hC⟩, rfl⟩ F _ a inv0 hpre (wpQuiet_imp (fun a' ha' => ?_) _ _ h)
  · rw [hlen] at key
    exact wpAny_of_D _ _ _ _ key
  obtain ⟨G1, G2⟩ := ha'
  rw [pick3_cons g0, pick3_cons h0] at G1
  rw [pick3_cons h0] at G2
  refine ⟨fun hn => (by rw [hr0] at hn; cases hn), fun i hi => ?_⟩
  rw [hr0] at hi
  rcases List.mem_cons.1 hi with rfl | hi
  · refine wpOp_mono (fun a2 w2 h2 => ⟨.inr h2.1, ?_⟩) (op_of_heldK h0' G2)
    have h3 : wpQuiet P l.toArray (fun w' => ∃ x : Cls C, w' = x.w) (fun a3 => wpHeld P l.toArray Q (fun w' => ∃ x : Cls C, w' = x.w) (pick3 l (al :: T2)) a3 w2) (pick3 l P2) a2 := h2.2
    have := pre_anyD (P := P) (md := .any) (Q := Q) (T := al :: T2) (w := w2) hsel hQ h2.1 P2 _ a2 (inv1.set mk) hp2 h3
    rw [show P2.length + (al :: T2).length = P2.length + T2.length + 1 by simp; omega] at this
    exact this
  · obtain rfl : i = al := by simpa using hi
    refine wpOp_mono (fun a2 w2 h2 => ⟨.inr h2.1, ?_⟩) (op_of_heldK g0' G1)
    refine ⟨fun hn => (by rw [hr1] at hn; cases hn), fun j hj => ?_⟩
    rw [hr1] at hj
    obtain rfl : j = k := by simpa using hj
    refine wpOp_mono (fun a3 w3 h3 => ⟨.inr h3.1, ?_⟩) (op_of_heldK h0' h2.2)
    have h4 : wpQuiet P l.toArray (fun w' => ∃ x : Cls C, w' = x.w) (fun a3 => wpHeld P l.toArray Q (fun w' => ∃ x : Cls C, w' = x.w) (pick3 l T2) a3 w3) (pick3 l P2) a3 := h3.2
    exact pre_anyD (P := P) (md := .any) (Q := Q) (T := T2) (w := w3) hsel hQ h3.1 P2 _ a3 ((inv1.set ma).set mk2) hp1 h4
end
end Go.Proofs.Yteljkdihlklliaa
/- A law: a drawn region walked by a script: what only gives a value is taken first, what may come up beside it is parted. Conditions: the marks that the kernel decides. -/
namespace Go.Proofs.Yteljkdihlklliaa
open Go Go.RowKit
set_option maxHeartbeats 400000
/-- How a region is walked: operations that give a value are taken first; one comes up alone; two may come up; a smaller class of worlds from here on; a forced tail. -/
inductive Scr where
  | take (is : List Nat) (s : Scr)
  | one (k : Nat) (s : Scr)
  | fork (k al : Nat) (s1 s2 : Scr)
  | narrow (s : Scr)
  | last (T : List Nat)
section
variable {P : Program} {Q : Exit → Act → World → Prop}
def Scr.ok (md : Region.Mode) (ops : Array Oper) : Scr → Nat → Array Bool → Bool
  | .take is s, n, done => decide (is.length ≤ n) && pre5 md ops is done && Scr.ok md ops s (n - is.length) (markAll is done)
  | .one k s, n, done => decide (1 ≤ n) && decide (k < ops.size) && decide (Region.ready md ops done = [k]) && Scr.ok md ops s (n - 1) (done.setIfInBounds k true)
  | .fork k al s1 s2, n, done => decide (1 ≤ n) && decide (k < ops.size) && decide (al < ops.size) && decide (Region.ready md ops done = [k, al]) && Scr.ok md ops s1 (n - 1) (done.setIfInBounds k true) && Scr.ok md ops s2 (n - 1) (done.setIfInBounds al true)
  | .narrow s, n, done => Scr.ok md ops s n done
  | .last T, n, done => decide (T.length = n) && decide (done.size = ops.size) && seq4 md ops T done
def wpS (P : Program) (l : List Oper) (Q : Exit → Act → World → Prop) : Scr → (World → Prop) → Act → World → Prop
  | .take is s, S, a, w => wpQuiet P l.toArray S (fun a' => wpS P l Q s S a' w) (pick3 l is) a
  | .one k s, S, a, w => wpHeldK P l.toArray Q S (fun a' w' => wpS P l Q s S a' w') (pick3 l [k]) a w
  | .fork k al s1 s2, S, a, w => wpHeldK P l.toArray Q S (fun a' w' => wpS P l Q s1 S a' w') (pick3 l [k]) a w ∧ wpHeldK P l.toArray Q S (fun a' w' => wpS P l Q s2 S a' w') (pick3 l [al]) a w
  | .narrow s, S, a, w => ∃ S' : World → Prop, (∀ w', S' w' → S w') ∧ S' w ∧ wpS P l Q s S' a w
  | .last T, S, a, w => wpHeld P l.toArray Q S (pick3 l T) a w
theorem wpAnyD_imp {md : Region.Mode} {ops : Array Oper} {S S' : World → Prop} (hi : ∀ w, S' w → S w) : ∀ (n : Nat) (done : Array Bool) (a : Act) (w : World), wpAnyD P md ops Q S' n done a w → wpAnyD P md ops Q S n done a w
  | 0, _, _, _, h => h
  | _ + 1, _, _, _, h => ⟨h.1, fun i hj => wpOp_mono (fun a' w' h' => ⟨h'.1.imp id (hi w'), wpAnyD_imp hi _ _ a' w' h'.2⟩) (h.2 i hj)⟩
theorem scr_any {l : List Oper} (hsel : Region.noSelect l.toArray = true) (hQ : ∀ c tmps a w, Q (.panic c) { a with tmps := tmps } w → Q (.panic c) a w) :
    ∀ (s : Scr) (S : World → Prop) (n : Nat) (done : Array Bool) (a : Act) (w : World), Marks4 .any l.toArray done → S w → s.ok .any l.toArray n done = true → wpS P l Q s S a w → wpAnyD P .any l.toArray Q S n done a w
  | .take is s, S, n, done, a, w, hM, hS, hB, h => by
    simp only [Scr.ok, Bool.and_eq_true, decide_eq_true_eq] at hB
    obtain ⟨⟨hn, hp⟩, hB⟩ := hB
    have := pre_anyD2 (P := P) (md := .any) (Q := Q) (S := S) (m := n - is.length) (w := w) hsel hQ hS is done a hM hp (wpQuiet_imp (fun a' ha' => scr_any hsel hQ s S _ _ _ _ (marks_all is _ hM hp) hS hB ha') _ _ h)
    rwa [show is.length + (n - is.length) = n by omega] at this
  | .one k s, S, n, done, a, w, hM, hS, hB, h => by
    simp only [Scr.ok, Bool.and_eq_true, decide_eq_true_eq] at hB
    obtain ⟨⟨⟨hn, hk⟩, hr⟩, hB⟩ := hB
    obtain ⟨n, rfl⟩ : ∃ m, n = m + 1 := ⟨n - 1, by omega⟩
    obtain ⟨ok, h0⟩ : ∃ o, l[k]? = some o := ⟨_, List.getElem?_eq_getElem (by simpa using hk)⟩
    have h0' : l.toArray[k]? = some ok := by simpa using h0
    have mk : k ∈ Region.ready .any l.toArray done := by rw [hr]; simp
    have h1 : wpHeldK P l.toArray Q S (fun a' w' => wpS P l Q s S a' w') (pick3 l [k]) a w := h
    rw [pick3_cons h0] at h1
    refine ⟨fun hn => (by rw [hr] at hn; cases hn), fun i hi => ?_⟩
    rw [hr] at hi
    obtain rfl : i = k := by simpa using hi
    exact wpOp_mono (fun a2 w2 h2 => ⟨.inr h2.1, scr_any hsel hQ s S n _ a2 w2 (hM.set mk) h2.1 hB h2.2⟩) (op_of_heldK h0' h1)
  | .fork k al s1 s2, S, n, done, a, w, hM, hS, hB, h => by
    simp only [Scr.ok, Bool.and_eq_true, decide_eq_true_eq] at hB
    obtain ⟨⟨⟨⟨⟨hn, hk⟩, hal⟩, hr⟩, hB1⟩, hB2⟩ := hB
    obtain ⟨n, rfl⟩ : ∃ m, n = m + 1 := ⟨n - 1, by omega⟩
    obtain ⟨ok, h0⟩ : ∃ o, l[k]? = some o := ⟨_, List.getElem?_eq_getElem (by simpa using hk)⟩
    have h0' : l.toArray[k]? = some ok := by simpa using h0
    obtain ⟨oa, g0⟩ : ∃ o, l[al]? = some o := ⟨_, List.getElem?_eq_getElem (by simpa using hal)⟩
    have g0' : l.toArray[al]? = some oa := by simpa using g0
    have mk : k ∈ Region.ready .any l.toArray done := by rw [hr]; simp
    have ma : al ∈ Region.ready .any l.toArray done := by rw [hr]; simp
    have h1 : wpHeldK P l.toArray Q S (fun a' w' => wpS P l Q s1 S a' w') (pick3 l [k]) a w := h.1
    have h2 : wpHeldK P l.toArray Q S (fun a' w' => wpS P l Q s2 S a' w') (pick3 l [al]) a w := h.2
    rw [pick3_cons h0] at h1
    rw [pick3_cons g0] at h2
    refine ⟨fun hn => (by rw [hr] at hn; cases hn), fun i hi => ?_⟩
    rw [hr] at hi
    rcases List.mem_cons.1 hi with rfl | hi
    · exact wpOp_mono (fun a2 w2 h3 => ⟨.inr h3.1, scr_any hsel hQ s1 S n _ a2 w2 (hM.set mk) h3.1 hB1 h3.2⟩) (op_of_heldK h0' h1)
    · obtain rfl : i = al := by simpa using hi
      exact wpOp_mono (fun a2 w2 h3 => ⟨.inr h3.1, scr_any hsel hQ s2 S n _ a2 w2 (hM.set ma) h3.1 hB2 h3.2⟩) (op_of_heldK g0' h2)
  | .narrow s, S, n, done, a, w, hM, _, hB, h => by
    obtain ⟨S', h1, h2, h3⟩ := h
    exact wpAnyD_imp h1 _ _ _ _ (scr_any hsel hQ s S' n done a w hM h2 hB h3)
  | .last T, S, n, done, a, w, hM, hS, hB, h => by
    simp only [Scr.ok, Bool.and_eq_true, decide_eq_true_eq] at hB
    obtain ⟨⟨rfl, hsz⟩, hB⟩ := hB
    exact wpAnyD_of_seq4 T done a w hsz hB h
theorem wpS_take {l : List Oper} {is : List Nat} {s : Scr} {S : World → Prop} {a : Act} {w : World} (h : wpQuiet P l.toArray S (fun a' => wpS P l Q s S a' w) (pick3 l is) a) : wpS P l Q (.take is s) S a w := h
theorem wpS_one {l : List Oper} {k : Nat} {s : Scr} {S : World → Prop} {a : Act} {w : World} (h : wpHeldK P l.toArray Q S (fun a' w' => wpS P l Q s S a' w') (pick3 l [k]) a w) : wpS P l Q (.one k s) S a w := h
theorem wpS_fork {l : List Oper} {k al : Nat} {s1 s2 : Scr} {S : World → Prop} {a : Act} {w : World} (h1 : wpHeldK P l.toArray Q S (fun a' w' => wpS P l Q s1 S a' w') (pick3 l [k]) a w) (h2 : wpHeldK P l.toArray Q S (fun a' w' => wpS P l Q s2 S a' w') (pick3 l [al]) a w) : wpS P l Q (.fork k al s1 s2) S a w := ⟨h1, h2⟩
theorem wpS_narrow {l : List Oper} {s : Scr} {S : World → Prop} {a : Act} {w : World} (C : World → Prop) (hi : ∀ w', C w' → S w') (hw : C w) (h : wpS P l Q s (fun w' => ∃ x : Cls C, w' = x.w) a w) : wpS P l Q (.narrow s) S a w :=
  ⟨fun w' => ∃ x : Cls C, w' = x.w, fun w' ⟨x, e⟩ => by rw [e]; exact hi _ x.h, ⟨⟨w, hw⟩, rfl⟩, h⟩
theorem wpS_last {l : List Oper} {T : List Nat} {S : World → Prop} {a : Act} {w : World} (h : wpHeld P l.toArray Q S (pick3 l T) a w) : wpS P l Q (.last T) S a w := h
/-- THE REGION, by a script. -/
theorem wp_script {id : Nat} {a : Act} {w : World} {l : List Oper} (C : World → Prop) (hC : C (w.drewN 1)) (s : Scr) (hm : P.follows .mixedOrders = true)
    (hB : (Region.noSelect l.toArray && s.ok .any l.toArray l.toArray.size (Array.replicate l.toArray.size false)) = true)
    (hQ : ∀ c tmps a w, Q (.panic c) { a with tmps := tmps } w → Q (.panic c) a w)
    (h : Nonempty (Cls C) → wpS P l Q s (fun w' => ∃ x : Cls C, w' = x.w) a (w.drewN 1)) : (Code.region id l.toArray true).wp P Q a w := by
  have h := h ⟨⟨_, hC⟩⟩
  rw [Bool.and_eq_true] at hB
  have inv0 : Marks4 .any l.toArray (Array.replicate l.toArray.size false) :=
    ⟨by simp, fun j oj _ hl => by rw [getD_replicate_false] at hl; exact absurd hl (by decide)⟩
  refine wp_region_any hm ?_
  exact wpAny_of_D _ _ _ _ (scr_any hB.1 hQ s _ _ _ a _ inv0 ⟨⟨_, hC⟩, rfl⟩ hB.2 h)
end
end Go.Proofs.Yteljkdihlklliaa
/- table.Make: whether routes and downtracks may be a table, and the table. Conditions: numbers of their types; no more than 1000. (Written by wip/gen/tablemake.py.) -/
namespace Go.Proofs.Yteljkdihlklliaa
open Go Go.RowKit Go.Maps
set_option maxHeartbeats 400000
def kRt (r : Rt) : Lit := kU r.ssrc
def vRt (r : Rt) : Value := .agg (encRt r).toArray
def kDn (d : Dn) : Lit := kU d.ssrc
def vDn (d : Dn) : Value := .agg (encDn d).toArray
theorem key_U (x : Int) : WideAt.IsKeyLit (kU x) := trivial
theorem key_P (a b : Int) : WideAt.IsKeyLit (kP a b) := trivial
theorem key_R (a b : Int) : WideAt.IsKeyLit (kR a b) := trivial
theorem wf_i {x : Int} (h : I64 x) : (Lit.int .i64 x).wf = true := WalkArith.wf_i64 h
theorem wf_u {x : Int} (h : U32n x) : (Lit.int .u32 x).wf = true := WalkArith.wf_u32 h
theorem wf_wrap (x : Int) : (Lit.int .i64 (IntKind.i64.wrap x)).wf = true := WalkArith.wf_i64 (by unfold IntKind.wrap; simp [IntKind.bits, IntKind.signed]; omega)
theorem zero_int (u : World) : (zeroValue 3).run Try.prog u = .ok (.int .i64 0) u := by kernel_rfl
theorem kU_inj {a b : Int} (h : kU a = kU b) : a = b := by injection h
theorem kP_inj {a b c d : Int} (ha : I64 a) (hb : I64 b) (hc : I64 c) (hd : I64 d) (h : kP a b = kP c d) : (a, b) = (c, d) := by
  have h1 := keyOf_P (wf_i ha) (wf_i hb)
  rw [h] at h1
  have h2 := keyedP.inj h1 (keyOf_P (wf_i hc) (wf_i hd))
  simpa using h2
theorem kR_inj {a b c d : Int} (ha : I64 a) (hb : U32n b) (hc : I64 c) (hd : U32n d) (h : kR a b = kR c d) : (a, b) = (c, d) := by
  have h1 := keyOf_R (wf_i ha) (wf_u hb)
  rw [h] at h1
  have h2 := keyedR.inj h1 (keyOf_R (wf_i hc) (wf_u hd))
  simpa using h2
/-- the counts tell whether routes may be in a table -/
theorem mayR_iff {rs : List Rt} (hok : ∀ r, r ∈ rs → r.Ok) (hlow : ∀ r, r ∈ rs → r.ssrc ≤ 2147483647) {D : DataW Value} (hc : Cnt D (rs.map (fun r => kP r.track r.layer))) :
    ¬ (Maps.size (tab kRt vRt rs) + Maps.size D < 2 * rs.length) ↔ MayR rs := by
  rw [cnt2 (tab_cnt (k := kRt) (v := vRt) (fun a => key_U _) rs) hc (by simp) (by simp)]
  have e1 : (rs.map kRt).Nodup ↔ Uniq Rt.ssrc rs := nodup_via Rt.ssrc (g := kU) rs (fun a _ b _ h => kU_inj h)
  have e2 : (rs.map (fun r => kP r.track r.layer)).Nodup ↔ Uniq (fun r => (r.track, r.layer)) rs := nodup_via (fun r : Rt => (r.track, r.layer)) (g := fun p => kP p.1 p.2) rs (fun a ha b hb h => kP_inj (hok a ha).track (hok a ha).layer (hok b hb).track (hok b hb).layer h)
  rw [e1, e2]
  exact ⟨fun h => ⟨hlow, h.1, h.2⟩, fun h => ⟨h.one, h.lay⟩⟩
theorem mayD_iff {ds : List Dn} (hok : ∀ d, d ∈ ds → d.Ok) (hhi : ∀ d, d ∈ ds → 2147483648 ≤ d.ssrc) {D E : DataW Value} (hc : Cnt D (ds.map (fun d => kP d.who d.track))) (he : Cnt E (ds.map (fun d => kR d.slot d.turn))) :
    ¬ (Maps.size (tab kDn vDn ds) + Maps.size D + Maps.size E < 3 * ds.length) ↔ MayD ds := by
  rw [cnt3 (tab_cnt (k := kDn) (v := vDn) (fun a => key_U _) ds) hc he (by simp) (by simp) (by simp)]
  have e1 : (ds.map kDn).Nodup ↔ Uniq Dn.ssrc ds := nodup_via Dn.ssrc (g := kU) ds (fun a _ b _ h => kU_inj h)
  have e2 : (ds.map (fun d => kP d.who d.track)).Nodup ↔ Uniq (fun d => (d.who, d.track)) ds := nodup_via (fun d : Dn => (d.who, d.track)) (g := fun p => kP p.1 p.2) ds (fun a ha b hb h => kP_inj (hok a ha).who (hok a ha).track (hok b hb).who (hok b hb).track h)
  have e3 : (ds.map (fun d => kR d.slot d.turn)).Nodup ↔ Uniq (fun d => (d.slot, d.turn)) ds := nodup_via (fun d : Dn => (d.slot, d.turn)) (g := fun p => kR p.1 p.2) ds (fun a ha b hb h => kR_inj (hok a ha).slot (hok a ha).turn (hok b hb).slot (hok b hb).turn h)
  rw [e1, e2, e3]
  exact ⟨fun h => ⟨hhi, h.1, h.2.2, h.2.1⟩, fun h => ⟨h.one, h.who, h.ref⟩⟩
/-- a table in memory: its three blocks from N on -/
structure IsT (w : World) (N T : Nat) (ep : Int) (rs : List Rt) (ds : List Dn) (mr md : Nat) : Prop where
  blk : Blk w T 66 #[.int .u64 ep, .map (some mr), .map (some md)]
  rt : w.ownsMap Try.prog 25 rV mr rs.length (tab kRt vRt rs)
  dn : w.ownsMap Try.prog 25 rV md ds.length (tab kDn vDn ds)
  base : N ≤ T ∧ N ≤ mr ∧ N ≤ md
theorem Upd.box' {w W w' : World} {g : Nat} (u : Upd [] w W) (h : Upd [g] W w') (hg : w.heap.size ≤ g) : Upd [] w w' :=
  Upd.of_below ((u.below (Nat.le_refl _) (by simp)).trans (h.below u.size (fun s hs => by rw [List.mem_singleton] at hs; omega)))
set_option maxRecDepth 100000 in
set_option maxHeartbeats 4000000 in
theorem make_any {w : World} {A B : Option Addr} {ca cb : Nat} {rs : List Rt} {ds : List Dn} (ep : Int) (hA : CellsIn w 0 w.heap.size 5 A rs.length (rs.flatMap encRt)) (hB : CellsIn w 0 w.heap.size 10 B ds.length (ds.flatMap encDn))
    (hr : ∀ r, r ∈ rs → r.Ok) (hd : ∀ d, d ∈ ds → d.Ok) (hlr : rs.length ≤ 1000) (hld : ds.length ≤ 1000) :
    Calls Try.prog 8 #[.int .u64 ep, .slice A rs.length ca, .slice B ds.length cb] w fun e w' => Upd [] w w' ∧
      (((MayR rs ∧ MayD ds) ∧ ∃ T mr md, e = .returned (.tuple #[.pointer (some ⟨T, 0, none⟩), .int .i64 0]) ∧ IsT w' w.heap.size T ep rs ds mr md) ∨ (¬ (MayR rs ∧ MayD ds) ∧ e = .returned (.tuple #[.pointer none, .int .i64 1]))) := by
  have HA := Lib.hid hA
  have HB := Lib.hid hB
  have HR := Lib.hid hr
  have HD := Lib.hid hd
  clear hA hB hr hd
  obtain ⟨n, hn⟩ : ∃ n, n = rs.length := ⟨_, rfl⟩
  obtain ⟨m, hm⟩ : ∃ m, m = ds.length := ⟨_, rfl⟩
  rw [← hn, ← hm]
  rw [← hn] at hlr
  rw [← hm] at hld
  have HN := Lib.hid hn
  have HM := Lib.hid hm
  clear hn hm
  obtain ⟨N, hN⟩ : ∃ N, N = w.heap.size := ⟨_, rfl⟩
  have hmm := @run_makeMap Try.prog
  go_enter Try.func8, Try.ntmps8
  go_upto_region 3 with fail
  obtain ⟨ml, hml⟩ : ∃ k, k = w.heap.size + 1 + 1 + 1 := ⟨_, rfl⟩
  obtain ⟨T, hT⟩ : ∃ k, k = w.heap.size + 1 + 1 := ⟨_, rfl⟩
  obtain ⟨md, hmd⟩ : ∃ k, k = w.heap.size + 1 := ⟨_, rfl⟩
  obtain ⟨mr, hmr⟩ : ∃ k, k = w.heap.size := ⟨_, rfl⟩
  rw [← hml, ← hT, ← hmd, ← hmr]
  obtain ⟨w1, hw1⟩ : ∃ z, z = w.alloc (.map #[] 0) := ⟨_, rfl⟩
  rw [← hw1]
  obtain ⟨w2, hw2⟩ : ∃ z, z = w1.alloc (.map #[] 0) := ⟨_, rfl⟩
  rw [← hw2]
  obtain ⟨w3, hw3⟩ : ∃ z, z = w2.alloc (.cells #[.int .u64 ep, .map (some mr), .map (some md)] 66) := ⟨_, rfl⟩
  rw [← hw3]
  obtain ⟨W, hW⟩ : ∃ z, z = w3.alloc (.map #[] 0) := ⟨_, rfl⟩
  rw [← hW]
  have s1 : w1.heap.size = md := by rw [hw1, World.size_alloc, hmd]
  have s2 : w2.heap.size = T := by rw [hw2, World.size_alloc, s1, hmd, hT]
  have s3 : w3.heap.size = ml := by rw [hw3, World.size_alloc, s2, hT, hml]
  have u3 : Upd [] w3 W := by rw [hW]; exact (Upd.refl [] w3).alloc _
  have u2 : Upd [] w2 W := Upd.next (by rw [hw3]; exact (Upd.refl [] w2).alloc _) u3
  have u1 : Upd [] w1 W := Upd.next (by rw [hw2]; exact (Upd.refl [] w1).alloc _) u2
  have HU : Hid (Upd [] w W) := Lib.hid (Upd.next (by rw [hw1]; exact (Upd.refl [] w).alloc _) u1)
  have HMR : Hid (W.ownsMap Try.prog 25 rV mr 0 (.map [])) := Lib.hid (owns_upd (by rw [hw1, hmr]; exact World.ownsMap_made _ _ _ _) u1 (by simp))
  have HMD : Hid (W.ownsMap Try.prog 25 rV md 0 (.map [])) := Lib.hid (owns_upd (by rw [hw2, ← s1]; exact World.ownsMap_made _ _ _ _) u2 (by simp))
  have HT : Hid (Blk W T 66 #[.int .u64 ep, .map (some mr), .map (some md)]) := Lib.hid (by
    have : Blk w3 T 66 #[.int .u64 ep, .map (some mr), .map (some md)] := by rw [hw3, ← s2]; exact Blk.new _ _ _
    exact this.upd u3 (by simp))
  have HML : Hid (W.ownsMap Try.prog 69 (plainElem (H := Value) Try.prog 3) ml 0 (.map [])) := Lib.hid (by rw [hW, ← s3]; exact World.ownsMap_made _ _ _ _)
  have HNE : Hid (w.heap.size = mr ∧ md = mr + 1 ∧ T = mr + 2 ∧ ml = mr + 3) := Lib.hid (by omega)
  clear hml hT hmd hmr hw1 hw2 hw3 hW s1 s2 s3 u1 u2 u3
  go_wp2
  go_loopg [24] n (fun gk x24 wr => ∃ (i : Nat) (D : DataW Value), i ≤ n ∧ n ≤ i + gk ∧ x24 = .int .i64 i ∧ (∀ r, r ∈ rs.take i → r.ssrc ≤ 2147483647) ∧ wr.ownsMap Try.prog 25 rV mr i (tab kRt vRt (rs.take i)) ∧ wr.ownsMap Try.prog 25 rV md 0 (.map []) ∧
      wr.ownsMap Try.prog 69 (plainElem Try.prog 3) ml i D ∧ Cnt D ((rs.take i).map (fun r => kP r.track r.layer)) ∧ Blk wr T 66 #[.int .u64 ep, .map (some mr), .map (some md)] ∧ Upd [] w wr)
  case atStart => exact ⟨0, _, Nat.zero_le _, by omega, rfl, by simp, HMR.out, HMD.out, HML.out, cnt_nil, HT.out, HU.out⟩
  case round =>
    obtain ⟨i, D, hi, hgi, rfl, hlow, hmr, hmd, hml, hcn, hbt, hu⟩ := hrel
    clear HMR HMD HML HT HU
    by_cases hlt : i < n
    · obtain ⟨r, hri⟩ : ∃ r, rs[i]? = some r := ⟨_, List.getElem?_eq_getElem (by rw [← HN.out]; exact hlt)⟩
      have hok := HR.out r (List.mem_of_getElem? hri)
      have htk : rs.take (i + 1) = rs.take i ++ [r] := by rw [List.take_add_one, hri]; rfl
      obtain ⟨b, off, hAe, -, hb2, hcc⟩ := HA.out.2 (by rw [← HN.out]; omega)
      subst hAe
      have c0 : wr.cell? ⟨b, off + (i * 5 + 0), none⟩ = some (.int .u32 r.ssrc) := (hu.cell (p := ⟨b, off + (i * 5 + 0), none⟩) hb2 (by simp)).trans (hcc (i * 5 + 0) _ (flat_get encRt_len rs i 0 r hri (by omega)))
      have c1 : wr.cell? ⟨b, off + (i * 5 + 1), none⟩ = some (.int .i64 r.track) := (hu.cell (p := ⟨b, off + (i * 5 + 1), none⟩) hb2 (by simp)).trans (hcc (i * 5 + 1) _ (flat_get encRt_len rs i 1 r hri (by omega)))
      have c2 : wr.cell? ⟨b, off + (i * 5 + 2), none⟩ = some (.int .i64 r.src) := (hu.cell (p := ⟨b, off + (i * 5 + 2), none⟩) hb2 (by simp)).trans (hcc (i * 5 + 2) _ (flat_get encRt_len rs i 2 r hri (by omega)))
      have c3 : wr.cell? ⟨b, off + (i * 5 + 3), none⟩ = some (.int .i64 r.layer) := (hu.cell (p := ⟨b, off + (i * 5 + 3), none⟩) hb2 (by simp)).trans (hcc (i * 5 + 3) _ (flat_get encRt_len rs i 3 r hri (by omega)))
      have c4 : wr.cell? ⟨b, off + (i * 5 + 4), none⟩ = some (.int .i64 r.shard) := (hu.cell (p := ⟨b, off + (i * 5 + 4), none⟩) hb2 (by simp)).trans (hcc (i * 5 + 4) _ (flat_get encRt_len rs i 4 r hri (by omega)))
      simp only [← Nat.add_assoc, Nat.add_zero] at c0 c1 c2 c3 c4
      have hlti : (i : Int) < (n : Int) := by omega
      have hwi : IntKind.i64.wrap ((i : Int) + 1) = (i : Int) + 1 := IntWalk.i64_in _ (by omega)
      have hTl := hbt.lt
      have hml2 := hml.lt
      obtain ⟨rb, hrb⟩ : ∃ k, k = wr.heap.size := ⟨_, rfl⟩
      obtain ⟨W1, hW1⟩ : ∃ z, z = wr.alloc (.cells #[.int .u32 r.ssrc, .int .i64 r.track, .int .i64 r.src, .int .i64 r.layer, .int .i64 r.shard] 37) := ⟨_, rfl⟩
      have u1 : Upd [] wr W1 := by rw [hW1]; exact (Upd.refl [] wr).alloc _
      have hbr : Blk W1 rb 37 #[.int .u32 r.ssrc, .int .i64 r.track, .int .i64 r.src, .int .i64 r.layer, .int .i64 r.shard] := by rw [hW1, hrb]; exact Blk.new _ _ _
      have HBR := Lib.hid hbr
      have HU1 := Lib.hid (hu.next u1)
      have HMR1 := Lib.hid (owns_upd hmr u1 (by simp))
      have HMD1 := Lib.hid (owns_upd hmd u1 (by simp))
      have HML1 := Lib.hid (owns_upd hml u1 (by simp))
      have HBT1 := Lib.hid (hbt.upd u1 (by simp))
      have HLT : Hid (ml < rb ∧ T < rb ∧ rb < W1.heap.size) := Lib.hid ⟨by rw [hrb]; exact hml2, by rw [hrb]; exact hTl, hbr.lt⟩
      have HCN := Lib.hid hcn
      have HLOW := Lib.hid hlow
      have HOK := Lib.hid hok
      have HTK := Lib.hid htk
      have HRI := Lib.hid (List.mem_of_getElem? hri)
      have HGI := Lib.hid hgi
      clear hbr u1 hmr hmd hml hcn hbt hu hlow hok htk hri hgi hTl hml2 hcc hb2
      go_upto_region 6 with fail
      rw [← hW1, ← hrb]
      clear hW1 hrb c0 c1 c2 c3 c4
      have t1 : W1.cell? ⟨T, 1, none⟩ = some (.map (some mr)) := HBT1.out.cell 1
      have r0 : W1.cell? ⟨rb, 0, none⟩ = some (.int .u32 r.ssrc) := HBR.out.cell 0
      have r1 : W1.cell? ⟨rb, 1, none⟩ = some (.int .i64 r.track) := HBR.out.cell 1
      have r2 : W1.cell? ⟨rb, 2, none⟩ = some (.int .i64 r.src) := HBR.out.cell 2
      have r3 : W1.cell? ⟨rb, 3, none⟩ = some (.int .i64 r.layer) := HBR.out.cell 3
      have r4 : W1.cell? ⟨rb, 4, none⟩ = some (.int .i64 r.shard) := HBR.out.cell 4
      have hkr : keyOf Try.prog 25 (.int .u32 r.ssrc) = some (kU r.ssrc) := keyOf_U (wf_u HOK.out.ssrc)
      refine wp_quiet_tail 7 (by kernel_rfl) (by kernel_rfl) (fun _ _ _ _ h => h) ?_
      simp only [List.take_succ_cons, List.take_zero, List.drop_succ_cons, List.drop_zero]
      repeat (go_big_quiet_step (fail))
      refine wpQuiet_nil ?_
      rintro _ ⟨nq, rfl⟩
      refine wpList_mapUpdate_own _ rfl _ _ _ 63 rfl 25 37 keyedU Try.underlying63 rV mr i _ rfl (owns_upd HMR1.out ((Upd.refl [] W1).drewN nq) (by simp)) (by unfold maxLen; omega) _ _ (kU r.ssrc) rfl rfl hkr (.held (vRt r)) [] rfl ?_
      intro w2 hown2 hg2
      have u2 : Upd [mr] W1 w2 := ((Upd.refl [mr] W1).drewN nq).next (Upd.of_grown hg2)
      have HMR2 : Hid (w2.ownsMap Try.prog 25 rV mr (i + 1) (tab kRt vRt (rs.take (i + 1)))) := Lib.hid (by rw [HTK.out, tab_snoc]; exact hown2)
      have HMD2 := Lib.hid (owns_upd HMD1.out u2 (by have := HNE.out; simp; omega))
      have HML2 := Lib.hid (owns_upd HML1.out u2 (by have := HNE.out; simp; omega))
      have HBT2 := Lib.hid (HBT1.out.upd u2 (by have := HNE.out; simp; omega))
      have HBR2 := Lib.hid (HBR.out.upd u2 (by have := HNE.out; have := HLT.out; simp; omega))
      have HU2 := Lib.hid (HU1.out.box' u2 (by have := HNE.out; omega))
      have HS2 : Hid (rb < w2.heap.size) := Lib.hid (Nat.lt_of_lt_of_le HLT.out.2.2 u2.size)
      clear hown2 hg2 u2 HMR1 HMD1 HML1 HBT1 HBR HU1 t1 r0 r1 r2 r3 r4 hkr
      go_upto_region 7 with fail
      go_frame
      go_cut [] (fun wd => ∃ D' : DataW Value, wd.ownsMap Try.prog 69 (plainElem Try.prog 3) ml (i + 1) D' ∧ Cnt D' ((rs.take i).map (fun r => kP r.track r.layer) ++ [kP r.track r.layer]) ∧ Upd [ml] w2 wd)
      case first =>
        have r1 : ∀ z : Cls (Upd [ml] w2), z.w.cell? ⟨rb, 1, none⟩ = some (.int .i64 r.track) := fun z => (z.h.cell (p := ⟨rb, 1, none⟩) HS2.out (by have := HNE.out; have := HLT.out; simp; omega)).trans (HBR2.out.cell 1)
        have r3 : ∀ z : Cls (Upd [ml] w2), z.w.cell? ⟨rb, 3, none⟩ = some (.int .i64 r.layer) := fun z => (z.h.cell (p := ⟨rb, 3, none⟩) HS2.out (by have := HNE.out; have := HLT.out; simp; omega)).trans (HBR2.out.cell 3)
        have hkey := keyOf_P (wf_i HOK.out.track) (wf_i HOK.out.layer)
        refine wp_script (Upd [ml] w2) ((Upd.refl _ _).drewN 1) (.take [0, 1, 2, 3, 4, 5] (.fork 6 8 (.take [7] (.one 8 (.take [9] (.last [10])))) (.take [9] (.one 6 (.take [7] (.last [10])))))) (by kernel_rfl) (by kernel_rfl) (fun _ _ _ _ h => h) ?_
        intro hne
        refine wpS_take ?_
        simp only [pick3, List.map_cons, List.map_nil, List.getElem?_cons_zero, List.getElem?_cons_succ, Option.getD_some]
        repeat (go_big_quiet_step (with_reducible rfl))
        refine wpQuiet_nil ?_
        obtain ⟨v0, hv0⟩ : ∃ z, z = w2.drewN 1 := ⟨_, rfl⟩
        have HJ0 : Hid (Upd [] w2 v0) := Lib.hid (by rw [hv0]; exact (Upd.refl _ _).drewN 1)
        rw [← hv0]
        clear hv0
        have how := owns_upd HML2.out HJ0.out (by simp)
        obtain ⟨e0, st, v1, D1, hen, how1, hge, hst⟩ := entry_own lawPair Try.underlying67 Try.underlying3 zero_int how (by unfold maxLen; omega) hkey
        obtain ⟨c, hlk, -, hcw⟩ := how.lookup_int (Keyed.of_law lawPair) Try.underlying67 Try.underlying3 (zero_int _) hkey
        obtain ⟨c', hlk', -, hcw'⟩ := how1.lookup_int (Keyed.of_law lawPair) Try.underlying67 Try.underlying3 (zero_int _) hkey
        obtain ⟨q, hq⟩ : ∃ q, q = IntKind.i64.wrap (c + 1) := ⟨_, rfl⟩
        have hwq : IntKind.i64.wrap (c + 1) = q := hq.symm
        obtain ⟨v3, hst', how3, hg3⟩ := hst v1 q rfl (by rw [hq]; exact wf_wrap _)
        obtain ⟨q', hq'⟩ : ∃ q, q = IntKind.i64.wrap (c' + 1) := ⟨_, rfl⟩
        have hwq' : IntKind.i64.wrap (c' + 1) = q' := hq'.symm
        obtain ⟨v3', hst'', how3', hg3'⟩ := hst v1 q' rfl (by rw [hq']; exact wf_wrap _)
        have HJ1 : Hid (Upd [ml] w2 v1) := Lib.hid ((HJ0.out.more (by simp)).next (Upd.of_grown hge))
        have HE3 := Lib.hid (And.intro how3 (HJ1.out.next (Upd.of_grown hg3)))
        have HE3' := Lib.hid (And.intro how3' (HJ1.out.next (Upd.of_grown hg3')))
        clear how how1 hge hst hcw hcw' hq hq' how3 how3' hg3 hg3'
        refine wpS_fork ?_ ?_
        · simp only [pick3, List.map_cons, List.map_nil, List.getElem?_cons_zero, List.getElem?_cons_succ, Option.getD_some]
          refine wpHeldK_step rfl fun K hK => ?_
          go_simp
          refine hK.out _ _ ⟨⟨v0, HJ0.out.more (by simp)⟩, rfl⟩ ?_
          clear hK K
          refine wpQuiet_then ?_
          refine wpS_take ?_
          simp only [pick3, List.map_cons, List.map_nil, List.getElem?_cons_zero, List.getElem?_cons_succ, Option.getD_some]
          repeat (go_big_quiet_step (with_reducible rfl))
          refine wpQuiet_nil ?_
          clear hlk hlk' hst'' hwq hwq'
          refine wpS_one ?_
          simp only [pick3, List.map_cons, List.map_nil, List.getElem?_cons_zero, List.getElem?_cons_succ, Option.getD_some]
          refine wpHeldK_step rfl fun K hK => ?_
          go_simp
          refine hK.out _ _ ⟨⟨v1, HJ1.out⟩, rfl⟩ ?_
          clear hK K
          refine wpQuiet_then ?_
          refine wpS_take ?_
          simp only [pick3, List.map_cons, List.map_nil, List.getElem?_cons_zero, List.getElem?_cons_succ, Option.getD_some]
          repeat (go_big_quiet_step (with_reducible rfl))
          refine wpQuiet_nil ?_
          refine wpS_last ?_
          simp only [pick3, List.map_cons, List.map_nil, List.getElem?_cons_zero, List.getElem?_cons_succ, Option.getD_some]
          refine wpHeld_last ?_
          go_wp2
          go_meet
          case rel => exact ⟨_, HE3.out.1, HCN.out.put (key_P _ _) _, HE3.out.2⟩
        · simp only [pick3, List.map_cons, List.map_nil, List.getElem?_cons_zero, List.getElem?_cons_succ, Option.getD_some]
          refine wpHeldK_step rfl fun K hK => ?_
          go_simp
          refine hK.out _ _ ⟨⟨v1, HJ1.out⟩, rfl⟩ ?_
          clear hK K
          refine wpQuiet_then ?_
          refine wpS_take ?_
          simp only [pick3, List.map_cons, List.map_nil, List.getElem?_cons_zero, List.getElem?_cons_succ, Option.getD_some]
          repeat (go_big_quiet_step (with_reducible rfl))
          refine wpQuiet_nil ?_
          refine wpS_one ?_
          simp only [pick3, List.map_cons, List.map_nil, List.getElem?_cons_zero, List.getElem?_cons_succ, Option.getD_some]
          refine wpHeldK_step rfl fun K hK => ?_
          go_simp
          refine hK.out _ _ ⟨⟨v1, HJ1.out⟩, rfl⟩ ?_
          clear hK K
          refine wpQuiet_then ?_
          refine wpS_take ?_
          simp only [pick3, List.map_cons, List.map_nil, List.getElem?_cons_zero, List.getElem?_cons_succ, Option.getD_some]
          repeat (go_big_quiet_step (with_reducible rfl))
          refine wpQuiet_nil ?_
          refine wpS_last ?_
          simp only [pick3, List.map_cons, List.map_nil, List.getElem?_cons_zero, List.getElem?_cons_succ, Option.getD_some]
          refine wpHeld_last ?_
          go_wp2
          go_meet
          case rel => exact ⟨_, HE3'.out.1, HCN.out.put (key_P _ _) _, HE3'.out.2⟩
      obtain ⟨D', hml3, hcn3, hu3⟩ := hcut
      have HMR3 := Lib.hid (owns_upd HMR2.out hu3 (by have := HNE.out; simp; omega))
      have HMD3 := Lib.hid (owns_upd HMD2.out hu3 (by have := HNE.out; simp; omega))
      have HBT3 := Lib.hid (HBT2.out.upd hu3 (by have := HNE.out; simp; omega))
      have HU3 := Lib.hid (HU2.out.box' hu3 (by have := HNE.out; omega))
      have hb3 := HBR2.out.upd hu3 (by have := HNE.out; have := HLT.out; simp; omega)
      have r0 : wc.cell? ⟨rb, 0, none⟩ = some (.int .u32 r.ssrc) := hb3.cell 0
      have HML3 := Lib.hid (And.intro hml3 hcn3)
      clear hml3 hcn3 hu3 hb3 HMR2 HMD2 HBT2 HU2 HML2 HBR2 HS2 HCN
      by_cases hs : 2147483648 ≤ r.ssrc
      · have HE : Hid (¬ (MayR rs ∧ MayD ds)) := Lib.hid (fun h => by have := h.1.low r HRI.out; omega)
        go_wp2
        refine bodyPost_res (v := .tuple #[.pointer none, .int .i64 1]) (by simp [results, Try.results8, go_sem]) rfl ?_; first | exact ⟨HU3.out, .inr ⟨HE.out, rfl⟩⟩ | exact ⟨HU3.out, .inr ⟨fun a b => HE.out ⟨a, b⟩, rfl⟩⟩
      go_wp2
      go_roundg (gk - 1)
      case measure => have := HGI.out; omega
      case rel =>
        refine ⟨i + 1, D', by omega, by have := HGI.out; omega, by go_num, fun x hx => ?_, HMR3.out, HMD3.out, HML3.out.1, by rw [HTK.out, List.map_append]; exact HML3.out.2, HBT3.out, HU3.out⟩
        rw [HTK.out] at hx
        rcases List.mem_append.1 hx with hx | hx
        · exact HLOW.out x hx
        · rw [List.mem_singleton] at hx
          subst hx
          omega
    obtain rfl : n = i := by omega
    rw [HN.out, List.take_length, ← HN.out] at hmr
    rw [HN.out, List.take_length] at hcn
    have hlow' : ∀ r, r ∈ rs → r.ssrc ≤ 2147483647 := fun r hr => hlow r (by rw [HN.out, List.take_length]; exact hr)
    obtain ⟨mp, hmp⟩ : ∃ k, k = wr.heap.size := ⟨_, rfl⟩
    obtain ⟨mf, hmf⟩ : ∃ k, k = wr.heap.size + 1 := ⟨_, rfl⟩
    obtain ⟨w1, hw1⟩ : ∃ z, z = wr.alloc (.map #[] 0) := ⟨_, rfl⟩
    obtain ⟨W, hW⟩ : ∃ z, z = w1.alloc (.map #[] 0) := ⟨_, rfl⟩
    have s1 : w1.heap.size = mf := by rw [hw1, World.size_alloc, hmf]
    have u2 : Upd [] w1 W := by rw [hW]; exact (Upd.refl [] w1).alloc _
    have u1 : Upd [] wr W := Upd.next (by rw [hw1]; exact (Upd.refl [] wr).alloc _) u2
    have HU : Hid (Upd [] w W) := Lib.hid (hu.next u1)
    have HMP : Hid (W.ownsMap Try.prog 69 (plainElem (H := Value) Try.prog 3) mp 0 (.map [])) := Lib.hid (owns_upd (by rw [hw1, hmp]; exact World.ownsMap_made _ _ _ _) u2 (by simp))
    have HMF : Hid (W.ownsMap Try.prog 39 (plainElem (H := Value) Try.prog 3) mf 0 (.map [])) := Lib.hid (by rw [hW, ← s1]; exact World.ownsMap_made _ _ _ _)
    have HMR := Lib.hid (owns_upd hmr u1 (by simp))
    have HMD := Lib.hid (owns_upd hmd u1 (by simp))
    have HML := Lib.hid (owns_upd hml u1 (by simp))
    have HBT := Lib.hid (hbt.upd u1 (by simp))
    have HCN := Lib.hid hcn
    have HLOW := Lib.hid hlow'
    have HNE2 : Hid (ml < mp ∧ mf = mp + 1) := Lib.hid ⟨by rw [hmp]; exact hml.lt, by rw [hmp, hmf]⟩
    clear hmr hmd hml hbt hcn hlow hlow' hu u1 u2 s1 hlt hgi hi
    go_upto_region 13 with fail
    rw [← hw1, ← hmf, ← hW, ← hmp]
    clear hw1 hmf hW hmp
    go_wp2
    go_loopg [53] m (fun gk x53 wr => ∃ (i : Nat) (D2 D3 : DataW Value), i ≤ m ∧ m ≤ i + gk ∧ x53 = .int .i64 i ∧ (∀ d, d ∈ ds.take i → 2147483648 ≤ d.ssrc) ∧ wr.ownsMap Try.prog 25 rV mr n (tab kRt vRt rs) ∧ wr.ownsMap Try.prog 25 rV md i (tab kDn vDn (ds.take i)) ∧
        wr.ownsMap Try.prog 69 (plainElem Try.prog 3) ml n D ∧ wr.ownsMap Try.prog 69 (plainElem Try.prog 3) mp i D2 ∧ Cnt D2 ((ds.take i).map (fun d => kP d.who d.track)) ∧ wr.ownsMap Try.prog 39 (plainElem Try.prog 3) mf i D3 ∧ Cnt D3 ((ds.take i).map (fun d => kR d.slot d.turn)) ∧ Blk wr T 66 #[.int .u64 ep, .map (some mr), .map (some md)] ∧ Upd [] w wr)
    case atStart => exact ⟨0, _, _, Nat.zero_le _, by omega, rfl, by simp, HMR.out, HMD.out, HML.out, HMP.out, cnt_nil, HMF.out, cnt_nil, HBT.out, HU.out⟩
    case round =>
      obtain ⟨i, D2, D3, hi, hgi, rfl, hhi, hmr, hmd, hml, hmp, hcp, hmf, hcf, hbt, hu⟩ := hrel
      clear HMR HMD HML HMP HMF HBT HU
      by_cases hlt : i < m
      · obtain ⟨d, hri⟩ : ∃ d, ds[i]? = some d := ⟨_, List.getElem?_eq_getElem (by rw [← HM.out]; exact hlt)⟩
        have hok := HD.out d (List.mem_of_getElem? hri)
        have htk : ds.take (i + 1) = ds.take i ++ [d] := by rw [List.take_add_one, hri]; rfl
        obtain ⟨b, off, hBe, -, hb2, hcc⟩ := HB.out.2 (by rw [← HM.out]; omega)
        subst hBe
        have c0 : wr.cell? ⟨b, off + (i * 10 + 0), none⟩ = some (.int .u32 d.ssrc) := (hu.cell (p := ⟨b, off + (i * 10 + 0), none⟩) hb2 (by simp)).trans (hcc (i * 10 + 0) _ (flat_get encDn_len ds i 0 d hri (by omega)))
        have c1 : wr.cell? ⟨b, off + (i * 10 + 1), none⟩ = some (.int .i64 d.slot) := (hu.cell (p := ⟨b, off + (i * 10 + 1), none⟩) hb2 (by simp)).trans (hcc (i * 10 + 1) _ (flat_get encDn_len ds i 1 d hri (by omega)))
        have c2 : wr.cell? ⟨b, off + (i * 10 + 2), none⟩ = some (.int .u32 d.turn) := (hu.cell (p := ⟨b, off + (i * 10 + 2), none⟩) hb2 (by simp)).trans (hcc (i * 10 + 2) _ (flat_get encDn_len ds i 2 d hri (by omega)))
        have c3 : wr.cell? ⟨b, off + (i * 10 + 3), none⟩ = some (.int .i64 d.who) := (hu.cell (p := ⟨b, off + (i * 10 + 3), none⟩) hb2 (by simp)).trans (hcc (i * 10 + 3) _ (flat_get encDn_len ds i 3 d hri (by omega)))
        have c4 : wr.cell? ⟨b, off + (i * 10 + 4), none⟩ = some (.int .i64 d.track) := (hu.cell (p := ⟨b, off + (i * 10 + 4), none⟩) hb2 (by simp)).trans (hcc (i * 10 + 4) _ (flat_get encDn_len ds i 4 d hri (by omega)))
        have c5 : wr.cell? ⟨b, off + (i * 10 + 5), none⟩ = some (.int .i64 d.shard) := (hu.cell (p := ⟨b, off + (i * 10 + 5), none⟩) hb2 (by simp)).trans (hcc (i * 10 + 5) _ (flat_get encDn_len ds i 5 d hri (by omega)))
        have c6 : wr.cell? ⟨b, off + (i * 10 + 6), none⟩ = some (.int .i64 d.src) := (hu.cell (p := ⟨b, off + (i * 10 + 6), none⟩) hb2 (by simp)).trans (hcc (i * 10 + 6) _ (flat_get encDn_len ds i 6 d hri (by omega)))
        have c7 : wr.cell? ⟨b, off + (i * 10 + 7), none⟩ = some (.int .i64 d.layer) := (hu.cell (p := ⟨b, off + (i * 10 + 7), none⟩) hb2 (by simp)).trans (hcc (i * 10 + 7) _ (flat_get encDn_len ds i 7 d hri (by omega)))
        have c8 : wr.cell? ⟨b, off + (i * 10 + 8), none⟩ = some (.int .i64 d.tid) := (hu.cell (p := ⟨b, off + (i * 10 + 8), none⟩) hb2 (by simp)).trans (hcc (i * 10 + 8) _ (flat_get encDn_len ds i 8 d hri (by omega)))
        have c9 : wr.cell? ⟨b, off + (i * 10 + 9), none⟩ = some (.bool d.muted) := (hu.cell (p := ⟨b, off + (i * 10 + 9), none⟩) hb2 (by simp)).trans (hcc (i * 10 + 9) _ (flat_get encDn_len ds i 9 d hri (by omega)))
        simp only [← Nat.add_assoc, Nat.add_zero] at c0 c1 c2 c3 c4 c5 c6 c7 c8 c9
        have hlti : (i : Int) < (m : Int) := by omega
        have hwi : IntKind.i64.wrap ((i : Int) + 1) = (i : Int) + 1 := IntWalk.i64_in _ (by omega)
        have hTl := hbt.lt
        have hmf2 := hmf.lt
        obtain ⟨rb, hrb⟩ : ∃ k, k = wr.heap.size := ⟨_, rfl⟩
        obtain ⟨W1, hW1⟩ : ∃ z, z = wr.alloc (.cells #[.int .u32 d.ssrc, .int .i64 d.slot, .int .u32 d.turn, .int .i64 d.who, .int .i64 d.track, .int .i64 d.shard, .int .i64 d.src, .int .i64 d.layer, .int .i64 d.tid, .bool d.muted] 41) := ⟨_, rfl⟩
        have u1 : Upd [] wr W1 := by rw [hW1]; exact (Upd.refl [] wr).alloc _
        have hbr : Blk W1 rb 41 #[.int .u32 d.ssrc, .int .i64 d.slot, .int .u32 d.turn, .int .i64 d.who, .int .i64 d.track, .int .i64 d.shard, .int .i64 d.src, .int .i64 d.layer, .int .i64 d.tid, .bool d.muted] := by rw [hW1, hrb]; exact Blk.new _ _ _
        have HBR := Lib.hid hbr
        have HU1 := Lib.hid (hu.next u1)
        have HMR1 := Lib.hid (owns_upd hmr u1 (by simp))
        have HMD1 := Lib.hid (owns_upd hmd u1 (by simp))
        have HML1 := Lib.hid (owns_upd hml u1 (by simp))
        have HMP1 := Lib.hid (owns_upd hmp u1 (by simp))
        have HMF1 := Lib.hid (owns_upd hmf u1 (by simp))
        have HBT1 := Lib.hid (hbt.upd u1 (by simp))
        have HLT : Hid (mf < rb ∧ rb < W1.heap.size) := Lib.hid ⟨by rw [hrb]; exact hmf2, hbr.lt⟩
        have HCP := Lib.hid hcp
        have HCF := Lib.hid hcf
        have HHI := Lib.hid hhi
        have HOK := Lib.hid hok
        have HTK := Lib.hid htk
        have HRI := Lib.hid (List.mem_of_getElem? hri)
        have HGI := Lib.hid hgi
        clear hbr u1 hmr hmd hml hmp hmf hcp hcf hbt hu hhi hok htk hri hgi hTl hmf2 hcc hb2
        go_upto_region 16 with fail
        rw [← hW1, ← hrb]
        clear hW1 hrb c0 c1 c2 c3 c4 c5 c6 c7 c8 c9
        have t2 : W1.cell? ⟨T, 2, none⟩ = some (.map (some md)) := HBT1.out.cell 2
        have r0 : W1.cell? ⟨rb, 0, none⟩ = some (.int .u32 d.ssrc) := HBR.out.cell 0
        have r1 : W1.cell? ⟨rb, 1, none⟩ = some (.int .i64 d.slot) := HBR.out.cell 1
        have r2 : W1.cell? ⟨rb, 2, none⟩ = some (.int .u32 d.turn) := HBR.out.cell 2
        have r3 : W1.cell? ⟨rb, 3, none⟩ = some (.int .i64 d.who) := HBR.out.cell 3
        have r4 : W1.cell? ⟨rb, 4, none⟩ = some (.int .i64 d.track) := HBR.out.cell 4
        have r5 : W1.cell? ⟨rb, 5, none⟩ = some (.int .i64 d.shard) := HBR.out.cell 5
        have r6 : W1.cell? ⟨rb, 6, none⟩ = some (.int .i64 d.src) := HBR.out.cell 6
        have r7 : W1.cell? ⟨rb, 7, none⟩ = some (.int .i64 d.layer) := HBR.out.cell 7
        have r8 : W1.cell? ⟨rb, 8, none⟩ = some (.int .i64 d.tid) := HBR.out.cell 8
        have r9 : W1.cell? ⟨rb, 9, none⟩ = some (.bool d.muted) := HBR.out.cell 9
        have hkr : keyOf Try.prog 25 (.int .u32 d.ssrc) = some (kU d.ssrc) := keyOf_U (wf_u HOK.out.ssrc)
        refine wp_quiet_tail 7 (by kernel_rfl) (by kernel_rfl) (fun _ _ _ _ h => h) ?_
        simp only [List.take_succ_cons, List.take_zero, List.drop_succ_cons, List.drop_zero]
        repeat (go_big_quiet_step (fail))
        refine wpQuiet_nil ?_
        rintro _ ⟨nq, rfl⟩
        refine wpList_mapUpdate_own _ rfl _ _ _ 64 rfl 25 41 keyedU Try.underlying64 rV md i _ rfl (owns_upd HMD1.out ((Upd.refl [] W1).drewN nq) (by simp)) (by unfold maxLen; omega) _ _ (kU d.ssrc) rfl rfl hkr (.held (vDn d)) [] rfl ?_
        intro w2 hown2 hg2
        have u2 : Upd [md] W1 w2 := ((Upd.refl [md] W1).drewN nq).next (Upd.of_grown hg2)
        have HMD2 : Hid (w2.ownsMap Try.prog 25 rV md (i + 1) (tab kDn vDn (ds.take (i + 1)))) := Lib.hid (by rw [HTK.out, tab_snoc]; exact hown2)
        have HMR2 := Lib.hid (owns_upd HMR1.out u2 (by have := HNE.out; simp; omega))
        have HML2 := Lib.hid (owns_upd HML1.out u2 (by have := HNE.out; simp; omega))
        have HMP2 := Lib.hid (owns_upd HMP1.out u2 (by have := HNE.out; have := HNE2.out; simp; omega))
        have HMF2 := Lib.hid (owns_upd HMF1.out u2 (by have := HNE.out; have := HNE2.out; simp; omega))
        have HBT2 := Lib.hid (HBT1.out.upd u2 (by have := HNE.out; simp; omega))
        have HBR2 := Lib.hid (HBR.out.upd u2 (by have := HNE.out; have := HNE2.out; have := HLT.out; simp; omega))
        have HU2 := Lib.hid (HU1.out.box' u2 (by have := HNE.out; omega))
        have HS2 : Hid (rb < w2.heap.size) := Lib.hid (Nat.lt_of_lt_of_le HLT.out.2 u2.size)
        clear hown2 hg2 u2 HMR1 HMD1 HML1 HMP1 HMF1 HBT1 HBR HU1 t2 r0 r1 r2 r3 r4 r5 r6 r7 r8 r9 hkr
        go_upto_region 17 with fail
        go_frame
        go_cut [] (fun wd => ∃ D' : DataW Value, wd.ownsMap Try.prog 69 (plainElem Try.prog 3) mp (i + 1) D' ∧ Cnt D' ((ds.take i).map (fun d => kP d.who d.track) ++ [kP d.who d.track]) ∧ Upd [mp] w2 wd)
        case first =>
          have r3 : ∀ z : Cls (Upd [mp] w2), z.w.cell? ⟨rb, 3, none⟩ = some (.int .i64 d.who) := fun z => (z.h.cell (p := ⟨rb, 3, none⟩) HS2.out (by have := HNE2.out; have := HLT.out; simp; omega)).trans (HBR2.out.cell 3)
          have r4 : ∀ z : Cls (Upd [mp] w2), z.w.cell? ⟨rb, 4, none⟩ = some (.int .i64 d.track) := fun z => (z.h.cell (p := ⟨rb, 4, none⟩) HS2.out (by have := HNE2.out; have := HLT.out; simp; omega)).trans (HBR2.out.cell 4)
          have hkey := keyOf_P (wf_i HOK.out.who) (wf_i HOK.out.track)
          refine wp_script (Upd [mp] w2) ((Upd.refl _ _).drewN 1) (.take [0, 1, 2, 3, 4, 5] (.fork 6 8 (.take [7] (.one 8 (.take [9] (.last [10])))) (.take [9] (.one 6 (.take [7] (.last [10])))))) (by kernel_rfl) (by kernel_rfl) (fun _ _ _ _ h => h) ?_
          intro hne
          refine wpS_take ?_
          simp only [pick3, List.map_cons, List.map_nil, List.getElem?_cons_zero, List.getElem?_cons_succ, Option.getD_some]
          repeat (go_big_quiet_step (with_reducible rfl))
          refine wpQuiet_nil ?_
          obtain ⟨v0, hv0⟩ : ∃ z, z = w2.drewN 1 := ⟨_, rfl⟩
          have HJ0 : Hid (Upd [] w2 v0) := Lib.hid (by rw [hv0]; exact (Upd.refl _ _).drewN 1)
          rw [← hv0]
          clear hv0
          have how := owns_upd HMP2.out HJ0.out (by simp)
          obtain ⟨e0, st, v1, D1, hen, how1, hge, hst⟩ := entry_own lawPair Try.underlying67 Try.underlying3 zero_int how (by unfold maxLen; omega) hkey
          obtain ⟨c, hlk, -, hcw⟩ := how.lookup_int (Keyed.of_law lawPair) Try.underlying67 Try.underlying3 (zero_int _) hkey
          obtain ⟨c', hlk', -, hcw'⟩ := how1.lookup_int (Keyed.of_law lawPair) Try.underlying67 Try.underlying3 (zero_int _) hkey
          obtain ⟨q, hq⟩ : ∃ q, q = IntKind.i64.wrap (c + 1) := ⟨_, rfl⟩
          have hwq : IntKind.i64.wrap (c + 1) = q := hq.symm
          obtain ⟨v3, hst', how3, hg3⟩ := hst v1 q rfl (by rw [hq]; exact wf_wrap _)
          obtain ⟨q', hq'⟩ : ∃ q, q = IntKind.i64.wrap (c' + 1) := ⟨_, rfl⟩
          have hwq' : IntKind.i64.wrap (c' + 1) = q' := hq'.symm
          obtain ⟨v3', hst'', how3', hg3'⟩ := hst v1 q' rfl (by rw [hq']; exact wf_wrap _)
          have HJ1 : Hid (Upd [mp] w2 v1) := Lib.hid ((HJ0.out.more (by simp)).next (Upd.of_grown hge))
          have HE3 := Lib.hid (And.intro how3 (HJ1.out.next (Upd.of_grown hg3)))
          have HE3' := Lib.hid (And.intro how3' (HJ1.out.next (Upd.of_grown hg3')))
          clear how how1 hge hst hcw hcw' hq hq' how3 how3' hg3 hg3'
          refine wpS_fork ?_ ?_
          · simp only [pick3, List.map_cons, List.map_nil, List.getElem?_cons_zero, List.getElem?_cons_succ, Option.getD_some]
            refine wpHeldK_step rfl fun K hK => ?_
            go_simp
            refine hK.out _ _ ⟨⟨v0, HJ0.out.more (by simp)⟩, rfl⟩ ?_
            clear hK K
            refine wpQuiet_then ?_
            refine wpS_take ?_
            simp only [pick3, List.map_cons, List.map_nil, List.getElem?_cons_zero, List.getElem?_cons_succ, Option.getD_some]
            repeat (go_big_quiet_step (with_reducible rfl))
            refine wpQuiet_nil ?_
            clear hlk hlk' hst'' hwq hwq'
            refine wpS_one ?_
            simp only [pick3, List.map_cons, List.map_nil, List.getElem?_cons_zero, List.getElem?_cons_succ, Option.getD_some]
            refine wpHeldK_step rfl fun K hK => ?_
            go_simp
            refine hK.out _ _ ⟨⟨v1, HJ1.out⟩, rfl⟩ ?_
            clear hK K
            refine wpQuiet_then ?_
            refine wpS_take ?_
            simp only [pick3, List.map_cons, List.map_nil, List.getElem?_cons_zero, List.getElem?_cons_succ, Option.getD_some]
            repeat (go_big_quiet_step (with_reducible rfl))
            refine wpQuiet_nil ?_
            refine wpS_last ?_
            simp only [pick3, List.map_cons, List.map_nil, List.getElem?_cons_zero, List.getElem?_cons_succ, Option.getD_some]
            refine wpHeld_last ?_
            go_wp2
            go_meet
            case rel => exact ⟨_, HE3.out.1, HCP.out.put (key_P _ _) _, HE3.out.2⟩
          · simp only [pick3, List.map_cons, List.map_nil, List.getElem?_cons_zero, List.getElem?_cons_succ, Option.getD_some]
            refine wpHeldK_step rfl fun K hK => ?_
            go_simp
            refine hK.out _ _ ⟨⟨v1, HJ1.out⟩, rfl⟩ ?_
            clear hK K
            refine wpQuiet_then ?_
            refine wpS_take ?_
            simp only [pick3, List.map_cons, List.map_nil, List.getElem?_cons_zero, List.getElem?_cons_succ, Option.getD_some]
            repeat (go_big_quiet_step (with_reducible rfl))
            refine wpQuiet_nil ?_
            refine wpS_one ?_
            simp only [pick3, List.map_cons, List.map_nil, List.getElem?_cons_zero, List.getElem?_cons_succ, Option.getD_some]
            refine wpHeldK_step rfl fun K hK => ?_
            go_simp
            refine hK.out _ _ ⟨⟨v1, HJ1.out⟩, rfl⟩ ?_
            clear hK K
            refine wpQuiet_then ?_
            refine wpS_take ?_
            simp only [pick3, List.map_cons, List.map_nil, List.getElem?_cons_zero, List.getElem?_cons_succ, Option.getD_some]
            repeat (go_big_quiet_step (with_reducible rfl))
            refine wpQuiet_nil ?_
            refine wpS_last ?_
            simp only [pick3, List.map_cons, List.map_nil, List.getElem?_cons_zero, List.getElem?_cons_succ, Option.getD_some]
            refine wpHeld_last ?_
            go_wp2
            go_meet
            case rel => exact ⟨_, HE3'.out.1, HCP.out.put (key_P _ _) _, HE3'.out.2⟩
        obtain ⟨D2', hmp3, hcp3, hu3⟩ := hcut
        obtain ⟨w3, rfl⟩ : ∃ z : World, z = wc := ⟨wc, rfl⟩
        have HMR3 := Lib.hid (owns_upd HMR2.out hu3 (by have := HNE.out; have := HNE2.out; simp; omega))
        have HMD3 := Lib.hid (owns_upd HMD2.out hu3 (by have := HNE.out; have := HNE2.out; simp; omega))
        have HML3 := Lib.hid (owns_upd HML2.out hu3 (by have := HNE.out; have := HNE2.out; simp; omega))
        have HMF3 := Lib.hid (owns_upd HMF2.out hu3 (by have := HNE.out; have := HNE2.out; simp; omega))
        have HBT3 := Lib.hid (HBT2.out.upd hu3 (by have := HNE.out; have := HNE2.out; simp; omega))
        have HU3 := Lib.hid (HU2.out.box' hu3 (by have := HNE.out; have := HNE2.out; omega))
        have HBR3 := Lib.hid (HBR2.out.upd hu3 (by have := HNE2.out; have := HLT.out; simp; omega))
        have HS3 : Hid (rb < w3.heap.size) := Lib.hid (Nat.lt_of_lt_of_le HS2.out hu3.size)
        have HMP3 := Lib.hid (And.intro hmp3 hcp3)
        clear hmp3 hcp3 hu3 HMR2 HMD2 HML2 HMF2 HBT2 HU2 HMP2 HBR2 HS2 HCP
        go_upto_region 18 with fail
        go_cut [] (fun wd => ∃ D' : DataW Value, wd.ownsMap Try.prog 39 (plainElem Try.prog 3) mf (i + 1) D' ∧ Cnt D' ((ds.take i).map (fun d => kR d.slot d.turn) ++ [kR d.slot d.turn]) ∧ Upd [mf] w3 wd)
        case first =>
          have r1 : ∀ z : Cls (Upd [mf] w3), z.w.cell? ⟨rb, 1, none⟩ = some (.int .i64 d.slot) := fun z => (z.h.cell (p := ⟨rb, 1, none⟩) HS3.out (by have := HNE2.out; have := HLT.out; simp; omega)).trans (HBR3.out.cell 1)
          have r2 : ∀ z : Cls (Upd [mf] w3), z.w.cell? ⟨rb, 2, none⟩ = some (.int .u32 d.turn) := fun z => (z.h.cell (p := ⟨rb, 2, none⟩) HS3.out (by have := HNE2.out; have := HLT.out; simp; omega)).trans (HBR3.out.cell 2)
          have hkey := keyOf_R (wf_i HOK.out.slot) (wf_u HOK.out.turn)
          refine wp_script (Upd [mf] w3) ((Upd.refl _ _).drewN 1) (.take [0, 1, 2] (.fork 3 5 (.take [4] (.one 5 (.take [6] (.last [7])))) (.take [6] (.one 3 (.take [4] (.last [7])))))) (by kernel_rfl) (by kernel_rfl) (fun _ _ _ _ h => h) ?_
          intro hne
          refine wpS_take ?_
          simp only [pick3, List.map_cons, List.map_nil, List.getElem?_cons_zero, List.getElem?_cons_succ, Option.getD_some]
          repeat (go_big_quiet_step (with_reducible rfl))
          refine wpQuiet_nil ?_
          obtain ⟨v0, hv0⟩ : ∃ z, z = w3.drewN 1 := ⟨_, rfl⟩
          have HJ0 : Hid (Upd [] w3 v0) := Lib.hid (by rw [hv0]; exact (Upd.refl _ _).drewN 1)
          rw [← hv0]
          clear hv0
          have how := owns_upd HMF3.out HJ0.out (by simp)
          obtain ⟨e0, st, v1, D1, hen, how1, hge, hst⟩ := entry_own lawRef Try.underlying70 Try.underlying3 zero_int how (by unfold maxLen; omega) hkey
          obtain ⟨c, hlk, -, hcw⟩ := how.lookup_int (Keyed.of_law lawRef) Try.underlying70 Try.underlying3 (zero_int _) hkey
          obtain ⟨c', hlk', -, hcw'⟩ := how1.lookup_int (Keyed.of_law lawRef) Try.underlying70 Try.underlying3 (zero_int _) hkey
          obtain ⟨q, hq⟩ : ∃ q, q = IntKind.i64.wrap (c + 1) := ⟨_, rfl⟩
          have hwq : IntKind.i64.wrap (c + 1) = q := hq.symm
          obtain ⟨v3, hst', how3, hg3⟩ := hst v1 q rfl (by rw [hq]; exact wf_wrap _)
          obtain ⟨q', hq'⟩ : ∃ q, q = IntKind.i64.wrap (c' + 1) := ⟨_, rfl⟩
          have hwq' : IntKind.i64.wrap (c' + 1) = q' := hq'.symm
          obtain ⟨v3', hst'', how3', hg3'⟩ := hst v1 q' rfl (by rw [hq']; exact wf_wrap _)
          have HJ1 : Hid (Upd [mf] w3 v1) := Lib.hid ((HJ0.out.more (by simp)).next (Upd.of_grown hge))
          have HE3 := Lib.hid (And.intro how3 (HJ1.out.next (Upd.of_grown hg3)))
          have HE3' := Lib.hid (And.intro how3' (HJ1.out.next (Upd.of_grown hg3')))
          clear how how1 hge hst hcw hcw' hq hq' how3 how3' hg3 hg3'
          refine wpS_fork ?_ ?_
          · simp only [pick3, List.map_cons, List.map_nil, List.getElem?_cons_zero, List.getElem?_cons_succ, Option.getD_some]
            refine wpHeldK_step rfl fun K hK => ?_
            go_simp
            refine hK.out _ _ ⟨⟨v0, HJ0.out.more (by simp)⟩, rfl⟩ ?_
            clear hK K
            refine wpQuiet_then ?_
            refine wpS_take ?_
            simp only [pick3, List.map_cons, List.map_nil, List.getElem?_cons_zero, List.getElem?_cons_succ, Option.getD_some]
            repeat (go_big_quiet_step (with_reducible rfl))
            refine wpQuiet_nil ?_
            clear hlk hlk' hst'' hwq hwq'
            refine wpS_one ?_
            simp only [pick3, List.map_cons, List.map_nil, List.getElem?_cons_zero, List.getElem?_cons_succ, Option.getD_some]
            refine wpHeldK_step rfl fun K hK => ?_
            go_simp
            refine hK.out _ _ ⟨⟨v1, HJ1.out⟩, rfl⟩ ?_
            clear hK K
            refine wpQuiet_then ?_
            refine wpS_take ?_
            simp only [pick3, List.map_cons, List.map_nil, List.getElem?_cons_zero, List.getElem?_cons_succ, Option.getD_some]
            repeat (go_big_quiet_step (with_reducible rfl))
            refine wpQuiet_nil ?_
            refine wpS_last ?_
            simp only [pick3, List.map_cons, List.map_nil, List.getElem?_cons_zero, List.getElem?_cons_succ, Option.getD_some]
            refine wpHeld_last ?_
            go_wp2
            go_meet
            case rel => exact ⟨_, HE3.out.1, HCF.out.put (key_R _ _) _, HE3.out.2⟩
          · simp only [pick3, List.map_cons, List.map_nil, List.getElem?_cons_zero, List.getElem?_cons_succ, Option.getD_some]
            refine wpHeldK_step rfl fun K hK => ?_
            go_simp
            refine hK.out _ _ ⟨⟨v1, HJ1.out⟩, rfl⟩ ?_
            clear hK K
            refine wpQuiet_then ?_
            refine wpS_take ?_
            simp only [pick3, List.map_cons, List.map_nil, List.getElem?_cons_zero, List.getElem?_cons_succ, Option.getD_some]
            repeat (go_big_quiet_step (with_reducible rfl))
            refine wpQuiet_nil ?_
            refine wpS_one ?_
            simp only [pick3, List.map_cons, List.map_nil, List.getElem?_cons_zero, List.getElem?_cons_succ, Option.getD_some]
            refine wpHeldK_step rfl fun K hK => ?_
            go_simp
            refine hK.out _ _ ⟨⟨v1, HJ1.out⟩, rfl⟩ ?_
            clear hK K
            refine wpQuiet_then ?_
            refine wpS_take ?_
            simp only [pick3, List.map_cons, List.map_nil, List.getElem?_cons_zero, List.getElem?_cons_succ, Option.getD_some]
            repeat (go_big_quiet_step (with_reducible rfl))
            refine wpQuiet_nil ?_
            refine wpS_last ?_
            simp only [pick3, List.map_cons, List.map_nil, List.getElem?_cons_zero, List.getElem?_cons_succ, Option.getD_some]
            refine wpHeld_last ?_
            go_wp2
            go_meet
            case rel => exact ⟨_, HE3'.out.1, HCF.out.put (key_R _ _) _, HE3'.out.2⟩
        obtain ⟨D3', hmf4, hcf4, hu4⟩ := hcut
        have HMR4 := Lib.hid (owns_upd HMR3.out hu4 (by have := HNE.out; have := HNE2.out; simp; omega))
        have HMD4 := Lib.hid (owns_upd HMD3.out hu4 (by have := HNE.out; have := HNE2.out; simp; omega))
        have HML4 := Lib.hid (owns_upd HML3.out hu4 (by have := HNE.out; have := HNE2.out; simp; omega))
        have HMP4 := Lib.hid (owns_upd HMP3.out.1 hu4 (by have := HNE.out; have := HNE2.out; simp; omega))
        have HBT4 := Lib.hid (HBT3.out.upd hu4 (by have := HNE.out; have := HNE2.out; simp; omega))
        have HU4 := Lib.hid (HU3.out.box' hu4 (by have := HNE.out; have := HNE2.out; omega))
        have hb4 := HBR3.out.upd hu4 (by have := HNE2.out; have := HLT.out; simp; omega)
        have r0 : wc.cell? ⟨rb, 0, none⟩ = some (.int .u32 d.ssrc) := hb4.cell 0
        have HMF4 := Lib.hid (And.intro hmf4 hcf4)
        clear hmf4 hcf4 hu4 hb4 HMR3 HMD3 HML3 HBT3 HU3 HMF3 HBR3 HS3 HCF
        by_cases hs : d.ssrc < 2147483648
        · have HE : Hid (¬ (MayR rs ∧ MayD ds)) := Lib.hid (fun h => by have := h.2.high d HRI.out; omega)
          go_wp2
          refine bodyPost_res (v := .tuple #[.pointer none, .int .i64 1]) (by simp [results, Try.results8, go_sem]) rfl ?_; first | exact ⟨HU4.out, .inr ⟨HE.out, rfl⟩⟩ | exact ⟨HU4.out, .inr ⟨fun a b => HE.out ⟨a, b⟩, rfl⟩⟩
        go_wp2
        go_roundg (gk - 1)
        case measure => have := HGI.out; omega
        case rel =>
          refine ⟨i + 1, D2', D3', by omega, by have := HGI.out; omega, by go_num, fun x hx => ?_, HMR4.out, HMD4.out, HML4.out, HMP4.out, by rw [HTK.out, List.map_append]; exact HMP3.out.2, HMF4.out.1, by rw [HTK.out, List.map_append]; exact HMF4.out.2, HBT4.out, HU4.out⟩
          rw [HTK.out] at hx
          rcases List.mem_append.1 hx with hx | hx
          · exact HHI.out x hx
          · rw [List.mem_singleton] at hx
            subst hx
            omega
      obtain rfl : m = i := by omega
      rw [HM.out, List.take_length, ← HM.out] at hmd
      rw [HM.out, List.take_length] at hcp hcf
      have hhi' : ∀ d, d ∈ ds → 2147483648 ≤ d.ssrc := fun d hd => hhi d (by rw [HM.out, List.take_length]; exact hd)
      have hi1 := mayR_iff HR.out HLOW.out HCN.out
      have hi2 := mayD_iff HD.out hhi' hcp hcf
      have t1 : wr.cell? ⟨T, 1, none⟩ = some (.map (some mr)) := hbt.cell 1
      have t2 : wr.cell? ⟨T, 2, none⟩ = some (.map (some md)) := hbt.cell 2
      have l1 := fun ty => hmr.len Try.underlying63 ty
      have l2 := fun ty => hml.len Try.underlying67 ty
      have l3 := fun ty => hmd.len Try.underlying64 ty
      have l4 := fun ty => hmp.len Try.underlying67 ty
      have l5 := fun ty => hmf.len Try.underlying70 ty
      have b1 := hmr.size_le
      have b2 := hml.size_le
      have b3 := hmd.size_le
      have b4 := hmp.size_le
      have b5 := hmf.size_le
      have HIS : Hid (IsT wr w.heap.size T ep rs ds mr md) := Lib.hid ⟨hbt, by rw [← HN.out]; exact hmr, by rw [← HM.out]; exact hmd, by have := HNE.out; omega⟩
      have HU9 := Lib.hid hu
      rw [← HN.out] at hi1
      rw [← HM.out] at hi2
      obtain ⟨sr, hsr⟩ : ∃ s, s = Maps.size (tab kRt vRt rs) := ⟨_, rfl⟩
      obtain ⟨sl, hsl⟩ : ∃ s, s = Maps.size D := ⟨_, rfl⟩
      obtain ⟨sd, hsd⟩ : ∃ s, s = Maps.size (tab kDn vDn ds) := ⟨_, rfl⟩
      obtain ⟨sp, hsp⟩ : ∃ s, s = Maps.size D2 := ⟨_, rfl⟩
      obtain ⟨sf, hsf⟩ : ∃ s, s = Maps.size D3 := ⟨_, rfl⟩
      rw [← hsr] at l1 b1 hi1
      rw [← hsl] at l2 b2 hi1
      rw [← hsd] at l3 b3 hi2
      rw [← hsp] at l4 b4 hi2
      rw [← hsf] at l5 b5 hi2
      have HI1 := Lib.hid hi1
      have HI2 := Lib.hid hi2
      clear hmr hmd hml hmp hmf hcp hcf hbt hu hhi hhi' hsr hsl hsd hsp hsf hi1 hi2 hlt hgi hi HCN HLOW HNE2
      have hw1 : IntKind.i64.wrap ((sr : Int) + (sl : Int)) = (sr : Int) + (sl : Int) := IntWalk.i64_in _ (by omega)
      have hw2 : IntKind.i64.wrap (2 * (n : Int)) = 2 * (n : Int) := IntWalk.i64_in _ (by omega)
      have hw3 : IntKind.i64.wrap ((sd : Int) + (sp : Int)) = (sd : Int) + (sp : Int) := IntWalk.i64_in _ (by omega)
      have hw4 : IntKind.i64.wrap ((sd : Int) + (sp : Int) + (sf : Int)) = (sd : Int) + (sp : Int) + (sf : Int) := IntWalk.i64_in _ (by omega)
      have hw5 : IntKind.i64.wrap (3 * (m : Int)) = 3 * (m : Int) := IntWalk.i64_in _ (by omega)
      by_cases g1 : sr + sl < 2 * n
      · have g1i : (sr : Int) + (sl : Int) < 2 * (n : Int) := by omega
        have HE : Hid (¬ (MayR rs ∧ MayD ds)) := Lib.hid (fun h => HI1.out.2 h.1 g1)
        go_wp2
        refine bodyPost_res (v := .tuple #[.pointer none, .int .i64 1]) (by simp [results, Try.results8, go_sem]) rfl ?_; first | exact ⟨HU9.out, .inr ⟨HE.out, rfl⟩⟩ | exact ⟨HU9.out, .inr ⟨fun a b => HE.out ⟨a, b⟩, rfl⟩⟩
      have g1i : ¬ ((sr : Int) + (sl : Int) < 2 * (n : Int)) := by omega
      by_cases g2 : sd + sp + sf < 3 * m
      · have g2i : (sd : Int) + (sp : Int) + (sf : Int) < 3 * (m : Int) := by omega
        have HE : Hid (¬ (MayR rs ∧ MayD ds)) := Lib.hid (fun h => HI2.out.2 h.2 g2)
        go_wp2
        refine bodyPost_res (v := .tuple #[.pointer none, .int .i64 1]) (by simp [results, Try.results8, go_sem]) rfl ?_; first | exact ⟨HU9.out, .inr ⟨HE.out, rfl⟩⟩ | exact ⟨HU9.out, .inr ⟨fun a b => HE.out ⟨a, b⟩, rfl⟩⟩
      have g2i : ¬ ((sd : Int) + (sp : Int) + (sf : Int) < 3 * (m : Int)) := by omega
      have HE : Hid (MayR rs ∧ MayD ds) := Lib.hid ⟨HI1.out.1 g1, HI2.out.1 g2⟩
      go_wp2
      refine bodyPost_res (v := .tuple #[.pointer (some ⟨T, 0, none⟩), .int .i64 0]) (by simp [results, Try.results8, go_sem]) rfl ?_; first | exact ⟨HU9.out, .inl ⟨HE.out, T, mr, md, rfl, HIS.out⟩⟩ | exact ⟨HU9.out, .inl ⟨HE.out, T, rfl, mr, md, HIS.out⟩⟩ | exact ⟨HU9.out, .inl ⟨HE.out, T, rfl, ⟨mr, md, HIS.out⟩⟩⟩
end Go.Proofs.Yteljkdihlklliaa
/- What a table tells: Epoch, Len, Route, Own. Condition: a table, or nil. (Written by wip/gen/tableread.py.) -/
namespace Go.Proofs.Yteljkdihlklliaa
open Go Go.RowKit Go.Maps
set_option maxHeartbeats 400000
def zRt : Rt := ⟨0, 0, 0, 0, 0⟩
def zDn : Dn := ⟨0, 0, 0, 0, 0, 0, 0, 0, 0, false⟩
/-- a table, or nil: what it was made of -/
def IsTb (w : World) (N : Nat) (v : Value) (ep : Int) (rs : List Rt) (ds : List Dn) : Prop :=
  (v = .pointer none ∧ ep = 0 ∧ rs = [] ∧ ds = []) ∨ ∃ T mr md, v = .pointer (some ⟨T, 0, none⟩) ∧ IsT w N T ep rs ds mr md ∧ MayR rs ∧ MayD ds
theorem IsTb.may {w : World} {N : Nat} {v : Value} {ep : Int} {rs : List Rt} {ds : List Dn} (h : IsTb w N v ep rs ds) : MayR rs ∧ MayD ds := by
  rcases h with ⟨_, _, rfl, rfl⟩ | ⟨_, _, _, _, _, h1, h2⟩
  · exact ⟨⟨(fun _ h => by cases h), List.nodup_nil, List.nodup_nil⟩, ⟨(fun _ h => by cases h), List.nodup_nil, List.nodup_nil, List.nodup_nil⟩⟩
  · exact ⟨h1, h2⟩
theorem IsT.upd {w w' : World} {N T : Nat} {ep : Int} {rs : List Rt} {ds : List Dn} {mr md : Nat} (h : IsT w N T ep rs ds mr md) (u : Upd [] w w') : IsT w' N T ep rs ds mr md :=
  ⟨h.blk.upd u (by simp), owns_upd h.rt u (by simp), owns_upd h.dn u (by simp), h.base⟩
theorem IsT.below {w w' : World} {N T : Nat} {ep : Int} {rs : List Rt} {ds : List Dn} {mr md : Nat} {S : List Nat} (h : IsT w N T ep rs ds mr md) (u : Upd S w w') (hS : ∀ s, s ∈ S → s ≠ T ∧ s ≠ mr ∧ s ≠ md) : IsT w' N T ep rs ds mr md :=
  ⟨h.blk.upd u (fun hm => (hS _ hm).1 rfl), owns_upd h.rt u (fun hm => (hS _ hm).2.1 rfl), owns_upd h.dn u (fun hm => (hS _ hm).2.2 rfl), h.base⟩
theorem IsTb.upd {w w' : World} {N : Nat} {v : Value} {ep : Int} {rs : List Rt} {ds : List Dn} (h : IsTb w N v ep rs ds) (u : Upd [] w w') : IsTb w' N v ep rs ds := by
  rcases h with h | ⟨T, mr, md, hv, h, h1, h2⟩
  · exact .inl h
  · exact .inr ⟨T, mr, md, hv, h.upd u, h1, h2⟩
theorem key_all {α : Type} {f : α → Int} : ∀ a : α, WideAt.IsKeyLit (kU (f a)) := fun _ => trivial
/-- what stands at a number -/
theorem tab_look {α : Type} {f : α → Int} {v : α → Value} {l : List α} (hn : Uniq f l) (s : Int) : ((∃ a, l.find? (fun a => decide (f a = s)) = some a ∧ a ∈ l ∧ f a = s ∧ Maps.has (tab (fun a => kU (f a)) v l) (kU s) = true ∧ ∀ z, (tab (fun a => kU (f a)) v l).atKey (kU s) z = .held (v a)) ∨
    (l.find? (fun a => decide (f a = s)) = none ∧ Maps.has (tab (fun a => kU (f a)) v l) (kU s) = false ∧ ∀ z, (tab (fun a => kU (f a)) v l).atKey (kU s) z = z)) := by
  have hnk : (l.map (fun a => kU (f a))).Nodup := (nodup_via f (g := kU) l (fun a _ b _ h => kU_inj h)).2 hn
  cases hf : l.find? (fun a => decide (f a = s)) with
  | some a =>
    have ha := List.mem_of_find?_eq_some hf
    have hs : f a = s := by simpa using List.find?_some hf
    subst hs
    exact .inl ⟨a, rfl, ha, rfl, ((tab_cnt (v := v) key_all l).has_iff _).2 (List.mem_map.2 ⟨a, ha, rfl⟩), fun z => tab_at key_all hnk ha z⟩
  | none =>
    have hx : kU s ∉ l.map (fun a => kU (f a)) := fun hm => by
      obtain ⟨a, ha, he⟩ := List.mem_map.1 hm
      have := List.find?_eq_none.1 hf a ha
      simp [kU_inj he] at this
    refine .inr ⟨rfl, ?_, fun z => tab_none key_all hx z⟩
    cases hh : Maps.has (tab (fun a => kU (f a)) v l) (kU s)
    · rfl
    · exact absurd (((tab_cnt (v := v) key_all l).has_iff _).1 hh) hx
set_option maxRecDepth 100000 in
theorem epoch_any {w : World} {N : Nat} {v : Value} {ep : Int} {rs : List Rt} {ds : List Dn} (h : IsTb w N v ep rs ds) : Calls Try.prog 21 #[v] w fun e w' => e = .returned (.int .u64 ep) ∧ w = w' := by
  rcases h with ⟨rfl, rfl, -, -⟩ | ⟨T, mr, md, rfl, h, -, -⟩
  · go_enter Try.func21, Try.ntmps21
    go_wp2
    go_ret
    exact ⟨rfl, rfl⟩
  · have t0 : w.cell? ⟨T, 0, none⟩ = some (.int .u64 ep) := h.blk.cell 0
    clear h
    go_enter Try.func21, Try.ntmps21
    go_wp2
    go_ret
    exact ⟨rfl, rfl⟩
set_option maxRecDepth 100000 in
theorem len_any {w : World} {N : Nat} {v : Value} {ep : Int} {rs : List Rt} {ds : List Dn} (h : IsTb w N v ep rs ds) : Calls Try.prog 22 #[v] w fun e w' => e = .returned (.int .i64 ds.length) ∧ w = w' := by
  rcases h with ⟨rfl, -, -, rfl⟩ | ⟨T, mr, md, rfl, h, -, hd⟩
  · go_enter Try.func22, Try.ntmps22
    go_wp2
    go_ret
    exact ⟨rfl, rfl⟩
  · have t2 : w.cell? ⟨T, 2, none⟩ = some (.map (some md)) := h.blk.cell 2
    have l1 := fun ty => h.dn.len Try.underlying64 ty
    have hs : Maps.size (tab kDn vDn ds) = ds.length := by
      have := (tab_cnt (k := kDn) (v := vDn) key_all ds).eq.2 ((nodup_via Dn.ssrc (g := kU) ds (fun a _ b _ h => kU_inj h)).2 hd.one)
      simpa using this
    rw [hs] at l1
    obtain ⟨m, hm⟩ : ∃ m, m = ds.length := ⟨_, rfl⟩
    rw [← hm] at l1 ⊢
    clear h hs hm hd
    go_enter Try.func22, Try.ntmps22
    go_wp2
    go_ret
    exact ⟨rfl, rfl⟩
theorem blk5 {w : World} {R : Nat} {e : TypeId} {c0 c1 c2 c3 c4 : Value} (h : Blk w R e #[c0, c1, c2, c3, c4]) (v0 v1 v2 v3 v4 : Value) :
    Blk (((((w.setCell ⟨R, 0, none⟩ (v0)).setCell ⟨R, 1, none⟩ (v1)).setCell ⟨R, 2, none⟩ (v2)).setCell ⟨R, 3, none⟩ (v3)).setCell ⟨R, 4, none⟩ (v4)) R e #[v0, v1, v2, v3, v4] ∧ Upd [R] w (((((w.setCell ⟨R, 0, none⟩ (v0)).setCell ⟨R, 1, none⟩ (v1)).setCell ⟨R, 2, none⟩ (v2)).setCell ⟨R, 3, none⟩ (v3)).setCell ⟨R, 4, none⟩ (v4)) := by
  have u0 := Upd.refl [R] w
  obtain ⟨w1, hw1⟩ : ∃ x, x = w.setCell ⟨R, 0, none⟩ v0 := ⟨_, rfl⟩
  have h : Blk w1 R e #[v0, c1, c2, c3, c4] := by rw [hw1]; exact h.store 0 v0
  have u0 : Upd [R] w w1 := by rw [hw1]; exact u0.setCell (p := ⟨R, 0, none⟩) (.inl (by simp)) _
  rw [← hw1]
  obtain ⟨w2, hw2⟩ : ∃ x, x = w1.setCell ⟨R, 1, none⟩ v1 := ⟨_, rfl⟩
  have h : Blk w2 R e #[v0, v1, c2, c3, c4] := by rw [hw2]; exact h.store 1 v1
  have u0 : Upd [R] w w2 := by rw [hw2]; exact u0.setCell (p := ⟨R, 1, none⟩) (.inl (by simp)) _
  rw [← hw2]
  obtain ⟨w3, hw3⟩ : ∃ x, x = w2.setCell ⟨R, 2, none⟩ v2 := ⟨_, rfl⟩
  have h : Blk w3 R e #[v0, v1, v2, c3, c4] := by rw [hw3]; exact h.store 2 v2
  have u0 : Upd [R] w w3 := by rw [hw3]; exact u0.setCell (p := ⟨R, 2, none⟩) (.inl (by simp)) _
  rw [← hw3]
  obtain ⟨w4, hw4⟩ : ∃ x, x = w3.setCell ⟨R, 3, none⟩ v3 := ⟨_, rfl⟩
  have h : Blk w4 R e #[v0, v1, v2, v3, c4] := by rw [hw4]; exact h.store 3 v3
  have u0 : Upd [R] w w4 := by rw [hw4]; exact u0.setCell (p := ⟨R, 3, none⟩) (.inl (by simp)) _
  rw [← hw4]
  obtain ⟨w5, hw5⟩ : ∃ x, x = w4.setCell ⟨R, 4, none⟩ v4 := ⟨_, rfl⟩
  have h : Blk w5 R e #[v0, v1, v2, v3, v4] := by rw [hw5]; exact h.store 4 v4
  have u0 : Upd [R] w w5 := by rw [hw5]; exact u0.setCell (p := ⟨R, 4, none⟩) (.inl (by simp)) _
  rw [← hw5]
  exact ⟨h, u0⟩
theorem blk10 {w : World} {R : Nat} {e : TypeId} {c0 c1 c2 c3 c4 c5 c6 c7 c8 c9 : Value} (h : Blk w R e #[c0, c1, c2, c3, c4, c5, c6, c7, c8, c9]) (v0 v1 v2 v3 v4 v5 v6 v7 v8 v9 : Value) :
    Blk ((((((((((w.setCell ⟨R, 0, none⟩ (v0)).setCell ⟨R, 1, none⟩ (v1)).setCell ⟨R, 2, none⟩ (v2)).setCell ⟨R, 3, none⟩ (v3)).setCell ⟨R, 4, none⟩ (v4)).setCell ⟨R, 5, none⟩ (v5)).setCell ⟨R, 6, none⟩ (v6)).setCell ⟨R, 7, none⟩ (v7)).setCell ⟨R, 8, none⟩ (v8)).setCell ⟨R, 9, none⟩ (v9)) R e #[v0, v1, v2, v3, v4, v5, v6, v7, v8, v9] ∧ Upd [R] w ((((((((((w.setCell ⟨R, 0, none⟩ (v0)).setCell ⟨R, 1, none⟩ (v1)).setCell ⟨R, 2, none⟩ (v2)).setCell ⟨R, 3, none⟩ (v3)).setCell ⟨R, 4, none⟩ (v4)).setCell ⟨R, 5, none⟩ (v5)).setCell ⟨R, 6, none⟩ (v6)).setCell ⟨R, 7, none⟩ (v7)).setCell ⟨R, 8, none⟩ (v8)).setCell ⟨R, 9, none⟩ (v9)) := by
  have u0 := Upd.refl [R] w
  obtain ⟨w1, hw1⟩ : ∃ x, x = w.setCell ⟨R, 0, none⟩ v0 := ⟨_, rfl⟩
  have h : Blk w1 R e #[v0, c1, c2, c3, c4, c5, c6, c7, c8, c9] := by rw [hw1]; exact h.store 0 v0
  have u0 : Upd [R] w w1 := by rw [hw1]; exact u0.setCell (p := ⟨R, 0, none⟩) (.inl (by simp)) _
  rw [← hw1]
  obtain ⟨w2, hw2⟩ : ∃ x, x = w1.setCell ⟨R, 1, none⟩ v1 := ⟨_, rfl⟩
  have h : Blk w2 R e #[v0, v1, c2, c3, c4, c5, c6, c7, c8, c9] := by rw [hw2]; exact h.store 1 v1
  have u0 : Upd [R] w w2 := by rw [hw2]; exact u0.setCell (p := ⟨R, 1, none⟩) (.inl (by simp)) _
  rw [← hw2]
  obtain ⟨w3, hw3⟩ : ∃ x, x = w2.setCell ⟨R, 2, none⟩ v2 := ⟨_, rfl⟩
  have h : Blk w3 R e #[v0, v1, v2, c3, c4, c5, c6, c7, c8, c9] := by rw [hw3]; exact h.store 2 v2
  have u0 : Upd [R] w w3 := by rw [hw3]; exact u0.setCell (p := ⟨R, 2, none⟩) (.inl (by simp)) _
  rw [← hw3]
  obtain ⟨w4, hw4⟩ : ∃ x, x = w3.setCell ⟨R, 3, none⟩ v3 := ⟨_, rfl⟩
  have h : Blk w4 R e #[v0, v1, v2, v3, c4, c5, c6, c7, c8, c9] := by rw [hw4]; exact h.store 3 v3
  have u0 : Upd [R] w w4 := by rw [hw4]; exact u0.setCell (p := ⟨R, 3, none⟩) (.inl (by simp)) _
  rw [← hw4]
  obtain ⟨w5, hw5⟩ : ∃ x, x = w4.setCell ⟨R, 4, none⟩ v4 := ⟨_, rfl⟩
  have h : Blk w5 R e #[v0, v1, v2, v3, v4, c5, c6, c7, c8, c9] := by rw [hw5]; exact h.store 4 v4
  have u0 : Upd [R] w w5 := by rw [hw5]; exact u0.setCell (p := ⟨R, 4, none⟩) (.inl (by simp)) _
  rw [← hw5]
  obtain ⟨w6, hw6⟩ : ∃ x, x = w5.setCell ⟨R, 5, none⟩ v5 := ⟨_, rfl⟩
  have h : Blk w6 R e #[v0, v1, v2, v3, v4, v5, c6, c7, c8, c9] := by rw [hw6]; exact h.store 5 v5
  have u0 : Upd [R] w w6 := by rw [hw6]; exact u0.setCell (p := ⟨R, 5, none⟩) (.inl (by simp)) _
  rw [← hw6]
  obtain ⟨w7, hw7⟩ : ∃ x, x = w6.setCell ⟨R, 6, none⟩ v6 := ⟨_, rfl⟩
  have h : Blk w7 R e #[v0, v1, v2, v3, v4, v5, v6, c7, c8, c9] := by rw [hw7]; exact h.store 6 v6
  have u0 : Upd [R] w w7 := by rw [hw7]; exact u0.setCell (p := ⟨R, 6, none⟩) (.inl (by simp)) _
  rw [← hw7]
  obtain ⟨w8, hw8⟩ : ∃ x, x = w7.setCell ⟨R, 7, none⟩ v7 := ⟨_, rfl⟩
  have h : Blk w8 R e #[v0, v1, v2, v3, v4, v5, v6, v7, c8, c9] := by rw [hw8]; exact h.store 7 v7
  have u0 : Upd [R] w w8 := by rw [hw8]; exact u0.setCell (p := ⟨R, 7, none⟩) (.inl (by simp)) _
  rw [← hw8]
  obtain ⟨w9, hw9⟩ : ∃ x, x = w8.setCell ⟨R, 8, none⟩ v8 := ⟨_, rfl⟩
  have h : Blk w9 R e #[v0, v1, v2, v3, v4, v5, v6, v7, v8, c9] := by rw [hw9]; exact h.store 8 v8
  have u0 : Upd [R] w w9 := by rw [hw9]; exact u0.setCell (p := ⟨R, 8, none⟩) (.inl (by simp)) _
  rw [← hw9]
  obtain ⟨w10, hw10⟩ : ∃ x, x = w9.setCell ⟨R, 9, none⟩ v9 := ⟨_, rfl⟩
  have h : Blk w10 R e #[v0, v1, v2, v3, v4, v5, v6, v7, v8, v9] := by rw [hw10]; exact h.store 9 v9
  have u0 : Upd [R] w w10 := by rw [hw10]; exact u0.setCell (p := ⟨R, 9, none⟩) (.inl (by simp)) _
  rw [← hw10]
  exact ⟨h, u0⟩
theorem zero_Route (u : World) : (zeroValue 37).run Try.prog u = .ok (.agg #[.int .u32 0, .int .i64 0, .int .i64 0, .int .i64 0, .int .i64 0]) u := by kernel_rfl
set_option maxRecDepth 100000 in
set_option maxHeartbeats 2000000 in
theorem route_any {w : World} {N : Nat} {v : Value} {ep : Int} {rs : List Rt} {ds : List Dn} (h : IsTb w N v ep rs ds) {s : Int} (hs : U32n s) :
    Calls Try.prog 12 #[v, .int .u32 s] w fun e w' => e = .returned (.tuple #[.agg (encRt ((routeM rs s).getD zRt)).toArray, .bool (routeM rs s).isSome]) ∧ Upd [] w w' := by
  rcases h with ⟨rfl, -, rfl, rfl⟩ | ⟨T, mr, md, rfl, h, hmr, hmd⟩
  · clear hs
    obtain ⟨G, hG⟩ : ∃ G, G = w.heap.size := ⟨_, rfl⟩
    obtain ⟨W, hW⟩ : ∃ z, z = w.alloc (.cells #[.int .u32 0, .int .i64 0, .int .i64 0, .int .i64 0, .int .i64 0] 37) := ⟨_, rfl⟩
    have HBG : Hid (Blk W G 37 #[.int .u32 0, .int .i64 0, .int .i64 0, .int .i64 0, .int .i64 0]) := Lib.hid (by rw [hW, hG]; exact Blk.new _ _ _)
    have hu : Upd [] w W := by rw [hW]; exact (Upd.refl [] w).alloc _
    have HUW := Lib.hid hu
    have HGX := Lib.hid hG
    clear hu
    go_enter Try.func12, Try.ntmps12
    go_upto_region 1 with fail
    rw [← hW, ← hG]
    clear hW hG
    obtain ⟨kx, ux⟩ := blk5 HBG.out (.int .u32 0) (.int .i64 0) (.int .i64 0) (.int .i64 0) (.int .i64 0)
    obtain ⟨wx, hwx⟩ : ∃ z, z = (((((W.setCell ⟨G, 0, none⟩ (.int .u32 0)).setCell ⟨G, 1, none⟩ (.int .i64 0)).setCell ⟨G, 2, none⟩ (.int .i64 0)).setCell ⟨G, 3, none⟩ (.int .i64 0)).setCell ⟨G, 4, none⟩ (.int .i64 0)) := ⟨_, rfl⟩
    rw [← hwx] at kx ux
    have HKX := Lib.hid kx
    have HFX : Hid (Upd [] w wx) := Lib.hid (HUW.out.box' ux (by rw [HGX.out]; exact Nat.le_refl _))
    have HWX := Lib.hid hwx
    clear kx ux hwx
    have z0 : W.cell? ⟨G, 0, none⟩ = some (.int .u32 0) := HBG.out.cell 0
    have z1 : W.cell? ⟨G, 1, none⟩ = some (.int .i64 0) := HBG.out.cell 1
    have z2 : W.cell? ⟨G, 2, none⟩ = some (.int .i64 0) := HBG.out.cell 2
    have z3 : W.cell? ⟨G, 3, none⟩ = some (.int .i64 0) := HBG.out.cell 3
    have z4 : W.cell? ⟨G, 4, none⟩ = some (.int .i64 0) := HBG.out.cell 4
    have f0 := HBG.out.frozen 0
    have f1 := HBG.out.frozen 1
    have f2 := HBG.out.frozen 2
    have f3 := HBG.out.frozen 3
    have f4 := HBG.out.frozen 4
    go_wp2
    rw [← HWX.out]
    have g0 : wx.cell? ⟨G, 0, none⟩ = some (.int .u32 0) := HKX.out.cell 0
    have g1 : wx.cell? ⟨G, 1, none⟩ = some (.int .i64 0) := HKX.out.cell 1
    have g2 : wx.cell? ⟨G, 2, none⟩ = some (.int .i64 0) := HKX.out.cell 2
    have g3 : wx.cell? ⟨G, 3, none⟩ = some (.int .i64 0) := HKX.out.cell 3
    have g4 : wx.cell? ⟨G, 4, none⟩ = some (.int .i64 0) := HKX.out.cell 4
    refine bodyPost_res (v := .tuple #[.agg #[.int .u32 0, .int .i64 0, .int .i64 0, .int .i64 0, .int .i64 0], .bool false]) (by simp [results, Try.results12, go_sem, Addr.add, g0, g1, g2, g3, g4]) rfl ?_
    first | exact ⟨rfl, HFX.out⟩ | exact HFX.out
  · obtain ⟨G, hG⟩ : ∃ G, G = w.heap.size := ⟨_, rfl⟩
    obtain ⟨W, hW⟩ : ∃ z, z = w.alloc (.cells #[.int .u32 0, .int .i64 0, .int .i64 0, .int .i64 0, .int .i64 0] 37) := ⟨_, rfl⟩
    have HBG : Hid (Blk W G 37 #[.int .u32 0, .int .i64 0, .int .i64 0, .int .i64 0, .int .i64 0]) := Lib.hid (by rw [hW, hG]; exact Blk.new _ _ _)
    have hu : Upd [] w W := by rw [hW]; exact (Upd.refl [] w).alloc _
    have HUW := Lib.hid hu
    have HGX := Lib.hid hG
    have ho := owns_upd h.rt hu (by simp)
    obtain ⟨v, ps, hrun, hv⟩ := ho.look_ok keyedU Try.underlying63 (zero_Route _) (zd := .held (.agg #[.int .u32 0, .int .i64 0, .int .i64 0, .int .i64 0, .int .i64 0])) (zp := []) rfl (keyOf_U (wf_u hs))
    have t1 : W.cell? ⟨T, 1, none⟩ = some (.map (some mr)) := (h.blk.upd hu (by simp)).cell 1
    obtain ⟨o, hob⟩ : ∃ o, o = routeM rs s := ⟨_, rfl⟩
    rw [← hob]
    have hvv : v = .agg (encRt (o.getD zRt)).toArray ∧ Maps.has (tab kRt vRt rs) (kU s) = o.isSome := by
      have hv1 : (tab kRt vRt rs).atKey (kU s) (.held (.agg #[.int .u32 0, .int .i64 0, .int .i64 0, .int .i64 0, .int .i64 0])) = .held v := (congrArg Prod.fst (Option.some.inj hv)).symm
      rcases tab_look (f := Rt.ssrc) (v := vRt) hmr.one s with ⟨a, h1, -, -, h2, h3⟩ | ⟨h1, h2, h3⟩
      · have e := (h3 (.held (.agg #[.int .u32 0, .int .i64 0, .int .i64 0, .int .i64 0, .int .i64 0]))).symm.trans hv1
        injection e with e
        rw [hob, show routeM rs s = some a from h1, ← e]
        exact ⟨rfl, h2⟩
      · have e := (h3 (.held (.agg #[.int .u32 0, .int .i64 0, .int .i64 0, .int .i64 0, .int .i64 0]))).symm.trans hv1
        injection e with e
        rw [hob, show routeM rs s = none from h1, ← e]
        exact ⟨rfl, h2⟩
    obtain ⟨bo, hbo⟩ : ∃ b, b = o.isSome := ⟨_, rfl⟩
    obtain ⟨x, hxo⟩ : ∃ x, x = o.getD zRt := ⟨_, rfl⟩
    rw [← hbo, ← hxo] at hvv
    rw [← hbo, ← hxo]
    rw [hvv.1, hvv.2] at hrun
    unfold encRt at hrun
    dsimp only [List.toArray] at hrun
    clear h hv hvv ho hob hbo hxo hu hs
    obtain ⟨b2, hb2⟩ : ∃ b, b = W.heap.size := ⟨_, rfl⟩
    obtain ⟨W2, hW2⟩ : ∃ z, z = W.alloc (.cells #[.int .u32 x.ssrc, .int .i64 x.track, .int .i64 x.src, .int .i64 x.layer, .int .i64 x.shard] 37) := ⟨_, rfl⟩
    have hu2 : Upd [] W W2 := by rw [hW2]; exact (Upd.refl [] W).alloc _
    have hk2 : Blk W2 b2 37 #[.int .u32 x.ssrc, .int .i64 x.track, .int .i64 x.src, .int .i64 x.layer, .int .i64 x.shard] := by rw [hW2, hb2]; exact Blk.new _ _ _
    have HB2 := Lib.hid (HBG.out.upd hu2 (by simp))
    have HU2 := Lib.hid (HUW.out.next hu2)
    have HK2 := Lib.hid hk2
    have HW2 := Lib.hid hW2
    have HB2E := Lib.hid hb2
    clear hu2 hk2 hW2 hb2
    go_enter Try.func12, Try.ntmps12
    go_upto_region 1 with fail
    rw [← hW, ← hG]
    clear hW hG
    go_upto_region 4 with fail
    rw [← HW2.out, ← HB2E.out]
    clear hrun t1
    have y0 : W2.cell? ⟨b2, 0, none⟩ = some (.int .u32 x.ssrc) := HK2.out.cell 0
    have y1 : W2.cell? ⟨b2, 1, none⟩ = some (.int .i64 x.track) := HK2.out.cell 1
    have y2 : W2.cell? ⟨b2, 2, none⟩ = some (.int .i64 x.src) := HK2.out.cell 2
    have y3 : W2.cell? ⟨b2, 3, none⟩ = some (.int .i64 x.layer) := HK2.out.cell 3
    have y4 : W2.cell? ⟨b2, 4, none⟩ = some (.int .i64 x.shard) := HK2.out.cell 4
    obtain ⟨kx, ux⟩ := blk5 HB2.out (.int .u32 x.ssrc) (.int .i64 x.track) (.int .i64 x.src) (.int .i64 x.layer) (.int .i64 x.shard)
    obtain ⟨wx, hwx⟩ : ∃ z, z = (((((W2.setCell ⟨G, 0, none⟩ (.int .u32 x.ssrc)).setCell ⟨G, 1, none⟩ (.int .i64 x.track)).setCell ⟨G, 2, none⟩ (.int .i64 x.src)).setCell ⟨G, 3, none⟩ (.int .i64 x.layer)).setCell ⟨G, 4, none⟩ (.int .i64 x.shard)) := ⟨_, rfl⟩
    rw [← hwx] at kx ux
    have HKX := Lib.hid kx
    have HFX : Hid (Upd [] w wx) := Lib.hid (HU2.out.box' ux (by rw [HGX.out]; exact Nat.le_refl _))
    have HWX := Lib.hid hwx
    clear kx ux hwx
    have z0 : W2.cell? ⟨G, 0, none⟩ = some (.int .u32 0) := HB2.out.cell 0
    have z1 : W2.cell? ⟨G, 1, none⟩ = some (.int .i64 0) := HB2.out.cell 1
    have z2 : W2.cell? ⟨G, 2, none⟩ = some (.int .i64 0) := HB2.out.cell 2
    have z3 : W2.cell? ⟨G, 3, none⟩ = some (.int .i64 0) := HB2.out.cell 3
    have z4 : W2.cell? ⟨G, 4, none⟩ = some (.int .i64 0) := HB2.out.cell 4
    have f0 := HB2.out.frozen 0
    have f1 := HB2.out.frozen 1
    have f2 := HB2.out.frozen 2
    have f3 := HB2.out.frozen 3
    have f4 := HB2.out.frozen 4
    go_wp2
    rw [← HWX.out]
    have g0 : wx.cell? ⟨G, 0, none⟩ = some (.int .u32 x.ssrc) := HKX.out.cell 0
    have g1 : wx.cell? ⟨G, 1, none⟩ = some (.int .i64 x.track) := HKX.out.cell 1
    have g2 : wx.cell? ⟨G, 2, none⟩ = some (.int .i64 x.src) := HKX.out.cell 2
    have g3 : wx.cell? ⟨G, 3, none⟩ = some (.int .i64 x.layer) := HKX.out.cell 3
    have g4 : wx.cell? ⟨G, 4, none⟩ = some (.int .i64 x.shard) := HKX.out.cell 4
    refine bodyPost_res (v := .tuple #[.agg #[.int .u32 x.ssrc, .int .i64 x.track, .int .i64 x.src, .int .i64 x.layer, .int .i64 x.shard], .bool bo]) (by simp [results, Try.results12, go_sem, Addr.add, g0, g1, g2, g3, g4]) rfl ?_
    first | exact ⟨rfl, HFX.out⟩ | exact HFX.out
theorem zero_Own (u : World) : (zeroValue 41).run Try.prog u = .ok (.agg #[.int .u32 0, .int .i64 0, .int .u32 0, .int .i64 0, .int .i64 0, .int .i64 0, .int .i64 0, .int .i64 0, .int .i64 0, .bool false]) u := by kernel_rfl
set_option maxRecDepth 100000 in
set_option maxHeartbeats 2000000 in
theorem own_any {w : World} {N : Nat} {v : Value} {ep : Int} {rs : List Rt} {ds : List Dn} (h : IsTb w N v ep rs ds) {s : Int} (hs : U32n s) :
    Calls Try.prog 14 #[v, .int .u32 s] w fun e w' => e = .returned (.tuple #[.agg (encDn ((ownM ds s).getD zDn)).toArray, .bool (ownM ds s).isSome]) ∧ Upd [] w w' := by
  rcases h with ⟨rfl, -, rfl, rfl⟩ | ⟨T, mr, md, rfl, h, hmr, hmd⟩
  · clear hs
    obtain ⟨G, hG⟩ : ∃ G, G = w.heap.size := ⟨_, rfl⟩
    obtain ⟨W, hW⟩ : ∃ z, z = w.alloc (.cells #[.int .u32 0, .int .i64 0, .int .u32 0, .int .i64 0, .int .i64 0, .int .i64 0, .int .i64 0, .int .i64 0, .int .i64 0, .bool false] 41) := ⟨_, rfl⟩
    have HBG : Hid (Blk W G 41 #[.int .u32 0, .int .i64 0, .int .u32 0, .int .i64 0, .int .i64 0, .int .i64 0, .int .i64 0, .int .i64 0, .int .i64 0, .bool false]) := Lib.hid (by rw [hW, hG]; exact Blk.new _ _ _)
    have hu : Upd [] w W := by rw [hW]; exact (Upd.refl [] w).alloc _
    have HUW := Lib.hid hu
    have HGX := Lib.hid hG
    clear hu
    go_enter Try.func14, Try.ntmps14
    go_upto_region 1 with fail
    rw [← hW, ← hG]
    clear hW hG
    obtain ⟨kx, ux⟩ := blk10 HBG.out (.int .u32 0) (.int .i64 0) (.int .u32 0) (.int .i64 0) (.int .i64 0) (.int .i64 0) (.int .i64 0) (.int .i64 0) (.int .i64 0) (.bool false)
    obtain ⟨wx, hwx⟩ : ∃ z, z = ((((((((((W.setCell ⟨G, 0, none⟩ (.int .u32 0)).setCell ⟨G, 1, none⟩ (.int .i64 0)).setCell ⟨G, 2, none⟩ (.int .u32 0)).setCell ⟨G, 3, none⟩ (.int .i64 0)).setCell ⟨G, 4, none⟩ (.int .i64 0)).setCell ⟨G, 5, none⟩ (.int .i64 0)).setCell ⟨G, 6, none⟩ (.int .i64 0)).setCell ⟨G, 7, none⟩ (.int .i64 0)).setCell ⟨G, 8, none⟩ (.int .i64 0)).setCell ⟨G, 9, none⟩ (.bool false)) := ⟨_, rfl⟩
    rw [← hwx] at kx ux
    have HKX := Lib.hid kx
    have HFX : Hid (Upd [] w wx) := Lib.hid (HUW.out.box' ux (by rw [HGX.out]; exact Nat.le_refl _))
    have HWX := Lib.hid hwx
    clear kx ux hwx
    have z0 : W.cell? ⟨G, 0, none⟩ = some (.int .u32 0) := HBG.out.cell 0
    have z1 : W.cell? ⟨G, 1, none⟩ = some (.int .i64 0) := HBG.out.cell 1
    have z2 : W.cell? ⟨G, 2, none⟩ = some (.int .u32 0) := HBG.out.cell 2
    have z3 : W.cell? ⟨G, 3, none⟩ = some (.int .i64 0) := HBG.out.cell 3
    have z4 : W.cell? ⟨G, 4, none⟩ = some (.int .i64 0) := HBG.out.cell 4
    have z5 : W.cell? ⟨G, 5, none⟩ = some (.int .i64 0) := HBG.out.cell 5
    have z6 : W.cell? ⟨G, 6, none⟩ = some (.int .i64 0) := HBG.out.cell 6
    have z7 : W.cell? ⟨G, 7, none⟩ = some (.int .i64 0) := HBG.out.cell 7
    have z8 : W.cell? ⟨G, 8, none⟩ = some (.int .i64 0) := HBG.out.cell 8
    have z9 : W.cell? ⟨G, 9, none⟩ = some (.bool false) := HBG.out.cell 9
    have f0 := HBG.out.frozen 0
    have f1 := HBG.out.frozen 1
    have f2 := HBG.out.frozen 2
    have f3 := HBG.out.frozen 3
    have f4 := HBG.out.frozen 4
    have f5 := HBG.out.frozen 5
    have f6 := HBG.out.frozen 6
    have f7 := HBG.out.frozen 7
    have f8 := HBG.out.frozen 8
    have f9 := HBG.out.frozen 9
    go_wp2
    rw [← HWX.out]
    have g0 : wx.cell? ⟨G, 0, none⟩ = some (.int .u32 0) := HKX.out.cell 0
    have g1 : wx.cell? ⟨G, 1, none⟩ = some (.int .i64 0) := HKX.out.cell 1
    have g2 : wx.cell? ⟨G, 2, none⟩ = some (.int .u32 0) := HKX.out.cell 2
    have g3 : wx.cell? ⟨G, 3, none⟩ = some (.int .i64 0) := HKX.out.cell 3
    have g4 : wx.cell? ⟨G, 4, none⟩ = some (.int .i64 0) := HKX.out.cell 4
    have g5 : wx.cell? ⟨G, 5, none⟩ = some (.int .i64 0) := HKX.out.cell 5
    have g6 : wx.cell? ⟨G, 6, none⟩ = some (.int .i64 0) := HKX.out.cell 6
    have g7 : wx.cell? ⟨G, 7, none⟩ = some (.int .i64 0) := HKX.out.cell 7
    have g8 : wx.cell? ⟨G, 8, none⟩ = some (.int .i64 0) := HKX.out.cell 8
    have g9 : wx.cell? ⟨G, 9, none⟩ = some (.bool false) := HKX.out.cell 9
    refine bodyPost_res (v := .tuple #[.agg #[.int .u32 0, .int .i64 0, .int .u32 0, .int .i64 0, .int .i64 0, .int .i64 0, .int .i64 0, .int .i64 0, .int .i64 0, .bool false], .bool false]) (by simp [results, Try.results14, go_sem, Addr.add, g0, g1, g2, g3, g4, g5, g6, g7, g8, g9]) rfl ?_
    first | exact ⟨rfl, HFX.out⟩ | exact HFX.out
  · obtain ⟨G, hG⟩ : ∃ G, G = w.heap.size := ⟨_, rfl⟩
    obtain ⟨W, hW⟩ : ∃ z, z = w.alloc (.cells #[.int .u32 0, .int .i64 0, .int .u32 0, .int .i64 0, .int .i64 0, .int .i64 0, .int .i64 0, .int .i64 0, .int .i64 0, .bool false] 41) := ⟨_, rfl⟩
    have HBG : Hid (Blk W G 41 #[.int .u32 0, .int .i64 0, .int .u32 0, .int .i64 0, .int .i64 0, .int .i64 0, .int .i64 0, .int .i64 0, .int .i64 0, .bool false]) := Lib.hid (by rw [hW, hG]; exact Blk.new _ _ _)
    have hu : Upd [] w W := by rw [hW]; exact (Upd.refl [] w).alloc _
    have HUW := Lib.hid hu
    have HGX := Lib.hid hG
    have ho := owns_upd h.dn hu (by simp)
    obtain ⟨v, ps, hrun, hv⟩ := ho.look_ok keyedU Try.underlying64 (zero_Own _) (zd := .held (.agg #[.int .u32 0, .int .i64 0, .int .u32 0, .int .i64 0, .int .i64 0, .int .i64 0, .int .i64 0, .int .i64 0, .int .i64 0, .bool false])) (zp := []) rfl (keyOf_U (wf_u hs))
    have t1 : W.cell? ⟨T, 2, none⟩ = some (.map (some md)) := (h.blk.upd hu (by simp)).cell 2
    obtain ⟨o, hob⟩ : ∃ o, o = ownM ds s := ⟨_, rfl⟩
    rw [← hob]
    have hvv : v = .agg (encDn (o.getD zDn)).toArray ∧ Maps.has (tab kDn vDn ds) (kU s) = o.isSome := by
      have hv1 : (tab kDn vDn ds).atKey (kU s) (.held (.agg #[.int .u32 0, .int .i64 0, .int .u32 0, .int .i64 0, .int .i64 0, .int .i64 0, .int .i64 0, .int .i64 0, .int .i64 0, .bool false])) = .held v := (congrArg Prod.fst (Option.some.inj hv)).symm
      rcases tab_look (f := Dn.ssrc) (v := vDn) hmd.one s with ⟨a, h1, -, -, h2, h3⟩ | ⟨h1, h2, h3⟩
      · have e := (h3 (.held (.agg #[.int .u32 0, .int .i64 0, .int .u32 0, .int .i64 0, .int .i64 0, .int .i64 0, .int .i64 0, .int .i64 0, .int .i64 0, .bool false]))).symm.trans hv1
        injection e with e
        rw [hob, show ownM ds s = some a from h1, ← e]
        exact ⟨rfl, h2⟩
      · have e := (h3 (.held (.agg #[.int .u32 0, .int .i64 0, .int .u32 0, .int .i64 0, .int .i64 0, .int .i64 0, .int .i64 0, .int .i64 0, .int .i64 0, .bool false]))).symm.trans hv1
        injection e with e
        rw [hob, show ownM ds s = none from h1, ← e]
        exact ⟨rfl, h2⟩
    obtain ⟨bo, hbo⟩ : ∃ b, b = o.isSome := ⟨_, rfl⟩
    obtain ⟨x, hxo⟩ : ∃ x, x = o.getD zDn := ⟨_, rfl⟩
    rw [← hbo, ← hxo] at hvv
    rw [← hbo, ← hxo]
    rw [hvv.1, hvv.2] at hrun
    unfold encDn at hrun
    dsimp only [List.toArray] at hrun
    clear h hv hvv ho hob hbo hxo hu hs
    obtain ⟨b2, hb2⟩ : ∃ b, b = W.heap.size := ⟨_, rfl⟩
    obtain ⟨W2, hW2⟩ : ∃ z, z = W.alloc (.cells #[.int .u32 x.ssrc, .int .i64 x.slot, .int .u32 x.turn, .int .i64 x.who, .int .i64 x.track, .int .i64 x.shard, .int .i64 x.src, .int .i64 x.layer, .int .i64 x.tid, .bool x.muted] 41) := ⟨_, rfl⟩
    have hu2 : Upd [] W W2 := by rw [hW2]; exact (Upd.refl [] W).alloc _
    have hk2 : Blk W2 b2 41 #[.int .u32 x.ssrc, .int .i64 x.slot, .int .u32 x.turn, .int .i64 x.who, .int .i64 x.track, .int .i64 x.shard, .int .i64 x.src, .int .i64 x.layer, .int .i64 x.tid, .bool x.muted] := by rw [hW2, hb2]; exact Blk.new _ _ _
    have HB2 := Lib.hid (HBG.out.upd hu2 (by simp))
    have HU2 := Lib.hid (HUW.out.next hu2)
    have HK2 := Lib.hid hk2
    have HW2 := Lib.hid hW2
    have HB2E := Lib.hid hb2
    clear hu2 hk2 hW2 hb2
    go_enter Try.func14, Try.ntmps14
    go_upto_region 1 with fail
    rw [← hW, ← hG]
    clear hW hG
    go_upto_region 4 with fail
    rw [← HW2.out, ← HB2E.out]
    clear hrun t1
    have y0 : W2.cell? ⟨b2, 0, none⟩ = some (.int .u32 x.ssrc) := HK2.out.cell 0
    have y1 : W2.cell? ⟨b2, 1, none⟩ = some (.int .i64 x.slot) := HK2.out.cell 1
    have y2 : W2.cell? ⟨b2, 2, none⟩ = some (.int .u32 x.turn) := HK2.out.cell 2
    have y3 : W2.cell? ⟨b2, 3, none⟩ = some (.int .i64 x.who) := HK2.out.cell 3
    have y4 : W2.cell? ⟨b2, 4, none⟩ = some (.int .i64 x.track) := HK2.out.cell 4
    have y5 : W2.cell? ⟨b2, 5, none⟩ = some (.int .i64 x.shard) := HK2.out.cell 5
    have y6 : W2.cell? ⟨b2, 6, none⟩ = some (.int .i64 x.src) := HK2.out.cell 6
    have y7 : W2.cell? ⟨b2, 7, none⟩ = some (.int .i64 x.layer) := HK2.out.cell 7
    have y8 : W2.cell? ⟨b2, 8, none⟩ = some (.int .i64 x.tid) := HK2.out.cell 8
    have y9 : W2.cell? ⟨b2, 9, none⟩ = some (.bool x.muted) := HK2.out.cell 9
    obtain ⟨kx, ux⟩ := blk10 HB2.out (.int .u32 x.ssrc) (.int .i64 x.slot) (.int .u32 x.turn) (.int .i64 x.who) (.int .i64 x.track) (.int .i64 x.shard) (.int .i64 x.src) (.int .i64 x.layer) (.int .i64 x.tid) (.bool x.muted)
    obtain ⟨wx, hwx⟩ : ∃ z, z = ((((((((((W2.setCell ⟨G, 0, none⟩ (.int .u32 x.ssrc)).setCell ⟨G, 1, none⟩ (.int .i64 x.slot)).setCell ⟨G, 2, none⟩ (.int .u32 x.turn)).setCell ⟨G, 3, none⟩ (.int .i64 x.who)).setCell ⟨G, 4, none⟩ (.int .i64 x.track)).setCell ⟨G, 5, none⟩ (.int .i64 x.shard)).setCell ⟨G, 6, none⟩ (.int .i64 x.src)).setCell ⟨G, 7, none⟩ (.int .i64 x.layer)).setCell ⟨G, 8, none⟩ (.int .i64 x.tid)).setCell ⟨G, 9, none⟩ (.bool x.muted)) := ⟨_, rfl⟩
    rw [← hwx] at kx ux
    have HKX := Lib.hid kx
    have HFX : Hid (Upd [] w wx) := Lib.hid (HU2.out.box' ux (by rw [HGX.out]; exact Nat.le_refl _))
    have HWX := Lib.hid hwx
    clear kx ux hwx
    have z0 : W2.cell? ⟨G, 0, none⟩ = some (.int .u32 0) := HB2.out.cell 0
    have z1 : W2.cell? ⟨G, 1, none⟩ = some (.int .i64 0) := HB2.out.cell 1
    have z2 : W2.cell? ⟨G, 2, none⟩ = some (.int .u32 0) := HB2.out.cell 2
    have z3 : W2.cell? ⟨G, 3, none⟩ = some (.int .i64 0) := HB2.out.cell 3
    have z4 : W2.cell? ⟨G, 4, none⟩ = some (.int .i64 0) := HB2.out.cell 4
    have z5 : W2.cell? ⟨G, 5, none⟩ = some (.int .i64 0) := HB2.out.cell 5
    have z6 : W2.cell? ⟨G, 6, none⟩ = some (.int .i64 0) := HB2.out.cell 6
    have z7 : W2.cell? ⟨G, 7, none⟩ = some (.int .i64 0) := HB2.out.cell 7
    have z8 : W2.cell? ⟨G, 8, none⟩ = some (.int .i64 0) := HB2.out.cell 8
    have z9 : W2.cell? ⟨G, 9, none⟩ = some (.bool false) := HB2.out.cell 9
    have f0 := HB2.out.frozen 0
    have f1 := HB2.out.frozen 1
    have f2 := HB2.out.frozen 2
    have f3 := HB2.out.frozen 3
    have f4 := HB2.out.frozen 4
    have f5 := HB2.out.frozen 5
    have f6 := HB2.out.frozen 6
    have f7 := HB2.out.frozen 7
    have f8 := HB2.out.frozen 8
    have f9 := HB2.out.frozen 9
    go_wp2
    rw [← HWX.out]
    have g0 : wx.cell? ⟨G, 0, none⟩ = some (.int .u32 x.ssrc) := HKX.out.cell 0
    have g1 : wx.cell? ⟨G, 1, none⟩ = some (.int .i64 x.slot) := HKX.out.cell 1
    have g2 : wx.cell? ⟨G, 2, none⟩ = some (.int .u32 x.turn) := HKX.out.cell 2
    have g3 : wx.cell? ⟨G, 3, none⟩ = some (.int .i64 x.who) := HKX.out.cell 3
    have g4 : wx.cell? ⟨G, 4, none⟩ = some (.int .i64 x.track) := HKX.out.cell 4
    have g5 : wx.cell? ⟨G, 5, none⟩ = some (.int .i64 x.shard) := HKX.out.cell 5
    have g6 : wx.cell? ⟨G, 6, none⟩ = some (.int .i64 x.src) := HKX.out.cell 6
    have g7 : wx.cell? ⟨G, 7, none⟩ = some (.int .i64 x.layer) := HKX.out.cell 7
    have g8 : wx.cell? ⟨G, 8, none⟩ = some (.int .i64 x.tid) := HKX.out.cell 8
    have g9 : wx.cell? ⟨G, 9, none⟩ = some (.bool x.muted) := HKX.out.cell 9
    refine bodyPost_res (v := .tuple #[.agg #[.int .u32 x.ssrc, .int .i64 x.slot, .int .u32 x.turn, .int .i64 x.who, .int .i64 x.track, .int .i64 x.shard, .int .i64 x.src, .int .i64 x.layer, .int .i64 x.tid, .bool x.muted], .bool bo]) (by simp [results, Try.results14, go_sem, Addr.add, g0, g1, g2, g3, g4, g5, g6, g7, g8, g9]) rfl ?_
    first | exact ⟨rfl, HFX.out⟩ | exact HFX.out
end Go.Proofs.Yteljkdihlklliaa
/- What a table tells: Source, by a range over a map, in whatever order. Condition: a table, or nil. -/
namespace Go.Proofs.Yteljkdihlklliaa
open Go Go.RowKit Go.Maps
set_option maxHeartbeats 400000
theorem invU (key : Value) (kl : Lit) (h : keyOf Try.prog 25 key = some kl) : ∃ x : Int, key = .int .u32 x := by
  obtain ⟨x, hx, _⟩ := Maps.keyOf_int_inv Try.underlying25 h
  exact ⟨x, hx⟩
theorem invV (v : Value) (y : DataW Value × List MemPlace) (_h : rV v = some y) : ∃ c : Value, v = id c := ⟨v, rfl⟩
/-- the entry that has come -/
theorem entry_is {α : Type} {f : α → Int} {v : α → Value} {l : List α} (hn : Uniq f l) {x : Int} {c : Value} {kl : Lit} {y : DataW Value × List MemPlace} (hkey : keyOf Try.prog 25 (.int .u32 x) = some kl) (hv : rV c = some y)
    (hat : ∀ zd, (tab (fun a => kU (f a)) v l).atKey kl zd = y.1) : ∃ a, a ∈ l ∧ c = v a ∧ x = f a ∧ kl = kU (f a) := by
  obtain ⟨x', hx, hkl, _⟩ := Maps.keyOf_int_inv Try.underlying25 hkey
  obtain rfl : x = x' := by injection hx
  have hy : y.1 = .held c := (congrArg Prod.fst (Option.some.inj hv)).symm
  have hnk : (l.map (fun a => kU (f a))).Nodup := (nodup_via f (g := kU) l (fun a _ b _ h => kU_inj h)).2 hn
  obtain ⟨a, ha, hk, hz⟩ := tab_mem (v := v) key_all hnk (Maps.has_true_of_atKey hat)
  have e := (hz (.held c)).symm.trans ((hat (.held c)).trans hy)
  injection e with e
  have hk' : kU (f a) = kU x := hk.trans hkl
  exact ⟨a, ha, e.symm, (kU_inj hk').symm, hk.symm⟩
theorem upd_grown {w w1 w2 : World} {r : Nat} (u : Upd [] w w1) (g : w1.grownBy w2 (some r)) (hr : w.heap.size ≤ r) : Upd [] w w2 := u.box' (Upd.of_grown g) hr
set_option maxRecDepth 100000 in
set_option maxHeartbeats 4000000 in
theorem source_any {w : World} {N : Nat} {v : Value} {ep : Int} {rs : List Rt} {ds : List Dn} (h : IsTb w N v ep rs ds) {t l : Int} :
    Calls Try.prog 16 #[v, .int .i64 t, .int .i64 l] w fun e w' => e = .returned (.tuple #[.int .u32 (((sourceM rs t l).map Rt.ssrc).getD 0), .bool (sourceM rs t l).isSome]) ∧ Upd [] w w' := by
  rcases h with ⟨rfl, -, rfl, -⟩ | ⟨T, mr, md, rfl, h, hmr, -⟩
  · go_enter Try.func16, Try.ntmps16
    go_wp2
    exact bodyPost_res (v := .tuple #[.int .u32 0, .bool false]) (by simp [results, Try.results16, go_sem]) rfl ⟨rfl, Upd.refl _ _⟩
  have t1 : w.cell? ⟨T, 1, none⟩ = some (.map (some mr)) := h.blk.cell 1
  have HRT := Lib.hid h.rt
  have HM := Lib.hid hmr
  obtain ⟨D, hD⟩ : ∃ D, D = tab kRt vRt rs := ⟨_, rfl⟩
  rw [← hD] at HRT
  have HD := Lib.hid hD
  obtain ⟨n, hn⟩ : ∃ n, n = rs.length := ⟨_, rfl⟩
  rw [← hn] at HRT
  obtain ⟨R, hR⟩ : ∃ R, R = w.heap.size := ⟨_, rfl⟩
  have HRS := Lib.hid hR
  clear h hmr hD hn
  go_enter Try.func16, Try.ntmps16
  go_wp2_with (at_range; refine wpList_range_own _ rfl _ 63 rfl 25 37 keyedU Try.underlying63 rV mr n D rfl HRT.out ?_; intro w0 hrg0 hg0 hs0)
  go_frame
  rw [← hR] at hrg0 ⊢
  clear hR hs0 t1
  have HRG := Lib.hid hrg0
  have HU0 : Hid (Upd [] w w0) := Lib.hid (Upd.of_grown hg0)
  clear hrg0 hg0
  go_loopg [8] (Maps.size D) (fun gk _ wr => ∃ (left : Lit → Bool) (cnt : Nat), wr.ranges Try.prog 25 rV mr R n D left cnt ∧ cnt ≤ gk ∧ (∀ r, r ∈ rs → left (kRt r) = false → ¬ (r.track = t ∧ r.layer = l)) ∧ Upd [] w wr)
  case atStart =>
    refine ⟨_, _, HRG.out, Nat.le_refl _, fun r hr hl => ?_, HU0.out⟩
    rw [HD.out, ((tab_cnt (k := kRt) (v := vRt) key_all rs).has_iff _).2 (List.mem_map.2 ⟨r, hr, rfl⟩)] at hl
    cases hl
  case round =>
    obtain ⟨left, cnt, hrg, hcg, hno, hu⟩ := hrel
    have HNO := Lib.hid hno
    have HU := Lib.hid hu
    have HCG := Lib.hid hcg
    have hRl := hrg.lt
    clear HRG HU0 hno hu hcg
    go_wp2_with (at_next; refine wpList_next_ranges _ rfl _ rfl 25 keyedU rV (Value.int .u32) id invU invV mr R n D left cnt rfl hrg ?_ ?_)
    · intro _ hl0
      have HE : Hid (sourceM rs t l = none) := Lib.hid (List.find?_eq_none.2 fun r hr => by simpa using HNO.out r hr (hl0 _))
      clear hl0 hrg
      go_wp2
      exact bodyPost_res (v := .tuple #[.int .u32 0, .bool false]) (by simp [results, Try.results16, go_sem]) rfl ⟨by rw [HE.out]; rfl, HU.out⟩
    · intro x c kl yd yp w1 cnt1 hkey hlk hv hat hrg1 hlt hg1 hs1 hen
      rw [HD.out] at hat
      obtain ⟨a, ha, rfl, rfl, rfl⟩ := entry_is (y := (yd, yp)) (f := Rt.ssrc) (v := vRt) HM.out.one hkey hv hat
      have HU1 := Lib.hid (upd_grown HU.out hg1 (by rw [HRS.out]; exact Nat.le_refl _))
      have HR1 := Lib.hid hrg1
      have HA := Lib.hid ha
      have HLT := Lib.hid hlt
      unfold vRt encRt at hen
      dsimp only [id, List.toArray] at hen
      have HRS1 : Hid (R < w1.heap.size) := Lib.hid hrg1.lt
      clear hkey hlk hv hat hrg1 hlt hg1 hs1 hrg ha
      go_upto_region 6 with fail
      obtain ⟨rb, hrb⟩ : ∃ k, k = w1.heap.size := ⟨_, rfl⟩
      obtain ⟨W, hW⟩ : ∃ z, z = w1.alloc (.cells #[.int .u32 a.ssrc, .int .i64 a.track, .int .i64 a.src, .int .i64 a.layer, .int .i64 a.shard] 37) := ⟨_, rfl⟩
      rw [← hW, ← hrb]
      have hbr : Blk W rb 37 #[.int .u32 a.ssrc, .int .i64 a.track, .int .i64 a.src, .int .i64 a.layer, .int .i64 a.shard] := by rw [hW, hrb]; exact Blk.new _ _ _
      have HR2 : Hid (W.ranges Try.prog 25 rV mr R n D (fun z => left z && !z.sameKey (kU a.ssrc)) cnt1) := Lib.hid (by rw [hW]; exact HR1.out.alloc _)
      have HU2 : Hid (Upd [] w W) := Lib.hid (by rw [hW]; exact HU1.out.alloc _)
      have r1 : W.cell? ⟨rb, 1, none⟩ = some (.int .i64 a.track) := hbr.cell 1
      have r3 : W.cell? ⟨rb, 3, none⟩ = some (.int .i64 a.layer) := hbr.cell 3
      clear hbr hW hrb HR1 HU1 hen hRl HRS1
      by_cases k1 : a.track = t
      · by_cases k2 : a.layer = l
        · have HE : Hid (sourceM rs t l = some a) := Lib.hid (find_one HA.out (by simp [k1, k2]) (fun b hb hp => by
            have hp' : b.track = t ∧ b.layer = l := by simpa using hp
            exact HM.out.lay.mem hb HA.out (by simp [hp'.1, hp'.2, k1, k2])))
          have hb1 : (a.track == t) = true := by simp [k1]
          have hb2 : (a.layer == l) = true := by simp [k2]
          clear k1 k2
          go_wp2
          exact bodyPost_res (v := .tuple #[.int .u32 a.ssrc, .bool true]) (by simp [results, Try.results16, go_sem]) rfl ⟨by rw [HE.out]; rfl, HU2.out⟩
        · have HX : Hid (¬ (a.track = t ∧ a.layer = l)) := Lib.hid (fun h => k2 h.2)
          have hb1 : (a.track == t) = true := by simp [k1]
          have hb2 : (a.layer == l) = false := beq_eq_false_iff_ne.2 k2
          clear k1 k2
          go_wp2
          go_roundg (gk - 1)
          case measure => have := HCG.out; have := HLT.out; omega
          case rel =>
            refine ⟨_, _, HR2.out, by have := HCG.out; have := HLT.out; omega, fun r hr hl => ?_, HU2.out⟩
            by_cases hq : left (kRt r) = true
            · have hsk : (kRt r).sameKey (kU a.ssrc) = true := by simpa [hq] using hl
              have he : kRt r = kU a.ssrc := WideAt.sameKey_eq hsk
              have := HM.out.one.mem hr HA.out (kU_inj he)
              subst this
              exact HX.out
            · exact HNO.out r hr (by simpa using hq)
      · have HX : Hid (¬ (a.track = t ∧ a.layer = l)) := Lib.hid (fun h => k1 h.1)
        have hb1 : (a.track == t) = false := beq_eq_false_iff_ne.2 k1
        clear k1
        go_wp2
        go_roundg (gk - 1)
        case measure => have := HCG.out; have := HLT.out; omega
        case rel =>
          refine ⟨_, _, HR2.out, by have := HCG.out; have := HLT.out; omega, fun r hr hl => ?_, HU2.out⟩
          by_cases hq : left (kRt r) = true
          · have hsk : (kRt r).sameKey (kU a.ssrc) = true := by simpa [hq] using hl
            have he : kRt r = kU a.ssrc := WideAt.sameKey_eq hsk
            have := HM.out.one.mem hr HA.out (kU_inj he)
            subst this
            exact HX.out
          · exact HNO.out r hr (by simpa using hq)
end Go.Proofs.Yteljkdihlklliaa
