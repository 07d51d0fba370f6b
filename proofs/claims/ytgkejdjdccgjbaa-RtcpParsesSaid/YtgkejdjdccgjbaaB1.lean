/- Parts of the proof, one behind the other: Tail, Words, Cells, Flat, Oct, Row, Cut, Str, Tail2, Tail3. No condition of their own. -/
import Derived.StillTail
import Derived.Deep.Quiet
import Derived.Deep.QuietTactic
import Derived.BigQuiet
import Derived.WalkKit
import Derived.WalkSpells
import Derived.WalkLawsBesides
import Derived.Lib.Hide
import Derived.Maps.AppendAt
import Derived.Laws.AppendOwnNone
import Derived.Test.YtgkejdjdccgjbaaRows
import Derived.Deep.LoopGhost
import Derived.Maps.OwnOps
import Derived.Laws.OwnMore
import Derived.Shelf.RegionOpen
import Derived.Shelf.Abstract
import Derived.Deep.DeepCutAuto
import Derived.Deep.DrawnRows
import Derived.Lib.LazyBuf
import Derived.Laws.BytesArg
import Derived.WideShapes
/- A region that draws its order: its first m operations only move a slot's value; those from m to n only read, or call what only reads (they may draw); the last ones come in one forced order: one walk of the order of the text serves every order.
   Conditions: the Bool over the region holds; each operation from m to n is quiet in the class of the worlds 'w behind some draws'; the rest is walked from each such world. -/
namespace Go.Proofs.Ytgkejdjdccgjbaa
open Go

section
variable {P : Program} {ops : Array Oper} {md : Region.Mode} {C : World → Prop}

/-- each of the operations from m to n is waited for by a later one, up to the n-th -/
def sinkFrom (md : Region.Mode) (ops : Array Oper) (m n : Nat) : Bool :=
  (List.range n).all fun i => decide (i < m) || (List.range (n + 1)).any fun j => decide (i < j) && Region.waitsFor md ops j i

/-- each operation behind the n-th waits for one from the n-th on -/
def chainW (md : Region.Mode) (ops : Array Oper) (n : Nat) : Bool :=
  (List.range ops.size).all fun t => decide (t ≤ n) || (List.range t).any fun j => decide (n ≤ j) && Region.waitsFor md ops t j

/-- what holds of the marks while the head is under way -/
structure HeadOk (md : Region.Mode) (ops : Array Oper) (m n : Nat) (done : Array Bool) : Prop where
  inv : HeadInv md ops n done
  pre : ∀ i, i < m → done.getD i false = true

theorem HeadOk.set {m n i : Nat} {done : Array Bool} (h : HeadOk md ops m n done) (hi : i ∈ Region.ready md ops done) (hin : i < n) : HeadOk md ops m n (done.setIfInBounds i true) :=
  ⟨h.inv.set hi hin, fun k hk => getD_set_true (h.pre k hk)⟩

/-- as long as one of the head is still to come, none of the tail may come -/
theorem HeadOk.waits {m n : Nat} {done : Array Bool} (h : HeadOk md ops m n done) (hs : sinkFrom md ops m n = true) (hc : chainW md ops n = true) :
    ∀ (d i : Nat), n - i = d → i < n → done.getD i true = false → ∀ t, n ≤ t → t ∉ Region.ready md ops done := by
  intro d
  induction d using Nat.strongRecOn with
  | _ d ih =>
    intro i hd hi hun t ht hr
    obtain ⟨_, ot, hot, hall⟩ := mem_ready.1 hr
    have htlt : t < ops.size := (Array.getElem?_eq_some_iff.1 hot).1
    have him : ¬ i < m := fun him => by
      have h1 := h.pre i him
      rw [getD_both hun] at h1
      exact absurd h1 (by decide)
    by_cases htn : t = n
    · have h1 := List.all_eq_true.1 hs i (List.mem_range.2 hi)
      simp only [Bool.or_eq_true, decide_eq_true_eq, him, false_or] at h1
      obtain ⟨j, hj, hj2⟩ := List.any_eq_true.1 h1
      simp only [Bool.and_eq_true, decide_eq_true_eq] at hj2
      obtain ⟨oj, hoj, e, he, hb, hon⟩ := Region.waitsFor_spec hj2.2
      have hjle := List.mem_range.1 hj
      by_cases hjt : j = t
      · rw [hjt, hot] at hoj
        have h2 := hall e (by rw [Option.some.inj hoj]; exact he) hb
        rw [hon, getD_both hun] at h2
        exact absurd h2 (by decide)
      · cases hl : done.getD j false with
        | true =>
          have h2 := h.inv.closed j oj hoj hl e he hb
          rw [hon, getD_both hun] at h2
          exact absurd h2 (by decide)
        | false => exact ih (n - j) (by omega) j rfl (by omega) (getD_in (by rw [h.inv.size]; omega) hl) t ht hr
    · have h1 := List.all_eq_true.1 hc t (List.mem_range.2 htlt)
      simp only [Bool.or_eq_true, decide_eq_true_eq] at h1
      obtain ⟨j, hj, hj2⟩ := List.any_eq_true.1 (h1.resolve_left (by omega))
      simp only [Bool.and_eq_true, decide_eq_true_eq] at hj2
      have hjt := List.mem_range.1 hj
      obtain ⟨o', ho', e, he, hb, hon⟩ := Region.waitsFor_spec hj2.2
      rw [hot] at ho'
      have h3 := hall e (by rw [Option.some.inj ho']; exact he) hb
      rw [hon, getD_both (h.inv.tail j hj2.1 (by omega))] at h3
      exact absurd h3 (by decide)

/-- f operations of the head are still to come, in whatever order; then L. -/
def HeadAny (P : Program) (md : Region.Mode) (ops : Array Oper) (C : World → Prop) (n : Nat) (L : Array Bool → Act → Prop) : Nat → Array Bool → Act → Prop
  | 0, done, a => L done a
  | f + 1, done, a => Region.ready md ops done ≠ [] ∧ ∀ i ∈ Region.ready md ops done, i < n ∧ qOp P ops C i (HeadAny P md ops C n L f (done.setIfInBounds i true)) a

theorem HeadAny.any {n g : Nat} {L : Array Bool → Act → Prop} {Q : Exit → Act → World → Prop} (hL : ∀ done a w, C w → L done a → wpAny P md ops Q g done a w) :
    ∀ (f : Nat) (done : Array Bool) (a : Act) (w : World), C w → HeadAny P md ops C n L f done a → wpAny P md ops Q (f + g) done a w := by
  intro f
  induction f with
  | zero => intro done a w hw h; rw [Nat.zero_add]; exact hL done a w hw h
  | succ f ih =>
    intro done a w hw h
    rw [Nat.add_right_comm]
    exact ⟨fun h0 => (h.1 h0).elim, fun i hi => wpOp_of_qOp hw (fun a' w' hw' h' => ih _ a' w' hw' h') (h.2 i hi).2⟩

theorem HeadAny.first {m n i : Nat} {oi : Oper} {v : Value} {L : Array Bool → Act → Prop} (hi : ops[i]? = some oi) (hsel : Region.noSelect ops = true)
    (hs : sinkFrom md ops m n = true) (hc : chainW md ops n = true) (hin : i < n) (hL : ∀ done a, L done a → ∀ j ∈ Region.ready md ops done, n ≤ j) :
    ∀ (f : Nat) (done : Array Bool) (a : Act), HeadOk md ops m n done →
      (∀ j oj, ops[j]? = some oj → j ≠ i → done.getD j true = false → (∀ e ∈ oj.after, Region.binds md e = true → e.on ≠ i) → oi.apart ops oj = true) →
      i ∈ Region.ready md ops done → YieldsIn P ops C oi v a →
      HeadAny P md ops C n L f (done.setIfInBounds i true) (a.put oi.dst v) → HeadAny P md ops C n L (f + 1) done a := by
  have spec := Region.noSelect_spec hsel
  intro f
  induction f with
  | zero =>
    intro done a ok _ hr hy H
    refine ⟨List.ne_nil_of_mem hr, fun j hj => ?_⟩
    have hjn : j < n := Nat.lt_of_not_le fun hle => ok.waits hs hc _ i rfl hin (mem_ready.1 hr).1 j hle hj
    refine ⟨hjn, ?_⟩
    by_cases hji : j = i
    · rw [hji]; exact hy.qOp hi H
    · exact absurd (hL _ _ H j (ready_mono hj hji)) (Nat.not_le_of_lt hjn)
  | succ f ih =>
    intro done a ok hfree hr hy H
    have hun := (mem_ready.1 hr).1
    refine ⟨List.ne_nil_of_mem hr, fun j hj => ?_⟩
    have hjn : j < n := Nat.lt_of_not_le fun hle => ok.waits hs hc _ i rfl hin hun j hle hj
    refine ⟨hjn, ?_⟩
    by_cases hji : j = i
    · rw [hji]; exact hy.qOp hi H
    · obtain ⟨hjun, oj, hoj, hall⟩ := mem_ready.1 hj
      have hnot : ∀ e ∈ oj.after, Region.binds md e = true → e.on ≠ i := by
        intro e he hb heq
        have h1 := hall e he hb
        rw [heq, getD_both hun] at h1
        exact absurd h1 (by decide)
      have h2 := qOp_put hoj (hfree j oj hoj hji hjun hnot) (fun cs b => spec i oi cs b hi) (fun cs b => spec j oj cs b hoj) hy (H.2 j (ready_mono hj hji)).2
      refine qOp_mono (fun a' h3 => ?_) h2
      refine ih (done.setIfInBounds j true) a' (ok.set hj hjn) (fun k ok hk hki hku hno => hfree k ok hk hki ?_ hno) (ready_mono hr (Ne.symm hji)) h3.1 ?_
      · by_cases hjk : j = k
        · rw [← hjk]; exact hjun
        · rwa [getD_set_ne true hjk] at hku
      · rw [Array.setIfInBounds_comm _ _ hji]; exact h3.2

/-- the operation gives one value in whatever world: a slot's value, or a part of a tuple -/
def plainB (ops : Array Oper) (k : Nat) : Bool := match ops[k]? with
  | some o => match o.op with | .move _ => true | .assign _ => true | .extract _ _ => true | _ => false
  | none => false

theorem plain_yields {k : Nat} {o : Oper} {a : Act} {w : World} {K : Act → World → Prop} {Q : Exit → Act → World → Prop} (hk : ops[k]? = some o) (hm : plainB ops k = true)
    (h : wpOp P ops Q k K a w) : ∃ v, Yields P ops o v a ∧ K (a.put o.dst v) w := by
  unfold wpOp at h
  rw [hk] at h
  dsimp only at h
  by_cases hw : Region.wanted o (yielded ops a.tmps) = true
  · rw [if_pos hw] at h
    have run : (∃ v, (∀ w', (execOp a.eval o).run P w' = .ok (.value v) w') ∧ ((execOp a.eval o).runT P w #[]).2 = #[]) ∨ ((∃ s w', (execOp a.eval o).run P w = .halt (.stuck s) w') ∧ ((execOp a.eval o).runT P w #[]).2 = #[]) := by
      unfold plainB at hm
      rw [hk] at hm
      dsimp only at hm
      split at hm
      · rename_i x hx
        refine .inl ⟨a.eval x, fun w' => (BigFrame.run_move x hx) w', ?_⟩
        unfold execOp; rw [hx]; rfl
      · rename_i x hx
        refine .inl ⟨a.eval x, fun w' => (BigFrame.run_assign x hx) w', ?_⟩
        unfold execOp; rw [hx]; rfl
      · rename_i x i hx
        have e : execOp a.eval o = (do return .value (← Instr.extract (a.eval x) i)) := by unfold execOp; rw [hx]
        rw [e]
        unfold Instr.extract
        split
        · split
          · rename_i vs _ v hv; exact .inl ⟨v, fun w' => rfl, rfl⟩
          · exact .inr ⟨⟨_, _, rfl⟩, rfl⟩
        · exact .inr ⟨⟨_, _, rfl⟩, rfl⟩
      · exact absurd hm (by decide)
    rcases run with ⟨v, hv, hev⟩ | ⟨⟨s, w', hv⟩, hev⟩
    · refine ⟨v, .inl ⟨hw, hv⟩, ?_⟩
      rcases h with h | ⟨⟨h, _⟩, _⟩
      · unfold Oper.wp at h
        rw [hv w] at h
        exact h
      · rw [hev] at h; simp at h
    · exfalso
      rcases h with h | ⟨⟨h, _⟩, _⟩
      · unfold Oper.wp at h
        rw [hv] at h
        exact h
      · rw [hev] at h; simp at h
  · rw [if_neg hw] at h
    exact ⟨undef, .inr ⟨by simpa using hw, rfl⟩, h⟩

/-- the tail: at each point the one operation that may come; or one that gives its value in whatever world -/
def seqW (md : Region.Mode) (ops : Array Oper) : Nat → Nat → Array Bool → Bool
  | 0, _, done => (Region.ready md ops done).isEmpty
  | g + 1, k, done => (decide (Region.ready md ops done = [k]) || (plainB ops k && (Region.ready md ops done).contains k && Region.free md ops done k)) && seqW md ops g (k + 1) (done.setIfInBounds k true)

theorem wpAny_of_seqW {Q : Exit → Act → World → Prop} (hsel : Region.noSelect ops = true) (hQ : ∀ c tmps a w, Q (.panic c) { a with tmps := tmps } w → Q (.panic c) a w) :
    ∀ (l : List Oper) (k : Nat) (done : Array Bool) (a : Act) (w : World), (∀ j, j < l.length → l[j]? = ops[k + j]?) → seqW md ops l.length k done = true → wpList P ops Q l a w → wpAny P md ops Q l.length done a w := by
  intro l
  induction l with
  | nil => intro k done a w _ hB h; exact ⟨by simpa [seqW] using hB, h⟩
  | cons o l ih =>
    intro k done a w hl hB h
    have h0 : ops[k]? = some o := by simpa using (hl 0 (by simp)).symm
    have hl' : ∀ j, j < l.length → l[j]? = ops[k + 1 + j]? := fun j hj => by
      have h1 := hl (j + 1) (by simp; omega)
      rw [List.getElem?_cons_succ] at h1
      rw [h1, show k + 1 + j = k + (j + 1) by omega]
    simp only [List.length_cons, seqW, Bool.and_eq_true, Bool.or_eq_true, decide_eq_true_eq] at hB
    obtain ⟨hB1, hB2⟩ := hB
    have hw : wpOp P ops Q k (wpList P ops Q l) a w := by unfold wpOp; simp only [h0]; exact h
    rcases hB1 with hr | ⟨⟨hp, hr⟩, hf⟩
    · refine ⟨fun h1 => by rw [hr] at h1; exact absurd h1 (List.cons_ne_nil _ _), fun i hi => ?_⟩
      rw [hr] at hi
      obtain rfl : i = k := by simpa using hi
      exact wpOp_mono (fun a' w' h' => ih (i + 1) _ a' w' hl' hB2 h') hw
    · obtain ⟨v, hy, hK⟩ := plain_yields h0 hp hw
      exact wpAny_take h0 hsel hf hr (fun c a' w' h' => hQ c (a'.put o.dst v).tmps a' w' (by rw [show ({ a' with tmps := (a'.put o.dst v).tmps } : Act) = a'.put o.dst v by cases o.dst <;> rfl]; exact h')) hy (ih (k + 1) _ _ w hl' hB2 hK)

/-- the head in the order of the text, then the tail -/
def lexW (md : Region.Mode) (ops : Array Oper) (n g : Nat) : Nat → Nat → Array Bool → Bool
  | 0, k, done => ((Region.ready md ops done).all fun j => decide (n ≤ j)) && seqW md ops g k done
  | f + 1, k, done => (Region.ready md ops done).contains k && Region.free md ops done k && lexW md ops n g f (k + 1) (done.setIfInBounds k true)

theorem HeadAny.lex {m n g : Nat} {R : Act → Prop} (hsel : Region.noSelect ops = true) (hs : sinkFrom md ops m n = true) (hc : chainW md ops n = true) :
    ∀ (l : List Oper) (k : Nat) (done : Array Bool) (a : Act), (∀ j, j < l.length → l[j]? = ops[k + j]?) → k + l.length = n → HeadOk md ops m n done →
      lexW md ops n g l.length k done = true → wpQuiet P ops C R l a →
      HeadAny P md ops C n (fun done' a' => ((Region.ready md ops done').all fun j => decide (n ≤ j)) = true ∧ seqW md ops g n done' = true ∧ R a') l.length done a := by
  intro l
  induction l with
  | nil =>
    intro k done a _ hk _ hB h
    obtain rfl : k = n := by simpa using hk
    simp only [List.length_nil, lexW, Bool.and_eq_true] at hB
    exact ⟨hB.1, hB.2, h⟩
  | cons o l ih =>
    intro k done a hl hk ok hB h
    have h0 : ops[k]? = some o := by simpa using (hl 0 (by simp)).symm
    simp only [List.length_cons, lexW, Bool.and_eq_true] at hB
    obtain ⟨⟨hr, hf⟩, hB'⟩ := hB
    simp only [List.length_cons] at hk
    have hkn : k < n := by omega
    have hr' : k ∈ Region.ready md ops done := by simpa using hr
    have hq : qOp P ops C k (wpQuiet P ops C R l) a := by unfold qOp; simp only [h0]; exact h
    obtain ⟨v, hy, hK⟩ := yieldsIn_of_qOp h0 hq
    refine HeadAny.first h0 hsel hs hc hkn (fun done' a' hL j hj => by have := List.all_eq_true.1 hL.1 j hj; simpa using this) l.length done a ok (Region.free_spec h0 hf) hr' hy
      (ih (k + 1) _ _ (fun j hj => ?_) (by omega) (ok.set hr' hkn) hB' hK)
    have h1 := hl (j + 1) (by simp; omega)
    rw [List.getElem?_cons_succ] at h1
    rw [h1, show k + 1 + j = k + (j + 1) by omega]


/-- the operation only moves a slot's value -/
def movesB (ops : Array Oper) (k : Nat) : Bool := match ops[k]? with
  | some o => match o.op with | .move _ => true | .assign _ => true | _ => false
  | none => false

theorem yields_of_moves {k : Nat} {o : Oper} {v : Value} {a : Act} (hk : ops[k]? = some o) (hm : movesB ops k = true) (h : YieldsIn P ops (fun _ => True) o v a) : Yields P ops o v a := by
  rcases h with ⟨hw, h⟩ | ⟨hw, h⟩
  · refine .inl ⟨hw, fun w => ?_⟩
    have h1 := h w trivial
    unfold movesB at hm
    rw [hk] at hm
    dsimp only at hm
    unfold Oper.quietAt at h1
    split at hm
    · rename_i x hx
      rw [BigFrame.run_move x hx] at h1 ⊢
      obtain ⟨_, h2⟩ := h1
      rw [h2]
    · rename_i x hx
      rw [BigFrame.run_assign x hx] at h1 ⊢
      obtain ⟨_, h2⟩ := h1
      rw [h2]
    · exact absurd hm (by decide)
  · exact .inr ⟨hw, h⟩

/-- the first m, then the check of the rest -/
def preB (md : Region.Mode) (ops : Array Oper) (n g h : Nat) : Nat → Nat → Array Bool → Bool
  | 0, k, done => lexW md ops n g h k done
  | f + 1, k, done => movesB ops k && decide (k < n) && (Region.ready md ops done).contains k && Region.free md ops done k && preB md ops n g h f (k + 1) (done.setIfInBounds k true)

def tailB (md : Region.Mode) (ops : Array Oper) (m n : Nat) : Bool :=
  Region.noSelect ops && decide (n < ops.size) && decide (m ≤ n) && sinkFrom md ops m n && chainW md ops n && preB md ops n (ops.size - n) (n - m) m 0 (Array.replicate ops.size false)

theorem put_tmps (a : Act) (d : Option Tmp) (v : Value) : ({ a with tmps := (a.put d v).tmps } : Act) = a.put d v := by cases d <;> rfl

theorem pre_any {Q : Exit → Act → World → Prop} {m n g h F : Nat} {w : World} {R : Act → Prop} (hsel : Region.noSelect ops = true)
    (hR : ∀ (done : Array Bool) (a : Act), HeadOk md ops m n done → lexW md ops n g h m done = true → R a → wpAny P md ops Q F done a w) (hQ : ∀ c tmps a w, Q (.panic c) { a with tmps := tmps } w → Q (.panic c) a w) :
    ∀ (l : List Oper) (k : Nat) (done : Array Bool) (a : Act), (∀ j, j < l.length → l[j]? = ops[k + j]?) → k + l.length = m → HeadOk md ops k n done →
      preB md ops n g h l.length k done = true → wpQuiet P ops (fun _ => True) R l a → wpAny P md ops Q (l.length + F) done a w := by
  intro l
  induction l with
  | nil =>
    intro k done a _ hk ok hB hq
    obtain rfl : k = m := by simpa using hk
    simp only [List.length_nil, Nat.zero_add]
    exact hR done a ok hB hq
  | cons o l ih =>
    intro k done a hl hk ok hB hq
    have h0 : ops[k]? = some o := by simpa using (hl 0 (by simp)).symm
    simp only [List.length_cons, preB, Bool.and_eq_true, decide_eq_true_eq] at hB
    obtain ⟨⟨⟨⟨hmv, hkn⟩, hr⟩, hf⟩, hB'⟩ := hB
    have hr' : k ∈ Region.ready md ops done := by simpa using hr
    have hq' : qOp P ops (fun _ => True) k (wpQuiet P ops (fun _ => True) R l) a := by unfold qOp; simp only [h0]; exact hq
    obtain ⟨v, hy, hK⟩ := yieldsIn_of_qOp h0 hq'
    rw [show (o :: l).length + F = (l.length + F) + 1 by simp; omega]
    have ok' := ok.set hr' hkn
    refine wpAny_take h0 hsel hf hr (fun c a' w' h' => hQ c (a'.put o.dst v).tmps a' w' (by rw [put_tmps]; exact h')) (yields_of_moves h0 hmv hy) (ih (k + 1) _ _ (fun j hj => ?_) (by simp at hk; omega) ⟨ok'.inv, fun i hi => ?_⟩ hB' hK)
    · have h1 := hl (j + 1) (by simp; omega)
      rw [List.getElem?_cons_succ] at h1
      rw [h1, show k + 1 + j = k + (j + 1) by omega]
    · by_cases hik : i = k
      · subst hik
        have : i < done.size := by rw [ok.inv.size]; exact (Array.getElem?_eq_some_iff.1 h0).1
        simp [this]
      · exact getD_set_true (ok.pre i (by omega))

/-- THE REGION. -/
theorem wp_moves_quiet_tail {id : Nat} {Q : Exit → Act → World → Prop} {a : Act} {w : World} {l : List Oper} (m n : Nat) (hm : P.follows .mixedOrders = true) (hB : tailB .any l.toArray m n = true)
    (hQ : ∀ c tmps a w, Q (.panic c) { a with tmps := tmps } w → Q (.panic c) a w)
    (h : wpQuiet P l.toArray (fun _ => True) (fun a0 => wpQuiet P l.toArray (fun w' => ∃ m, w' = w.drewN m) (fun a' => ∀ w', (∃ m, w' = w.drewN m) → wpList P l.toArray Q (l.drop n) a' w') ((l.take n).drop m) a0) (l.take m) a) :
    (Code.region id l.toArray true).wp P Q a w := by
  simp only [tailB, Bool.and_eq_true, decide_eq_true_eq] at hB
  obtain ⟨⟨⟨⟨⟨hsel, hn⟩, hmn⟩, hs⟩, hc⟩, hpre⟩ := hB
  have hn' : n < l.length := by simpa using hn
  have hml : (l.take m).length = m := by rw [List.length_take]; omega
  have hhl : ((l.take n).drop m).length = n - m := by rw [List.length_drop, List.length_take]; omega
  have hsz : (l.drop n).length = l.toArray.size - n := by simp
  have inv0 : HeadInv .any l.toArray n (Array.replicate l.toArray.size false) :=
    ⟨by simp, fun j oj _ hl => by rw [getD_replicate_false] at hl; exact absurd hl (by decide), fun t _ ht => getD_in (by simpa using ht) (getD_replicate_false _ _)⟩
  refine wp_region_any hm ?_
  have K := pre_any (P := P) (md := .any) (Q := Q) (m := m) (F := n - m + (l.toArray.size - n)) (w := { w with drawn := w.drawn + 1 }) hsel (fun done a' ok hB' hq => ?_) hQ (l.take m) 0 _ a
    (fun j hj => by rw [hml] at hj; simp [hj]) (by simpa using hml) ⟨inv0, fun i hi => absurd hi (Nat.not_lt_zero i)⟩ (by rw [hml]; exact hpre) h
  · rw [hml, show m + (n - m + (l.toArray.size - n)) = l.toArray.size by omega] at K
    exact K
  · have H := HeadAny.lex (P := P) (md := .any) (g := l.toArray.size - n) hsel hs hc ((l.take n).drop m) m done a'
      (fun j hj => by
        rw [hhl] at hj
        have h1 : m + j < n := by omega
        simp [List.getElem?_drop, h1]) (by rw [hhl]; omega) ok (by rw [hhl]; exact hB') hq
    rw [hhl] at H
    exact HeadAny.any (Q := Q) (g := l.toArray.size - n) (fun done a' w' hw' hL => by
      have h1 := wpAny_of_seqW (md := .any) (Q := Q) hsel hQ (l.drop n) n done a' w' (fun j _ => by simp [List.getElem?_drop]) (by rw [hsz]; exact hL.2.1) (hL.2.2 w' hw')
      rwa [hsz] at h1) (n - m) done a' _ ⟨1, rfl⟩ H

/-- The same where no operation is moved ahead. -/
theorem wp_quiet_tail {id : Nat} {Q : Exit → Act → World → Prop} {a : Act} {w : World} {l : List Oper} (n : Nat) (hm : P.follows .mixedOrders = true) (hB : tailB .any l.toArray 0 n = true)
    (hQ : ∀ c tmps a w, Q (.panic c) { a with tmps := tmps } w → Q (.panic c) a w)
    (h : wpQuiet P l.toArray (fun w' => ∃ m, w' = w.drewN m) (fun a' => ∀ w', (∃ m, w' = w.drewN m) → wpList P l.toArray Q (l.drop n) a' w') (l.take n) a) : (Code.region id l.toArray true).wp P Q a w :=
  wp_moves_quiet_tail 0 n hm hB hQ h
end
end Go.Proofs.Ytgkejdjdccgjbaa
/- Words for memory: a block known whole; what has changed between two worlds; a slice that came in and reads as a list of cells. Plain laws, no condition. -/
namespace Go.Proofs.Ytgkejdjdccgjbaa
open Go Go.RowKit

/-- Block g is just these cells, none of them frozen. -/
def Blk (w : World) (g : Nat) (t : TypeId) (cs : Array Value) : Prop := w.heap[g]? = some (.cells cs t (0, 0))

section
variable {w w' : World} {g : Nat} {t : TypeId} {cs : Array Value}
theorem Blk.lt (h : Blk w g t cs) : g < w.heap.size := (Array.getElem?_eq_some_iff.1 h).1
theorem Blk.cell (h : Blk w g t cs) (i : Nat) : w.cell? ⟨g, i, none⟩ = cs[i]? := cell_of_row w g i cs t (0, 0) h
theorem Blk.frozen (h : Blk w g t cs) (i : Nat) : w.frozen? ⟨g, i, none⟩ = false := by
  have h' : w.heap[g]? = some (.cells cs t (0, 0)) := h
  simp [World.frozen?, h']
theorem Blk.new (w : World) (t : TypeId) (cs : Array Value) : Blk (w.alloc (.cells cs t)) w.heap.size t cs := heap_alloc_new w _
theorem Blk.drewN (h : Blk w g t cs) (n : Nat) : Blk (w.drewN n) g t cs := h
theorem Blk.alloc (h : Blk w g t cs) (o : Obj) : Blk (w.alloc o) g t cs := (Below.heap_alloc w o g h.lt).trans h
theorem Blk.store (h : Blk w g t cs) (i : Nat) (u : Value) : Blk (w.setCell ⟨g, i, none⟩ u) g t (cs.setIfInBounds i u) := by
  have h' : w.heap[g]? = some (.cells cs t (0, 0)) := h
  show (w.setCell ⟨g, i, none⟩ u).heap[g]? = _
  simp [World.setCell, Array.getElem?_modify, h']
theorem Blk.other (h : Blk w g t cs) {p : Addr} (hp : g ≠ p.block) (u : Value) : Blk (w.setCell p u) g t cs := (Below.heap_setCell w p u g hp).trans h
theorem Blk.below {B : Nat} (h : Blk w g t cs) (hb : Below B w w') (hg : g < B) : Blk w' g t cs := (hb.block g hg).trans h
theorem Blk.ne {g' : Nat} {t' : TypeId} {cs' : Array Value} (h : Blk w g t cs) (h' : Blk w g' t' cs') (hne : t ≠ t') : g ≠ g' := by
  intro e
  rw [e] at h
  have := (Option.some.inj (h.symm.trans h'))
  injection this with _ ht
  exact hne ht
end

/-- From w to w' only the blocks of S have changed, and new ones have come. -/
structure Upd (S : List Nat) (w w' : World) : Prop where
  os : w'.os = w.os
  tape : w'.tape = w.tape
  output : w'.output = w.output
  size : w.heap.size ≤ w'.heap.size
  block : ∀ k, k < w.heap.size → k ∉ S → w'.heap[k]? = w.heap[k]?

section
variable {S T : List Nat} {a b c w w' : World}
theorem Upd.refl (S : List Nat) (w : World) : Upd S w w := ⟨rfl, rfl, rfl, Nat.le_refl _, fun _ _ _ => rfl⟩
theorem Upd.trans (h : Upd S a b) (k : Upd T b c) (hT : ∀ t, t ∈ T → t ∈ S ∨ a.heap.size ≤ t) : Upd S a c :=
  ⟨k.os.trans h.os, k.tape.trans h.tape, k.output.trans h.output, Nat.le_trans h.size k.size, fun i hi hn =>
    (k.block i (Nat.lt_of_lt_of_le hi h.size) (fun ht => (hT i ht).elim hn (fun hle => Nat.not_le_of_lt hi hle))).trans (h.block i hi hn)⟩
theorem Upd.next (h : Upd S a b) (k : Upd S b c) : Upd S a c := h.trans k fun _ ht => .inl ht
theorem Upd.more (h : Upd S a b) (hS : ∀ s, s ∈ S → s ∈ T) : Upd T a b := ⟨h.os, h.tape, h.output, h.size, fun k hk hn => h.block k hk fun hs => hn (hS k hs)⟩
theorem Upd.drewN (h : Upd S a w) (n : Nat) : Upd S a (w.drewN n) := ⟨h.os, h.tape, h.output, h.size, h.block⟩
theorem Upd.alloc (h : Upd S a w) (o : Obj) : Upd S a (w.alloc o) :=
  ⟨h.os, h.tape, h.output, Nat.le_trans h.size (by simp), fun k hk hn => (Below.heap_alloc w o k (Nat.lt_of_lt_of_le hk h.size)).trans (h.block k hk hn)⟩
theorem Upd.setCell (h : Upd S a w) {p : Addr} (hp : p.block ∈ S ∨ a.heap.size ≤ p.block) (u : Value) : Upd S a (w.setCell p u) :=
  ⟨h.os, h.tape, h.output, by simpa [World.setCell] using h.size, fun k hk hn => (Below.heap_setCell w p u k (fun e => by
    subst e
    exact hp.elim hn (fun hle => Nat.not_le_of_lt hk hle))).trans (h.block k hk hn)⟩
theorem Upd.below {B : Nat} (h : Upd S w w') (hB : B ≤ w.heap.size) (hS : ∀ s, s ∈ S → B ≤ s) : Below B w w' :=
  ⟨h.os, h.tape, h.output, h.size, fun k hk => h.block k (by omega) (fun hs => by have := hS k hs; omega)⟩
theorem Upd.of_below (h : Below w.heap.size w w') : Upd S w w' := ⟨h.os, h.tape, h.output, h.size, fun k hk _ => h.block k hk⟩
theorem Upd.of_grown {row : Option Nat} (h : w.grownBy w' row) : Upd row.toList w w' :=
  ⟨h.os, h.tape, h.output, h.size, fun k hk hn => h.block k hk (fun e => hn (by rw [← e]; simp))⟩
theorem Blk.upd {g : Nat} {t : TypeId} {cs : Array Value} (h : Blk w g t cs) (u : Upd S w w') (hg : g ∉ S) : Blk w' g t cs := (u.block g h.lt hg).trans h
theorem Upd.cell (h : Upd S w w') {p : Addr} (hp : p.block < w.heap.size) (hS : p.block ∉ S) : w'.cell? p = w.cell? p := World.cell?_of_block (w := w) (h.block p.block hp hS)
theorem ownsRow_upd {base : Nat} {e : TypeId} {size n : Nat} {v : Value} {xs : List Value} (h : w.ownsRow base e size v n xs) (u : Upd S w w') (hS : ∀ s, s ∈ S → v.ownBlock ≠ some s) : w'.ownsRow base e size v n xs := by
  refine ⟨h.1, h.2.imp id fun ⟨g, cap, cur, hv, hg, hh, r⟩ => ⟨g, cap, cur, hv, hg, ?_, r⟩⟩
  have hgS : g ∉ S := fun hs => hS g hs (by rw [hv]; rfl)
  rw [u.block g (Array.getElem?_eq_some_iff.1 hh).1 hgS]; exact hh
end

/-- What the walk is told of the old cells in a later world. -/
theorem old_cells {W w : World} {B : Nat} (hb : Below B W w) : (∀ b o, b < B → w.cell? ⟨b, o, none⟩ = W.cell? ⟨b, o, none⟩) ∧ (∀ b o, b < B → w.frozen? ⟨b, o, none⟩ = W.frozen? ⟨b, o, none⟩) :=
  ⟨fun b o h => hb.cell (p := ⟨b, o, none⟩) h, fun b o h => hb.frozen (p := ⟨b, o, none⟩) h⟩

/-- A slice that came in: n elements of so many cells each, below block B. -/
def Cells (w : World) (B size : Nat) (A : Option Addr) (n : Nat) (xs : List Value) : Prop :=
  xs.length = n * size ∧ (0 < n → ∃ b off, A = some ⟨b, off, none⟩ ∧ b < B ∧ ∀ (j : Nat) (u : Value), xs[j]? = some u → w.cell? ⟨b, off + j, none⟩ = some u)
theorem Cells.below {w w' : World} {B B' size n : Nat} {A : Option Addr} {xs : List Value} (h : Cells w B size A n xs) (hb : Below B' w w') (hB : B ≤ B') : Cells w' B size A n xs :=
  ⟨h.1, fun hn => by
    obtain ⟨b, off, e, hlt, hc⟩ := h.2 hn
    exact ⟨b, off, e, hlt, fun j u hu => (hb.cell (p := ⟨b, off + j, none⟩) (Nat.lt_of_lt_of_le hlt hB)).trans (hc j u hu)⟩⟩

/-- The value of a slice of the call's own. -/
theorem own_form {w : World} {B : Nat} {e : TypeId} {size n : Nat} {v : Value} {xs : List Value} (h : w.ownsRow B e size v n xs) :
    ∃ A cap, v = .slice A n cap ∧ n ≤ cap ∧ (0 < n → ∃ g, A = some ⟨g, 0, none⟩ ∧ B ≤ g ∧ g < w.heap.size) ∧ (A = none → n = 0 ∧ cap = 0) := by
  rcases h.2 with ⟨hv, hn⟩ | ⟨g, cap, cur, hv, hg, hh, hc, _⟩
  · subst hn
    exact ⟨none, 0, hv, Nat.le_refl _, fun h => absurd h (Nat.lt_irrefl 0), fun _ => ⟨rfl, rfl⟩⟩
  · exact ⟨_, cap, hv, hc, fun _ => ⟨g, rfl, hg, (Array.getElem?_eq_some_iff.1 hh).1⟩, fun h => by cases h⟩

/-- append onto a slice of the call's own, from a source that may be nil or empty. -/
theorem wpList_append_src {P : Program} (w : World) {ops : Array Oper} {rest : List Oper} {o : Oper} {a : Act} {Q : Exit → Act → World → Prop} (hgd : o.guard = none) (s x : Operand) (t : TypeId)
    (ho : o.op = .call { callee := .builtin .append, args := #[s, x], argTypes := #[t, t] })
    (base : Nat) (e : TypeId) (i : TypeInfo) (z : Value) (size bytes : Nat) (ht : P.underlying t = some (.slice e)) (hi : P.info? e = some i) (hz : i.zero = some z) (hsize : i.size = size) (hby : i.bytes = bytes)
    (hzs : z.cells.size = size) (hsz : 0 < size) (v : Value) (n : Nat) (xs : List Value) (hs : a.eval s = v) (hown : w.ownsRow base e size v n xs)
    (A : Option Addr) (m c : Nat) (news : List Value) (hx : a.eval x = .slice A m c) (hA : A = none → m = 0 ∧ c = 0) (hn : news.length = m * size)
    (hcells : ∀ ad, A = some ad → ∀ (j : Nat) (u : Value), news[j]? = some u → w.cell? (ad.add j) = some u) (h1 : ∀ u ∈ news, u.oneCell' = true)
    (h63 : n + m ≤ maxLen) (hbytes : (n + m) * bytes ≤ 140737488355328) (hbase : base ≤ w.heap.size)
    (h : ∀ v' w', w'.ownsRow base e size v' (n + m) (xs ++ news) → w.grownBy w' v.ownBlock → (v'.ownBlock = v.ownBlock ∨ v'.ownBlock = some w.heap.size) → wpList P ops Q rest (a.put o.dst v') w') : wpList P ops Q (o :: rest) a w := by
  cases A with
  | none =>
    obtain ⟨hm, hc⟩ := hA rfl
    subst hm
    subst hc
    have hnil : news = [] := List.eq_nil_of_length_eq_zero (by simpa using hn)
    subst hnil
    refine wpList_append_own_none hgd s x t ho base e i size ht hi v n xs hs hown hx ?_
    exact h v w (by simpa using hown) (World.grownBy.refl w _) (.inl rfl)
  | some ad =>
    exact wpList_append_own_at w hgd s x t ho base e i z size bytes ht hi hz hsize hby hzs hsz v n xs hs hown ad m c news hx hn (hcells ad rfl) h1 h63 hbytes hbase (fun v' w' g1 g2 _ g4 => h v' w' g1 g2 g4)

/-- Two slices of the call's own that share no block. -/
def Apart (v u : Value) : Prop := ∀ g, v.ownBlock = some g → u.ownBlock ≠ some g
theorem Apart.symm {v u : Value} (h : Apart v u) : Apart u v := fun g h1 h2 => h g h2 h1
theorem Apart.nil (u : Value) : Apart (.slice none 0 0) u := fun g h => by simp [Value.ownBlock] at h
theorem own_block_lt {w : World} {B : Nat} {e : TypeId} {size n : Nat} {v : Value} {xs : List Value} (h : w.ownsRow B e size v n xs) {g : Nat} (hg : v.ownBlock = some g) : B ≤ g ∧ g < w.heap.size := by
  rcases h.2 with ⟨hv, _⟩ | ⟨g', cap, cur, hv, hb, hh, _⟩
  · rw [hv] at hg; simp [Value.ownBlock] at hg
  · rw [hv] at hg
    have : g' = g := by simpa [Value.ownBlock] using hg
    subst this
    exact ⟨hb, (Array.getElem?_eq_some_iff.1 hh).1⟩
/-- Behind an append: another slice stays apart, and owns what it owned. -/
theorem Apart.append {w : World} {B : Nat} {e : TypeId} {size n : Nat} {v v' u : Value} {ys : List Value} (hat : v'.ownBlock = v.ownBlock ∨ v'.ownBlock = some w.heap.size) (hu : w.ownsRow B e size u n ys) (h : Apart u v) : Apart u v' := by
  intro g hg h2
  rcases hat with e1 | e1
  · exact h g hg (e1 ▸ h2)
  · have := (own_block_lt hu hg).2
    rw [e1] at h2
    injection h2 with h2
    omega
theorem Apart.kept {w w' : World} {B : Nat} {e : TypeId} {size n : Nat} {v u : Value} {ys : List Value} (hu : w.ownsRow B e size u n ys) (hg : w.grownBy w' v.ownBlock) (h : Apart u v) : w'.ownsRow B e size u n ys := by
  refine hu.kept hg ?_
  cases hb : u.ownBlock with
  | none => exact .inl rfl
  | some g => exact .inr (fun e => h g hb e.symm)
/-- Behind an append onto a row of the call's own from block N on: what lies below N is as it was. -/
theorem grown_upd {w w' : World} {N : Nat} {e : TypeId} {size n : Nat} {v : Value} {xs : List Value} (hown : w.ownsRow N e size v n xs) (hg : w.grownBy w' v.ownBlock) (hN : N ≤ w.heap.size) : Below N w w' :=
  ⟨hg.os, hg.tape, hg.output, hg.size, fun k hk => hg.block k (by omega) (fun e => by have := (own_block_lt hown e.symm).1; omega)⟩

theorem ret_int {k : IntKind} {a b : Int} (h : a = b) : Ending.returned (.int k a) = .returned (.int k b) := by rw [h]
theorem ret_bool {a b : Bool} (h : a = b) : Ending.returned (.bool a) = .returned (.bool b) := by rw [h]

/-- A call in a region that only reads, behind other draws. -/
theorem quiet_more {P : Program} {f : FuncId} {args : Array Value} {w : World} {a n : Nat} {v : Value}
    (h : Calls P f args (w.drewN (a + n)) fun e w' => e = .returned v ∧ ∃ m, w' = (w.drewN (a + n)).drewN m) :
    Calls P f args (w.drewN (a + n)) fun e w' => e = .returned v ∧ ∃ m, w' = w.drewN (a + m) :=
  h.mono fun _ _ ⟨he, m, hm⟩ => ⟨he, n + m, by rw [hm, World.drewN_drewN, Nat.add_assoc]⟩
theorem quiet_more_same {P : Program} {f : FuncId} {args : Array Value} {w : World} {a n : Nat} {v : Value}
    (h : Calls P f args (w.drewN (a + n)) fun e w' => e = .returned v ∧ w.drewN (a + n) = w') :
    Calls P f args (w.drewN (a + n)) fun e w' => e = .returned v ∧ ∃ m, w' = w.drewN (a + m) :=
  h.mono fun _ _ ⟨he, hm⟩ => ⟨he, n, hm.symm⟩
theorem quiet_one {P : Program} {f : FuncId} {args : Array Value} {w : World} {n : Nat} {v : Value}
    (h : Calls P f args (w.drewN n) fun e w' => e = .returned v ∧ w.drewN n = w') : Calls P f args (w.drewN n) fun e w' => e = .returned v ∧ ∃ m, w' = w.drewN m :=
  h.mono fun _ _ ⟨he, hm⟩ => ⟨he, n, hm.symm⟩
end Go.Proofs.Ytgkejdjdccgjbaa
/- A slice whose cells lie in blocks between two bounds. Plain laws on worlds. -/
namespace Go.Proofs.Ytgkejdjdccgjbaa
open Go Go.RowKit

/-- A slice whose cells lie in blocks from lo to hi. -/
def CellsIn (w : World) (lo hi size : Nat) (A : Option Addr) (n : Nat) (xs : List Value) : Prop :=
  xs.length = n * size ∧ (0 < n → ∃ b off, A = some ⟨b, off, none⟩ ∧ lo ≤ b ∧ b < hi ∧ ∀ (j : Nat) (u : Value), xs[j]? = some u → w.cell? ⟨b, off + j, none⟩ = some u)
section
variable {w w' : World} {lo hi size n : Nat} {A : Option Addr} {xs : List Value}
theorem CellsIn.upd {S : List Nat} (h : CellsIn w lo hi size A n xs) (u : Upd S w w') (hh : hi ≤ w.heap.size) (hS : ∀ s, s ∈ S → s < lo ∨ hi ≤ s) : CellsIn w' lo hi size A n xs :=
  ⟨h.1, fun hn => by
    obtain ⟨b, off, e, h1, h2, hc⟩ := h.2 hn
    exact ⟨b, off, e, h1, h2, fun j v hv => (u.cell (p := ⟨b, off + j, none⟩) (Nat.lt_of_lt_of_le h2 hh) (fun hb => by have := hS b hb; omega)).trans (hc j v hv)⟩⟩
theorem CellsIn.below {B : Nat} (h : CellsIn w lo hi size A n xs) (u : Below B w w') (hh : hi ≤ B) : CellsIn w' lo hi size A n xs :=
  ⟨h.1, fun hn => by
    obtain ⟨b, off, e, h1, h2, hc⟩ := h.2 hn
    exact ⟨b, off, e, h1, h2, fun j v hv => (u.cell (p := ⟨b, off + j, none⟩) (Nat.lt_of_lt_of_le h2 hh)).trans (hc j v hv)⟩⟩
theorem CellsIn.more {lo' hi' : Nat} (h : CellsIn w lo hi size A n xs) (h1 : lo' ≤ lo) (h2 : hi ≤ hi') : CellsIn w lo' hi' size A n xs :=
  ⟨h.1, fun hn => by
    obtain ⟨b, off, e, h3, h4, hc⟩ := h.2 hn
    exact ⟨b, off, e, by omega, by omega, hc⟩⟩
theorem CellsIn.nil (w : World) (lo hi size : Nat) (A : Option Addr) : CellsIn w lo hi size A 0 [] := ⟨by simp, fun h => absurd h (Nat.lt_irrefl 0)⟩
theorem CellsIn.of_own {e : TypeId} {c : Nat} (h : w.ownsRow lo e size (.slice A n c) n xs) : CellsIn w lo w.heap.size size A n xs := by
  refine ⟨h.1, fun hn => ?_⟩
  obtain ⟨A', c', hv, _, hA, _⟩ := own_form h
  injection hv with h1 h2 h3
  subst h1
  obtain ⟨g, hg, hlo, hlt⟩ := hA hn
  subst hg
  refine ⟨g, 0, rfl, hlo, hlt, fun j u hu => ?_⟩
  have := h.cells (g := g) rfl j u hu
  rw [Nat.zero_add]
  by_cases hj : j = 0
  · subst hj; simpa [Addr.add] using this
  · simpa [Addr.add, hj] using this
/-- the slice lies in blocks from lo on -/
theorem CellsIn.fresh (h : CellsIn w lo hi size A n xs) (hn : 0 < n) : ∀ a, A = some a → lo ≤ a.block := by
  intro a ha
  obtain ⟨b, off, e, h1, _, _⟩ := h.2 hn
  rw [ha] at e
  obtain rfl := Option.some.inj e
  exact h1
/-- as '.upd', block by block -/
theorem CellsIn.upd2 {S : List Nat} (h : CellsIn w lo hi size A n xs) (u : Upd S w w') (hh : hi ≤ w.heap.size) (hS : ∀ s, s ∈ S → 0 < n → ∀ a, A = some a → a.block ≠ s) : CellsIn w' lo hi size A n xs :=
  ⟨h.1, fun hn => by
    obtain ⟨b, off, e, h1, h2, hc⟩ := h.2 hn
    exact ⟨b, off, e, h1, h2, fun j v hv => (u.cell (p := ⟨b, off + j, none⟩) (Nat.lt_of_lt_of_le h2 hh) (fun hb => hS b hb hn _ e rfl)).trans (hc j v hv)⟩⟩
/-- what an append wants of its source -/
theorem CellsIn.src (h : CellsIn w lo hi size A n xs) : ∀ ad, A = some ad → ∀ (j : Nat) (u : Value), xs[j]? = some u → w.cell? (ad.add j) = some u := by
  intro ad had j u hu
  have hj := (List.getElem?_eq_some_iff.1 hu).1
  have hn : 0 < n := by
    rcases Nat.eq_zero_or_pos n with h0 | h0
    · have := h.1; rw [h0, Nat.zero_mul] at this; omega
    · exact h0
  obtain ⟨b, off, e, _, _, hc⟩ := h.2 hn
  rw [had] at e
  injection e with e
  subst e
  have := hc j u hu
  unfold Addr.add
  by_cases hj0 : j = 0
  · subst hj0; simpa using this
  · simpa [hj0] using this
end

theorem own_cap {w : World} {B : Nat} {e : TypeId} {size n c : Nat} {A : Option Addr} {xs : List Value} (h : w.ownsRow B e size (.slice A n c) n xs) : c ≤ 9223372036854775807 := by
  rcases h.2 with ⟨hv, _⟩ | ⟨g, cap, cur, hv, _, _, _, hm, _⟩
  · injection hv with _ _ h3; omega
  · injection hv with _ _ h3; rw [h3]; exact hm

theorem bodyPost_res {P : Program} {fn : Func} {R : Ending → World → Prop} {a : Act} {w : World} {v : Value} (h : (results fn a.tmps).run P w = .ok v w) (hd : a.defers = []) (hR : R (.returned v) w) : bodyPost P fn R .ret a w :=
  bodyPost_ret h hd hR
end Go.Proofs.Ytgkejdjdccgjbaa
/- Rows of elements of several cells. Plain laws on lists. -/
namespace Go.Proofs.Ytgkejdjdccgjbaa
open Go Go.RowKit

section
variable {α : Type} {f : α → List Value} {size : Nat}
theorem flat_length (hf : ∀ z, (f z).length = size) (l : List α) : (l.flatMap f).length = l.length * size := by
  induction l with
  | nil => simp
  | cons a l ih => rw [List.flatMap_cons, List.length_append, ih, hf, List.length_cons, Nat.succ_mul, Nat.add_comm]
theorem flat_get (hf : ∀ z, (f z).length = size) (l : List α) (i j : Nat) (z : α) (h : l[i]? = some z) (hj : j < size) : (l.flatMap f)[i * size + j]? = (f z)[j]? := by
  induction l generalizing i with
  | nil => simp at h
  | cons a l ih =>
    rw [List.flatMap_cons]
    cases i with
    | zero =>
      obtain rfl : a = z := by simpa using h
      rw [Nat.zero_mul, Nat.zero_add, List.getElem?_append_left (by rw [hf]; exact hj)]
    | succ i =>
      rw [List.getElem?_append_right (by rw [hf, Nat.succ_mul]; omega), hf, Nat.succ_mul, show i * size + size + j - size = i * size + j by omega]
      exact ih i (by simpa using h)
theorem flat_set (hf : ∀ z, (f z).length = size) (l : List α) (i j : Nat) (z z' : α) (v : Value) (h : l[i]? = some z) (hj : j < size) (hz : f z' = (f z).set j v) : (l.flatMap f).set (i * size + j) v = (l.set i z').flatMap f := by
  induction l generalizing i with
  | nil => simp at h
  | cons a l ih =>
    cases i with
    | zero =>
      obtain rfl : a = z := by simpa using h
      rw [List.flatMap_cons, List.set_cons_zero, List.flatMap_cons, Nat.zero_mul, Nat.zero_add, hz, List.set_append_left _ _ (by rw [hf]; exact hj)]
    | succ i =>
      rw [List.flatMap_cons, List.set_cons_succ, List.flatMap_cons, List.set_append_right _ _ (by rw [hf, Nat.succ_mul]; omega), hf, Nat.succ_mul, show i * size + size + j - size = i * size + j by omega, ih i (by simpa using h)]
theorem flat_snoc (l : List α) (x : α) : (l ++ [x]).flatMap f = l.flatMap f ++ f x := by simp
theorem flat_take (hf : ∀ z, (f z).length = size) (l : List α) (k : Nat) : (l.flatMap f).take (k * size) = (l.take k).flatMap f := by
  induction l generalizing k with
  | nil => simp
  | cons a l ih =>
    cases k with
    | zero => simp
    | succ k =>
      rw [List.flatMap_cons, List.take_succ_cons, List.flatMap_cons, Nat.succ_mul, Nat.add_comm, List.take_append, hf]
      rw [List.take_of_length_le (by rw [hf]; omega), Nat.add_sub_cancel_left, ih]
end

/-- make of n elements of several cells, each the zero one. -/
theorem run_mkN {P : Program} (t e : TypeId) (zc : List Value) (size bytes : Nat) (ht : P.underlying t = some (.slice e)) (hi : (P.info? e).map (fun i => (i.zero, i.size, i.bytes)) = some (some (.agg zc.toArray), size, bytes))
    (hz : zc.length = size) (h0 : 0 < size) (n : Nat) (hb : bytes * n ≤ 281474976710656) (hn : n ≤ 65536) (w : World) :
    (Instr.makeSlice t (.int .i64 (n : Int)) (.int .i64 (n : Int))).run P w = .ok (.slice (some ⟨w.heap.size, 0, none⟩) n n) (w.alloc (.cells ((List.replicate n ()).flatMap fun _ => zc).toArray e)) := by
  obtain ⟨i0, hi0, hz0, hz1, hz2⟩ := info_parts hi
  have hb' : (i0.bytes : Int) * (n : Int) ≤ 281474976710656 := by
    rw [hz2]
    have : ((bytes * n : Nat) : Int) ≤ 281474976710656 := by omega
    rwa [Int.natCast_mul] at this
  have h := run_make (P := P) w t e i0 _ ht hi0 hz0 .i64 .i64 (n : Int) (n : Int) (by omega) (by omega) hb' (by omega)
  rw [Int.toNat_natCast, hz1] at h
  rw [h]
  congr 3
  unfold madeCells
  have hcs : (Value.agg zc.toArray).cells = zc.toArray := rfl
  rw [hcs]
  apply Array.ext
  · simp [flat_length (f := fun _ : Unit => zc) (fun _ => hz)]
  · intro i h1 h2
    simp only [Array.size_map, Array.size_range] at h1
    have hq : i = i / size * size + i % size := by rw [Nat.mul_comm]; exact (Nat.div_add_mod i size).symm
    have hm : i % size < size := Nat.mod_lt _ h0
    have hd : i / size < n := Nat.div_lt_of_lt_mul (by rw [Nat.mul_comm]; exact h1)
    have hg := flat_get (f := fun _ : Unit => zc) (fun _ => hz) (List.replicate n ()) (i / size) (i % size) () (by simp [hd]) hm
    rw [← hq] at hg
    simp only [Array.getElem_map, Array.getElem_range, List.getElem_toArray]
    rw [List.getElem?_eq_getElem (by simpa using h2), List.getElem?_eq_getElem (by omega)] at hg
    have hsz : zc.toArray.size = size := by simpa using hz
    rw [Option.some.inj hg, hsz, getElem!_pos zc.toArray (i % size) (by rw [hsz]; exact hm)]
    simp
end Go.Proofs.Ytgkejdjdccgjbaa
/- octet: may, Put. Conditions: sizes of 1 to 8; no more than 1000 parts. -/
namespace Go.Proofs.Ytgkejdjdccgjbaa
open Go Go.RowKit
set_option maxHeartbeats 400000

theorem row_type {w : World} {base : Nat} {e : TypeId} {size n : Nat} {v : Value} {xs : List Value} (h : w.ownsRow base e size v n xs) : ∀ g, v.ownBlock = some g → ∃ cur, Blk w g e cur := by
  intro g hg
  rcases h.2 with ⟨hv, _⟩ | ⟨g', cap, cur, hv, _, hh, _⟩
  · rw [hv] at hg; simp [Value.ownBlock] at hg
  · rw [hv] at hg
    have : g' = g := by simpa [Value.ownBlock] using hg
    subst this
    exact ⟨cur, hh⟩
/-- the elements of a literal, out of the block that is made for it -/
theorem blk_src {w : World} {g : Nat} {t : TypeId} {xs : List Value} (h : Blk w g t xs.toArray) : ∀ (j : Nat) (u : Value), xs[j]? = some u → w.cell? ((⟨g, 0, none⟩ : Addr).add j) = some u := by
  intro j u hj
  have := h.cell j
  rw [List.getElem?_toArray, hj] at this
  unfold Addr.add
  by_cases hj0 : j = 0
  · subst hj0; simpa using this
  · simpa [hj0] using this
theorem infoB : (Try.prog.info? 5).map (fun i => (i.zero, i.size, i.bytes)) = some (some (.int .u8 0), 1, 1) := by kernel_rfl
/-- the bytes of a number, the highest first -/
def be (x : Int) (n : Nat) : List Int := (List.range n).map fun i => x / 2 ^ (8 * (n - 1 - i)) % 256
def encP (p : Int × Nat) : List Value := [.int .u64 p.1, .int .i64 p.2]
theorem encP_len (p : Int × Nat) : (encP p).length = 2 := rfl
def bytesOf (ps : List (Int × Nat)) : List Int := ps.flatMap fun p => be p.1 p.2
theorem be_length (x : Int) (n : Nat) : (be x n).length = n := by simp [be]
theorem be_take (x : Int) (n k : Nat) (h : k < n) : (be x n).take (k + 1) = (be x n).take k ++ [x / 2 ^ (8 * (n - 1 - k)) % 256] := by
  rw [List.take_add_one]
  congr 1
  rw [List.getElem?_eq_getElem (by rw [be_length]; exact h)]
  simp [be]

theorem bytesOf_len (ps : List (Int × Nat)) (h : ∀ p, p ∈ ps → p.2 ≤ 8) : (bytesOf ps).length ≤ 8 * ps.length := by
  induction ps with
  | nil => simp [bytesOf]
  | cons p ps ih =>
    unfold bytesOf at ih ⊢
    rw [List.flatMap_cons, List.length_append, be_length, List.length_cons]
    have := ih fun q hq => h q (List.mem_cons_of_mem _ hq)
    have := h p (List.mem_cons_self ..)
    omega

theorem may_any (n : Nat) (w : World) (h1 : 1 ≤ n) (h2 : n ≤ 8) : Calls Try.prog 35 #[.int .i64 n] w fun e w' => e = .returned (.bool true) ∧ w = w' := by
  have d1 : decide ((1 : Int) ≤ (n : Int)) = true := by simp; omega
  have d2 : decide ((n : Int) ≤ 8) = true := by simp; omega
  go_enter Try.func35, Try.ntmps35
  go_wp2
  go_ret
  exact ⟨rfl, rfl⟩

set_option maxRecDepth 100000 in
set_option maxHeartbeats 2000000 in
theorem oput_any {w : World} {lo : Nat} {A : Option Addr} {cap : Nat} {ps : List (Int × Nat)} (hc : CellsIn w lo w.heap.size 2 A ps.length (ps.flatMap encP)) (hp : ∀ p, p ∈ ps → 1 ≤ p.2 ∧ p.2 ≤ 8) (hl : ps.length ≤ 1000) :
    Calls Try.prog 23 #[.slice A ps.length cap] w fun e w' => ∃ v, e = .returned v ∧ w'.ownsRow w.heap.size 5 1 v (bytesOf ps).length ((bytesOf ps).map (Value.int .u8)) ∧ Below w.heap.size w w' := by
  obtain ⟨j0, hj0, hy0, hy1, hy2⟩ := info_parts infoB
  have HC := Lib.hid hc
  have HP := Lib.hid hp
  clear hc hp
  go_enter Try.func23, Try.ntmps23
  go_wp2
  go_loopg [3, 9] ps.length (fun gk x3 x9 wr => ∃ (i : Nat) (bs : List Int), i ≤ ps.length ∧ ps.length ≤ i + gk ∧ x9 = .int .i64 i ∧ bs = bytesOf (ps.take i) ∧ wr.ownsRow w.heap.size 5 1 x3 bs.length (bs.map (Value.int .u8)) ∧ Below w.heap.size w wr)
  case atStart => exact ⟨0, [], Nat.zero_le _, by omega, rfl, rfl, World.ownsRow_nil _ _ _ _, Below.refl _ _⟩
  case round =>
    obtain ⟨i, bs, hi, hgi, rfl, hbs, hown, hbel⟩ := hrel
    obtain ⟨gA, rfl⟩ : ∃ gA : Nat, gA = gk := ⟨gk, rfl⟩
    by_cases hlt : i < ps.length
    · obtain ⟨p, hpi⟩ : ∃ p, ps[i]? = some p := ⟨_, List.getElem?_eq_getElem hlt⟩
      obtain ⟨hp1, hp8⟩ := HP.out p (List.mem_of_getElem? hpi)
      obtain ⟨b, off, rfl, hb1, hb2, hcc⟩ := HC.out.2 (by omega)
      have c0 := (hbel.cell (p := ⟨b, off + i * 2, none⟩) hb2).trans (hcc (i * 2 + 0) _ (flat_get encP_len ps i 0 p hpi (by omega)))
      have c1 := (hbel.cell (p := ⟨b, off + i * 2 + 1, none⟩) hb2).trans (hcc (i * 2 + 1) _ (flat_get encP_len ps i 1 p hpi (by omega)))
      obtain ⟨x, n⟩ := p
      obtain ⟨Av, cv, hve, _⟩ := own_form hown
      subst hve
      dsimp only at hp1 hp8
      dsimp only at c0 c1
      have HOW := Lib.hid hown
      have HB := Lib.hid hbel
      have HBS := Lib.hid hbs
      have HPI := Lib.hid hpi
      clear hcc hown hbel hbs hpi
      go_wp2_with fail
      refine (may_any n _ hp1 hp8).mono ?_
      rintro e w1 ⟨rfl, rfl⟩
      clear c0 c1
      obtain ⟨W1, hW1⟩ : ∃ W1, W1 = wr.alloc (.cells #[.int .u64 x, .int .i64 n] 94) := ⟨_, rfl⟩
      obtain ⟨X, hXe⟩ : ∃ X, X = wr.heap.size := ⟨_, rfl⟩
      rw [← hW1, ← hXe]
      have hX : Blk W1 X 94 #[.int .u64 x, .int .i64 n] := by rw [hW1, hXe]; exact Blk.new wr _ _
      have HOW1 : Hid (W1.ownsRow w.heap.size 5 1 (.slice Av bs.length cv) bs.length (bs.map (Value.int .u8))) := by rw [hW1]; exact Lib.hid (HOW.out.alloc _)
      have HB1 : Hid (Below w.heap.size w W1) := by rw [hW1]; exact Lib.hid (HB.out.alloc HB.out.size _)
      clear hW1 hXe HOW HB
      have x1 : W1.cell? ⟨X, 1, none⟩ = some (.int .i64 n) := hX.cell 1
      have HX := Lib.hid hX
      clear hX
      go_wp2
      clear x1
      go_loopg [3, 19] n (fun gj x3 x19 wx => ∃ (k : Nat) (cs : List Int), k ≤ n ∧ n ≤ k + gj ∧ x19 = .int .i64 k ∧ cs = bs ++ (be x n).take k ∧ wx.ownsRow w.heap.size 5 1 x3 cs.length (cs.map (Value.int .u8)) ∧ Below w.heap.size w wx ∧ Blk wx X 94 #[.int .u64 x, .int .i64 n])
      case atStart => exact ⟨0, bs, Nat.zero_le _, by omega, rfl, by simp, HOW1.out, HB1.out, HX.out⟩
      case round =>
        obtain ⟨k, cs, hk, hgk, rfl, hcs, hown, hbel, hX⟩ := hrel
        obtain ⟨Av, cv, hve, _⟩ := own_form hown
        subst hve
        have x0 : wr.cell? ⟨X, 0, none⟩ = some (.int .u64 x) := hX.cell 0
        have x1 : wr.cell? ⟨X, 1, none⟩ = some (.int .i64 n) := hX.cell 1
        by_cases hkn : k < n
        · obtain ⟨ys, hys⟩ : ∃ ys, ys = cs.map (Value.int .u8) := ⟨_, rfl⟩
          rw [← hys] at hown
          have HOW := Lib.hid hown
          have HB := Lib.hid hbel
          have HX := Lib.hid hX
          have HCS := Lib.hid hcs
          have HYS := Lib.hid hys
          have HLEN : Hid (cs.length ≤ 8000) := by
            show _ ≤ _
            have h1 := bytesOf_len (ps.take i) (fun p hp => (HP.out p (List.mem_of_mem_take hp)).2)
            rw [← HBS.out, List.length_take] at h1
            have h2 := be_length x n
            rw [hcs, List.length_append, List.length_take]
            omega
          clear hown hbel hX hcs hys
          go_wp2_with (at_builtin; refine wpList_append_own_at _ rfl (.tmp 22) (.tmp 33) 25 rfl w.heap.size 5 j0 _ 1 1 Try.underlying25 hj0 hy0 hy1 hy2 rfl (by decide) _ cs.length ys rfl (HOW.out.alloc _) ⟨wr.heap.size, 0, none⟩ 1 1 [.int .u8 (x / 2 ^ (8 * (n - 1 - k)) % 256)] rfl rfl ?u1 ?u2 ?u3 ?u4 ?u5 ?_)
          case u1 =>
            intro j u hj
            match j, hj with
            | 0, hj => simp at hj; subst hj; exact (Blk.new wr 5 #[.int .u8 (x / 2 ^ (8 * (n - 1 - k)) % 256)]).cell 0
          case u2 => intro u hu; simp at hu; subst hu; rfl
          case u3 => unfold maxLen; have := HLEN.out; omega
          case u4 => have := HLEN.out; omega
          case u5 => simp; have := HB.out.size; omega
          intro v1 w1 hown1 hg1 _ hat1
          have hl1 : (cs ++ [x / 2 ^ (8 * (n - 1 - k)) % 256]).length = cs.length + 1 := by simp
          have hown1' : w1.ownsRow w.heap.size 5 1 v1 (cs ++ [x / 2 ^ (8 * (n - 1 - k)) % 256]).length ((cs ++ [x / 2 ^ (8 * (n - 1 - k)) % 256]).map (Value.int .u8)) := by
            rw [hl1, List.map_append, ← HYS.out]; exact hown1
          have hb1 := grown_upd (HOW.out.alloc (.cells #[.int .u8 (x / 2 ^ (8 * (n - 1 - k)) % 256)] 5)) hg1 (Nat.le_trans HB.out.size (by simp))
          have hbel1 := (HB.out.alloc HB.out.size _).trans hb1
          have hX1 : Blk w1 X 94 #[.int .u64 x, .int .i64 n] := (HX.out.alloc (.cells #[.int .u8 (x / 2 ^ (8 * (n - 1 - k)) % 256)] 5)).upd (Upd.of_grown hg1) (fun hm => by
            obtain ⟨cur, hcur⟩ := row_type HOW.out X (by simpa using hm)
            exact hcur.ne HX.out (by decide) rfl)
          obtain ⟨A1, c1, hv1, _⟩ := own_form hown1'
          subst hv1
          have HO := Lib.hid hown1'
          have HBE := Lib.hid hbel1
          have HX1 := Lib.hid hX1
          rw [hl1] at HO ⊢
          clear hown1 hown1' hg1 hat1 hb1 hbel1 hX1 x0 x1
          go_wp2
          go_roundg (gk - 1)
          case measure => omega
          case rel => exact ⟨k + 1, cs ++ [x / 2 ^ (8 * (n - 1 - k)) % 256], by omega, by omega, by go_num, by rw [HCS.out, be_take x n k hkn, List.append_assoc], by rw [hl1]; exact HO.out, HBE.out, HX1.out⟩
        · obtain rfl : k = n := by omega
          have HOW := Lib.hid hown
          have HB := Lib.hid hbel
          have HCS := Lib.hid hcs
          clear hown hbel hX hcs
          go_wp2
          go_roundg (gA - 1)
          case measure => omega
          case rel => exact ⟨i + 1, cs, by omega, by omega, by go_num, by
            rw [HCS.out, HBS.out, List.take_add_one, HPI.out, Option.toList_some]
            unfold bytesOf
            rw [List.flatMap_append, List.flatMap_cons, List.flatMap_nil, List.append_nil]
            congr 1
            exact List.take_of_length_le (by rw [be_length]; exact Nat.le_refl _), HOW.out, HB.out⟩
    · obtain rfl : i = ps.length := by omega
      obtain ⟨Av, cv, hve, _⟩ := own_form hown
      subst hve
      have hbs' : bs = bytesOf ps := by rw [hbs, List.take_of_length_le (Nat.le_refl _)]
      subst hbs'
      have HOW := Lib.hid hown
      have HB := Lib.hid hbel
      clear hown hbel hbs
      go_wp2
      go_ret
      exact ⟨_, rfl, HOW.out, HB.out⟩
end Go.Proofs.Ytgkejdjdccgjbaa
/- A slice of integers: where it lies, its capacity, what it holds. Plain laws on worlds. -/
namespace Go.Proofs.Ytgkejdjdccgjbaa
open Go Go.RowKit

structure Rw where
  A : Option Addr
  c : Nat
  xs : List Int
def encR (r : Rw) : Value := .slice r.A r.xs.length r.c
/-- such a slice in memory, in blocks from lo on -/
structure RowIn (w : World) (lo : Nat) (k : IntKind) (r : Rw) : Prop where
  l : CellsIn w lo w.heap.size 1 r.A r.xs.length (r.xs.map (Value.int k))
  nl : r.A = none → r.xs.length = 0 ∧ r.c = 0
  le : r.xs.length ≤ r.c
  cm : r.c ≤ 9223372036854775807
theorem RowIn.below {w w' : World} {lo : Nat} {k : IntKind} {r : Rw} (h : RowIn w lo k r) (b : Below w.heap.size w w') : RowIn w' lo k r :=
  ⟨(h.l.below b (Nat.le_refl _)).more (Nat.le_refl _) b.size, h.nl, h.le, h.cm⟩
theorem RowIn.upd2 {w w' : World} {lo : Nat} {X : List Nat} {k : IntKind} {r : Rw} (h : RowIn w lo k r) (u : Upd X w w') (hX : ∀ s, s ∈ X → ∀ a, r.A = some a → a.block ≠ s) : RowIn w' lo k r :=
  ⟨(h.l.upd2 u (Nat.le_refl _) (fun s hs _ a ha => hX s hs a ha)).more (Nat.le_refl _) u.size, h.nl, h.le, h.cm⟩
theorem RowIn.more {w : World} {lo lo' : Nat} {k : IntKind} {r : Rw} (h : RowIn w lo k r) (hl : lo' ≤ lo) : RowIn w lo' k r := ⟨h.l.more hl (Nat.le_refl _), h.nl, h.le, h.cm⟩
theorem RowIn.at {w : World} {lo : Nat} {k : IntKind} {r : Rw} (h : RowIn w lo k r) (hn : 0 < r.xs.length) : ∃ b off, r.A = some ⟨b, off, none⟩ ∧ lo ≤ b ∧ b < w.heap.size ∧ ∀ (i : Nat) (x : Int), r.xs[i]? = some x → w.cell? ⟨b, off + i, none⟩ = some (.int k x) := by
  obtain ⟨b, off, e, h1, h2, hc⟩ := h.l.2 hn
  exact ⟨b, off, e, h1, h2, fun i x hx => hc i _ (by rw [List.getElem?_map, hx]; rfl)⟩
theorem RowIn.of_own {w : World} {N c : Nat} {A : Option Addr} {xs : List Int} {k : IntKind} {t : TypeId} (h : w.ownsRow N t 1 (.slice A xs.length c) xs.length (xs.map (Value.int k))) : RowIn w N k ⟨A, c, xs⟩ := by
  obtain ⟨A', c', hv, hc, _, hn⟩ := own_form h
  injection hv with e1 _ e3
  subst e1
  subst e3
  exact ⟨CellsIn.of_own h, hn, hc, own_cap h⟩
theorem RowIn.drop {w : World} {lo : Nat} {k : IntKind} {b off c : Nat} {xs : List Int} (n : Nat) (h : RowIn w lo k ⟨some ⟨b, off, none⟩, c, xs⟩) : RowIn w lo k ⟨some ⟨b, off + n, none⟩, c - n, xs.drop n⟩ := by
  have hl := h.le
  have hm := h.cm
  dsimp only at hl hm
  refine ⟨⟨by simp, fun hn => ?_⟩, (fun e => by cases e), by dsimp only; rw [List.length_drop]; omega, by dsimp only; omega⟩
  dsimp only [List.length_drop] at hn
  rw [List.length_drop] at hn
  obtain ⟨b', off', e, h1, h2, hc⟩ := h.l.2 (by dsimp only; omega)
  injection e with e
  injection e with e1 e2
  subst e1
  subst e2
  refine ⟨b, off + n, rfl, h1, h2, fun j u hu => ?_⟩
  have := hc (n + j) u (by rw [List.map_drop, List.getElem?_drop] at hu; exact hu)
  rwa [show off + (n + j) = off + n + j by omega] at this
theorem RowIn.take {w : World} {lo : Nat} {k : IntKind} {b off c : Nat} {xs : List Int} (n : Nat) (hn : n ≤ xs.length) (h : RowIn w lo k ⟨some ⟨b, off, none⟩, c, xs⟩) : RowIn w lo k ⟨some ⟨b, off, none⟩, n, xs.take n⟩ := by
  have hl := h.le
  have hm := h.cm
  dsimp only at hl hm
  refine ⟨⟨by simp, fun hp => ?_⟩, (fun e => by cases e), by dsimp only; rw [List.length_take]; omega, by dsimp only; omega⟩
  rw [List.length_take] at hp
  obtain ⟨b', off', e, h1, h2, hc⟩ := h.l.2 (by dsimp only; omega)
  refine ⟨b', off', e, h1, h2, fun j u hu => hc j u ?_⟩
  rw [List.map_take, List.getElem?_take] at hu
  split at hu
  · exact hu
  · cases hu
theorem RowIn.nilAt {w : World} {lo : Nat} {k : IntKind} {a : Addr} : RowIn w lo k ⟨some a, 0, []⟩ := ⟨CellsIn.nil _ _ _ _ _, (fun e => by cases e), Nat.le_refl _, by simp⟩
theorem RowIn.nil {w : World} {lo : Nat} {k : IntKind} : RowIn w lo k ⟨none, 0, []⟩ := ⟨CellsIn.nil _ _ _ _ _, fun _ => ⟨rfl, rfl⟩, Nat.le_refl _, by simp⟩
end Go.Proofs.Ytgkejdjdccgjbaa
/- octet's Cut: New, Err, Left, take, Bytes. Conditions: no more than 100000 bytes. -/
namespace Go.Proofs.Ytgkejdjdccgjbaa
open Go Go.RowKit
set_option maxHeartbeats 400000

/-- a Cut in memory: what is left, and what went wrong -/
structure CutIs (w : World) (c lo : Nat) (r : Rw) (e : Int) : Prop where
  bl : Blk w c 103 #[encR r, .int .i64 e]
  row : RowIn w lo .u8 r
  ap : ∀ a, r.A = some a → a.block ≠ c
  fm : ∀ a, r.A = some a → ∃ b off, a = ⟨b, off, none⟩
section
variable {w w' : World} {c lo : Nat} {r : Rw} {er : Int}
theorem CutIs.more (h : CutIs w c lo r er) (u : Upd [] w w') : CutIs w' c lo r er := ⟨h.bl.upd u (by simp), h.row.upd2 u (by simp), h.ap, h.fm⟩
theorem CutIs.below (h : CutIs w c lo r er) (u : Below w.heap.size w w') : CutIs w' c lo r er := ⟨h.bl.below u h.bl.lt, h.row.below u, h.ap, h.fm⟩

theorem err_any (h : CutIs w c lo r er) : Calls Try.prog 28 #[.pointer (some ⟨c, 0, none⟩)] w fun e w' => e = .returned (.int .i64 er) ∧ w = w' := by
  have c1 : w.cell? ⟨c, 1, none⟩ = some (.int .i64 er) := h.bl.cell 1
  clear h
  go_enter Try.func28, Try.ntmps28
  go_wp2
  go_ret
  exact ⟨rfl, rfl⟩
theorem left_any (h : CutIs w c lo r er) : Calls Try.prog 26 #[.pointer (some ⟨c, 0, none⟩)] w fun e w' => e = .returned (.int .i64 r.xs.length) ∧ w = w' := by
  have c0 : w.cell? ⟨c, 0, none⟩ = some (.slice r.A r.xs.length r.c) := h.bl.cell 0
  clear h
  go_enter Try.func26, Try.ntmps26
  go_wp2
  go_ret
  exact ⟨rfl, rfl⟩
/-- something went wrong before: nothing is taken -/
theorem take_err (h : CutIs w c lo r er) (n : Int) (he : er ≠ 0) : Calls Try.prog 40 #[.pointer (some ⟨c, 0, none⟩), .int .i64 n, .bool true] w fun e w' => e = .returned (.slice none 0 0) ∧ w = w' := by
  have HE := Lib.hid (err_any h)
  clear h
  go_enter Try.func40, Try.ntmps40
  go_wp2_with fail
  refine HE.out.mono ?_
  rintro e w1 ⟨rfl, rfl⟩
  go_wp2
  go_ret
  exact ⟨rfl, rfl⟩
/-- there is too little: that is noted -/
theorem take_short (h : CutIs w c lo r 0) (n : Nat) (hn : r.xs.length < n) : Calls Try.prog 40 #[.pointer (some ⟨c, 0, none⟩), .int .i64 n, .bool true] w fun e w' => e = .returned (.slice none 0 0) ∧ CutIs w' c lo r 10 ∧ Upd [c] w w' := by
  have HE := Lib.hid (err_any h)
  have H := Lib.hid h
  have c0 : w.cell? ⟨c, 0, none⟩ = some (.slice r.A r.xs.length r.c) := h.bl.cell 0
  have c1 : w.cell? ⟨c, 1, none⟩ = some (.int .i64 0) := h.bl.cell 1
  have f1 := h.bl.frozen 1
  have hd : ¬ (n : Int) ≤ (r.xs.length : Int) := by omega
  have hd' : (r.xs.length : Int) < (n : Int) := by omega
  clear h
  go_enter Try.func40, Try.ntmps40
  go_wp2_with fail
  refine HE.out.mono ?_
  rintro e w1 ⟨rfl, rfl⟩
  go_wp2
  go_ret
  have hu : Upd [c] w (w.setCell ⟨c, 1, none⟩ (.int .i64 10)) := (Upd.refl _ _).setCell (by simp) _
  refine ⟨rfl, ⟨?_, H.out.row.upd2 hu (fun s hs a ha => by rw [List.mem_singleton] at hs; subst hs; exact H.out.ap a ha), H.out.ap, H.out.fm⟩, hu⟩
  have := H.out.bl.store 1 (.int .i64 10)
  simpa using this
/-- so many bytes are taken -/
theorem take_yes (h : CutIs w c lo r 0) (n : Nat) (hn : n ≤ r.xs.length) : Calls Try.prog 40 #[.pointer (some ⟨c, 0, none⟩), .int .i64 n, .bool true] w fun e w' => ∃ q r', e = .returned (encR q) ∧ q.xs = r.xs.take n ∧ q.c = n ∧ r'.xs = r.xs.drop n ∧
    RowIn w' lo .u8 q ∧ (∀ a, q.A = some a → a.block ≠ c ∧ ∃ b off, a = ⟨b, off, none⟩) ∧ CutIs w' c lo r' 0 ∧ (∀ a, r'.A = some a → ∃ a0, r.A = some a0 ∧ a0.block = a.block) ∧ Upd [c] w w' := by
  have HE := Lib.hid (err_any h)
  have H := Lib.hid h
  obtain ⟨A, cp, xs⟩ := r
  have c0 : w.cell? ⟨c, 0, none⟩ = some (.slice A xs.length cp) := h.bl.cell 0
  have c1 : w.cell? ⟨c, 1, none⟩ = some (.int .i64 0) := h.bl.cell 1
  have f0 := h.bl.frozen 0
  have hle := h.row.le
  have hcm := h.row.cm
  have hnl := h.row.nl
  dsimp only at hle hcm hnl hn
  have hd : ¬ (xs.length : Int) < (n : Int) := by omega
  have hd2 : ¬ (cp : Int) < (n : Int) := by omega
  clear h
  cases A with
  | none =>
    obtain ⟨h1, h2⟩ := hnl rfl
    obtain rfl : xs = [] := List.eq_nil_of_length_eq_zero h1
    obtain rfl : n = 0 := by simpa using hn
    subst h2
    clear hnl h1
    go_enter Try.func40, Try.ntmps40
    go_wp2_with fail
    refine HE.out.mono ?_
    rintro e w1 ⟨rfl, rfl⟩
    go_wp2
    go_ret
    have hu : Upd [c] w (w.setCell ⟨c, 0, none⟩ (.slice none 0 0)) := (Upd.refl _ _).setCell (by simp) _
    refine ⟨⟨none, 0, []⟩, ⟨none, 0, []⟩, rfl, rfl, rfl, rfl, RowIn.nil, (fun a ha => by cases ha), ⟨?_, RowIn.nil, (fun a ha => by cases ha), (fun a ha => by cases ha)⟩, (fun a ha => by cases ha), hu⟩
    have := H.out.bl.store 0 (.slice none 0 0)
    simpa [encR] using this
  | some a =>
    obtain ⟨b, off, rfl⟩ := H.out.fm a rfl
    have hbc : b ≠ c := H.out.ap ⟨b, off, none⟩ rfl
    have hncp : n ≤ cp := by omega
    clear hnl
    by_cases hc : n = cp
    · obtain rfl : n = xs.length := by omega
      subst hc
      go_enter Try.func40, Try.ntmps40
      go_wp2_with fail
      refine HE.out.mono ?_
      rintro e w1 ⟨rfl, rfl⟩
      go_wp2
      go_ret
      have hu : Upd [c] w (w.setCell ⟨c, 0, none⟩ (.slice (some ⟨b, off, none⟩) 0 0)) := (Upd.refl _ _).setCell (by simp) _
      have hrow := H.out.row.upd2 hu (fun s hs a ha => by rw [List.mem_singleton] at hs; subst hs; exact H.out.ap a ha)
      refine ⟨⟨some ⟨b, off, none⟩, xs.length, xs⟩, ⟨some ⟨b, off, none⟩, 0, []⟩, rfl, by simp, rfl, by simp, hrow, fun a ha => ?_, ⟨?_, RowIn.nilAt, fun a ha => ?_, fun a ha => ?_⟩, fun a ha => ?_, hu⟩
      · injection ha with ha; subst ha; exact ⟨hbc, _, _, rfl⟩
      · have := H.out.bl.store 0 (.slice (some ⟨b, off, none⟩) 0 0)
        simpa [encR] using this
      · injection ha with ha; subst ha; exact hbc
      · injection ha with ha; subst ha; exact ⟨_, _, rfl⟩
      · injection ha with ha; subst ha; exact ⟨_, rfl, rfl⟩
    · have hlt : n < cp := by omega
      go_enter Try.func40, Try.ntmps40
      go_wp2_with fail
      refine HE.out.mono ?_
      rintro e w1 ⟨rfl, rfl⟩
      go_wp2
      go_ret
      have hu : Upd [c] w (w.setCell ⟨c, 0, none⟩ (.slice (some ⟨b, off + n, none⟩) (xs.length - n) (cp - n))) := (Upd.refl _ _).setCell (by simp) _
      have hrow := H.out.row.upd2 hu (fun s hs a ha => by rw [List.mem_singleton] at hs; subst hs; exact H.out.ap a ha)
      have hl : (xs.take n).length = n := by rw [List.length_take]; omega
      refine ⟨⟨some ⟨b, off, none⟩, n, xs.take n⟩, ⟨some ⟨b, off + n, none⟩, cp - n, xs.drop n⟩, by unfold encR; dsimp only; rw [hl]; rfl, rfl, rfl, rfl, hrow.take n hn, fun a ha => ?_, ⟨?_, hrow.drop n, fun a ha => ?_, fun a ha => ?_⟩, fun a ha => ?_, hu⟩
      · injection ha with ha; subst ha; exact ⟨hbc, _, _, rfl⟩
      · have := H.out.bl.store 0 (.slice (some ⟨b, off + n, none⟩) (xs.length - n) (cp - n))
        simpa [encR] using this
      · injection ha with ha; subst ha; exact hbc
      · injection ha with ha; subst ha; exact ⟨_, _, rfl⟩
      · injection ha with ha; subst ha; exact ⟨_, rfl, rfl⟩
/-- Bytes, of any number of them that there can be -/
theorem bytes_err (h : CutIs w c lo r er) (n : Nat) (he : er ≠ 0) : Calls Try.prog 27 #[.pointer (some ⟨c, 0, none⟩), .int .i64 n] w fun e w' => e = .returned (.slice none 0 0) ∧ w = w' := by
  have HC := Lib.hid (take_err h n he)
  have hd : (0 : Int) ≤ (n : Int) := by omega
  clear h
  go_enter Try.func27, Try.ntmps27
  go_wp2_with fail
  refine HC.out.mono ?_
  rintro e w1 ⟨rfl, rfl⟩
  go_wp2
  go_ret
  exact ⟨rfl, rfl⟩
theorem bytes_short (h : CutIs w c lo r 0) (n : Nat) (hn : r.xs.length < n) : Calls Try.prog 27 #[.pointer (some ⟨c, 0, none⟩), .int .i64 n] w fun e w' => e = .returned (.slice none 0 0) ∧ CutIs w' c lo r 10 ∧ Upd [c] w w' := by
  have HC := Lib.hid (take_short h n hn)
  have hd : (0 : Int) ≤ (n : Int) := by omega
  clear h
  go_enter Try.func27, Try.ntmps27
  go_wp2_with fail
  refine HC.out.mono ?_
  rintro e w1 ⟨rfl, h1, h2⟩
  go_wp2
  go_ret
  exact ⟨rfl, h1, h2⟩
theorem bytes_yes (h : CutIs w c lo r 0) (n : Nat) (hn : n ≤ r.xs.length) : Calls Try.prog 27 #[.pointer (some ⟨c, 0, none⟩), .int .i64 n] w fun e w' => ∃ q r', e = .returned (encR q) ∧ q.xs = r.xs.take n ∧ q.c = n ∧ r'.xs = r.xs.drop n ∧
    RowIn w' lo .u8 q ∧ (∀ a, q.A = some a → a.block ≠ c ∧ ∃ b off, a = ⟨b, off, none⟩) ∧ CutIs w' c lo r' 0 ∧ (∀ a, r'.A = some a → ∃ a0, r.A = some a0 ∧ a0.block = a.block) ∧ Upd [c] w w' := by
  have HC := Lib.hid (take_yes h n hn)
  have hd : (0 : Int) ≤ (n : Int) := by omega
  clear h
  go_enter Try.func27, Try.ntmps27
  go_wp2_with fail
  refine HC.out.mono ?_
  rintro e w1 ⟨q, r', rfl, hh⟩
  have HH := Lib.hid hh
  clear hh
  unfold encR
  go_wp2
  go_ret
  exact ⟨q, r', rfl, HH.out⟩

theorem own_addr {N n c' : Nat} {A : Option Addr} {t : TypeId} {xs : List Value} (h : w.ownsRow N t 1 (.slice A n c') n xs) : ∀ a, A = some a → ∃ b off, a = ⟨b, off, none⟩ := by
  intro a ha
  subst ha
  rcases h.2 with ⟨h1, _⟩ | ⟨g, cap, cur, hv, _⟩
  · injection h1 with h1; cases h1
  · injection hv with h1
    injection h1 with h1
    exact ⟨g, 0, h1⟩
set_option maxRecDepth 100000 in
theorem clone_any (h : RowIn w lo .u8 r) (hl : r.xs.length ≤ 100000) : Calls Try.prog 39 #[encR r] w fun e w' => ∃ A cp, e = .returned (.slice A r.xs.length cp) ∧ w'.ownsRow w.heap.size 5 1 (.slice A r.xs.length cp) r.xs.length (r.xs.map (Value.int .u8)) ∧ Below w.heap.size w w' := by
  obtain ⟨j0, hj0, hy0, hy1, hy2⟩ := info_parts infoB
  obtain ⟨A, cp, xs⟩ := r
  unfold encR
  dsimp only at hl ⊢
  cases A with
  | none =>
    obtain ⟨h1, h2⟩ := h.nl rfl
    obtain rfl : xs = [] := List.eq_nil_of_length_eq_zero h1
    dsimp only at h2
    subst h2
    clear h h1
    have hq : ∀ W : World, (binOp .eql 25 (.slice none 0 0) (.slice none 0 0)).run Try.prog W = .ok (.bool true) W := fun W => Lib.run_eql_slice_nil (P := Try.prog) (w := W) (h := Try.underlying25) ..
    go_enter Try.func39, Try.ntmps39
    go_wp2
    go_ret
    exact ⟨none, 0, rfl, World.ownsRow_nil _ _ _ _, Below.refl _ _⟩
  | some a =>
    have hs := h.l.src
    have hln := h.l.1
    dsimp only at hs hln
    obtain ⟨ys, hys⟩ : ∃ ys, ys = xs.map (Value.int .u8) := ⟨_, rfl⟩
    rw [← hys] at hs hln
    have HS := Lib.hid hs
    have HLN := Lib.hid hln
    have H1 : Hid (∀ u ∈ ys, u.oneCell' = true) := fun u hu => by rw [hys] at hu; obtain ⟨x, _, rfl⟩ := List.mem_map.1 hu; rfl
    have HYS := Lib.hid hys
    have HRI := Lib.hid h.l
    clear h hs hln hys
    have hq : ∀ W : World, (binOp .eql 25 (.slice (some a) xs.length cp) (.slice none 0 0)).run Try.prog W = .ok (.bool false) W := fun W => Lib.run_eql_slice_nil (P := Try.prog) (w := W) (h := Try.underlying25) ..
    go_enter Try.func39, Try.ntmps39
    go_wp2_with (at_builtin; refine wpList_append_src _ rfl (.tmp 5) (.tmp 6) 25 rfl w.heap.size 5 j0 _ 1 1 Try.underlying25 hj0 hy0 hy1 hy2 rfl (by decide) (.slice (some ⟨w.heap.size, 0, none⟩) 0 0) 0 [] rfl (World.ownsRow_lit w #[] 0 (Nat.le_refl _) (by decide) rfl) (some a) xs.length cp ys rfl (fun e => by cases e) HLN.out ?s1 H1.out ?s3 ?s4 ?s5 ?_)
    case s1 =>
      rw [HYS.out]
      exact (HRI.out.below ((Below.refl _ _).alloc (Nat.le_refl _) (.cells #[] 5)) (Nat.le_refl _)).src a rfl
    case s3 => unfold maxLen; omega
    case s4 => omega
    all_goals try (simp; done)
    intro v1 w1 hown1 hg1 hat1
    have hb := grown_upd (World.ownsRow_lit (e := 5) (size := 1) w #[] 0 (Nat.le_refl _) (by decide) rfl) hg1 (by simp)
    have hbb := ((Below.refl w.heap.size w).alloc (Nat.le_refl _) (.cells #[] 5)).trans hb
    obtain ⟨A1, c1, hv1, _⟩ := own_form hown1
    subst hv1
    have HO := Lib.hid hown1
    have HB := Lib.hid hbb
    clear hown1 hg1 hat1 hb hbb
    go_wp2
    go_ret
    exact ⟨A1, c1, rfl, by rw [← HYS.out]; simpa using HO.out, HB.out⟩
set_option maxRecDepth 100000 in
theorem cut_new (h : RowIn w lo .u8 r) (hl : r.xs.length ≤ 100000) : Calls Try.prog 25 #[encR r] w fun e w' => ∃ c r', e = .returned (.pointer (some ⟨c, 0, none⟩)) ∧ r'.xs = r.xs ∧ CutIs w' c w.heap.size r' 0 ∧ w.heap.size ≤ c ∧ (∀ a, r'.A = some a → w.heap.size ≤ a.block ∧ a.block < c) ∧ Upd [] w w' := by
  have HC := Lib.hid (clone_any h hl)
  unfold encR at HC ⊢
  clear h
  go_enter Try.func25, Try.ntmps25
  go_wp2_with fail
  refine HC.out.mono ?_
  rintro e w1 ⟨A, cp, rfl, hown, hb⟩
  have HO := Lib.hid hown
  have HB := Lib.hid hb
  clear hown hb
  go_wp2
  go_ret
  have hrow := RowIn.of_own HO.out
  refine ⟨_, ⟨A, cp, r.xs⟩, rfl, rfl, ⟨Blk.new _ _ _, hrow.upd2 ((Upd.refl [] _).alloc _) (by simp), fun a ha => ?_, own_addr HO.out⟩, HB.out.size, fun a ha => ?_, (Upd.of_below HB.out).alloc _⟩
  rotate_left
  · subst ha
    exact own_block_lt HO.out (g := a.block) rfl
  obtain ⟨b, off, hbo⟩ := own_addr HO.out a ha
  subst ha
  have := own_block_lt HO.out (g := a.block) rfl
  omega
end
end Go.Proofs.Ytgkejdjdccgjbaa
/- string(b) of a slice of bytes in memory. Plain law on worlds. -/
namespace Go.Proofs.Ytgkejdjdccgjbaa
open Go Go.RowKit
set_option maxHeartbeats 400000
theorem str_of {w : World} {lo : Nat} {r : Rw} (h : RowIn w lo .u8 r) : (convert 25 9 (encR r)).run Try.prog w = .ok (.string (strOfNums r.xs)) w := by
  obtain ⟨A, c, xs⟩ := r
  unfold encR
  dsimp only
  rcases xs with _ | ⟨x, xs⟩
  · rcases A with _ | a
    · exact run_convert_bytes_nil w _ 5 Try.underlying25 Try.underlying5 _ _ _ Try.underlying9
    · have hl : (loadCells a 0).run Try.prog w = .ok (([] : List Int).map (Value.int .u8)).toArray w := by
        have := run_loadCells_list (P := Try.prog) w a [] (fun j v hj => by simp at hj)
        simpa using this
      have e : strOfNums [] = ByteArray.empty := rfl
      rw [run_convert_bytes_string w _ _ 5 _ _ _ Try.underlying25 Try.underlying5 Try.underlying9, List.length_nil, run_bytesToString w a 0 c [] hl, e]
      rfl
  · obtain ⟨b, off, e, _, _, hc⟩ := h.at (by simp)
    dsimp only at e hc
    subst e
    refine run_convert_bytes_arg w _ 5 Try.underlying25 Try.underlying5 b off _ c (x :: xs) rfl (fun i hi => ?_) _ Try.underlying9
    exact hc i _ (by rw [List.getD_eq_getElem?_getD, List.getElem?_eq_getElem hi]; rfl)
/-- a slice that came in as nil is of nothing -/
theorem okWide_none {P : Program} {w : World} {r : Reach} {base : Nat} {t e : TypeId} {a : Option Addr} {len cap : Nat} (ht : P.underlying t = some (.slice e)) (h : Value.okWide P w r base t (.slice a len cap)) : a = none → len = 0 ∧ cap = 0 := by
  rintro rfl
  simp only [Value.okWide, ht, Cell.okWide] at h
  match len, cap, h with
  | 0, 0, _ => exact ⟨rfl, rfl⟩
  | n + 1, c, h => simp [Cell.ok, ht] at h
  | 0, c + 1, h => simp [Cell.ok, ht] at h
end Go.Proofs.Ytgkejdjdccgjbaa
/- The region of YtgkejdjdccgjbaaTail over any class of worlds. -/
namespace Go.Proofs.Ytgkejdjdccgjbaa
open Go

section
variable {P : Program}

/-- The worlds of a class, as a type of its own (so that a walk sees one name for "some world of it"). -/
structure Cls (C : World → Prop) where
  w : World
  h : C w

theorem quiet_cls {C : World → Prop} {f : FuncId} {args : Array Value} {x : Cls C} {v : Value} (h : Calls P f args x.w fun e w' => e = .returned v ∧ C w') : Calls P f args x.w fun e w' => e = .returned v ∧ ∃ m : Cls C, w' = m.w :=
  h.mono fun _ w' ⟨he, hm⟩ => ⟨he, ⟨w', hm⟩, rfl⟩

/-- THE REGION, over any class of worlds: its operations up to the n-th answer alike in each world of the class, and stay in it. -/
theorem wp_moves_class_tail {id : Nat} {Q : Exit → Act → World → Prop} {a : Act} {w : World} {l : List Oper} (C : World → Prop) (hC : C (w.drewN 1)) (m n : Nat) (hm : P.follows .mixedOrders = true) (hB : tailB .any l.toArray m n = true)
    (hQ : ∀ c tmps a w, Q (.panic c) { a with tmps := tmps } w → Q (.panic c) a w)
    (h : Nonempty (Cls C) → wpQuiet P l.toArray (fun _ => True) (fun a0 => wpQuiet P l.toArray (fun w' => ∃ x : Cls C, w' = x.w) (fun a' => ∀ w', (∃ x : Cls C, w' = x.w) → wpList P l.toArray Q (l.drop n) a' w') ((l.take n).drop m) a0) (l.take m) a) :
    (Code.region id l.toArray true).wp P Q a w := by
  have h := h ⟨⟨_, hC⟩⟩
  simp only [tailB, Bool.and_eq_true, decide_eq_true_eq] at hB
  obtain ⟨⟨⟨⟨⟨hsel, hn⟩, hmn⟩, hs⟩, hc⟩, hpre⟩ := hB
  have hn' : n < l.length := by simpa using hn
  have hml : (l.take m).length = m := by rw [List.length_take]; omega
  have hhl : ((l.take n).drop m).length = n - m := by rw [List.length_drop, List.length_take]; omega
  have hsz : (l.drop n).length = l.toArray.size - n := by simp
  have inv0 : HeadInv .any l.toArray n (Array.replicate l.toArray.size false) :=
    ⟨by simp, fun j oj _ hl => by rw [getD_replicate_false] at hl; exact absurd hl (by decide), fun t _ ht => getD_in (by simpa using ht) (getD_replicate_false _ _)⟩
  refine wp_region_any hm ?_
  have K := pre_any (P := P) (md := .any) (Q := Q) (m := m) (F := n - m + (l.toArray.size - n)) (w := { w with drawn := w.drawn + 1 }) hsel (fun done a' ok hB' hq => ?_) hQ (l.take m) 0 _ a
    (fun j hj => by rw [hml] at hj; simp [hj]) (by simpa using hml) ⟨inv0, fun i hi => absurd hi (Nat.not_lt_zero i)⟩ (by rw [hml]; exact hpre) h
  · rw [hml, show m + (n - m + (l.toArray.size - n)) = l.toArray.size by omega] at K
    exact K
  · have H := HeadAny.lex (P := P) (md := .any) (g := l.toArray.size - n) hsel hs hc ((l.take n).drop m) m done a'
      (fun j hj => by
        rw [hhl] at hj
        have h1 : m + j < n := by omega
        simp [List.getElem?_drop, h1]) (by rw [hhl]; omega) ok (by rw [hhl]; exact hB') hq
    rw [hhl] at H
    exact HeadAny.any (Q := Q) (g := l.toArray.size - n) (fun done a' w' hw' hL => by
      have h1 := wpAny_of_seqW (md := .any) (Q := Q) hsel hQ (l.drop n) n done a' w' (fun j _ => by simp [List.getElem?_drop]) (by rw [hsz]; exact hL.2.1) (hL.2.2 w' hw')
      rwa [hsz] at h1) (n - m) done a' _ ⟨⟨_, hC⟩, rfl⟩ H
theorem wp_class_tail {id : Nat} {Q : Exit → Act → World → Prop} {a : Act} {w : World} {l : List Oper} (C : World → Prop) (hC : C (w.drewN 1)) (n : Nat) (hm : P.follows .mixedOrders = true) (hB : tailB .any l.toArray 0 n = true)
    (hQ : ∀ c tmps a w, Q (.panic c) { a with tmps := tmps } w → Q (.panic c) a w)
    (h : Nonempty (Cls C) → wpQuiet P l.toArray (fun w' => ∃ x : Cls C, w' = x.w) (fun a' => ∀ w', (∃ x : Cls C, w' = x.w) → wpList P l.toArray Q (l.drop n) a' w') (l.take n) a) : (Code.region id l.toArray true).wp P Q a w :=
  wp_moves_class_tail C hC 0 n hm hB hQ h
end
end Go.Proofs.Ytgkejdjdccgjbaa
/- A region that draws its order: some operations that give their value in whatever world are taken first, wherever they stand (nil checks, addresses, copies); then a head that stays in a class of worlds; then a tail in one forced order: one walk serves every order.
   Conditions: the Bool over the region holds; each operation of the head is quiet in the class; the tail is walked from each world of it. -/
namespace Go.Proofs.Ytgkejdjdccgjbaa
open Go

section
variable {P : Program} {ops : Array Oper} {md : Region.Mode} {C : World → Prop}

/-- what runs so ends, if it ends, with a value -/
def ValueOnly (s : Sem Next) : Prop := ∀ (P : Program) (w : World) (n : Next) (w' : World), s.run P w = .ok n w' → ∃ u, n = .value u
theorem ValueOnly.pure (u : Value) : ValueOnly (Pure.pure (.value u)) := fun P w n w' h => by
  rw [Sem.run_pure] at h
  injection h with h
  exact ⟨u, h.symm⟩
theorem ValueOnly.bind {α : Type} {s : Sem α} {f : α → Sem Next} (hf : ∀ x, ValueOnly (f x)) : ValueOnly (s >>= f) := fun P w n w' h => by
  rw [Sem.run_bind] at h
  cases hs : s.run P w with
  | ok x w1 => rw [hs, Result.andThen_ok] at h; exact hf x P w1 n w' h
  | halt e w1 => rw [hs] at h; cases h

/-- the operation is of a kind that gives a value and leaves the world alone, if it is quiet -/
def pureB (ops : Array Oper) (k : Nat) : Bool := match ops[k]? with
  | some o => match o.op with | .move _ => true | .assign _ => true | .fieldAddr _ _ _ => true | .indexAddr _ _ _ => true | .extract _ _ => true | .nilCheck _ => true | _ => false
  | none => false
theorem pureB_value {k : Nat} {o : Oper} {a : Act} (hk : ops[k]? = some o) (hm : pureB ops k = true) : ValueOnly (execOp a.eval o) := by
  unfold pureB at hm
  rw [hk] at hm
  dsimp only at hm
  split at hm
  · rename_i x hx; unfold execOp; rw [hx]; exact ValueOnly.pure _
  · rename_i x hx; unfold execOp; rw [hx]; exact ValueOnly.pure _
  · rename_i hx; unfold execOp; rw [hx]; exact ValueOnly.bind fun _ => ValueOnly.pure _
  · rename_i hx; unfold execOp; rw [hx]; exact ValueOnly.bind fun _ => ValueOnly.pure _
  · rename_i hx; unfold execOp; rw [hx]; exact ValueOnly.bind fun _ => ValueOnly.pure _
  · rename_i x hx
    unfold execOp
    rw [hx]
    dsimp only
    split
    · intro P w n w' h; simp [runtimePanic] at h
    · intro P w n w' h; simp [runtimePanic] at h
    · intro P w n w' h; simp [runtimePanic] at h
    · split
      · intro P w n w' h; simp [runtimePanic] at h
      · refine ValueOnly.bind fun _ => ValueOnly.bind fun _ => ?_
        split
        · exact ValueOnly.bind fun _ => ValueOnly.pure _
        · exact ValueOnly.pure _
      · exact ValueOnly.pure _
    · exact ValueOnly.pure _
  · cases hm
theorem yields_of_pure {k : Nat} {o : Oper} {v : Value} {a : Act} (hk : ops[k]? = some o) (hm : pureB ops k = true) (h : YieldsIn P ops (fun _ => True) o v a) : Yields P ops o v a := by
  rcases h with ⟨hw, h⟩ | ⟨hw, h⟩
  · refine .inl ⟨hw, fun w => ?_⟩
    have h1 := h w trivial
    have hv := pureB_value (a := a) hk hm
    unfold Oper.quietAt at h1
    cases hr : (execOp a.eval o).run P w with
    | ok n w' =>
      obtain ⟨u, rfl⟩ := hv P w n w' hr
      rw [hr] at h1
      obtain ⟨h2, h3⟩ := h1
      rw [h2, h3]
    | halt e w' => rw [hr] at h1; exact h1.elim
  · exact .inr ⟨hw, h⟩

/-- each of the operations up to the n-th is taken first, or waited for by a later one, up to the n-th -/
def sink3 (md : Region.Mode) (ops : Array Oper) (F : List Nat) (n : Nat) : Bool :=
  (List.range n).all fun i => F.contains i || (List.range (n + 1)).any fun j => decide (i < j) && Region.waitsFor md ops j i
/-- each operation behind the n-th is taken first, or waits for one from the n-th on that is not -/
def chain3 (md : Region.Mode) (ops : Array Oper) (F : List Nat) (n : Nat) : Bool :=
  (List.range ops.size).all fun t => decide (t ≤ n) || F.contains t || (List.range t).any fun j => decide (n ≤ j) && !F.contains j && Region.waitsFor md ops t j
/-- what holds of the marks while the head is under way -/
structure HeadOk3 (md : Region.Mode) (ops : Array Oper) (F : List Nat) (n : Nat) (done : Array Bool) : Prop where
  size : done.size = ops.size
  closed : ∀ j oj, ops[j]? = some oj → done.getD j false = true → ∀ e ∈ oj.after, Region.binds md e = true → done.getD e.on false = true
  tail : ∀ t, n ≤ t → t < ops.size → ¬ t ∈ F → done.getD t true = false
  pre : ∀ i, i ∈ F → done.getD i false = true

theorem HeadOk3.set {F : List Nat} {n i : Nat} {done : Array Bool} (h : HeadOk3 md ops F n done) (hi : i ∈ Region.ready md ops done) (hin : i < n) : HeadOk3 md ops F n (done.setIfInBounds i true) := by
  obtain ⟨_, oi, hoi, hall⟩ := mem_ready.1 hi
  refine ⟨by simp [h.size], fun j oj hj hl e he hb => ?_, fun t ht ht' hf => by rw [getD_set_ne true (by omega)]; exact h.tail t ht ht' hf, fun k hk => getD_set_true (h.pre k hk)⟩
  by_cases hij : i = j
  · subst hij
    have : oj = oi := Option.some.inj (hj.symm.trans hoi)
    subst this
    exact getD_set_true (hall e he hb)
  · rw [getD_set_ne false hij] at hl
    exact getD_set_true (h.closed j oj hj hl e he hb)

/-- as long as one of the head is still to come, none of the tail may come -/
theorem HeadOk3.waits {F : List Nat} {n : Nat} {done : Array Bool} (h : HeadOk3 md ops F n done) (hs : sink3 md ops F n = true) (hc : chain3 md ops F n = true) :
    ∀ (d i : Nat), n - i = d → i < n → done.getD i true = false → ∀ t, n ≤ t → t ∉ Region.ready md ops done := by
  intro d
  induction d using Nat.strongRecOn with
  | _ d ih =>
    intro i hd hi hun t ht hr
    obtain ⟨htun, ot, hot, hall⟩ := mem_ready.1 hr
    have htlt : t < ops.size := (Array.getElem?_eq_some_iff.1 hot).1
    have hF : ∀ j, done.getD j true = false → ¬ j ∈ F := fun j hj hm => by
      have h1 := h.pre j hm
      rw [getD_both hj] at h1
      exact absurd h1 (by decide)
    by_cases htn : t = n
    · have h1 := List.all_eq_true.1 hs i (List.mem_range.2 hi)
      simp only [Bool.or_eq_true, List.contains_iff_mem, hF i hun, false_or] at h1
      obtain ⟨j, hj, hj2⟩ := List.any_eq_true.1 h1
      simp only [Bool.and_eq_true, decide_eq_true_eq] at hj2
      obtain ⟨oj, hoj, e, he, hb, hon⟩ := Region.waitsFor_spec hj2.2
      have hjle := List.mem_range.1 hj
      by_cases hjt : j = t
      · rw [hjt, hot] at hoj
        have h2 := hall e (by rw [Option.some.inj hoj]; exact he) hb
        rw [hon, getD_both hun] at h2
        exact absurd h2 (by decide)
      · cases hl : done.getD j false with
        | true =>
          have h2 := h.closed j oj hoj hl e he hb
          rw [hon, getD_both hun] at h2
          exact absurd h2 (by decide)
        | false => exact ih (n - j) (by omega) j rfl (by omega) (getD_in (by rw [h.size]; omega) hl) t ht hr
    · have h1 := List.all_eq_true.1 hc t (List.mem_range.2 htlt)
      simp only [Bool.or_eq_true, decide_eq_true_eq, List.contains_iff_mem, hF t htun, or_false] at h1
      obtain ⟨j, hj, hj2⟩ := List.any_eq_true.1 (h1.resolve_left (by omega))
      simp only [Bool.and_eq_true, decide_eq_true_eq, Bool.not_eq_true'] at hj2
      have hjt := List.mem_range.1 hj
      obtain ⟨o', ho', e, he, hb, hon⟩ := Region.waitsFor_spec hj2.2
      rw [hot] at ho'
      have h3 := hall e (by rw [Option.some.inj ho']; exact he) hb
      rw [hon, getD_both (h.tail j hj2.1.1 (by omega) (by simpa using hj2.1.2))] at h3
      exact absurd h3 (by decide)

theorem HeadAny.first3 {F : List Nat} {n i : Nat} {oi : Oper} {v : Value} {L : Array Bool → Act → Prop} (hi : ops[i]? = some oi) (hsel : Region.noSelect ops = true)
    (hs : sink3 md ops F n = true) (hc : chain3 md ops F n = true) (hin : i < n) (hL : ∀ done a, L done a → ∀ j ∈ Region.ready md ops done, n ≤ j) :
    ∀ (f : Nat) (done : Array Bool) (a : Act), HeadOk3 md ops F n done →
      (∀ j oj, ops[j]? = some oj → j ≠ i → done.getD j true = false → (∀ e ∈ oj.after, Region.binds md e = true → e.on ≠ i) → oi.apart ops oj = true) →
      i ∈ Region.ready md ops done → YieldsIn P ops C oi v a →
      HeadAny P md ops C n L f (done.setIfInBounds i true) (a.put oi.dst v) → HeadAny P md ops C n L (f + 1) done a := by
  have spec := Region.noSelect_spec hsel
  intro f
  induction f with
  | zero =>
    intro done a ok _ hr hy H
    refine ⟨List.ne_nil_of_mem hr, fun j hj => ?_⟩
    have hjn : j < n := Nat.lt_of_not_le fun hle => ok.waits hs hc _ i rfl hin (mem_ready.1 hr).1 j hle hj
    refine ⟨hjn, ?_⟩
    by_cases hji : j = i
    · rw [hji]; exact hy.qOp hi H
    · exact absurd (hL _ _ H j (ready_mono hj hji)) (Nat.not_le_of_lt hjn)
  | succ f ih =>
    intro done a ok hfree hr hy H
    have hun := (mem_ready.1 hr).1
    refine ⟨List.ne_nil_of_mem hr, fun j hj => ?_⟩
    have hjn : j < n := Nat.lt_of_not_le fun hle => ok.waits hs hc _ i rfl hin hun j hle hj
    refine ⟨hjn, ?_⟩
    by_cases hji : j = i
    · rw [hji]; exact hy.qOp hi H
    · obtain ⟨hjun, oj, hoj, hall⟩ := mem_ready.1 hj
      have hnot : ∀ e ∈ oj.after, Region.binds md e = true → e.on ≠ i := by
        intro e he hb heq
        have h1 := hall e he hb
        rw [heq, getD_both hun] at h1
        exact absurd h1 (by decide)
      have h2 := qOp_put hoj (hfree j oj hoj hji hjun hnot) (fun cs b => spec i oi cs b hi) (fun cs b => spec j oj cs b hoj) hy (H.2 j (ready_mono hj hji)).2
      refine qOp_mono (fun a' h3 => ?_) h2
      refine ih (done.setIfInBounds j true) a' (ok.set hj hjn) (fun k ok hk hki hku hno => hfree k ok hk hki ?_ hno) (ready_mono hr (Ne.symm hji)) h3.1 ?_
      · by_cases hjk : j = k
        · rw [← hjk]; exact hjun
        · rwa [getD_set_ne true hjk] at hku
      · rw [Array.setIfInBounds_comm _ _ hji]; exact h3.2

/-- those operations -/
def pick3 (l : List Oper) (is : List Nat) : List Oper := is.map fun i => (l[i]?).getD { dst := none, op := .move (.const undef), after := #[], guard := none, type := 0, pos := "" }
/-- the tail: at each point the one operation that may come; or one that gives its value in whatever world -/
def seq3 (md : Region.Mode) (ops : Array Oper) : List Nat → Array Bool → Bool
  | [], done => (Region.ready md ops done).isEmpty
  | k :: is, done => decide (k < ops.size) && (decide (Region.ready md ops done = [k]) || (plainB ops k && (Region.ready md ops done).contains k && Region.free md ops done k)) && seq3 md ops is (done.setIfInBounds k true)
theorem pick3_cons {l : List Oper} {k : Nat} {is : List Nat} {o : Oper} (h : l[k]? = some o) : pick3 l (k :: is) = o :: pick3 l is := by
  unfold pick3; rw [List.map_cons, h]; rfl

theorem wpAny_of_seq3 {l : List Oper} {Q : Exit → Act → World → Prop} (hsel : Region.noSelect l.toArray = true) (hQ : ∀ c tmps a w, Q (.panic c) { a with tmps := tmps } w → Q (.panic c) a w) :
    ∀ (is : List Nat) (done : Array Bool) (a : Act) (w : World), seq3 md l.toArray is done = true → wpList P l.toArray Q (pick3 l is) a w → wpAny P md l.toArray Q is.length done a w := by
  intro is
  induction is with
  | nil => intro done a w hB h; exact ⟨by simpa [seq3] using hB, h⟩
  | cons k is ih =>
    intro done a w hB h
    simp only [seq3, Bool.and_eq_true, Bool.or_eq_true, decide_eq_true_eq] at hB
    obtain ⟨⟨hk, hB1⟩, hB2⟩ := hB
    obtain ⟨o, h0⟩ : ∃ o, l[k]? = some o := ⟨_, List.getElem?_eq_getElem (by simpa using hk)⟩
    rw [pick3_cons h0] at h
    have h0' : l.toArray[k]? = some o := by simpa using h0
    have hw : wpOp P l.toArray Q k (wpList P l.toArray Q (pick3 l is)) a w := by unfold wpOp; simp only [h0']; exact h
    rcases hB1 with hr | ⟨⟨hp, hr⟩, hf⟩
    · refine ⟨fun h1 => by rw [hr] at h1; exact absurd h1 (List.cons_ne_nil _ _), fun i hi => ?_⟩
      rw [hr] at hi
      obtain rfl : i = k := by simpa using hi
      exact wpOp_mono (fun a' w' h' => ih _ a' w' hB2 h') hw
    · obtain ⟨v, hy, hK⟩ := plain_yields h0' hp hw
      exact wpAny_take h0' hsel hf hr (fun c a' w' h' => hQ c (a'.put o.dst v).tmps a' w' (by rw [put_tmps]; exact h')) hy (ih _ _ w hB2 hK)

/-- the head, in the order of the list, then the tail -/
def lex3 (md : Region.Mode) (ops : Array Oper) (n : Nat) (T : List Nat) : List Nat → Array Bool → Bool
  | [], done => ((Region.ready md ops done).all fun j => decide (n ≤ j)) && seq3 md ops T done
  | k :: is, done => decide (k < n) && decide (k < ops.size) && (Region.ready md ops done).contains k && Region.free md ops done k && lex3 md ops n T is (done.setIfInBounds k true)

theorem HeadAny.lex3 {l : List Oper} {F T : List Nat} {n : Nat} {R : Act → Prop} (hsel : Region.noSelect l.toArray = true) (hs : sink3 md l.toArray F n = true) (hc : chain3 md l.toArray F n = true) :
    ∀ (is : List Nat) (done : Array Bool) (a : Act), HeadOk3 md l.toArray F n done →
      lex3 md l.toArray n T is done = true → wpQuiet P l.toArray C R (pick3 l is) a →
      HeadAny P md l.toArray C n (fun done' a' => ((Region.ready md l.toArray done').all fun j => decide (n ≤ j)) = true ∧ seq3 md l.toArray T done' = true ∧ R a') is.length done a := by
  intro is
  induction is with
  | nil =>
    intro done a _ hB h
    simp only [Go.Proofs.Ytgkejdjdccgjbaa.lex3, Bool.and_eq_true] at hB
    exact ⟨hB.1, hB.2, h⟩
  | cons k is ih =>
    intro done a ok hB h
    simp only [Go.Proofs.Ytgkejdjdccgjbaa.lex3, Bool.and_eq_true, decide_eq_true_eq] at hB
    obtain ⟨⟨⟨⟨hkn, hks⟩, hr⟩, hf⟩, hB'⟩ := hB
    obtain ⟨o, h0⟩ : ∃ o, l[k]? = some o := ⟨_, List.getElem?_eq_getElem (by simpa using hks)⟩
    have h0' : l.toArray[k]? = some o := by simpa using h0
    rw [pick3_cons h0] at h
    have hr' : k ∈ Region.ready md l.toArray done := by simpa using hr
    have hq : qOp P l.toArray C k (wpQuiet P l.toArray C R (pick3 l is)) a := by unfold qOp; simp only [h0']; exact h
    obtain ⟨v, hy, hK⟩ := yieldsIn_of_qOp h0' hq
    exact HeadAny.first3 h0' hsel hs hc hkn (fun done' a' hL j hj => by have := List.all_eq_true.1 hL.1 j hj; simpa using this) is.length done a ok (Region.free_spec h0' hf) hr' hy
      (ih _ _ (ok.set hr' hkn) hB' hK)

/-- those taken first, then the check of the rest -/
def pre3 (md : Region.Mode) (ops : Array Oper) (n : Nat) (H T : List Nat) : List Nat → Array Bool → Bool
  | [], done => lex3 md ops n T H done
  | k :: is, done => pureB ops k && decide (k < ops.size) && (Region.ready md ops done).contains k && Region.free md ops done k && pre3 md ops n H T is (done.setIfInBounds k true)
def tail3 (md : Region.Mode) (ops : Array Oper) (F H T : List Nat) (n : Nat) : Bool :=
  Region.noSelect ops && decide (F.length + (H.length + T.length) = ops.size) && sink3 md ops F n && chain3 md ops F n && pre3 md ops n H T F (Array.replicate ops.size false)

theorem pre_any3 {l : List Oper} {H T : List Nat} {Q : Exit → Act → World → Prop} {n G : Nat} {w : World} {R : Act → Prop} (hsel : Region.noSelect l.toArray = true) (hQ : ∀ c tmps a w, Q (.panic c) { a with tmps := tmps } w → Q (.panic c) a w) :
    ∀ (is Fd : List Nat) (done : Array Bool) (a : Act), HeadOk3 md l.toArray Fd 0 done →
      (∀ (done : Array Bool) (a : Act), HeadOk3 md l.toArray (is.reverse ++ Fd) 0 done → lex3 md l.toArray n T H done = true → R a → wpAny P md l.toArray Q G done a w) →
      pre3 md l.toArray n H T is done = true → wpQuiet P l.toArray (fun _ => True) R (pick3 l is) a → wpAny P md l.toArray Q (is.length + G) done a w := by
  intro is
  induction is with
  | nil =>
    intro Fd done a ok hR hB hq
    simp only [List.length_nil, Nat.zero_add]
    exact hR done a (by simpa using ok) hB hq
  | cons k is ih =>
    intro Fd done a ok hR hB hq
    simp only [pre3, Bool.and_eq_true, decide_eq_true_eq] at hB
    obtain ⟨⟨⟨⟨hmv, hks⟩, hr⟩, hf⟩, hB'⟩ := hB
    obtain ⟨o, h0⟩ : ∃ o, l[k]? = some o := ⟨_, List.getElem?_eq_getElem (by simpa using hks)⟩
    have h0' : l.toArray[k]? = some o := by simpa using h0
    rw [pick3_cons h0] at hq
    have hr' : k ∈ Region.ready md l.toArray done := by simpa using hr
    have hq' : qOp P l.toArray (fun _ => True) k (wpQuiet P l.toArray (fun _ => True) R (pick3 l is)) a := by unfold qOp; simp only [h0']; exact hq
    obtain ⟨v, hy, hK⟩ := yieldsIn_of_qOp h0' hq'
    rw [show (k :: is).length + G = (is.length + G) + 1 by simp; omega]
    have ok' : HeadOk3 md l.toArray (k :: Fd) 0 (done.setIfInBounds k true) := by
      obtain ⟨_, oi, hoi, hall⟩ := mem_ready.1 hr'
      refine ⟨by simp [ok.size], fun j oj hj hl e he hb => ?_, fun t ht ht' hF => ?_, fun i hi => ?_⟩
      · by_cases hij : k = j
        · subst hij
          have : oj = oi := Option.some.inj (hj.symm.trans hoi)
          subst this
          exact getD_set_true (hall e he hb)
        · rw [getD_set_ne false hij] at hl
          exact getD_set_true (ok.closed j oj hj hl e he hb)
      · rw [getD_set_ne true (fun e => hF (by simp [e]))]
        exact ok.tail t ht ht' (fun h => hF (by simp [h]))
      · by_cases hik : i = k
        · subst hik
          have : i < done.size := by rw [ok.size]; exact hks
          simp [this]
        · exact getD_set_true (ok.pre i (by simpa [hik] using hi))
    exact wpAny_take h0' hsel hf hr (fun c a' w' h' => hQ c (a'.put o.dst v).tmps a' w' (by rw [put_tmps]; exact h')) (yields_of_pure h0' hmv hy)
      (ih (k :: Fd) _ _ ok' (fun done a h => hR done a (by simpa using h)) hB' hK)

/-- THE REGION: F is taken first, then H (its operations stay in the class), then T. n: the first of T. -/
theorem wp_float_tail {id : Nat} {Q : Exit → Act → World → Prop} {a : Act} {w : World} {l : List Oper} (C : World → Prop) (hC : C (w.drewN 1)) (F H T : List Nat) (n : Nat) (hm : P.follows .mixedOrders = true) (hB : tail3 .any l.toArray F H T n = true)
    (hQ : ∀ c tmps a w, Q (.panic c) { a with tmps := tmps } w → Q (.panic c) a w)
    (h : Nonempty (Cls C) → wpQuiet P l.toArray (fun _ => True) (fun a0 => wpQuiet P l.toArray (fun w' => ∃ x : Cls C, w' = x.w) (fun a' => ∀ w', (∃ x : Cls C, w' = x.w) → wpList P l.toArray Q (pick3 l T) a' w') (pick3 l H) a0) (pick3 l F) a) :
    (Code.region id l.toArray true).wp P Q a w := by
  have h := h ⟨⟨_, hC⟩⟩
  simp only [tail3, Bool.and_eq_true, decide_eq_true_eq] at hB
  obtain ⟨⟨⟨⟨hsel, hlen⟩, hs⟩, hc⟩, hpre⟩ := hB
  have inv0 : HeadOk3 .any l.toArray [] 0 (Array.replicate l.toArray.size false) :=
    ⟨by simp, fun j oj _ hl => by rw [getD_replicate_false] at hl; exact absurd hl (by decide), fun t _ ht _ => getD_in (by simpa using ht) (getD_replicate_false _ _), fun i hi => by cases hi⟩
  refine wp_region_any hm ?_
  have K := pre_any3 (P := P) (md := .any) (Q := Q) (H := H) (T := T) (n := n) (G := H.length + T.length) (w := { w with drawn := w.drawn + 1 }) hsel hQ F [] _ a inv0 (fun done a' ok hB' hq => ?_) hpre h
  · rw [hlen] at K
    exact K
  · have ok' : HeadOk3 .any l.toArray F n done := ⟨ok.size, ok.closed, fun t _ ht hF => ok.tail t (Nat.zero_le _) ht (by simpa using hF), fun i hi => ok.pre i (by simpa using hi)⟩
    have HH := HeadAny.lex3 (P := P) (md := .any) (C := fun w' => ∃ x : Cls C, w' = x.w) hsel hs hc H done a' ok' hB' hq
    exact HeadAny.any (Q := Q) (g := T.length) (fun done a' w' hw' hL => wpAny_of_seq3 (md := .any) (Q := Q) hsel hQ T done a' w' hL.2.1 (hL.2.2 w' hw')) H.length done a' _ ⟨⟨_, hC⟩, rfl⟩ HH
end
end Go.Proofs.Ytgkejdjdccgjbaa
