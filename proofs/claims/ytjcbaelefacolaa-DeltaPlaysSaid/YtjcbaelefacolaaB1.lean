/- Parts of the proof, one behind the other: Tail, Words, Flat, DPlain, DInv, Cells, DKit, DIdx0, DIdxS2, Clear, DDelS2. No condition of their own. -/
import Derived.StillTail
import Derived.Deep.Quiet
import Derived.Deep.QuietTactic
import Derived.BigQuiet
import Derived.WalkKit
import Derived.WalkSpells
import Derived.WalkLawsBesides
import Derived.Lib.Hide
import Derived.Maps.AppendAt
import Derived.Laws.AppendOwnNone
import Derived.Test.YtjcbaelefacolaaRows
import Derived.Deep.LoopGhost
import Derived.Deep.DeepCutAuto
import Derived.Deep.DrawnRows
import Derived.Deep.RegionLaw
import Derived.Shelf.Abstract
import Derived.Shelf.RegionOpen
import Derived.Laws.OwnMore
import Derived.Lib.LazyBuf
import Derived.Laws.CopyRow
/- A region that draws its order: its first m operations only move a slot's value; those from m to n only read, or call what only reads (they may draw); the last ones come in one forced order: one walk of the order of the text serves every order.
   Conditions: the Bool over the region holds; each operation from m to n is quiet in the class of the worlds 'w behind some draws'; the rest is walked from each such world. -/
namespace Go.Proofs.Ytjcbaelefacolaa
open Go

section
variable {P : Program} {ops : Array Oper} {md : Region.Mode} {C : World → Prop}

/-- each of the operations from m to n is waited for by a later one, up to the n-th -/
def sinkFrom (md : Region.Mode) (ops : Array Oper) (m n : Nat) : Bool :=
  (List.range n).all fun i => decide (i < m) || (List.range (n + 1)).any fun j => decide (i < j) && Region.waitsFor md ops j i

/-- each operation behind the n-th waits for one from the n-th on -/
def chainW (md : Region.Mode) (ops : Array Oper) (n : Nat) : Bool :=
  (List.range ops.size).all fun t => decide (t ≤ n) || (List.range t).any fun j => decide (n ≤ j) && Region.waitsFor md ops t j

/-- what holds of the marks while the head is under way -/
structure HeadOk (md : Region.Mode) (ops : Array Oper) (m n : Nat) (done : Array Bool) : Prop where
  inv : HeadInv md ops n done
  pre : ∀ i, i < m → done.getD i false = true

theorem HeadOk.set {m n i : Nat} {done : Array Bool} (h : HeadOk md ops m n done) (hi : i ∈ Region.ready md ops done) (hin : i < n) : HeadOk md ops m n (done.setIfInBounds i true) :=
  ⟨h.inv.set hi hin, fun k hk => getD_set_true (h.pre k hk)⟩

/-- as long as one of the head is still to come, none of the tail may come -/
theorem HeadOk.waits {m n : Nat} {done : Array Bool} (h : HeadOk md ops m n done) (hs : sinkFrom md ops m n = true) (hc : chainW md ops n = true) :
    ∀ (d i : Nat), n - i = d → i < n → done.getD i true = false → ∀ t, n ≤ t → t ∉ Region.ready md ops done := by
  intro d
  induction d using Nat.strongRecOn with
  | _ d ih =>
    intro i hd hi hun t ht hr
    obtain ⟨_, ot, hot, hall⟩ := mem_ready.1 hr
    have htlt : t < ops.size := (Array.getElem?_eq_some_iff.1 hot).1
    have him : ¬ i < m := fun him => by
      have h1 := h.pre i him
      rw [getD_both hun] at h1
      exact absurd h1 (by decide)
    by_cases htn : t = n
    · have h1 := List.all_eq_true.1 hs i (List.mem_range.2 hi)
      simp only [Bool.or_eq_true, decide_eq_true_eq, him, false_or] at h1
      obtain ⟨j, hj, hj2⟩ := List.any_eq_true.1 h1
      simp only [Bool.and_eq_true, decide_eq_true_eq] at hj2
      obtain ⟨oj, hoj, e, he, hb, hon⟩ := Region.waitsFor_spec hj2.2
      have hjle := List.mem_range.1 hj
      by_cases hjt : j = t
      · rw [hjt, hot] at hoj
        have h2 := hall e (by rw [Option.some.inj hoj]; exact he) hb
        rw [hon, getD_both hun] at h2
        exact absurd h2 (by decide)
      · cases hl : done.getD j false with
        | true =>
          have h2 := h.inv.closed j oj hoj hl e he hb
          rw [hon, getD_both hun] at h2
          exact absurd h2 (by decide)
        | false => exact ih (n - j) (by omega) j rfl (by omega) (getD_in (by rw [h.inv.size]; omega) hl) t ht hr
    · have h1 := List.all_eq_true.1 hc t (List.mem_range.2 htlt)
      simp only [Bool.or_eq_true, decide_eq_true_eq] at h1
      obtain ⟨j, hj, hj2⟩ := List.any_eq_true.1 (h1.resolve_left (by omega))
      simp only [Bool.and_eq_true, decide_eq_true_eq] at hj2
      have hjt := List.mem_range.1 hj
      obtain ⟨o', ho', e, he, hb, hon⟩ := Region.waitsFor_spec hj2.2
      rw [hot] at ho'
      have h3 := hall e (by rw [Option.some.inj ho']; exact he) hb
      rw [hon, getD_both (h.inv.tail j hj2.1 (by omega))] at h3
      exact absurd h3 (by decide)

/-- f operations of the head are still to come, in whatever order; then L. -/
def HeadAny (P : Program) (md : Region.Mode) (ops : Array Oper) (C : World → Prop) (n : Nat) (L : Array Bool → Act → Prop) : Nat → Array Bool → Act → Prop
  | 0, done, a => L done a
  | f + 1, done, a => Region.ready md ops done ≠ [] ∧ ∀ i ∈ Region.ready md ops done, i < n ∧ qOp P ops C i (HeadAny P md ops C n L f (done.setIfInBounds i true)) a

theorem HeadAny.any {n g : Nat} {L : Array Bool → Act → Prop} {Q : Exit → Act → World → Prop} (hL : ∀ done a w, C w → L done a → wpAny P md ops Q g done a w) :
    ∀ (f : Nat) (done : Array Bool) (a : Act) (w : World), C w → HeadAny P md ops C n L f done a → wpAny P md ops Q (f + g) done a w := by
  intro f
  induction f with
  | zero => intro done a w hw h; rw [Nat.zero_add]; exact hL done a w hw h
  | succ f ih =>
    intro done a w hw h
    rw [Nat.add_right_comm]
    exact ⟨fun h0 => (h.1 h0).elim, fun i hi => wpOp_of_qOp hw (fun a' w' hw' h' => ih _ a' w' hw' h') (h.2 i hi).2⟩

theorem HeadAny.first {m n i : Nat} {oi : Oper} {v : Value} {L : Array Bool → Act → Prop} (hi : ops[i]? = some oi) (hsel : Region.noSelect ops = true)
    (hs : sinkFrom md ops m n = true) (hc : chainW md ops n = true) (hin : i < n) (hL : ∀ done a, L done a → ∀ j ∈ Region.ready md ops done, n ≤ j) :
    ∀ (f : Nat) (done : Array Bool) (a : Act), HeadOk md ops m n done →
      (∀ j oj, ops[j]? = some oj → j ≠ i → done.getD j true = false → (∀ e ∈ oj.after, Region.binds md e = true → e.on ≠ i) → oi.apart ops oj = true) →
      i ∈ Region.ready md ops done → YieldsIn P ops C oi v a →
      HeadAny P md ops C n L f (done.setIfInBounds i true) (a.put oi.dst v) → HeadAny P md ops C n L (f + 1) done a := by
  have spec := Region.noSelect_spec hsel
  intro f
  induction f with
  | zero =>
    intro done a ok _ hr hy H
    refine ⟨List.ne_nil_of_mem hr, fun j hj => ?_⟩
    have hjn : j < n := Nat.lt_of_not_le fun hle => ok.waits hs hc _ i rfl hin (mem_ready.1 hr).1 j hle hj
    refine ⟨hjn, ?_⟩
    by_cases hji : j = i
    · rw [hji]; exact hy.qOp hi H
    · exact absurd (hL _ _ H j (ready_mono hj hji)) (Nat.not_le_of_lt hjn)
  | succ f ih =>
    intro done a ok hfree hr hy H
    have hun := (mem_ready.1 hr).1
    refine ⟨List.ne_nil_of_mem hr, fun j hj => ?_⟩
    have hjn : j < n := Nat.lt_of_not_le fun hle => ok.waits hs hc _ i rfl hin hun j hle hj
    refine ⟨hjn, ?_⟩
    by_cases hji : j = i
    · rw [hji]; exact hy.qOp hi H
    · obtain ⟨hjun, oj, hoj, hall⟩ := mem_ready.1 hj
      have hnot : ∀ e ∈ oj.after, Region.binds md e = true → e.on ≠ i := by
        intro e he hb heq
        have h1 := hall e he hb
        rw [heq, getD_both hun] at h1
        exact absurd h1 (by decide)
      have h2 := qOp_put hoj (hfree j oj hoj hji hjun hnot) (fun cs b => spec i oi cs b hi) (fun cs b => spec j oj cs b hoj) hy (H.2 j (ready_mono hj hji)).2
      refine qOp_mono (fun a' h3 => ?_) h2
      refine ih (done.setIfInBounds j true) a' (ok.set hj hjn) (fun k ok hk hki hku hno => hfree k ok hk hki ?_ hno) (ready_mono hr (Ne.symm hji)) h3.1 ?_
      · by_cases hjk : j = k
        · rw [← hjk]; exact hjun
        · rwa [getD_set_ne true hjk] at hku
      · rw [Array.setIfInBounds_comm _ _ hji]; exact h3.2

/-- the operation gives one value in whatever world: a slot's value, or a part of a tuple -/
def plainB (ops : Array Oper) (k : Nat) : Bool := match ops[k]? with
  | some o => match o.op with | .move _ => true | .assign _ => true | .extract _ _ => true | _ => false
  | none => false

theorem plain_yields {k : Nat} {o : Oper} {a : Act} {w : World} {K : Act → World → Prop} {Q : Exit → Act → World → Prop} (hk : ops[k]? = some o) (hm : plainB ops k = true)
    (h : wpOp P ops Q k K a w) : ∃ v, Yields P ops o v a ∧ K (a.put o.dst v) w := by
  unfold wpOp at h
  rw [hk] at h
  dsimp only at h
  by_cases hw : Region.wanted o (yielded ops a.tmps) = true
  · rw [if_pos hw] at h
    have run : (∃ v, (∀ w', (execOp a.eval o).run P w' = .ok (.value v) w') ∧ ((execOp a.eval o).runT P w #[]).2 = #[]) ∨ ((∃ s w', (execOp a.eval o).run P w = .halt (.stuck s) w') ∧ ((execOp a.eval o).runT P w #[]).2 = #[]) := by
      unfold plainB at hm
      rw [hk] at hm
      dsimp only at hm
      split at hm
      · rename_i x hx
        refine .inl ⟨a.eval x, fun w' => (BigFrame.run_move x hx) w', ?_⟩
        unfold execOp; rw [hx]; rfl
      · rename_i x hx
        refine .inl ⟨a.eval x, fun w' => (BigFrame.run_assign x hx) w', ?_⟩
        unfold execOp; rw [hx]; rfl
      · rename_i x i hx
        have e : execOp a.eval o = (do return .value (← Instr.extract (a.eval x) i)) := by unfold execOp; rw [hx]
        rw [e]
        unfold Instr.extract
        split
        · split
          · rename_i vs _ v hv; exact .inl ⟨v, fun w' => rfl, rfl⟩
          · exact .inr ⟨⟨_, _, rfl⟩, rfl⟩
        · exact .inr ⟨⟨_, _, rfl⟩, rfl⟩
      · exact absurd hm (by decide)
    rcases run with ⟨v, hv, hev⟩ | ⟨⟨s, w', hv⟩, hev⟩
    · refine ⟨v, .inl ⟨hw, hv⟩, ?_⟩
      rcases h with h | ⟨⟨h, _⟩, _⟩
      · unfold Oper.wp at h
        rw [hv w] at h
        exact h
      · rw [hev] at h; simp at h
    · exfalso
      rcases h with h | ⟨⟨h, _⟩, _⟩
      · unfold Oper.wp at h
        rw [hv] at h
        exact h
      · rw [hev] at h; simp at h
  · rw [if_neg hw] at h
    exact ⟨undef, .inr ⟨by simpa using hw, rfl⟩, h⟩

/-- the tail: at each point the one operation that may come; or one that gives its value in whatever world -/
def seqW (md : Region.Mode) (ops : Array Oper) : Nat → Nat → Array Bool → Bool
  | 0, _, done => (Region.ready md ops done).isEmpty
  | g + 1, k, done => (decide (Region.ready md ops done = [k]) || (plainB ops k && (Region.ready md ops done).contains k && Region.free md ops done k)) && seqW md ops g (k + 1) (done.setIfInBounds k true)

theorem wpAny_of_seqW {Q : Exit → Act → World → Prop} (hsel : Region.noSelect ops = true) (hQ : ∀ c tmps a w, Q (.panic c) { a with tmps := tmps } w → Q (.panic c) a w) :
    ∀ (l : List Oper) (k : Nat) (done : Array Bool) (a : Act) (w : World), (∀ j, j < l.length → l[j]? = ops[k + j]?) → seqW md ops l.length k done = true → wpList P ops Q l a w → wpAny P md ops Q l.length done a w := by
  intro l
  induction l with
  | nil => intro k done a w _ hB h; exact ⟨by simpa [seqW] using hB, h⟩
  | cons o l ih =>
    intro k done a w hl hB h
    have h0 : ops[k]? = some o := by simpa using (hl 0 (by simp)).symm
    have hl' : ∀ j, j < l.length → l[j]? = ops[k + 1 + j]? := fun j hj => by
      have h1 := hl (j + 1) (by simp; omega)
      rw [List.getElem?_cons_succ] at h1
      rw [h1, show k + 1 + j = k + (j + 1) by omega]
    simp only [List.length_cons, seqW, Bool.and_eq_true, Bool.or_eq_true, decide_eq_true_eq] at hB
    obtain ⟨hB1, hB2⟩ := hB
    have hw : wpOp P ops Q k (wpList P ops Q l) a w := by unfold wpOp; simp only [h0]; exact h
    rcases hB1 with hr | ⟨⟨hp, hr⟩, hf⟩
    · refine ⟨fun h1 => by rw [hr] at h1; exact absurd h1 (List.cons_ne_nil _ _), fun i hi => ?_⟩
      rw [hr] at hi
      obtain rfl : i = k := by simpa using hi
      exact wpOp_mono (fun a' w' h' => ih (i + 1) _ a' w' hl' hB2 h') hw
    · obtain ⟨v, hy, hK⟩ := plain_yields h0 hp hw
      exact wpAny_take h0 hsel hf hr (fun c a' w' h' => hQ c (a'.put o.dst v).tmps a' w' (by rw [show ({ a' with tmps := (a'.put o.dst v).tmps } : Act) = a'.put o.dst v by cases o.dst <;> rfl]; exact h')) hy (ih (k + 1) _ _ w hl' hB2 hK)

/-- the head in the order of the text, then the tail -/
def lexW (md : Region.Mode) (ops : Array Oper) (n g : Nat) : Nat → Nat → Array Bool → Bool
  | 0, k, done => ((Region.ready md ops done).all fun j => decide (n ≤ j)) && seqW md ops g k done
  | f + 1, k, done => (Region.ready md ops done).contains k && Region.free md ops done k && lexW md ops n g f (k + 1) (done.setIfInBounds k true)

theorem HeadAny.lex {m n g : Nat} {R : Act → Prop} (hsel : Region.noSelect ops = true) (hs : sinkFrom md ops m n = true) (hc : chainW md ops n = true) :
    ∀ (l : List Oper) (k : Nat) (done : Array Bool) (a : Act), (∀ j, j < l.length → l[j]? = ops[k + j]?) → k + l.length = n → HeadOk md ops m n done →
      lexW md ops n g l.length k done = true → wpQuiet P ops C R l a →
      HeadAny P md ops C n (fun done' a' => ((Region.ready md ops done').all fun j => decide (n ≤ j)) = true ∧ seqW md ops g n done' = true ∧ R a') l.length done a := by
  intro l
  induction l with
  | nil =>
    intro k done a _ hk _ hB h
    obtain rfl : k = n := by simpa using hk
    simp only [List.length_nil, lexW, Bool.and_eq_true] at hB
    exact ⟨hB.1, hB.2, h⟩
  | cons o l ih =>
    intro k done a hl hk ok hB h
    have h0 : ops[k]? = some o := by simpa using (hl 0 (by simp)).symm
    simp only [List.length_cons, lexW, Bool.and_eq_true] at hB
    obtain ⟨⟨hr, hf⟩, hB'⟩ := hB
    simp only [List.length_cons] at hk
    have hkn : k < n := by omega
    have hr' : k ∈ Region.ready md ops done := by simpa using hr
    have hq : qOp P ops C k (wpQuiet P ops C R l) a := by unfold qOp; simp only [h0]; exact h
    obtain ⟨v, hy, hK⟩ := yieldsIn_of_qOp h0 hq
    refine HeadAny.first h0 hsel hs hc hkn (fun done' a' hL j hj => by have := List.all_eq_true.1 hL.1 j hj; simpa using this) l.length done a ok (Region.free_spec h0 hf) hr' hy
      (ih (k + 1) _ _ (fun j hj => ?_) (by omega) (ok.set hr' hkn) hB' hK)
    have h1 := hl (j + 1) (by simp; omega)
    rw [List.getElem?_cons_succ] at h1
    rw [h1, show k + 1 + j = k + (j + 1) by omega]


/-- the operation only moves a slot's value -/
def movesB (ops : Array Oper) (k : Nat) : Bool := match ops[k]? with
  | some o => match o.op with | .move _ => true | .assign _ => true | _ => false
  | none => false

theorem yields_of_moves {k : Nat} {o : Oper} {v : Value} {a : Act} (hk : ops[k]? = some o) (hm : movesB ops k = true) (h : YieldsIn P ops (fun _ => True) o v a) : Yields P ops o v a := by
  rcases h with ⟨hw, h⟩ | ⟨hw, h⟩
  · refine .inl ⟨hw, fun w => ?_⟩
    have h1 := h w trivial
    unfold movesB at hm
    rw [hk] at hm
    dsimp only at hm
    unfold Oper.quietAt at h1
    split at hm
    · rename_i x hx
      rw [BigFrame.run_move x hx] at h1 ⊢
      obtain ⟨_, h2⟩ := h1
      rw [h2]
    · rename_i x hx
      rw [BigFrame.run_assign x hx] at h1 ⊢
      obtain ⟨_, h2⟩ := h1
      rw [h2]
    · exact absurd hm (by decide)
  · exact .inr ⟨hw, h⟩

/-- the first m, then the check of the rest -/
def preB (md : Region.Mode) (ops : Array Oper) (n g h : Nat) : Nat → Nat → Array Bool → Bool
  | 0, k, done => lexW md ops n g h k done
  | f + 1, k, done => movesB ops k && decide (k < n) && (Region.ready md ops done).contains k && Region.free md ops done k && preB md ops n g h f (k + 1) (done.setIfInBounds k true)

def tailB (md : Region.Mode) (ops : Array Oper) (m n : Nat) : Bool :=
  Region.noSelect ops && decide (n < ops.size) && decide (m ≤ n) && sinkFrom md ops m n && chainW md ops n && preB md ops n (ops.size - n) (n - m) m 0 (Array.replicate ops.size false)

theorem put_tmps (a : Act) (d : Option Tmp) (v : Value) : ({ a with tmps := (a.put d v).tmps } : Act) = a.put d v := by cases d <;> rfl

theorem pre_any {Q : Exit → Act → World → Prop} {m n g h F : Nat} {w : World} {R : Act → Prop} (hsel : Region.noSelect ops = true)
    (hR : ∀ (done : Array Bool) (a : Act), HeadOk md ops m n done → lexW md ops n g h m done = true → R a → wpAny P md ops Q F done a w) (hQ : ∀ c tmps a w, Q (.panic c) { a with tmps := tmps } w → Q (.panic c) a w) :
    ∀ (l : List Oper) (k : Nat) (done : Array Bool) (a : Act), (∀ j, j < l.length → l[j]? = ops[k + j]?) → k + l.length = m → HeadOk md ops k n done →
      preB md ops n g h l.length k done = true → wpQuiet P ops (fun _ => True) R l a → wpAny P md ops Q (l.length + F) done a w := by
  intro l
  induction l with
  | nil =>
    intro k done a _ hk ok hB hq
    obtain rfl : k = m := by simpa using hk
    simp only [List.length_nil, Nat.zero_add]
    exact hR done a ok hB hq
  | cons o l ih =>
    intro k done a hl hk ok hB hq
    have h0 : ops[k]? = some o := by simpa using (hl 0 (by simp)).symm
    simp only [List.length_cons, preB, Bool.and_eq_true, decide_eq_true_eq] at hB
    obtain ⟨⟨⟨⟨hmv, hkn⟩, hr⟩, hf⟩, hB'⟩ := hB
    have hr' : k ∈ Region.ready md ops done := by simpa using hr
    have hq' : qOp P ops (fun _ => True) k (wpQuiet P ops (fun _ => True) R l) a := by unfold qOp; simp only [h0]; exact hq
    obtain ⟨v, hy, hK⟩ := yieldsIn_of_qOp h0 hq'
    rw [show (o :: l).length + F = (l.length + F) + 1 by simp; omega]
    have ok' := ok.set hr' hkn
    refine wpAny_take h0 hsel hf hr (fun c a' w' h' => hQ c (a'.put o.dst v).tmps a' w' (by rw [put_tmps]; exact h')) (yields_of_moves h0 hmv hy) (ih (k + 1) _ _ (fun j hj => ?_) (by simp at hk; omega) ⟨ok'.inv, fun i hi => ?_⟩ hB' hK)
    · have h1 := hl (j + 1) (by simp; omega)
      rw [List.getElem?_cons_succ] at h1
      rw [h1, show k + 1 + j = k + (j + 1) by omega]
    · by_cases hik : i = k
      · subst hik
        have : i < done.size := by rw [ok.inv.size]; exact (Array.getElem?_eq_some_iff.1 h0).1
        simp [this]
      · exact getD_set_true (ok.pre i (by omega))

/-- THE REGION. -/
theorem wp_moves_quiet_tail {id : Nat} {Q : Exit → Act → World → Prop} {a : Act} {w : World} {l : List Oper} (m n : Nat) (hm : P.follows .mixedOrders = true) (hB : tailB .any l.toArray m n = true)
    (hQ : ∀ c tmps a w, Q (.panic c) { a with tmps := tmps } w → Q (.panic c) a w)
    (h : wpQuiet P l.toArray (fun _ => True) (fun a0 => wpQuiet P l.toArray (fun w' => ∃ m, w' = w.drewN m) (fun a' => ∀ w', (∃ m, w' = w.drewN m) → wpList P l.toArray Q (l.drop n) a' w') ((l.take n).drop m) a0) (l.take m) a) :
    (Code.region id l.toArray true).wp P Q a w := by
  simp only [tailB, Bool.and_eq_true, decide_eq_true_eq] at hB
  obtain ⟨⟨⟨⟨⟨hsel, hn⟩, hmn⟩, hs⟩, hc⟩, hpre⟩ := hB
  have hn' : n < l.length := by simpa using hn
  have hml : (l.take m).length = m := by rw [List.length_take]; omega
  have hhl : ((l.take n).drop m).length = n - m := by rw [List.length_drop, List.length_take]; omega
  have hsz : (l.drop n).length = l.toArray.size - n := by simp
  have inv0 : HeadInv .any l.toArray n (Array.replicate l.toArray.size false) :=
    ⟨by simp, fun j oj _ hl => by rw [getD_replicate_false] at hl; exact absurd hl (by decide), fun t _ ht => getD_in (by simpa using ht) (getD_replicate_false _ _)⟩
  refine wp_region_any hm ?_
  have K := pre_any (P := P) (md := .any) (Q := Q) (m := m) (F := n - m + (l.toArray.size - n)) (w := { w with drawn := w.drawn + 1 }) hsel (fun done a' ok hB' hq => ?_) hQ (l.take m) 0 _ a
    (fun j hj => by rw [hml] at hj; simp [hj]) (by simpa using hml) ⟨inv0, fun i hi => absurd hi (Nat.not_lt_zero i)⟩ (by rw [hml]; exact hpre) h
  · rw [hml, show m + (n - m + (l.toArray.size - n)) = l.toArray.size by omega] at K
    exact K
  · have H := HeadAny.lex (P := P) (md := .any) (g := l.toArray.size - n) hsel hs hc ((l.take n).drop m) m done a'
      (fun j hj => by
        rw [hhl] at hj
        have h1 : m + j < n := by omega
        simp [List.getElem?_drop, List.getElem?_take, h1]) (by rw [hhl]; omega) ok (by rw [hhl]; exact hB') hq
    rw [hhl] at H
    exact HeadAny.any (Q := Q) (g := l.toArray.size - n) (fun done a' w' hw' hL => by
      have h1 := wpAny_of_seqW (md := .any) (Q := Q) hsel hQ (l.drop n) n done a' w' (fun j _ => by simp [List.getElem?_drop]) (by rw [hsz]; exact hL.2.1) (hL.2.2 w' hw')
      rwa [hsz] at h1) (n - m) done a' _ ⟨1, rfl⟩ H

/-- The same where no operation is moved ahead. -/
theorem wp_quiet_tail {id : Nat} {Q : Exit → Act → World → Prop} {a : Act} {w : World} {l : List Oper} (n : Nat) (hm : P.follows .mixedOrders = true) (hB : tailB .any l.toArray 0 n = true)
    (hQ : ∀ c tmps a w, Q (.panic c) { a with tmps := tmps } w → Q (.panic c) a w)
    (h : wpQuiet P l.toArray (fun w' => ∃ m, w' = w.drewN m) (fun a' => ∀ w', (∃ m, w' = w.drewN m) → wpList P l.toArray Q (l.drop n) a' w') (l.take n) a) : (Code.region id l.toArray true).wp P Q a w :=
  wp_moves_quiet_tail 0 n hm hB hQ h
end
end Go.Proofs.Ytjcbaelefacolaa
/- Words for memory: a block known whole; what has changed between two worlds; a slice that came in and reads as a list of cells. Plain laws, no condition. -/
namespace Go.Proofs.Ytjcbaelefacolaa
open Go Go.RowKit

/-- Block g is just these cells, none of them frozen. -/
def Blk (w : World) (g : Nat) (t : TypeId) (cs : Array Value) : Prop := w.heap[g]? = some (.cells cs t (0, 0))

section
variable {w w' : World} {g : Nat} {t : TypeId} {cs : Array Value}
theorem Blk.lt (h : Blk w g t cs) : g < w.heap.size := (Array.getElem?_eq_some_iff.1 h).1
theorem Blk.cell (h : Blk w g t cs) (i : Nat) : w.cell? ⟨g, i, none⟩ = cs[i]? := cell_of_row w g i cs t (0, 0) h
theorem Blk.frozen (h : Blk w g t cs) (i : Nat) : w.frozen? ⟨g, i, none⟩ = false := by
  have h' : w.heap[g]? = some (.cells cs t (0, 0)) := h
  simp [World.frozen?, h']
theorem Blk.new (w : World) (t : TypeId) (cs : Array Value) : Blk (w.alloc (.cells cs t)) w.heap.size t cs := heap_alloc_new w _
theorem Blk.drewN (h : Blk w g t cs) (n : Nat) : Blk (w.drewN n) g t cs := h
theorem Blk.alloc (h : Blk w g t cs) (o : Obj) : Blk (w.alloc o) g t cs := (Below.heap_alloc w o g h.lt).trans h
theorem Blk.store (h : Blk w g t cs) (i : Nat) (u : Value) : Blk (w.setCell ⟨g, i, none⟩ u) g t (cs.setIfInBounds i u) := by
  have h' : w.heap[g]? = some (.cells cs t (0, 0)) := h
  show (w.setCell ⟨g, i, none⟩ u).heap[g]? = _
  simp [World.setCell, Array.getElem?_modify, h']
theorem Blk.other (h : Blk w g t cs) {p : Addr} (hp : g ≠ p.block) (u : Value) : Blk (w.setCell p u) g t cs := (Below.heap_setCell w p u g hp).trans h
theorem Blk.below {B : Nat} (h : Blk w g t cs) (hb : Below B w w') (hg : g < B) : Blk w' g t cs := (hb.block g hg).trans h
theorem Blk.ne {g' : Nat} {t' : TypeId} {cs' : Array Value} (h : Blk w g t cs) (h' : Blk w g' t' cs') (hne : t ≠ t') : g ≠ g' := by
  intro e
  rw [e] at h
  have := (Option.some.inj (h.symm.trans h'))
  injection this with _ ht
  exact hne ht
end

/-- From w to w' only the blocks of S have changed, and new ones have come. -/
structure Upd (S : List Nat) (w w' : World) : Prop where
  os : w'.os = w.os
  tape : w'.tape = w.tape
  output : w'.output = w.output
  size : w.heap.size ≤ w'.heap.size
  block : ∀ k, k < w.heap.size → k ∉ S → w'.heap[k]? = w.heap[k]?

section
variable {S T : List Nat} {a b c w w' : World}
theorem Upd.refl (S : List Nat) (w : World) : Upd S w w := ⟨rfl, rfl, rfl, Nat.le_refl _, fun _ _ _ => rfl⟩
theorem Upd.trans (h : Upd S a b) (k : Upd T b c) (hT : ∀ t, t ∈ T → t ∈ S ∨ a.heap.size ≤ t) : Upd S a c :=
  ⟨k.os.trans h.os, k.tape.trans h.tape, k.output.trans h.output, Nat.le_trans h.size k.size, fun i hi hn =>
    (k.block i (Nat.lt_of_lt_of_le hi h.size) (fun ht => (hT i ht).elim hn (fun hle => Nat.not_le_of_lt hi hle))).trans (h.block i hi hn)⟩
theorem Upd.next (h : Upd S a b) (k : Upd S b c) : Upd S a c := h.trans k fun _ ht => .inl ht
theorem Upd.more (h : Upd S a b) (hS : ∀ s, s ∈ S → s ∈ T) : Upd T a b := ⟨h.os, h.tape, h.output, h.size, fun k hk hn => h.block k hk fun hs => hn (hS k hs)⟩
theorem Upd.drewN (h : Upd S a w) (n : Nat) : Upd S a (w.drewN n) := ⟨h.os, h.tape, h.output, h.size, h.block⟩
theorem Upd.alloc (h : Upd S a w) (o : Obj) : Upd S a (w.alloc o) :=
  ⟨h.os, h.tape, h.output, Nat.le_trans h.size (by simp), fun k hk hn => (Below.heap_alloc w o k (Nat.lt_of_lt_of_le hk h.size)).trans (h.block k hk hn)⟩
theorem Upd.setCell (h : Upd S a w) {p : Addr} (hp : p.block ∈ S ∨ a.heap.size ≤ p.block) (u : Value) : Upd S a (w.setCell p u) :=
  ⟨h.os, h.tape, h.output, by simpa [World.setCell] using h.size, fun k hk hn => (Below.heap_setCell w p u k (fun e => by
    subst e
    exact hp.elim hn (fun hle => Nat.not_le_of_lt hk hle))).trans (h.block k hk hn)⟩
theorem Upd.below {B : Nat} (h : Upd S w w') (hB : B ≤ w.heap.size) (hS : ∀ s, s ∈ S → B ≤ s) : Below B w w' :=
  ⟨h.os, h.tape, h.output, h.size, fun k hk => h.block k (by omega) (fun hs => by have := hS k hs; omega)⟩
theorem Upd.of_below (h : Below w.heap.size w w') : Upd S w w' := ⟨h.os, h.tape, h.output, h.size, fun k hk _ => h.block k hk⟩
theorem Upd.of_grown {row : Option Nat} (h : w.grownBy w' row) : Upd row.toList w w' :=
  ⟨h.os, h.tape, h.output, h.size, fun k hk hn => h.block k hk (fun e => hn (by rw [← e]; simp))⟩
theorem Blk.upd {g : Nat} {t : TypeId} {cs : Array Value} (h : Blk w g t cs) (u : Upd S w w') (hg : g ∉ S) : Blk w' g t cs := (u.block g h.lt hg).trans h
theorem Upd.cell (h : Upd S w w') {p : Addr} (hp : p.block < w.heap.size) (hS : p.block ∉ S) : w'.cell? p = w.cell? p := World.cell?_of_block (w := w) (h.block p.block hp hS)
theorem ownsRow_upd {base : Nat} {e : TypeId} {size n : Nat} {v : Value} {xs : List Value} (h : w.ownsRow base e size v n xs) (u : Upd S w w') (hS : ∀ s, s ∈ S → v.ownBlock ≠ some s) : w'.ownsRow base e size v n xs := by
  refine ⟨h.1, h.2.imp id fun ⟨g, cap, cur, hv, hg, hh, r⟩ => ⟨g, cap, cur, hv, hg, ?_, r⟩⟩
  have hgS : g ∉ S := fun hs => hS g hs (by rw [hv]; rfl)
  rw [u.block g (Array.getElem?_eq_some_iff.1 hh).1 hgS]; exact hh
end

/-- What the walk is told of the old cells in a later world. -/
theorem old_cells {W w : World} {B : Nat} (hb : Below B W w) : (∀ b o, b < B → w.cell? ⟨b, o, none⟩ = W.cell? ⟨b, o, none⟩) ∧ (∀ b o, b < B → w.frozen? ⟨b, o, none⟩ = W.frozen? ⟨b, o, none⟩) :=
  ⟨fun b o h => hb.cell (p := ⟨b, o, none⟩) h, fun b o h => hb.frozen (p := ⟨b, o, none⟩) h⟩

/-- A slice that came in: n elements of so many cells each, below block B. -/
def Cells (w : World) (B size : Nat) (A : Option Addr) (n : Nat) (xs : List Value) : Prop :=
  xs.length = n * size ∧ (0 < n → ∃ b off, A = some ⟨b, off, none⟩ ∧ b < B ∧ ∀ (j : Nat) (u : Value), xs[j]? = some u → w.cell? ⟨b, off + j, none⟩ = some u)
theorem Cells.below {w w' : World} {B B' size n : Nat} {A : Option Addr} {xs : List Value} (h : Cells w B size A n xs) (hb : Below B' w w') (hB : B ≤ B') : Cells w' B size A n xs :=
  ⟨h.1, fun hn => by
    obtain ⟨b, off, e, hlt, hc⟩ := h.2 hn
    exact ⟨b, off, e, hlt, fun j u hu => (hb.cell (p := ⟨b, off + j, none⟩) (Nat.lt_of_lt_of_le hlt hB)).trans (hc j u hu)⟩⟩

/-- The value of a slice of the call's own. -/
theorem own_form {w : World} {B : Nat} {e : TypeId} {size n : Nat} {v : Value} {xs : List Value} (h : w.ownsRow B e size v n xs) :
    ∃ A cap, v = .slice A n cap ∧ n ≤ cap ∧ (0 < n → ∃ g, A = some ⟨g, 0, none⟩ ∧ B ≤ g ∧ g < w.heap.size) ∧ (A = none → n = 0 ∧ cap = 0) := by
  rcases h.2 with ⟨hv, hn⟩ | ⟨g, cap, cur, hv, hg, hh, hc, _⟩
  · subst hn
    exact ⟨none, 0, hv, Nat.le_refl _, fun h => absurd h (Nat.lt_irrefl 0), fun _ => ⟨rfl, rfl⟩⟩
  · exact ⟨_, cap, hv, hc, fun _ => ⟨g, rfl, hg, (Array.getElem?_eq_some_iff.1 hh).1⟩, fun h => by cases h⟩

/-- append onto a slice of the call's own, from a source that may be nil or empty. -/
theorem wpList_append_src {P : Program} (w : World) {ops : Array Oper} {rest : List Oper} {o : Oper} {a : Act} {Q : Exit → Act → World → Prop} (hgd : o.guard = none) (s x : Operand) (t : TypeId)
    (ho : o.op = .call { callee := .builtin .append, args := #[s, x], argTypes := #[t, t] })
    (base : Nat) (e : TypeId) (i : TypeInfo) (z : Value) (size bytes : Nat) (ht : P.underlying t = some (.slice e)) (hi : P.info? e = some i) (hz : i.zero = some z) (hsize : i.size = size) (hby : i.bytes = bytes)
    (hzs : z.cells.size = size) (hsz : 0 < size) (v : Value) (n : Nat) (xs : List Value) (hs : a.eval s = v) (hown : w.ownsRow base e size v n xs)
    (A : Option Addr) (m c : Nat) (news : List Value) (hx : a.eval x = .slice A m c) (hA : A = none → m = 0 ∧ c = 0) (hn : news.length = m * size)
    (hcells : ∀ ad, A = some ad → ∀ (j : Nat) (u : Value), news[j]? = some u → w.cell? (ad.add j) = some u) (h1 : ∀ u ∈ news, u.oneCell' = true)
    (h63 : n + m ≤ maxLen) (hbytes : (n + m) * bytes ≤ 140737488355328) (hbase : base ≤ w.heap.size)
    (h : ∀ v' w', w'.ownsRow base e size v' (n + m) (xs ++ news) → w.grownBy w' v.ownBlock → (v'.ownBlock = v.ownBlock ∨ v'.ownBlock = some w.heap.size) → wpList P ops Q rest (a.put o.dst v') w') : wpList P ops Q (o :: rest) a w := by
  cases A with
  | none =>
    obtain ⟨hm, hc⟩ := hA rfl
    subst hm
    subst hc
    have hnil : news = [] := List.eq_nil_of_length_eq_zero (by simpa using hn)
    subst hnil
    refine wpList_append_own_none hgd s x t ho base e i size ht hi v n xs hs hown hx ?_
    exact h v w (by simpa using hown) (World.grownBy.refl w _) (.inl rfl)
  | some ad =>
    exact wpList_append_own_at w hgd s x t ho base e i z size bytes ht hi hz hsize hby hzs hsz v n xs hs hown ad m c news hx hn (hcells ad rfl) h1 h63 hbytes hbase (fun v' w' g1 g2 _ g4 => h v' w' g1 g2 g4)

/-- Two slices of the call's own that share no block. -/
def Apart (v u : Value) : Prop := ∀ g, v.ownBlock = some g → u.ownBlock ≠ some g
theorem Apart.symm {v u : Value} (h : Apart v u) : Apart u v := fun g h1 h2 => h g h2 h1
theorem Apart.nil (u : Value) : Apart (.slice none 0 0) u := fun g h => by simp [Value.ownBlock] at h
theorem own_block_lt {w : World} {B : Nat} {e : TypeId} {size n : Nat} {v : Value} {xs : List Value} (h : w.ownsRow B e size v n xs) {g : Nat} (hg : v.ownBlock = some g) : B ≤ g ∧ g < w.heap.size := by
  rcases h.2 with ⟨hv, _⟩ | ⟨g', cap, cur, hv, hb, hh, _⟩
  · rw [hv] at hg; simp [Value.ownBlock] at hg
  · rw [hv] at hg
    have : g' = g := by simpa [Value.ownBlock] using hg
    subst this
    exact ⟨hb, (Array.getElem?_eq_some_iff.1 hh).1⟩
/-- Behind an append: another slice stays apart, and owns what it owned. -/
theorem Apart.append {w : World} {B : Nat} {e : TypeId} {size n : Nat} {v v' u : Value} {ys : List Value} (hat : v'.ownBlock = v.ownBlock ∨ v'.ownBlock = some w.heap.size) (hu : w.ownsRow B e size u n ys) (h : Apart u v) : Apart u v' := by
  intro g hg h2
  rcases hat with e1 | e1
  · exact h g hg (e1 ▸ h2)
  · have := (own_block_lt hu hg).2
    rw [e1] at h2
    injection h2 with h2
    omega
theorem Apart.kept {w w' : World} {B : Nat} {e : TypeId} {size n : Nat} {v u : Value} {ys : List Value} (hu : w.ownsRow B e size u n ys) (hg : w.grownBy w' v.ownBlock) (h : Apart u v) : w'.ownsRow B e size u n ys := by
  refine hu.kept hg ?_
  cases hb : u.ownBlock with
  | none => exact .inl rfl
  | some g => exact .inr (fun e => h g hb e.symm)
/-- Behind an append onto a row of the call's own from block N on: what lies below N is as it was. -/
theorem grown_upd {w w' : World} {N : Nat} {e : TypeId} {size n : Nat} {v : Value} {xs : List Value} (hown : w.ownsRow N e size v n xs) (hg : w.grownBy w' v.ownBlock) (hN : N ≤ w.heap.size) : Below N w w' :=
  ⟨hg.os, hg.tape, hg.output, hg.size, fun k hk => hg.block k (by omega) (fun e => by have := (own_block_lt hown e.symm).1; omega)⟩

theorem ret_int {k : IntKind} {a b : Int} (h : a = b) : Ending.returned (.int k a) = .returned (.int k b) := by rw [h]
theorem ret_bool {a b : Bool} (h : a = b) : Ending.returned (.bool a) = .returned (.bool b) := by rw [h]

/-- A call in a region that only reads, behind other draws. -/
theorem quiet_more {P : Program} {f : FuncId} {args : Array Value} {w : World} {a n : Nat} {v : Value}
    (h : Calls P f args (w.drewN (a + n)) fun e w' => e = .returned v ∧ ∃ m, w' = (w.drewN (a + n)).drewN m) :
    Calls P f args (w.drewN (a + n)) fun e w' => e = .returned v ∧ ∃ m, w' = w.drewN (a + m) :=
  h.mono fun _ _ ⟨he, m, hm⟩ => ⟨he, n + m, by rw [hm, World.drewN_drewN, Nat.add_assoc]⟩
theorem quiet_more_same {P : Program} {f : FuncId} {args : Array Value} {w : World} {a n : Nat} {v : Value}
    (h : Calls P f args (w.drewN (a + n)) fun e w' => e = .returned v ∧ w.drewN (a + n) = w') :
    Calls P f args (w.drewN (a + n)) fun e w' => e = .returned v ∧ ∃ m, w' = w.drewN (a + m) :=
  h.mono fun _ _ ⟨he, hm⟩ => ⟨he, n, hm.symm⟩
theorem quiet_one {P : Program} {f : FuncId} {args : Array Value} {w : World} {n : Nat} {v : Value}
    (h : Calls P f args (w.drewN n) fun e w' => e = .returned v ∧ w.drewN n = w') : Calls P f args (w.drewN n) fun e w' => e = .returned v ∧ ∃ m, w' = w.drewN m :=
  h.mono fun _ _ ⟨he, hm⟩ => ⟨he, n, hm.symm⟩
end Go.Proofs.Ytjcbaelefacolaa
/- Rows of elements of several cells. Plain laws on lists. -/
namespace Go.Proofs.Ytjcbaelefacolaa
open Go Go.RowKit

section
variable {α : Type} {f : α → List Value} {size : Nat}
theorem flat_length (hf : ∀ z, (f z).length = size) (l : List α) : (l.flatMap f).length = l.length * size := by
  induction l with
  | nil => simp
  | cons a l ih => rw [List.flatMap_cons, List.length_append, ih, hf, List.length_cons, Nat.succ_mul, Nat.add_comm]
theorem flat_get (hf : ∀ z, (f z).length = size) (l : List α) (i j : Nat) (z : α) (h : l[i]? = some z) (hj : j < size) : (l.flatMap f)[i * size + j]? = (f z)[j]? := by
  induction l generalizing i with
  | nil => simp at h
  | cons a l ih =>
    rw [List.flatMap_cons]
    cases i with
    | zero =>
      obtain rfl : a = z := by simpa using h
      rw [Nat.zero_mul, Nat.zero_add, List.getElem?_append_left (by rw [hf]; exact hj)]
    | succ i =>
      rw [List.getElem?_append_right (by rw [hf, Nat.succ_mul]; omega), hf, Nat.succ_mul, show i * size + size + j - size = i * size + j by omega]
      exact ih i (by simpa using h)
theorem flat_set (hf : ∀ z, (f z).length = size) (l : List α) (i j : Nat) (z z' : α) (v : Value) (h : l[i]? = some z) (hj : j < size) (hz : f z' = (f z).set j v) : (l.flatMap f).set (i * size + j) v = (l.set i z').flatMap f := by
  induction l generalizing i with
  | nil => simp at h
  | cons a l ih =>
    cases i with
    | zero =>
      obtain rfl : a = z := by simpa using h
      rw [List.flatMap_cons, List.set_cons_zero, List.flatMap_cons, Nat.zero_mul, Nat.zero_add, hz, List.set_append_left _ _ (by rw [hf]; exact hj)]
    | succ i =>
      rw [List.flatMap_cons, List.set_cons_succ, List.flatMap_cons, List.set_append_right _ _ (by rw [hf, Nat.succ_mul]; omega), hf, Nat.succ_mul, show i * size + size + j - size = i * size + j by omega, ih i (by simpa using h)]
theorem flat_snoc (l : List α) (x : α) : (l ++ [x]).flatMap f = l.flatMap f ++ f x := by simp
theorem flat_take (hf : ∀ z, (f z).length = size) (l : List α) (k : Nat) : (l.flatMap f).take (k * size) = (l.take k).flatMap f := by
  induction l generalizing k with
  | nil => simp
  | cons a l ih =>
    cases k with
    | zero => simp
    | succ k =>
      rw [List.flatMap_cons, List.take_succ_cons, List.flatMap_cons, Nat.succ_mul, Nat.add_comm, List.take_append, hf]
      rw [List.take_of_length_le (by rw [hf]; omega), Nat.add_sub_cancel_left, ih]
end

/-- make of n elements of several cells, each the zero one. -/
theorem run_mkN {P : Program} (t e : TypeId) (zc : List Value) (size bytes : Nat) (ht : P.underlying t = some (.slice e)) (hi : (P.info? e).map (fun i => (i.zero, i.size, i.bytes)) = some (some (.agg zc.toArray), size, bytes))
    (hz : zc.length = size) (h0 : 0 < size) (n : Nat) (hb : bytes * n ≤ 281474976710656) (hn : n ≤ 65536) (w : World) :
    (Instr.makeSlice t (.int .i64 (n : Int)) (.int .i64 (n : Int))).run P w = .ok (.slice (some ⟨w.heap.size, 0, none⟩) n n) (w.alloc (.cells ((List.replicate n ()).flatMap fun _ => zc).toArray e)) := by
  obtain ⟨i0, hi0, hz0, hz1, hz2⟩ := info_parts hi
  have hb' : (i0.bytes : Int) * (n : Int) ≤ 281474976710656 := by
    rw [hz2]
    have : ((bytes * n : Nat) : Int) ≤ 281474976710656 := by omega
    rwa [Int.natCast_mul] at this
  have h := run_make (P := P) w t e i0 _ ht hi0 hz0 .i64 .i64 (n : Int) (n : Int) (by omega) (by omega) hb' (by omega)
  rw [Int.toNat_natCast, hz1] at h
  rw [h]
  congr 3
  unfold madeCells
  have hcs : (Value.agg zc.toArray).cells = zc.toArray := rfl
  rw [hcs]
  apply Array.ext
  · simp [flat_length (f := fun _ : Unit => zc) (fun _ => hz)]
  · intro i h1 h2
    simp only [Array.size_map, Array.size_range] at h1
    have hq : i = i / size * size + i % size := by rw [Nat.mul_comm]; exact (Nat.div_add_mod i size).symm
    have hm : i % size < size := Nat.mod_lt _ h0
    have hd : i / size < n := Nat.div_lt_of_lt_mul (by rw [Nat.mul_comm]; exact h1)
    have hg := flat_get (f := fun _ : Unit => zc) (fun _ => hz) (List.replicate n ()) (i / size) (i % size) () (by simp [hd]) hm
    rw [← hq] at hg
    simp only [Array.getElem_map, Array.getElem_range, List.getElem_toArray]
    rw [List.getElem?_eq_getElem (by simpa using h2), List.getElem?_eq_getElem (by omega)] at hg
    have hsz : zc.toArray.size = size := by simpa using hz
    rw [Option.some.inj hg, hsz, getElem!_pos zc.toArray (i % size) (by rw [hsz]; exact hm)]
    simp
end Go.Proofs.Ytjcbaelefacolaa
/- The state of the layer delta as plain lists, what a request makes of it, and what always holds of it. Plain laws, no program in sight. -/
namespace Go.Proofs.Ytjcbaelefacolaa
open Go
set_option maxHeartbeats 400000

structure Per where
  who : Int
  room : Int
  rights : Int
structure Trk where
  id : Int
  owner : Int
  frm : Int
  ss : List Int
structure Sb where
  who : Int
  track : Int
  layer : Int
  tid : Int
  muted : Bool
structure Cf where
  people : Int
  tracks : Int
  subs : Int
  slots : Int
structure St where
  c : Cf
  ps : List Per
  ts : List Trk
  bs : List Sb
structure Rq where
  kind : Int
  who : Int
  room : Int
  rights : Int
  track : Int
  ss : List Int
  layer : Int
  tid : Int

/-- what a comparison says of somebody, a track, a sub -/
def cmpI (x y : Int) : Int := if x < y then -1 else if y < x then 1 else 0
def cP (who : Int) (p : Per) : Int := cmpI p.who who
def cT (id : Int) (t : Trk) : Int := cmpI t.id id
def cB (who track : Int) (b : Sb) : Int := if cmpI b.who who ≠ 0 then cmpI b.who who else cmpI b.track track
section
variable {α : Type}
def low (c : α → Int) (l : List α) : Nat := l.countP (fun x => decide (c x < 0))
def has (c : α → Int) (l : List α) : Bool := l.any (fun x => decide (c x = 0))
def ins (l : List α) (i : Nat) (x : α) : List α := l.take i ++ x :: l.drop i
/-- rising, as a comparison sees it -/
def Rise (c : α → Int) (l : List α) : Prop := l.Pairwise (fun a b => c b ≤ 0 → c a < 0)
theorem low_le (c : α → Int) (l : List α) : low c l ≤ l.length := List.countP_le_length
/-- where the elements below end -/
theorem low_eq {c : α → Int} : ∀ {l : List α} {i : Nat}, i ≤ l.length → (∀ k x, l[k]? = some x → k < i → c x < 0) → (∀ k x, l[k]? = some x → i ≤ k → 0 ≤ c x) → low c l = i
  | [], i, hi, _, _ => by simp at hi; subst hi; rfl
  | a :: l, 0, _, _, h2 => by
    unfold low
    rw [List.countP_eq_zero]
    intro x hx
    obtain ⟨k, hk⟩ := List.getElem?_of_mem hx
    have := h2 k x hk (Nat.zero_le _)
    simp; omega
  | a :: l, i + 1, hi, h1, h2 => by
    have h0 := h1 0 a rfl (by omega)
    have := low_eq (c := c) (l := l) (i := i) (by simpa using hi) (fun k x hk hlt => h1 (k + 1) x (by simpa using hk) (by omega)) (fun k x hk hle => h2 (k + 1) x (by simpa using hk) (by omega))
    unfold low at this ⊢
    rw [List.countP_cons_of_pos (by simpa using h0), this]
theorem rise_low {c : α → Int} {l : List α} (h : Rise c l) : ∀ k x, l[k]? = some x → (k < low c l → c x < 0) ∧ (low c l ≤ k → 0 ≤ c x) ∧ (low c l < k → 0 < c x) := by
  induction l with
  | nil => intro k x hk; simp at hk
  | cons a l ih =>
    unfold Rise at h
    rw [List.pairwise_cons] at h
    have ih' := ih h.2
    intro k x hk
    by_cases ha : c a < 0
    · have e : low c (a :: l) = low c l + 1 := by unfold low; rw [List.countP_cons_of_pos (by simpa using ha)]
      rw [e]
      cases k with
      | zero =>
        obtain rfl : a = x := by simpa using hk
        exact ⟨fun _ => ha, fun h => by omega, fun h => by omega⟩
      | succ k =>
        have := ih' k x (by simpa using hk)
        exact ⟨fun h => this.1 (by omega), fun h => this.2.1 (by omega), fun h => this.2.2 (by omega)⟩
    · have e : low c (a :: l) = 0 := by
        unfold low
        rw [List.countP_eq_zero]
        intro y hy
        rcases List.mem_cons.1 hy with rfl | hy
        · simpa using ha
        · have := h.1 y hy
          simp; omega
      rw [e]
      refine ⟨fun h => by omega, ?_, ?_⟩
      · intro _
        cases k with
        | zero => obtain rfl : a = x := by simpa using hk
                  omega
        | succ k => have := h.1 x (List.mem_of_getElem? (by simpa using hk)); omega
      · intro hlt
        cases k with
        | zero => omega
        | succ k => have := h.1 x (List.mem_of_getElem? (by simpa using hk)); omega
/-- it is there just where the search ends at it -/
theorem rise_has {c : α → Int} {l : List α} (h : Rise c l) : has c l = true ↔ ∃ x, l[low c l]? = some x ∧ c x = 0 := by
  unfold has
  rw [List.any_eq_true]
  constructor
  · rintro ⟨x, hx, hc⟩
    obtain ⟨k, hk⟩ := List.getElem?_of_mem hx
    have hc' : c x = 0 := by simpa using hc
    have := rise_low h k x hk
    have : k = low c l := by omega
    subst this
    exact ⟨x, hk, hc'⟩
  · rintro ⟨x, hk, hc⟩
    exact ⟨x, List.mem_of_getElem? hk, by simpa using hc⟩
theorem ins_length (l : List α) (i : Nat) (x : α) (hi : i ≤ l.length) : (ins l i x).length = l.length + 1 := by
  unfold ins; rw [List.length_append, List.length_cons, List.length_take, List.length_drop]; omega
theorem mem_ins {l : List α} {i : Nat} {x y : α} : y ∈ ins l i x ↔ y = x ∨ y ∈ l := by
  unfold ins
  rw [List.mem_append, List.mem_cons]
  constructor
  · rintro (h | h | h)
    · exact .inr (List.mem_of_mem_take h)
    · exact .inl h
    · exact .inr (List.mem_of_mem_drop h)
  · rintro (h | h)
    · exact .inr (.inl h)
    · rw [← List.take_append_drop i l] at h
      rcases List.mem_append.1 h with h | h
      · exact .inl h
      · exact .inr (.inr h)
theorem ins_perm (l : List α) (i : Nat) (x : α) : (ins l i x).Perm (x :: l) := by
  unfold ins
  have := List.perm_middle (a := x) (l₁ := l.take i) (l₂ := l.drop i)
  rwa [List.take_append_drop] at this
end
theorem cmpI_neg {x y : Int} : cmpI x y < 0 ↔ x < y := by unfold cmpI; split <;> (try split) <;> omega
theorem cmpI_zero {x y : Int} : cmpI x y = 0 ↔ x = y := by unfold cmpI; split <;> (try split) <;> omega
theorem cmpI_pos {x y : Int} : 0 < cmpI x y ↔ y < x := by unfold cmpI; split <;> (try split) <;> omega
theorem cmpI_le {x y : Int} : cmpI x y ≤ 0 ↔ x ≤ y := by unfold cmpI; split <;> (try split) <;> omega
/-- a sub ahead of another one -/
def ltB (a b : Sb) : Prop := a.who < b.who ∨ a.who = b.who ∧ a.track < b.track
theorem cB_neg {w t : Int} {b : Sb} : cB w t b < 0 ↔ b.who < w ∨ b.who = w ∧ b.track < t := by
  unfold cB
  have := @cmpI_neg b.who w
  have := @cmpI_zero b.who w
  have := @cmpI_neg b.track t
  split <;> omega
theorem cB_zero {w t : Int} {b : Sb} : cB w t b = 0 ↔ b.who = w ∧ b.track = t := by
  unfold cB
  have := @cmpI_zero b.who w
  have := @cmpI_zero b.track t
  split <;> omega
theorem cB_le {w t : Int} {b : Sb} : cB w t b ≤ 0 ↔ b.who < w ∨ b.who = w ∧ b.track ≤ t := by
  unfold cB
  have := @cmpI_le b.who w
  have := @cmpI_zero b.who w
  have := @cmpI_le b.track t
  split <;> omega
def UpP (l : List Per) : Prop := l.Pairwise (fun a b => a.who < b.who)
def UpT (l : List Trk) : Prop := l.Pairwise (fun a b => a.id < b.id)
def UpB (l : List Sb) : Prop := l.Pairwise ltB
theorem UpP.rise {l : List Per} (h : UpP l) (who : Int) : Rise (cP who) l := List.Pairwise.imp (fun {a b} hab hb => by unfold cP at *; rw [cmpI_le] at hb; rw [cmpI_neg]; omega) h
theorem UpT.rise {l : List Trk} (h : UpT l) (id : Int) : Rise (cT id) l := List.Pairwise.imp (fun {a b} hab hb => by unfold cT at *; rw [cmpI_le] at hb; rw [cmpI_neg]; omega) h
theorem UpB.rise {l : List Sb} (h : UpB l) (w t : Int) : Rise (cB w t) l := List.Pairwise.imp (fun {a b} hab hb => by rw [cB_le] at hb; rw [cB_neg]; unfold ltB at hab; omega) h

/-- may these SSRCs be? -/
def mayM : List Int → List Int → Bool
  | [], _ => true
  | x :: r, seen => decide (1 ≤ x) && decide (x < 2147483648) && !seen.contains x && mayM r (seen ++ [x])
def maySS (l : List Int) : Bool := decide (1 ≤ l.length) && decide (l.length ≤ 3) && mayM l []
def takenM (s : St) (l : List Int) : Bool := s.ts.any fun t => t.ss.any fun x => l.contains x
def layersM (q : Rq) : Bool := decide (0 ≤ q.layer) && decide (q.layer ≤ 2) && decide (0 ≤ q.tid) && decide (q.tid ≤ 3)
/-- without some tracks, and their subs -/
def dropM (s : St) (is : Trk → Bool) : St :=
  { s with ts := s.ts.filter (fun t => !is t), bs := s.bs.filter (fun b => has (cT b.track) (s.ts.filter (fun t => !is t))) }
def joinM (s : St) (q : Rq) : St × Int :=
  if q.who < 1 ∨ 999 < q.who ∨ q.room < 1 ∨ 9 < q.room ∨ q.rights < 0 ∨ 3 < q.rights then (s, 1)
  else if has (cP q.who) s.ps then (s, 22)
  else if s.c.people ≤ s.ps.length then (s, 20)
  else ({ s with ps := ins s.ps (low (cP q.who) s.ps) ⟨q.who, q.room, q.rights⟩ }, 0)
def leaveM (s : St) (q : Rq) : St × Int :=
  (dropM { s with ps := s.ps.filter (fun p => !decide (p.who = q.who)), bs := s.bs.filter (fun b => !decide (b.who = q.who)) } (fun t => decide (t.owner = q.who)), 0)
def perAt (s : St) (who : Int) : Per := s.ps[low (cP who) s.ps]?.getD ⟨0, 0, 0⟩
def trkAt (s : St) (id : Int) : Trk := s.ts[low (cT id) s.ts]?.getD ⟨0, 0, 0, []⟩
def subAt (s : St) (who track : Int) : Sb := s.bs[low (cB who track) s.bs]?.getD ⟨0, 0, 0, 0, false⟩
def publishM (s : St) (q : Rq) : St × Int :=
  if (perAt s q.who).rights % 2 = 0 then (s, 24)
  else if q.track < 1 ∨ 999 < q.track ∨ maySS q.ss = false then (s, 1)
  else if has (cT q.track) s.ts = true ∨ takenM s q.ss = true then (s, 22)
  else if s.c.tracks ≤ s.ts.length then (s, 20)
  else ({ s with ts := ins s.ts (low (cT q.track) s.ts) ⟨q.track, q.who, 0, q.ss⟩ }, 0)
def ownM (s : St) (q : Rq) : Int :=
  if has (cT q.track) s.ts = false then 21 else if (trkAt s q.track).owner ≠ q.who then 24 else 0
def unpublishM (s : St) (q : Rq) : St × Int :=
  if ownM s q ≠ 0 then (s, ownM s q) else (dropM s (fun t => decide (t.id = q.track)), 0)
def replaceM (s : St) (q : Rq) : St × Int :=
  if ownM s q ≠ 0 then (s, ownM s q)
  else if maySS q.ss = false then (s, 1)
  else if takenM s q.ss = true then (s, 22)
  else ({ s with ts := s.ts.set (low (cT q.track) s.ts) { trkAt s q.track with ss := q.ss, frm := IntKind.i64.wrap ((trkAt s q.track).frm + 1) } }, 0)
def hasN (s : St) (who : Int) : Nat := s.bs.countP (fun b => decide (b.who = who))
def subscribeM (s : St) (q : Rq) : St × Int :=
  if (perAt s q.who).rights / 2 % 2 = 0 then (s, 24)
  else if has (cT q.track) s.ts = false then (s, 21)
  else if (perAt s (trkAt s q.track).owner).room ≠ (perAt s q.who).room then (s, 24)
  else if has (cB q.who q.track) s.bs = true then (s, 22)
  else if layersM q = false then (s, 1)
  else if s.c.subs ≤ hasN s q.who then (s, 25)
  else if s.c.slots ≤ s.bs.length then (s, 20)
  else ({ s with bs := ins s.bs (low (cB q.who q.track) s.bs) ⟨q.who, q.track, q.layer, q.tid, false⟩ }, 0)
def unsubscribeM (s : St) (q : Rq) : St × Int :=
  if has (cB q.who q.track) s.bs = false then (s, 21)
  else ({ s with bs := s.bs.eraseIdx (low (cB q.who q.track) s.bs) }, 0)
def mutesM (s : St) (q : Rq) (m : Bool) : St × Int :=
  if has (cB q.who q.track) s.bs = false then (s, 21)
  else if (subAt s q.who q.track).muted = m then (s, 23)
  else ({ s with bs := s.bs.set (low (cB q.who q.track) s.bs) { subAt s q.who q.track with muted := m } }, 0)
def selectsM (s : St) (q : Rq) : St × Int :=
  if has (cB q.who q.track) s.bs = false then (s, 21)
  else if layersM q = false then (s, 1)
  else ({ s with bs := s.bs.set (low (cB q.who q.track) s.bs) { subAt s q.who q.track with layer := q.layer, tid := q.tid } }, 0)
/-- the state behind a request, and the error -/
def doM (s : St) (q : Rq) : St × Int :=
  if q.kind < 0 ∨ 9 < q.kind then (s, 1)
  else if q.kind ≠ 0 ∧ has (cP q.who) s.ps = false then (s, 21)
  else if q.kind = 0 then joinM s q
  else if q.kind = 1 then leaveM s q
  else if q.kind = 2 then publishM s q
  else if q.kind = 3 then unpublishM s q
  else if q.kind = 4 then replaceM s q
  else if q.kind = 5 then subscribeM s q
  else if q.kind = 6 then unsubscribeM s q
  else if q.kind = 7 then mutesM s q true
  else if q.kind = 8 then mutesM s q false
  else selectsM s q

/-- what always holds of a state -/
structure Inv (s : St) : Prop where
  cp : 1 ≤ s.c.people ∧ s.c.people ≤ 16
  ct : 1 ≤ s.c.tracks ∧ s.c.tracks ≤ 16
  cs : 1 ≤ s.c.subs ∧ s.c.subs ≤ 16
  cl : 1 ≤ s.c.slots ∧ s.c.slots ≤ 64
  np : (s.ps.length : Int) ≤ s.c.people
  nt : (s.ts.length : Int) ≤ s.c.tracks
  nb : (s.bs.length : Int) ≤ s.c.slots
  up : UpP s.ps
  ut : UpT s.ts
  ub : UpB s.bs
  per : ∀ p, p ∈ s.ps → 1 ≤ p.who ∧ p.who ≤ 999 ∧ 1 ≤ p.room ∧ p.room ≤ 9 ∧ 0 ≤ p.rights ∧ p.rights ≤ 3
  trk : ∀ t, t ∈ s.ts → 1 ≤ t.id ∧ t.id ≤ 999 ∧ maySS t.ss = true
  own : ∀ t, t ∈ s.ts → ∃ p, p ∈ s.ps ∧ p.who = t.owner ∧ p.rights % 2 = 1
  one : s.ts.Pairwise (fun (x y : Trk) => ∀ a, a ∈ x.ss → ¬ a ∈ y.ss)
  sub : ∀ b, b ∈ s.bs → ∃ t p o, t ∈ s.ts ∧ t.id = b.track ∧ p ∈ s.ps ∧ p.who = b.who ∧ 2 ≤ p.rights ∧ o ∈ s.ps ∧ o.who = t.owner ∧ o.room = p.room
  few : ∀ w, (hasN s w : Int) ≤ s.c.subs
end Go.Proofs.Ytjcbaelefacolaa
/- What always holds of a state of the layer delta holds behind each request. Plain laws, no program in sight. -/
namespace Go.Proofs.Ytjcbaelefacolaa
open Go
set_option maxHeartbeats 400000

section
variable {α : Type}
theorem mem_set_or {l : List α} {i : Nat} {x y : α} (h : y ∈ l.set i x) : y = x ∨ y ∈ l := by
  induction l generalizing i with
  | nil => simp at h
  | cons a l ih =>
    cases i with
    | zero =>
      rw [List.set_cons_zero, List.mem_cons] at h
      exact h.imp id (fun h => List.mem_cons_of_mem _ h)
    | succ i =>
      rw [List.set_cons_succ, List.mem_cons] at h
      rcases h with h | h
      · exact .inr (by simp [h])
      · exact (ih h).imp id (fun h => List.mem_cons_of_mem _ h)
theorem pairwise_set {R : α → α → Prop} {l : List α} (h : l.Pairwise R) (i : Nat) (x : α) (h1 : ∀ y, y ∈ l → R x y) (h2 : ∀ y, y ∈ l → R y x) : (l.set i x).Pairwise R := by
  induction l generalizing i with
  | nil => simp
  | cons a l ih =>
    rw [List.pairwise_cons] at h
    cases i with
    | zero =>
      rw [List.set_cons_zero, List.pairwise_cons]
      exact ⟨fun y hy => h1 y (List.mem_cons_of_mem _ hy), h.2⟩
    | succ i =>
      rw [List.set_cons_succ, List.pairwise_cons]
      refine ⟨fun y hy => ?_, ih h.2 i (fun y hy => h1 y (List.mem_cons_of_mem _ hy)) (fun y hy => h2 y (List.mem_cons_of_mem _ hy))⟩
      rcases mem_set_or hy with rfl | hy
      · exact h2 a (by simp)
      · exact h.1 y hy
/-- as it was, but for what the relation does not see -/
theorem pairwise_set_like {R : α → α → Prop} {l : List α} (h : l.Pairwise R) (i : Nat) (x o : α) (ho : l[i]? = some o) (h1 : ∀ y, R o y → R x y) (h2 : ∀ y, R y o → R y x) : (l.set i x).Pairwise R := by
  induction l generalizing i with
  | nil => simp
  | cons a l ih =>
    rw [List.pairwise_cons] at h
    cases i with
    | zero =>
      obtain rfl : a = o := by simpa using ho
      rw [List.set_cons_zero, List.pairwise_cons]
      exact ⟨fun y hy => h1 y (h.1 y hy), h.2⟩
    | succ i =>
      have ho' : l[i]? = some o := by simpa using ho
      rw [List.set_cons_succ, List.pairwise_cons]
      refine ⟨fun y hy => ?_, ih h.2 i ho'⟩
      rcases mem_set_or hy with rfl | hy
      · exact h2 a (h.1 o (List.mem_of_getElem? ho'))
      · exact h.1 y hy
theorem rise_ins {R : α → α → Prop} {c : α → Int} {l : List α} (h : l.Pairwise R) (hr : Rise c l) (hn : has c l = false) (x : α) (h1 : ∀ y, y ∈ l → c y < 0 → R y x) (h2 : ∀ y, y ∈ l → 0 < c y → R x y) : (ins l (low c l) x).Pairwise R := by
  unfold ins
  have hno : ∀ y, y ∈ l → c y ≠ 0 := fun y hy hc => by
    have : has c l = true := by unfold has; rw [List.any_eq_true]; exact ⟨y, hy, by simpa using hc⟩
    rw [hn] at this; cases this
  rw [List.pairwise_append, List.pairwise_cons]
  refine ⟨h.sublist (List.take_sublist _ _), ⟨fun y hy => ?_, h.sublist (List.drop_sublist _ _)⟩, fun a ha b hb => ?_⟩
  · have hm := List.mem_of_mem_drop hy
    obtain ⟨k, hk⟩ := List.getElem?_of_mem hy
    rw [List.getElem?_drop] at hk
    have := (rise_low hr _ y hk).2.1 (by omega)
    have := hno y hm
    exact h2 y hm (by omega)
  · have ham := List.mem_of_mem_take ha
    obtain ⟨k, hk⟩ := List.getElem?_of_mem ha
    rw [List.getElem?_take] at hk
    split at hk
    · rename_i hlt
      have hca := (rise_low hr _ a hk).1 hlt
      rcases List.mem_cons.1 hb with rfl | hb
      · exact h1 a ham hca
      · have hsp : l.take (low c l) ++ l.drop (low c l) = l := List.take_append_drop _ _
        have hp := h
        rw [← hsp, List.pairwise_append] at hp
        exact hp.2.2 a ha b hb
    · cases hk
end
theorem hasP_iff {l : List Per} {who : Int} : has (cP who) l = true ↔ ∃ p, p ∈ l ∧ p.who = who := by
  unfold has cP
  rw [List.any_eq_true]
  constructor <;> rintro ⟨p, hp, h⟩ <;> refine ⟨p, hp, ?_⟩ <;> simpa [cmpI_zero] using h
theorem hasT_iff {l : List Trk} {id : Int} : has (cT id) l = true ↔ ∃ p, p ∈ l ∧ p.id = id := by
  unfold has cT
  rw [List.any_eq_true]
  constructor <;> rintro ⟨p, hp, h⟩ <;> refine ⟨p, hp, ?_⟩ <;> simpa [cmpI_zero] using h
theorem hasB_iff {l : List Sb} {w t : Int} : has (cB w t) l = true ↔ ∃ p, p ∈ l ∧ p.who = w ∧ p.track = t := by
  unfold has
  rw [List.any_eq_true]
  constructor <;> rintro ⟨p, hp, h⟩ <;> refine ⟨p, hp, ?_⟩ <;> simpa [cB_zero] using h
theorem per_at {s : St} (h : Inv s) {who : Int} (hh : has (cP who) s.ps = true) : s.ps[low (cP who) s.ps]? = some (perAt s who) ∧ (perAt s who).who = who ∧ perAt s who ∈ s.ps := by
  obtain ⟨x, hx, hc⟩ := (rise_has (h.up.rise who)).1 hh
  have e : perAt s who = x := by unfold perAt; rw [hx]; rfl
  rw [e]
  exact ⟨hx, cmpI_zero.1 hc, List.mem_of_getElem? hx⟩
theorem trk_at {s : St} (h : Inv s) {id : Int} (hh : has (cT id) s.ts = true) : s.ts[low (cT id) s.ts]? = some (trkAt s id) ∧ (trkAt s id).id = id ∧ trkAt s id ∈ s.ts := by
  obtain ⟨x, hx, hc⟩ := (rise_has (h.ut.rise id)).1 hh
  have e : trkAt s id = x := by unfold trkAt; rw [hx]; rfl
  rw [e]
  exact ⟨hx, cmpI_zero.1 hc, List.mem_of_getElem? hx⟩
theorem sub_at {s : St} (h : Inv s) {w t : Int} (hh : has (cB w t) s.bs = true) : s.bs[low (cB w t) s.bs]? = some (subAt s w t) ∧ (subAt s w t).who = w ∧ (subAt s w t).track = t ∧ subAt s w t ∈ s.bs := by
  obtain ⟨x, hx, hc⟩ := (rise_has (h.ub.rise w t)).1 hh
  have e : subAt s w t = x := by unfold subAt; rw [hx]; rfl
  rw [e]
  exact ⟨hx, (cB_zero.1 hc).1, (cB_zero.1 hc).2, List.mem_of_getElem? hx⟩
theorem upT_one {l : List Trk} (h : UpT l) {a b : Trk} (ha : a ∈ l) (hb : b ∈ l) (e : a.id = b.id) : a = b := by
  induction l with
  | nil => simp at ha
  | cons x l ih =>
    unfold UpT at h
    rw [List.pairwise_cons] at h
    rcases List.mem_cons.1 ha with ea | ha' <;> rcases List.mem_cons.1 hb with eb | hb'
    · rw [ea, eb]
    · have := h.1 b hb'; rw [ea] at e; omega
    · have := h.1 a ha'; rw [eb] at e; omega
    · exact ih h.2 ha' hb'
theorem upP_one {l : List Per} (h : UpP l) {a b : Per} (ha : a ∈ l) (hb : b ∈ l) (e : a.who = b.who) : a = b := by
  induction l with
  | nil => simp at ha
  | cons x l ih =>
    unfold UpP at h
    rw [List.pairwise_cons] at h
    rcases List.mem_cons.1 ha with ea | ha' <;> rcases List.mem_cons.1 hb with eb | hb'
    · rw [ea, eb]
    · have := h.1 b hb'; rw [ea] at e; omega
    · have := h.1 a ha'; rw [eb] at e; omega
    · exact ih h.2 ha' hb'
theorem taken_no {s : St} {l : List Int} (h : takenM s l = false) : ∀ t, t ∈ s.ts → ∀ a, a ∈ t.ss → ¬ a ∈ l := by
  intro t ht a ha hl
  have : takenM s l = true := by
    unfold takenM
    rw [List.any_eq_true]
    refine ⟨t, ht, ?_⟩
    rw [List.any_eq_true]
    exact ⟨a, ha, by simpa using hl⟩
  rw [h] at this; cases this

theorem inv_join {s : St} (h : Inv s) (q : Rq) : Inv (joinM s q).1 := by
  unfold joinM
  split
  · exact h
  rename_i hb
  split
  · exact h
  rename_i hh
  split
  · exact h
  rename_i hl
  have hh' : has (cP q.who) s.ps = false := by simpa using hh
  have hlo := low_le (cP q.who) s.ps
  exact { h with
    np := by dsimp only; rw [ins_length _ _ _ hlo]; omega
    up := rise_ins h.up (h.up.rise q.who) hh' _ (fun y _ hc => cmpI_neg.1 hc) (fun y _ hc => cmpI_pos.1 hc)
    per := fun p hp => by
      rcases mem_ins.1 hp with rfl | hp
      · dsimp only; omega
      · exact h.per p hp
    own := fun t ht => by
      obtain ⟨p, hp, e⟩ := h.own t ht
      exact ⟨p, mem_ins.2 (.inr hp), e⟩
    sub := fun b hb => by
      obtain ⟨t, p, o, h1, h2, h3, h4, h5, h6, h7⟩ := h.sub b hb
      exact ⟨t, p, o, h1, h2, mem_ins.2 (.inr h3), h4, h5, mem_ins.2 (.inr h6), h7⟩
    few := h.few }
theorem few_filter (l : List Sb) (f : Sb → Bool) (p : Sb → Bool) : (l.filter f).countP p ≤ l.countP p := List.Sublist.countP_le List.filter_sublist
/-- without some people, some tracks, their subs: whoever a track or a sub leans on stays -/
theorem inv_drop {s : St} (h : Inv s) (f : Per → Bool) (g : Sb → Bool) (is : Trk → Bool) (h1 : ∀ t, t ∈ s.ts → is t = false → ∀ p, p ∈ s.ps → p.who = t.owner → f p = true) (h2 : ∀ b, b ∈ s.bs → g b = true → ∀ p, p ∈ s.ps → p.who = b.who → f p = true) :
    Inv (dropM { s with ps := s.ps.filter f, bs := s.bs.filter g } is) := by
  unfold dropM
  exact { h with
    np := by have := h.np; have := List.length_filter_le f s.ps; dsimp only; omega
    nt := by have := h.nt; have := List.length_filter_le (fun t => !is t) s.ts; dsimp only; omega
    nb := by
      have := h.nb
      have := List.length_filter_le g s.bs
      have := List.length_filter_le (fun b => has (cT b.track) (s.ts.filter (fun t => !is t))) (s.bs.filter g)
      dsimp only; omega
    up := List.Pairwise.sublist List.filter_sublist h.up
    ut := List.Pairwise.sublist List.filter_sublist h.ut
    ub := List.Pairwise.sublist (List.filter_sublist.trans List.filter_sublist) h.ub
    per := fun p hp => h.per p (List.mem_filter.1 hp).1
    trk := fun t ht => h.trk t (List.mem_filter.1 ht).1
    own := fun t ht => by
      obtain ⟨ht, hi⟩ := List.mem_filter.1 ht
      obtain ⟨p, hp, e, hr⟩ := h.own t ht
      exact ⟨p, List.mem_filter.2 ⟨hp, h1 t ht (by simpa using hi) p hp e⟩, e, hr⟩
    one := List.Pairwise.sublist List.filter_sublist h.one
    sub := fun b hb => by
      obtain ⟨hb, ht⟩ := List.mem_filter.1 hb
      obtain ⟨hb, hg⟩ := List.mem_filter.1 hb
      obtain ⟨t, p, o, k1, k2, k3, k4, k5, k6, k7, k8⟩ := h.sub b hb
      obtain ⟨t', ht', he⟩ := hasT_iff.1 ht
      have hte : t' = t := upT_one h.ut (List.mem_filter.1 ht').1 k1 (by rw [he, k2])
      subst hte
      have hi := (List.mem_filter.1 ht').2
      exact ⟨t', p, o, ht', k2, List.mem_filter.2 ⟨k3, h2 b hb hg p k3 k4⟩, k4, k5, List.mem_filter.2 ⟨k6, h1 t' k1 (by simpa using hi) o k6 k7⟩, k7, k8⟩
    few := fun w => by
      have := h.few w
      unfold hasN at this ⊢
      dsimp only
      have := few_filter s.bs g (fun b => decide (b.who = w))
      have := few_filter (s.bs.filter g) (fun b => has (cT b.track) (s.ts.filter (fun t => !is t))) (fun b => decide (b.who = w))
      omega }
theorem inv_leave {s : St} (h : Inv s) (q : Rq) : Inv (leaveM s q).1 := by
  unfold leaveM
  refine inv_drop h _ _ _ (fun t _ hi p _ e => ?_) (fun b _ hg p _ e => ?_)
  · have : ¬ t.owner = q.who := by simpa using hi
    simp only [Bool.not_eq_true', decide_eq_false_iff_not]
    omega
  · have : ¬ b.who = q.who := by simpa using hg
    simp only [Bool.not_eq_true', decide_eq_false_iff_not]
    omega
theorem filter_all {α : Type} (l : List α) : l.filter (fun _ => true) = l := by simp
theorem inv_unpublish {s : St} (h : Inv s) (q : Rq) : Inv (unpublishM s q).1 := by
  unfold unpublishM
  split
  · exact h
  · have := inv_drop h (fun _ => true) (fun _ => true) (fun t => decide (t.id = q.track)) (fun _ _ _ _ _ _ => rfl) (fun _ _ _ _ _ _ => rfl)
    rw [filter_all, filter_all] at this
    exact this
theorem inv_publish {s : St} (h : Inv s) (q : Rq) (hh : has (cP q.who) s.ps = true) : Inv (publishM s q).1 := by
  unfold publishM
  split
  · exact h
  rename_i hr
  split
  · exact h
  rename_i hb
  split
  · exact h
  rename_i ht
  split
  · exact h
  rename_i hl
  have ht1 : has (cT q.track) s.ts = false := by cases hx : has (cT q.track) s.ts <;> simp_all
  have ht2 : takenM s q.ss = false := by cases hx : takenM s q.ss <;> simp_all
  have hm : maySS q.ss = true := by cases hx : maySS q.ss <;> simp_all
  have hlo := low_le (cT q.track) s.ts
  obtain ⟨_, hw, hp⟩ := per_at h hh
  have hno := taken_no ht2
  exact { h with
    nt := by dsimp only; rw [ins_length _ _ _ hlo]; omega
    ut := rise_ins h.ut (h.ut.rise q.track) ht1 _ (fun y _ hc => cmpI_neg.1 hc) (fun y _ hc => cmpI_pos.1 hc)
    trk := fun t ht => by
      rcases mem_ins.1 ht with rfl | ht
      · exact ⟨by dsimp only; omega, by dsimp only; omega, hm⟩
      · exact h.trk t ht
    own := fun t ht => by
      rcases mem_ins.1 ht with rfl | ht
      · exact ⟨_, hp, hw, by omega⟩
      · exact h.own t ht
    one := rise_ins h.one (h.ut.rise q.track) ht1 _ (fun y hy _ a ha => hno y hy a ha) (fun y hy _ a ha hb => hno y hy a hb ha)
    sub := fun b hb => by
      obtain ⟨t, p, o, h1, h2⟩ := h.sub b hb
      exact ⟨t, p, o, mem_ins.2 (.inr h1), h2⟩
    few := h.few }
theorem set_like {α : Type} {l : List α} {i : Nat} {o x : α} (f : α → Int) (h : l[i]? = some o) (e : f x = f o) : (l.set i x).map f = l.map f := by
  induction l generalizing i with
  | nil => simp
  | cons a l ih =>
    cases i with
    | zero =>
      obtain rfl : a = o := by simpa using h
      simp [e]
    | succ i => simp [ih (by simpa using h)]
/-- a track with other SSRCs -/
theorem inv_set_trk {s : St} (h : Inv s) (i : Nat) (o x : Trk) (ho : s.ts[i]? = some o) (e1 : x.id = o.id) (e2 : x.owner = o.owner) (hm : maySS x.ss = true) (hno : ∀ t, t ∈ s.ts → ∀ a, a ∈ t.ss → ¬ a ∈ x.ss) : Inv { s with ts := s.ts.set i x } := by
  have hom := List.mem_of_getElem? ho
  exact { h with
    nt := by have := h.nt; dsimp only; rw [List.length_set]; exact this
    ut := pairwise_set_like h.ut i x o ho (fun y hy => by rw [e1]; exact hy) (fun y hy => by rw [e1]; exact hy)
    trk := fun t ht => by
      rcases mem_set_or ht with rfl | ht
      · have := h.trk o hom
        exact ⟨by rw [e1]; omega, by rw [e1]; omega, hm⟩
      · exact h.trk t ht
    own := fun t ht => by
      rcases mem_set_or ht with rfl | ht
      · rw [e2]; exact h.own o hom
      · exact h.own t ht
    one := pairwise_set h.one i x (fun y hy a ha hb => hno y hy a hb ha) (fun y hy a ha => hno y hy a ha)
    sub := fun b hb => by
      obtain ⟨t, p, q, h1, h2, h3, h4, h5, h6, h7, h8⟩ := h.sub b hb
      obtain ⟨k, hk⟩ := List.getElem?_of_mem h1
      by_cases hki : i = k
      · subst hki
        rw [ho] at hk
        obtain rfl : o = t := by simpa using hk
        have hlt := (List.getElem?_eq_some_iff.1 ho).1
        exact ⟨x, p, q, List.mem_of_getElem? (List.getElem?_set_self hlt), by rw [e1]; exact h2, h3, h4, h5, h6, by rw [e2]; exact h7, h8⟩
      · exact ⟨t, p, q, List.mem_of_getElem? (i := k) (by rw [List.getElem?_set_ne hki]; exact hk), h2, h3, h4, h5, h6, h7, h8⟩
    few := h.few }
theorem own_ok {s : St} (h : Inv s) {q : Rq} (ho : ownM s q = 0) : has (cT q.track) s.ts = true ∧ (trkAt s q.track).owner = q.who := by
  unfold ownM at ho
  split at ho
  · cases ho
  · split at ho
    · cases ho
    · rename_i h1 h2
      exact ⟨by simpa using h1, by simpa using h2⟩
theorem inv_replace {s : St} (h : Inv s) (q : Rq) : Inv (replaceM s q).1 := by
  unfold replaceM
  split
  · exact h
  rename_i ho
  split
  · exact h
  rename_i hm
  split
  · exact h
  rename_i ht
  obtain ⟨h1, h2⟩ := own_ok h (q := q) (by omega)
  obtain ⟨k1, k2, k3⟩ := trk_at h h1
  exact inv_set_trk h _ _ _ k1 rfl rfl (by simpa using hm) (taken_no (by simpa using ht))
theorem inv_subscribe {s : St} (h : Inv s) (q : Rq) (hh : has (cP q.who) s.ps = true) : Inv (subscribeM s q).1 := by
  unfold subscribeM
  split
  · exact h
  rename_i hr
  split
  · exact h
  rename_i ht
  split
  · exact h
  rename_i hroom
  split
  · exact h
  rename_i htw
  split
  · exact h
  split
  · exact h
  rename_i hq
  split
  · exact h
  rename_i hl
  obtain ⟨_, hw, hp⟩ := per_at h hh
  obtain ⟨_, hti, htm⟩ := trk_at h (id := q.track) (by simpa using ht)
  obtain ⟨o, ho, hoe, _⟩ := h.own _ htm
  have hoh : has (cP (trkAt s q.track).owner) s.ps = true := hasP_iff.2 ⟨o, ho, hoe⟩
  obtain ⟨_, how, hop⟩ := per_at h hoh
  have hpr := h.per _ hp
  have hlo := low_le (cB q.who q.track) s.bs
  exact { h with
    nb := by dsimp only; rw [ins_length _ _ _ hlo]; omega
    ub := rise_ins h.ub (h.ub.rise q.who q.track) (by simpa using htw) _ (fun y _ hc => by have := cB_neg.1 hc; unfold ltB; dsimp only; omega) (fun y hy hc => by
      have : ¬ cB q.who q.track y ≤ 0 := by omega
      rw [cB_le] at this
      unfold ltB; dsimp only; omega)
    sub := fun b hb => by
      rcases mem_ins.1 hb with rfl | hb
      · exact ⟨_, _, _, htm, hti, hp, hw, by omega, hop, how, by omega⟩
      · exact h.sub b hb
    few := fun w => by
      have := h.few w
      unfold hasN at this hq ⊢
      dsimp only
      rw [(ins_perm _ _ _).countP_eq, List.countP_cons]
      dsimp only
      split
      · rename_i e
        have e : q.who = w := by simpa using e
        rw [e] at hq
        omega
      · omega }
/-- a sub, muted or of other layers -/
theorem inv_set_sub {s : St} (h : Inv s) (i : Nat) (o x : Sb) (ho : s.bs[i]? = some o) (e1 : x.who = o.who) (e2 : x.track = o.track) : Inv { s with bs := s.bs.set i x } := by
  have hom := List.mem_of_getElem? ho
  exact { h with
    nb := by have := h.nb; dsimp only; rw [List.length_set]; exact this
    ub := pairwise_set_like h.ub i x o ho (fun y hy => by unfold ltB at *; rw [e1, e2]; exact hy) (fun y hy => by unfold ltB at *; rw [e1, e2]; exact hy)
    sub := fun b hb => by
      rcases mem_set_or hb with rfl | hb
      · rw [e1, e2]; exact h.sub o hom
      · exact h.sub b hb
    few := fun w => by
      have := h.few w
      have e : ∀ l : List Sb, l.countP (fun b => decide (b.who = w)) = (l.map (·.who)).countP (fun a => decide (a = w)) := fun l => by rw [List.countP_map]; rfl
      unfold hasN at this ⊢
      dsimp only
      rw [e, set_like (·.who) ho e1, ← e]
      exact this }
theorem inv_mutes {s : St} (h : Inv s) (q : Rq) (m : Bool) : Inv (mutesM s q m).1 := by
  unfold mutesM
  split
  · exact h
  rename_i hh
  split
  · exact h
  obtain ⟨k, _⟩ := sub_at h (w := q.who) (t := q.track) (by simpa using hh)
  exact inv_set_sub h _ _ _ k rfl rfl
theorem inv_selects {s : St} (h : Inv s) (q : Rq) : Inv (selectsM s q).1 := by
  unfold selectsM
  split
  · exact h
  rename_i hh
  split
  · exact h
  obtain ⟨k, _⟩ := sub_at h (w := q.who) (t := q.track) (by simpa using hh)
  exact inv_set_sub h _ _ _ k rfl rfl
theorem inv_unsubscribe {s : St} (h : Inv s) (q : Rq) : Inv (unsubscribeM s q).1 := by
  unfold unsubscribeM
  split
  · exact h
  have hs := List.eraseIdx_sublist s.bs (low (cB q.who q.track) s.bs)
  exact { h with
    nb := by have := h.nb; have := hs.length_le; dsimp only; omega
    ub := List.Pairwise.sublist hs h.ub
    sub := fun b hb => h.sub b (hs.subset hb)
    few := fun w => by
      have := h.few w
      unfold hasN at this ⊢
      dsimp only
      have := hs.countP_le (p := fun b => decide (b.who = w))
      omega }
theorem inv_do {s : St} (h : Inv s) (q : Rq) : Inv (doM s q).1 := by
  unfold doM
  split
  · exact h
  split
  · exact h
  rename_i h1 h2
  have hh : q.kind ≠ 0 → has (cP q.who) s.ps = true := fun hk => by
    cases hx : has (cP q.who) s.ps
    · exact absurd ⟨hk, hx⟩ h2
    · rfl
  split
  · exact inv_join h q
  rename_i h0
  split
  · exact inv_leave h q
  split
  · exact inv_publish h q (hh h0)
  split
  · exact inv_unpublish h q
  split
  · exact inv_replace h q
  split
  · exact inv_subscribe h q (hh h0)
  split
  · exact inv_unsubscribe h q
  split
  · exact inv_mutes h q true
  split
  · exact inv_mutes h q false
  · exact inv_selects h q
/-- a state without anybody -/
def newM (c : Cf) : St := ⟨c, [], [], []⟩
theorem inv_new (c : Cf) (h1 : 1 ≤ c.people ∧ c.people ≤ 16) (h2 : 1 ≤ c.tracks ∧ c.tracks ≤ 16) (h3 : 1 ≤ c.subs ∧ c.subs ≤ 16) (h4 : 1 ≤ c.slots ∧ c.slots ≤ 64) : Inv (newM c) where
  cp := h1
  ct := h2
  cs := h3
  cl := h4
  np := by unfold newM; simp; omega
  nt := by unfold newM; simp; omega
  nb := by unfold newM; simp; omega
  up := List.Pairwise.nil
  ut := List.Pairwise.nil
  ub := List.Pairwise.nil
  per := fun _ h => by cases h
  trk := fun _ h => by cases h
  own := fun _ h => by cases h
  one := List.Pairwise.nil
  sub := fun _ h => by cases h
  few := fun w => by unfold hasN newM; simp; omega
end Go.Proofs.Ytjcbaelefacolaa
/- A slice whose cells lie in blocks between two bounds. Plain laws on worlds. -/
namespace Go.Proofs.Ytjcbaelefacolaa
open Go Go.RowKit

/-- A slice whose cells lie in blocks from lo to hi. -/
def CellsIn (w : World) (lo hi size : Nat) (A : Option Addr) (n : Nat) (xs : List Value) : Prop :=
  xs.length = n * size ∧ (0 < n → ∃ b off, A = some ⟨b, off, none⟩ ∧ lo ≤ b ∧ b < hi ∧ ∀ (j : Nat) (u : Value), xs[j]? = some u → w.cell? ⟨b, off + j, none⟩ = some u)
section
variable {w w' : World} {lo hi size n : Nat} {A : Option Addr} {xs : List Value}
theorem CellsIn.upd {S : List Nat} (h : CellsIn w lo hi size A n xs) (u : Upd S w w') (hh : hi ≤ w.heap.size) (hS : ∀ s, s ∈ S → s < lo ∨ hi ≤ s) : CellsIn w' lo hi size A n xs :=
  ⟨h.1, fun hn => by
    obtain ⟨b, off, e, h1, h2, hc⟩ := h.2 hn
    exact ⟨b, off, e, h1, h2, fun j v hv => (u.cell (p := ⟨b, off + j, none⟩) (Nat.lt_of_lt_of_le h2 hh) (fun hb => by have := hS b hb; omega)).trans (hc j v hv)⟩⟩
theorem CellsIn.below {B : Nat} (h : CellsIn w lo hi size A n xs) (u : Below B w w') (hh : hi ≤ B) : CellsIn w' lo hi size A n xs :=
  ⟨h.1, fun hn => by
    obtain ⟨b, off, e, h1, h2, hc⟩ := h.2 hn
    exact ⟨b, off, e, h1, h2, fun j v hv => (u.cell (p := ⟨b, off + j, none⟩) (Nat.lt_of_lt_of_le h2 hh)).trans (hc j v hv)⟩⟩
theorem CellsIn.more {lo' hi' : Nat} (h : CellsIn w lo hi size A n xs) (h1 : lo' ≤ lo) (h2 : hi ≤ hi') : CellsIn w lo' hi' size A n xs :=
  ⟨h.1, fun hn => by
    obtain ⟨b, off, e, h3, h4, hc⟩ := h.2 hn
    exact ⟨b, off, e, by omega, by omega, hc⟩⟩
theorem CellsIn.nil (w : World) (lo hi size : Nat) (A : Option Addr) : CellsIn w lo hi size A 0 [] := ⟨by simp, fun h => absurd h (Nat.lt_irrefl 0)⟩
theorem CellsIn.of_own {e : TypeId} {c : Nat} (h : w.ownsRow lo e size (.slice A n c) n xs) : CellsIn w lo w.heap.size size A n xs := by
  refine ⟨h.1, fun hn => ?_⟩
  obtain ⟨A', c', hv, _, hA, _⟩ := own_form h
  injection hv with h1 h2 h3
  subst h1
  obtain ⟨g, hg, hlo, hlt⟩ := hA hn
  subst hg
  refine ⟨g, 0, rfl, hlo, hlt, fun j u hu => ?_⟩
  have := h.cells (g := g) rfl j u hu
  rw [Nat.zero_add]
  by_cases hj : j = 0
  · subst hj; simpa [Addr.add] using this
  · simpa [Addr.add, hj] using this
/-- the slice lies in blocks from lo on -/
theorem CellsIn.fresh (h : CellsIn w lo hi size A n xs) (hn : 0 < n) : ∀ a, A = some a → lo ≤ a.block := by
  intro a ha
  obtain ⟨b, off, e, h1, _, _⟩ := h.2 hn
  rw [ha] at e
  obtain rfl := Option.some.inj e
  exact h1
/-- as '.upd', block by block -/
theorem CellsIn.upd2 {S : List Nat} (h : CellsIn w lo hi size A n xs) (u : Upd S w w') (hh : hi ≤ w.heap.size) (hS : ∀ s, s ∈ S → 0 < n → ∀ a, A = some a → a.block ≠ s) : CellsIn w' lo hi size A n xs :=
  ⟨h.1, fun hn => by
    obtain ⟨b, off, e, h1, h2, hc⟩ := h.2 hn
    exact ⟨b, off, e, h1, h2, fun j v hv => (u.cell (p := ⟨b, off + j, none⟩) (Nat.lt_of_lt_of_le h2 hh) (fun hb => hS b hb hn _ e rfl)).trans (hc j v hv)⟩⟩
/-- what an append wants of its source -/
theorem CellsIn.src (h : CellsIn w lo hi size A n xs) : ∀ ad, A = some ad → ∀ (j : Nat) (u : Value), xs[j]? = some u → w.cell? (ad.add j) = some u := by
  intro ad had j u hu
  have hj := (List.getElem?_eq_some_iff.1 hu).1
  have hn : 0 < n := by
    rcases Nat.eq_zero_or_pos n with h0 | h0
    · have := h.1; rw [h0, Nat.zero_mul] at this; omega
    · exact h0
  obtain ⟨b, off, e, _, _, hc⟩ := h.2 hn
  rw [had] at e
  injection e with e
  subst e
  have := hc j u hu
  unfold Addr.add
  by_cases hj0 : j = 0
  · subst hj0; simpa using this
  · simpa [hj0] using this
end

theorem own_cap {w : World} {B : Nat} {e : TypeId} {size n c : Nat} {A : Option Addr} {xs : List Value} (h : w.ownsRow B e size (.slice A n c) n xs) : c ≤ 9223372036854775807 := by
  rcases h.2 with ⟨hv, _⟩ | ⟨g, cap, cur, hv, _, _, _, hm, _⟩
  · injection hv with _ _ h3; omega
  · injection hv with _ _ h3; rw [h3]; exact hm

theorem bodyPost_res {P : Program} {fn : Func} {R : Ending → World → Prop} {a : Act} {w : World} {v : Value} (h : (results fn a.tmps).run P w = .ok v w) (hd : a.defers = []) (hR : R (.returned v) w) : bodyPost P fn R .ret a w :=
  bodyPost_ret h hd hR
end Go.Proofs.Ytjcbaelefacolaa
/- The layer delta: how its values lie in memory. -/
namespace Go.Proofs.Ytjcbaelefacolaa
open Go Go.RowKit
set_option maxHeartbeats 400000

def encP (p : Per) : List Value := [.int .i64 p.who, .int .i64 p.room, .int .i64 p.rights]
/-- where a track's SSRCs lie -/
structure SH where
  A : Option Addr
  c : Nat
def encT (x : Trk × SH) : List Value := [.int .i64 x.1.id, .int .i64 x.1.owner, .int .i64 x.1.frm, .slice x.2.A x.1.ss.length x.2.c]
def encB (b : Sb) : List Value := [.int .i64 b.who, .int .i64 b.track, .int .i64 b.layer, .int .i64 b.tid, .bool b.muted]
theorem encP_len (p : Per) : (encP p).length = 3 := rfl
theorem encT_len (x : Trk × SH) : (encT x).length = 4 := rfl
theorem encB_len (b : Sb) : (encB b).length = 5 := rfl
theorem encP_one (p : Per) : ∀ v, v ∈ encP p → v.oneCell' = true := by intro v hv; unfold encP at hv; repeat (first | (rcases List.mem_cons.1 hv with rfl | hv; · rfl) | cases hv)
theorem encT_one (x : Trk × SH) : ∀ v, v ∈ encT x → v.oneCell' = true := by intro v hv; unfold encT at hv; repeat (first | (rcases List.mem_cons.1 hv with rfl | hv; · rfl) | cases hv)
theorem encB_one (b : Sb) : ∀ v, v ∈ encB b → v.oneCell' = true := by intro v hv; unfold encB at hv; repeat (first | (rcases List.mem_cons.1 hv with rfl | hv; · rfl) | cases hv)
theorem flat_ones {α : Type} {f : α → List Value} (h : ∀ x, ∀ v, v ∈ f x → v.oneCell' = true) (l : List α) : ∀ v ∈ l.flatMap f, v.oneCell' = true := by
  intro v hv
  obtain ⟨x, _, hx⟩ := List.mem_flatMap.1 hv
  exact h x v hx
theorem infoP : (Try.prog.info? 75).map (fun i => (i.zero, i.size, i.bytes)) = some (some (.agg #[.int .i64 0, .int .i64 0, .int .i64 0]), 3, 24) := by kernel_rfl
theorem infoT : (Try.prog.info? 76).map (fun i => (i.zero, i.size, i.bytes)) = some (some (.agg #[.int .i64 0, .int .i64 0, .int .i64 0, .slice none 0 0]), 4, 48) := by kernel_rfl
theorem infoS : (Try.prog.info? 55).map (fun i => (i.zero, i.size, i.bytes)) = some (some (.agg #[.int .i64 0, .int .i64 0, .int .i64 0, .int .i64 0, .bool false]), 5, 40) := by kernel_rfl
theorem infoU : (Try.prog.info? 64).map (fun i => (i.zero, i.size, i.bytes)) = some (some (.int .u32 0), 1, 4) := by kernel_rfl

/-- a slice in memory: where its cells lie, and its capacity -/
structure RwIn (w : World) (lo size : Nat) (A : Option Addr) (n c : Nat) (xs : List Value) : Prop where
  l : CellsIn w lo w.heap.size size A n xs
  nl : A = none → n = 0 ∧ c = 0
  le : n ≤ c
  cm : c ≤ 9223372036854775807
theorem RwIn.upd {w w' : World} {lo size n c : Nat} {A : Option Addr} {xs : List Value} (h : RwIn w lo size A n c xs) (u : Upd [] w w') : RwIn w' lo size A n c xs :=
  ⟨(h.l.upd2 u (Nat.le_refl _) (by simp)).more (Nat.le_refl _) u.size, h.nl, h.le, h.cm⟩
theorem RwIn.more {w : World} {lo lo' size n c : Nat} {A : Option Addr} {xs : List Value} (h : RwIn w lo size A n c xs) (hl : lo' ≤ lo) : RwIn w lo' size A n c xs := ⟨h.l.more hl (Nat.le_refl _), h.nl, h.le, h.cm⟩
theorem RwIn.of_own {w : World} {B size n c : Nat} {e : TypeId} {A : Option Addr} {xs : List Value} (h : w.ownsRow B e size (.slice A n c) n xs) : RwIn w B size A n c xs := by
  obtain ⟨A', c', hv, hc, _, hn⟩ := own_form h
  injection hv with e1 _ e3
  subst e1
  subst e3
  exact ⟨CellsIn.of_own h, hn, hc, own_cap h⟩
/-- where the rows of a state lie -/
structure SHd where
  pA : Option Addr
  pc : Nat
  tx : List (Trk × SH)
  tA : Option Addr
  tc : Nat
  bA : Option Addr
  bc : Nat
def scells (s : St) (h : SHd) : List Value := [.int .i64 s.c.people, .int .i64 s.c.tracks, .int .i64 s.c.subs, .int .i64 s.c.slots, .slice h.pA s.ps.length h.pc, .slice h.tA s.ts.length h.tc, .slice h.bA s.bs.length h.bc]
/-- a state in memory -/
structure StIn (w : World) (s : St) (h : SHd) : Prop where
  p : RwIn w 0 3 h.pA s.ps.length h.pc (s.ps.flatMap encP)
  t : RwIn w 0 4 h.tA s.ts.length h.tc (h.tx.flatMap encT)
  b : RwIn w 0 5 h.bA s.bs.length h.bc (s.bs.flatMap encB)
  tx : h.tx.map (·.1) = s.ts
  ss : ∀ x, x ∈ h.tx → RwIn w 0 1 x.2.A x.1.ss.length x.2.c (x.1.ss.map (Value.int .u32))
theorem StIn.upd {w w' : World} {s : St} {h : SHd} (k : StIn w s h) (u : Upd [] w w') : StIn w' s h :=
  ⟨k.p.upd u, k.t.upd u, k.b.upd u, k.tx, fun x hx => (k.ss x hx).upd u⟩
def qcells (q : Rq) (h : SH) : List Value := [.int .i64 q.kind, .int .i64 q.who, .int .i64 q.room, .int .i64 q.rights, .int .i64 q.track, .slice h.A q.ss.length h.c, .int .i64 q.layer, .int .i64 q.tid]
/-- the rows of a state, the call's own from block B on -/
structure TR (w : World) (B : Nat) (s : St) (h : SHd) : Prop where
  p : w.ownsRow B 75 3 (.slice h.pA s.ps.length h.pc) s.ps.length (s.ps.flatMap encP)
  t : w.ownsRow B 76 4 (.slice h.tA s.ts.length h.tc) s.ts.length (h.tx.flatMap encT)
  b : w.ownsRow B 55 5 (.slice h.bA s.bs.length h.bc) s.bs.length (s.bs.flatMap encB)
  tx : h.tx.map (·.1) = s.ts
  ss : ∀ x, x ∈ h.tx → w.ownsRow B 64 1 (.slice x.2.A x.1.ss.length x.2.c) x.1.ss.length (x.1.ss.map (Value.int .u32))
theorem TR.upd {w w' : World} {B : Nat} {s : St} {h : SHd} (k : TR w B s h) (u : Upd [] w w') : TR w' B s h :=
  ⟨ownsRow_upd k.p u (by simp), ownsRow_upd k.t u (by simp), ownsRow_upd k.b u (by simp), k.tx, fun x hx => ownsRow_upd (k.ss x hx) u (by simp)⟩
theorem TR.st {w : World} {B : Nat} {s : St} {h : SHd} (k : TR w B s h) : StIn w s h :=
  ⟨(RwIn.of_own k.p).more (Nat.zero_le _), (RwIn.of_own k.t).more (Nat.zero_le _), (RwIn.of_own k.b).more (Nat.zero_le _), k.tx, fun x hx => (RwIn.of_own (k.ss x hx)).more (Nat.zero_le _)⟩
/-- a state in a box, its rows the call's own from block B on -/
structure TIn (w : World) (B T : Nat) (s : St) (h : SHd) : Prop where
  box : Blk w T 31 (scells s h).toArray
  BT : B ≤ T
  r : TR w B s h
theorem TIn.upd {w w' : World} {B T : Nat} {s : St} {h : SHd} (k : TIn w B T s h) (u : Upd [] w w') : TIn w' B T s h := ⟨k.box.upd u (by simp), k.BT, k.r.upd u⟩
theorem own_lower {w : World} {B B' size n : Nat} {e : TypeId} {v : Value} {xs : List Value} (h : w.ownsRow B e size v n xs) (hb : B' ≤ B) : w.ownsRow B' e size v n xs :=
  ⟨h.1, h.2.imp id fun ⟨g, cap, cur, hv, hg, r⟩ => ⟨g, cap, cur, hv, Nat.le_trans hb hg, r⟩⟩
theorem own_addr {w : World} {B size n c : Nat} {e : TypeId} {a : Addr} {xs : List Value} (h : w.ownsRow B e size (.slice (some a) n c) n xs) : a.spot = none ∧ a.off = 0 := by
  rcases h.2 with ⟨hv, _⟩ | ⟨g, cap, cur, hv, _⟩
  · injection hv with hv; cases hv
  · injection hv with hv
    injection hv with hv
    rw [hv]
    exact ⟨rfl, rfl⟩
/-- the type of the block of an own row -/
theorem own_type {w : World} {B size n : Nat} {e : TypeId} {v : Value} {xs : List Value} (h : w.ownsRow B e size v n xs) {g : Nat} (hg : v.ownBlock = some g) : ∃ cur, w.heap[g]? = some (.cells cur e (0, 0)) := by
  rcases h.2 with ⟨hv, _⟩ | ⟨g', cap, cur, hv, hb, hh, _⟩
  · rw [hv] at hg; simp [Value.ownBlock] at hg
  · rw [hv] at hg
    have : g' = g := by simpa [Value.ownBlock] using hg
    subst this
    exact ⟨cur, hh⟩
/-- rows of two types share no block -/
theorem own_apart {w : World} {B B' size size' n n' : Nat} {e e' : TypeId} {v v' : Value} {xs xs' : List Value} (h : w.ownsRow B e size v n xs) (h' : w.ownsRow B' e' size' v' n' xs') (hne : e ≠ e') {g : Nat} (hg : v.ownBlock = some g) : v'.ownBlock ≠ some g := by
  intro hg'
  obtain ⟨c1, h1⟩ := own_type h hg
  obtain ⟨c2, h2⟩ := own_type h' hg'
  rw [h1] at h2
  injection h2 with h2
  injection h2 with _ h2
  exact hne h2
theorem own_box {w : World} {B size n T : Nat} {e e' : TypeId} {v : Value} {xs : List Value} {cs : Array Value} (h : w.ownsRow B e size v n xs) (h' : Blk w T e' cs) (hne : e ≠ e') : v.ownBlock ≠ some T := by
  intro hg
  obtain ⟨c1, h1⟩ := own_type h hg
  have h2 : w.heap[T]? = some (.cells cs e' (0, 0)) := h'
  rw [h1] at h2
  injection h2 with h2
  injection h2 with _ h2
  exact hne h2
end Go.Proofs.Ytjcbaelefacolaa
/- The first place at which something is so. Plain laws on lists. -/
namespace Go.Proofs.Ytjcbaelefacolaa
open Go

section
variable {α : Type}
def idxM (p : α → Bool) (R : List α) : Int := match R.findIdx? p with
  | some i => (i : Int)
  | none => -1
theorem idxM_no {p : α → Bool} {R : List α} (h : ∀ x, x ∈ R → p x = false) : idxM p R = -1 := by
  unfold idxM
  rw [List.findIdx?_eq_none_iff.2 h]
theorem idxM_at {p : α → Bool} {R : List α} {k : Nat} {x : α} (hx : R[k]? = some x) (hp : p x = true) (h : ∀ y, y ∈ R.take k → p y = false) : idxM p R = (k : Int) := by
  have hk := (List.getElem?_eq_some_iff.1 hx).1
  have e : R.findIdx? p = some k := by
    rw [List.findIdx?_eq_some_iff_getElem]
    refine ⟨hk, ?_, fun j hj => ?_⟩
    · rw [(List.getElem?_eq_some_iff.1 hx).2]; exact hp
    · have := h R[j] (List.mem_take_iff_getElem.2 ⟨j, by rw [Nat.lt_min]; exact ⟨hj, by omega⟩, rfl⟩)
      simpa using this
  unfold idxM
  rw [e]
theorem idxM_any {p : α → Bool} {R : List α} : (0 ≤ idxM p R) ↔ R.any p = true := by
  unfold idxM
  cases h : R.findIdx? p with
  | none =>
    rw [List.findIdx?_eq_none_iff] at h
    constructor
    · intro h'; simp at h'
    · intro h'
      obtain ⟨x, hx, hp⟩ := List.any_eq_true.1 h'
      rw [h x hx] at hp; cases hp
  | some i =>
    rw [List.findIdx?_eq_some_iff_getElem] at h
    obtain ⟨hi, hp, _⟩ := h
    exact ⟨fun _ => List.any_eq_true.2 ⟨_, List.getElem_mem hi, hp⟩, fun _ => by simp⟩
theorem idxM_or (p : α → Bool) (R : List α) : (idxM p R = -1 ∧ ∀ x, x ∈ R → p x = false) ∨ ∃ (i : Nat) (x : α), idxM p R = (i : Int) ∧ i < R.length ∧ R[i]? = some x ∧ p x = true ∧ ∀ y, y ∈ R.take i → p y = false := by
  unfold idxM
  cases h : R.findIdx? p with
  | none => exact .inl ⟨rfl, List.findIdx?_eq_none_iff.1 h⟩
  | some i =>
    rw [List.findIdx?_eq_some_iff_getElem] at h
    obtain ⟨hi, hp, hall⟩ := h
    refine .inr ⟨i, R[i], rfl, hi, List.getElem?_eq_getElem hi, hp, fun y hy => ?_⟩
    obtain ⟨j, hj, e⟩ := List.mem_take_iff_getElem.1 hy
    have := hall j (by omega)
    rw [← e]
    simpa using this
end
def encU (x : Int) : List Value := [.int .u32 x]
theorem encU_len (x : Int) : (encU x).length = 1 := rfl
theorem flatU (l : List Int) : l.flatMap encU = l.map (Value.int .u32) := by
  induction l with
  | nil => rfl
  | cons x l ih => rw [List.flatMap_cons, List.map_cons, ih]; rfl
end Go.Proofs.Ytjcbaelefacolaa
/- slices.IndexFunc at louver/delta.Sub, by the function value (*louver/delta.State).leave$2: the first place. Conditions: what the function value answers; no more than 100000. -/
namespace Go.Proofs.Ytjcbaelefacolaa
open Go Go.RowKit
set_option maxHeartbeats 400000

set_option maxRecDepth 100000 in
theorem idxS2_any {w : World} {A : Option Addr} {n c : Nat} {R : List Sb} (p : Sb → Bool) (z : Option Addr) (h : CellsIn w 0 w.heap.size 5 A n (R.flatMap encB)) (hn : R.length = n) (hl : n ≤ 100000)
    (hp : ∀ W, Upd [] w W → ∀ x, x ∈ R → Calls Try.prog 52 #[.agg (encB x).toArray, .pointer z] W fun e W' => e = .returned (.bool (p x)) ∧ Upd [] W W') :
    Calls Try.prog 73 #[.slice A n c, .func (.func 52) #[] #[.pointer z]] w fun e w' => e = .returned (.int .i64 (idxM p R)) ∧ Upd [] w w' := by
  have HC := Lib.hid h
  have HN := Lib.hid hn
  have HP := Lib.hid hp
  obtain ⟨r, hr⟩ : ∃ r, r = idxM p R := ⟨_, rfl⟩
  rw [← hr]
  have HR := Lib.hid hr
  clear h hn hp hr
  go_enter Try.func73, Try.ntmps73
  go_wp2
  go_loopg [8] n (fun gk x8 wr => ∃ k : Nat, k ≤ n ∧ n ≤ k + gk ∧ x8 = .int .i64 k ∧ (∀ x, x ∈ R.take k → p x = false) ∧ Upd [] w wr)
  case atStart => exact ⟨0, Nat.zero_le _, by omega, rfl, by simp, Upd.refl _ _⟩
  case round =>
    obtain ⟨k, hk, hgk, rfl, hall, hu⟩ := hrel
    by_cases hlt : k < n
    · have hlti : (k : Int) < (n : Int) := by omega
      have hw : IntKind.i64.wrap ((k : Int) + 1) = (k : Int) + 1 := IntWalk.i64_in _ (by omega)
      obtain ⟨x, hx⟩ : ∃ x, R[k]? = some x := ⟨_, List.getElem?_eq_getElem (by rw [HN.out]; exact hlt)⟩
      obtain ⟨b, off, rfl, _, hb, hcc⟩ := HC.out.2 (by omega)
      have HCL := Lib.hid (HP.out wr hu x (List.mem_of_getElem? hx))
      obtain ⟨y, hy⟩ : ∃ y, y = p x := ⟨_, rfl⟩
      rw [← hy] at HCL
      have HX : Hid (y = true → r = (k : Int)) := Lib.hid (fun h => by
        rw [HR.out]
        exact idxM_at hx (by rw [← hy]; exact h) hall)
      have HALL : Hid (y = false → ∀ x, x ∈ R.take (k + 1) → p x = false) := Lib.hid (fun h a ha => by
        rw [List.take_add_one, hx, List.mem_append] at ha
        rcases ha with ha | ha
        · exact hall a ha
        · simp at ha
          rw [ha, ← hy]; exact h)
      have c0 := (hu.cell (p := ⟨b, off + (k * 5 + 0), none⟩) hb (by simp)).trans (hcc (k * 5 + 0) _ (flat_get encB_len R k 0 x hx (by omega)))
      have c1 := (hu.cell (p := ⟨b, off + (k * 5 + 1), none⟩) hb (by simp)).trans (hcc (k * 5 + 1) _ (flat_get encB_len R k 1 x hx (by omega)))
      have c2 := (hu.cell (p := ⟨b, off + (k * 5 + 2), none⟩) hb (by simp)).trans (hcc (k * 5 + 2) _ (flat_get encB_len R k 2 x hx (by omega)))
      have c3 := (hu.cell (p := ⟨b, off + (k * 5 + 3), none⟩) hb (by simp)).trans (hcc (k * 5 + 3) _ (flat_get encB_len R k 3 x hx (by omega)))
      have c4 := (hu.cell (p := ⟨b, off + (k * 5 + 4), none⟩) hb (by simp)).trans (hcc (k * 5 + 4) _ (flat_get encB_len R k 4 x hx (by omega)))
      obtain ⟨x0, x1, x2, x3, x4⟩ := x
      simp only [encB, List.getElem?_cons_zero, List.getElem?_cons_succ, List.getElem_cons_zero, List.getElem_cons_succ, ← Nat.add_assoc, Nat.add_zero] at c0 c1 c2 c3 c4
      simp only [encB] at HCL
      have HU := Lib.hid hu
      clear hall hu hx hb hcc hy
      go_wp2_with fail
      refine HCL.out.mono ?_
      rintro e w1 ⟨rfl, hu1⟩
      have HU1 := Lib.hid (HU.out.next hu1)
      clear hu1 HCL c0 c1 c2 c3 c4
      cases y with
      | true =>
        go_wp2
        go_ret
        exact ⟨ret_int (HX.out (by trivial)).symm, HU1.out⟩
      | false =>
        go_wp2
        go_roundg (gk - 1)
        case measure => omega
        case rel => exact ⟨k + 1, by omega, by omega, by go_num, HALL.out (by trivial), HU1.out⟩
    · obtain rfl : k = n := by omega
      have HU := Lib.hid hu
      have HX : Hid (r = -1) := Lib.hid (by
        rw [HR.out]
        refine idxM_no ?_
        rw [← HN.out, List.take_length] at hall
        exact hall)
      clear hall hu
      go_wp2
      go_ret
      exact ⟨ret_int HX.out.symm, HU.out⟩
end Go.Proofs.Ytjcbaelefacolaa
/- clear of the tail of a row that is owned. Plain law, no condition. -/
namespace Go.Proofs.Ytjcbaelefacolaa
open Go Go.RowKit

/-- clear(s[i:]): the row is then its first i elements. -/
theorem run_clear_tail {P : Program} {w : World} {N g n c i size : Nat} {e t ty : TypeId} {xs zc : List Value} (ht : P.underlying t = some (.slice e)) (hv : ∀ w, (zeroValue e).run P w = .ok (.agg zc.toArray) w) (hz : zc.length = size) (h1 : ∀ v ∈ zc, v.oneCell' = true)
    (h : w.ownsRow N e size (.slice (some ⟨g, 0, none⟩) n c) n xs) (hi : i < n) (k : Nat) :
    ∃ w', (Builtin.clear_ #[t] ty #[.slice (some ⟨g, i * size, none⟩) (n - i) k]).run P w = .ok (.tuple #[]) w' ∧ w'.ownsRow N e size (.slice (some ⟨g, 0, none⟩) i c) i (xs.take (i * size)) ∧ Upd [g] w w' := by
  rcases h.2 with ⟨h', _⟩ | ⟨g', cap', cur, h', hb, hg, hnc, hcm, hcs, htake⟩
  · simp at h'
  simp only [Value.slice.injEq, Option.some.injEq, Addr.mk.injEq, and_true, true_and] at h'
  obtain ⟨rfl, rfl⟩ := h'
  have hm1 : i * size + (n - i) * size = n * size := by rw [← Nat.add_mul]; congr 1; omega
  have hm2 : n * size ≤ c * size := Nat.mul_le_mul_right _ hnc
  have hl : (Builtin.zeroCells (Value.agg zc.toArray).cells (n - i)).toList.length = (n - i) * size := by rw [Array.length_toList, size_zeroCells]; show _ * zc.toArray.size = _; simp [hz]
  have hone : ∀ v ∈ (Builtin.zeroCells (Value.agg zc.toArray).cells (n - i)).toList, v.oneCell' = true := by
    intro v hv'
    simp only [Builtin.zeroCells, Array.toList_map, Array.mem_toList_iff, List.mem_map] at hv'
    obtain ⟨j, hj, rfl⟩ := hv'
    have hj' : j < (n - i) * size := by
      have : (Value.agg zc.toArray).cells.size = size := by show zc.toArray.size = _; simp [hz]
      rw [this] at hj
      simpa using hj
    have h0 : 0 < size := by rcases Nat.eq_zero_or_pos size with e0 | e0; · subst e0; simp at hj'
                             · exact e0
    have hlt : j % size < zc.length := by rw [hz]; exact Nat.mod_lt _ h0
    refine h1 _ ?_
    show zc.toArray[j % zc.toArray.size]! ∈ zc
    have e1 : zc.toArray.size = size := by simp [hz]
    rw [e1]
    have : zc.toArray[j % size]! = zc[j % size] := by simp [hlt]
    rw [this]
    exact List.getElem_mem hlt
  generalize hvs : (Builtin.zeroCells (Value.agg zc.toArray).cells (n - i)).toList = vs at hl hone
  have hst := run_storeCells_at (P := P) g (i * size) e vs 0 cur w hg (by rw [hl]; omega) hone
  simp only [Nat.add_zero] at hst
  obtain ⟨m, hm⟩ : ∃ m, n - i = m + 1 := ⟨n - i - 1, by omega⟩
  refine ⟨w.setRow g (cur.toList.take (i * size) ++ vs ++ cur.toList.drop (i * size + vs.length)).toArray, ?_, ⟨?_, .inr ⟨g, c, _, rfl, hb, setRow_heap w g cur _ e (0, 0) hg, by omega, hcm, ?_, ?_⟩⟩, ⟨rfl, rfl, rfl, by simp [World.setRow], fun b _ hb => setRow_other w g b _ (by simpa using hb)⟩⟩
  · rw [hm] at hvs ⊢
    simp [Builtin.clear_, run_underlying ht, hv, hvs, hst]
  · rw [List.length_take, h.1]; omega
  · have : cur.toList.length = c * size := by simpa using hcs
    simp [List.length_take, hl]; omega
  · have : cur.toList.length = c * size := by simpa using hcs
    rw [← htake, List.take_take, Nat.min_eq_left (by omega)]
    show (cur.toList.take (i * size) ++ vs ++ _).take (i * size) = _
    rw [List.append_assoc, List.take_append_of_le_length (by rw [List.length_take]; omega), List.take_take, Nat.min_self]
end Go.Proofs.Ytjcbaelefacolaa
/- slices.DeleteFunc at louver/delta.Sub, by the function value (*louver/delta.State).leave$2: what stays, in place. Conditions: what the function value answers; no more than 100000. -/
namespace Go.Proofs.Ytjcbaelefacolaa
open Go Go.RowKit
set_option maxHeartbeats 400000

/-- one element stored -/
def delS2_set (w : World) (b i : Nat) (x : Sb) : World := (((((w.setCell ⟨b, i * 5, none⟩ (.int .i64 x.who)).setCell ⟨b, i * 5 + 1, none⟩ (.int .i64 x.track)).setCell ⟨b, i * 5 + 2, none⟩ (.int .i64 x.layer)).setCell ⟨b, i * 5 + 3, none⟩ (.int .i64 x.tid)).setCell ⟨b, i * 5 + 4, none⟩ (.bool x.muted))
theorem delS2_row {w : World} {N b n c i : Nat} {X : List Sb} (h : w.ownsRow N 55 5 (.slice (some ⟨b, 0, none⟩) n c) n (X.flatMap encB)) (hi : i < X.length) (x : Sb) :
    (delS2_set w b i x).ownsRow N 55 5 (.slice (some ⟨b, 0, none⟩) n c) n ((X.set i x).flatMap encB) ∧ Upd [b] w (delS2_set w b i x) := by
  have hy : X[i]? = some X[i] := List.getElem?_eq_getElem hi
  have h1 := (h.stored (i * 5 + 0) (.int .i64 x.who)).1
  rw [flat_set encB_len X i 0 X[i] (⟨x.who, X[i].track, X[i].layer, X[i].tid, X[i].muted⟩ : Sb) _ hy (by omega) rfl] at h1
  have h2 := (h1.stored (i * 5 + 1) (.int .i64 x.track)).1
  rw [flat_set encB_len _ i 1 (⟨x.who, X[i].track, X[i].layer, X[i].tid, X[i].muted⟩ : Sb) (⟨x.who, x.track, X[i].layer, X[i].tid, X[i].muted⟩ : Sb) _ (by rw [List.getElem?_set_self hi]) (by omega) rfl, List.set_set] at h2
  have h3 := (h2.stored (i * 5 + 2) (.int .i64 x.layer)).1
  rw [flat_set encB_len _ i 2 (⟨x.who, x.track, X[i].layer, X[i].tid, X[i].muted⟩ : Sb) (⟨x.who, x.track, x.layer, X[i].tid, X[i].muted⟩ : Sb) _ (by rw [List.getElem?_set_self hi]) (by omega) rfl, List.set_set] at h3
  have h4 := (h3.stored (i * 5 + 3) (.int .i64 x.tid)).1
  rw [flat_set encB_len _ i 3 (⟨x.who, x.track, x.layer, X[i].tid, X[i].muted⟩ : Sb) (⟨x.who, x.track, x.layer, x.tid, X[i].muted⟩ : Sb) _ (by rw [List.getElem?_set_self hi]) (by omega) rfl, List.set_set] at h4
  have h5 := (h4.stored (i * 5 + 4) (.bool x.muted)).1
  rw [flat_set encB_len _ i 4 (⟨x.who, x.track, x.layer, x.tid, X[i].muted⟩ : Sb) x _ (by rw [List.getElem?_set_self hi]) (by omega) rfl, List.set_set] at h5
  exact ⟨h5, (((((Upd.refl [b] w).setCell (p := ⟨b, i * 5, none⟩) (.inl (List.mem_singleton.2 rfl)) _).setCell (p := ⟨b, i * 5 + 1, none⟩) (.inl (List.mem_singleton.2 rfl)) _).setCell (p := ⟨b, i * 5 + 2, none⟩) (.inl (List.mem_singleton.2 rfl)) _).setCell (p := ⟨b, i * 5 + 3, none⟩) (.inl (List.mem_singleton.2 rfl)) _).setCell (p := ⟨b, i * 5 + 4, none⟩) (.inl (List.mem_singleton.2 rfl)) _⟩
set_option maxRecDepth 100000 in
theorem delS2_any {w : World} {N : Nat} {A : Option Addr} {n c : Nat} {R : List Sb} (p : Sb → Bool) (z : Option Addr) (h : w.ownsRow N 55 5 (.slice A n c) n (R.flatMap encB)) (hn : R.length = n) (hl : n ≤ 100000)
    (hp : ∀ W, Upd (A.toList.map (·.block)) w W → ∀ x, x ∈ R → Calls Try.prog 52 #[.agg (encB x).toArray, .pointer z] W fun e W' => e = .returned (.bool (p x)) ∧ Upd [] W W') :
    Calls Try.prog 41 #[.slice A n c, .func (.func 52) #[] #[.pointer z]] w fun e w' =>
      e = .returned (.slice A (R.filter (fun x => !p x)).length c) ∧ w'.ownsRow N 55 5 (.slice A (R.filter (fun x => !p x)).length c) (R.filter (fun x => !p x)).length ((R.filter (fun x => !p x)).flatMap encB) ∧ Upd (A.toList.map (·.block)) w w' := by
  have HO := Lib.hid h
  have HN := Lib.hid hn
  have HP := Lib.hid hp
  have HI := Lib.hid (idxS2_any p z ((CellsIn.of_own h).more (Nat.zero_le _) (Nat.le_refl _)) hn hl (c := c) (fun W u x hx => hp W (u.more (by simp)) x hx))
  obtain ⟨F, hF⟩ : ∃ F, F = R.filter (fun x => !p x) := ⟨_, rfl⟩
  rw [← hF]
  have HF := Lib.hid hF
  clear h hn hp hF
  go_enter Try.func41, Try.ntmps41
  go_wp2_with fail
  refine HI.out.mono ?_
  rintro e w1 ⟨rfl, hu1⟩
  have HU1 := Lib.hid hu1
  clear hu1 HI
  rcases idxM_or p R with ⟨hr, hall⟩ | ⟨i, x, hr, hi, hx, hpx, hall⟩
  · rw [hr]
    have HE : Hid (F = R) := Lib.hid (by rw [HF.out]; exact List.filter_eq_self.2 (fun y hy => by rw [hall y hy]; rfl))
    clear hr hall
    have HG : Hid (F.length = n ∧ w1.ownsRow N 55 5 (.slice A n c) n (F.flatMap encB) ∧ Upd (A.toList.map (·.block)) w w1) :=
      Lib.hid ⟨by rw [HE.out, HN.out], by rw [HE.out]; exact ownsRow_upd HO.out HU1.out (by simp), HU1.out.more (by simp)⟩
    go_wp2
    go_ret
    rw [HG.out.1]
    exact ⟨rfl, HG.out.2⟩
  · rw [hr]
    have hib : i < n := by rw [← HN.out]; exact (List.getElem?_eq_some_iff.1 hx).1
    obtain ⟨A', c', hve, hnc, hA, _⟩ := own_form HO.out
    injection hve with e1 _ e3
    subst e1
    subst e3
    obtain ⟨b, hb, hb1, hb2⟩ := hA (by omega)
    subst hb
    have hwi : IntKind.i64.wrap ((i : Int) + 1) = (i : Int) + 1 := IntWalk.i64_in _ (by omega)
    have hne1 : ¬ (i : Int) = -1 := by omega
    have HM : Hid (∃ X : List Sb, X.length = n ∧ X.take i = (R.take (i + 1)).filter (fun x => !p x) ∧ X.drop (i + 1) = R.drop (i + 1) ∧ w1.ownsRow N 55 5 (.slice (some ⟨b, 0, none⟩) n c) n (X.flatMap encB)) := by
      refine Lib.hid ⟨R, HN.out, ?_, rfl, ownsRow_upd HO.out HU1.out (by simp)⟩
      rw [List.take_add_one, hx, List.filter_append, List.filter_eq_self.2 (fun y hy => by rw [hall y hy]; rfl)]
      simp [hpx]
    clear hr hall hpx hx hA
    go_wp2
    go_loopg [5, 6] n (fun gk x5 x6 wr => ∃ i j : Nat, x5 = .int .i64 i ∧ x6 = .int .i64 j ∧ i < j ∧ j ≤ n ∧ n ≤ j + gk ∧
      (∃ X : List Sb, X.length = n ∧ X.take i = (R.take j).filter (fun x => !p x) ∧ X.drop j = R.drop j ∧ wr.ownsRow N 55 5 (.slice (some ⟨b, 0, none⟩) n c) n (X.flatMap encB)) ∧ Upd [b] w wr)
    case atStart => exact ⟨i, i + 1, rfl, by go_num, by omega, by omega, by omega, HM.out, HU1.out.more (by simp)⟩
    case round =>
      obtain ⟨i, j, rfl, rfl, hij, hjn, hgj, ⟨X, hXl, hXt, hXd, hXr⟩, hu⟩ := hrel
      by_cases hlt : j < n
      · have hltj : (j : Int) < (n : Int) := by omega
        have hin : (i : Int) < (n : Int) := by omega
        have hwj : IntKind.i64.wrap ((j : Int) + 1) = (j : Int) + 1 := IntWalk.i64_in _ (by omega)
        have hwi2 : IntKind.i64.wrap ((i : Int) + 1) = (i : Int) + 1 := IntWalk.i64_in _ (by omega)
        obtain ⟨x, hx⟩ : ∃ x, X[j]? = some x := ⟨_, List.getElem?_eq_getElem (by rw [hXl]; exact hlt)⟩
        have hRx : R[j]? = some x := by
          have := congrArg (fun l => l[0]?) hXd
          simp only [List.getElem?_drop] at this
          rw [← hx]; simpa using this.symm
        have hcell := fun (k : Nat) (u : Value) (hu : (X.flatMap encB)[k]? = some u) => (by
          have := hXr.cells (g := b) rfl k u hu
          by_cases hk : k = 0
          · subst hk; exact this
          · simpa [Addr.add, hk] using this : wr.cell? ⟨b, k, none⟩ = some u)
        have hbw : b < wr.heap.size := (own_block_lt hXr (g := b) rfl).2
        obtain ⟨y, hy⟩ : ∃ y, y = p x := ⟨_, rfl⟩
        have hcl := fun (o : Obj) => HP.out (wr.alloc o) (hu.alloc o) x (List.mem_of_getElem? hRx)
        rw [← hy] at hcl
        have HCL := Lib.hid hcl
        have HXX := Lib.hid (And.intro hXl (And.intro hXt (And.intro hXd hXr)))
        have HSK : Hid (y = true → X.take i = (R.take (j + 1)).filter (fun x => !p x) ∧ X.drop (j + 1) = R.drop (j + 1)) := Lib.hid (fun h => by
          refine ⟨?_, ?_⟩
          · rw [List.take_add_one, hRx, List.filter_append, hXt]
            simp [← hy, h]
          · have := congrArg (List.drop 1) hXd
            simpa [List.drop_drop] using this)
        have HST : Hid (y = false → (X.set i x).take (i + 1) = (R.take (j + 1)).filter (fun x => !p x) ∧ (X.set i x).drop (j + 1) = R.drop (j + 1) ∧ (X.set i x).length = n) := Lib.hid (fun h => by
          refine ⟨?_, ?_, by rw [List.length_set, hXl]⟩
          · have hl : (X.set i x).take (i + 1) = X.take i ++ [x] := by
              rw [List.take_add_one, List.getElem?_set_self (by omega), List.take_set_of_le (Nat.le_refl _)]
              rfl
            rw [hl, List.take_add_one (l := R), hRx, List.filter_append, ← hXt]
            simp [← hy, h]
          · rw [List.drop_set_of_lt (by omega)]
            have := congrArg (List.drop 1) hXd
            simpa [List.drop_drop] using this)
        have HXX2 := Lib.hid hx
        have HU := Lib.hid hu
        have HFILL := Lib.hid (fun (w2 : World) (u : Upd [] wr w2) => delS2_row (ownsRow_upd hXr u (by simp)) (i := i) (by rw [hXl]; omega) x)
        unfold delS2_set at HFILL
        have c0 := hcell (j * 5 + 0) _ (flat_get encB_len X j 0 x hx (by omega))
        have c1 := hcell (j * 5 + 1) _ (flat_get encB_len X j 1 x hx (by omega))
        have c2 := hcell (j * 5 + 2) _ (flat_get encB_len X j 2 x hx (by omega))
        have c3 := hcell (j * 5 + 3) _ (flat_get encB_len X j 3 x hx (by omega))
        have c4 := hcell (j * 5 + 4) _ (flat_get encB_len X j 4 x hx (by omega))
        obtain ⟨x0, x1, x2, x3, x4⟩ := x
        simp only [encB, List.getElem?_cons_zero, List.getElem?_cons_succ, List.getElem_cons_zero, List.getElem_cons_succ, ← Nat.add_assoc, Nat.add_zero] at c0 c1 c2 c3 c4
        simp only [encB] at HCL
        have HCELL := Lib.hid hcell
        have HBN := Lib.hid hbw
        clear hcell hcl hx hRx hXl hXt hXd hXr hu hy
        go_upto_region 8 with fail
        obtain ⟨w2, hw2⟩ : ∃ w2, w2 = wr.alloc (.cells #[.int .i64 x0, .int .i64 x1, .int .i64 x2, .int .i64 x3, .bool x4] 55) := ⟨_, rfl⟩
        obtain ⟨V, hV⟩ : ∃ V, V = wr.heap.size := ⟨_, rfl⟩
        have hBv : Blk w2 V 55 #[.int .i64 x0, .int .i64 x1, .int .i64 x2, .int .i64 x3, .bool x4] := by rw [hw2, hV]; exact Blk.new _ _ _
        have hu2 : Upd [] wr w2 := by rw [hw2]; exact (Upd.refl [] wr).alloc _
        have hcl2 := HCL.out (.cells #[.int .i64 x0, .int .i64 x1, .int .i64 x2, .int .i64 x3, .bool x4] 55)
        rw [← hw2] at hcl2
        rw [← hw2, ← hV]
        have HCL2 := Lib.hid hcl2
        have HBV := Lib.hid hBv
        have HU2 := Lib.hid hu2
        have HVN : Hid (b ≠ V) := Lib.hid (by rw [hV]; have := HBN.out; omega)
        clear hw2 hV hcl2 hu2 HCL c0 c1 c2 c3 c4
        have v0 := hBv.cell 0
        have v1 := hBv.cell 1
        have v2 := hBv.cell 2
        have v3 := hBv.cell 3
        have v4 := hBv.cell 4
        simp only [List.getElem?_toArray, List.getElem?_cons_zero, List.getElem?_cons_succ] at v0 v1 v2 v3 v4
        clear hBv
        go_wp2_with fail
        refine HCL2.out.mono ?_
        rintro e w3 ⟨rfl, hu3⟩
        have HU3 := Lib.hid (HU2.out.next hu3)
        have HU3' := Lib.hid hu3
        clear hu3 HCL2 v0 v1 v2 v3 v4
        cases y with
        | true =>
          have HS := HSK.out (by trivial)
          have HREL : Hid (∃ X : List Sb, X.length = n ∧ X.take i = (R.take (j + 1)).filter (fun x => !p x) ∧ X.drop (j + 1) = R.drop (j + 1) ∧ w3.ownsRow N 55 5 (.slice (some ⟨b, 0, none⟩) n c) n (X.flatMap encB)) :=
            Lib.hid ⟨X, HXX.out.1, HS.1, HS.2, ownsRow_upd HXX.out.2.2.2 HU3.out (by simp)⟩
          clear HS
          go_wp2
          go_roundg (gk - 1)
          case measure => omega
          case rel => exact ⟨i, j + 1, rfl, by go_num, by omega, by omega, by omega, HREL.out, HU.out.next (HU3.out.more (by simp))⟩
        | false =>
          have HS := HST.out (by trivial)
          have hf3 := HFILL.out w3 HU3.out
          obtain ⟨y, hy⟩ : ∃ y, X[i]? = some y := ⟨_, List.getElem?_eq_getElem (by rw [HXX.out.1]; omega)⟩
          have hX3 := ownsRow_upd HXX.out.2.2.2 HU3.out (by simp)
          have hcell2 := fun (k : Nat) (u : Value) (hu : (X.flatMap encB)[k]? = some u) => (by
            have := hX3.cells (g := b) rfl k u hu
            by_cases hk : k = 0
            · subst hk; exact this
            · simpa [Addr.add, hk] using this : w3.cell? ⟨b, k, none⟩ = some u)
          have hfz2 := fun (k : Nat) => (by
            have := hX3.frozenAt k
            by_cases hk : k = 0
            · subst hk; exact this
            · simpa [Addr.add, hk] using this : w3.frozen? ⟨b, k, none⟩ = false)
          have hBx := HBV.out.upd HU3'.out (by simp)
          have e0 := hcell2 (i * 5 + 0) _ (flat_get encB_len X i 0 y hy (by omega))
          have f0 := hfz2 (i * 5 + 0)
          have b0 := hBx.cell 0
          have e1 := hcell2 (i * 5 + 1) _ (flat_get encB_len X i 1 y hy (by omega))
          have f1 := hfz2 (i * 5 + 1)
          have b1 := hBx.cell 1
          have e2 := hcell2 (i * 5 + 2) _ (flat_get encB_len X i 2 y hy (by omega))
          have f2 := hfz2 (i * 5 + 2)
          have b2 := hBx.cell 2
          have e3 := hcell2 (i * 5 + 3) _ (flat_get encB_len X i 3 y hy (by omega))
          have f3 := hfz2 (i * 5 + 3)
          have b3 := hBx.cell 3
          have e4 := hcell2 (i * 5 + 4) _ (flat_get encB_len X i 4 y hy (by omega))
          have f4 := hfz2 (i * 5 + 4)
          have b4 := hBx.cell 4
          simp only [List.getElem?_toArray, List.getElem?_cons_zero, List.getElem?_cons_succ] at b0 b1 b2 b3 b4
          simp only [encB, List.getElem?_cons_zero, List.getElem?_cons_succ, List.getElem_cons_zero, List.getElem_cons_succ, ← Nat.add_assoc, Nat.add_zero] at e0 e1 e2 e3 e4
          simp only [← Nat.add_assoc, Nat.add_zero] at f0 f1 f2 f3 f4
          have hbne := HVN.out
          obtain ⟨w4, hw4⟩ : ∃ w4, w4 = delS2_set w3 b i (⟨x0, x1, x2, x3, x4⟩ : Sb) := ⟨_, rfl⟩
          unfold delS2_set at hw4
          dsimp only at hw4 hf3
          rw [← hw4] at hf3
          have HREL : Hid ((∃ X : List Sb, X.length = n ∧ X.take (i + 1) = (R.take (j + 1)).filter (fun x => !p x) ∧ X.drop (j + 1) = R.drop (j + 1) ∧ w4.ownsRow N 55 5 (.slice (some ⟨b, 0, none⟩) n c) n (X.flatMap encB)) ∧ Upd [b] w w4) :=
            Lib.hid ⟨⟨X.set i (⟨x0, x1, x2, x3, x4⟩ : Sb), HS.2.2, HS.1, HS.2.1, hf3.1⟩, (HU.out.next (HU3.out.more (by simp))).next hf3.2⟩
          clear HS hf3 hX3 hcell2 hfz2 hBx hy HFILL HCELL
          go_upto_region 10 with fail
          rw [← hw4]
          clear hw4 e0 f0 b0 e1 f1 b1 e2 f2 b2 e3 f3 b3 e4 f4 b4
          go_wp2
          go_roundg (gk - 1)
          case measure => omega
          case rel => exact ⟨i + 1, j + 1, by go_num, by go_num, by omega, by omega, by omega, HREL.out.1, HREL.out.2⟩
      · obtain rfl : j = n := by omega
        rw [← HN.out, List.take_length] at hXt
        have hif : i = F.length := by rw [HF.out, ← hXt, List.length_take, hXl]; omega
        obtain ⟨w3, hclr, hrow, hu3⟩ := run_clear_tail (i := i) (size := 5) (P := Try.prog) (t := 29) (ty := 0) (zc := [.int .i64 0, .int .i64 0, .int .i64 0, .int .i64 0, .bool false]) Try.underlying29 (fun w => by kernel_rfl) rfl (by decide) hXr (by omega) (c - i)
        rw [flat_take encB_len, hXt, ← HF.out] at hrow
        have HG := Lib.hid (And.intro hif (And.intro hrow (hu.next hu3)))
        have hcn := hnc
        have hini : (i : Int) < (j : Int) := by omega
        clear hXl hXt hXd hXr hu hrow hu3 hif
        go_wp2
        go_ret
        rw [← HG.out.1]
        exact ⟨rfl, HG.out.2.1, HG.out.2.2⟩
end Go.Proofs.Ytjcbaelefacolaa
