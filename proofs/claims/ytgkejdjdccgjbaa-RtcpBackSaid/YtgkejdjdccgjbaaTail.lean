/- A region that draws its order: its first m operations only move a slot's value; those from m to n only read, or call what only reads (they may draw); the last ones come in one forced order: one walk of the order of the text serves every order.
   Conditions: the Bool over the region holds; each operation from m to n is quiet in the class of the worlds 'w behind some draws'; the rest is walked from each such world. -/
import Derived.StillTail
import Derived.Deep.Quiet
import Derived.Deep.QuietTactic
import Derived.BigQuiet
namespace Go.Proofs.Ytgkejdjdccgjbaa
open Go

section
variable {P : Program} {ops : Array Oper} {md : Region.Mode} {C : World → Prop}

/-- each of the operations from m to n is waited for by a later one, up to the n-th -/
def sinkFrom (md : Region.Mode) (ops : Array Oper) (m n : Nat) : Bool :=
  (List.range n).all fun i => decide (i < m) || (List.range (n + 1)).any fun j => decide (i < j) && Region.waitsFor md ops j i

/-- each operation behind the n-th waits for one from the n-th on -/
def chainW (md : Region.Mode) (ops : Array Oper) (n : Nat) : Bool :=
  (List.range ops.size).all fun t => decide (t ≤ n) || (List.range t).any fun j => decide (n ≤ j) && Region.waitsFor md ops t j

/-- what holds of the marks while the head is under way -/
structure HeadOk (md : Region.Mode) (ops : Array Oper) (m n : Nat) (done : Array Bool) : Prop where
  inv : HeadInv md ops n done
  pre : ∀ i, i < m → done.getD i false = true

theorem HeadOk.set {m n i : Nat} {done : Array Bool} (h : HeadOk md ops m n done) (hi : i ∈ Region.ready md ops done) (hin : i < n) : HeadOk md ops m n (done.setIfInBounds i true) :=
  ⟨h.inv.set hi hin, fun k hk => getD_set_true (h.pre k hk)⟩

/-- as long as one of the head is still to come, none of the tail may come -/
theorem HeadOk.waits {m n : Nat} {done : Array Bool} (h : HeadOk md ops m n done) (hs : sinkFrom md ops m n = true) (hc : chainW md ops n = true) :
    ∀ (d i : Nat), n - i = d → i < n → done.getD i true = false → ∀ t, n ≤ t → t ∉ Region.ready md ops done := by
  intro d
  induction d using Nat.strongRecOn with
  | _ d ih =>
    intro i hd hi hun t ht hr
    obtain ⟨_, ot, hot, hall⟩ := mem_ready.1 hr
    have htlt : t < ops.size := (Array.getElem?_eq_some_iff.1 hot).1
    have him : ¬ i < m := fun him => by
      have h1 := h.pre i him
      rw [getD_both hun] at h1
      exact absurd h1 (by decide)
    by_cases htn : t = n
    · have h1 := List.all_eq_true.1 hs i (List.mem_range.2 hi)
      simp only [Bool.or_eq_true, decide_eq_true_eq, him, false_or] at h1
      obtain ⟨j, hj, hj2⟩ := List.any_eq_true.1 h1
      simp only [Bool.and_eq_true, decide_eq_true_eq] at hj2
      obtain ⟨oj, hoj, e, he, hb, hon⟩ := Region.waitsFor_spec hj2.2
      have hjle := List.mem_range.1 hj
      by_cases hjt : j = t
      · rw [hjt, hot] at hoj
        have h2 := hall e (by rw [Option.some.inj hoj]; exact he) hb
        rw [hon, getD_both hun] at h2
        exact absurd h2 (by decide)
      · cases hl : done.getD j false with
        | true =>
          have h2 := h.inv.closed j oj hoj hl e he hb
          rw [hon, getD_both hun] at h2
          exact absurd h2 (by decide)
        | false => exact ih (n - j) (by omega) j rfl (by omega) (getD_in (by rw [h.inv.size]; omega) hl) t ht hr
    · have h1 := List.all_eq_true.1 hc t (List.mem_range.2 htlt)
      simp only [Bool.or_eq_true, decide_eq_true_eq] at h1
      obtain ⟨j, hj, hj2⟩ := List.any_eq_true.1 (h1.resolve_left (by omega))
      simp only [Bool.and_eq_true, decide_eq_true_eq] at hj2
      have hjt := List.mem_range.1 hj
      obtain ⟨o', ho', e, he, hb, hon⟩ := Region.waitsFor_spec hj2.2
      rw [hot] at ho'
      have h3 := hall e (by rw [Option.some.inj ho']; exact he) hb
      rw [hon, getD_both (h.inv.tail j hj2.1 (by omega))] at h3
      exact absurd h3 (by decide)

/-- f operations of the head are still to come, in whatever order; then L. -/
def HeadAny (P : Program) (md : Region.Mode) (ops : Array Oper) (C : World → Prop) (n : Nat) (L : Array Bool → Act → Prop) : Nat → Array Bool → Act → Prop
  | 0, done, a => L done a
  | f + 1, done, a => Region.ready md ops done ≠ [] ∧ ∀ i ∈ Region.ready md ops done, i < n ∧ qOp P ops C i (HeadAny P md ops C n L f (done.setIfInBounds i true)) a

theorem HeadAny.any {n g : Nat} {L : Array Bool → Act → Prop} {Q : Exit → Act → World → Prop} (hL : ∀ done a w, C w → L done a → wpAny P md ops Q g done a w) :
    ∀ (f : Nat) (done : Array Bool) (a : Act) (w : World), C w → HeadAny P md ops C n L f done a → wpAny P md ops Q (f + g) done a w := by
  intro f
  induction f with
  | zero => intro done a w hw h; rw [Nat.zero_add]; exact hL done a w hw h
  | succ f ih =>
    intro done a w hw h
    rw [Nat.add_right_comm]
    exact ⟨fun h0 => (h.1 h0).elim, fun i hi => wpOp_of_qOp hw (fun a' w' hw' h' => ih _ a' w' hw' h') (h.2 i hi).2⟩

theorem HeadAny.first {m n i : Nat} {oi : Oper} {v : Value} {L : Array Bool → Act → Prop} (hi : ops[i]? = some oi) (hsel : Region.noSelect ops = true)
    (hs : sinkFrom md ops m n = true) (hc : chainW md ops n = true) (hin : i < n) (hL : ∀ done a, L done a → ∀ j ∈ Region.ready md ops done, n ≤ j) :
    ∀ (f : Nat) (done : Array Bool) (a : Act), HeadOk md ops m n done →
      (∀ j oj, ops[j]? = some oj → j ≠ i → done.getD j true = false → (∀ e ∈ oj.after, Region.binds md e = true → e.on ≠ i) → oi.apart ops oj = true) →
      i ∈ Region.ready md ops done → YieldsIn P ops C oi v a →
      HeadAny P md ops C n L f (done.setIfInBounds i true) (a.put oi.dst v) → HeadAny P md ops C n L (f + 1) done a := by
  have spec := Region.noSelect_spec hsel
  intro f
  induction f with
  | zero =>
    intro done a ok _ hr hy H
    refine ⟨List.ne_nil_of_mem hr, fun j hj => ?_⟩
    have hjn : j < n := Nat.lt_of_not_le fun hle => ok.waits hs hc _ i rfl hin (mem_ready.1 hr).1 j hle hj
    refine ⟨hjn, ?_⟩
    by_cases hji : j = i
    · rw [hji]; exact hy.qOp hi H
    · exact absurd (hL _ _ H j (ready_mono hj hji)) (Nat.not_le_of_lt hjn)
  | succ f ih =>
    intro done a ok hfree hr hy H
    have hun := (mem_ready.1 hr).1
    refine ⟨List.ne_nil_of_mem hr, fun j hj => ?_⟩
    have hjn : j < n := Nat.lt_of_not_le fun hle => ok.waits hs hc _ i rfl hin hun j hle hj
    refine ⟨hjn, ?_⟩
    by_cases hji : j = i
    · rw [hji]; exact hy.qOp hi H
    · obtain ⟨hjun, oj, hoj, hall⟩ := mem_ready.1 hj
      have hnot : ∀ e ∈ oj.after, Region.binds md e = true → e.on ≠ i := by
        intro e he hb heq
        have h1 := hall e he hb
        rw [heq, getD_both hun] at h1
        exact absurd h1 (by decide)
      have h2 := qOp_put hoj (hfree j oj hoj hji hjun hnot) (fun cs b => spec i oi cs b hi) (fun cs b => spec j oj cs b hoj) hy (H.2 j (ready_mono hj hji)).2
      refine qOp_mono (fun a' h3 => ?_) h2
      refine ih (done.setIfInBounds j true) a' (ok.set hj hjn) (fun k ok hk hki hku hno => hfree k ok hk hki ?_ hno) (ready_mono hr (Ne.symm hji)) h3.1 ?_
      · by_cases hjk : j = k
        · rw [← hjk]; exact hjun
        · rwa [getD_set_ne true hjk] at hku
      · rw [Array.setIfInBounds_comm _ _ hji]; exact h3.2

/-- the operation gives one value in whatever world: a slot's value, or a part of a tuple -/
def plainB (ops : Array Oper) (k : Nat) : Bool := match ops[k]? with
  | some o => match o.op with | .move _ => true | .assign _ => true | .extract _ _ => true | _ => false
  | none => false

theorem plain_yields {k : Nat} {o : Oper} {a : Act} {w : World} {K : Act → World → Prop} {Q : Exit → Act → World → Prop} (hk : ops[k]? = some o) (hm : plainB ops k = true)
    (h : wpOp P ops Q k K a w) : ∃ v, Yields P ops o v a ∧ K (a.put o.dst v) w := by
  unfold wpOp at h
  rw [hk] at h
  dsimp only at h
  by_cases hw : Region.wanted o (yielded ops a.tmps) = true
  · rw [if_pos hw] at h
    have run : (∃ v, (∀ w', (execOp a.eval o).run P w' = .ok (.value v) w') ∧ ((execOp a.eval o).runT P w #[]).2 = #[]) ∨ ((∃ s w', (execOp a.eval o).run P w = .halt (.stuck s) w') ∧ ((execOp a.eval o).runT P w #[]).2 = #[]) := by
      unfold plainB at hm
      rw [hk] at hm
      dsimp only at hm
      split at hm
      · rename_i x hx
        refine .inl ⟨a.eval x, fun w' => (BigFrame.run_move x hx) w', ?_⟩
        unfold execOp; rw [hx]; rfl
      · rename_i x hx
        refine .inl ⟨a.eval x, fun w' => (BigFrame.run_assign x hx) w', ?_⟩
        unfold execOp; rw [hx]; rfl
      · rename_i x i hx
        have e : execOp a.eval o = (do return .value (← Instr.extract (a.eval x) i)) := by unfold execOp; rw [hx]
        rw [e]
        unfold Instr.extract
        split
        · split
          · rename_i vs _ v hv; exact .inl ⟨v, fun w' => rfl, rfl⟩
          · exact .inr ⟨⟨_, _, rfl⟩, rfl⟩
        · exact .inr ⟨⟨_, _, rfl⟩, rfl⟩
      · exact absurd hm (by decide)
    rcases run with ⟨v, hv, hev⟩ | ⟨⟨s, w', hv⟩, hev⟩
    · refine ⟨v, .inl ⟨hw, hv⟩, ?_⟩
      rcases h with h | ⟨⟨h, _⟩, _⟩
      · unfold Oper.wp at h
        rw [hv w] at h
        exact h
      · rw [hev] at h; simp at h
    · exfalso
      rcases h with h | ⟨⟨h, _⟩, _⟩
      · unfold Oper.wp at h
        rw [hv] at h
        exact h
      · rw [hev] at h; simp at h
  · rw [if_neg hw] at h
    exact ⟨undef, .inr ⟨by simpa using hw, rfl⟩, h⟩

/-- the tail: at each point the one operation that may come; or one that gives its value in whatever world -/
def seqW (md : Region.Mode) (ops : Array Oper) : Nat → Nat → Array Bool → Bool
  | 0, _, done => (Region.ready md ops done).isEmpty
  | g + 1, k, done => (decide (Region.ready md ops done = [k]) || (plainB ops k && (Region.ready md ops done).contains k && Region.free md ops done k)) && seqW md ops g (k + 1) (done.setIfInBounds k true)

theorem wpAny_of_seqW {Q : Exit → Act → World → Prop} (hsel : Region.noSelect ops = true) (hQ : ∀ c tmps a w, Q (.panic c) { a with tmps := tmps } w → Q (.panic c) a w) :
    ∀ (l : List Oper) (k : Nat) (done : Array Bool) (a : Act) (w : World), (∀ j, j < l.length → l[j]? = ops[k + j]?) → seqW md ops l.length k done = true → wpList P ops Q l a w → wpAny P md ops Q l.length done a w := by
  intro l
  induction l with
  | nil => intro k done a w _ hB h; exact ⟨by simpa [seqW] using hB, h⟩
  | cons o l ih =>
    intro k done a w hl hB h
    have h0 : ops[k]? = some o := by simpa using (hl 0 (by simp)).symm
    have hl' : ∀ j, j < l.length → l[j]? = ops[k + 1 + j]? := fun j hj => by
      have h1 := hl (j + 1) (by simp; omega)
      rw [List.getElem?_cons_succ] at h1
      rw [h1, show k + 1 + j = k + (j + 1) by omega]
    simp only [List.length_cons, seqW, Bool.and_eq_true, Bool.or_eq_true, decide_eq_true_eq] at hB
    obtain ⟨hB1, hB2⟩ := hB
    have hw : wpOp P ops Q k (wpList P ops Q l) a w := by unfold wpOp; simp only [h0]; exact h
    rcases hB1 with hr | ⟨⟨hp, hr⟩, hf⟩
    · refine ⟨fun h1 => by rw [hr] at h1; exact absurd h1 (List.cons_ne_nil _ _), fun i hi => ?_⟩
      rw [hr] at hi
      obtain rfl : i = k := by simpa using hi
      exact wpOp_mono (fun a' w' h' => ih (i + 1) _ a' w' hl' hB2 h') hw
    · obtain ⟨v, hy, hK⟩ := plain_yields h0 hp hw
      exact wpAny_take h0 hsel hf hr (fun c a' w' h' => hQ c (a'.put o.dst v).tmps a' w' (by rw [show ({ a' with tmps := (a'.put o.dst v).tmps } : Act) = a'.put o.dst v by cases o.dst <;> rfl]; exact h')) hy (ih (k + 1) _ _ w hl' hB2 hK)

/-- the head in the order of the text, then the tail -/
def lexW (md : Region.Mode) (ops : Array Oper) (n g : Nat) : Nat → Nat → Array Bool → Bool
  | 0, k, done => ((Region.ready md ops done).all fun j => decide (n ≤ j)) && seqW md ops g k done
  | f + 1, k, done => (Region.ready md ops done).contains k && Region.free md ops done k && lexW md ops n g f (k + 1) (done.setIfInBounds k true)

theorem HeadAny.lex {m n g : Nat} {R : Act → Prop} (hsel : Region.noSelect ops = true) (hs : sinkFrom md ops m n = true) (hc : chainW md ops n = true) :
    ∀ (l : List Oper) (k : Nat) (done : Array Bool) (a : Act), (∀ j, j < l.length → l[j]? = ops[k + j]?) → k + l.length = n → HeadOk md ops m n done →
      lexW md ops n g l.length k done = true → wpQuiet P ops C R l a →
      HeadAny P md ops C n (fun done' a' => ((Region.ready md ops done').all fun j => decide (n ≤ j)) = true ∧ seqW md ops g n done' = true ∧ R a') l.length done a := by
  intro l
  induction l with
  | nil =>
    intro k done a _ hk _ hB h
    obtain rfl : k = n := by simpa using hk
    simp only [List.length_nil, lexW, Bool.and_eq_true] at hB
    exact ⟨hB.1, hB.2, h⟩
  | cons o l ih =>
    intro k done a hl hk ok hB h
    have h0 : ops[k]? = some o := by simpa using (hl 0 (by simp)).symm
    simp only [List.length_cons, lexW, Bool.and_eq_true] at hB
    obtain ⟨⟨hr, hf⟩, hB'⟩ := hB
    simp only [List.length_cons] at hk
    have hkn : k < n := by omega
    have hr' : k ∈ Region.ready md ops done := by simpa using hr
    have hq : qOp P ops C k (wpQuiet P ops C R l) a := by unfold qOp; simp only [h0]; exact h
    obtain ⟨v, hy, hK⟩ := yieldsIn_of_qOp h0 hq
    refine HeadAny.first h0 hsel hs hc hkn (fun done' a' hL j hj => by have := List.all_eq_true.1 hL.1 j hj; simpa using this) l.length done a ok (Region.free_spec h0 hf) hr' hy
      (ih (k + 1) _ _ (fun j hj => ?_) (by omega) (ok.set hr' hkn) hB' hK)
    have h1 := hl (j + 1) (by simp; omega)
    rw [List.getElem?_cons_succ] at h1
    rw [h1, show k + 1 + j = k + (j + 1) by omega]


/-- the operation only moves a slot's value -/
def movesB (ops : Array Oper) (k : Nat) : Bool := match ops[k]? with
  | some o => match o.op with | .move _ => true | .assign _ => true | _ => false
  | none => false

theorem yields_of_moves {k : Nat} {o : Oper} {v : Value} {a : Act} (hk : ops[k]? = some o) (hm : movesB ops k = true) (h : YieldsIn P ops (fun _ => True) o v a) : Yields P ops o v a := by
  rcases h with ⟨hw, h⟩ | ⟨hw, h⟩
  · refine .inl ⟨hw, fun w => ?_⟩
    have h1 := h w trivial
    unfold movesB at hm
    rw [hk] at hm
    dsimp only at hm
    unfold Oper.quietAt at h1
    split at hm
    · rename_i x hx
      rw [BigFrame.run_move x hx] at h1 ⊢
      obtain ⟨_, h2⟩ := h1
      rw [h2]
    · rename_i x hx
      rw [BigFrame.run_assign x hx] at h1 ⊢
      obtain ⟨_, h2⟩ := h1
      rw [h2]
    · exact absurd hm (by decide)
  · exact .inr ⟨hw, h⟩

/-- the first m, then the check of the rest -/
def preB (md : Region.Mode) (ops : Array Oper) (n g h : Nat) : Nat → Nat → Array Bool → Bool
  | 0, k, done => lexW md ops n g h k done
  | f + 1, k, done => movesB ops k && decide (k < n) && (Region.ready md ops done).contains k && Region.free md ops done k && preB md ops n g h f (k + 1) (done.setIfInBounds k true)

def tailB (md : Region.Mode) (ops : Array Oper) (m n : Nat) : Bool :=
  Region.noSelect ops && decide (n < ops.size) && decide (m ≤ n) && sinkFrom md ops m n && chainW md ops n && preB md ops n (ops.size - n) (n - m) m 0 (Array.replicate ops.size false)

theorem put_tmps (a : Act) (d : Option Tmp) (v : Value) : ({ a with tmps := (a.put d v).tmps } : Act) = a.put d v := by cases d <;> rfl

theorem pre_any {Q : Exit → Act → World → Prop} {m n g h F : Nat} {w : World} {R : Act → Prop} (hsel : Region.noSelect ops = true)
    (hR : ∀ (done : Array Bool) (a : Act), HeadOk md ops m n done → lexW md ops n g h m done = true → R a → wpAny P md ops Q F done a w) (hQ : ∀ c tmps a w, Q (.panic c) { a with tmps := tmps } w → Q (.panic c) a w) :
    ∀ (l : List Oper) (k : Nat) (done : Array Bool) (a : Act), (∀ j, j < l.length → l[j]? = ops[k + j]?) → k + l.length = m → HeadOk md ops k n done →
      preB md ops n g h l.length k done = true → wpQuiet P ops (fun _ => True) R l a → wpAny P md ops Q (l.length + F) done a w := by
  intro l
  induction l with
  | nil =>
    intro k done a _ hk ok hB hq
    obtain rfl : k = m := by simpa using hk
    simp only [List.length_nil, Nat.zero_add]
    exact hR done a ok hB hq
  | cons o l ih =>
    intro k done a hl hk ok hB hq
    have h0 : ops[k]? = some o := by simpa using (hl 0 (by simp)).symm
    simp only [List.length_cons, preB, Bool.and_eq_true, decide_eq_true_eq] at hB
    obtain ⟨⟨⟨⟨hmv, hkn⟩, hr⟩, hf⟩, hB'⟩ := hB
    have hr' : k ∈ Region.ready md ops done := by simpa using hr
    have hq' : qOp P ops (fun _ => True) k (wpQuiet P ops (fun _ => True) R l) a := by unfold qOp; simp only [h0]; exact hq
    obtain ⟨v, hy, hK⟩ := yieldsIn_of_qOp h0 hq'
    rw [show (o :: l).length + F = (l.length + F) + 1 by simp; omega]
    have ok' := ok.set hr' hkn
    refine wpAny_take h0 hsel hf hr (fun c a' w' h' => hQ c (a'.put o.dst v).tmps a' w' (by rw [put_tmps]; exact h')) (yields_of_moves h0 hmv hy) (ih (k + 1) _ _ (fun j hj => ?_) (by simp at hk; omega) ⟨ok'.inv, fun i hi => ?_⟩ hB' hK)
    · have h1 := hl (j + 1) (by simp; omega)
      rw [List.getElem?_cons_succ] at h1
      rw [h1, show k + 1 + j = k + (j + 1) by omega]
    · by_cases hik : i = k
      · subst hik
        have : i < done.size := by rw [ok.inv.size]; exact (Array.getElem?_eq_some_iff.1 h0).1
        simp [this]
      · exact getD_set_true (ok.pre i (by omega))

/-- THE REGION. -/
theorem wp_moves_quiet_tail {id : Nat} {Q : Exit → Act → World → Prop} {a : Act} {w : World} {l : List Oper} (m n : Nat) (hm : P.follows .mixedOrders = true) (hB : tailB .any l.toArray m n = true)
    (hQ : ∀ c tmps a w, Q (.panic c) { a with tmps := tmps } w → Q (.panic c) a w)
    (h : wpQuiet P l.toArray (fun _ => True) (fun a0 => wpQuiet P l.toArray (fun w' => ∃ m, w' = w.drewN m) (fun a' => ∀ w', (∃ m, w' = w.drewN m) → wpList P l.toArray Q (l.drop n) a' w') ((l.take n).drop m) a0) (l.take m) a) :
    (Code.region id l.toArray true).wp P Q a w := by
  simp only [tailB, Bool.and_eq_true, decide_eq_true_eq] at hB
  obtain ⟨⟨⟨⟨⟨hsel, hn⟩, hmn⟩, hs⟩, hc⟩, hpre⟩ := hB
  have hn' : n < l.length := by simpa using hn
  have hml : (l.take m).length = m := by rw [List.length_take]; omega
  have hhl : ((l.take n).drop m).length = n - m := by rw [List.length_drop, List.length_take]; omega
  have hsz : (l.drop n).length = l.toArray.size - n := by simp
  have inv0 : HeadInv .any l.toArray n (Array.replicate l.toArray.size false) :=
    ⟨by simp, fun j oj _ hl => by rw [getD_replicate_false] at hl; exact absurd hl (by decide), fun t _ ht => getD_in (by simpa using ht) (getD_replicate_false _ _)⟩
  refine wp_region_any hm ?_
  have K := pre_any (P := P) (md := .any) (Q := Q) (m := m) (F := n - m + (l.toArray.size - n)) (w := { w with drawn := w.drawn + 1 }) hsel (fun done a' ok hB' hq => ?_) hQ (l.take m) 0 _ a
    (fun j hj => by rw [hml] at hj; simp [hj]) (by simpa using hml) ⟨inv0, fun i hi => absurd hi (Nat.not_lt_zero i)⟩ (by rw [hml]; exact hpre) h
  · rw [hml, show m + (n - m + (l.toArray.size - n)) = l.toArray.size by omega] at K
    exact K
  · have H := HeadAny.lex (P := P) (md := .any) (g := l.toArray.size - n) hsel hs hc ((l.take n).drop m) m done a'
      (fun j hj => by
        rw [hhl] at hj
        have h1 : m + j < n := by omega
        simp [List.getElem?_drop, List.getElem?_take, h1]) (by rw [hhl]; omega) ok (by rw [hhl]; exact hB') hq
    rw [hhl] at H
    exact HeadAny.any (Q := Q) (g := l.toArray.size - n) (fun done a' w' hw' hL => by
      have h1 := wpAny_of_seqW (md := .any) (Q := Q) hsel hQ (l.drop n) n done a' w' (fun j _ => by simp [List.getElem?_drop]) (by rw [hsz]; exact hL.2.1) (hL.2.2 w' hw')
      rwa [hsz] at h1) (n - m) done a' _ ⟨1, rfl⟩ H

/-- The same where no operation is moved ahead. -/
theorem wp_quiet_tail {id : Nat} {Q : Exit → Act → World → Prop} {a : Act} {w : World} {l : List Oper} (n : Nat) (hm : P.follows .mixedOrders = true) (hB : tailB .any l.toArray 0 n = true)
    (hQ : ∀ c tmps a w, Q (.panic c) { a with tmps := tmps } w → Q (.panic c) a w)
    (h : wpQuiet P l.toArray (fun w' => ∃ m, w' = w.drewN m) (fun a' => ∀ w', (∃ m, w' = w.drewN m) → wpList P l.toArray Q (l.drop n) a' w') (l.take n) a) : (Code.region id l.toArray true).wp P Q a w :=
  wp_moves_quiet_tail 0 n hm hB hQ h
end
end Go.Proofs.Ytgkejdjdccgjbaa
