/- CmdPlays: the state between two rounds. No condition. -/
import Derived.Test.YtdcekgdihnlbpaaCRef6
import Derived.Test.YtdcekgdihnlbpaaCState
namespace Go.Proofs.Ytdcekgdihnlbpaa
open Go Go.RowKit
set_option maxHeartbeats 400000

/-- not in a block -/
def Nb (g : Nat) (A : Option Addr) : Prop := ∀ a, A = some a → a.block ≠ g
theorem Nb.fr {w : World} {g : Nat} {A : Option Addr} (h : Fr w A) (hg : g < w.heap.size) : Nb g A := fun a ha => by have := h a ha; omega
theorem Nb.kp {g : Nat} {A A' : Option Addr} (h : Nb g A) (k : Kp A A') : Nb g A' := fun a ha => by
  obtain ⟨a0, h0, e⟩ := k a ha
  rw [← e]; exact h a0 h0
theorem Nb.none {g : Nat} : Nb g none := fun a h => by cases h
structure Av (g : Nat) (TA : Option Addr) (rows : List Rw) (S E L : Rw) : Prop where
  t : Nb g TA
  r : ∀ r, r ∈ rows → Nb g r.A
  s : Nb g S.A
  e : Nb g E.A
  l : Nb g L.A

section
variable {w w' w2 w3 wr : World} {N gw n k tc tc' : Nat} {TA TA' : Option Addr} {rows rows' : List Rw} {S E L S' E' L' : Rw}
theorem RB.upd2 (h : RB w N n k TA tc rows S E L) (u : Upd [gw] w w') (a : Av gw TA rows S E L) : RB w' N n k TA tc rows S E L :=
  { h with
    t := (h.t.upd2 u (Nat.le_refl _) (fun s hs _ a' ha => by rw [List.mem_singleton] at hs; subst hs; exact a.t a' ha)).more (Nat.le_refl _) u.size
    r := fun r hr => ⟨(h.r r hr).1.upd2 u (fun s hs a' ha => by rw [List.mem_singleton] at hs; subst hs; exact a.r r hr a' ha), (h.r r hr).2⟩
    s := h.s.upd2 u (fun s hs a' ha => by rw [List.mem_singleton] at hs; subst hs; exact a.s a' ha)
    e := h.e.upd2 u (fun s hs a' ha => by rw [List.mem_singleton] at hs; subst hs; exact a.e a' ha)
    l := h.l.upd2 u (fun s hs a' ha => by rw [List.mem_singleton] at hs; subst hs; exact a.l a' ha)
    low := Nat.le_trans h.low u.size }
/-- the document's board, and where the law keeps it -/
structure DocAt (wr : World) (N gw n k : Nat) (TA : Option Addr) (tc : Nat) (rows : List Rw) (S E L : Rw) : Prop where
  rb : RB wr N n k TA tc rows S E L
  bg : Blk wr gw 41 (bcells n k TA tc S E L)
  av : Av gw TA rows S E L
  gN : N ≤ gw
theorem DocAt.next (h : DocAt wr N gw n k TA tc rows S E L) (hr : RB w2 N n k TA' tc' rows' S' E' L') (ha : Av gw TA' rows' S' E' L') (u : Upd [gw] w2 w3) (b : Blk w3 gw 41 (bcells n k TA' tc' S' E' L')) : DocAt w3 N gw n k TA' tc' rows' S' E' L' :=
  ⟨hr.upd2 u ha, b, ha, h.gN⟩
theorem DocAt.upd {X : List Nat} (h : DocAt wr N gw n k TA tc rows S E L) (u : Upd X wr w') (hX : ∀ s, s ∈ X → s < N) : DocAt w' N gw n k TA tc rows S E L :=
  ⟨h.rb.upd u hX, h.bg.upd u (fun hg => by have := hX gw hg; have := h.gN; omega), h.av, h.gN⟩
theorem DocAt.same (h : DocAt wr N gw n k TA tc rows S E L) (hb : Below wr.heap.size wr w2) (u : Upd [gw] w2 w3) (b : Blk w3 gw 41 (bcells n k TA tc S E L)) : DocAt w3 N gw n k TA tc rows S E L :=
  h.next (h.rb.below hb) h.av u b

def pt (x : Nat × Int) : Option Addr := some ⟨x.1, 0, none⟩
variable {B : Bd} {pp pp' : List (List (Nat × Int))} {acks acks' : List (Int × Int)} {last last' : List Int}
/-- the board, and its tables -/
structure BrdAt (wr : World) (N : Nat) (B : Bd) (n k : Nat) (pp : List (List (Nat × Int))) (acks : List (Int × Int)) (last : List Int) : Prop where
  is : IsB wr B k (pp.map (List.map pt)) acks last
  nn : B.prs.length = n
  tb : ∀ l, l ∈ pp → ∀ x, x ∈ l → ∃ m1 m2, Blk wr x.1 81 #[.int .u64 x.2, m1, m2]
  ft : ∀ s, s ∈ B.foot → s < N
theorem BrdAt.below (h : BrdAt wr N B n k pp acks last) (hb : Below wr.heap.size wr w') : BrdAt w' N B n k pp acks last :=
  ⟨h.is.more (Upd.of_below hb), h.nn, fun l hl x hx => by
    obtain ⟨m1, m2, hb1⟩ := h.tb l hl x hx
    exact ⟨m1, m2, hb1.below hb hb1.lt⟩, h.ft⟩
theorem BrdAt.more (h : BrdAt wr N B n k pp acks last) (u : Upd [] wr w') : BrdAt w' N B n k pp acks last := h.below (u.below (Nat.le_refl _) (by simp))
theorem BrdAt.doc {cs : Array Value} (h : BrdAt wr N B n k pp acks last) (u : Upd [gw] wr w') (b : Blk wr gw 41 cs) (hg : N ≤ gw) : BrdAt w' N B n k pp acks last :=
  ⟨h.is.upd u (fun s hs hf => by rw [List.mem_singleton] at hs; subst hs; have := h.ft _ hf; omega), h.nn, fun l hl x hx => by
    obtain ⟨m1, m2, hb1⟩ := h.tb l hl x hx
    exact ⟨m1, m2, hb1.upd u (by rw [List.mem_singleton]; exact hb1.ne b (by decide))⟩, h.ft⟩
/-- behind a call of the board -/
theorem BrdAt.turn (h : BrdAt wr N B n k pp acks last) (hb : IsB w' B k (pp'.map (List.map pt)) acks' last') (u : Upd B.foot wr w')
    (hp : ∀ l, l ∈ pp' → ∀ x, x ∈ l → (∃ l0, l0 ∈ pp ∧ x ∈ l0) ∨ ∃ m1 m2, Blk wr x.1 81 #[.int .u64 x.2, m1, m2]) : BrdAt w' N B n k pp' acks' last' :=
  ⟨hb, h.nn, fun l hl x hx => by
    have : ∃ m1 m2, Blk wr x.1 81 #[.int .u64 x.2, m1, m2] := by
      rcases hp l hl x hx with ⟨l0, h1, h2⟩ | h1
      · exact h.tb l0 h1 x h2
      · exact h1
    obtain ⟨m1, m2, hb1⟩ := this
    exact ⟨m1, m2, hb1.upd u (h.is.tab hb1)⟩, h.ft⟩

/-- both, and that they say the same -/
structure PlayAt (w wr : World) (N : Nat) (B : Bd) (gw n k : Nat) (pp : List (List (Nat × Int))) (acks : List (Int × Int)) (last : List Int) (TA : Option Addr) (tc : Nat) (rows : List Rw) (S E L : Rw) : Prop where
  br : BrdAt wr N B n k pp acks last
  doc : DocAt wr N gw n k TA tc rows S E L
  rx : rows.map (·.xs) = pp.map (List.map (·.2))
  sx : acks.map (·.1) = S.xs
  ex : acks.map (·.2) = E.xs
  lx : last = L.xs
  ft : ∀ s, s ∈ B.foot → w.heap.size ≤ s
  base : w.heap.size ≤ N
  bel : Below w.heap.size w wr
theorem PlayAt.more (h : PlayAt w wr N B gw n k pp acks last TA tc rows S E L) (u : Upd [] wr w') : PlayAt w w' N B gw n k pp acks last TA tc rows S E L :=
  { h with br := h.br.more u, doc := h.doc.upd u (by simp), bel := h.bel.trans (u.below h.bel.size (by simp)) }
theorem PlayAt.row (h : PlayAt w wr N B gw n k pp acks last TA tc rows S E L) (i : Nat) : (rows[i]?).map (·.xs) = (pp[i]?).map (List.map (·.2)) := by
  rw [← List.getElem?_map, h.rx, List.getElem?_map]
theorem PlayAt.room (h : PlayAt w wr N B gw n k pp acks last TA tc rows S E L) : hasRoom k (pp.map (List.map pt)) = rroom k rows := by
  have e := congrArg (fun l => l.all fun (xs : List Int) => decide (xs.length < k)) h.rx
  simp only [List.all_map, Function.comp_def, List.length_map] at e
  unfold hasRoom rroom
  rw [e]
  simp only [List.all_map, Function.comp_def, List.length_map]
theorem PlayAt.plen (h : PlayAt w wr N B gw n k pp acks last TA tc rows S E L) : pp.length = n := by
  have := congrArg List.length h.rx
  rw [List.length_map, List.length_map, h.doc.rb.tl] at this
  exact this.symm
theorem PlayAt.alen (h : PlayAt w wr N B gw n k pp acks last TA tc rows S E L) : acks.length = S.xs.length := by rw [← h.sx, List.length_map]
theorem PlayAt.croom (h : PlayAt w wr N B gw n k pp acks last TA tc rows S E L) : Calls Try.prog 24 #[.pointer (some ⟨B.b, 0, none⟩)] wr fun e w' => e = .returned (.bool (rroom k rows)) ∧ Upd [] wr w' := by
  rw [← h.room]; exact room_any h.br.is
theorem PlayAt.cacked (h : PlayAt w wr N B gw n k pp acks last TA tc rows S E L) : Calls Try.prog 21 #[.pointer (some ⟨B.b, 0, none⟩)] wr fun e w' => e = .returned (.int .u64 (minL L.xs)) ∧ Upd [] wr w' := by
  refine (acked_any h.br.is).mono ?_
  rintro e w2 ⟨rfl, rfl⟩
  exact ⟨by rw [h.lx], Upd.refl _ _⟩
theorem PlayAt.cacks (h : PlayAt w wr N B gw n k pp acks last TA tc rows S E L) : Calls Try.prog 23 #[.pointer (some ⟨B.b, 0, none⟩)] wr fun e w' => e = .returned (.int .i64 S.xs.length) ∧ Upd [] wr w' := by
  refine (acks_any h.br.is).mono ?_
  rintro e w2 ⟨rfl, rfl⟩
  exact ⟨by rw [h.alen], Upd.refl _ _⟩
theorem PlayAt.cnone (h : PlayAt w wr N B gw n k pp acks last TA tc rows S E L) (i : Int) (hi : i < 0 ∨ (n : Int) ≤ i) : Calls Try.prog 12 #[.pointer (some ⟨B.b, 0, none⟩), .int .i64 i] wr fun e w' => e = .returned (.int .i64 0) ∧ Upd [] wr w' := by
  refine (queued_no h.br.is i (by rw [h.br.nn]; exact hi)).mono ?_
  rintro e w2 ⟨rfl, rfl⟩
  exact ⟨rfl, Upd.refl _ _⟩
theorem PlayAt.cqueued (h : PlayAt w wr N B gw n k pp acks last TA tc rows S E L) (q : Nat) (r : Rw) (hr : rows[q]? = some r) : Calls Try.prog 12 #[.pointer (some ⟨B.b, 0, none⟩), .int .i64 q] wr fun e w' => e = .returned (.int .i64 r.xs.length) ∧ wr = w' := by
  have e := h.row q
  rw [hr, Option.map_some] at e
  cases hp : pp[q]? with
  | none => rw [hp] at e; cases e
  | some l =>
    rw [hp, Option.map_some] at e
    have e := Option.some.inj e
    have := queued_yes h.br.is q (l.map pt) (by rw [List.getElem?_map, hp]; rfl)
    rw [List.length_map] at this
    rw [e, List.length_map]
    exact this
/-- the law's variable is written anew -/
theorem doc_stored {w3 : World} {g : Nat} {t : TypeId} {a0 a1 a2 a3 a4 b0 b1 b2 b3 b4 : Value} (h : Blk w3 g t #[a0, a1, a2, a3, a4]) :
    Upd [g] w3 (((((w3.setCell ⟨g, 0, none⟩ b0).setCell ⟨g, 1, none⟩ b1).setCell ⟨g, 2, none⟩ b2).setCell ⟨g, 3, none⟩ b3).setCell ⟨g, 4, none⟩ b4) ∧
    Blk (((((w3.setCell ⟨g, 0, none⟩ b0).setCell ⟨g, 1, none⟩ b1).setCell ⟨g, 2, none⟩ b2).setCell ⟨g, 3, none⟩ b3).setCell ⟨g, 4, none⟩ b4) g t #[b0, b1, b2, b3, b4] := by
  refine ⟨(((((Upd.refl _ _).setCell (by simp) _).setCell (by simp) _).setCell (by simp) _).setCell (by simp) _).setCell (by simp) _, ?_⟩
  have := ((((h.store 0 b0).store 1 b1).store 2 b2).store 3 b3).store 4 b4
  simpa using this
/-- the document has gone ahead -/
structure MidAt (w W : World) (N : Nat) (B : Bd) (gw n k : Nat) (pp : List (List (Nat × Int))) (acks : List (Int × Int)) (last : List Int) (TA : Option Addr) (tc : Nat) (rows : List Rw) (S E L : Rw) : Prop where
  br : BrdAt W N B n k pp acks last
  doc : DocAt W N gw n k TA tc rows S E L
  ft : ∀ s, s ∈ B.foot → w.heap.size ≤ s
  base : w.heap.size ≤ N
  bel : Below w.heap.size w W
variable {W : World}
theorem PlayAt.mid (h : PlayAt w wr N B gw n k pp acks last TA tc rows S E L) (hb : Below wr.heap.size wr w2) (hr : RB w2 N n k TA' tc' rows' S' E' L') (ha : Av gw TA' rows' S' E' L') (u : Upd [gw] w2 W) (b : Blk W gw 41 (bcells n k TA' tc' S' E' L')) : MidAt w W N B gw n k pp acks last TA' tc' rows' S' E' L' :=
  ⟨(h.br.below hb).doc u (h.doc.bg.below hb h.doc.bg.lt) h.doc.gN, h.doc.next hr ha u b, h.ft, h.base, (h.bel.trans (hb.mono h.bel.size)).trans (u.below (Nat.le_trans h.bel.size hb.size) (by have := h.doc.gN; have := h.base; simp; omega))⟩
theorem MidAt.more (h : MidAt w W N B gw n k pp acks last TA tc rows S E L) (u : Upd [] W w') : MidAt w w' N B gw n k pp acks last TA tc rows S E L :=
  { h with br := h.br.more u, doc := h.doc.upd u (by simp), bel := h.bel.trans (u.below h.bel.size (by simp)) }
theorem MidAt.play (h : MidAt w W N B gw n k pp acks last TA tc rows S E L) (hb : IsB w' B k (pp'.map (List.map pt)) acks' last') (u : Upd B.foot W w')
    (hp : ∀ l, l ∈ pp' → ∀ x, x ∈ l → (∃ l0, l0 ∈ pp ∧ x ∈ l0) ∨ ∃ m1 m2, Blk W x.1 81 #[.int .u64 x.2, m1, m2])
    (rx : rows.map (·.xs) = pp'.map (List.map (·.2))) (sx : acks'.map (·.1) = S.xs) (ex : acks'.map (·.2) = E.xs) (lx : last' = L.xs) : PlayAt w w' N B gw n k pp' acks' last' TA tc rows S E L :=
  ⟨h.br.turn hb u hp, h.doc.upd u h.br.ft, rx, sx, ex, lx, h.ft, h.base, h.bel.trans (u.below h.bel.size h.ft)⟩
theorem MidAt.stay (h : MidAt w W N B gw n k pp acks last TA tc rows S E L) (u : Upd [] W w')
    (rx : rows.map (·.xs) = pp.map (List.map (·.2))) (sx : acks.map (·.1) = S.xs) (ex : acks.map (·.2) = E.xs) (lx : last = L.xs) : PlayAt w w' N B gw n k pp acks last TA tc rows S E L :=
  ⟨h.br.more u, h.doc.upd u (by simp), rx, sx, ex, lx, h.ft, h.base, h.bel.trans (u.below h.bel.size (by simp))⟩
/-- Take: both have one, or neither -/
theorem PlayAt.takes (h : PlayAt w wr N B gw n k pp acks last TA tc rows S E L) (i : Int) :
    (∃ (q : Nat) (r : Rw) (x : Int) (xs : List Int) (g : Nat) (l : List (Nat × Int)), i = q ∧ rows[q]? = some r ∧ r.xs = x :: xs ∧ pp[q]? = some ((g, x) :: l) ∧ xs = l.map (·.2)) ∨
    ((i < 0 ∨ (n : Int) ≤ i ∨ ∃ r, 0 ≤ i ∧ rows[i.toNat]? = some r ∧ r.xs = []) ∧ mTake (pp.map (List.map pt)) i = ((none, false), pp.map (List.map pt))) := by
  by_cases hi : i < 0
  · exact .inr ⟨.inl hi, by simp [mTake, hi]⟩
  · obtain ⟨q, rfl⟩ : ∃ q : Nat, i = q := ⟨i.toNat, by omega⟩
    have e := h.row q
    cases hp : pp[q]? with
    | none =>
      have hq := List.getElem?_eq_none_iff.1 hp
      rw [h.plen] at hq
      exact .inr ⟨.inr (.inl (by omega)), by simp [mTake, hp]⟩
    | some l =>
      cases hr : rows[q]? with
      | none => rw [hr, hp] at e; cases e
      | some r =>
        rw [hr, hp, Option.map_some, Option.map_some] at e
        have e := Option.some.inj e
        cases l with
        | nil => exact .inr ⟨.inr (.inr ⟨r, by omega, by rw [Int.toNat_natCast]; exact hr, e⟩), by simp [mTake, hp]⟩
        | cons x l => exact .inl ⟨q, r, x.2, l.map (·.2), x.1, l, rfl, hr, by rw [e, List.map_cons], hp, rfl⟩
theorem mem_set_of {α : Type} {l : List (List α)} {q : Nat} {x : α} {xs ys : List α} (h : l[q]? = some (x :: xs)) (hy : ys ∈ l.set q xs) {y : α} (hyy : y ∈ ys) : ∃ l0, l0 ∈ l ∧ y ∈ l0 := by
  rcases List.mem_or_eq_of_mem_set hy with h1 | rfl
  · exact ⟨ys, h1, hyy⟩
  · exact ⟨_, List.mem_of_getElem? h, List.mem_cons_of_mem _ hyy⟩
end
end Go.Proofs.Ytdcekgdihnlbpaa
