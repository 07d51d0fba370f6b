/- PinsSafe: what the statement keeps beside the pins. Conditions: those of the statement's own walk. -/
import Derived.Test.YtembadjfialenaaPBounds
import Derived.Test.YtembadjfialenaaPPlain
namespace Go.Proofs.Ytembadjfialenaa
open Go Go.RowKit
set_option maxHeartbeats 400000

/-- make of n one-cell elements. -/
theorem run_mk {P : Program} (t e : TypeId) (z : Value) (bytes : Nat) (ht : P.underlying t = some (.slice e)) (hi : (P.info? e).map (fun i => (i.zero, i.size, i.bytes)) = some (some z, 1, bytes))
    (hz : z.cells = #[z]) (n : Nat) (hb : bytes * n ≤ 281474976710656) (hn : n ≤ 65536) (w : World) :
    (Instr.makeSlice t (.int .i64 (n : Int)) (.int .i64 (n : Int))).run P w = .ok (.slice (some ⟨w.heap.size, 0, none⟩) n n) (w.alloc (.cells (List.replicate n z).toArray e)) := by
  obtain ⟨i0, hi0, hz0, hz1, hz2⟩ := info_parts hi
  have hb' : (i0.bytes : Int) * (n : Int) ≤ 281474976710656 := by
    rw [hz2]
    have : ((bytes * n : Nat) : Int) ≤ 281474976710656 := by omega
    rwa [Int.natCast_mul] at this
  have h := run_make (P := P) w t e i0 z ht hi0 hz0 .i64 .i64 (n : Int) (n : Int) (by omega) (by omega) hb' (by omega)
  rw [Int.toNat_natCast, hz1, Nat.mul_one] at h
  rw [h]
  congr 3
  unfold madeCells
  rw [hz]
  apply Array.ext
  · simp
  · intro i h1 h2
    simp [Nat.mod_one]

theorem infoU : (Try.prog.info? 30).map (fun i => (i.zero, i.size, i.bytes)) = some (some (.int .u64 0), 1, 8) := by kernel_rfl
theorem infoB : (Try.prog.info? 4).map (fun i => (i.zero, i.size, i.bytes)) = some (some (.bool false), 1, 1) := by kernel_rfl

/-- three rows that tell what each worker is at, looks at, whether it looks -/
structure Mir (w : World) (ba bs bl : Nat) (ws : List Wk) : Prop where
  a : Blk w ba 30 (ws.map fun x => Value.int .u64 x.at_).toArray
  s : Blk w bs 30 (ws.map fun x => Value.int .u64 x.sees).toArray
  l : Blk w bl 4 (ws.map fun x => Value.bool x.looks).toArray
  dif : ba ≠ bs
theorem Mir.upd {w w' : World} {ba bs bl : Nat} {ws : List Wk} {S : List Nat} (h : Mir w ba bs bl ws) (u : Upd S w w') (h1 : ba ∉ S) (h2 : bs ∉ S) (h3 : bl ∉ S) : Mir w' ba bs bl ws :=
  ⟨h.a.upd u h1, h.s.upd u h2, h.l.upd u h3, h.dif⟩
theorem Mir.al {w : World} {ba bs bl : Nat} {ws : List Wk} (h : Mir w ba bs bl ws) : ba ≠ bl ∧ bs ≠ bl := ⟨h.a.ne h.l (by decide), h.s.ne h.l (by decide)⟩
theorem map_set_arr {α : Type} (f : α → Value) (l : List α) (i : Nat) (x : α) : ((l.set i x).map f).toArray = (l.map f).toArray.setIfInBounds i (f x) := by
  apply Array.ext'
  simp [List.map_set]
theorem map_set_id {α : Type} (f : α → Value) (l : List α) (i : Nat) (x y : α) (hx : l[i]? = some x) (h : f x = f y) : (l.set i y).map f = l.map f := by
  rw [List.map_set, ← h]
  apply List.ext_getElem?
  intro j
  rw [List.getElem?_set]
  split
  · rename_i e
    subst e
    have hil : i < l.length := (List.getElem?_eq_some_iff.1 hx).1
    rw [if_pos (by simpa using hil), List.getElem?_map, hx]; rfl
  · rfl
theorem Mir.setA {w : World} {ba bs bl : Nat} {ws : List Wk} (h : Mir w ba bs bl ws) {i : Nat} {x : Wk} (hx : ws[i]? = some x) (ep : Int) : Mir (w.setCell ⟨ba, i, none⟩ (.int .u64 ep)) ba bs bl (ws.set i { x with at_ := ep }) := by
  have h1 := h.a.store i (.int .u64 ep)
  have h2 := h.s.other (p := ⟨ba, i, none⟩) (fun e => h.dif e.symm) (.int .u64 ep)
  have h3 := h.l.other (p := ⟨ba, i, none⟩) (fun e => h.al.1 e.symm) (.int .u64 ep)
  refine ⟨by rw [map_set_arr]; exact h1, ?_, ?_, h.dif⟩
  · rw [map_set_id _ ws i x _ hx (by rfl)]; exact h2
  · rw [map_set_id _ ws i x _ hx (by rfl)]; exact h3
theorem Mir.setL {w : World} {ba bs bl : Nat} {ws : List Wk} (h : Mir w ba bs bl ws) {i : Nat} {x : Wk} (hx : ws[i]? = some x) (b : Bool) : Mir (w.setCell ⟨bl, i, none⟩ (.bool b)) ba bs bl (ws.set i { x with looks := b }) := by
  have h1 := h.a.other (p := ⟨bl, i, none⟩) h.al.1 (.bool b)
  have h2 := h.s.other (p := ⟨bl, i, none⟩) h.al.2 (.bool b)
  have h3 := h.l.store i (.bool b)
  refine ⟨?_, ?_, by rw [map_set_arr]; exact h3, h.dif⟩
  · rw [map_set_id _ ws i x _ hx (by rfl)]; exact h1
  · rw [map_set_id _ ws i x _ hx (by rfl)]; exact h2
theorem Mir.setS {w : World} {ba bs bl : Nat} {ws : List Wk} (h : Mir w ba bs bl ws) {i : Nat} {x : Wk} (hx : ws[i]? = some x) (ep : Int) : Mir (w.setCell ⟨bs, i, none⟩ (.int .u64 ep)) ba bs bl (ws.set i { x with sees := ep }) := by
  have h1 := h.a.other (p := ⟨bs, i, none⟩) h.dif (.int .u64 ep)
  have h2 := h.s.store i (.int .u64 ep)
  have h3 := h.l.other (p := ⟨bs, i, none⟩) (fun e => h.al.2 e.symm) (.int .u64 ep)
  refine ⟨?_, by rw [map_set_arr]; exact h2, ?_, h.dif⟩
  · rw [map_set_id _ ws i x _ hx (by rfl)]; exact h1
  · rw [map_set_id _ ws i x _ hx (by rfl)]; exact h3
theorem Mir.at {w : World} {ba bs bl : Nat} {ws : List Wk} (h : Mir w ba bs bl ws) {i : Nat} {x : Wk} (hx : ws[i]? = some x) :
    w.cell? ⟨ba, i, none⟩ = some (.int .u64 x.at_) ∧ w.cell? ⟨bs, i, none⟩ = some (.int .u64 x.sees) ∧ w.cell? ⟨bl, i, none⟩ = some (.bool x.looks) := by
  refine ⟨?_, ?_, ?_⟩
  · rw [h.a.cell]; simp [hx]
  · rw [h.s.cell]; simp [hx]
  · rw [h.l.cell]; simp [hx]

/-- the statement's state: the pins, the three rows, the epochs told, how many were swept -/
structure SafeAt (w wr : World) (N g lw ba bs bl n : Nat) (ws : List Wk) (wts : List Wt) (wv ve : Value) (es : List Int) (sw : Nat) : Prop where
  pa : PA w wr N g lw ws wts wv
  mir : Mir wr ba bs bl ws
  len : ws.length = n
  e : wr.ownsRow N 30 1 ve es.length (es.map (Value.int .u64))
  ap : ∀ b, wv.ownBlock = some b → ve.ownBlock ≠ some b
  cnt : sw + wts.length = es.length
  each : ∀ x ∈ wts, ∃ i : Nat, x.slot = (i : Int) ∧ es[i]? = some x.ep
  wf : (∀ x ∈ ws, x.at_ ≤ 18446744073709551615) ∧ ∀ e ∈ es, e ≤ 18446744073709551615
  lo : ∀ b ∈ [ba, bs, bl], w.heap.size ≤ b ∧ b < N ∧ b ≠ g ∧ b ≠ lw

/-- the world has changed in the pins' own blocks alone -/
theorem SafeAt.pins {w wr w' : World} {N g lw ba bs bl n sw sw' : Nat} {ws : List Wk} {wts wts' : List Wt} {wv wv' ve : Value} {es : List Int} {S : List Nat} (h : SafeAt w wr N g lw ba bs bl n ws wts wv ve es sw)
    (hp : PA w w' N g lw ws wts' wv') (u : Upd S wr w') (hS : ∀ s, s ∈ S → s ∈ g :: lw :: wv.ownBlock.toList) (hv : ∀ b, wv'.ownBlock = some b → wv.ownBlock = some b ∨ wr.heap.size ≤ b)
    (hc : sw' + wts'.length = es.length) (he : ∀ x ∈ wts', ∃ i : Nat, x.slot = (i : Int) ∧ es[i]? = some x.ep) : SafeAt w w' N g lw ba bs bl n ws wts' wv' ve es sw' := by
  have hno : ∀ b, b ∈ [ba, bs, bl] → b ∉ S := by
    intro b hb hs
    have h1 := h.lo b hb
    have h2 := hS b hs
    rcases List.mem_cons.1 h2 with e | h2
    · exact h1.2.2.1 e
    · rcases List.mem_cons.1 h2 with e | h2
      · exact h1.2.2.2 e
      · have := (h.pa.is.foot (b := b) (by simpa using h2)).1; omega
  refine ⟨hp, h.mir.upd u (hno _ (by simp)) (hno _ (by simp)) (hno _ (by simp)), h.len, ownsRow_upd h.e u (fun s hs he => ?_), fun b hb he => ?_, hc, he, h.wf, h.lo⟩
  · have h2 := hS s hs
    have h3 := (own_block_lt h.e he).1
    rcases List.mem_cons.1 h2 with e | h2
    · have := h.pa.is.gN; omega
    · rcases List.mem_cons.1 h2 with e | h2
      · have := h.pa.is.lN; omega
      · exact h.ap s (by simpa using h2) he
  · rcases hv b hb with h1 | h1
    · exact h.ap b h1 he
    · have := (own_block_lt h.e he).2; omega
theorem SafeAt.upd {w wr w' : World} {N g lw ba bs bl n sw : Nat} {ws : List Wk} {wts : List Wt} {wv ve : Value} {es : List Int} (h : SafeAt w wr N g lw ba bs bl n ws wts wv ve es sw) (u : Upd [] wr w') : SafeAt w w' N g lw ba bs bl n ws wts wv ve es sw :=
  h.pins (h.pa.upd u) u (by simp) (fun b hb => .inl hb) h.cnt h.each
/-- a worker has turned, and its rows with it -/
theorem SafeAt.turn {w wr w1 w2 : World} {N g lw ba bs bl n sw : Nat} {ws ws' : List Wk} {wts : List Wt} {wv ve : Value} {es : List Int} (h : SafeAt w wr N g lw ba bs bl n ws wts wv ve es sw)
    (hp : PA w w1 N g lw ws' wts wv) (u1 : Upd [lw] wr w1) (u2 : Upd [ba, bs, bl] w1 w2) (hm : Mir w2 ba bs bl ws') (hl : ws'.length = n) (hw : ∀ x ∈ ws', x.at_ ≤ 18446744073709551615) : SafeAt w w2 N g lw ba bs bl n ws' wts wv ve es sw := by
  have hS : ∀ s, s ∈ [ba, bs, bl] → wv.ownBlock ≠ some s := fun s hs e => by have := (h.pa.is.foot e).1; have := (h.lo s hs).2.1; omega
  have hE : ∀ s, s ∈ [ba, bs, bl] → ve.ownBlock ≠ some s := fun s hs e => by have := (own_block_lt h.e e).1; have := (h.lo s hs).2.1; omega
  have hg : g ∉ [ba, bs, bl] := fun hs => (h.lo g hs).2.2.1 rfl
  have hlw : lw ∉ [ba, bs, bl] := fun hs => (h.lo lw hs).2.2.2 rfl
  have e1 := ownsRow_upd h.e u1 (fun s hs he => by have := (own_block_lt h.e he).1; have := h.pa.is.lN; simp at hs; omega)
  exact ⟨⟨hp.is.upd u2 hg hlw hS, Nat.le_trans hp.N u2.size, hp.g, hp.lw, hp.below.trans (u2.below hp.below.size (fun s hs => (h.lo s hs).1))⟩, hm, hl, ownsRow_upd e1 u2 hE, h.ap, h.cnt, h.each, ⟨hw, h.wf.2⟩, h.lo⟩

section
variable {w wr : World} {N g lw ba bs bl n sw : Nat} {ws : List Wk} {wts : List Wt} {wv ve : Value} {es : List Int}
theorem SafeAt.install (h : SafeAt w wr N g lw ba bs bl n ws wts wv ve es sw) (k ep : Int) (hep : ep ≤ 18446744073709551615) :
    Calls Try.prog 11 #[.pointer (some ⟨g, 0, none⟩), .int .i64 k, .int .u64 ep] wr fun e w' =>
      (∃ er : Int, e = .returned (.int .i64 er) ∧ er ≠ 0 ∧ SafeAt w w' N g lw ba bs bl n ws wts wv ve es sw) ∨
      (e = .returned (.int .i64 0) ∧ Below w.heap.size w w' ∧ ∃ (i : Nat) (x : Wk), k = (i : Int) ∧ i < n ∧ w'.cell? ⟨ba, i, none⟩ = some (.int .u64 x.at_) ∧ w'.frozen? ⟨ba, i, none⟩ = false ∧
        SafeAt w (w'.setCell ⟨ba, i, none⟩ (.int .u64 ep)) N g lw ba bs bl n (ws.set i { x with at_ := ep }) wts wv ve es sw) := by
  by_cases hi : k < 0 ∨ (ws.length : Int) ≤ k
  · refine (install_arg h.pa.is k ep hi).mono ?_
    rintro e w' ⟨rfl, rfl⟩
    exact .inl ⟨1, rfl, by decide, h⟩
  · obtain ⟨i, rfl⟩ : ∃ i : Nat, k = i := ⟨k.toNat, by omega⟩
    have hil : i < ws.length := by omega
    have hx : ws[i]? = some ws[i] := List.getElem?_eq_getElem hil
    generalize ws[i] = x at hx
    by_cases hlt : ep < x.at_
    · refine (install_low h.pa.is i i ep x rfl hx hlt).mono ?_
      rintro e w' ⟨rfl, rfl⟩
      exact .inl ⟨23, rfl, by decide, h⟩
    · have hc := h.pa.install i ep
      rw [show mInstall ws i ep = (ws.set i { x with at_ := ep }, 0) by simp [mInstall, hx, hlt]; omega] at hc
      refine hc.mono ?_
      rintro e w' ⟨rfl, h1, h2⟩
      have hm := h.mir.upd h2 (by simpa using (h.lo ba (by simp)).2.2.2) (by simpa using (h.lo bs (by simp)).2.2.2) (by simpa using (h.lo bl (by simp)).2.2.2)
      refine .inr ⟨rfl, h1.below, i, x, rfl, by rw [← h.len]; exact hil, (hm.at hx).1, hm.a.frozen i, h.turn h1 h2 ((Upd.refl _ _).setCell (by simp) _) (hm.setA hx ep) (by rw [List.length_set]; exact h.len) (fun y hy => ?_)⟩
      rcases List.mem_or_eq_of_mem_set hy with h3 | rfl
      · exact h.wf.1 y h3
      · exact hep
theorem SafeAt.pin (h : SafeAt w wr N g lw ba bs bl n ws wts wv ve es sw) (k : Int) :
    Calls Try.prog 13 #[.pointer (some ⟨g, 0, none⟩), .int .i64 k] wr fun e w' =>
      (∃ er : Int, e = .returned (.tuple #[.int .u64 0, .int .i64 er]) ∧ er ≠ 0 ∧ SafeAt w w' N g lw ba bs bl n ws wts wv ve es sw) ∨
      (∃ (i : Nat) (x : Wk), e = .returned (.tuple #[.int .u64 x.at_, .int .i64 0]) ∧ k = (i : Int) ∧ i < n ∧ w'.cell? ⟨bl, i, none⟩ = some (.bool x.looks) ∧ w'.frozen? ⟨bl, i, none⟩ = false ∧ w'.cell? ⟨bs, i, none⟩ = some (.int .u64 x.sees) ∧ w'.frozen? ⟨bs, i, none⟩ = false ∧ bs ≠ bl ∧
        SafeAt w ((w'.setCell ⟨bl, i, none⟩ (.bool true)).setCell ⟨bs, i, none⟩ (.int .u64 x.at_)) N g lw ba bs bl n (ws.set i { x with looks := true, sees := x.at_ }) wts wv ve es sw) := by
  by_cases hi : k < 0 ∨ (ws.length : Int) ≤ k
  · refine (pin_arg h.pa.is k hi).mono ?_
    rintro e w' ⟨rfl, rfl⟩
    exact .inl ⟨1, rfl, by decide, h⟩
  · obtain ⟨i, rfl⟩ : ∃ i : Nat, k = i := ⟨k.toNat, by omega⟩
    have hil : i < ws.length := by omega
    have hx : ws[i]? = some ws[i] := List.getElem?_eq_getElem hil
    generalize ws[i] = x at hx
    by_cases hlt : x.looks = true
    · refine (pin_state h.pa.is i i x rfl hx hlt).mono ?_
      rintro e w' ⟨rfl, rfl⟩
      exact .inl ⟨23, rfl, by decide, h⟩
    · have hc := h.pa.pin i
      rw [show mPin ws i = (ws.set i { x with looks := true, sees := x.at_ }, x.at_, 0) by simp [mPin, hx, hlt]; omega] at hc
      refine hc.mono ?_
      rintro e w' ⟨rfl, h1, h2⟩
      have hm := h.mir.upd h2 (by simpa using (h.lo ba (by simp)).2.2.2) (by simpa using (h.lo bs (by simp)).2.2.2) (by simpa using (h.lo bl (by simp)).2.2.2)
      have hm2 := (hm.setL hx true).setS (i := i) (x := { x with looks := true }) (by rw [List.getElem?_set_self hil]) x.at_
      rw [List.set_set] at hm2
      refine .inr ⟨i, x, rfl, rfl, by rw [← h.len]; exact hil, (hm.at hx).2.2, hm.l.frozen i, (hm.at hx).2.1, hm.s.frozen i, hm.al.2, h.turn h1 h2 (((Upd.refl _ _).setCell (by simp) _).setCell (by simp) _) hm2 (by rw [List.length_set]; exact h.len) (fun y hy => ?_)⟩
      rcases List.mem_or_eq_of_mem_set hy with h3 | rfl
      · exact h.wf.1 y h3
      · exact h.wf.1 x (List.mem_of_getElem? hx)
theorem SafeAt.unpin (h : SafeAt w wr N g lw ba bs bl n ws wts wv ve es sw) (k : Int) :
    Calls Try.prog 15 #[.pointer (some ⟨g, 0, none⟩), .int .i64 k] wr fun e w' =>
      (∃ er : Int, e = .returned (.int .i64 er) ∧ er ≠ 0 ∧ SafeAt w w' N g lw ba bs bl n ws wts wv ve es sw) ∨
      (e = .returned (.int .i64 0) ∧ ∃ (i : Nat) (x : Wk), k = (i : Int) ∧ i < n ∧ w'.cell? ⟨bl, i, none⟩ = some (.bool x.looks) ∧ w'.frozen? ⟨bl, i, none⟩ = false ∧
        SafeAt w (w'.setCell ⟨bl, i, none⟩ (.bool false)) N g lw ba bs bl n (ws.set i { x with looks := false }) wts wv ve es sw) := by
  by_cases hi : k < 0 ∨ (ws.length : Int) ≤ k
  · refine (unpin_arg h.pa.is k hi).mono ?_
    rintro e w' ⟨rfl, rfl⟩
    exact .inl ⟨1, rfl, by decide, h⟩
  · obtain ⟨i, rfl⟩ : ∃ i : Nat, k = i := ⟨k.toNat, by omega⟩
    have hil : i < ws.length := by omega
    have hx : ws[i]? = some ws[i] := List.getElem?_eq_getElem hil
    generalize ws[i] = x at hx
    by_cases hlt : x.looks = true
    · have hc := h.pa.unpin i
      rw [show mUnpin ws i = (ws.set i { x with looks := false }, 0) by simp [mUnpin, hx, hlt]; omega] at hc
      refine hc.mono ?_
      rintro e w' ⟨rfl, h1, h2⟩
      have hm := h.mir.upd h2 (by simpa using (h.lo ba (by simp)).2.2.2) (by simpa using (h.lo bs (by simp)).2.2.2) (by simpa using (h.lo bl (by simp)).2.2.2)
      refine .inr ⟨rfl, i, x, rfl, by rw [← h.len]; exact hil, (hm.at hx).2.2, hm.l.frozen i, h.turn h1 h2 ((Upd.refl _ _).setCell (by simp) _) (hm.setL hx false) (by rw [List.length_set]; exact h.len) (fun y hy => ?_)⟩
      rcases List.mem_or_eq_of_mem_set hy with h3 | rfl
      · exact h.wf.1 y h3
      · exact h.wf.1 x (List.mem_of_getElem? hx)
    · refine (unpin_state h.pa.is i i x rfl hx (by simpa using hlt)).mono ?_
      rintro e w' ⟨rfl, rfl⟩
      exact .inl ⟨23, rfl, by decide, h⟩
theorem count_swept (o : Int) (l : List Wt) : (l.flatMap (take1 o)).length + (l.filter (stay o)).length = l.length := by
  induction l with
  | nil => rfl
  | cons a l ih =>
    rw [List.flatMap_cons, List.length_append, List.length_cons]
    by_cases ha : a.ep ≤ o
    · rw [List.filter_cons_of_neg (by simp [stay]; omega)]
      have : (take1 o a).length = 1 := by simp [take1, ha]
      omega
    · rw [List.filter_cons_of_pos (by simp [stay]; omega), List.length_cons]
      have : (take1 o a).length = 0 := by simp [take1, ha]
      omega
theorem SafeAt.sweep (h : SafeAt w wr N g lw ba bs bl n ws wts wv ve es sw) :
    Calls Try.prog 19 #[.pointer (some ⟨g, 0, none⟩)] wr fun e w' => ∃ rv wv' wts', ∃ outs : List (Int × Int), e = .returned rv ∧ SafeAt w w' N g lw ba bs bl n ws wts' wv' ve es (sw + outs.length) ∧
      w'.ownsRow wr.heap.size 33 2 rv outs.length (outs.flatMap encR) ∧ (∀ y ∈ outs, ∃ (i : Nat) (ep : Int), y.1 = (i : Int) ∧ es[i]? = some ep ∧ Low ep ws) ∧ (∀ x ∈ wts', oldest ws < x.ep) := by
  refine h.pa.sweep.mono ?_
  rintro e w' ⟨rv, wv', rfl, h1, h2, h3, h4⟩
  have hs : ∀ s, s ∈ g :: wv.ownBlock.toList → s ∈ g :: lw :: wv.ownBlock.toList := fun s hs => by rcases List.mem_cons.1 hs with rfl | hs <;> simp_all
  have hc := count_swept (oldest ws) wts
  refine ⟨rv, wv', _, _, rfl, h.pins h1 h4 hs (fun b hb => .inl (by rw [← h2]; exact hb)) (by have := h.cnt; omega) (fun x hx => h.each x (List.mem_filter.1 hx).1), h3, fun y hy => ?_, fun x hx => by simpa [stay] using (List.mem_filter.1 hx).2⟩
  obtain ⟨x, hx, hy⟩ := List.mem_flatMap.1 hy
  unfold take1 at hy
  split at hy
  · rename_i hle
    obtain rfl : y = (x.slot, x.turn) := by simpa using hy
    obtain ⟨i, hi, he⟩ := h.each x hx
    exact ⟨i, x.ep, hi, he, fun z hz => by have := low_oldest ws z hz; exact ⟨by omega, fun e => by have := this.2 e; omega⟩⟩
  · simp at hy
theorem SafeAt.retired {w1 w2 : World} {wv1 ve' : Value} {ep : Int} {o : Obj} (h : SafeAt w wr N g lw ba bs bl n ws wts wv ve es sw) (hep : ep ≤ 18446744073709551615) (hp : PA w w1 N g lw ws (wts ++ [⟨es.length, 0, ep⟩]) wv1) (u1 : Upd (g :: wv.ownBlock.toList) wr w1)
    (hv : ∀ b, wv1.ownBlock = some b → wv.ownBlock = some b ∨ wr.heap.size ≤ b)
    (hown : w2.ownsRow N 30 1 ve' (es.length + 1) (es.map (Value.int .u64) ++ [Value.int .u64 ep])) (hg : (w1.alloc o).grownBy w2 ve.ownBlock) (hat : ve'.ownBlock = ve.ownBlock ∨ ve'.ownBlock = some (w1.alloc o).heap.size) :
    SafeAt w w2 N g lw ba bs bl n ws (wts ++ [⟨es.length, 0, ep⟩]) wv1 ve' (es ++ [ep]) sw := by
  have hs : ∀ s, s ∈ g :: wv.ownBlock.toList → s ∈ g :: lw :: wv.ownBlock.toList := fun s hs => by rcases List.mem_cons.1 hs with rfl | hs <;> simp_all
  have hno : ∀ b, b ∈ [ba, bs, bl] → b ∉ g :: wv.ownBlock.toList := by
    intro b hb hm
    have h1 := h.lo b hb
    rcases List.mem_cons.1 hm with e | h2
    · exact h1.2.2.1 e
    · have := (h.pa.is.foot (b := b) (by simpa using h2)).1; omega
  have he1 := ownsRow_upd h.e u1 (fun s hs he => by
    have h3 := (own_block_lt h.e he).1
    rcases List.mem_cons.1 hs with e | h2
    · have := h.pa.is.gN; omega
    · exact h.ap s (by simpa using h2) he)
  have hve : ∀ b, ve.ownBlock = some b → N ≤ b ∧ b < wr.heap.size := fun b hb => own_block_lt h.e hb
  have hu : Upd ve.ownBlock.toList (w1.alloc o) w2 := ⟨hg.os, hg.tape, hg.output, hg.size, fun k hk hn => hg.block k hk (fun e => hn (by rw [← e]; simp))⟩
  have hu' : Upd ve.ownBlock.toList w1 w2 := ((Upd.refl _ w1).alloc o).trans hu (fun t ht => .inl ht)
  have hw0 : w.heap.size ≤ N := by have := h.lo ba (by simp); omega
  have hvb : ∀ s, s ∈ ve.ownBlock.toList → N ≤ s ∧ s < wr.heap.size := fun s hs => hve s (by simpa using hs)
  have hgN := h.pa.is.gN
  have hlN := h.pa.is.lN
  have hap : ∀ b, wv1.ownBlock = some b → ve.ownBlock ≠ some b := fun b hb he => by
    rcases hv b hb with h1 | h1
    · exact h.ap b h1 he
    · have := (hve b he).2; omega
  have hm1 := h.mir.upd u1 (hno _ (by simp)) (hno _ (by simp)) (hno _ (by simp))
  have hlo : ∀ b, b ∈ [ba, bs, bl] → b ∉ ve.ownBlock.toList := fun b hb hm => by have := (hvb b hm).1; have := (h.lo b hb).2.1; omega
  refine ⟨⟨hp.is.upd hu' (fun hm => by have := (hvb g hm).1; omega) (fun hm => by have := (hvb lw hm).1; omega) (fun s hs he => hap s he (by simpa using hs)), Nat.le_trans hp.N hu'.size, hp.g, hp.lw,
    hp.below.trans (hu'.below hp.below.size (fun s hs => by have := (hvb s hs).1; omega))⟩, hm1.upd hu' (hlo _ (by simp)) (hlo _ (by simp)) (hlo _ (by simp)), h.len, by simpa using hown, fun b hb he => ?_, ?_, ?_, ⟨h.wf.1, ?_⟩, h.lo⟩
  · rcases hat with h1 | h1
    · exact hap b hb (by rw [← h1]; exact he)
    · rw [h1] at he
      have := (hp.is.foot hb).2
      simp at he; omega
  · have := h.cnt; simp; omega
  · intro x hx
    rcases List.mem_append.1 hx with h1 | h1
    · obtain ⟨i, hi, he⟩ := h.each x h1
      exact ⟨i, hi, by rw [List.getElem?_append_left (List.getElem?_eq_some_iff.1 he).1]; exact he⟩
    · obtain rfl : x = ⟨es.length, 0, ep⟩ := by simpa using h1
      exact ⟨es.length, rfl, by simp⟩
  · intro e he
    rcases List.mem_append.1 he with h1 | h1
    · exact h.wf.2 e h1
    · obtain rfl : e = ep := by simpa using h1
      exact hep
end
end Go.Proofs.Ytembadjfialenaa
