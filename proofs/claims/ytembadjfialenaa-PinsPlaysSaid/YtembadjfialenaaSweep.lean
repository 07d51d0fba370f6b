/- Sweep, and what it calls: the function value, the search, the deletion. Conditions: the pins as before. -/
import Derived.Test.YtembadjfialenaaPins2
import Derived.Laws.IdiomCopy
namespace Go.Proofs.Ytembadjfialenaa
open Go Go.RowKit
set_option maxHeartbeats 400000

/-- From w to w', of the blocks below M only those of S have changed. -/
structure Kept (M : Nat) (S : List Nat) (w w' : World) : Prop where
  os : w'.os = w.os
  tape : w'.tape = w.tape
  output : w'.output = w.output
  size : w.heap.size ≤ w'.heap.size
  block : ∀ k, k < M → k ∉ S → w'.heap[k]? = w.heap[k]?
theorem Kept.refl (M : Nat) (S : List Nat) (w : World) : Kept M S w w := ⟨rfl, rfl, rfl, Nat.le_refl _, fun _ _ _ => rfl⟩
theorem Kept.trans {M : Nat} {S T : List Nat} {a b c : World} (h : Kept M S a b) (k : Kept M T b c) (hT : ∀ t, t ∈ T → t ∈ S ∨ M ≤ t) : Kept M S a c :=
  ⟨k.os.trans h.os, k.tape.trans h.tape, k.output.trans h.output, Nat.le_trans h.size k.size, fun i hi hn =>
    (k.block i hi (fun ht => (hT i ht).elim hn (fun hle => Nat.not_le_of_lt hi hle))).trans (h.block i hi hn)⟩
theorem Kept.more {M : Nat} {S T : List Nat} {w w' : World} (h : Kept M S w w') (hS : ∀ s, s ∈ S → s ∈ T) : Kept M T w w' := ⟨h.os, h.tape, h.output, h.size, fun k hk hn => h.block k hk fun hs => hn (hS k hs)⟩
theorem Kept.of_upd {M : Nat} {S : List Nat} {w w' : World} (h : Upd S w w') (hM : M ≤ w.heap.size) : Kept M S w w' := ⟨h.os, h.tape, h.output, h.size, fun k hk hn => h.block k (Nat.lt_of_lt_of_le hk hM) hn⟩
theorem Kept.blk {M : Nat} {S : List Nat} {w w' : World} {g : Nat} {t : TypeId} {cs : Array Value} (h : Blk w g t cs) (u : Kept M S w w') (hg : g < M) (hS : g ∉ S) : Blk w' g t cs := (u.block g hg hS).trans h
theorem Kept.own {M : Nat} {S : List Nat} {w w' : World} {base : Nat} {e : TypeId} {size n : Nat} {v : Value} {xs : List Value} (h : w.ownsRow base e size v n xs) (u : Kept M S w w') (hM : ∀ b, v.ownBlock = some b → b < M ∧ b ∉ S) : w'.ownsRow base e size v n xs := by
  refine ⟨h.1, h.2.imp id fun ⟨g, cap, cur, hv, hg, hh, r⟩ => ⟨g, cap, cur, hv, hg, ?_, r⟩⟩
  have := hM g (by rw [hv]; rfl)
  rw [u.block g this.1 this.2]; exact hh

theorem infoR : (Try.prog.info? 33).map (fun i => (i.zero, i.size, i.bytes)) = some (some (.agg #[.int .i64 0, .int .u32 0]), 2, 16) := by kernel_rfl

/-- what the function value holds: the oldest epoch, and what has been taken -/
structure OutAt (w : World) (M Q O : Nat) (o : Int) (ov : Value) (outs : List (Int × Int)) : Prop where
  q : Blk w Q 30 #[.int .u64 o]
  out : Blk w O 48 #[ov]
  own : w.ownsRow M 33 2 ov outs.length (outs.flatMap encR)
  QM : Q < M
  OM : O < M
  MS : M ≤ w.heap.size
theorem OutAt.upd {w w' : World} {M Q O : Nat} {o : Int} {ov : Value} {outs : List (Int × Int)} (h : OutAt w M Q O o ov outs) (u : Upd [] w w') : OutAt w' M Q O o ov outs :=
  { h with q := h.q.upd u (by simp), out := h.out.upd u (by simp), own := ownsRow_upd h.own u (by simp), MS := Nat.le_trans h.MS u.size }
theorem OutAt.ne {w : World} {M Q O : Nat} {o : Int} {ov : Value} {outs : List (Int × Int)} (h : OutAt w M Q O o ov outs) : Q ≠ O := h.q.ne h.out (by decide)

/-- what is taken of one thing -/
def take1 (o : Int) (x : Wt) : List (Int × Int) := if x.ep ≤ o then [(x.slot, x.turn)] else []

theorem del_no {w : World} {M Q O : Nat} {o : Int} {ov : Value} {outs : List (Int × Int)} (h : OutAt w M Q O o ov outs) (x : Wt) (hx : ¬ x.ep ≤ o) :
    Calls Try.prog 26 #[.agg (encT x).toArray, .pointer (some ⟨Q, 0, none⟩), .pointer (some ⟨O, 0, none⟩)] w fun e w' => e = .returned (.bool false) ∧ Upd [] w w' := by
  have c0 := h.q.cell 0
  simp only [List.getElem?_toArray, List.getElem?_cons_zero] at c0
  have hlt := h.q.lt
  obtain ⟨slot, turn, ep⟩ := x
  simp only [encT]
  dsimp only at hx
  go_enter Try.func26, Try.ntmps26
  go_wp2
  go_ret
  exact ⟨rfl, (Upd.refl _ _).alloc _⟩

theorem del_yes {w : World} {M Q O : Nat} {o : Int} {ov : Value} {outs : List (Int × Int)} (h : OutAt w M Q O o ov outs) (x : Wt) (hx : x.ep ≤ o) (hf : outs.length < 1000) :
    Calls Try.prog 26 #[.agg (encT x).toArray, .pointer (some ⟨Q, 0, none⟩), .pointer (some ⟨O, 0, none⟩)] w fun e w' => e = .returned (.bool true) ∧
      ∃ ov', OutAt w' M Q O o ov' (outs ++ [(x.slot, x.turn)]) ∧ Kept M [O] w w' ∧ ∀ k, k < w.heap.size → k ≠ O → ov.ownBlock ≠ some k → w'.heap[k]? = w.heap[k]? := by
  obtain ⟨i0, hi0, hz0, hz1, hz2⟩ := info_parts infoR
  have c0 := h.q.cell 0
  have c1 := h.out.cell 0
  have f1 := h.out.frozen 0
  simp only [List.getElem?_toArray, List.getElem?_cons_zero] at c0 c1
  have hlt := h.q.lt
  have hlt1 := h.out.lt
  have hne := h.ne
  have HH := Lib.hid h
  have hMS := h.MS
  have hown := h.own
  obtain ⟨slot, turn, ep⟩ := x
  simp only [encT]
  dsimp only at hx
  obtain ⟨k, hk⟩ : ∃ k, k = outs.length := ⟨_, rfl⟩
  rw [← hk] at hown hf
  generalize hfl : outs.flatMap encR = fl at hown
  have HK := Lib.hid hk
  have HFL := Lib.hid hfl
  have HOWN := Lib.hid hown
  have HNB : Hid (∀ o' : Obj, ((w.alloc o').alloc (.cells #[.int .i64 slot, .int .u32 turn] 33)).heap[w.heap.size + 1]? = some (.cells #[.int .i64 slot, .int .u32 turn] 33 (0, 0))) := by
    intro o'
    have := heap_alloc_new (w.alloc o') (.cells #[.int .i64 slot, .int .u32 turn] 33)
    rwa [World.size_alloc] at this
  clear h hk hfl hown
  go_enter Try.func26, Try.ntmps26
  go_wp2_with (at_builtin; refine wpList_append_own_at _ rfl _ _ 48 rfl M 33 i0 _ 2 16 Try.underlying48 hi0 hz0 hz1 hz2 rfl (by decide) ov k fl rfl ((HOWN.out.alloc _).alloc _) ⟨w.heap.size + 1, 0, none⟩ 1 1 [.int .i64 slot, .int .u32 turn] rfl rfl ?c1 ?c2 ?c3 ?c4 ?c5 ?_)
  case c1 => exact World.news_of_block (cs := #[.int .i64 slot, .int .u32 turn]) (t := 33) (fr := (0, 0)) (HNB.out _)
  case c2 => simp [Value.oneCell']
  case c3 => unfold maxLen; omega
  case c4 => omega
  case c5 => simp; omega
  · intro ov' w1 hown' hgrow _ hat
    have hbM := grown_upd ((HOWN.out.alloc _).alloc _) hgrow (N := M) (by simp; omega)
    have B0 := ((HH.out.q.alloc (.cells #[.int .i64 slot, .int .u32 turn, .int .u64 ep] 75)).alloc (.cells #[.int .i64 slot, .int .u32 turn] 33)).below hbM HH.out.QM
    have B1 := ((HH.out.out.alloc (.cells #[.int .i64 slot, .int .u32 turn, .int .u64 ep] 75)).alloc (.cells #[.int .i64 slot, .int .u32 turn] 33)).below hbM HH.out.OM
    have d0 := B0.cell 0
    have d1 := B1.cell 0
    have g1 := B1.frozen 0
    simp only [List.getElem?_toArray, List.getElem?_cons_zero] at d0 d1
    have B2 : Blk w1 w.heap.size 75 #[.int .i64 slot, .int .u32 turn, .int .u64 ep] := by
      refine (hgrow.block w.heap.size (by simp; omega) (fun e => ?_)).trans ((Blk.new w 75 #[.int .i64 slot, .int .u32 turn, .int .u64 ep]).alloc _)
      have := (own_block_lt HOWN.out e.symm).2
      omega
    have d2 := B2.cell 2
    simp only [List.getElem?_toArray, List.getElem?_cons_zero, List.getElem?_cons_succ] at d2
    have hOn : O ≠ w.heap.size := by omega
    obtain ⟨A', c', hvf, _⟩ := own_form hown'
    rw [hvf] at hown' ⊢
    have HF : Hid (OutAt (w1.setCell ⟨O, 0, none⟩ (.slice A' (k + 1) c')) M Q O o (.slice A' (k + 1) c') (outs ++ [(slot, turn)])) := by
      have e1 : (outs ++ [(slot, turn)]).flatMap encR = fl ++ [.int .i64 slot, .int .u32 turn] := by rw [List.flatMap_append, HFL.out]; rfl
      refine ⟨B0.other (p := ⟨O, 0, none⟩) hne _, by simpa using B1.store 0 (.slice A' (k + 1) c'), ?_, HH.out.QM, HH.out.OM, ?_⟩
      · rw [e1, List.length_append, ← HK.out]
        refine ownsRow_upd hown' ((Upd.refl [O] _).setCell (by simp) _) (fun s hs he => ?_)
        have := (own_block_lt hown' he).1
        have := HH.out.OM
        simp at hs; omega
      · have := hgrow.size
        simp [World.setCell] at this ⊢
        omega
    have HKp : Hid (Kept M [O] w (w1.setCell ⟨O, 0, none⟩ (.slice A' (k + 1) c'))) := by
      have k0 : Kept M [O] w w1 := (Kept.of_upd (((Upd.refl [O] w).alloc _).alloc _) hMS).trans (T := []) ⟨hbM.os, hbM.tape, hbM.output, hbM.size, fun b hb _ => hbM.block b hb⟩ (by simp)
      exact k0.trans (T := [O]) (Kept.of_upd ((Upd.refl [O] w1).setCell (by simp) _) (Nat.le_trans hMS k0.size)) (fun t ht => .inl ht)
    have HBl : Hid (∀ b, b < w.heap.size → b ≠ O → ov.ownBlock ≠ some b → (w1.setCell ⟨O, 0, none⟩ (.slice A' (k + 1) c')).heap[b]? = w.heap[b]?) := by
      intro b hb hbO hbo
      rw [heap_setCell_other w1 ⟨O, 0, none⟩ b _ hbO]
      refine (hgrow.block b (by simp; omega) (fun e => hbo e.symm)).trans ?_
      rw [Below.heap_alloc _ _ _ (by simp; omega), Below.heap_alloc _ _ _ hb]
    clear hvf hown' hgrow hat hbM
    go_wp2
    go_ret
    exact ⟨rfl, _, HF.out, HKp.out, HBl.out⟩

/-- the function value, asked of one thing -/
theorem del_any {w : World} {M Q O : Nat} {o : Int} {ov : Value} {outs : List (Int × Int)} (h : OutAt w M Q O o ov outs) (x : Wt) (hf : outs.length < 1000) :
    Calls Try.prog 26 #[.agg (encT x).toArray, .pointer (some ⟨Q, 0, none⟩), .pointer (some ⟨O, 0, none⟩)] w fun e w' => e = .returned (.bool (decide (x.ep ≤ o))) ∧
      ∃ ov', OutAt w' M Q O o ov' (outs ++ take1 o x) ∧ Kept M [O] w w' ∧ ∀ k, k < w.heap.size → k ≠ O → ov.ownBlock ≠ some k → w'.heap[k]? = w.heap[k]? := by
  by_cases hx : x.ep ≤ o
  · refine (del_yes h x hx hf).mono ?_
    rintro e w' ⟨rfl, ov', h1, h2, h3⟩
    exact ⟨ret_bool (by simp [hx]), ov', by simpa [take1, hx] using h1, h2, h3⟩
  · refine (del_no h x hx).mono ?_
    rintro e w' ⟨rfl, hu⟩
    exact ⟨ret_bool (by simp [hx]), ov, by simpa [take1, hx] using h.upd hu, Kept.of_upd (hu.more (by simp)) h.MS, fun k hk _ _ => hu.block k hk (by simp)⟩

/-- the row of what waits, for a walk -/
theorem row_at {w : World} {N n c : Nat} {A : Option Addr} {R : List Wt} (h : w.ownsRow N 75 3 (.slice A n c) n (R.flatMap encT)) (i : Nat) (hi : i < n) :
    ∃ b x, A = some ⟨b, 0, none⟩ ∧ N ≤ b ∧ b < w.heap.size ∧ R[i]? = some x ∧ w.cell? ⟨b, i * 3, none⟩ = some (.int .i64 x.slot) ∧ w.cell? ⟨b, i * 3 + 1, none⟩ = some (.int .u32 x.turn) ∧ w.cell? ⟨b, i * 3 + 2, none⟩ = some (.int .u64 x.ep) ∧ (∀ j, w.frozen? ⟨b, j, none⟩ = false) := by
  obtain ⟨A', c', hv, _, hA, _⟩ := own_form h
  injection hv with e1 e2 e3
  subst e1
  obtain ⟨b, hb, hN, hlt⟩ := hA (by omega)
  subst hb
  have hl : R.length = n := by have := h.1; rw [flat_length encT_len] at this; omega
  have hil : i < R.length := by omega
  refine ⟨b, R[i], rfl, hN, hlt, List.getElem?_eq_getElem hil, ?_, ?_, ?_, h.frozenAt⟩
  · rw [h.cellAt (i * 3) (by omega)]; have := flat_get encT_len R i 0 R[i] (List.getElem?_eq_getElem hil) (by omega); simpa [encT] using this
  · rw [h.cellAt (i * 3 + 1) (by omega)]; have := flat_get encT_len R i 1 R[i] (List.getElem?_eq_getElem hil) (by omega); simpa [encT] using this
  · rw [h.cellAt (i * 3 + 2) (by omega)]; have := flat_get encT_len R i 2 R[i] (List.getElem?_eq_getElem hil) (by omega); simpa [encT] using this

theorem take_snoc {α : Type} {R : List α} {k : Nat} {x : α} (h : R[k]? = some x) : R.take (k + 1) = R.take k ++ [x] := by
  rw [List.take_add_one, h]; rfl

theorem index_any {w : World} {M Q O N n c : Nat} {o : Int} {ov : Value} {A : Option Addr} {R : List Wt} (h : OutAt w M Q O o ov []) (hr : w.ownsRow N 75 3 (.slice A n c) n (R.flatMap encT)) (hN : ∀ b, A = some ⟨b, 0, none⟩ → b < M ∧ b ≠ O)
    (hn : n ≤ 64) (hRl : R.length = n) :
    Calls Try.prog 27 #[.slice A n c, .func (.func 26) #[] #[.pointer (some ⟨Q, 0, none⟩), .pointer (some ⟨O, 0, none⟩)]] w fun e w' =>
      Kept M [O] w w' ∧ ((e = .returned (.int .i64 (-1)) ∧ (∀ x ∈ R, o < x.ep) ∧ ∃ ov', OutAt w' M Q O o ov' []) ∨
        ∃ i : Nat, e = .returned (.int .i64 i) ∧ i < n ∧ (∀ x ∈ R.take i, o < x.ep) ∧ (∃ x, R[i]? = some x ∧ x.ep ≤ o ∧ ∃ ov', OutAt w' M Q O o ov' (take1 o x))) := by
  have HH := Lib.hid h
  have HR := Lib.hid hr
  have HN := Lib.hid hN
  have HL := Lib.hid hRl
  clear h hr hN hRl
  go_enter Try.func27, Try.ntmps27
  go_wp2
  go_loopw [8] (fun i wr => ∃ k : Nat, k ≤ n ∧ i = .int .i64 k ∧ (∃ ov', OutAt wr M Q O o ov' []) ∧ Kept M [O] w wr ∧ ∀ x ∈ R.take k, o < x.ep) (fun i _ => n - (intOf i).toNat)
  case atStart => exact ⟨0, Nat.zero_le _, rfl, ⟨ov, HH.out⟩, Kept.refl _ _ _, by simp⟩
  case round =>
    obtain ⟨k, hk, rfl, ⟨ov', ho⟩, hkp, hall⟩ := hrel
    have HALL := Lib.hid hall
    clear hall
    by_cases hlt : k < n
    · have hr1 := Kept.own HR.out hkp (fun b hb => by
        obtain ⟨A1, c1, hv, _, hA, _⟩ := own_form HR.out
        injection hv with e1 e2 e3
        obtain ⟨g, hg, _⟩ := hA (by omega)
        rw [e1, hg] at hb
        have : g = b := by simpa [Value.ownBlock] using hb
        subst this
        have := HN.out g (by rw [e1, hg])
        exact ⟨this.1, by simp; exact this.2⟩)
      obtain ⟨b, x, rfl, _, _, hx, c0, c1, c2, _⟩ := row_at hr1 k hlt
      have HX := Lib.hid hx
      clear hr1 hx
      have hcall := Lib.hid (del_any ho x (by simp))
      go_wp2_with fail
      refine hcall.out.mono ?_
      rintro e w' ⟨rfl, ov'', h1, h2, _⟩
      have hkw := hkp.trans h2 (fun t ht => .inl ht)
      by_cases hx : x.ep ≤ o
      · have h1' : OutAt w' M Q O o ov'' (take1 o x) := by simpa using h1
        have HE := Lib.hid (show Kept M [O] w w' ∧ OutAt w' M Q O o ov'' (take1 o x) from ⟨hkw, h1'⟩)
        clear h1 h2 h1' hkw ho hkp
        simp only [hx, decide_true]
        go_wp2
        go_ret
        exact ⟨HE.out.1, .inr ⟨k, rfl, hlt, HALL.out, x, HX.out, hx, ov'', HE.out.2⟩⟩
      · have h1' : OutAt w' M Q O o ov'' [] := by simpa [take1, hx] using h1
        have HE := Lib.hid (show Kept M [O] w w' ∧ OutAt w' M Q O o ov'' [] from ⟨hkw, h1'⟩)
        clear h1 h2 h1' hkw ho hkp
        simp only [hx, decide_false]
        go_wp2
        refine ⟨⟨k + 1, by omega, by simp, ⟨ov'', HE.out.2⟩, HE.out.1, fun y hy => ?_⟩, by simp [intOf]; omega⟩
        rw [take_snoc HX.out, List.mem_append, List.mem_singleton] at hy
        exact hy.elim (HALL.out y) (fun e => by rw [e]; omega)
    · have hk' : k = n := by omega
      subst hk'
      have HE := Lib.hid (show Kept M [O] w wr ∧ OutAt wr M Q O o ov' [] from ⟨hkp, ho⟩)
      clear ho hkp
      go_wp2
      go_ret
      refine ⟨HE.out.1, .inl ⟨rfl, fun y hy => HALL.out y ?_, ov', HE.out.2⟩⟩
      rw [← HL.out, List.take_length]; exact hy
end Go.Proofs.Ytembadjfialenaa
