/- Parts of the proof, one behind the other: DCloneS, DCloneU, DClone2, DReplace, DCopy, DInsT, DInsP, DJoin. No condition of their own. -/
import Derived.Test.YtjcbaelefacolaaB1
import Derived.Test.YtjcbaelefacolaaB3
import Derived.Test.YtjcbaelefacolaaB2
import Derived.Lib.AppendZeros
import Derived.Lib.Overlaps
import Derived.Laws.IdiomCopy
import Derived.WalkKit
import Derived.Lib.Walk
/- slices.Clone at louver/delta.Sub: a row of the call's own. Condition: no more than 100000. -/
namespace Go.Proofs.Ytjcbaelefacolaa
open Go Go.RowKit
set_option maxHeartbeats 400000

set_option maxRecDepth 100000 in
theorem cloneS_any {w : World} {lo n c : Nat} {A : Option Addr} {ys : List Value} (h : RwIn w lo 5 A n c ys) (hl : n ≤ 100000) (h1 : ∀ u ∈ ys, u.oneCell' = true) :
    Calls Try.prog 42 #[.slice A n c] w fun e w' => ∃ A' c', e = .returned (.slice A' n c') ∧ w'.ownsRow w.heap.size 55 5 (.slice A' n c') n ys ∧ Upd [] w w' := by
  obtain ⟨j0, hj0, hy0, hy1, hy2⟩ := info_parts infoS
  cases A with
  | none =>
    obtain ⟨h2, h3⟩ := h.nl rfl
    subst h2
    subst h3
    obtain rfl : ys = [] := List.eq_nil_of_length_eq_zero (by simpa using h.l.1)
    clear h
    have hq : ∀ W : World, (binOp .eql 29 (.slice none 0 0) (.slice none 0 0)).run Try.prog W = .ok (.bool true) W := fun W => Lib.run_eql_slice_nil (P := Try.prog) (w := W) (h := Try.underlying29) ..
    go_enter Try.func42, Try.ntmps42
    go_wp2
    go_ret
    exact ⟨none, 0, rfl, World.ownsRow_nil _ _ _ _, Upd.refl _ _⟩
  | some a =>
    have HLN := Lib.hid h.l.1
    have H1 := Lib.hid h1
    have HRI := Lib.hid h.l
    clear h h1
    have hq : ∀ W : World, (binOp .eql 29 (.slice (some a) n c) (.slice none 0 0)).run Try.prog W = .ok (.bool false) W := fun W => Lib.run_eql_slice_nil (P := Try.prog) (w := W) (h := Try.underlying29) ..
    go_enter Try.func42, Try.ntmps42
    go_wp2_with (at_builtin; refine wpList_append_src _ rfl (.tmp 5) (.tmp 6) 29 rfl w.heap.size 55 j0 _ 5 40 Try.underlying29 hj0 hy0 hy1 hy2 rfl (by decide) (.slice (some ⟨w.heap.size, 0, none⟩) 0 0) 0 [] rfl (World.ownsRow_lit w #[] 0 (Nat.le_refl _) (by decide) rfl) (some a) n c ys rfl (fun e => by cases e) HLN.out ?s1 H1.out ?s3 ?s4 ?s5 ?_)
    case s1 => exact (HRI.out.below ((Below.refl _ _).alloc (Nat.le_refl _) (.cells #[] 55)) (Nat.le_refl _)).src
    case s3 => unfold maxLen; omega
    case s4 => omega
    case s5 => simp
    intro v1 w1 hown1 hg1 hat1
    have hb : Upd [] w w1 := ((Upd.refl [] w).alloc (.cells #[] 55)).trans (Upd.of_grown hg1) (fun t ht => .inr (by
      have ht' : t = w.heap.size := by simpa [Value.ownBlock] using ht
      omega))
    obtain ⟨A1, c1, hv1, _⟩ := own_form hown1
    subst hv1
    have HO := Lib.hid hown1
    have HB := Lib.hid hb
    clear hown1 hg1 hat1 hb
    go_wp2
    go_ret
    exact ⟨A1, c1, rfl, by simpa using HO.out, HB.out⟩
end Go.Proofs.Ytjcbaelefacolaa
/- slices.Clone at uint32: a row of the call's own. Condition: no more than 100000. -/
namespace Go.Proofs.Ytjcbaelefacolaa
open Go Go.RowKit
set_option maxHeartbeats 400000

set_option maxRecDepth 100000 in
theorem cloneU_any {w : World} {lo n c : Nat} {A : Option Addr} {ys : List Value} (h : RwIn w lo 1 A n c ys) (hl : n ≤ 100000) (h1 : ∀ u ∈ ys, u.oneCell' = true) :
    Calls Try.prog 48 #[.slice A n c] w fun e w' => ∃ A' c', e = .returned (.slice A' n c') ∧ w'.ownsRow w.heap.size 64 1 (.slice A' n c') n ys ∧ Upd [] w w' := by
  obtain ⟨j0, hj0, hy0, hy1, hy2⟩ := info_parts infoU
  cases A with
  | none =>
    obtain ⟨h2, h3⟩ := h.nl rfl
    subst h2
    subst h3
    obtain rfl : ys = [] := List.eq_nil_of_length_eq_zero (by simpa using h.l.1)
    clear h
    have hq : ∀ W : World, (binOp .eql 43 (.slice none 0 0) (.slice none 0 0)).run Try.prog W = .ok (.bool true) W := fun W => Lib.run_eql_slice_nil (P := Try.prog) (w := W) (h := Try.underlying43) ..
    go_enter Try.func48, Try.ntmps48
    go_wp2
    go_ret
    exact ⟨none, 0, rfl, World.ownsRow_nil _ _ _ _, Upd.refl _ _⟩
  | some a =>
    have HLN := Lib.hid h.l.1
    have H1 := Lib.hid h1
    have HRI := Lib.hid h.l
    clear h h1
    have hq : ∀ W : World, (binOp .eql 43 (.slice (some a) n c) (.slice none 0 0)).run Try.prog W = .ok (.bool false) W := fun W => Lib.run_eql_slice_nil (P := Try.prog) (w := W) (h := Try.underlying43) ..
    go_enter Try.func48, Try.ntmps48
    go_wp2_with (at_builtin; refine wpList_append_src _ rfl (.tmp 5) (.tmp 6) 43 rfl w.heap.size 64 j0 _ 1 4 Try.underlying43 hj0 hy0 hy1 hy2 rfl (by decide) (.slice (some ⟨w.heap.size, 0, none⟩) 0 0) 0 [] rfl (World.ownsRow_lit w #[] 0 (Nat.le_refl _) (by decide) rfl) (some a) n c ys rfl (fun e => by cases e) HLN.out ?s1 H1.out ?s3 ?s4 ?s5 ?_)
    case s1 => exact (HRI.out.below ((Below.refl _ _).alloc (Nat.le_refl _) (.cells #[] 64)) (Nat.le_refl _)).src
    case s3 => unfold maxLen; omega
    case s4 => omega
    case s5 => simp
    intro v1 w1 hown1 hg1 hat1
    have hb : Upd [] w w1 := ((Upd.refl [] w).alloc (.cells #[] 64)).trans (Upd.of_grown hg1) (fun t ht => .inr (by
      have ht' : t = w.heap.size := by simpa [Value.ownBlock] using ht
      omega))
    obtain ⟨A1, c1, hv1, _⟩ := own_form hown1
    subst hv1
    have HO := Lib.hid hown1
    have HB := Lib.hid hb
    clear hown1 hg1 hat1 hb
    go_wp2
    go_ret
    exact ⟨A1, c1, rfl, by simpa using HO.out, HB.out⟩
end Go.Proofs.Ytjcbaelefacolaa
/- The layer delta: a state of its own. Condition: rows no longer than 1000. -/
namespace Go.Proofs.Ytjcbaelefacolaa
open Go Go.RowKit
set_option maxHeartbeats 400000

structure CL (w wr : World) (T1 : Nat) (s : St) (h hh : SHd) (i : Nat) (tx : List (Trk × SH)) : Prop where
  box : Blk wr T1 31 (scells s hh).toArray
  p : wr.ownsRow w.heap.size 75 3 (.slice hh.pA s.ps.length hh.pc) s.ps.length (s.ps.flatMap encP)
  t : wr.ownsRow w.heap.size 76 4 (.slice hh.tA s.ts.length hh.tc) s.ts.length (tx.flatMap encT)
  b : wr.ownsRow w.heap.size 55 5 (.slice hh.bA s.bs.length hh.bc) s.bs.length (s.bs.flatMap encB)
  tm : tx.map (·.1) = s.ts
  lo : ∀ k x, k < i → tx[k]? = some x → wr.ownsRow w.heap.size 64 1 (.slice x.2.A x.1.ss.length x.2.c) x.1.ss.length (x.1.ss.map (Value.int .u32))
  hi : ∀ k, i ≤ k → tx[k]? = h.tx[k]?
  u : Upd [] w wr
theorem u32_one (l : List Int) : ∀ v ∈ l.map (Value.int .u32), v.oneCell' = true := by
  intro v hv
  obtain ⟨x, _, rfl⟩ := List.mem_map.1 hv
  rfl
/-- one more track's SSRCs are its own -/
theorem CL.next {w wr w1 : World} {T1 : Nat} {s : St} {h hh : SHd} {i g : Nat} {tx : List (Trk × SH)} (k : CL w wr T1 s h hh i tx) (hlt : i < s.ts.length) (hg : hh.tA = some ⟨g, 0, none⟩) (u : Upd [] wr w1) (x : Trk × SH) (hx : tx[i]? = some x) {A' : Option Addr} {c' : Nat}
    (ho : w1.ownsRow wr.heap.size 64 1 (.slice A' x.1.ss.length c') x.1.ss.length (x.1.ss.map (Value.int .u32))) :
    CL w (w1.setCell ⟨g, i * 4 + 3, none⟩ (.slice A' x.1.ss.length c')) T1 s h hh (i + 1) (tx.set i (x.1, ⟨A', c'⟩)) := by
  have ht := ownsRow_upd k.t u (by simp)
  have hb := k.box.upd u (by simp)
  have hgt : (Value.slice hh.tA s.ts.length hh.tc).ownBlock = some g := by rw [hg]; rfl
  have us : Upd [g] w1 (w1.setCell ⟨g, i * 4 + 3, none⟩ (.slice A' x.1.ss.length c')) := (Upd.refl [g] w1).setCell (.inl (by simp)) _
  have hne : ∀ {B size n : Nat} {e : TypeId} {v : Value} {xs : List Value}, w1.ownsRow B e size v n xs → e ≠ 76 → ∀ s, s ∈ [g] → v.ownBlock ≠ some s := fun {B size n e v xs} h' he s hs => by
    rw [List.mem_singleton] at hs
    subst hs
    exact own_apart ht h' (Ne.symm he) hgt
  have hgw : w.heap.size ≤ g := (own_block_lt k.t hgt).1
  refine ⟨?_, ownsRow_upd (ownsRow_upd k.p u (by simp)) us (hne (ownsRow_upd k.p u (by simp)) (by decide)), ?_, ownsRow_upd (ownsRow_upd k.b u (by simp)) us (hne (ownsRow_upd k.b u (by simp)) (by decide)), ?_, ?_, ?_, ?_⟩
  · refine hb.upd us ?_
    rw [List.mem_singleton]
    intro e
    exact own_box ht hb (by decide) (by rw [e]; exact hgt)
  · have hs := (by rw [hg] at ht; exact (ht.stored (i * 4 + 3) (.slice A' x.1.ss.length c')).1 : (w1.setCell ⟨g, i * 4 + 3, none⟩ (.slice A' x.1.ss.length c')).ownsRow w.heap.size 76 4 (.slice (some ⟨g, 0, none⟩) s.ts.length hh.tc) s.ts.length ((tx.flatMap encT).set (i * 4 + 3) (.slice A' x.1.ss.length c')))
    rw [flat_set encT_len tx i 3 x (x.1, ⟨A', c'⟩) _ hx (by omega) rfl] at hs
    rw [hg]
    exact hs
  · rw [List.map_set, k.tm]
    apply List.ext_getElem?
    intro j
    rw [List.getElem?_set]
    split
    · rename_i e
      subst e
      rw [← k.tm, List.getElem?_map, hx]
      rfl
    · rfl
  · intro j y hj hy
    by_cases hji : j = i
    · subst hji
      rw [List.getElem?_set_self (List.getElem?_eq_some_iff.1 hx).1] at hy
      obtain rfl := Option.some.inj hy
      exact ownsRow_upd (own_lower ho k.u.size) us (hne ho (by decide))
    · rw [List.getElem?_set_ne (Ne.symm hji)] at hy
      have h1 := ownsRow_upd (k.lo j y (by omega) hy) u (by simp)
      exact ownsRow_upd h1 us (hne h1 (by decide))
  · intro j hj
    rw [List.getElem?_set_ne (by omega)]
    exact k.hi j (by omega)
  · exact (k.u.next u).setCell (.inr hgw) _

set_option maxRecDepth 100000 in
set_option maxHeartbeats 2000000 in
theorem sclone_any {w : World} {s : St} {h : SHd} (hs : StIn w s h) (hp : s.ps.length ≤ 1000) (ht : s.ts.length ≤ 1000) (hb : s.bs.length ≤ 1000) (hx : ∀ t, t ∈ s.ts → t.ss.length ≤ 1000) :
    Calls Try.prog 21 #[.agg (scells s h).toArray] w fun e w' => ∃ h', e = .returned (.agg (scells s h').toArray) ∧ TR w' w.heap.size s h' ∧ Upd [] w w' := by
  have HS := Lib.hid hs
  have HX := Lib.hid hx
  clear hs hx
  obtain ⟨c, ps, ts, bs⟩ := s
  obtain ⟨pA, pc, tx, tA, tc, bA, bc⟩ := h
  unfold scells
  dsimp only at hp ht hb ⊢
  obtain ⟨n, hn⟩ : ∃ n, n = ps.length := ⟨_, rfl⟩
  obtain ⟨n2, hn2⟩ : ∃ n2, n2 = ts.length := ⟨_, rfl⟩
  obtain ⟨n3, hn3⟩ : ∃ n3, n3 = bs.length := ⟨_, rfl⟩
  rw [← hn, ← hn2, ← hn3]
  rw [← hn] at hp
  rw [← hn2] at ht
  rw [← hn3] at hb
  obtain ⟨W, hW⟩ : ∃ W, W = (w.alloc (.cells #[.int .i64 c.people, .int .i64 c.tracks, .int .i64 c.subs, .int .i64 c.slots, .slice pA n pc, .slice tA n2 tc, .slice bA n3 bc] 31)).alloc (.cells #[.int .i64 0, .int .i64 0, .int .i64 0, .int .i64 0, .slice none 0 0, .slice none 0 0, .slice none 0 0] 31) := ⟨_, rfl⟩
  have hu : Upd [] w W := by rw [hW]; exact ((Upd.refl [] w).alloc _).alloc _
  obtain ⟨T1, hT1⟩ : ∃ T1, T1 = w.heap.size := ⟨_, rfl⟩
  obtain ⟨T2, hT2⟩ : ∃ T2, T2 = T1 + 1 := ⟨_, rfl⟩
  have hB1 : Blk W T1 31 #[.int .i64 c.people, .int .i64 c.tracks, .int .i64 c.subs, .int .i64 c.slots, .slice pA n pc, .slice tA n2 tc, .slice bA n3 bc] := by rw [hW, hT1]; exact (Blk.new _ _ _).alloc _
  have hB2 : Blk W T2 31 #[.int .i64 0, .int .i64 0, .int .i64 0, .int .i64 0, .slice none 0 0, .slice none 0 0, .slice none 0 0] := by
    have := Blk.new (w.alloc (.cells #[.int .i64 c.people, .int .i64 c.tracks, .int .i64 c.subs, .int .i64 c.slots, .slice pA n pc, .slice tA n2 tc, .slice bA n3 bc] 31)) 31 #[.int .i64 0, .int .i64 0, .int .i64 0, .int .i64 0, .slice none 0 0, .slice none 0 0, .slice none 0 0]
    rw [World.size_alloc, ← hT1, ← hT2] at this
    rw [hW]; exact this
  have hpin := HS.out.p.upd hu
  have htin := HS.out.t.upd hu
  have hbin := HS.out.b.upd hu
  dsimp only at hpin htin hbin
  rw [← hn] at hpin
  rw [← hn2] at htin
  rw [← hn3] at hbin
  have C1 := Lib.hid (cloneP_any hpin (by omega) (flat_ones encP_one ps))
  have HTI := Lib.hid htin
  have HBI := Lib.hid hbin
  have c4 : W.cell? ⟨T1, 4, none⟩ = some (.slice pA n pc) := hB1.cell 4
  have HU := Lib.hid hu
  have HB1 := Lib.hid hB1
  have HB2 := Lib.hid hB2
  have HT1 := Lib.hid hT1
  have HT2 := Lib.hid hT2
  have HN := Lib.hid (And.intro hn (And.intro hn2 hn3))
  clear hu hB1 hB2 hpin htin hbin hn hn2 hn3
  go_enter Try.func21, Try.ntmps21
  go_upto_region 1 with fail
  rw [← hW, ← hT1, ← hT2]
  clear hW hT1 hT2
  go_wp2_with fail
  refine C1.out.mono ?_
  rintro e w1 ⟨pA', pc', rfl, ho1, hu1⟩
  have hb1 := HB1.out.upd hu1 (by simp)
  have f4 := hb1.frozen 4
  have e4 : w1.cell? ⟨T1, 4, none⟩ = some (.slice pA n pc) := hb1.cell 4
  have HO1 := Lib.hid ho1
  have HU1 := Lib.hid hu1
  have HB1a := Lib.hid hb1
  clear ho1 hu1 hb1 C1 c4
  go_upto_region 2 with fail
  obtain ⟨w2, hw2⟩ : ∃ w2, w2 = w1.setCell ⟨T1, 4, none⟩ (.slice pA' n pc') := ⟨_, rfl⟩
  rw [← hw2]
  have hb2 : Blk w2 T1 31 #[.int .i64 c.people, .int .i64 c.tracks, .int .i64 c.subs, .int .i64 c.slots, .slice pA' n pc', .slice tA n2 tc, .slice bA n3 bc] := by rw [hw2]; exact HB1a.out.store 4 (.slice pA' n pc')
  have hu2 : Upd [T1] W w2 := by rw [hw2]; exact (HU1.out.more (by simp)).setCell (.inl (by simp)) _
  have hwT : w.heap.size ≤ T1 := by rw [HT1.out]; exact Nat.le_refl _
  have HU2 : Hid (Upd [] w w2) := Lib.hid (HU.out.trans hu2 (fun t ht => .inr (by rw [List.mem_singleton] at ht; subst ht; exact hwT)))
  have HV2 := Lib.hid hu2
  have HO2 : Hid (w2.ownsRow w.heap.size 75 3 (.slice pA' n pc') n (ps.flatMap encP)) := by
    refine Lib.hid (own_lower ?_ HU.out.size)
    rw [hw2]
    exact ownsRow_upd HO1.out ((Upd.refl [T1] w1).setCell (.inl (by simp)) _) (fun s hs => by rw [List.mem_singleton] at hs; subst hs; exact own_box HO1.out HB1a.out (by decide))
  have hbin2 : RwIn w2 0 5 bA n3 bc (bs.flatMap encB) := (by have := HS.out.b.upd HU2.out; dsimp only at this; rwa [← HN.out.2.2] at this)
  have htin2 : RwIn w2 0 4 tA n2 tc (tx.flatMap encT) := (by have := HS.out.t.upd HU2.out; dsimp only at this; rwa [← HN.out.2.1] at this)
  have C2 := Lib.hid (cloneS_any hbin2 (by omega) (flat_ones encB_one bs))
  have c6 : w2.cell? ⟨T1, 6, none⟩ = some (.slice bA n3 bc) := hb2.cell 6
  have HB2a := Lib.hid hb2
  have HTI2 := Lib.hid htin2
  clear hw2 hb2 hu2 hbin2 htin2 f4 e4 HO1 HU1 HB1a HTI HBI
  go_wp2_with fail
  refine C2.out.mono ?_
  rintro e w3 ⟨bA', bc', rfl, ho3, hu3⟩
  have hb3 := HB2a.out.upd hu3 (by simp)
  have f6 := hb3.frozen 6
  have e6 : w3.cell? ⟨T1, 6, none⟩ = some (.slice bA n3 bc) := hb3.cell 6
  have HO3 := Lib.hid ho3
  have HU3 := Lib.hid hu3
  have HB3 := Lib.hid hb3
  clear ho3 hu3 hb3 C2 c6
  go_upto_region 3 with fail
  obtain ⟨w4, hw4⟩ : ∃ w4, w4 = w3.setCell ⟨T1, 6, none⟩ (.slice bA' n3 bc') := ⟨_, rfl⟩
  rw [← hw4]
  have hb4 : Blk w4 T1 31 #[.int .i64 c.people, .int .i64 c.tracks, .int .i64 c.subs, .int .i64 c.slots, .slice pA' n pc', .slice tA n2 tc, .slice bA' n3 bc'] := by rw [hw4]; exact HB3.out.store 6 (.slice bA' n3 bc')
  have us4 : Upd [T1] w3 w4 := by rw [hw4]; exact (Upd.refl [T1] w3).setCell (.inl (by simp)) _
  have HU4 : Hid (Upd [] w w4) := Lib.hid ((HU2.out.next HU3.out).trans us4 (fun t ht => .inr (by rw [List.mem_singleton] at ht; subst ht; exact hwT)))
  have HV4 : Hid (Upd [T1] W w4) := Lib.hid ((HV2.out.next (HU3.out.more (by simp))).next us4)
  have hne4 : ∀ {B size n : Nat} {e : TypeId} {v : Value} {xs : List Value}, w3.ownsRow B e size v n xs → e ≠ 31 → ∀ s, s ∈ [T1] → v.ownBlock ≠ some s := fun {B size n e v xs} h' he s hs => by
    rw [List.mem_singleton] at hs
    subst hs
    exact own_box h' HB3.out he
  have HO4 : Hid (w4.ownsRow w.heap.size 75 3 (.slice pA' n pc') n (ps.flatMap encP)) := by
    have h1 := ownsRow_upd HO2.out HU3.out (by simp)
    exact Lib.hid (ownsRow_upd h1 us4 (hne4 h1 (by decide)))
  have HQ4 : Hid (w4.ownsRow w.heap.size 55 5 (.slice bA' n3 bc') n3 (bs.flatMap encB)) := Lib.hid (own_lower (ownsRow_upd HO3.out us4 (hne4 HO3.out (by decide))) HU2.out.size)
  have htin4 : RwIn w4 0 4 tA n2 tc (tx.flatMap encT) := (by have := HS.out.t.upd HU4.out; dsimp only at this; rwa [← HN.out.2.1] at this)
  have C3 := Lib.hid (cloneT_any htin4 (by omega) (flat_ones encT_one tx))
  have c5 : w4.cell? ⟨T1, 5, none⟩ = some (.slice tA n2 tc) := hb4.cell 5
  have HB4 := Lib.hid hb4
  clear hw4 hb4 us4 hne4 htin4 f6 e6 HO2 HO3 HU3 HB3 HB2a HTI2 HU2
  go_wp2_with fail
  refine C3.out.mono ?_
  rintro e w5 ⟨tA', tc', rfl, ho5, hu5⟩
  have hb5 := HB4.out.upd hu5 (by simp)
  have f5 := hb5.frozen 5
  have e5 : w5.cell? ⟨T1, 5, none⟩ = some (.slice tA n2 tc) := hb5.cell 5
  have HO5 := Lib.hid ho5
  have HU5 := Lib.hid hu5
  have HB5 := Lib.hid hb5
  clear ho5 hu5 hb5 C3 c5
  go_upto_region 4 with fail
  obtain ⟨w6, hw6⟩ : ∃ w6, w6 = w5.setCell ⟨T1, 5, none⟩ (.slice tA' n2 tc') := ⟨_, rfl⟩
  rw [← hw6]
  have hb6 : Blk w6 T1 31 #[.int .i64 c.people, .int .i64 c.tracks, .int .i64 c.subs, .int .i64 c.slots, .slice pA' n pc', .slice tA' n2 tc', .slice bA' n3 bc'] := by rw [hw6]; exact HB5.out.store 5 (.slice tA' n2 tc')
  have us6 : Upd [T1] w5 w6 := by rw [hw6]; exact (Upd.refl [T1] w5).setCell (.inl (by simp)) _
  have hne6 : ∀ {B size n : Nat} {e : TypeId} {v : Value} {xs : List Value}, w5.ownsRow B e size v n xs → e ≠ 31 → ∀ s, s ∈ [T1] → v.ownBlock ≠ some s := fun {B size n e v xs} h' he s hs => by
    rw [List.mem_singleton] at hs
    subst hs
    exact own_box h' HB5.out he
  have hh := (⟨pA', pc', tx, tA', tc', bA', bc'⟩ : SHd)
  have HCL : Hid (CL w w6 T1 ⟨c, ps, ts, bs⟩ ⟨pA, pc, tx, tA, tc, bA, bc⟩ ⟨pA', pc', tx, tA', tc', bA', bc'⟩ 0 tx) := by
    have hn := HN.out
    refine Lib.hid ⟨?_, ?_, ?_, ?_, HS.out.tx, fun k x hk => absurd hk (Nat.not_lt_zero k), fun k _ => rfl, (HU4.out.next HU5.out).trans us6 (fun t ht => .inr (by rw [List.mem_singleton] at ht; subst ht; exact hwT))⟩
    · unfold scells
      dsimp only
      rw [← hn.1, ← hn.2.1, ← hn.2.2]
      exact hb6
    · dsimp only
      rw [← hn.1]
      have h1 := ownsRow_upd HO4.out HU5.out (by simp)
      exact ownsRow_upd h1 us6 (hne6 h1 (by decide))
    · dsimp only
      rw [← hn.2.1]
      exact own_lower (ownsRow_upd HO5.out us6 (hne6 HO5.out (by decide))) HU4.out.size
    · dsimp only
      rw [← hn.2.2]
      have h1 := ownsRow_upd HQ4.out HU5.out (by simp)
      exact ownsRow_upd h1 us6 (hne6 h1 (by decide))
  have HT2b : Hid (Blk w6 T2 31 #[.int .i64 0, .int .i64 0, .int .i64 0, .int .i64 0, .slice none 0 0, .slice none 0 0, .slice none 0 0]) :=
    Lib.hid (HB2.out.upd ((HV4.out.next (HU5.out.more (by simp))).next us6) (by rw [List.mem_singleton, HT2.out]; omega))
  have d5 : w6.cell? ⟨T1, 5, none⟩ = some (.slice tA' n2 tc') := hb6.cell 5
  clear hw6 hb6 us6 hne6 f5 e5 HO4 HQ4 HO5 HU5 HB5 HB4 HU4 hh HV2 HV4 HB2 HB1
  go_wp2
  go_loopg [19] n2 (fun gk x19 wr => ∃ (i : Nat) (tx' : List (Trk × SH)), i ≤ n2 ∧ n2 ≤ i + gk ∧ x19 = .int .i64 i ∧ CL w wr T1 ⟨c, ps, ts, bs⟩ ⟨pA, pc, tx, tA, tc, bA, bc⟩ ⟨pA', pc', tx, tA', tc', bA', bc'⟩ i tx' ∧
      Blk wr T2 31 #[.int .i64 0, .int .i64 0, .int .i64 0, .int .i64 0, .slice none 0 0, .slice none 0 0, .slice none 0 0])
  case atStart => exact ⟨0, tx, Nat.zero_le _, by omega, rfl, HCL.out, HT2b.out⟩
  case round =>
    obtain ⟨i, tx', hi, hgi, rfl, hcl, hb2⟩ := hrel
    by_cases hlt : i < n2
    · have hlti : (i : Int) < (n2 : Int) := by omega
      have hw1 : IntKind.i64.wrap ((i : Int) + 1) = ((i : Int) + 1) := IntWalk.i64_in _ (by omega)
      obtain ⟨A0, c0, hve, _, hA, _⟩ := own_form hcl.t
      injection hve with e1 _ e3
      dsimp only at e1 e3 hA
      subst e3
      obtain ⟨g, hg, hg1, hg2⟩ := hA (by rw [← HN.out.2.1]; omega)
      rw [hg] at e1
      subst e1
      have hln : tx'.length = n2 := by have := congrArg List.length hcl.tm; rw [List.length_map] at this; dsimp only at this; rw [HN.out.2.1]; exact this
      obtain ⟨x, hx⟩ : ∃ x, tx'[i]? = some x := ⟨_, List.getElem?_eq_getElem (by rw [hln]; exact hlt)⟩
      have hcell := fun (k : Nat) (u : Value) (hu : (tx'.flatMap encT)[k]? = some u) => (by
        have := hcl.t.cells (g := g) rfl k u hu
        by_cases hk : k = 0
        · subst hk; exact this
        · simpa [Addr.add, hk] using this : wr.cell? ⟨g, k, none⟩ = some u)
      have k3 := hcell (i * 4 + 3) _ (flat_get encT_len tx' i 3 x hx (by omega))
      have k5 : wr.cell? ⟨T1, 5, none⟩ = some (.slice (some ⟨g, 0, none⟩) n2 tc') := by have := hcl.box.cell 5; unfold scells at this; dsimp only at this; rw [← HN.out.2.1] at this; exact this
      have hxo : (x : Trk × SH) ∈ tx := by
        have := hcl.hi i (Nat.le_refl i)
        rw [hx] at this
        exact List.mem_of_getElem? this.symm
      have hss := (HS.out.ss x hxo).upd hcl.u
      have hxl := HX.out x.1 (by have h1 := HS.out.tx; dsimp only at h1; rw [← h1]; exact List.mem_map.2 ⟨x, hxo, rfl⟩)
      have hcall := fun (W : World) (u : Upd [] wr W) => cloneU_any (hss.upd u) (by omega) (u32_one x.1.ss)
      have hcx := fun (w1 : World) (A' : Option Addr) (c' : Nat) => CL.next (w1 := w1) (A' := A') (c' := c') hcl (by dsimp only; rw [← HN.out.2.1]; exact hlt) rfl (x := x) (hx := hx)
      obtain ⟨⟨x0, x1, x2, xs⟩, ⟨xA, xc⟩⟩ := x
      simp only [encT, List.getElem?_cons_zero, List.getElem?_cons_succ, List.getElem_cons_zero, List.getElem_cons_succ] at k3
      dsimp only at hcall hcx
      have z3 : ∀ z : Cls (Upd [] wr), z.w.cell? ⟨g, i * 4 + 3, none⟩ = _ := fun z => (z.h.cell (p := ⟨g, i * 4 + 3, none⟩) hg2 (by simp)).trans k3
      have z5 : ∀ z : Cls (Upd [] wr), z.w.cell? ⟨T1, 5, none⟩ = _ := fun z => (z.h.cell (p := ⟨T1, 5, none⟩) hcl.box.lt (by simp)).trans k5
      have HCX := Lib.hid hcx
      have HCALL := Lib.hid hcall
      have HFZ := Lib.hid hcl.t.frozenAt
      have HCC := Lib.hid (show ∀ w1, Upd [] wr w1 → w1.cell? ⟨g, i * 4 + 3, none⟩ = _ from fun w1 u => (u.cell (p := ⟨g, i * 4 + 3, none⟩) hg2 (by simp)).trans k3)
      have HFF : Hid (∀ w1, Upd [] wr w1 → w1.frozen? ⟨g, i * 4 + 3, none⟩ = false) := Lib.hid (fun w1 u => by
        have := (ownsRow_upd hcl.t u (by simp)).frozenAt (i * 4 + 3)
        simpa [Addr.add] using this)
      have HB2 := Lib.hid hb2
      have HGT : Hid (g ≠ T2) := Lib.hid (fun e => own_box hcl.t hb2 (by decide) (by rw [e]; rfl))
      clear hcl hb2 hx hcell k3 k5 hxo hss hxl hcall hcx hA
      go_upto_region 7 with fail
      refine wp_held_tail (Upd [] wr) ((Upd.refl _ _).drewN 1) [0, 1, 2, 3, 4, 5, 6, 7, 8] [9, 10, 11, 12] (by kernel_rfl) (by kernel_rfl) (fun _ _ _ _ h => h) ?_
      intro hne
      simp only [pick3, List.map_cons, List.map_nil, List.getElem?_cons_zero, List.getElem?_cons_succ, Option.getD_some]
      repeat (go_big_quiet_step (fail))
      refine wpQuiet_nil ?_
      refine wpHeld_step rfl fun K hK => ?_
      go_simp
      have u1 : Upd [] wr (wr.drewN 1) := (Upd.refl [] wr).drewN 1
      refine (HCALL.out _ u1).mono ?_
      rintro e w1 ⟨A', c', rfl, ho, hu1⟩
      have hu2 := u1.next hu1
      refine hK.out _ _ (.inr ⟨⟨w1, hu2⟩, rfl⟩) ?_
      clear hK K
      have e3 := HCC.out w1 hu2
      have ef := HFF.out w1 hu2
      have HNX := Lib.hid (HCX.out w1 A' c' hu2 (own_lower ho u1.size))
      have HU2 := Lib.hid hu2
      clear ho hu1 hu2 u1 z3 z5 HCX HCC HFF
      refine wpHeld_step rfl fun K hK => ?_
      go_simp
      refine hK.out _ _ (.inr ⟨⟨w1, HU2.out⟩, rfl⟩) ?_
      clear hK K
      refine wpHeld_step rfl fun K hK => ?_
      go_simp
      refine hK.out _ _ (.inr ⟨⟨w1, HU2.out⟩, rfl⟩) ?_
      clear hK K
      refine wpHeld_last ?_
      obtain ⟨w2, hw2⟩ : ∃ w2, w2 = w1.setCell ⟨g, i * 4 + 3, none⟩ (.slice A' xs.length c') := ⟨_, rfl⟩
      have HB2' : Hid (Blk w2 T2 31 #[.int .i64 0, .int .i64 0, .int .i64 0, .int .i64 0, .slice none 0 0, .slice none 0 0, .slice none 0 0]) := by
        rw [hw2]
        exact Lib.hid ((HB2.out.upd HU2.out (by simp)).other (p := ⟨g, i * 4 + 3, none⟩) (Ne.symm HGT.out) _)
      rw [← hw2] at HNX
      go_wp2
      rw [← hw2]
      clear hw2
      go_roundg (gk - 1)
      case measure => omega
      case rel => exact ⟨i + 1, _, by omega, by omega, by go_num, HNX.out, HB2'.out⟩
    · obtain rfl : i = n2 := by omega
      have hb := hcl.box
      unfold scells at hb
      dsimp only at hb
      rw [← HN.out.1, ← HN.out.2.1, ← HN.out.2.2] at hb
      have y0 := hb.cell 0
      have y1 := hb.cell 1
      have y2 := hb.cell 2
      have y3 := hb.cell 3
      have y4 := hb.cell 4
      have y5 := hb.cell 5
      have y6 := hb.cell 6
      simp only [List.getElem?_toArray, List.getElem?_cons_zero, List.getElem?_cons_succ] at y0 y1 y2 y3 y4 y5 y6
      have q0 := hb2.cell 0
      have q1 := hb2.cell 1
      have q2 := hb2.cell 2
      have q3 := hb2.cell 3
      have q4 := hb2.cell 4
      have q5 := hb2.cell 5
      have q6 := hb2.cell 6
      simp only [List.getElem?_toArray, List.getElem?_cons_zero, List.getElem?_cons_succ] at q0 q1 q2 q3 q4 q5 q6
      have r0 := hb2.frozen 0
      have r1 := hb2.frozen 1
      have r2 := hb2.frozen 2
      have r3 := hb2.frozen 3
      have r4 := hb2.frozen 4
      have r5 := hb2.frozen 5
      have r6 := hb2.frozen 6
      have HCLx := Lib.hid hcl
      have HB2 := Lib.hid hb2
      clear hcl hb2 hb
      go_wp2
      obtain ⟨wf, hwf⟩ : ∃ wf, wf = (((((((wr.setCell ⟨T2, 0, none⟩ (.int .i64 c.people)).setCell ⟨T2, 1, none⟩ (.int .i64 c.tracks)).setCell ⟨T2, 2, none⟩ (.int .i64 c.subs)).setCell ⟨T2, 3, none⟩ (.int .i64 c.slots)).setCell ⟨T2, 4, none⟩ (.slice pA' n pc')).setCell ⟨T2, 5, none⟩ (.slice tA' i tc')).setCell ⟨T2, 6, none⟩ (.slice bA' n3 bc')) := ⟨_, rfl⟩
      rw [← hwf]
      have hbf : Blk wf T2 31 #[.int .i64 c.people, .int .i64 c.tracks, .int .i64 c.subs, .int .i64 c.slots, .slice pA' n pc', .slice tA' i tc', .slice bA' n3 bc'] := by
        rw [hwf]
        exact ((((((HB2.out.store 0 _).store 1 _).store 2 _).store 3 _).store 4 _).store 5 _).store 6 _
      have huf : Upd [T2] wr wf := by
        rw [hwf]
        exact (((((((Upd.refl [T2] wr).setCell (p := ⟨T2, 0, none⟩) (.inl (List.mem_singleton.2 rfl)) _).setCell (p := ⟨T2, 1, none⟩) (.inl (List.mem_singleton.2 rfl)) _).setCell (p := ⟨T2, 2, none⟩) (.inl (List.mem_singleton.2 rfl)) _).setCell (p := ⟨T2, 3, none⟩) (.inl (List.mem_singleton.2 rfl)) _).setCell (p := ⟨T2, 4, none⟩) (.inl (List.mem_singleton.2 rfl)) _).setCell (p := ⟨T2, 5, none⟩) (.inl (List.mem_singleton.2 rfl)) _).setCell (p := ⟨T2, 6, none⟩) (.inl (List.mem_singleton.2 rfl)) _
      have m0 := hbf.cell 0
      have m1 := hbf.cell 1
      have m2 := hbf.cell 2
      have m3 := hbf.cell 3
      have m4 := hbf.cell 4
      have m5 := hbf.cell 5
      have m6 := hbf.cell 6
      simp only [List.getElem?_toArray, List.getElem?_cons_zero, List.getElem?_cons_succ] at m0 m1 m2 m3 m4 m5 m6
      have hk := HCLx.out
      have hne : ∀ {B size n : Nat} {e : TypeId} {v : Value} {xs : List Value}, wr.ownsRow B e size v n xs → e ≠ 31 → ∀ s, s ∈ [T2] → v.ownBlock ≠ some s := fun {B size n e v xs} h' he s hs => by
        rw [List.mem_singleton] at hs
        subst hs
        exact own_box h' HB2.out he
      have htr : TR wf w.heap.size ⟨c, ps, ts, bs⟩ ⟨pA', pc', tx', tA', tc', bA', bc'⟩ :=
        ⟨ownsRow_upd hk.p huf (hne hk.p (by decide)), ownsRow_upd hk.t huf (hne hk.t (by decide)), ownsRow_upd hk.b huf (hne hk.b (by decide)), hk.tm, fun x hx => by
          obtain ⟨k, hkx⟩ := List.getElem?_of_mem hx
          have hlt : k < i := by
            have h1 := (List.getElem?_eq_some_iff.1 hkx).1
            have h2 := congrArg List.length hk.tm
            rw [List.length_map] at h2
            dsimp only at h1 h2
            rw [HN.out.2.1]
            omega
          have h1 := hk.lo k x hlt hkx
          exact ownsRow_upd h1 huf (hne h1 (by decide))⟩
      have hwT2 : w.heap.size ≤ T2 := by rw [HT2.out, HT1.out]; omega
      have HFIN := Lib.hid (And.intro htr (hk.u.trans huf (fun t ht => .inr (by rw [List.mem_singleton] at ht; subst ht; exact hwT2))))
      exact bodyPost_res (v := .agg #[.int .i64 c.people, .int .i64 c.tracks, .int .i64 c.subs, .int .i64 c.slots, .slice pA' n pc', .slice tA' i tc', .slice bA' n3 bc']) (by simp [results, Try.results21, go_sem, m0, m1, m2, m3, m4, m5, m6]) rfl ⟨⟨pA', pc', tx', tA', tc', bA', bc'⟩, rfl, HFIN.out.1, HFIN.out.2⟩
end Go.Proofs.Ytjcbaelefacolaa
/- The layer delta: Replace. Conditions: what always holds of a state; the state in a box. -/
namespace Go.Proofs.Ytjcbaelefacolaa
open Go Go.RowKit
set_option maxHeartbeats 400000

/-- a track changed in place -/
theorem TIn.setT {w w1 : World} {B T g : Nat} {s : St} {h : SHd} (k : TIn w B T s h) (hg : h.tA = some ⟨g, 0, none⟩) (u : Upd [g] w w1) {ts' : List Trk} {tx' : List (Trk × SH)} (hm : tx'.map (·.1) = ts') (hl : ts'.length = s.ts.length)
    (ho : w1.ownsRow B 76 4 (.slice (some ⟨g, 0, none⟩) s.ts.length h.tc) s.ts.length (tx'.flatMap encT))
    (hs : ∀ x, x ∈ tx' → x ∈ h.tx ∨ w1.ownsRow B 64 1 (.slice x.2.A x.1.ss.length x.2.c) x.1.ss.length (x.1.ss.map (Value.int .u32))) : TIn w1 B T { s with ts := ts' } { h with tx := tx' } := by
  have hgs : (Value.slice h.tA s.ts.length h.tc).ownBlock = some g := by rw [hg]; rfl
  have keep : ∀ {B size n : Nat} {e : TypeId} {v : Value} {xs : List Value}, w.ownsRow B e size v n xs → e ≠ 76 → w1.ownsRow B e size v n xs := fun {B size n e v xs} h' he => ownsRow_upd h' u (fun s hs => by
    rw [List.mem_singleton] at hs
    subst hs
    exact own_apart k.r.t h' (Ne.symm he) hgs)
  have hb : Blk w1 T 31 (scells s h).toArray := k.box.upd u (fun hm => by
    rw [List.mem_singleton] at hm
    exact own_box k.r.t k.box (by decide) (by rw [hm]; exact hgs))
  refine ⟨?_, k.BT, keep k.r.p (by decide), ?_, keep k.r.b (by decide), hm, fun x hx => ?_⟩
  · unfold scells at hb ⊢
    dsimp only
    rw [hl]
    exact hb
  · dsimp only
    rw [hl, hg]
    exact ho
  · rcases hs x hx with hx | hx
    · exact keep (k.r.ss x hx) (by decide)
    · exact hx
set_option maxRecDepth 100000 in
set_option maxHeartbeats 2000000 in
theorem replace_any {w : World} {B T : Nat} {s : St} {h : SHd} {q : Rq} {qh : SH} (k : TIn w B T s h) (hi : Inv s) (hB : B ≤ w.heap.size) (hQ : QIn w B q qh) :
    Calls Try.prog 26 #[.pointer (some ⟨T, 0, none⟩), .agg (qcells q qh).toArray] w fun e w' => e = .returned (.int .i64 (replaceM s q).2) ∧ ((replaceM s q).2 = 0 → ∃ h', TIn w' B T (replaceM s q).1 h') ∧ Below B w w' := by
  have hnt : s.ts.length ≤ 16 := by have := hi.nt; have := hi.ct; omega
  have hss : ∀ t, t ∈ s.ts → t.ss.length ≤ 1000 := fun t ht => by
    have := (hi.trk t ht).2.2
    unfold maySS at this
    simp only [Bool.and_eq_true, decide_eq_true_eq] at this
    omega
  have HSS := Lib.hid hss
  have HO := Lib.hid (fun (W : World) (u : Upd [] w W) => own_any (q := q) (qh := qh) (k.upd u) hi)
  have hQ1 : ∀ W, Upd [] w W → RwIn W 0 1 qh.A q.ss.length qh.c (q.ss.map (Value.int .u32)) := fun W u => (hQ.below (u.below hB (by simp))).row (Nat.le_trans hB u.size)
  have HQ1 := Lib.hid hQ1
  have HQF := Lib.hid (And.intro hQ.few hQ.pos)
  obtain ⟨r, hr⟩ : ∃ r, r = replaceM s q := ⟨_, rfl⟩
  obtain ⟨e0, he0⟩ : ∃ e0, e0 = ownM s q := ⟨_, rfl⟩
  rw [← hr]
  rw [← he0] at HO
  have HR := Lib.hid hr
  have HE := Lib.hid he0
  have HOK := Lib.hid (fun h0 : ownM s q = 0 => own_ok hi h0)
  clear hr he0 hQ hQ1
  obtain ⟨kd, who, room, rights, track, ss, layer, tid⟩ := q
  obtain ⟨qA, qc⟩ := qh
  unfold qcells at HO ⊢
  dsimp only at HO HQ1 HQF HOK ⊢
  obtain ⟨ql, hql⟩ : ∃ ql, ql = ss.length := ⟨_, rfl⟩
  rw [← hql] at HO HQ1 HQF ⊢
  obtain ⟨W, hW⟩ : ∃ W, W = w.alloc (.cells #[.int .i64 kd, .int .i64 who, .int .i64 room, .int .i64 rights, .int .i64 track, .slice qA ql qc, .int .i64 layer, .int .i64 tid] 45) := ⟨_, rfl⟩
  obtain ⟨Z, hZ⟩ : ∃ Z, Z = w.heap.size := ⟨_, rfl⟩
  have hZB : Blk W Z 45 #[.int .i64 kd, .int .i64 who, .int .i64 room, .int .i64 rights, .int .i64 track, .slice qA ql qc, .int .i64 layer, .int .i64 tid] := by rw [hW, hZ]; exact Blk.new _ _ _
  have hu0 : Upd [] w W := by rw [hW]; exact (Upd.refl [] w).alloc _
  have HZB := Lib.hid hZB
  have HU0 := Lib.hid hu0
  have HK := Lib.hid (k.upd hu0)
  have HB := Lib.hid (And.intro hB (Nat.le_trans hB hu0.size))
  have HI := Lib.hid hi
  have HQL := Lib.hid hql
  have t0 := hZB.cell 0
  have t1 := hZB.cell 1
  have t2 := hZB.cell 2
  have t3 := hZB.cell 3
  have t4 := hZB.cell 4
  have t5 := hZB.cell 5
  have t6 := hZB.cell 6
  have t7 := hZB.cell 7
  simp only [List.getElem?_toArray, List.getElem?_cons_zero, List.getElem?_cons_succ] at t0 t1 t2 t3 t4 t5 t6 t7
  clear hql hZB hu0 hi k hB hss
  go_enter Try.func26, Try.ntmps26
  go_upto_region 1 with fail
  rw [← hW, ← hZ]
  clear hW hZ
  go_wp2_with fail
  refine (HO.out W HU0.out).mono ?_
  rintro e w1 ⟨⟨v, rfl, hv⟩, hu1⟩
  have HU1 := Lib.hid (HU0.out.next hu1)
  have HK1 := Lib.hid (HK.out.upd hu1)
  have HZ1 := Lib.hid (HZB.out.upd hu1 (by simp))
  have HB1 := Lib.hid (Nat.le_trans HB.out.2 hu1.size)
  clear hu1 HO HK HZB t0 t1 t2 t3 t4 t5 t6 t7
  by_cases hz : e0 = 0
  case neg =>
    have HX : Hid (r = (s, e0)) := Lib.hid (by
      rw [HR.out]
      unfold replaceM
      rw [if_pos (by rw [← HE.out]; exact hz), ← HE.out])
    have hzb : (e0 == 0) = false := beq_eq_false_iff_ne.2 hz
    have HZN := Lib.hid hz
    clear hz hv
    go_wp2
    go_ret
    exact ⟨ret_int (by rw [HX.out]), fun h0 => absurd h0 (by rw [HX.out]; exact HZN.out), HU1.out.below HB.out.1 (by simp)⟩
  subst hz
  obtain ⟨g, hg, rfl⟩ := hv rfl
  obtain ⟨lo, hlo⟩ : ∃ lo, lo = low (cT track) s.ts := ⟨_, rfl⟩
  have HLO := Lib.hid hlo
  have HG := Lib.hid hg
  rw [← hlo]
  clear hlo hg hv
  have t5 := HZ1.out.cell 5
  simp only [List.getElem?_toArray, List.getElem?_cons_zero, List.getElem?_cons_succ] at t5
  obtain ⟨m, hm⟩ : ∃ m, m = maySS ss := ⟨_, rfl⟩
  have HM := Lib.hid hm
  have HMC := Lib.hid (may_any (w := w1) (c := qc) (l := ss) (HQ1.out w1 HU1.out).l (by have := HQF.out.1; omega) (HQ1.out w1 HU1.out).le HQF.out.2)
  rw [← hm] at HMC
  clear hm
  go_wp2_with fail
  refine HMC.out.mono ?_
  rintro e w1' ⟨rfl, rfl⟩
  clear HMC
  cases m with
  | false =>
    have HX : Hid (r = (s, 1)) := Lib.hid (by
      rw [HR.out]
      unfold replaceM
      dsimp only
      rw [if_neg (by rw [← HE.out]; decide), if_pos HM.out.symm])
    clear t5
    go_wp2
    go_ret
    exact ⟨ret_int (by rw [HX.out]), fun h0 => absurd h0 (by rw [HX.out]; simp), HU1.out.below HB.out.1 (by simp)⟩
  | true =>
  clear t5
  obtain ⟨tk, htk⟩ : ∃ tk, tk = takenM s ss := ⟨_, rfl⟩
  have HTK := Lib.hid htk
  have hT1 := HK1.out
  obtain ⟨z0, z1, z2, z3, z4, z5, z6⟩ := box_cells hT1.box
  have HTC := Lib.hid (fun (z : Cls (Upd [] w1)) => quiet_cls (C := Upd [] w1) (x := z) ((taken_any (w := z.w) (s := s) (h := h) (c := qc) (l := ss) (hT1.upd z.h).r.st (by omega) HSS.out (HQ1.out z.w (HU1.out.next z.h)).l (by have := HQF.out.1; omega)).mono fun e w' h => ⟨h.1, z.h.next h.2⟩))
  rw [← htk] at HTC
  obtain ⟨n, hn⟩ : ∃ n, n = s.ps.length := ⟨_, rfl⟩
  obtain ⟨n2, hn2⟩ : ∃ n2, n2 = s.ts.length := ⟨_, rfl⟩
  obtain ⟨n3, hn3⟩ : ∃ n3, n3 = s.bs.length := ⟨_, rfl⟩
  unfold scells at HTC
  rw [← hn, ← hn2, ← hn3] at HTC
  rw [← hn] at z4
  rw [← hn2] at z5 hnt
  rw [← hn3] at z6
  have HN := Lib.hid (And.intro hn (And.intro hn2 hn3))
  have hTl := hT1.box.lt
  have hZl := HZ1.out.lt
  have y0 : ∀ z : Cls (Upd [] w1), z.w.cell? ⟨T, 0, none⟩ = _ := fun z => (z.h.cell (p := ⟨T, 0, none⟩) hTl (by simp)).trans z0
  have y1 : ∀ z : Cls (Upd [] w1), z.w.cell? ⟨T, 1, none⟩ = _ := fun z => (z.h.cell (p := ⟨T, 1, none⟩) hTl (by simp)).trans z1
  have y2 : ∀ z : Cls (Upd [] w1), z.w.cell? ⟨T, 2, none⟩ = _ := fun z => (z.h.cell (p := ⟨T, 2, none⟩) hTl (by simp)).trans z2
  have y3 : ∀ z : Cls (Upd [] w1), z.w.cell? ⟨T, 3, none⟩ = _ := fun z => (z.h.cell (p := ⟨T, 3, none⟩) hTl (by simp)).trans z3
  have y4 : ∀ z : Cls (Upd [] w1), z.w.cell? ⟨T, 4, none⟩ = _ := fun z => (z.h.cell (p := ⟨T, 4, none⟩) hTl (by simp)).trans z4
  have y5 : ∀ z : Cls (Upd [] w1), z.w.cell? ⟨T, 5, none⟩ = _ := fun z => (z.h.cell (p := ⟨T, 5, none⟩) hTl (by simp)).trans z5
  have y6 : ∀ z : Cls (Upd [] w1), z.w.cell? ⟨T, 6, none⟩ = _ := fun z => (z.h.cell (p := ⟨T, 6, none⟩) hTl (by simp)).trans z6
  have q5 : ∀ z : Cls (Upd [] w1), z.w.cell? ⟨Z, 5, none⟩ = some (.slice qA ql qc) := fun z => (z.h.cell (p := ⟨Z, 5, none⟩) hZl (by simp)).trans (HZ1.out.cell 5)
  clear hT1 z0 z1 z2 z3 z4 z5 z6 htk hn hn2 hn3
  go_wp2
  refine wp_class_tail (Upd [] w1) ((Upd.refl _ _).drewN 1) 6 (by kernel_rfl) (by kernel_rfl) (fun _ _ _ _ h => h) ?_
  intro hne
  simp only [List.take_succ_cons, List.take_zero, List.drop_succ_cons, List.drop_zero]
  repeat (go_big_quiet_step ((go_at_call 57; with_reducible exact HTC.out _)))
  refine wpQuiet_nil ?_
  rintro _ ⟨xe, rfl⟩
  have hux := xe.h
  obtain ⟨w2, hw2⟩ : ∃ W2, W2 = xe.w := ⟨_, rfl⟩
  rw [← hw2] at hux ⊢
  have HU2 := Lib.hid (HU1.out.next hux)
  have HK2 := Lib.hid (HK1.out.upd hux)
  have HZ2 := Lib.hid (HZ1.out.upd hux (by simp))
  have HB2 := Lib.hid (Nat.le_trans HB1.out hux.size)
  clear hw2 hux y0 y1 y2 y3 y4 y5 y6 q5 HTC HK1 HZ1 HB1 HU1 hTl hZl
  cases tk with
  | true =>
    have HX : Hid (r = (s, 22)) := Lib.hid (by
      rw [HR.out]
      unfold replaceM
      dsimp only
      rw [if_neg (by rw [← HE.out]; decide), if_neg (by rw [← HM.out]; decide), if_pos HTK.out.symm])
    go_wp2
    go_ret
    exact ⟨ret_int (by rw [HX.out]), fun h0 => absurd h0 (by rw [HX.out]; simp), HU2.out.below HB.out.1 (by simp)⟩
  | false =>
  obtain ⟨o1, o2⟩ := HOK.out HE.out.symm
  obtain ⟨tl, _, _⟩ := trk_at HI.out o1
  try dsimp only at tl o2
  obtain ⟨t, ht⟩ : ∃ t, t = trkAt s track := ⟨_, rfl⟩
  rw [← HLO.out, ← ht] at tl
  have HX : Hid (r = ({ s with ts := s.ts.set lo { t with ss := ss, frm := IntKind.i64.wrap (t.frm + 1) } }, 0)) := Lib.hid (by
    rw [HR.out]
    unfold replaceM
    dsimp only
    rw [if_neg (by rw [← HE.out]; decide), if_neg (by rw [← HM.out]; decide), if_neg (by rw [← HTK.out]; decide), ← HLO.out, ← ht])
  have t5 := HZ2.out.cell 5
  simp only [List.getElem?_toArray, List.getElem?_cons_zero, List.getElem?_cons_succ] at t5
  have HCC := Lib.hid (cloneU_any (HQ1.out w2 HU2.out) (by have := HQF.out.1; omega) (u32_one ss))
  clear ht o1 o2
  have HTL := Lib.hid tl
  clear tl
  go_wp2_with fail
  refine HCC.out.mono ?_
  rintro e w3 ⟨A', c', rfl, ho3, hu3⟩
  have HO3 := Lib.hid (own_lower ho3 HB2.out)
  have HU3 := Lib.hid (HU2.out.next hu3)
  have hk3 := HK2.out.upd hu3
  have HK3 := Lib.hid hk3
  have HB3 := Lib.hid (Nat.le_trans HB2.out hu3.size)
  clear ho3 hu3 HCC HK2 HZ2 t5
  have hxl : ∃ y, h.tx[lo]? = some y ∧ y.1 = t := by
    have := HTL.out
    rw [← hk3.r.tx, List.getElem?_map] at this
    cases hy : h.tx[lo]? with
    | none => rw [hy] at this; simp at this
    | some y => rw [hy] at this; exact ⟨y, rfl, by simpa using this⟩
  obtain ⟨y, hy, hyt⟩ := hxl
  have hrow := hk3.r.t
  rw [HG.out] at hrow
  have hcell := fun (k : Nat) (u : Value) (hu : (h.tx.flatMap encT)[k]? = some u) => (by
    have := hrow.cells (g := g) rfl k u hu
    by_cases hk : k = 0
    · subst hk; exact this
    · simpa [Addr.add, hk] using this : w3.cell? ⟨g, k, none⟩ = some u)
  have x3 : w3.cell? ⟨g, lo * 4 + 3, none⟩ = some (.slice y.2.A y.1.ss.length y.2.c) := hcell (lo * 4 + 3) _ (flat_get encT_len h.tx lo 3 y hy (by omega))
  have g3 : w3.frozen? ⟨g, lo * 4 + 3, none⟩ = false := by
    have := hrow.frozenAt (lo * 4 + 3)
    simpa [Addr.add] using this
  have s1 := (hrow.stored (lo * 4 + 3) (.slice A' ss.length c')).1
  rw [flat_set encT_len h.tx lo 3 y ((⟨y.1.id, y.1.owner, y.1.frm, ss⟩, ⟨A', c'⟩) : Trk × SH) _ hy (by omega) rfl] at s1
  have hyl : lo < h.tx.length := (List.getElem?_eq_some_iff.1 hy).1
  obtain ⟨w4, hw4⟩ : ∃ w4, w4 = w3.setCell ⟨g, lo * 4 + 3, none⟩ (.slice A' ss.length c') := ⟨_, rfl⟩
  rw [← hw4] at s1
  have x2 : w4.cell? ⟨g, lo * 4 + 2, none⟩ = some (.int .i64 t.frm) := by
    have := s1.cells (g := g) rfl (lo * 4 + 2) _ (flat_get encT_len _ lo 2 _ (List.getElem?_set_self hyl) (by omega))
    rw [← hyt]
    simpa [Addr.add] using this
  have g2 : w4.frozen? ⟨g, lo * 4 + 2, none⟩ = false := by
    have := s1.frozenAt (lo * 4 + 2)
    simpa [Addr.add] using this
  have s2 := (s1.stored (lo * 4 + 2) (.int .i64 (IntKind.i64.wrap (t.frm + 1)))).1
  rw [flat_set encT_len _ lo 2 ((⟨y.1.id, y.1.owner, y.1.frm, ss⟩, ⟨A', c'⟩) : Trk × SH) ((⟨y.1.id, y.1.owner, IntKind.i64.wrap (t.frm + 1), ss⟩, ⟨A', c'⟩) : Trk × SH) _ (by rw [List.getElem?_set_self hyl]) (by omega) rfl, List.set_set] at s2
  obtain ⟨w5, hw5⟩ : ∃ w5, w5 = w4.setCell ⟨g, lo * 4 + 2, none⟩ (.int .i64 (IntKind.i64.wrap (t.frm + 1))) := ⟨_, rfl⟩
  have u5 : Upd [g] w3 w5 := by
    rw [hw5, hw4]
    exact ((Upd.refl [g] w3).setCell (p := ⟨g, lo * 4 + 3, none⟩) (.inl (by simp)) _).setCell (p := ⟨g, lo * 4 + 2, none⟩) (.inl (by simp)) _
  have hgb : B ≤ g := (own_in hk3.r.t g (by rw [HG.out]; simp)).2
  have o5 : w5.ownsRow B 64 1 (.slice A' ss.length c') ss.length (ss.map (Value.int .u32)) := by
    have := HO3.out
    rw [HQL.out] at this
    exact ownsRow_upd this u5 (fun s hs => by
      rw [List.mem_singleton] at hs
      subst hs
      exact own_apart hk3.r.t this (by decide) (by rw [HG.out]; rfl))
  have HPUT := Lib.hid (hk3.setT HG.out u5 (ts' := s.ts.set lo { t with ss := ss, frm := IntKind.i64.wrap (t.frm + 1) }) (tx' := h.tx.set lo ((⟨y.1.id, y.1.owner, IntKind.i64.wrap (t.frm + 1), ss⟩, ⟨A', c'⟩) : Trk × SH))
    (by rw [List.map_set, hk3.r.tx, hyt]) (by rw [List.length_set]) (by rw [hw5]; exact s2)
    (fun x hx => by
      rcases mem_set_or hx with rfl | hx
      · exact .inr o5
      · exact .inl hx))
  have HFIN : Hid (Below B w w5) := Lib.hid ((HU3.out.below HB.out.1 (by simp)).trans (u5.below HB3.out (fun t ht => by rw [List.mem_singleton] at ht; subst ht; exact hgb)))
  clear hrow hcell s1 s2 u5 o5 hk3 hy hyt hyl hgb
  have HQ9 := Lib.hid HQL.out
  rw [← HQL.out] at hw4
  go_upto_region 9 with fail
  rw [← hw4]
  clear hw4 x3 g3
  go_wp2
  rw [show IntKind.i64.wrap (t.frm + 1) = wrap64 (t.frm + 1) by first | (simp [go_sem]; done) | (unfold wrap64 IntKind.wrap; simp [IntKind.bits, IntKind.signed]; split <;> omega) | (simp [IntKind.wrap, wrap64])] at hw5
  rw [← hw5]
  clear hw5
  go_ret
  exact ⟨ret_int (by rw [HX.out]), fun _ => ⟨_, by rw [HX.out]; exact HPUT.out⟩, HFIN.out⟩
end Go.Proofs.Ytjcbaelefacolaa
/- copy of elements of several cells into a row; append of zeros behind a row; a row with something put in. Plain laws on worlds. -/
namespace Go.Proofs.Ytjcbaelefacolaa
open Go Go.RowKit
set_option maxHeartbeats 400000

section
variable {P : Program}
/-- copy(d, s), where d lies in a row that is known whole. -/
theorem run_copy_rowK (w : World) (dT sT ty elem : TypeId) (g o m size dLen dCap : Nat) (a : Addr) (sLen sCap : Nat) (cur : Array Value) (t : TypeId) (cs : List Value)
    (hu : P.underlying dT = some (.slice elem)) (hs : (P.info? elem).map (·.size) = some size)
    (hg : w.heap[g]? = some (.cells cur t (0, 0))) (hm : m = Nat.min sLen dLen) (hn : cs.length = m * size)
    (hsrc : ∀ j v, cs[j]? = some v → w.cell? (a.add j) = some v) (hfit : o + cs.length ≤ cur.size) (h1 : ∀ v ∈ cs, v.oneCell' = true) :
    (Builtin.copy_ #[dT, sT] ty #[.slice (some ⟨g, o, none⟩) dLen dCap, .slice (some a) sLen sCap]).run P w =
      .ok (goInt m) (w.setRow g (cur.toList.take o ++ cs ++ cur.toList.drop (o + cs.length)).toArray) := by
  have hl := run_firstCells_some (P := P) (w := w) size m a sLen sCap cs hn hsrc
  have hst := run_storeCells_at P g o t cs 0 cur w hg (by simpa using hfit) h1
  cases hq : P.info? elem with
  | none => simp [hq] at hs
  | some i =>
    have hi : i.size = size := by simpa [hq] using hs
    simp only [Nat.add_zero] at hst
    simp [Builtin.copy_, run_underlying hu, Builtin.lenOf, sizeOf, typeInfo, hq, hi, ← hm, hl, hst]

/-- append(s, make([]T, n)...), where s has no room. -/
theorem run_append_grow_zeros (w : World) (t tn ty e : TypeId) (i : TypeInfo) (z : Value) (k kn : IntKind) (ht : P.underlying t = some (.slice e)) (htn : P.underlying tn = some (.int kn)) (hi : P.info? e = some i) (hz : i.zero = some z)
    (b : Addr) (sLen sCap n : Nat) (olds : List Value) (hlo : olds.length = sLen * i.size) (holds : ∀ j v, olds[j]? = some v → w.cell? (b.add j) = some v)
    (h0 : 0 < n) (hs : 0 < i.size) (hg : sCap < sLen + n) (h63 : ((sLen + n : Nat) : Int) ≤ 9223372036854775807) (h48 : n * i.bytes ≤ 281474976710656) (hfit : Builtin.nextslicecap (sLen + n) sCap * i.bytes ≤ 281474976710656) :
    (Builtin.append_ #[t, tn] ty #[.slice (some b) sLen sCap, .int k n]).run P w =
      .ok (.slice (some ⟨w.heap.size, 0, none⟩) (sLen + n) (grownCap w (sLen + n) sCap e)) (w.drew.alloc (.cells (olds.toArray ++ Builtin.zeroCells z.cells n ++ Builtin.zeroCells z.cells (grownCap w (sLen + n) sCap e - (sLen + n))) e)) := by
  have hn : n ≠ 0 := by omega
  have hw : IntKind.i64.wrap (n : Int) = n := by rw [IntKind.wrap_i64]; omega
  have hnn : ¬ (sLen + n ≤ sCap) := by omega
  have h63' : ¬ (9223372036854775807 < ((sLen : Int) + (n : Int))) := by omega
  have h48' : ¬ (281474976710656 < Builtin.nextslicecap (sLen + n) sCap * i.bytes) := by omega
  have h48i : ¬ (281474976710656 < (n : Int) * (i.bytes : Int)) := by
    rw [← Int.natCast_mul]
    omega
  have hneg : ¬ ((n : Int) < 0) := by omega
  have hns : ¬ (n * i.size = 0) := Nat.mul_ne_zero hn (by omega)
  have hfo := run_firstCells_some (P := P) (w := w.drew) i.size sLen b sLen sCap olds hlo (by simpa using holds)
  simp [Builtin.append_, run_underlying ht, run_underlying htn, sizeOf, typeInfo, zeroValue, hi, hz, asInt, asIntOf, hw, hn, hneg, hns, hnn, h63', h48', h48i, Question.forced, hfo, newRow, grownCap]
end

/-- copy, whose run is known, as one operation of a walk -/
theorem wp_copy_run {P : Program} (w : World) {o : Oper} {a : Act} {K : Act → World → Prop} {Q : Exit → Act → World → Prop} (d s : Operand) (t t' : TypeId)
    (ho : o.op = .call { callee := .builtin .copy, args := #[d, s], argTypes := #[t, t'] }) (v u : Value) (hd : a.eval d = v) (hs : a.eval s = u) {v' : Value} {w' : World}
    (hr : (Builtin.copy_ #[t, t'] o.type #[v, u]).run P w = .ok v' w') (h : K (a.put o.dst v') w') : o.wp P a w K Q := by
  unfold Oper.wp execOp
  simp only [ho, resolve, invoke, builtin, Sem.run_bind, Sem.run_pure, Result.andThen_ok, List.map_toArray, List.map_cons, List.map_nil, hd, hs, hr]
  exact h
theorem wpList_copy_run {P : Program} (w : World) {ops : Array Oper} {rest : List Oper} {o : Oper} {a : Act} {Q : Exit → Act → World → Prop} (hgd : o.guard = none) (d s : Operand) (t t' : TypeId)
    (ho : o.op = .call { callee := .builtin .copy, args := #[d, s], argTypes := #[t, t'] }) (v u : Value) (hd : a.eval d = v) (hs : a.eval s = u) {v' : Value} {w' : World}
    (hr : (Builtin.copy_ #[t, t'] o.type #[v, u]).run P w = .ok v' w') (h : wpList P ops Q rest (a.put o.dst v') w') : wpList P ops Q (o :: rest) a w :=
  wpList_plain hgd fun _ hK => wp_copy_run w d s t t' ho v u hd hs hr (hK _ _ h)
/-- a row whose cells from one place on are others -/
theorem seg_length {cur cs : List Value} {o : Nat} (h : o + cs.length ≤ cur.length) : (cur.take o ++ cs ++ cur.drop (o + cs.length)).length = cur.length := by
  rw [List.length_append, List.length_append, List.length_take, List.length_drop]; omega
theorem ins_room {C xs vs : List Value} {a k L : Nat} (hx : xs = C.take L) (ha : a ≤ L) (hv : vs.length = k) (hc : L + k ≤ C.length) :
    ((C.take (a + k) ++ xs.drop a ++ C.drop (a + k + (xs.drop a).length)).take a ++ vs ++ (C.take (a + k) ++ xs.drop a ++ C.drop (a + k + (xs.drop a).length)).drop (a + vs.length)).take (L + k) = xs.take a ++ vs ++ xs.drop a := by
  have hxl : xs.length = L := by rw [hx, List.length_take]; omega
  have h1 : (C.take (a + k) ++ xs.drop a ++ C.drop (a + k + (xs.drop a).length)).take a = xs.take a := by
    rw [List.append_assoc, List.take_append_of_le_length (by rw [List.length_take]; omega), List.take_take, hx, List.take_take]
    congr 1
    omega
  have h2 : (C.take (a + k) ++ xs.drop a ++ C.drop (a + k + (xs.drop a).length)).drop (a + vs.length) = xs.drop a ++ C.drop (a + k + (xs.drop a).length) := by
    rw [List.append_assoc, hv, List.drop_append_of_le_length (by rw [List.length_take]; omega), List.drop_eq_nil_of_le (by rw [List.length_take]; omega), List.nil_append]
  rw [h1, h2, ← List.append_assoc, List.take_left' (by simp [hxl, hv]; omega)]
theorem ins_grow {C xs vs : List Value} {a k L : Nat} (hx : C.take a = xs.take a) (hl : xs.length = L) (ha : a ≤ L) (hv : vs.length = k) (hc : L + k ≤ C.length) :
    ((C.take a ++ vs ++ C.drop (a + vs.length)).take (a + k) ++ xs.drop a ++ (C.take a ++ vs ++ C.drop (a + vs.length)).drop (a + k + (xs.drop a).length)).take (L + k) = xs.take a ++ vs ++ xs.drop a := by
  have h1 : (C.take a ++ vs ++ C.drop (a + vs.length)).take (a + k) = xs.take a ++ vs := by
    rw [hx, List.take_left' (by simp [hl, hv]; omega)]
  rw [h1, List.take_left' (by simp [hl, hv]; omega)]
theorem upd_setRow {w : World} {g : Nat} {cs : Array Value} : Upd [g] w (w.setRow g cs) :=
  ⟨rfl, rfl, rfl, by simp [World.setRow], fun k _ hk => setRow_other w g k cs (by simpa using hk)⟩
end Go.Proofs.Ytjcbaelefacolaa
/- slices.Insert at louver/delta.Track, of one element. Conditions: the place is within; a row of the call's own; no more than 1000. -/
namespace Go.Proofs.Ytjcbaelefacolaa
open Go Go.RowKit
set_option maxHeartbeats 400000

set_option maxRecDepth 100000 in
theorem insT_end {w : World} {N : Nat} {A : Option Addr} {n c V : Nat} {xs vs : List Value} (h : w.ownsRow N 76 4 (.slice A n c) n xs) (hl : n ≤ 1000) (hV : Blk w V 76 vs.toArray) (hvs : vs.length = 4)
    (h2 : ∀ u ∈ vs, u.oneCell' = true) (hN : N ≤ w.heap.size) :
    Calls Try.prog 58 #[.slice A n c, .int .i64 n, .slice (some ⟨V, 0, none⟩) 1 1] w fun e w' =>
      ∃ A' c', e = .returned (.slice A' (n + 1) c') ∧ w'.ownsRow N 76 4 (.slice A' (n + 1) c') (n + 1) (xs ++ vs) ∧ Upd (A.toList.map (·.block)) w w' := by
  obtain ⟨j0, hj0, hy0, hy1, hy2⟩ := info_parts infoT
  obtain ⟨A0, c0, hve, hnc, hA, hA2⟩ := own_form h
  injection hve with e1 _ e3
  subst e1
  subst e3
  have hcm := own_cap h
  have HO := Lib.hid h
  have HS := Lib.hid (fun j u (hj : vs[j]? = some u) => (by
    have := hV.cell j
    rw [List.getElem?_toArray] at this
    rw [hj] at this
    by_cases hk : j = 0
    · subst hk; exact this
    · simpa [Addr.add, hk] using this : w.cell? ((⟨V, 0, none⟩ : Addr).add j) = some u))
  have H2 := Lib.hid h2
  have HVS := Lib.hid hvs
  have HA := Lib.hid (And.intro hA hA2)
  have hin : (n : Int) ≤ (n : Int) := Int.le_refl _
  clear h hV hvs h2 hA hA2
  go_enter Try.func58, Try.ntmps58
  by_cases hnn : n = c
  · subst hnn
    cases A with
    | none =>
      obtain ⟨hn0, _⟩ := HA.out.2 rfl
      subst hn0
      go_wp2_with (at_builtin; refine wpList_append_own_at _ rfl (.tmp 23) (.tmp 24) 28 rfl N 76 j0 _ 4 48 Try.underlying28 hj0 hy0 hy1 hy2 rfl (by decide) _ 0 xs rfl HO.out ⟨V, 0, none⟩ 1 1 vs rfl (by rw [HVS.out]) HS.out H2.out (by unfold maxLen; omega) (by omega) hN ?_)
      intro v8 w8 hown8 hg8 _ hat8
      obtain ⟨A8, c8, hv8, -⟩ := own_form hown8
      subst hv8
      have HF := Lib.hid (And.intro hown8 (show Upd [] w w8 from Upd.of_grown hg8))
      clear hown8 hg8 hat8
      go_wp2
      go_ret
      exact ⟨A8, c8, rfl, HF.out.1, HF.out.2⟩
    | some a =>
      have hac : a.spot = none ∧ a.off = 0 := own_addr HO.out
      obtain ⟨g, o, sp⟩ := a
      obtain ⟨h3, h4⟩ := hac
      dsimp only at h3 h4
      subst h3
      subst h4
      go_wp2_with (at_builtin; refine wpList_append_own_at _ rfl (.tmp 23) (.tmp 24) 28 rfl N 76 j0 _ 4 48 Try.underlying28 hj0 hy0 hy1 hy2 rfl (by decide) _ n xs rfl HO.out ⟨V, 0, none⟩ 1 1 vs rfl (by rw [HVS.out]) HS.out H2.out (by unfold maxLen; omega) (by omega) hN ?_)
      intro v8 w8 hown8 hg8 _ hat8
      obtain ⟨A8, c8, hv8, -⟩ := own_form hown8
      subst hv8
      have HF := Lib.hid (And.intro hown8 (show Upd [g] w w8 from Upd.of_grown hg8))
      clear hown8 hg8 hat8
      go_wp2
      go_ret
      exact ⟨A8, c8, rfl, HF.out.1, HF.out.2⟩
  · have hnn2 : ¬ (c = n) := fun e => hnn e.symm
    have hnn3 : (n : Int) ≤ (c : Int) := by omega
    cases A with
    | none =>
      obtain ⟨h3, h4⟩ := HA.out.2 rfl
      omega
    | some a =>
      have hac : a.spot = none ∧ a.off = 0 := own_addr HO.out
      obtain ⟨g, o, sp⟩ := a
      obtain ⟨h3, h4⟩ := hac
      dsimp only at h3 h4
      subst h3
      subst h4
      go_wp2_with (at_builtin; refine wpList_append_own_at _ rfl (.tmp 23) (.tmp 24) 28 rfl N 76 j0 _ 4 48 Try.underlying28 hj0 hy0 hy1 hy2 rfl (by decide) _ n xs rfl HO.out ⟨V, 0, none⟩ 1 1 vs rfl (by rw [HVS.out]) HS.out H2.out (by unfold maxLen; omega) (by omega) hN ?_)
      intro v8 w8 hown8 hg8 _ hat8
      obtain ⟨A8, c8, hv8, -⟩ := own_form hown8
      subst hv8
      have HF := Lib.hid (And.intro hown8 (show Upd [g] w w8 from Upd.of_grown hg8))
      clear hown8 hg8 hat8
      go_wp2
      go_ret
      exact ⟨A8, c8, rfl, HF.out.1, HF.out.2⟩

theorem sizeOfT (w : World) : (Go.sizeOf 76).run Try.prog w = .ok 4 w := by
  obtain ⟨j0, hj0, _, hy1, _⟩ := info_parts infoT
  simp [sizeOf, typeInfo, hj0, hy1]
theorem sizeT : (Try.prog.info? 76).map (·.size) = some 4 := by
  obtain ⟨j0, hj0, _, hy1, _⟩ := info_parts infoT
  rw [hj0]; simp [hy1]
set_option maxRecDepth 100000 in
set_option maxHeartbeats 1000000 in
theorem insT_room {w : World} {N : Nat} {A : Option Addr} {n c i V : Nat} {xs vs : List Value} (h : w.ownsRow N 76 4 (.slice A n c) n xs) (hi : i < n) (hnc : n + 1 ≤ c) (hl : n ≤ 1000) (hV : Blk w V 76 vs.toArray) (hvs : vs.length = 4)
    (hA : ∀ a, A = some a → a.block ≠ V) (h1 : ∀ u ∈ xs, u.oneCell' = true) (h2 : ∀ u ∈ vs, u.oneCell' = true) :
    Calls Try.prog 58 #[.slice A n c, .int .i64 i, .slice (some ⟨V, 0, none⟩) 1 1] w fun e w' =>
      ∃ A' c', e = .returned (.slice A' (n + 1) c') ∧ w'.ownsRow N 76 4 (.slice A' (n + 1) c') (n + 1) (xs.take (i * 4) ++ vs ++ xs.drop (i * 4)) ∧ Upd (A.toList.map (·.block)) w w' := by
  have hcm := own_cap h
  have hxl := h.1
  rcases h.2 with ⟨_, hn⟩ | ⟨g, cap', cur, hve, hNg, hg, _, hcmx, hcs, htk⟩
  · omega
  injection hve with e1 _ e3
  subst e1
  subst e3
  have hgV : g ≠ V := hA _ rfl
  have hgl : g < w.heap.size := (Array.getElem?_eq_some_iff.1 hg).1
  have hcl : cur.toList.length = c * 4 := by simpa using hcs
  have hmul : i * 4 + 4 = (i + 1) * 4 := (Nat.succ_mul i 4).symm
  have hdl : (xs.drop (i * 4)).length = (n - i) * 4 := by rw [List.length_drop, hxl, ← Nat.sub_mul]
  have hik : i * 4 ≤ n * 4 := Nat.mul_le_mul_right _ (by omega)
  have hnk : n * 4 + 4 ≤ c * 4 := by rw [← Nat.succ_mul]; exact Nat.mul_le_mul_right _ hnc
  have hov : ∀ lb cb, (callFunc 89 #[.slice (some ⟨V, 0, none⟩) 1 1, .slice (some ⟨g, (i + 1) * 4, none⟩) lb cb]).run Try.prog w = .ok (.value (.bool false)) w := fun lb cb => by
    rw [run_callFunc_extern Try.func89 (by kernel_rfl) (by kernel_rfl) (by kernel_rfl) (e := Extern.SlicesOverlaps.overlaps #[28, 28] #[4]) (by kernel_rfl),
      Lib.run_overlaps_apart w 28 4 76 Try.underlying28 4 sizeOfT ⟨V, 0, none⟩ ⟨g, (i + 1) * 4, none⟩ 1 1 lb cb (Ne.symm hgV) 76 76 4 (c * 4)
        (by have hV' : w.heap[V]? = some (.cells vs.toArray 76 (0, 0)) := hV; simp [World.shape?, hV', hvs]) (by simp [World.shape?, hg, hcs]) (by omega) (hV.frozen 0) (hV.frozen 4)]
    rfl
  obtain ⟨C1, hC1⟩ : ∃ C1, C1 = cur.toList.take (i * 4 + 4) ++ xs.drop (i * 4) ++ cur.toList.drop (i * 4 + 4 + (xs.drop (i * 4)).length) := ⟨_, rfl⟩
  have hc1l : C1.length = c * 4 := by rw [hC1, seg_length (by rw [hdl, hcl]; omega), hcl]
  obtain ⟨w1, hw1⟩ : ∃ w1, w1 = (w.drewN 1).setRow g C1.toArray := ⟨_, rfl⟩
  have hsrc : ∀ (w' : World), (∀ b, w'.heap[b]? = w.heap[b]?) → ∀ (j : Nat) (v : Value), (xs.drop (i * 4))[j]? = some v → w'.cell? ((⟨g, i * 4, none⟩ : Addr).add j) = some v := fun w' hw' j v hj => by
    rw [List.getElem?_drop] at hj
    have hlt := (List.getElem?_eq_some_iff.1 hj).1
    rw [← htk, List.getElem?_take] at hj
    split at hj
    · rw [show ((⟨g, i * 4, none⟩ : Addr).add j) = ⟨g, i * 4 + j, none⟩ by unfold Addr.add; split <;> simp_all, cell_of_row w' g (i * 4 + j) cur _ _ ((hw' g).trans hg)]
      simpa using hj
    · cases hj
  have hcp1 : ∀ ty dc sc, (Builtin.copy_ #[28, 28] ty #[.slice (some ⟨g, (i + 1) * 4, none⟩) (n - i) dc, .slice (some ⟨g, i * 4, none⟩) (n + 1 - i) sc]).run Try.prog (w.drewN 1) = .ok (goInt ((n - i : Nat) : Int)) w1 := fun ty dc sc => by
    have hr := run_copy_rowK (P := Try.prog) (w.drewN 1) 28 28 ty 76 g ((i + 1) * 4) (n - i) 4 (n - i) dc ⟨g, i * 4, none⟩ (n + 1 - i) sc cur 76 (xs.drop (i * 4)) Try.underlying28 sizeT hg (by simp only [Nat.min_def]; split <;> omega) hdl (hsrc _ (fun _ => rfl)) (by rw [hdl, hcs]; omega) (fun v hv => h1 v (List.mem_of_mem_drop hv))
    rw [hr, hw1, hC1, hmul]
  have hg1 : w1.heap[g]? = some (.cells C1.toArray 76 (0, 0)) := by rw [hw1]; exact setRow_heap _ g cur _ _ _ hg
  have hV1 : Blk w1 V 76 vs.toArray := by
    have : w1.heap[V]? = w.heap[V]? := by rw [hw1]; exact setRow_other _ g V _ (Ne.symm hgV)
    exact this.trans hV
  obtain ⟨w2, hw2⟩ : ∃ w2, w2 = w1.setRow g (C1.take (i * 4) ++ vs ++ C1.drop (i * 4 + vs.length)).toArray := ⟨_, rfl⟩
  have hcp2 : ∀ ty dc, (Builtin.copy_ #[28, 28] ty #[.slice (some ⟨g, i * 4, none⟩) (n + 1 - i) dc, .slice (some ⟨V, 0, none⟩) 1 1]).run Try.prog w1 = .ok (goInt ((1 : Nat) : Int)) w2 := fun ty dc => by
    have hr := run_copy_rowK (P := Try.prog) w1 28 28 ty 76 g (i * 4) 1 4 (n + 1 - i) dc ⟨V, 0, none⟩ 1 1 C1.toArray 76 vs Try.underlying28 sizeT hg1 (by simp only [Nat.min_def]; split <;> omega) (by rw [hvs]) (fun j v hj => by
      have := hV1.cell j
      rw [List.getElem?_toArray, hj] at this
      by_cases hk : j = 0
      · subst hk; exact this
      · simpa [Addr.add, hk] using this) (by rw [List.size_toArray, hc1l, hvs]; omega) h2
    rw [hr, hw2]
  have HFIN : Hid (w2.ownsRow N 76 4 (.slice (some ⟨g, 0, none⟩) (n + 1) c) (n + 1) (xs.take (i * 4) ++ vs ++ xs.drop (i * 4)) ∧ Upd [g] w w2) := by
    refine Lib.hid ⟨⟨by simp [hxl, hvs]; omega, .inr ⟨g, c, _, rfl, hNg, by rw [hw2]; exact setRow_heap _ g _ _ _ _ hg1, hnc, hcmx, ?_, ?_⟩⟩, ?_⟩
    · rw [List.size_toArray, seg_length (by rw [hc1l, hvs]; omega), hc1l]
    · have hins := ins_room (C := cur.toList) (xs := xs) (vs := vs) (a := i * 4) (k := 4) (L := n * 4) htk.symm hik hvs (by rw [hcl]; exact hnk)
      rw [← hC1] at hins
      rw [show (n + 1) * 4 = n * 4 + 4 from Nat.succ_mul n 4]
      exact hins
    · rw [hw2, hw1]
      exact (((Upd.refl [g] w).drewN 1).next upd_setRow).next upd_setRow
  have hne1 : ¬ ((i : Int) = (n : Int)) := by omega
  have hz1 : ¬ ((1 : Int) = 0) := by omega
  have hb0 : (i : Int) ≤ (n : Int) := by omega
  have hb1 : ¬ (c = i) := by omega
  have hb2 : ¬ (c = i + 1) := by omega
  have hb3 : (n : Int) + 1 ≤ (c : Int) := by omega
  have hb4 : (i : Int) ≤ (n : Int) + 1 := by omega
  have hb5 : (i : Int) + 1 ≤ (n : Int) + 1 := by omega
  have hq1 : IntKind.i64.wrap ((n : Int) + 1) = (n : Int) + 1 := IntWalk.i64_in _ (by omega)
  have hq2 : IntKind.i64.wrap ((i : Int) + 1) = (i : Int) + 1 := IntWalk.i64_in _ (by omega)
  have HC1 := Lib.hid hcp1
  have HC2 := Lib.hid hcp2
  clear hw1 hw2 hg1 hV1 hcp1 hcp2 hC1 hc1l hsrc h1 h2 hV hvs h hg hcs htk hcl hdl hik hnk hmul hxl hA
  go_enter Try.func58, Try.ntmps58
  go_wp2_with (simp only [hov])
  refine wp_held_tail (fun w' => w' = w.drewN 1) rfl [0, 1, 2, 3, 4, 5, 6, 7] [8] (by kernel_rfl) (by kernel_rfl) (fun _ _ _ _ h => h) ?_
  intro hne
  simp only [pick3, List.map_cons, List.map_nil, List.getElem?_cons_zero, List.getElem?_cons_succ, Option.getD_some]
  repeat (go_big_quiet_step (fail))
  refine wpQuiet_nil ?_
  refine wpHeld_last ?_
  have hc1 := HC1.out
  have hc2 := HC2.out
  go_wp2
  go_ret
  exact ⟨_, _, rfl, HFIN.out.1, HFIN.out.2⟩
set_option maxRecDepth 100000 in
set_option maxHeartbeats 1000000 in
theorem insT_grow {w : World} {N : Nat} {A : Option Addr} {n c i V : Nat} {xs vs : List Value} (h : w.ownsRow N 76 4 (.slice A n c) n xs) (hi : i < n) (hnc : ¬ n + 1 ≤ c) (hl : n ≤ 1000) (hV : Blk w V 76 vs.toArray) (hvs : vs.length = 4)
    (h1 : ∀ u ∈ xs, u.oneCell' = true) (h2 : ∀ u ∈ vs, u.oneCell' = true) (hN : N ≤ w.heap.size) :
    Calls Try.prog 58 #[.slice A n c, .int .i64 i, .slice (some ⟨V, 0, none⟩) 1 1] w fun e w' =>
      ∃ A' c', e = .returned (.slice A' (n + 1) c') ∧ w'.ownsRow N 76 4 (.slice A' (n + 1) c') (n + 1) (xs.take (i * 4) ++ vs ++ xs.drop (i * 4)) ∧ Upd (A.toList.map (·.block)) w w' := by
  obtain ⟨j0, hj0, hy0, hy1, hy2⟩ := info_parts infoT
  have hxl := h.1
  have hHO := h
  rcases h.2 with ⟨_, hn⟩ | ⟨g, cap', cur, hve, hNg, hg, hncx, hcmx, hcs, htk⟩
  · omega
  injection hve with e1 _ e3
  subst e1
  subst e3
  obtain rfl : n = c := by omega
  have hgl : g < w.heap.size := (Array.getElem?_eq_some_iff.1 hg).1
  have hVl : V < w.heap.size := hV.lt
  have hmul : i * 4 + 4 = (i + 1) * 4 := (Nat.succ_mul i 4).symm
  have hdl : (xs.drop (i * 4)).length = (n - i) * 4 := by rw [List.length_drop, hxl, ← Nat.sub_mul]
  have hik : i * 4 ≤ n * 4 := Nat.mul_le_mul_right _ (by omega)
  have hcell : ∀ (w' : World), w'.heap[g]? = w.heap[g]? → ∀ (j : Nat) (v : Value), xs[j]? = some v → w'.cell? ⟨g, j, none⟩ = some v := fun w' hw' j v hj => by
    rw [← htk, List.getElem?_take] at hj
    split at hj
    · rw [cell_of_row w' g j cur _ _ (hw'.trans hg)]
      simpa using hj
    · cases hj
  obtain ⟨c1, hc1⟩ : ∃ c1, c1 = grownCap w (i + (n + 1 - i)) n 76 := ⟨_, rfl⟩
  have hc1n : n + 1 ≤ c1 := by rw [hc1]; have := grownCap_ge w (i + (n + 1 - i)) n 76; omega
  have hc1m : c1 ≤ maxLen := by rw [hc1]; exact grownCap_le_maxLen w (i + (n + 1 - i)) n 76 (by unfold maxLen; omega)
  obtain ⟨G, hG⟩ : ∃ G, G = w.heap.size := ⟨_, rfl⟩
  have hz0 : ((Value.agg #[.int .i64 0, .int .i64 0, .int .i64 0, .slice none 0 0]).cells).size = 4 := rfl
  obtain ⟨C, hC⟩ : ∃ C : Array Value, C = (xs.take (i * 4)).toArray ++ Builtin.zeroCells (Value.agg #[.int .i64 0, .int .i64 0, .int .i64 0, .slice none 0 0]).cells (n + 1 - i) ++ Builtin.zeroCells (Value.agg #[.int .i64 0, .int .i64 0, .int .i64 0, .slice none 0 0]).cells (c1 - (i + (n + 1 - i))) := ⟨_, rfl⟩
  have hCs : C.size = c1 * 4 := by
    rw [hC]
    simp only [Array.size_append, List.size_toArray, size_zeroCells, hz0, List.length_take, hxl, Nat.min_eq_left hik]
    rw [← Nat.add_mul, ← Nat.add_mul]
    congr 1
    omega
  have hCt : C.toList.take (i * 4) = xs.take (i * 4) := by
    rw [hC]
    simp only [Array.toList_append, List.append_assoc]
    exact List.take_left' (by rw [List.length_take, hxl, Nat.min_eq_left hik])
  obtain ⟨w1, hw1⟩ : ∃ w1, w1 = w.drew.alloc (.cells C 76) := ⟨_, rfl⟩
  have hap : ∀ ty, (Builtin.append_ #[28, 3] ty #[.slice (some ⟨g, 0, none⟩) i n, .int .i64 ((n : Int) + 1 - (i : Int))]).run Try.prog w = .ok (.slice (some ⟨G, 0, none⟩) (n + 1) c1) w1 := fun ty => by
    have hr := run_append_grow_zeros (P := Try.prog) w 28 3 ty 76 j0 _ .i64 .i64 Try.underlying28 Try.underlying3 hj0 hy0 ⟨g, 0, none⟩ i n (n + 1 - i) (xs.take (i * 4)) (by rw [List.length_take, hxl, hy1, Nat.min_eq_left hik]) (fun j v hj => by
      rw [List.getElem?_take] at hj
      split at hj
      · rw [show ((⟨g, 0, none⟩ : Addr).add j) = ⟨g, j, none⟩ by unfold Addr.add; split <;> simp_all]
        exact hcell w rfl j v hj
      · cases hj) (by omega) (by rw [hy1]; decide) (by omega) (by omega) (by rw [hy2]; omega) (growslice_fits (by omega) (by rw [hy2]; omega))
    have e1 : ((n + 1 - i : Nat) : Int) = (n : Int) + 1 - (i : Int) := by omega
    rw [e1] at hr
    rw [hr, hG, ← hc1, hw1, hC]
    have e2 : i + (n + 1 - i) = n + 1 := by omega
    rw [e2]
  have hg1 : w1.heap[G]? = some (.cells C 76 (0, 0)) := by rw [hw1, hG]; exact heap_alloc_new w.drew _
  have hold1 : ∀ b, b < w.heap.size → w1.heap[b]? = w.heap[b]? := fun b hb => by rw [hw1]; exact Below.heap_alloc w.drew _ b hb
  have hV1 : Blk w1 V 76 vs.toArray := (hold1 V hVl).trans hV
  obtain ⟨C2, hC2⟩ : ∃ C2, C2 = C.toList.take (i * 4) ++ vs ++ C.toList.drop (i * 4 + vs.length) := ⟨_, rfl⟩
  have hCl : C.toList.length = c1 * 4 := by simpa using hCs
  have hnk : n * 4 + 4 ≤ c1 * 4 := by rw [← Nat.succ_mul]; exact Nat.mul_le_mul_right _ hc1n
  have hc2l : C2.length = c1 * 4 := by rw [hC2, seg_length (by rw [hvs, hCl]; omega), hCl]
  obtain ⟨w2, hw2⟩ : ∃ w2, w2 = w1.setRow G C2.toArray := ⟨_, rfl⟩
  have hcp2 : ∀ ty dc, (Builtin.copy_ #[28, 28] ty #[.slice (some ⟨G, i * 4, none⟩) (n + 1 - i) dc, .slice (some ⟨V, 0, none⟩) 1 1]).run Try.prog w1 = .ok (goInt ((1 : Nat) : Int)) w2 := fun ty dc => by
    have hr := run_copy_rowK (P := Try.prog) w1 28 28 ty 76 G (i * 4) 1 4 (n + 1 - i) dc ⟨V, 0, none⟩ 1 1 C 76 vs Try.underlying28 sizeT hg1 (by simp only [Nat.min_def]; split <;> omega) (by rw [hvs]) (fun j v hj => by
      have := hV1.cell j
      rw [List.getElem?_toArray, hj] at this
      by_cases hk : j = 0
      · subst hk; exact this
      · simpa [Addr.add, hk] using this) (by rw [hCs, hvs]; omega) h2
    rw [hr, hw2, hC2]
  have hg2 : w2.heap[G]? = some (.cells C2.toArray 76 (0, 0)) := by rw [hw2]; exact setRow_heap _ G _ _ _ _ hg1
  have hgG : g ≠ G := by rw [hG]; omega
  have hold2 : w2.heap[g]? = w.heap[g]? := by rw [hw2]; exact (setRow_other _ G g _ hgG).trans (hold1 g hgl)
  obtain ⟨w3, hw3⟩ : ∃ w3, w3 = (w2.drewN 1).setRow G (C2.take (i * 4 + 4) ++ xs.drop (i * 4) ++ C2.drop (i * 4 + 4 + (xs.drop (i * 4)).length)).toArray := ⟨_, rfl⟩
  have hcp3 : ∀ ty dc sc, (Builtin.copy_ #[28, 28] ty #[.slice (some ⟨G, (i + 1) * 4, none⟩) (n - i) dc, .slice (some ⟨g, i * 4, none⟩) (n - i) sc]).run Try.prog (w2.drewN 1) = .ok (goInt ((n - i : Nat) : Int)) w3 := fun ty dc sc => by
    have hr := run_copy_rowK (P := Try.prog) (w2.drewN 1) 28 28 ty 76 G ((i + 1) * 4) (n - i) 4 (n - i) dc ⟨g, i * 4, none⟩ (n - i) sc C2.toArray 76 (xs.drop (i * 4)) Try.underlying28 sizeT hg2 (by simp only [Nat.min_def]; split <;> omega) hdl (fun j v hj => by
      rw [List.getElem?_drop] at hj
      rw [show ((⟨g, i * 4, none⟩ : Addr).add j) = ⟨g, i * 4 + j, none⟩ by unfold Addr.add; split <;> simp_all]
      exact hcell (w2.drewN 1) hold2 _ v hj) (by rw [hdl, List.size_toArray, hc2l, ← Nat.add_mul]; exact Nat.mul_le_mul_right _ (by omega)) (fun v hv => h1 v (List.mem_of_mem_drop hv))
    rw [hr, hw3, hmul]
  have HFIN : Hid (w3.ownsRow N 76 4 (.slice (some ⟨G, 0, none⟩) (n + 1) c1) (n + 1) (xs.take (i * 4) ++ vs ++ xs.drop (i * 4)) ∧ Upd [g] w w3) := by
    refine Lib.hid ⟨⟨by simp [hxl, hvs]; omega, .inr ⟨G, c1, _, rfl, by rw [hG]; exact hN, by rw [hw3]; exact setRow_heap _ G _ _ _ _ hg2, hc1n, hc1m, ?_, ?_⟩⟩, ?_⟩
    · rw [List.size_toArray, seg_length (by rw [hc2l, hdl, ← Nat.succ_mul, ← Nat.add_mul]; exact Nat.mul_le_mul_right _ (by omega)), hc2l]
    · have hins := ins_grow (C := C.toList) (xs := xs) (vs := vs) (a := i * 4) (k := 4) (L := n * 4) hCt hxl hik hvs (by rw [hCl]; exact hnk)
      rw [← hC2] at hins
      rw [show (n + 1) * 4 = n * 4 + 4 from Nat.succ_mul n 4]
      exact hins
    · have u1 : Upd [] w w1 := by rw [hw1]; exact ((Upd.refl [] w).drewN 1).alloc _
      refine (u1.more (by simp)).trans (T := [G]) ?_ (fun t ht => .inr (by rw [List.mem_singleton] at ht; subst ht; rw [hG]; exact Nat.le_refl _))
      rw [hw3]
      have u2 : Upd [G] w1 w2 := by rw [hw2]; exact upd_setRow
      exact (u2.drewN 1).next upd_setRow
  have hne1 : ¬ ((i : Int) = (n : Int)) := by omega
  have hz1 : ¬ ((1 : Int) = 0) := by omega
  have hb0 : (i : Int) ≤ (n : Int) := by omega
  have hb1 : ¬ (n = i) := by omega
  have hb2 : ¬ (c1 = i) := by omega
  have hb3 : ¬ (c1 = i + 1) := by omega
  have hb4 : (i : Int) ≤ (n : Int) + 1 := by omega
  have hb5 : (i : Int) + 1 ≤ (n : Int) + 1 := by omega
  have hb6 : (n : Int) + 1 ≤ (c1 : Int) := by omega
  have hc1i : (c1 : Int) ≤ 9223372036854775807 := by unfold maxLen at hc1m; omega
  have hq1 : IntKind.i64.wrap ((n : Int) + 1) = (n : Int) + 1 := IntWalk.i64_in _ (by omega)
  have hq2 : IntKind.i64.wrap ((i : Int) + 1) = (i : Int) + 1 := IntWalk.i64_in _ (by omega)
  have hq3 : IntKind.i64.wrap ((n : Int) + 1 - (i : Int)) = (n : Int) + 1 - (i : Int) := IntWalk.i64_in _ (by omega)
  have hd1 : decide ((n : Int) < (n : Int) + 1) = true := by simp; omega
  have HAP := Lib.hid hap
  have HC2 := Lib.hid hcp2
  have HC3 := Lib.hid hcp3
  clear hw1 hw2 hw3 hg1 hg2 hold1 hold2 hV1 hcp2 hcp3 hap hC hC2 hCs hCt hCl hnk hc2l hc1 hG hcell h1 h2 hV hvs h hHO hg hcs htk hdl hik hmul hxl hgG hz0 hVl hcmx
  go_enter Try.func58, Try.ntmps58
  have hc2 := HC2.out
  go_wp2_with (at_builtin; refine Lib.wpList_append_run _ rfl (.tmp 34) (.tmp 39) 28 3 rfl _ _ rfl rfl _ _ (HAP.out _) ?_)
  clear hc2
  refine wp_held_tail (fun w' => w' = w2.drewN 1) rfl [0, 1, 2, 3, 4, 5, 6, 7] [8] (by kernel_rfl) (by kernel_rfl) (fun _ _ _ _ h => h) ?_
  intro hne
  simp only [pick3, List.map_cons, List.map_nil, List.getElem?_cons_zero, List.getElem?_cons_succ, Option.getD_some]
  repeat (go_big_quiet_step (fail))
  refine wpQuiet_nil ?_
  refine wpHeld_last ?_
  have hc3 := HC3.out
  go_wp2
  go_ret
  exact ⟨_, _, rfl, HFIN.out.1, HFIN.out.2⟩
/-- one element put in, wherever -/
theorem insT_any {w : World} {N : Nat} {A : Option Addr} {n c i V : Nat} {xs vs : List Value} (h : w.ownsRow N 76 4 (.slice A n c) n xs) (hi : i ≤ n) (hl : n ≤ 1000) (hV : Blk w V 76 vs.toArray) (hvs : vs.length = 4)
    (hA : ∀ a, A = some a → a.block ≠ V) (h1 : ∀ u ∈ xs, u.oneCell' = true) (h2 : ∀ u ∈ vs, u.oneCell' = true) (hN : N ≤ w.heap.size) :
    Calls Try.prog 58 #[.slice A n c, .int .i64 i, .slice (some ⟨V, 0, none⟩) 1 1] w fun e w' =>
      ∃ A' c', e = .returned (.slice A' (n + 1) c') ∧ w'.ownsRow N 76 4 (.slice A' (n + 1) c') (n + 1) (xs.take (i * 4) ++ vs ++ xs.drop (i * 4)) ∧ Upd (A.toList.map (·.block)) w w' := by
  by_cases hin : i = n
  · subst hin
    have hx := h.1
    rw [← hx, List.take_length, List.drop_length, List.append_nil]
    exact insT_end h hl hV hvs h2 hN
  · by_cases hnc : n + 1 ≤ c
    · exact insT_room h (by omega) hnc hl hV hvs hA h1 h2
    · exact insT_grow h (by omega) hnc hl hV hvs h1 h2 hN
end Go.Proofs.Ytjcbaelefacolaa
/- slices.Insert at louver/delta.Person, of one element. Conditions: the place is within; a row of the call's own; no more than 1000. -/
namespace Go.Proofs.Ytjcbaelefacolaa
open Go Go.RowKit
set_option maxHeartbeats 400000

set_option maxRecDepth 100000 in
theorem insP_end {w : World} {N : Nat} {A : Option Addr} {n c V : Nat} {xs vs : List Value} (h : w.ownsRow N 75 3 (.slice A n c) n xs) (hl : n ≤ 1000) (hV : Blk w V 75 vs.toArray) (hvs : vs.length = 3)
    (h2 : ∀ u ∈ vs, u.oneCell' = true) (hN : N ≤ w.heap.size) :
    Calls Try.prog 49 #[.slice A n c, .int .i64 n, .slice (some ⟨V, 0, none⟩) 1 1] w fun e w' =>
      ∃ A' c', e = .returned (.slice A' (n + 1) c') ∧ w'.ownsRow N 75 3 (.slice A' (n + 1) c') (n + 1) (xs ++ vs) ∧ Upd (A.toList.map (·.block)) w w' := by
  obtain ⟨j0, hj0, hy0, hy1, hy2⟩ := info_parts infoP
  obtain ⟨A0, c0, hve, hnc, hA, hA2⟩ := own_form h
  injection hve with e1 _ e3
  subst e1
  subst e3
  have hcm := own_cap h
  have HO := Lib.hid h
  have HS := Lib.hid (fun j u (hj : vs[j]? = some u) => (by
    have := hV.cell j
    rw [List.getElem?_toArray] at this
    rw [hj] at this
    by_cases hk : j = 0
    · subst hk; exact this
    · simpa [Addr.add, hk] using this : w.cell? ((⟨V, 0, none⟩ : Addr).add j) = some u))
  have H2 := Lib.hid h2
  have HVS := Lib.hid hvs
  have HA := Lib.hid (And.intro hA hA2)
  have hin : (n : Int) ≤ (n : Int) := Int.le_refl _
  clear h hV hvs h2 hA hA2
  go_enter Try.func49, Try.ntmps49
  by_cases hnn : n = c
  · subst hnn
    cases A with
    | none =>
      obtain ⟨hn0, _⟩ := HA.out.2 rfl
      subst hn0
      go_wp2_with (at_builtin; refine wpList_append_own_at _ rfl (.tmp 23) (.tmp 24) 27 rfl N 75 j0 _ 3 24 Try.underlying27 hj0 hy0 hy1 hy2 rfl (by decide) _ 0 xs rfl HO.out ⟨V, 0, none⟩ 1 1 vs rfl (by rw [HVS.out]) HS.out H2.out (by unfold maxLen; omega) (by omega) hN ?_)
      intro v8 w8 hown8 hg8 _ hat8
      obtain ⟨A8, c8, hv8, -⟩ := own_form hown8
      subst hv8
      have HF := Lib.hid (And.intro hown8 (show Upd [] w w8 from Upd.of_grown hg8))
      clear hown8 hg8 hat8
      go_wp2
      go_ret
      exact ⟨A8, c8, rfl, HF.out.1, HF.out.2⟩
    | some a =>
      have hac : a.spot = none ∧ a.off = 0 := own_addr HO.out
      obtain ⟨g, o, sp⟩ := a
      obtain ⟨h3, h4⟩ := hac
      dsimp only at h3 h4
      subst h3
      subst h4
      go_wp2_with (at_builtin; refine wpList_append_own_at _ rfl (.tmp 23) (.tmp 24) 27 rfl N 75 j0 _ 3 24 Try.underlying27 hj0 hy0 hy1 hy2 rfl (by decide) _ n xs rfl HO.out ⟨V, 0, none⟩ 1 1 vs rfl (by rw [HVS.out]) HS.out H2.out (by unfold maxLen; omega) (by omega) hN ?_)
      intro v8 w8 hown8 hg8 _ hat8
      obtain ⟨A8, c8, hv8, -⟩ := own_form hown8
      subst hv8
      have HF := Lib.hid (And.intro hown8 (show Upd [g] w w8 from Upd.of_grown hg8))
      clear hown8 hg8 hat8
      go_wp2
      go_ret
      exact ⟨A8, c8, rfl, HF.out.1, HF.out.2⟩
  · have hnn2 : ¬ (c = n) := fun e => hnn e.symm
    have hnn3 : (n : Int) ≤ (c : Int) := by omega
    cases A with
    | none =>
      obtain ⟨h3, h4⟩ := HA.out.2 rfl
      omega
    | some a =>
      have hac : a.spot = none ∧ a.off = 0 := own_addr HO.out
      obtain ⟨g, o, sp⟩ := a
      obtain ⟨h3, h4⟩ := hac
      dsimp only at h3 h4
      subst h3
      subst h4
      go_wp2_with (at_builtin; refine wpList_append_own_at _ rfl (.tmp 23) (.tmp 24) 27 rfl N 75 j0 _ 3 24 Try.underlying27 hj0 hy0 hy1 hy2 rfl (by decide) _ n xs rfl HO.out ⟨V, 0, none⟩ 1 1 vs rfl (by rw [HVS.out]) HS.out H2.out (by unfold maxLen; omega) (by omega) hN ?_)
      intro v8 w8 hown8 hg8 _ hat8
      obtain ⟨A8, c8, hv8, -⟩ := own_form hown8
      subst hv8
      have HF := Lib.hid (And.intro hown8 (show Upd [g] w w8 from Upd.of_grown hg8))
      clear hown8 hg8 hat8
      go_wp2
      go_ret
      exact ⟨A8, c8, rfl, HF.out.1, HF.out.2⟩

theorem sizeOfP (w : World) : (Go.sizeOf 75).run Try.prog w = .ok 3 w := by
  obtain ⟨j0, hj0, _, hy1, _⟩ := info_parts infoP
  simp [sizeOf, typeInfo, hj0, hy1]
theorem sizeP : (Try.prog.info? 75).map (·.size) = some 3 := by
  obtain ⟨j0, hj0, _, hy1, _⟩ := info_parts infoP
  rw [hj0]; simp [hy1]
set_option maxRecDepth 100000 in
set_option maxHeartbeats 1000000 in
theorem insP_room {w : World} {N : Nat} {A : Option Addr} {n c i V : Nat} {xs vs : List Value} (h : w.ownsRow N 75 3 (.slice A n c) n xs) (hi : i < n) (hnc : n + 1 ≤ c) (hl : n ≤ 1000) (hV : Blk w V 75 vs.toArray) (hvs : vs.length = 3)
    (hA : ∀ a, A = some a → a.block ≠ V) (h1 : ∀ u ∈ xs, u.oneCell' = true) (h2 : ∀ u ∈ vs, u.oneCell' = true) :
    Calls Try.prog 49 #[.slice A n c, .int .i64 i, .slice (some ⟨V, 0, none⟩) 1 1] w fun e w' =>
      ∃ A' c', e = .returned (.slice A' (n + 1) c') ∧ w'.ownsRow N 75 3 (.slice A' (n + 1) c') (n + 1) (xs.take (i * 3) ++ vs ++ xs.drop (i * 3)) ∧ Upd (A.toList.map (·.block)) w w' := by
  have hcm := own_cap h
  have hxl := h.1
  rcases h.2 with ⟨_, hn⟩ | ⟨g, cap', cur, hve, hNg, hg, _, hcmx, hcs, htk⟩
  · omega
  injection hve with e1 _ e3
  subst e1
  subst e3
  have hgV : g ≠ V := hA _ rfl
  have hgl : g < w.heap.size := (Array.getElem?_eq_some_iff.1 hg).1
  have hcl : cur.toList.length = c * 3 := by simpa using hcs
  have hmul : i * 3 + 3 = (i + 1) * 3 := (Nat.succ_mul i 3).symm
  have hdl : (xs.drop (i * 3)).length = (n - i) * 3 := by rw [List.length_drop, hxl, ← Nat.sub_mul]
  have hik : i * 3 ≤ n * 3 := Nat.mul_le_mul_right _ (by omega)
  have hnk : n * 3 + 3 ≤ c * 3 := by rw [← Nat.succ_mul]; exact Nat.mul_le_mul_right _ hnc
  have hov : ∀ lb cb, (callFunc 77 #[.slice (some ⟨V, 0, none⟩) 1 1, .slice (some ⟨g, (i + 1) * 3, none⟩) lb cb]).run Try.prog w = .ok (.value (.bool false)) w := fun lb cb => by
    rw [run_callFunc_extern Try.func77 (by kernel_rfl) (by kernel_rfl) (by kernel_rfl) (e := Extern.SlicesOverlaps.overlaps #[27, 27] #[4]) (by kernel_rfl),
      Lib.run_overlaps_apart w 27 4 75 Try.underlying27 3 sizeOfP ⟨V, 0, none⟩ ⟨g, (i + 1) * 3, none⟩ 1 1 lb cb (Ne.symm hgV) 75 75 3 (c * 3)
        (by have hV' : w.heap[V]? = some (.cells vs.toArray 75 (0, 0)) := hV; simp [World.shape?, hV', hvs]) (by simp [World.shape?, hg, hcs]) (by omega) (hV.frozen 0) (hV.frozen 3)]
    rfl
  obtain ⟨C1, hC1⟩ : ∃ C1, C1 = cur.toList.take (i * 3 + 3) ++ xs.drop (i * 3) ++ cur.toList.drop (i * 3 + 3 + (xs.drop (i * 3)).length) := ⟨_, rfl⟩
  have hc1l : C1.length = c * 3 := by rw [hC1, seg_length (by rw [hdl, hcl]; omega), hcl]
  obtain ⟨w1, hw1⟩ : ∃ w1, w1 = (w.drewN 1).setRow g C1.toArray := ⟨_, rfl⟩
  have hsrc : ∀ (w' : World), (∀ b, w'.heap[b]? = w.heap[b]?) → ∀ (j : Nat) (v : Value), (xs.drop (i * 3))[j]? = some v → w'.cell? ((⟨g, i * 3, none⟩ : Addr).add j) = some v := fun w' hw' j v hj => by
    rw [List.getElem?_drop] at hj
    have hlt := (List.getElem?_eq_some_iff.1 hj).1
    rw [← htk, List.getElem?_take] at hj
    split at hj
    · rw [show ((⟨g, i * 3, none⟩ : Addr).add j) = ⟨g, i * 3 + j, none⟩ by unfold Addr.add; split <;> simp_all, cell_of_row w' g (i * 3 + j) cur _ _ ((hw' g).trans hg)]
      simpa using hj
    · cases hj
  have hcp1 : ∀ ty dc sc, (Builtin.copy_ #[27, 27] ty #[.slice (some ⟨g, (i + 1) * 3, none⟩) (n - i) dc, .slice (some ⟨g, i * 3, none⟩) (n + 1 - i) sc]).run Try.prog (w.drewN 1) = .ok (goInt ((n - i : Nat) : Int)) w1 := fun ty dc sc => by
    have hr := run_copy_rowK (P := Try.prog) (w.drewN 1) 27 27 ty 75 g ((i + 1) * 3) (n - i) 3 (n - i) dc ⟨g, i * 3, none⟩ (n + 1 - i) sc cur 75 (xs.drop (i * 3)) Try.underlying27 sizeP hg (by simp only [Nat.min_def]; split <;> omega) hdl (hsrc _ (fun _ => rfl)) (by rw [hdl, hcs]; omega) (fun v hv => h1 v (List.mem_of_mem_drop hv))
    rw [hr, hw1, hC1, hmul]
  have hg1 : w1.heap[g]? = some (.cells C1.toArray 75 (0, 0)) := by rw [hw1]; exact setRow_heap _ g cur _ _ _ hg
  have hV1 : Blk w1 V 75 vs.toArray := by
    have : w1.heap[V]? = w.heap[V]? := by rw [hw1]; exact setRow_other _ g V _ (Ne.symm hgV)
    exact this.trans hV
  obtain ⟨w2, hw2⟩ : ∃ w2, w2 = w1.setRow g (C1.take (i * 3) ++ vs ++ C1.drop (i * 3 + vs.length)).toArray := ⟨_, rfl⟩
  have hcp2 : ∀ ty dc, (Builtin.copy_ #[27, 27] ty #[.slice (some ⟨g, i * 3, none⟩) (n + 1 - i) dc, .slice (some ⟨V, 0, none⟩) 1 1]).run Try.prog w1 = .ok (goInt ((1 : Nat) : Int)) w2 := fun ty dc => by
    have hr := run_copy_rowK (P := Try.prog) w1 27 27 ty 75 g (i * 3) 1 3 (n + 1 - i) dc ⟨V, 0, none⟩ 1 1 C1.toArray 75 vs Try.underlying27 sizeP hg1 (by simp only [Nat.min_def]; split <;> omega) (by rw [hvs]) (fun j v hj => by
      have := hV1.cell j
      rw [List.getElem?_toArray, hj] at this
      by_cases hk : j = 0
      · subst hk; exact this
      · simpa [Addr.add, hk] using this) (by rw [List.size_toArray, hc1l, hvs]; omega) h2
    rw [hr, hw2]
  have HFIN : Hid (w2.ownsRow N 75 3 (.slice (some ⟨g, 0, none⟩) (n + 1) c) (n + 1) (xs.take (i * 3) ++ vs ++ xs.drop (i * 3)) ∧ Upd [g] w w2) := by
    refine Lib.hid ⟨⟨by simp [hxl, hvs]; omega, .inr ⟨g, c, _, rfl, hNg, by rw [hw2]; exact setRow_heap _ g _ _ _ _ hg1, hnc, hcmx, ?_, ?_⟩⟩, ?_⟩
    · rw [List.size_toArray, seg_length (by rw [hc1l, hvs]; omega), hc1l]
    · have hins := ins_room (C := cur.toList) (xs := xs) (vs := vs) (a := i * 3) (k := 3) (L := n * 3) htk.symm hik hvs (by rw [hcl]; exact hnk)
      rw [← hC1] at hins
      rw [show (n + 1) * 3 = n * 3 + 3 from Nat.succ_mul n 3]
      exact hins
    · rw [hw2, hw1]
      exact (((Upd.refl [g] w).drewN 1).next upd_setRow).next upd_setRow
  have hne1 : ¬ ((i : Int) = (n : Int)) := by omega
  have hz1 : ¬ ((1 : Int) = 0) := by omega
  have hb0 : (i : Int) ≤ (n : Int) := by omega
  have hb1 : ¬ (c = i) := by omega
  have hb2 : ¬ (c = i + 1) := by omega
  have hb3 : (n : Int) + 1 ≤ (c : Int) := by omega
  have hb4 : (i : Int) ≤ (n : Int) + 1 := by omega
  have hb5 : (i : Int) + 1 ≤ (n : Int) + 1 := by omega
  have hq1 : IntKind.i64.wrap ((n : Int) + 1) = (n : Int) + 1 := IntWalk.i64_in _ (by omega)
  have hq2 : IntKind.i64.wrap ((i : Int) + 1) = (i : Int) + 1 := IntWalk.i64_in _ (by omega)
  have HC1 := Lib.hid hcp1
  have HC2 := Lib.hid hcp2
  clear hw1 hw2 hg1 hV1 hcp1 hcp2 hC1 hc1l hsrc h1 h2 hV hvs h hg hcs htk hcl hdl hik hnk hmul hxl hA
  go_enter Try.func49, Try.ntmps49
  go_wp2_with (simp only [hov])
  refine wp_held_tail (fun w' => w' = w.drewN 1) rfl [0, 1, 2, 3, 4, 5, 6, 7] [8] (by kernel_rfl) (by kernel_rfl) (fun _ _ _ _ h => h) ?_
  intro hne
  simp only [pick3, List.map_cons, List.map_nil, List.getElem?_cons_zero, List.getElem?_cons_succ, Option.getD_some]
  repeat (go_big_quiet_step (fail))
  refine wpQuiet_nil ?_
  refine wpHeld_last ?_
  have hc1 := HC1.out
  have hc2 := HC2.out
  go_wp2
  go_ret
  exact ⟨_, _, rfl, HFIN.out.1, HFIN.out.2⟩
set_option maxRecDepth 100000 in
set_option maxHeartbeats 1000000 in
theorem insP_grow {w : World} {N : Nat} {A : Option Addr} {n c i V : Nat} {xs vs : List Value} (h : w.ownsRow N 75 3 (.slice A n c) n xs) (hi : i < n) (hnc : ¬ n + 1 ≤ c) (hl : n ≤ 1000) (hV : Blk w V 75 vs.toArray) (hvs : vs.length = 3)
    (h1 : ∀ u ∈ xs, u.oneCell' = true) (h2 : ∀ u ∈ vs, u.oneCell' = true) (hN : N ≤ w.heap.size) :
    Calls Try.prog 49 #[.slice A n c, .int .i64 i, .slice (some ⟨V, 0, none⟩) 1 1] w fun e w' =>
      ∃ A' c', e = .returned (.slice A' (n + 1) c') ∧ w'.ownsRow N 75 3 (.slice A' (n + 1) c') (n + 1) (xs.take (i * 3) ++ vs ++ xs.drop (i * 3)) ∧ Upd (A.toList.map (·.block)) w w' := by
  obtain ⟨j0, hj0, hy0, hy1, hy2⟩ := info_parts infoP
  have hxl := h.1
  have hHO := h
  rcases h.2 with ⟨_, hn⟩ | ⟨g, cap', cur, hve, hNg, hg, hncx, hcmx, hcs, htk⟩
  · omega
  injection hve with e1 _ e3
  subst e1
  subst e3
  obtain rfl : n = c := by omega
  have hgl : g < w.heap.size := (Array.getElem?_eq_some_iff.1 hg).1
  have hVl : V < w.heap.size := hV.lt
  have hmul : i * 3 + 3 = (i + 1) * 3 := (Nat.succ_mul i 3).symm
  have hdl : (xs.drop (i * 3)).length = (n - i) * 3 := by rw [List.length_drop, hxl, ← Nat.sub_mul]
  have hik : i * 3 ≤ n * 3 := Nat.mul_le_mul_right _ (by omega)
  have hcell : ∀ (w' : World), w'.heap[g]? = w.heap[g]? → ∀ (j : Nat) (v : Value), xs[j]? = some v → w'.cell? ⟨g, j, none⟩ = some v := fun w' hw' j v hj => by
    rw [← htk, List.getElem?_take] at hj
    split at hj
    · rw [cell_of_row w' g j cur _ _ (hw'.trans hg)]
      simpa using hj
    · cases hj
  obtain ⟨c1, hc1⟩ : ∃ c1, c1 = grownCap w (i + (n + 1 - i)) n 75 := ⟨_, rfl⟩
  have hc1n : n + 1 ≤ c1 := by rw [hc1]; have := grownCap_ge w (i + (n + 1 - i)) n 75; omega
  have hc1m : c1 ≤ maxLen := by rw [hc1]; exact grownCap_le_maxLen w (i + (n + 1 - i)) n 75 (by unfold maxLen; omega)
  obtain ⟨G, hG⟩ : ∃ G, G = w.heap.size := ⟨_, rfl⟩
  have hz0 : ((Value.agg #[.int .i64 0, .int .i64 0, .int .i64 0]).cells).size = 3 := rfl
  obtain ⟨C, hC⟩ : ∃ C : Array Value, C = (xs.take (i * 3)).toArray ++ Builtin.zeroCells (Value.agg #[.int .i64 0, .int .i64 0, .int .i64 0]).cells (n + 1 - i) ++ Builtin.zeroCells (Value.agg #[.int .i64 0, .int .i64 0, .int .i64 0]).cells (c1 - (i + (n + 1 - i))) := ⟨_, rfl⟩
  have hCs : C.size = c1 * 3 := by
    rw [hC]
    simp only [Array.size_append, List.size_toArray, size_zeroCells, hz0, List.length_take, hxl, Nat.min_eq_left hik]
    rw [← Nat.add_mul, ← Nat.add_mul]
    congr 1
    omega
  have hCt : C.toList.take (i * 3) = xs.take (i * 3) := by
    rw [hC]
    simp only [Array.toList_append, List.append_assoc]
    exact List.take_left' (by rw [List.length_take, hxl, Nat.min_eq_left hik])
  obtain ⟨w1, hw1⟩ : ∃ w1, w1 = w.drew.alloc (.cells C 75) := ⟨_, rfl⟩
  have hap : ∀ ty, (Builtin.append_ #[27, 3] ty #[.slice (some ⟨g, 0, none⟩) i n, .int .i64 ((n : Int) + 1 - (i : Int))]).run Try.prog w = .ok (.slice (some ⟨G, 0, none⟩) (n + 1) c1) w1 := fun ty => by
    have hr := run_append_grow_zeros (P := Try.prog) w 27 3 ty 75 j0 _ .i64 .i64 Try.underlying27 Try.underlying3 hj0 hy0 ⟨g, 0, none⟩ i n (n + 1 - i) (xs.take (i * 3)) (by rw [List.length_take, hxl, hy1, Nat.min_eq_left hik]) (fun j v hj => by
      rw [List.getElem?_take] at hj
      split at hj
      · rw [show ((⟨g, 0, none⟩ : Addr).add j) = ⟨g, j, none⟩ by unfold Addr.add; split <;> simp_all]
        exact hcell w rfl j v hj
      · cases hj) (by omega) (by rw [hy1]; decide) (by omega) (by omega) (by rw [hy2]; omega) (growslice_fits (by omega) (by rw [hy2]; omega))
    have e1 : ((n + 1 - i : Nat) : Int) = (n : Int) + 1 - (i : Int) := by omega
    rw [e1] at hr
    rw [hr, hG, ← hc1, hw1, hC]
    have e2 : i + (n + 1 - i) = n + 1 := by omega
    rw [e2]
  have hg1 : w1.heap[G]? = some (.cells C 75 (0, 0)) := by rw [hw1, hG]; exact heap_alloc_new w.drew _
  have hold1 : ∀ b, b < w.heap.size → w1.heap[b]? = w.heap[b]? := fun b hb => by rw [hw1]; exact Below.heap_alloc w.drew _ b hb
  have hV1 : Blk w1 V 75 vs.toArray := (hold1 V hVl).trans hV
  obtain ⟨C2, hC2⟩ : ∃ C2, C2 = C.toList.take (i * 3) ++ vs ++ C.toList.drop (i * 3 + vs.length) := ⟨_, rfl⟩
  have hCl : C.toList.length = c1 * 3 := by simpa using hCs
  have hnk : n * 3 + 3 ≤ c1 * 3 := by rw [← Nat.succ_mul]; exact Nat.mul_le_mul_right _ hc1n
  have hc2l : C2.length = c1 * 3 := by rw [hC2, seg_length (by rw [hvs, hCl]; omega), hCl]
  obtain ⟨w2, hw2⟩ : ∃ w2, w2 = w1.setRow G C2.toArray := ⟨_, rfl⟩
  have hcp2 : ∀ ty dc, (Builtin.copy_ #[27, 27] ty #[.slice (some ⟨G, i * 3, none⟩) (n + 1 - i) dc, .slice (some ⟨V, 0, none⟩) 1 1]).run Try.prog w1 = .ok (goInt ((1 : Nat) : Int)) w2 := fun ty dc => by
    have hr := run_copy_rowK (P := Try.prog) w1 27 27 ty 75 G (i * 3) 1 3 (n + 1 - i) dc ⟨V, 0, none⟩ 1 1 C 75 vs Try.underlying27 sizeP hg1 (by simp only [Nat.min_def]; split <;> omega) (by rw [hvs]) (fun j v hj => by
      have := hV1.cell j
      rw [List.getElem?_toArray, hj] at this
      by_cases hk : j = 0
      · subst hk; exact this
      · simpa [Addr.add, hk] using this) (by rw [hCs, hvs]; omega) h2
    rw [hr, hw2, hC2]
  have hg2 : w2.heap[G]? = some (.cells C2.toArray 75 (0, 0)) := by rw [hw2]; exact setRow_heap _ G _ _ _ _ hg1
  have hgG : g ≠ G := by rw [hG]; omega
  have hold2 : w2.heap[g]? = w.heap[g]? := by rw [hw2]; exact (setRow_other _ G g _ hgG).trans (hold1 g hgl)
  obtain ⟨w3, hw3⟩ : ∃ w3, w3 = (w2.drewN 1).setRow G (C2.take (i * 3 + 3) ++ xs.drop (i * 3) ++ C2.drop (i * 3 + 3 + (xs.drop (i * 3)).length)).toArray := ⟨_, rfl⟩
  have hcp3 : ∀ ty dc sc, (Builtin.copy_ #[27, 27] ty #[.slice (some ⟨G, (i + 1) * 3, none⟩) (n - i) dc, .slice (some ⟨g, i * 3, none⟩) (n - i) sc]).run Try.prog (w2.drewN 1) = .ok (goInt ((n - i : Nat) : Int)) w3 := fun ty dc sc => by
    have hr := run_copy_rowK (P := Try.prog) (w2.drewN 1) 27 27 ty 75 G ((i + 1) * 3) (n - i) 3 (n - i) dc ⟨g, i * 3, none⟩ (n - i) sc C2.toArray 75 (xs.drop (i * 3)) Try.underlying27 sizeP hg2 (by simp only [Nat.min_def]; split <;> omega) hdl (fun j v hj => by
      rw [List.getElem?_drop] at hj
      rw [show ((⟨g, i * 3, none⟩ : Addr).add j) = ⟨g, i * 3 + j, none⟩ by unfold Addr.add; split <;> simp_all]
      exact hcell (w2.drewN 1) hold2 _ v hj) (by rw [hdl, List.size_toArray, hc2l, ← Nat.add_mul]; exact Nat.mul_le_mul_right _ (by omega)) (fun v hv => h1 v (List.mem_of_mem_drop hv))
    rw [hr, hw3, hmul]
  have HFIN : Hid (w3.ownsRow N 75 3 (.slice (some ⟨G, 0, none⟩) (n + 1) c1) (n + 1) (xs.take (i * 3) ++ vs ++ xs.drop (i * 3)) ∧ Upd [g] w w3) := by
    refine Lib.hid ⟨⟨by simp [hxl, hvs]; omega, .inr ⟨G, c1, _, rfl, by rw [hG]; exact hN, by rw [hw3]; exact setRow_heap _ G _ _ _ _ hg2, hc1n, hc1m, ?_, ?_⟩⟩, ?_⟩
    · rw [List.size_toArray, seg_length (by rw [hc2l, hdl, ← Nat.succ_mul, ← Nat.add_mul]; exact Nat.mul_le_mul_right _ (by omega)), hc2l]
    · have hins := ins_grow (C := C.toList) (xs := xs) (vs := vs) (a := i * 3) (k := 3) (L := n * 3) hCt hxl hik hvs (by rw [hCl]; exact hnk)
      rw [← hC2] at hins
      rw [show (n + 1) * 3 = n * 3 + 3 from Nat.succ_mul n 3]
      exact hins
    · have u1 : Upd [] w w1 := by rw [hw1]; exact ((Upd.refl [] w).drewN 1).alloc _
      refine (u1.more (by simp)).trans (T := [G]) ?_ (fun t ht => .inr (by rw [List.mem_singleton] at ht; subst ht; rw [hG]; exact Nat.le_refl _))
      rw [hw3]
      have u2 : Upd [G] w1 w2 := by rw [hw2]; exact upd_setRow
      exact (u2.drewN 1).next upd_setRow
  have hne1 : ¬ ((i : Int) = (n : Int)) := by omega
  have hz1 : ¬ ((1 : Int) = 0) := by omega
  have hb0 : (i : Int) ≤ (n : Int) := by omega
  have hb1 : ¬ (n = i) := by omega
  have hb2 : ¬ (c1 = i) := by omega
  have hb3 : ¬ (c1 = i + 1) := by omega
  have hb4 : (i : Int) ≤ (n : Int) + 1 := by omega
  have hb5 : (i : Int) + 1 ≤ (n : Int) + 1 := by omega
  have hb6 : (n : Int) + 1 ≤ (c1 : Int) := by omega
  have hc1i : (c1 : Int) ≤ 9223372036854775807 := by unfold maxLen at hc1m; omega
  have hq1 : IntKind.i64.wrap ((n : Int) + 1) = (n : Int) + 1 := IntWalk.i64_in _ (by omega)
  have hq2 : IntKind.i64.wrap ((i : Int) + 1) = (i : Int) + 1 := IntWalk.i64_in _ (by omega)
  have hq3 : IntKind.i64.wrap ((n : Int) + 1 - (i : Int)) = (n : Int) + 1 - (i : Int) := IntWalk.i64_in _ (by omega)
  have hd1 : decide ((n : Int) < (n : Int) + 1) = true := by simp; omega
  have HAP := Lib.hid hap
  have HC2 := Lib.hid hcp2
  have HC3 := Lib.hid hcp3
  clear hw1 hw2 hw3 hg1 hg2 hold1 hold2 hV1 hcp2 hcp3 hap hC hC2 hCs hCt hCl hnk hc2l hc1 hG hcell h1 h2 hV hvs h hHO hg hcs htk hdl hik hmul hxl hgG hz0 hVl hcmx
  go_enter Try.func49, Try.ntmps49
  have hc2 := HC2.out
  go_wp2_with (at_builtin; refine Lib.wpList_append_run _ rfl (.tmp 34) (.tmp 39) 27 3 rfl _ _ rfl rfl _ _ (HAP.out _) ?_)
  clear hc2
  refine wp_held_tail (fun w' => w' = w2.drewN 1) rfl [0, 1, 2, 3, 4, 5, 6, 7] [8] (by kernel_rfl) (by kernel_rfl) (fun _ _ _ _ h => h) ?_
  intro hne
  simp only [pick3, List.map_cons, List.map_nil, List.getElem?_cons_zero, List.getElem?_cons_succ, Option.getD_some]
  repeat (go_big_quiet_step (fail))
  refine wpQuiet_nil ?_
  refine wpHeld_last ?_
  have hc3 := HC3.out
  go_wp2
  go_ret
  exact ⟨_, _, rfl, HFIN.out.1, HFIN.out.2⟩
/-- one element put in, wherever -/
theorem insP_any {w : World} {N : Nat} {A : Option Addr} {n c i V : Nat} {xs vs : List Value} (h : w.ownsRow N 75 3 (.slice A n c) n xs) (hi : i ≤ n) (hl : n ≤ 1000) (hV : Blk w V 75 vs.toArray) (hvs : vs.length = 3)
    (hA : ∀ a, A = some a → a.block ≠ V) (h1 : ∀ u ∈ xs, u.oneCell' = true) (h2 : ∀ u ∈ vs, u.oneCell' = true) (hN : N ≤ w.heap.size) :
    Calls Try.prog 49 #[.slice A n c, .int .i64 i, .slice (some ⟨V, 0, none⟩) 1 1] w fun e w' =>
      ∃ A' c', e = .returned (.slice A' (n + 1) c') ∧ w'.ownsRow N 75 3 (.slice A' (n + 1) c') (n + 1) (xs.take (i * 3) ++ vs ++ xs.drop (i * 3)) ∧ Upd (A.toList.map (·.block)) w w' := by
  by_cases hin : i = n
  · subst hin
    have hx := h.1
    rw [← hx, List.take_length, List.drop_length, List.append_nil]
    exact insP_end h hl hV hvs h2 hN
  · by_cases hnc : n + 1 ≤ c
    · exact insP_room h (by omega) hnc hl hV hvs hA h1 h2
    · exact insP_grow h (by omega) hnc hl hV hvs h1 h2 hN
end Go.Proofs.Ytjcbaelefacolaa
/- The layer delta: Join. Conditions: what always holds of a state; the state in a box. -/
namespace Go.Proofs.Ytjcbaelefacolaa
open Go Go.RowKit
set_option maxHeartbeats 400000

theorem ins_flat {α : Type} {f : α → List Value} {size : Nat} (hf : ∀ z, (f z).length = size) (l : List α) (i : Nat) (x : α) : (ins l i x).flatMap f = (l.flatMap f).take (i * size) ++ f x ++ (l.flatMap f).drop (i * size) := by
  have h1 : (l.take i).flatMap f = (l.flatMap f).take (i * size) := (flat_take hf l i).symm
  have h2 : (l.drop i).flatMap f = (l.flatMap f).drop (i * size) := by
    have e : (l.flatMap f) = (l.take i).flatMap f ++ (l.drop i).flatMap f := by rw [← List.flatMap_append, List.take_append_drop]
    by_cases hi : i ≤ l.length
    · rw [e, List.drop_left' (by rw [flat_length hf, List.length_take, Nat.min_eq_left hi])]
    · rw [List.drop_eq_nil_of_le (by omega), List.drop_eq_nil_of_le (by rw [flat_length hf]; exact Nat.mul_le_mul_right _ (by omega))]
      rfl
  unfold ins
  rw [List.flatMap_append, List.flatMap_cons, h1, h2, List.append_assoc]
set_option maxRecDepth 100000 in
set_option maxHeartbeats 2000000 in
theorem join_any {w : World} {B T : Nat} {s : St} {h : SHd} {q : Rq} {qh : SH} (k : TIn w B T s h) (hi : Inv s) (hB : B ≤ w.heap.size) :
    Calls Try.prog 22 #[.pointer (some ⟨T, 0, none⟩), .agg (qcells q qh).toArray] w fun e w' => e = .returned (.int .i64 (joinM s q).2) ∧ ((joinM s q).2 = 0 → ∃ h', TIn w' B T (joinM s q).1 h') ∧ Below B w w' := by
  have hnp : s.ps.length ≤ 16 := by have := hi.np; have := hi.cp; omega
  have HP := Lib.hid (fun (W : World) (u : Upd [] w W) => person_any (w := W) (s := s) (h := h) (k.upd u).r.st.p (by omega) hi.up q.who)
  obtain ⟨r, hr⟩ : ∃ r, r = joinM s q := ⟨_, rfl⟩
  rw [← hr]
  have HR := Lib.hid hr
  clear hr
  obtain ⟨kd, who, room, rights, track, ss, layer, tid⟩ := q
  obtain ⟨qA, qc⟩ := qh
  unfold qcells
  dsimp only at HP ⊢
  obtain ⟨ql, hql⟩ : ∃ ql, ql = ss.length := ⟨_, rfl⟩
  rw [← hql]
  obtain ⟨W, hW⟩ : ∃ W, W = w.alloc (.cells #[.int .i64 kd, .int .i64 who, .int .i64 room, .int .i64 rights, .int .i64 track, .slice qA ql qc, .int .i64 layer, .int .i64 tid] 45) := ⟨_, rfl⟩
  obtain ⟨Z, hZ⟩ : ∃ Z, Z = w.heap.size := ⟨_, rfl⟩
  have hZB : Blk W Z 45 #[.int .i64 kd, .int .i64 who, .int .i64 room, .int .i64 rights, .int .i64 track, .slice qA ql qc, .int .i64 layer, .int .i64 tid] := by rw [hW, hZ]; exact Blk.new _ _ _
  have hu0 : Upd [] w W := by rw [hW]; exact (Upd.refl [] w).alloc _
  obtain ⟨lo, hlo⟩ : ∃ lo, lo = low (cP who) s.ps := ⟨_, rfl⟩
  obtain ⟨ha, hha⟩ : ∃ ha, ha = has (cP who) s.ps := ⟨_, rfl⟩
  rw [← hlo, ← hha] at HP
  have HLO := Lib.hid hlo
  have HHA := Lib.hid hha
  have hkW := k.upd hu0
  have HK := Lib.hid hkW
  have HB := Lib.hid (And.intro hB (Nat.le_trans hB hu0.size))
  have HU0 := Lib.hid hu0
  have HI := Lib.hid hi
  have HZB := Lib.hid hZB
  obtain ⟨z0, z1, z2, z3, z4, z5, z6⟩ := box_cells hkW.box
  obtain ⟨n, hn⟩ : ∃ n, n = s.ps.length := ⟨_, rfl⟩
  obtain ⟨n2, hn2⟩ : ∃ n2, n2 = s.ts.length := ⟨_, rfl⟩
  obtain ⟨n3, hn3⟩ : ∃ n3, n3 = s.bs.length := ⟨_, rfl⟩
  have HC : Hid (∀ (z : Cls (Upd [] W)), ∃ v, v = v) := fun z => ⟨(), rfl⟩
  clear HC
  unfold scells at HP
  rw [← hn, ← hn2, ← hn3] at HP
  rw [← hn] at z4 hnp
  rw [← hn2] at z5
  rw [← hn3] at z6
  have HN := Lib.hid (And.intro hn (And.intro hn2 hn3))
  have hTl := hkW.box.lt
  have hZl := hZB.lt
  have y0 : ∀ z : Cls (Upd [] W), z.w.cell? ⟨T, 0, none⟩ = _ := fun z => (z.h.cell (p := ⟨T, 0, none⟩) hTl (by simp)).trans z0
  have y1 : ∀ z : Cls (Upd [] W), z.w.cell? ⟨T, 1, none⟩ = _ := fun z => (z.h.cell (p := ⟨T, 1, none⟩) hTl (by simp)).trans z1
  have y2 : ∀ z : Cls (Upd [] W), z.w.cell? ⟨T, 2, none⟩ = _ := fun z => (z.h.cell (p := ⟨T, 2, none⟩) hTl (by simp)).trans z2
  have y3 : ∀ z : Cls (Upd [] W), z.w.cell? ⟨T, 3, none⟩ = _ := fun z => (z.h.cell (p := ⟨T, 3, none⟩) hTl (by simp)).trans z3
  have y4 : ∀ z : Cls (Upd [] W), z.w.cell? ⟨T, 4, none⟩ = _ := fun z => (z.h.cell (p := ⟨T, 4, none⟩) hTl (by simp)).trans z4
  have y5 : ∀ z : Cls (Upd [] W), z.w.cell? ⟨T, 5, none⟩ = _ := fun z => (z.h.cell (p := ⟨T, 5, none⟩) hTl (by simp)).trans z5
  have y6 : ∀ z : Cls (Upd [] W), z.w.cell? ⟨T, 6, none⟩ = _ := fun z => (z.h.cell (p := ⟨T, 6, none⟩) hTl (by simp)).trans z6
  have q1 : ∀ z : Cls (Upd [] W), z.w.cell? ⟨Z, 1, none⟩ = some (.int .i64 who) := fun z => (z.h.cell (p := ⟨Z, 1, none⟩) hZl (by simp)).trans (hZB.cell 1)
  have HPC := Lib.hid (fun (z : Cls (Upd [] W)) => quiet_cls (C := Upd [] W) (x := z) ((HP.out z.w (hu0.next z.h)).mono fun e w' h => ⟨h.1, z.h.next h.2⟩))
  clear hlo hha hkW hn hn2 hn3 z0 z1 z2 z3 z4 z5 z6 hu0 hi k hB hZB HP hql
  go_enter Try.func22, Try.ntmps22
  go_upto_region 1 with fail
  rw [← hW, ← hZ]
  clear hW hZ
  refine wp_class_tail (Upd [] W) ((Upd.refl _ _).drewN 1) 10 (by kernel_rfl) (by kernel_rfl) (fun _ _ _ _ h => h) ?_
  intro hne
  simp only [List.take_succ_cons, List.take_zero, List.drop_succ_cons, List.drop_zero]
  repeat (go_big_quiet_step ((go_at_call 33; with_reducible exact HPC.out _)))
  refine wpQuiet_nil ?_
  rintro _ ⟨xe, rfl⟩
  have hux := xe.h
  obtain ⟨w1, hw1⟩ : ∃ W2, W2 = xe.w := ⟨_, rfl⟩
  rw [← hw1] at hux ⊢
  have HU1 := Lib.hid hux
  have HK1 := Lib.hid (HK.out.upd hux)
  have hZ1 := HZB.out.upd hux (by simp)
  have p1 : w1.cell? ⟨Z, 1, none⟩ = some (.int .i64 who) := hZ1.cell 1
  have p2 : w1.cell? ⟨Z, 2, none⟩ = some (.int .i64 room) := hZ1.cell 2
  have p3 : w1.cell? ⟨Z, 3, none⟩ = some (.int .i64 rights) := hZ1.cell 3
  have HZ1 := Lib.hid hZ1
  clear hw1 hux hZ1 y0 y1 y2 y3 y4 y5 y6 q1 HPC HK HZB
  obtain ⟨b1, hb1⟩ : ∃ x, x = (decide ((1 : Int) ≤ who) && decide (who ≤ 999)) := ⟨_, rfl⟩
  obtain ⟨b2, hb2⟩ : ∃ x, x = (decide ((1 : Int) ≤ room) && decide (room ≤ 9)) := ⟨_, rfl⟩
  obtain ⟨b3, hb3⟩ : ∃ x, x = (decide ((0 : Int) ≤ rights) && decide (rights ≤ 3)) := ⟨_, rfl⟩
  have H1 : Hid (Calls Try.prog 32 #[.int .i64 who, .int .i64 1, .int .i64 999] w1 fun e w' => e = .returned (.bool b1) ∧ w1 = w') := Lib.hid (by rw [hb1]; exact in_any w1 who 1 999)
  have H2 : Hid (Calls Try.prog 32 #[.int .i64 room, .int .i64 1, .int .i64 9] w1 fun e w' => e = .returned (.bool b2) ∧ w1 = w') := Lib.hid (by rw [hb2]; exact in_any w1 room 1 9)
  have H3 : Hid (Calls Try.prog 32 #[.int .i64 rights, .int .i64 0, .int .i64 3] w1 fun e w' => e = .returned (.bool b3) ∧ w1 = w') := Lib.hid (by rw [hb3]; exact in_any w1 rights 0 3)
  have HB1 := Lib.hid hb1
  have HB2 := Lib.hid hb2
  have HB3 := Lib.hid hb3
  clear hb1 hb2 hb3
  go_wp2_with fail
  refine H1.out.mono ?_
  rintro _ _ ⟨rfl, rfl⟩
  cases b1 with
  | false =>
    have HX : Hid (r = (s, 1)) := Lib.hid (by
      rw [HR.out]
      unfold joinM
      rw [if_pos]
      dsimp only
      have := HB1.out.symm
      simp only [Bool.and_eq_false_iff, decide_eq_false_iff_not] at this
      omega)
    go_wp2
    go_ret
    exact ⟨ret_int (by rw [HX.out]), fun h0 => absurd h0 (by rw [HX.out]; simp), (HU0.out.next HU1.out).below HB.out.1 (by simp)⟩
  | true =>
  go_wp2_with fail
  refine H2.out.mono ?_
  rintro _ _ ⟨rfl, rfl⟩
  cases b2 with
  | false =>
    have HX : Hid (r = (s, 1)) := Lib.hid (by
      rw [HR.out]
      unfold joinM
      rw [if_pos]
      dsimp only
      have := HB2.out.symm
      simp only [Bool.and_eq_false_iff, decide_eq_false_iff_not] at this
      omega)
    go_wp2
    go_ret
    exact ⟨ret_int (by rw [HX.out]), fun h0 => absurd h0 (by rw [HX.out]; simp), (HU0.out.next HU1.out).below HB.out.1 (by simp)⟩
  | true =>
  go_wp2_with fail
  refine H3.out.mono ?_
  rintro _ _ ⟨rfl, rfl⟩
  cases b3 with
  | false =>
    have HX : Hid (r = (s, 1)) := Lib.hid (by
      rw [HR.out]
      unfold joinM
      rw [if_pos]
      dsimp only
      have := HB3.out.symm
      simp only [Bool.and_eq_false_iff, decide_eq_false_iff_not] at this
      omega)
    go_wp2
    go_ret
    exact ⟨ret_int (by rw [HX.out]), fun h0 => absurd h0 (by rw [HX.out]; simp), (HU0.out.next HU1.out).below HB.out.1 (by simp)⟩
  | true =>
  have HOK : Hid (¬ (who < 1 ∨ 999 < who ∨ room < 1 ∨ 9 < room ∨ rights < 0 ∨ 3 < rights)) := Lib.hid (by
    have h1 := HB1.out.symm
    have h2 := HB2.out.symm
    have h3 := HB3.out.symm
    simp only [Bool.and_eq_true, decide_eq_true_eq] at h1 h2 h3
    omega)
  clear H1 H2 H3 HB1 HB2 HB3
  cases ha with
  | true =>
    have HX : Hid (r = (s, 22)) := Lib.hid (by
      rw [HR.out]
      unfold joinM
      rw [if_neg HOK.out]
      dsimp only
      rw [if_pos HHA.out.symm])
    go_wp2
    go_ret
    exact ⟨ret_int (by rw [HX.out]), fun h0 => absurd h0 (by rw [HX.out]; simp), (HU0.out.next HU1.out).below HB.out.1 (by simp)⟩
  | false =>
  obtain ⟨z0, z1, z2, z3, z4, z5, z6⟩ := box_cells HK1.out.box
  rw [← HN.out.1] at z4
  rw [← HN.out.2.1] at z5
  rw [← HN.out.2.2] at z6
  have hTl := HK1.out.box.lt
  have y0 : ∀ z : Cls (Upd [] w1), z.w.cell? ⟨T, 0, none⟩ = _ := fun z => (z.h.cell (p := ⟨T, 0, none⟩) hTl (by simp)).trans z0
  have y4 : ∀ z : Cls (Upd [] w1), z.w.cell? ⟨T, 4, none⟩ = _ := fun z => (z.h.cell (p := ⟨T, 4, none⟩) hTl (by simp)).trans z4
  clear z0 z1 z2 z3 z4 z5 z6
  go_wp2
  refine wp_class_tail (Upd [] w1) ((Upd.refl _ _).drewN 1) 11 (by kernel_rfl) (by kernel_rfl) (fun _ _ _ _ h => h) ?_
  intro hne
  simp only [List.take_succ_cons, List.take_zero, List.drop_succ_cons, List.drop_zero]
  repeat (go_big_quiet_step (fail))
  refine wpQuiet_nil ?_
  rintro _ ⟨xe, rfl⟩
  have hux := xe.h
  obtain ⟨w2, hw2⟩ : ∃ W2, W2 = xe.w := ⟨_, rfl⟩
  rw [← hw2] at hux ⊢
  have HU2 := Lib.hid (HU1.out.next hux)
  have HK2 := Lib.hid (HK1.out.upd hux)
  have HZ2 := Lib.hid (HZ1.out.upd hux (by simp))
  clear hw2 hux y0 y4 p1 p2 p3 HK1 HZ1
  by_cases hfull : s.c.people ≤ (n : Int)
  · have HX : Hid (r = (s, 20)) := Lib.hid (by
      rw [HR.out]
      unfold joinM
      rw [if_neg HOK.out]
      dsimp only
      rw [if_neg (by rw [← HHA.out]; decide), if_pos (by rw [← HN.out.1]; exact hfull)])
    have hd : decide (s.c.people ≤ (n : Int)) = true := by simpa using hfull
    go_wp2
    go_ret
    exact ⟨ret_int (by rw [HX.out]), fun h0 => absurd h0 (by rw [HX.out]; simp), (HU0.out.next HU2.out).below HB.out.1 (by simp)⟩
  have hd : decide (s.c.people ≤ (n : Int)) = false := by simpa using hfull
  have HX : Hid (r = ({ s with ps := ins s.ps lo ⟨who, room, rights⟩ }, 0)) := Lib.hid (by
    rw [HR.out]
    unfold joinM
    rw [if_neg HOK.out]
    dsimp only
    rw [if_neg (by rw [← HHA.out]; decide), if_neg (by rw [← HN.out.1]; exact hfull), ← HLO.out])
  obtain ⟨PB, hPB⟩ : ∃ PB, PB = h.pA.toList.map (·.block) := ⟨_, rfl⟩
  have hTP : T ∉ PB := fun hm => own_box HK2.out.r.p HK2.out.box (by decide) (own_in HK2.out.r.p T (by rw [← hPB]; exact hm)).1
  have hZP : Z ∉ PB := fun hm => own_box HK2.out.r.p HZ2.out (by decide) (own_in HK2.out.r.p Z (by rw [← hPB]; exact hm)).1
  obtain ⟨z0, z1, z2, z3, z4, z5, z6⟩ := box_cells HK2.out.box
  rw [← HN.out.1] at z4
  have hTl := HK2.out.box.lt
  have y4 : ∀ z : Cls (Upd PB w2), z.w.cell? ⟨T, 4, none⟩ = _ := fun z => (z.h.cell (p := ⟨T, 4, none⟩) hTl hTP).trans z4
  have q1 : ∀ z : Cls (Upd PB w2), z.w.cell? ⟨Z, 1, none⟩ = some (.int .i64 who) := fun z => (z.h.cell (p := ⟨Z, 1, none⟩) HZ2.out.lt hZP).trans (HZ2.out.cell 1)
  have q2 : ∀ z : Cls (Upd PB w2), z.w.cell? ⟨Z, 2, none⟩ = some (.int .i64 room) := fun z => (z.h.cell (p := ⟨Z, 2, none⟩) HZ2.out.lt hZP).trans (HZ2.out.cell 2)
  have q3 : ∀ z : Cls (Upd PB w2), z.w.cell? ⟨Z, 3, none⟩ = some (.int .i64 rights) := fun z => (z.h.cell (p := ⟨Z, 3, none⟩) HZ2.out.lt hZP).trans (HZ2.out.cell 3)
  obtain ⟨W3, hW3⟩ : ∃ W3, W3 = (w2.drewN 1).alloc (.cells #[.int .i64 who, .int .i64 room, .int .i64 rights] 75) := ⟨_, rfl⟩
  obtain ⟨V, hV⟩ : ∃ V, V = w2.heap.size := ⟨_, rfl⟩
  have u3 : Upd [] w2 W3 := by rw [hW3]; exact ((Upd.refl [] w2).drewN 1).alloc _
  have hVB : Blk W3 V 75 (encP ⟨who, room, rights⟩).toArray := by rw [hW3, hV]; exact Blk.new _ _ _
  have k3 := HK2.out.upd u3
  have hlon : lo ≤ n := by rw [HLO.out, HN.out.1]; exact low_le _ _
  have hcall := insP_any (i := lo) (V := V) (vs := encP ⟨who, room, rights⟩) k3.r.p (by rw [← HN.out.1]; exact hlon) (by rw [← HN.out.1]; omega) hVB rfl (fun a hA e => by
    have h1 := (own_block_lt HK2.out.r.p (g := a.block) (by rw [hA]; rfl)).2
    rw [hV] at e
    omega) (flat_ones encP_one s.ps) (encP_one _) (Nat.le_trans (Nat.le_trans HB.out.2 HU2.out.size) u3.size)
  rw [← ins_flat encP_len, ← HN.out.1] at hcall
  have HCALL := Lib.hid hcall
  have HK3 := Lib.hid k3
  have HU3 := Lib.hid u3
  have HPB := Lib.hid hPB
  have HTP := Lib.hid hTP
  have HLON := Lib.hid hlon
  clear z0 z1 z2 z3 z4 z5 z6 hcall k3 u3 hVB HZ2 HK2 hPB hTP hZP hlon
  go_wp2
  refine wp_held_tail (Upd PB w2) ((Upd.refl _ _).drewN 1) [0, 1, 2, 3, 4, 5, 6, 7, 8, 9, 10, 11, 12] [13, 14, 15, 16, 17] (by kernel_rfl) (by kernel_rfl) (fun _ _ _ _ h => h) ?_
  intro hne
  simp only [pick3, List.map_cons, List.map_nil, List.getElem?_cons_zero, List.getElem?_cons_succ, Option.getD_some]
  repeat (go_big_quiet_step (fail))
  refine wpQuiet_nil ?_
  clear y4 q1 q2 q3
  refine wpHeld_step rfl fun K hK => ?_
  go_simp
  rw [← hW3, ← hV]
  clear hW3 hV
  refine hK.out _ _ (.inr ⟨⟨W3, HU3.out.more (by simp)⟩, rfl⟩) ?_
  clear hK K
  refine wpHeld_step rfl fun K hK => ?_
  go_simp
  refine HCALL.out.mono ?_
  rintro e w4 ⟨A', c', rfl, ho, hu4⟩
  rw [← HPB.out] at hu4
  have HU4 := Lib.hid (show Upd PB w2 w4 from (HU3.out.more (by simp)).next hu4)
  refine hK.out _ _ (.inr ⟨⟨w4, HU4.out⟩, rfl⟩) ?_
  clear hK K HCALL
  have hput := HK3.out.putP (by rw [← HPB.out]; exact hu4) (ps' := ins s.ps lo ⟨who, room, rights⟩) (A' := A') (c' := c') (by rw [ins_length _ _ _ (by rw [← HN.out.1]; exact HLON.out), ← HN.out.1]; exact ho)
  rw [ins_length _ _ _ (by rw [← HN.out.1]; exact HLON.out), ← HN.out.1] at hput
  have hfT := (HK3.out.box.upd hu4 HTP.out).frozen 4
  have hcT := (HK3.out.box.upd hu4 HTP.out).cell 4
  have HPUT := Lib.hid hput
  have HCT : Hid _ := Lib.hid hcT
  clear ho hu4 hput hcT
  have hcT : w4.cell? ⟨T, 4, none⟩ = some (.slice h.pA n h.pc) := by have := HCT.out; rw [HN.out.1]; exact this
  refine wpHeld_step rfl fun K hK => ?_
  go_simp
  refine hK.out _ _ (.inr ⟨⟨w4, HU4.out⟩, rfl⟩) ?_
  clear hK K
  refine wpHeld_step rfl fun K hK => ?_
  go_simp
  refine hK.out _ _ (.inr ⟨⟨w4, HU4.out⟩, rfl⟩) ?_
  clear hK K
  refine wpHeld_last ?_
  obtain ⟨w5, hw5⟩ : ∃ w5, w5 = w4.setCell ⟨T, 4, none⟩ (.slice A' (n + 1) c') := ⟨_, rfl⟩
  rw [← hw5] at HPUT
  have HFIN : Hid (Below B w w5) := Lib.hid (((HU0.out.next HU2.out).next HU3.out).below HB.out.1 (by simp) |>.trans (below_of HPUT.out.2 HK3.out.BT (Nat.le_trans (Nat.le_trans HB.out.2 HU2.out.size) HU3.out.size) (fun s hs => (own_in HK3.out.r.p s hs).2)))
  go_wp2
  rw [← hw5]
  clear hw5
  go_ret
  exact ⟨ret_int (by rw [HX.out]), fun _ => ⟨_, by rw [HX.out]; exact HPUT.out.1⟩, HFIN.out⟩
end Go.Proofs.Ytjcbaelefacolaa
