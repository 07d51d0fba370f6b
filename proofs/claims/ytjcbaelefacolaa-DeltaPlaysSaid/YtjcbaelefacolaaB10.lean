/- Parts of the proof, one behind the other: DROwn. No condition of their own. -/
import Derived.Test.YtjcbaelefacolaaB9
import Derived.Test.YtjcbaelefacolaaB6
/- The layer delta, the document's side: Unpublish, and Replace. Conditions: the state in memory; what always holds of a state. -/
namespace Go.Proofs.Ytjcbaelefacolaa
open Go Go.RowKit
set_option maxHeartbeats 400000
def ownD (s : St) (q : Rq) : St × Int := if q.kind = 3 then unpublishM s q else replaceM s q
theorem own_err {s : St} {q : Rq} (h : ownM s q ≠ 0) : ownD s q = (s, ownM s q) := by
  unfold ownD unpublishM replaceM
  rw [if_pos h, if_pos h]
  split <;> rfl
/-- no Owner is 0 -/
theorem owner_pos {s : St} (hi : Inv s) {t : Trk} (ht : t ∈ s.ts) : t.owner ≠ 0 := by
  obtain ⟨p, hp, he, _⟩ := hi.own t ht
  have := (hi.per p hp).1
  omega
theorem sub_pos {s : St} (hi : Inv s) {b : Sb} (hb : b ∈ s.bs) : b.who ≠ 0 := by
  obtain ⟨t, p, o, _, _, hp, he, _⟩ := hi.sub b hb
  have := (hi.per p hp).1
  omega
/-- a row that begins with what a zero box does not hold lies elsewhere -/
theorem RwIn.not_zero {w : World} {g size n c : Nat} {A : Option Addr} {xs : List Value} (h : RwIn w 0 size A n c xs) (hz : Blk w g 37 #[.int .i64 0, .int .i64 0, .int .i64 0, .int .i64 0, .slice none 0 0, .slice none 0 0, .slice none 0 0]) (hv : 0 < n → ∃ v, xs[0]? = some v ∧ v ≠ .int .i64 0 ∧ v ≠ .slice none 0 0) : 0 < n → ∀ a, A = some a → a.block ≠ g := by
  intro hn a ha he
  obtain ⟨v, hv, h0, h1⟩ := hv hn
  obtain ⟨b, off, hA, _, _, hc⟩ := h.l.2 hn
  rw [hA] at ha
  obtain rfl := Option.some.inj ha
  dsimp only at he
  subst he
  have e1 := hc 0 v hv
  rw [Nat.add_zero, hz.cell off] at e1
  rcases off with _ | _ | _ | _ | _ | _ | _ | off <;> simp at e1
  all_goals first | exact h0 e1.symm | exact h1 e1.symm
theorem av_zero {w : World} {g : Nat} {s : St} {h : SHd} (k : StIn w s h) (hp : ∀ p, p ∈ s.ps → p.who ≠ 0) (ht : ∀ t, t ∈ s.ts → t.id ≠ 0) (hb : ∀ b, b ∈ s.bs → b.who ≠ 0) (hz : Blk w g 37 #[.int .i64 0, .int .i64 0, .int .i64 0, .int .i64 0, .slice none 0 0, .slice none 0 0, .slice none 0 0]) : Av g s h := by
  refine ⟨k.p.not_zero hz ?_, k.t.not_zero hz ?_, k.b.not_zero hz ?_, fun x hx => (k.ss x hx).not_zero hz ?_⟩
  · intro hn
    obtain ⟨p, l, e⟩ := List.exists_cons_of_length_pos hn
    exact ⟨.int .i64 p.who, by rw [e]; rfl, fun h => hp p (by rw [e]; simp) (by injection h), fun h => by cases h⟩
  · intro hn
    rw [← k.tx, List.length_map] at hn
    obtain ⟨x, l, e⟩ := List.exists_cons_of_length_pos hn
    exact ⟨.int .i64 x.1.id, by rw [e]; rfl, fun h => ht x.1 (by rw [← k.tx, e]; simp) (by injection h), fun h => by cases h⟩
  · intro hn
    obtain ⟨p, l, e⟩ := List.exists_cons_of_length_pos hn
    exact ⟨.int .i64 p.who, by rw [e]; rfl, fun h => hb p (by rw [e]; simp) (by injection h), fun h => by cases h⟩
  · intro hn
    obtain ⟨v, l, e⟩ := List.exists_cons_of_length_pos hn
    exact ⟨.int .u32 v, by rw [e]; rfl, nofun, nofun⟩
theorem inv_av {w : World} {g : Nat} {s : St} {h : SHd} (k : StIn w s h) (hi : Inv s) (hz : Blk w g 37 #[.int .i64 0, .int .i64 0, .int .i64 0, .int .i64 0, .slice none 0 0, .slice none 0 0, .slice none 0 0]) : Av g s h :=
  av_zero k (fun p hp => by have := (hi.per p hp).1; omega) (fun t ht => by have := (hi.trk t ht).1; omega) (fun b hb => sub_pos hi hb) hz
theorem without_track {s : St} (hi : Inv s) (id : Int) : withoutM s id 0 0 = dropM s (fun t => decide (t.id = id)) := by
  have e : s.ts.filter (staysT id 0) = s.ts.filter (fun t => !decide (t.id = id)) := List.filter_congr fun t ht => by
    unfold staysT
    have := owner_pos hi ht
    simp [this]
  unfold withoutM dropM
  rw [e]
  congr 1
  exact List.filter_congr fun b hb => by
    have := sub_pos hi hb
    simp [this]

set_option maxRecDepth 100000 in
set_option maxHeartbeats 4000000 in
theorem rown_any {w : World} {s : St} {h : SHd} {q : Rq} {qh : SH} (hs : StIn w s h) (hi : Inv s) (hq : RwIn w 0 1 qh.A q.ss.length qh.c (q.ss.map (Value.int .u32))) :
    Calls Try.prog 38 #[.agg (scells s h).toArray, .agg (qcells q qh).toArray] w fun e w' => ∃ h', e = .returned (.tuple #[.agg (scells (ownD s q).1 h').toArray, .int .i64 (ownD s q).2]) ∧ StIn w' (ownD s q).1 h' ∧ (∀ g, g < w.heap.size → QAv g q qh → Av g s h → Av g (ownD s q).1 h') ∧ Upd [] w w' := by
  obtain ⟨T, hT⟩ : ∃ T, T = w.heap.size := ⟨_, rfl⟩
  obtain ⟨n1, hn1⟩ : ∃ n, n = s.ps.length := ⟨_, rfl⟩
  obtain ⟨n2, hn2⟩ : ∃ n, n = s.ts.length := ⟨_, rfl⟩
  obtain ⟨n3, hn3⟩ : ∃ n, n = s.bs.length := ⟨_, rfl⟩
  obtain ⟨r, hr⟩ : ∃ r, r = ownD s q := ⟨_, rfl⟩
  have HR := Lib.hid hr
  rw [← hr]
  clear hr
  have HS := Lib.hid hs
  have HI := Lib.hid hi
  have HQ := Lib.hid hq
  have HN := Lib.hid (And.intro hn1 (And.intro hn2 hn3))
  have hsc : scells s h = [.int .i64 s.c.people, .int .i64 s.c.tracks, .int .i64 s.c.subs, .int .i64 s.c.slots, .slice h.pA n1 h.pc, .slice h.tA n2 h.tc, .slice h.bA n3 h.bc] := by unfold scells; rw [← hn1, ← hn2, ← hn3]
  have hm1 : n1 ≤ 16 := by have := hi.np; have := hi.cp; omega
  have hm2 : n2 ≤ 16 := by have := hi.nt; have := hi.ct; omega
  have hm3 : n3 ≤ 64 := by have := hi.nb; have := hi.cl; omega
  obtain ⟨kd, who, room, rights, track, ss, layer, tid⟩ := q
  obtain ⟨qA, qc⟩ := qh
  unfold qcells
  dsimp only
  obtain ⟨ql, hql⟩ : ∃ ql, ql = ss.length := ⟨_, rfl⟩
  have HQL := Lib.hid hql
  rw [← hql]
  rw [hsc]
  have HSC := Lib.hid hsc
  obtain ⟨pA, pc, tx, tA, tc, bA, bc⟩ := h
  obtain ⟨⟨c1, c2, c3, c4⟩, hc⟩ : ∃ c, c = s.c := ⟨_, rfl⟩
  have HC := Lib.hid hc
  rw [← hc]
  dsimp only
  clear hsc hn1 hn2 hn3 hc hs hi hq hql
  obtain ⟨CS, hCS⟩ : ∃ l : List Value, l = [.int .i64 c1, .int .i64 c2, .int .i64 c3, .int .i64 c4, .slice pA n1 pc, .slice tA n2 tc, .slice bA n3 bc] := ⟨_, rfl⟩
  obtain ⟨W1, hW1⟩ : ∃ W, W = w.alloc (.cells #[.int .i64 c1, .int .i64 c2, .int .i64 c3, .int .i64 c4, .slice pA n1 pc, .slice tA n2 tc, .slice bA n3 bc] 37) := ⟨_, rfl⟩
  obtain ⟨W2, hW2⟩ : ∃ W, W = W1.alloc (.cells #[.int .i64 kd, .int .i64 who, .int .i64 room, .int .i64 rights, .int .i64 track, .slice qA ql qc, .int .i64 layer, .int .i64 tid] 48) := ⟨_, rfl⟩
  obtain ⟨W, hW⟩ : ∃ W, W = W2.alloc (.cells #[.int .i64 0, .int .i64 0, .int .i64 0, .int .i64 0, .slice none 0 0, .slice none 0 0, .slice none 0 0] 37) := ⟨_, rfl⟩
  have u1 : Upd [] w W1 := by rw [hW1]; exact (Upd.refl [] w).alloc _
  have u2 : Upd [] W1 W2 := by rw [hW2]; exact (Upd.refl [] W1).alloc _
  have u3 : Upd [] W2 W := by rw [hW]; exact (Upd.refl [] W2).alloc _
  have s1 : W1.heap.size = T + 1 := by rw [hW1, World.size_alloc, hT]
  have s2 : W2.heap.size = T + 1 + 1 := by rw [hW2, World.size_alloc, s1]
  have hbT : Blk W T 37 #[.int .i64 c1, .int .i64 c2, .int .i64 c3, .int .i64 c4, .slice pA n1 pc, .slice tA n2 tc, .slice bA n3 bc] := by
    have : Blk W1 T 37 #[.int .i64 c1, .int .i64 c2, .int .i64 c3, .int .i64 c4, .slice pA n1 pc, .slice tA n2 tc, .slice bA n3 bc] := by rw [hW1, hT]; exact Blk.new _ _ _
    exact (this.upd u2 (by simp)).upd u3 (by simp)
  have hbQ : Blk W (T + 1) 48 #[.int .i64 kd, .int .i64 who, .int .i64 room, .int .i64 rights, .int .i64 track, .slice qA ql qc, .int .i64 layer, .int .i64 tid] := by
    have : Blk W2 (T + 1) 48 #[.int .i64 kd, .int .i64 who, .int .i64 room, .int .i64 rights, .int .i64 track, .slice qA ql qc, .int .i64 layer, .int .i64 tid] := by rw [hW2, ← s1]; exact Blk.new _ _ _
    exact this.upd u3 (by simp)
  have hbR : Blk W (T + 1 + 1) 37 #[.int .i64 0, .int .i64 0, .int .i64 0, .int .i64 0, .slice none 0 0, .slice none 0 0, .slice none 0 0] := by rw [hW, ← s2]; exact Blk.new _ _ _
  have hT' := hT
  have HU := Lib.hid ((u1.next u2).next u3)
  have HBT := Lib.hid hbT
  have HBQ := Lib.hid hbQ
  have HBR := Lib.hid hbR
  have HT := Lib.hid hT
  clear hbT hbQ hbR u1 u2 u3 s1 s2 hT' hCS
  go_enter Try.func38, Try.ntmps38
  go_upto_region 1 with fail
  rw [← hW1, ← hW2, ← hW, ← hT]
  clear hW1 hW2 hW hT
  have HBT0 := HBT
  have HBR0 := HBR
  have HBQ0 := HBQ
  have HU0 := HU
  have HNX : Hid (n2 = tx.length) := Lib.hid (by rw [HN.out.2.1, ← HS.out.tx, List.length_map])
  obtain ⟨q, hq⟩ : ∃ q : Rq, q = ⟨kd, who, room, rights, track, ss, layer, tid⟩ := ⟨_, rfl⟩
  rw [← hq] at HR
  have HQQ := Lib.hid hq
  clear hq
  obtain ⟨ix, hix⟩ : ∃ x, x = ridxM (cT track) s.ts := ⟨_, rfl⟩
  have HK : Hid (Calls Try.prog 70 #[.agg #[.int .i64 c1, .int .i64 c2, .int .i64 c3, .int .i64 c4, .slice pA n1 pc, .slice tA n2 tc, .slice bA n3 bc], .int .i64 track] W fun e w' => e = .returned (.int .i64 ix) ∧ Upd [] W w') := Lib.hid (by
    have h := rtrack_any (HS.out.upd HU0.out) HI.out.ut (by rw [← HN.out.2.1]; omega) track
    rw [HSC.out, ← HC.out, ← hix] at h
    exact h)
  have HIX := Lib.hid hix
  clear hix
  have m0 : W.cell? ⟨T, 0, none⟩ = some (.int .i64 c1) := HBT0.out.cell 0
  have m1 : W.cell? ⟨T, 1, none⟩ = some (.int .i64 c2) := HBT0.out.cell 1
  have m2 : W.cell? ⟨T, 2, none⟩ = some (.int .i64 c3) := HBT0.out.cell 2
  have m3 : W.cell? ⟨T, 3, none⟩ = some (.int .i64 c4) := HBT0.out.cell 3
  have m4 : W.cell? ⟨T, 4, none⟩ = some (.slice pA n1 pc) := HBT0.out.cell 4
  have m5 : W.cell? ⟨T, 5, none⟩ = some (.slice tA n2 tc) := HBT0.out.cell 5
  have m6 : W.cell? ⟨T, 6, none⟩ = some (.slice bA n3 bc) := HBT0.out.cell 6
  have q4 : W.cell? ⟨T + 1, 4, none⟩ = some (.int .i64 track) := HBQ0.out.cell 4
  go_wp2_with fail
  refine HK.out.mono ?_
  rintro _ w1 ⟨rfl, hu1⟩
  have HBT1 := Lib.hid (HBT0.out.upd hu1 (by simp))
  have HBR1 := Lib.hid (HBR0.out.upd hu1 (by simp))
  have HBQ1 := Lib.hid (HBQ0.out.upd hu1 (by simp))
  have HU1 := Lib.hid (HU0.out.next hu1)
  clear hu1 HK q4 m0 m1 m2 m3 m4 m5 m6
  by_cases k1 : ix < 0
  · have H1 : Hid (r = (s, 21)) := Lib.hid (by
      have h : ownM s q = 21 := by
        unfold ownM
        rw [HQQ.out, if_pos (by
          cases hh : has (cT track) s.ts
          · rfl
          · exact absurd (ridx_neg.2 hh) (by rw [← HIX.out]; omega))]
      rw [HR.out, own_err (by rw [h]; decide), h])
    obtain ⟨kx, ux⟩ := blk7 HBR1.out (.int .i64 c1) (.int .i64 c2) (.int .i64 c3) (.int .i64 c4) (.slice pA n1 pc) (.slice tA n2 tc) (.slice bA n3 bc)
    obtain ⟨wx, hwx⟩ : ∃ wx, wx = (((((((w1.setCell ⟨T + 1 + 1, 0, none⟩ (.int .i64 c1)).setCell ⟨T + 1 + 1, 1, none⟩ (.int .i64 c2)).setCell ⟨T + 1 + 1, 2, none⟩ (.int .i64 c3)).setCell ⟨T + 1 + 1, 3, none⟩ (.int .i64 c4)).setCell ⟨T + 1 + 1, 4, none⟩ (.slice pA n1 pc)).setCell ⟨T + 1 + 1, 5, none⟩ (.slice tA n2 tc)).setCell ⟨T + 1 + 1, 6, none⟩ (.slice bA n3 bc)) := ⟨_, rfl⟩
    rw [← hwx] at kx ux
    have HKX := Lib.hid kx
    have HUX := Lib.hid ux
    have HWX := Lib.hid hwx
    clear kx ux hwx
    have m0 : w1.cell? ⟨T, 0, none⟩ = some (.int .i64 c1) := HBT1.out.cell 0
    have m1 : w1.cell? ⟨T, 1, none⟩ = some (.int .i64 c2) := HBT1.out.cell 1
    have m2 : w1.cell? ⟨T, 2, none⟩ = some (.int .i64 c3) := HBT1.out.cell 2
    have m3 : w1.cell? ⟨T, 3, none⟩ = some (.int .i64 c4) := HBT1.out.cell 3
    have m4 : w1.cell? ⟨T, 4, none⟩ = some (.slice pA n1 pc) := HBT1.out.cell 4
    have m5 : w1.cell? ⟨T, 5, none⟩ = some (.slice tA n2 tc) := HBT1.out.cell 5
    have m6 : w1.cell? ⟨T, 6, none⟩ = some (.slice bA n3 bc) := HBT1.out.cell 6
    have n10 := HBR1.out.frozen 0
    have o0 : w1.cell? ⟨T + 1 + 1, 0, none⟩ = some (.int .i64 0) := HBR1.out.cell 0
    have n11 := HBR1.out.frozen 1
    have o1 : w1.cell? ⟨T + 1 + 1, 1, none⟩ = some (.int .i64 0) := HBR1.out.cell 1
    have n12 := HBR1.out.frozen 2
    have o2 : w1.cell? ⟨T + 1 + 1, 2, none⟩ = some (.int .i64 0) := HBR1.out.cell 2
    have n13 := HBR1.out.frozen 3
    have o3 : w1.cell? ⟨T + 1 + 1, 3, none⟩ = some (.int .i64 0) := HBR1.out.cell 3
    have n14 := HBR1.out.frozen 4
    have o4 : w1.cell? ⟨T + 1 + 1, 4, none⟩ = some (.slice none 0 0) := HBR1.out.cell 4
    have n15 := HBR1.out.frozen 5
    have o5 : w1.cell? ⟨T + 1 + 1, 5, none⟩ = some (.slice none 0 0) := HBR1.out.cell 5
    have n16 := HBR1.out.frozen 6
    have o6 : w1.cell? ⟨T + 1 + 1, 6, none⟩ = some (.slice none 0 0) := HBR1.out.cell 6
    go_wp2
    rw [← HWX.out]
    have g0 := HKX.out.cell 0
    have g1 := HKX.out.cell 1
    have g2 := HKX.out.cell 2
    have g3 := HKX.out.cell 3
    have g4 := HKX.out.cell 4
    have g5 := HKX.out.cell 5
    have g6 := HKX.out.cell 6
    simp only [List.getElem?_toArray, List.getElem?_cons_zero, List.getElem?_cons_succ] at g0 g1 g2 g3 g4 g5 g6
    refine bodyPost_res (v := .tuple #[.agg #[.int .i64 c1, .int .i64 c2, .int .i64 c3, .int .i64 c4, .slice pA n1 pc, .slice tA n2 tc, .slice bA n3 bc], .int .i64 21]) (by simp [results, Try.results38, go_sem, Addr.add, g0, g1, g2, g3, g4, g5, g6]) rfl ?_
    exact ⟨⟨pA, pc, tx, tA, tc, bA, bc⟩, by rw [H1.out]; dsimp only; rw [HSC.out, ← HC.out], by rw [H1.out]; exact HS.out.upd (HU1.out.box HUX.out HT.out), by rw [H1.out]; exact fun _ _ _ ha => ha, HU1.out.box HUX.out HT.out⟩
  have hh : has (cT track) s.ts = true := ridx_neg.1 (by rw [← HIX.out]; omega)
  obtain ⟨j, hj⟩ : ∃ j, j = low (cT track) s.ts := ⟨_, rfl⟩
  obtain ⟨t, ht⟩ : ∃ t, t = trkAt s track := ⟨_, rfl⟩
  obtain ⟨ta1, ta2, ta3⟩ := trk_at HI.out hh
  rw [← hj, ← ht] at ta1
  have hixj : ix = (j : Int) := by rw [HIX.out]; unfold ridxM; rw [if_pos hh, hj]
  subst hixj
  have hjl : j < n2 := by rw [HN.out.2.1]; exact (List.getElem?_eq_some_iff.1 ta1).1
  have hjli : (j : Int) < (n2 : Int) := by omega
  obtain ⟨y, hy, hyt⟩ : ∃ y, tx[j]? = some y ∧ y.1 = t := by
    rw [← HS.out.tx, List.getElem?_map] at ta1
    dsimp only at ta1
    cases hy : tx[j]? with
    | none => rw [hy] at ta1; simp at ta1
    | some y => rw [hy] at ta1; exact ⟨y, rfl, by simpa using ta1⟩
  obtain ⟨bP, oP, e, e0, e1, e2, e3⟩ := rowX (HS.out.upd HU1.out) j y hy
  dsimp only at e
  cases e
  have hbPl := cellD_lt e1
  obtain ⟨own, hown⟩ : ∃ x, x = y.1.owner := ⟨_, rfl⟩
  rw [← hown] at e1
  have HY := Lib.hid (And.intro hy hyt)
  have HH := Lib.hid hh
  have HJ := Lib.hid hj
  have HTT := Lib.hid ht
  have HOW := Lib.hid hown
  clear hh hj ht ta1 ta2 ta3 hy hyt e0 e2 e3 hown k1
  have m5 : w1.cell? ⟨T, 5, none⟩ = some (.slice (some ⟨bP, oP, none⟩) n2 tc) := HBT1.out.cell 5
  have q1 : w1.cell? ⟨T + 1, 1, none⟩ = some (.int .i64 who) := HBQ1.out.cell 1
  obtain ⟨bo, hbo⟩ : ∃ bo, bo = (own != who) := ⟨_, rfl⟩
  go_upto_region 4 with fail
  go_cut [24] (fun v wd => v = .bool bo ∧ Upd [] w1 wd)
  case first =>
    go_wp2_with fail
    go_quiet (fail)
    go_wp2
    go_meet
    case rel => exact ⟨by rw [hbo], (Upd.refl [] w1).drewN _⟩
  obtain ⟨rfl, hud⟩ := hcut
  have HBO := Lib.hid hbo
  clear m5 q1 e1 hbo
  have HBT2 := Lib.hid (HBT1.out.upd hud (by simp))
  have HBR2 := Lib.hid (HBR1.out.upd hud (by simp))
  have HBQ2 := Lib.hid (HBQ1.out.upd hud (by simp))
  have HU2 := Lib.hid (HU1.out.next hud)
  obtain ⟨w2, hw2⟩ : ∃ x : World, x = wc := ⟨_, rfl⟩
  rw [← hw2] at HBT2 HBR2 HBQ2 HU2 hud ⊢
  clear hw2
  clear hud
  cases bo
  case true =>
    have H1 : Hid (r = (s, 24)) := Lib.hid (by
      have h : ownM s q = 24 := by
        unfold ownM
        rw [HQQ.out, if_neg (by dsimp only; rw [HH.out]; decide), if_pos (by dsimp only; rw [← HTT.out, ← HY.out.2, ← HOW.out]; have := HBO.out.symm; simpa using this)]
      rw [HR.out, own_err (by rw [h]; decide), h])
    obtain ⟨kx, ux⟩ := blk7 HBR2.out (.int .i64 c1) (.int .i64 c2) (.int .i64 c3) (.int .i64 c4) (.slice pA n1 pc) (.slice (some ⟨bP, oP, none⟩) n2 tc) (.slice bA n3 bc)
    obtain ⟨wx, hwx⟩ : ∃ wx, wx = (((((((w2.setCell ⟨T + 1 + 1, 0, none⟩ (.int .i64 c1)).setCell ⟨T + 1 + 1, 1, none⟩ (.int .i64 c2)).setCell ⟨T + 1 + 1, 2, none⟩ (.int .i64 c3)).setCell ⟨T + 1 + 1, 3, none⟩ (.int .i64 c4)).setCell ⟨T + 1 + 1, 4, none⟩ (.slice pA n1 pc)).setCell ⟨T + 1 + 1, 5, none⟩ (.slice (some ⟨bP, oP, none⟩) n2 tc)).setCell ⟨T + 1 + 1, 6, none⟩ (.slice bA n3 bc)) := ⟨_, rfl⟩
    rw [← hwx] at kx ux
    have HKX := Lib.hid kx
    have HUX := Lib.hid ux
    have HWX := Lib.hid hwx
    clear kx ux hwx
    have m0 : w2.cell? ⟨T, 0, none⟩ = some (.int .i64 c1) := HBT2.out.cell 0
    have m1 : w2.cell? ⟨T, 1, none⟩ = some (.int .i64 c2) := HBT2.out.cell 1
    have m2 : w2.cell? ⟨T, 2, none⟩ = some (.int .i64 c3) := HBT2.out.cell 2
    have m3 : w2.cell? ⟨T, 3, none⟩ = some (.int .i64 c4) := HBT2.out.cell 3
    have m4 : w2.cell? ⟨T, 4, none⟩ = some (.slice pA n1 pc) := HBT2.out.cell 4
    have m5 : w2.cell? ⟨T, 5, none⟩ = some (.slice (some ⟨bP, oP, none⟩) n2 tc) := HBT2.out.cell 5
    have m6 : w2.cell? ⟨T, 6, none⟩ = some (.slice bA n3 bc) := HBT2.out.cell 6
    have n10 := HBR2.out.frozen 0
    have o0 : w2.cell? ⟨T + 1 + 1, 0, none⟩ = some (.int .i64 0) := HBR2.out.cell 0
    have n11 := HBR2.out.frozen 1
    have o1 : w2.cell? ⟨T + 1 + 1, 1, none⟩ = some (.int .i64 0) := HBR2.out.cell 1
    have n12 := HBR2.out.frozen 2
    have o2 : w2.cell? ⟨T + 1 + 1, 2, none⟩ = some (.int .i64 0) := HBR2.out.cell 2
    have n13 := HBR2.out.frozen 3
    have o3 : w2.cell? ⟨T + 1 + 1, 3, none⟩ = some (.int .i64 0) := HBR2.out.cell 3
    have n14 := HBR2.out.frozen 4
    have o4 : w2.cell? ⟨T + 1 + 1, 4, none⟩ = some (.slice none 0 0) := HBR2.out.cell 4
    have n15 := HBR2.out.frozen 5
    have o5 : w2.cell? ⟨T + 1 + 1, 5, none⟩ = some (.slice none 0 0) := HBR2.out.cell 5
    have n16 := HBR2.out.frozen 6
    have o6 : w2.cell? ⟨T + 1 + 1, 6, none⟩ = some (.slice none 0 0) := HBR2.out.cell 6
    go_wp2
    rw [← HWX.out]
    have g0 := HKX.out.cell 0
    have g1 := HKX.out.cell 1
    have g2 := HKX.out.cell 2
    have g3 := HKX.out.cell 3
    have g4 := HKX.out.cell 4
    have g5 := HKX.out.cell 5
    have g6 := HKX.out.cell 6
    simp only [List.getElem?_toArray, List.getElem?_cons_zero, List.getElem?_cons_succ] at g0 g1 g2 g3 g4 g5 g6
    refine bodyPost_res (v := .tuple #[.agg #[.int .i64 c1, .int .i64 c2, .int .i64 c3, .int .i64 c4, .slice pA n1 pc, .slice (some ⟨bP, oP, none⟩) n2 tc, .slice bA n3 bc], .int .i64 24]) (by simp [results, Try.results38, go_sem, Addr.add, g0, g1, g2, g3, g4, g5, g6]) rfl ?_
    exact ⟨⟨pA, pc, tx, (some ⟨bP, oP, none⟩), tc, bA, bc⟩, by rw [H1.out]; dsimp only; rw [HSC.out, ← HC.out], by rw [H1.out]; exact HS.out.upd (HU2.out.box HUX.out HT.out), by rw [H1.out]; exact fun _ _ _ ha => ha, HU2.out.box HUX.out HT.out⟩
  have H0 : Hid (ownM s q = 0) := Lib.hid (by unfold ownM; rw [HQQ.out, if_neg (by dsimp only; rw [HH.out]; decide), if_neg (by dsimp only; rw [← HTT.out, ← HY.out.2, ← HOW.out]; have := HBO.out.symm; simpa using this)])
  have q0 : w2.cell? ⟨T + 1, 0, none⟩ = some (.int .i64 kd) := HBQ2.out.cell 0
  have q4 : w2.cell? ⟨T + 1, 4, none⟩ = some (.int .i64 track) := HBQ2.out.cell 4
  have m0 : w2.cell? ⟨T, 0, none⟩ = some (.int .i64 c1) := HBT2.out.cell 0
  have m1 : w2.cell? ⟨T, 1, none⟩ = some (.int .i64 c2) := HBT2.out.cell 1
  have m2 : w2.cell? ⟨T, 2, none⟩ = some (.int .i64 c3) := HBT2.out.cell 2
  have m3 : w2.cell? ⟨T, 3, none⟩ = some (.int .i64 c4) := HBT2.out.cell 3
  have m4 : w2.cell? ⟨T, 4, none⟩ = some (.slice pA n1 pc) := HBT2.out.cell 4
  have m5 : w2.cell? ⟨T, 5, none⟩ = some (.slice (some ⟨bP, oP, none⟩) n2 tc) := HBT2.out.cell 5
  have m6 : w2.cell? ⟨T, 6, none⟩ = some (.slice bA n3 bc) := HBT2.out.cell 6
  by_cases k3 : kd = 3
  · subst k3
    have H8 : Hid (r = (dropM s (fun t => decide (t.id = track)), 0)) := Lib.hid (by rw [HR.out]; unfold ownD; rw [if_pos (by rw [HQQ.out])]; unfold unpublishM; rw [if_neg (by rw [H0.out]; decide), HQQ.out])
    have HK : Hid (Calls Try.prog 36 #[.agg #[.int .i64 c1, .int .i64 c2, .int .i64 c3, .int .i64 c4, .slice pA n1 pc, .slice (some ⟨bP, oP, none⟩) n2 tc, .slice bA n3 bc], .int .i64 track, .int .i64 0, .int .i64 0] w2 fun e w' => ∃ h', e = .returned (.agg (scells (withoutM s track 0 0) h').toArray) ∧ StIn w' (withoutM s track 0 0) h' ∧ (∀ g, g < w2.heap.size → Av g s ⟨pA, pc, tx, (some ⟨bP, oP, none⟩), tc, bA, bc⟩ → Av g (withoutM s track 0 0) h') ∧ Upd [] w2 w') := Lib.hid (by
      have h := rwithout_any (HS.out.upd HU2.out) HI.out.ut (by rw [← HN.out.1]; omega) (by rw [← HN.out.2.1]; omega) (by rw [← HN.out.2.2]; omega) track 0 0
      rw [HSC.out, ← HC.out] at h
      exact h)
    go_wp2_with fail
    refine HK.out.mono ?_
    rintro _ w3 ⟨h', rfl, hst, hav, hu3⟩
    clear q0 q4 m0 m1 m2 m3 m4 m5 m6
    have HBT3 := Lib.hid (HBT2.out.upd hu3 (by simp))
    have HBR3 := Lib.hid (HBR2.out.upd hu3 (by simp))
    have HBQ3 := Lib.hid (HBQ2.out.upd hu3 (by simp))
    have HU3 := Lib.hid (HU2.out.next hu3)
    clear hu3 HK
    have HI3 : Hid (Inv (dropM s (fun t => decide (t.id = track)))) := Lib.hid (by
      have h := inv_unpublish HI.out q
      unfold unpublishM at h
      rw [if_neg (by rw [H0.out]; decide), HQQ.out] at h
      exact h)
    obtain ⟨pA2, pc2, tx2, tA2, tc2, bA2, bc2⟩ := h'
    obtain ⟨s2, hs2⟩ : ∃ x, x = withoutM s track 0 0 := ⟨_, rfl⟩
    rw [← hs2] at hst hav
    simp only [← hs2]
    obtain ⟨m1, hm1x⟩ : ∃ n, n = s2.ps.length := ⟨_, rfl⟩
    obtain ⟨m2, hm2x⟩ : ∃ n, n = s2.ts.length := ⟨_, rfl⟩
    obtain ⟨m3, hm3x⟩ : ∃ n, n = s2.bs.length := ⟨_, rfl⟩
    have hcc : s2.c = ⟨c1, c2, c3, c4⟩ := by rw [hs2, HC.out]; rfl
    have hsc2 : scells s2 ⟨pA2, pc2, tx2, tA2, tc2, bA2, bc2⟩ = [.int .i64 c1, .int .i64 c2, .int .i64 c3, .int .i64 c4, .slice pA2 m1 pc2, .slice tA2 m2 tc2, .slice bA2 m3 bc2] := by unfold scells; rw [hcc, ← hm1x, ← hm2x, ← hm3x]
    rw [hsc2]
    have HS2 := Lib.hid hs2
    have HST := Lib.hid hst
    have HAV := Lib.hid hav
    have HSC2 := Lib.hid hsc2
    clear hs2 hst hav hsc2 hm1x hm2x hm3x hcc
    obtain ⟨kx, ux⟩ := blk7 HBR3.out (.int .i64 c1) (.int .i64 c2) (.int .i64 c3) (.int .i64 c4) (.slice pA2 m1 pc2) (.slice tA2 m2 tc2) (.slice bA2 m3 bc2)
    obtain ⟨wx, hwx⟩ : ∃ wx, wx = (((((((w3.setCell ⟨T + 1 + 1, 0, none⟩ (.int .i64 c1)).setCell ⟨T + 1 + 1, 1, none⟩ (.int .i64 c2)).setCell ⟨T + 1 + 1, 2, none⟩ (.int .i64 c3)).setCell ⟨T + 1 + 1, 3, none⟩ (.int .i64 c4)).setCell ⟨T + 1 + 1, 4, none⟩ (.slice pA2 m1 pc2)).setCell ⟨T + 1 + 1, 5, none⟩ (.slice tA2 m2 tc2)).setCell ⟨T + 1 + 1, 6, none⟩ (.slice bA2 m3 bc2)) := ⟨_, rfl⟩
    rw [← hwx] at kx ux
    have HKX := Lib.hid kx
    have HUX := Lib.hid ux
    have HWX := Lib.hid hwx
    clear kx ux hwx
    have n10 := HBR3.out.frozen 0
    have o0 : w3.cell? ⟨T + 1 + 1, 0, none⟩ = some (.int .i64 0) := HBR3.out.cell 0
    have n11 := HBR3.out.frozen 1
    have o1 : w3.cell? ⟨T + 1 + 1, 1, none⟩ = some (.int .i64 0) := HBR3.out.cell 1
    have n12 := HBR3.out.frozen 2
    have o2 : w3.cell? ⟨T + 1 + 1, 2, none⟩ = some (.int .i64 0) := HBR3.out.cell 2
    have n13 := HBR3.out.frozen 3
    have o3 : w3.cell? ⟨T + 1 + 1, 3, none⟩ = some (.int .i64 0) := HBR3.out.cell 3
    have n14 := HBR3.out.frozen 4
    have o4 : w3.cell? ⟨T + 1 + 1, 4, none⟩ = some (.slice none 0 0) := HBR3.out.cell 4
    have n15 := HBR3.out.frozen 5
    have o5 : w3.cell? ⟨T + 1 + 1, 5, none⟩ = some (.slice none 0 0) := HBR3.out.cell 5
    have n16 := HBR3.out.frozen 6
    have o6 : w3.cell? ⟨T + 1 + 1, 6, none⟩ = some (.slice none 0 0) := HBR3.out.cell 6
    go_wp2
    rw [← HWX.out]
    have g0 := HKX.out.cell 0
    have g1 := HKX.out.cell 1
    have g2 := HKX.out.cell 2
    have g3 := HKX.out.cell 3
    have g4 := HKX.out.cell 4
    have g5 := HKX.out.cell 5
    have g6 := HKX.out.cell 6
    simp only [List.getElem?_toArray, List.getElem?_cons_zero, List.getElem?_cons_succ] at g0 g1 g2 g3 g4 g5 g6
    refine bodyPost_res (v := .tuple #[.agg #[.int .i64 c1, .int .i64 c2, .int .i64 c3, .int .i64 c4, .slice pA2 m1 pc2, .slice tA2 m2 tc2, .slice bA2 m3 bc2], .int .i64 0]) (by simp [results, Try.results38, go_sem, Addr.add, g0, g1, g2, g3, g4, g5, g6]) rfl ?_
    exact ⟨⟨pA2, pc2, tx2, tA2, tc2, bA2, bc2⟩, by rw [H8.out]; dsimp only; rw [← without_track HI.out, ← HS2.out, HSC2.out], by rw [H8.out]; dsimp only; rw [← without_track HI.out, ← HS2.out]; exact HST.out.past HUX.out (inv_av HST.out (by rw [HS2.out, without_track HI.out]; exact HI3.out) HBR3.out), fun g hg _ ha => by rw [H8.out]; dsimp only; rw [← without_track HI.out, ← HS2.out]; exact HAV.out g (Nat.lt_of_lt_of_le hg HU2.out.size) ha, HU3.out.box HUX.out HT.out⟩
  have hk3 : (kd == 3) = false := beq_eq_false_iff_ne.2 k3
  have HR2 : Hid (r = replaceM s q) := Lib.hid (by rw [HR.out]; unfold ownD; rw [if_neg (by rw [HQQ.out]; exact k3)])
  obtain ⟨bm, hbm⟩ : ∃ x, x = maySS ss := ⟨_, rfl⟩
  clear k3 m0 m1 m2 m3 m4 m5 m6 q4
  have HM : Hid (Calls Try.prog 71 #[.slice qA ql qc] w2 fun e w' => e = .returned (.bool bm) ∧ Upd [] w2 w') := Lib.hid (by
    have h := rmay_any (HQ.out.upd HU2.out)
    rw [← hbm, ← HQL.out] at h
    exact h)
  have HBM := Lib.hid hbm
  clear hbm
  have q5 : w2.cell? ⟨T + 1, 5, none⟩ = some (.slice qA ql qc) := HBQ2.out.cell 5
  go_wp2_with fail
  refine HM.out.mono ?_
  rintro _ w3 ⟨rfl, hu3⟩
  have HBT3 := Lib.hid (HBT2.out.upd hu3 (by simp))
  have HBR3 := Lib.hid (HBR2.out.upd hu3 (by simp))
  have HBQ3 := Lib.hid (HBQ2.out.upd hu3 (by simp))
  have HU3 := Lib.hid (HU2.out.next hu3)
  clear hu3 HM q5 q0 hk3
  cases bm
  case false =>
    have H1 : Hid (r = (s, 1)) := Lib.hid (by rw [HR2.out]; unfold replaceM; rw [if_neg (by rw [H0.out]; decide), HQQ.out, if_pos HBM.out.symm])
    obtain ⟨kx, ux⟩ := blk7 HBR3.out (.int .i64 c1) (.int .i64 c2) (.int .i64 c3) (.int .i64 c4) (.slice pA n1 pc) (.slice (some ⟨bP, oP, none⟩) n2 tc) (.slice bA n3 bc)
    obtain ⟨wx, hwx⟩ : ∃ wx, wx = (((((((w3.setCell ⟨T + 1 + 1, 0, none⟩ (.int .i64 c1)).setCell ⟨T + 1 + 1, 1, none⟩ (.int .i64 c2)).setCell ⟨T + 1 + 1, 2, none⟩ (.int .i64 c3)).setCell ⟨T + 1 + 1, 3, none⟩ (.int .i64 c4)).setCell ⟨T + 1 + 1, 4, none⟩ (.slice pA n1 pc)).setCell ⟨T + 1 + 1, 5, none⟩ (.slice (some ⟨bP, oP, none⟩) n2 tc)).setCell ⟨T + 1 + 1, 6, none⟩ (.slice bA n3 bc)) := ⟨_, rfl⟩
    rw [← hwx] at kx ux
    have HKX := Lib.hid kx
    have HUX := Lib.hid ux
    have HWX := Lib.hid hwx
    clear kx ux hwx
    have m0 : w3.cell? ⟨T, 0, none⟩ = some (.int .i64 c1) := HBT3.out.cell 0
    have m1 : w3.cell? ⟨T, 1, none⟩ = some (.int .i64 c2) := HBT3.out.cell 1
    have m2 : w3.cell? ⟨T, 2, none⟩ = some (.int .i64 c3) := HBT3.out.cell 2
    have m3 : w3.cell? ⟨T, 3, none⟩ = some (.int .i64 c4) := HBT3.out.cell 3
    have m4 : w3.cell? ⟨T, 4, none⟩ = some (.slice pA n1 pc) := HBT3.out.cell 4
    have m5 : w3.cell? ⟨T, 5, none⟩ = some (.slice (some ⟨bP, oP, none⟩) n2 tc) := HBT3.out.cell 5
    have m6 : w3.cell? ⟨T, 6, none⟩ = some (.slice bA n3 bc) := HBT3.out.cell 6
    have n10 := HBR3.out.frozen 0
    have o0 : w3.cell? ⟨T + 1 + 1, 0, none⟩ = some (.int .i64 0) := HBR3.out.cell 0
    have n11 := HBR3.out.frozen 1
    have o1 : w3.cell? ⟨T + 1 + 1, 1, none⟩ = some (.int .i64 0) := HBR3.out.cell 1
    have n12 := HBR3.out.frozen 2
    have o2 : w3.cell? ⟨T + 1 + 1, 2, none⟩ = some (.int .i64 0) := HBR3.out.cell 2
    have n13 := HBR3.out.frozen 3
    have o3 : w3.cell? ⟨T + 1 + 1, 3, none⟩ = some (.int .i64 0) := HBR3.out.cell 3
    have n14 := HBR3.out.frozen 4
    have o4 : w3.cell? ⟨T + 1 + 1, 4, none⟩ = some (.slice none 0 0) := HBR3.out.cell 4
    have n15 := HBR3.out.frozen 5
    have o5 : w3.cell? ⟨T + 1 + 1, 5, none⟩ = some (.slice none 0 0) := HBR3.out.cell 5
    have n16 := HBR3.out.frozen 6
    have o6 : w3.cell? ⟨T + 1 + 1, 6, none⟩ = some (.slice none 0 0) := HBR3.out.cell 6
    go_wp2
    rw [← HWX.out]
    have g0 := HKX.out.cell 0
    have g1 := HKX.out.cell 1
    have g2 := HKX.out.cell 2
    have g3 := HKX.out.cell 3
    have g4 := HKX.out.cell 4
    have g5 := HKX.out.cell 5
    have g6 := HKX.out.cell 6
    simp only [List.getElem?_toArray, List.getElem?_cons_zero, List.getElem?_cons_succ] at g0 g1 g2 g3 g4 g5 g6
    refine bodyPost_res (v := .tuple #[.agg #[.int .i64 c1, .int .i64 c2, .int .i64 c3, .int .i64 c4, .slice pA n1 pc, .slice (some ⟨bP, oP, none⟩) n2 tc, .slice bA n3 bc], .int .i64 1]) (by simp [results, Try.results38, go_sem, Addr.add, g0, g1, g2, g3, g4, g5, g6]) rfl ?_
    exact ⟨⟨pA, pc, tx, (some ⟨bP, oP, none⟩), tc, bA, bc⟩, by rw [H1.out]; dsimp only; rw [HSC.out, ← HC.out], by rw [H1.out]; exact HS.out.upd (HU3.out.box HUX.out HT.out), by rw [H1.out]; exact fun _ _ _ ha => ha, HU3.out.box HUX.out HT.out⟩
  obtain ⟨bt, hbt⟩ : ∃ x, x = takenM s ss := ⟨_, rfl⟩
  have HK : Hid (Calls Try.prog 72 #[.agg #[.int .i64 c1, .int .i64 c2, .int .i64 c3, .int .i64 c4, .slice pA n1 pc, .slice (some ⟨bP, oP, none⟩) n2 tc, .slice bA n3 bc], .slice qA ql qc] w3 fun e w' => e = .returned (.bool bt) ∧ Upd [] w3 w') := Lib.hid (by
    have h := rtaken_any (HS.out.upd HU3.out) (by rw [← HN.out.2.1]; omega) (HQ.out.upd HU3.out)
    rw [HSC.out, ← HC.out, ← hbt, ← HQL.out] at h
    exact h)
  have HBTK := Lib.hid hbt
  clear hbt
  have m0 : w3.cell? ⟨T, 0, none⟩ = some (.int .i64 c1) := HBT3.out.cell 0
  have m1 : w3.cell? ⟨T, 1, none⟩ = some (.int .i64 c2) := HBT3.out.cell 1
  have m2 : w3.cell? ⟨T, 2, none⟩ = some (.int .i64 c3) := HBT3.out.cell 2
  have m3 : w3.cell? ⟨T, 3, none⟩ = some (.int .i64 c4) := HBT3.out.cell 3
  have m4 : w3.cell? ⟨T, 4, none⟩ = some (.slice pA n1 pc) := HBT3.out.cell 4
  have m5 : w3.cell? ⟨T, 5, none⟩ = some (.slice (some ⟨bP, oP, none⟩) n2 tc) := HBT3.out.cell 5
  have m6 : w3.cell? ⟨T, 6, none⟩ = some (.slice bA n3 bc) := HBT3.out.cell 6
  have q5 : w3.cell? ⟨T + 1, 5, none⟩ = some (.slice qA ql qc) := HBQ3.out.cell 5
  go_wp2_with fail
  refine HK.out.mono ?_
  rintro _ w4 ⟨rfl, hu4⟩
  have HBT4 := Lib.hid (HBT3.out.upd hu4 (by simp))
  have HBR4 := Lib.hid (HBR3.out.upd hu4 (by simp))
  have HBQ4 := Lib.hid (HBQ3.out.upd hu4 (by simp))
  have HU4 := Lib.hid (HU3.out.next hu4)
  clear hu4 HK q5 m0 m1 m2 m3 m4 m5 m6
  cases bt
  case true =>
    have H1 : Hid (r = (s, 22)) := Lib.hid (by rw [HR2.out]; unfold replaceM; rw [if_neg (by rw [H0.out]; decide), HQQ.out, if_neg (by dsimp only; rw [← HBM.out]; decide), if_pos HBTK.out.symm])
    obtain ⟨kx, ux⟩ := blk7 HBR4.out (.int .i64 c1) (.int .i64 c2) (.int .i64 c3) (.int .i64 c4) (.slice pA n1 pc) (.slice (some ⟨bP, oP, none⟩) n2 tc) (.slice bA n3 bc)
    obtain ⟨wx, hwx⟩ : ∃ wx, wx = (((((((w4.setCell ⟨T + 1 + 1, 0, none⟩ (.int .i64 c1)).setCell ⟨T + 1 + 1, 1, none⟩ (.int .i64 c2)).setCell ⟨T + 1 + 1, 2, none⟩ (.int .i64 c3)).setCell ⟨T + 1 + 1, 3, none⟩ (.int .i64 c4)).setCell ⟨T + 1 + 1, 4, none⟩ (.slice pA n1 pc)).setCell ⟨T + 1 + 1, 5, none⟩ (.slice (some ⟨bP, oP, none⟩) n2 tc)).setCell ⟨T + 1 + 1, 6, none⟩ (.slice bA n3 bc)) := ⟨_, rfl⟩
    rw [← hwx] at kx ux
    have HKX := Lib.hid kx
    have HUX := Lib.hid ux
    have HWX := Lib.hid hwx
    clear kx ux hwx
    have m0 : w4.cell? ⟨T, 0, none⟩ = some (.int .i64 c1) := HBT4.out.cell 0
    have m1 : w4.cell? ⟨T, 1, none⟩ = some (.int .i64 c2) := HBT4.out.cell 1
    have m2 : w4.cell? ⟨T, 2, none⟩ = some (.int .i64 c3) := HBT4.out.cell 2
    have m3 : w4.cell? ⟨T, 3, none⟩ = some (.int .i64 c4) := HBT4.out.cell 3
    have m4 : w4.cell? ⟨T, 4, none⟩ = some (.slice pA n1 pc) := HBT4.out.cell 4
    have m5 : w4.cell? ⟨T, 5, none⟩ = some (.slice (some ⟨bP, oP, none⟩) n2 tc) := HBT4.out.cell 5
    have m6 : w4.cell? ⟨T, 6, none⟩ = some (.slice bA n3 bc) := HBT4.out.cell 6
    have n10 := HBR4.out.frozen 0
    have o0 : w4.cell? ⟨T + 1 + 1, 0, none⟩ = some (.int .i64 0) := HBR4.out.cell 0
    have n11 := HBR4.out.frozen 1
    have o1 : w4.cell? ⟨T + 1 + 1, 1, none⟩ = some (.int .i64 0) := HBR4.out.cell 1
    have n12 := HBR4.out.frozen 2
    have o2 : w4.cell? ⟨T + 1 + 1, 2, none⟩ = some (.int .i64 0) := HBR4.out.cell 2
    have n13 := HBR4.out.frozen 3
    have o3 : w4.cell? ⟨T + 1 + 1, 3, none⟩ = some (.int .i64 0) := HBR4.out.cell 3
    have n14 := HBR4.out.frozen 4
    have o4 : w4.cell? ⟨T + 1 + 1, 4, none⟩ = some (.slice none 0 0) := HBR4.out.cell 4
    have n15 := HBR4.out.frozen 5
    have o5 : w4.cell? ⟨T + 1 + 1, 5, none⟩ = some (.slice none 0 0) := HBR4.out.cell 5
    have n16 := HBR4.out.frozen 6
    have o6 : w4.cell? ⟨T + 1 + 1, 6, none⟩ = some (.slice none 0 0) := HBR4.out.cell 6
    go_wp2
    rw [← HWX.out]
    have g0 := HKX.out.cell 0
    have g1 := HKX.out.cell 1
    have g2 := HKX.out.cell 2
    have g3 := HKX.out.cell 3
    have g4 := HKX.out.cell 4
    have g5 := HKX.out.cell 5
    have g6 := HKX.out.cell 6
    simp only [List.getElem?_toArray, List.getElem?_cons_zero, List.getElem?_cons_succ] at g0 g1 g2 g3 g4 g5 g6
    refine bodyPost_res (v := .tuple #[.agg #[.int .i64 c1, .int .i64 c2, .int .i64 c3, .int .i64 c4, .slice pA n1 pc, .slice (some ⟨bP, oP, none⟩) n2 tc, .slice bA n3 bc], .int .i64 22]) (by simp [results, Try.results38, go_sem, Addr.add, g0, g1, g2, g3, g4, g5, g6]) rfl ?_
    exact ⟨⟨pA, pc, tx, (some ⟨bP, oP, none⟩), tc, bA, bc⟩, by rw [H1.out]; dsimp only; rw [HSC.out, ← HC.out], by rw [H1.out]; exact HS.out.upd (HU4.out.box HUX.out HT.out), by rw [H1.out]; exact fun _ _ _ ha => ha, HU4.out.box HUX.out HT.out⟩
  obtain ⟨fm, hfm⟩ : ∃ x, x = y.1.frm := ⟨_, rfl⟩
  obtain ⟨wf, hwf⟩ : ∃ x, x = IntKind.i64.wrap (fm + 1) := ⟨_, rfl⟩
  have H8 : Hid (r = ({ s with ts := s.ts.set j ⟨y.1.id, y.1.owner, wf, ss⟩ }, 0)) := Lib.hid (by
    rw [HR2.out]; unfold replaceM
    rw [if_neg (by rw [H0.out]; decide), HQQ.out, if_neg (by dsimp only; rw [← HBM.out]; decide), if_neg (by dsimp only; rw [← HBTK.out]; decide)]
    dsimp only
    rw [← HJ.out, ← HTT.out, ← HY.out.2, hwf, hfm])
  have HFM := Lib.hid hfm
  clear hfm
  obtain ⟨j0, hj0, hy0, hy1, hy2⟩ := info_parts infoRT
  have HRP := Lib.hid (HS.out.upd HU4.out).t
  have hle := HRP.out.le
  have hcm := HRP.out.cm
  dsimp only at hle hcm
  rw [← HN.out.2.1] at hle
  have m5 : w4.cell? ⟨T, 5, none⟩ = some (.slice (some ⟨bP, oP, none⟩) n2 tc) := HBT4.out.cell 5
  go_wp2_with (at_builtin; refine wpList_append_src w4 rfl (.tmp 44) (.tmp 46) 34 rfl w4.heap.size 60 j0 _ 4 48 Try.underlying34 hj0 hy0 hy1 hy2 rfl (by decide) (.slice none 0 0) 0 [] rfl (World.ownsRow_nil _ _ _ _) (some ⟨bP, oP, none⟩) n2 tc (tx.flatMap encT) rfl (fun e => by cases e) (by rw [flat_length encT_len, ← HNX.out]) (by have h := HRP.out.piece0 (k := tx.length) encT_len; rw [List.take_length] at h; exact h) (flat_ones encT_one _) (by unfold maxLen; omega) (by omega) (Nat.le_refl _) ?_)
  intro v6 w6 hown6 hg6 _
  obtain ⟨A6, d6, hv6, hdd, hA6, _⟩ := own_form hown6
  obtain ⟨g, rfl, hg1, hg2⟩ := hA6 (by omega)
  subst hv6
  try simp only [Nat.zero_add, List.nil_append] at hown6
  have HU6 : Hid (Upd [] w4 w6) := Lib.hid (Upd.of_below ((Upd.of_grown hg6).below (Nat.le_refl _) (fun s hs => by
    simp [Value.ownBlock] at hs)))
  have hrow := hown6
  have hcell := fun (k : Nat) (u : Value) (hu : (tx.flatMap encT)[k]? = some u) => (by
    have := hrow.cells (g := g) rfl k u hu
    by_cases hk : k = 0
    · subst hk; exact this
    · simpa [Addr.add, hk] using this : w6.cell? ⟨g, k, none⟩ = some u)
  have x3 : w6.cell? ⟨g, j * 4 + 3, none⟩ = some (.slice y.2.A y.1.ss.length y.2.c) := hcell (j * 4 + 3) _ (flat_get encT_len tx j 3 y HY.out.1 (by omega))
  obtain ⟨l9, hl9⟩ : ∃ x, x = y.1.ss.length := ⟨_, rfl⟩
  rw [← hl9] at x3
  clear hl9
  have g3 : w6.frozen? ⟨g, j * 4 + 3, none⟩ = false := by
    have := hrow.frozenAt (j * 4 + 3)
    simpa [Addr.add] using this
  have s1 := (hrow.stored (j * 4 + 3) (.slice qA ql qc)).1
  rw [flat_set encT_len tx j 3 y ((⟨y.1.id, y.1.owner, y.1.frm, ss⟩, ⟨qA, qc⟩) : Trk × SH) _ HY.out.1 (by omega) (by rw [HQL.out]; rfl)] at s1
  have hyl : j < tx.length := (List.getElem?_eq_some_iff.1 HY.out.1).1
  obtain ⟨w7, hw7⟩ : ∃ w7, w7 = w6.setCell ⟨g, j * 4 + 3, none⟩ (.slice qA ql qc) := ⟨_, rfl⟩
  rw [← hw7] at s1
  have x2 : w7.cell? ⟨g, j * 4 + 2, none⟩ = some (.int .i64 fm) := by
    have := s1.cells (g := g) rfl (j * 4 + 2) _ (flat_get encT_len _ j 2 _ (List.getElem?_set_self hyl) (by omega))
    rw [HFM.out]
    simpa [Addr.add] using this
  have g2 : w7.frozen? ⟨g, j * 4 + 2, none⟩ = false := by
    have := s1.frozenAt (j * 4 + 2)
    simpa [Addr.add] using this
  have s2 := (s1.stored (j * 4 + 2) (.int .i64 wf)).1
  rw [flat_set encT_len _ j 2 ((⟨y.1.id, y.1.owner, y.1.frm, ss⟩, ⟨qA, qc⟩) : Trk × SH) ((⟨y.1.id, y.1.owner, wf, ss⟩, ⟨qA, qc⟩) : Trk × SH) _ (by rw [List.getElem?_set_self hyl]) (by omega) rfl, List.set_set] at s2
  obtain ⟨w8, hw8⟩ : ∃ w8, w8 = w7.setCell ⟨g, j * 4 + 2, none⟩ (.int .i64 wf) := ⟨_, rfl⟩
  rw [← hw8] at s2
  have u8 : Upd [g] w6 w8 := by
    rw [hw8, hw7]
    exact ((Upd.refl [g] w6).setCell (p := ⟨g, j * 4 + 3, none⟩) (.inl (by simp)) _).setCell (p := ⟨g, j * 4 + 2, none⟩) (.inl (by simp)) _
  have hU8 : Upd [] w4 w8 := HU6.out.box' u8 hg1
  have hbq6 := HBQ4.out.upd HU6.out (by simp)
  have q5 : w6.cell? ⟨T + 1, 5, none⟩ = some (.slice qA ql qc) := hbq6.cell 5
  have hbt8 := HBT4.out.upd hU8 (by simp)
  have hbr8 := HBR4.out.upd hU8 (by simp)
  have m5 : w8.cell? ⟨T, 5, none⟩ = some (.slice (some ⟨bP, oP, none⟩) n2 tc) := hbt8.cell 5
  have f5 := hbt8.frozen 5
  obtain ⟨w9, hw9⟩ : ∃ w9, w9 = w8.setCell ⟨T, 5, none⟩ (.slice (some ⟨g, 0, none⟩) n2 d6) := ⟨_, rfl⟩
  have us : Upd [T] w8 w9 := by rw [hw9]; exact (Upd.refl [T] w8).setCell (.inl (by simp)) _
  have HBT9 : Hid (Blk w9 T 37 #[.int .i64 c1, .int .i64 c2, .int .i64 c3, .int .i64 c4, .slice pA n1 pc, .slice (some ⟨g, 0, none⟩) n2 d6, .slice bA n3 bc]) := Lib.hid (by rw [hw9]; exact hbt8.store 5 _)
  have HBR9 := Lib.hid (hbr8.upd us (by simp; omega))
  have HU9 : Hid (Upd [] w w9) := Lib.hid ((HU4.out.next hU8).box' us (by rw [HT.out]; exact Nat.le_refl _))
  have HOWN9 : Hid (w9.ownsRow w4.heap.size 60 4 (.slice (some ⟨g, 0, none⟩) n2 d6) n2 ((tx.set j ((⟨y.1.id, y.1.owner, wf, ss⟩, ⟨qA, qc⟩) : Trk × SH)).flatMap encT)) := Lib.hid (ownsRow_upd s2 us (fun s hs hg => by rw [List.mem_singleton] at hs; subst hs; exact own_box s2 hbt8 (by decide) hg))
  have HW7 := Lib.hid hw7
  have HW8 := Lib.hid hw8
  have HW9 := Lib.hid hw9
  have HWF := Lib.hid hwf
  clear hown6 hg6 hrow hcell s1 s2 u8 us hw7 hw8 hw9 hwf hbq6 hbr8 hU8 hyl hg1 hg2 hdd hA6
  go_upto_region 16 with fail
  rw [← HW7.out]
  clear x3 g3 q5
  go_upto_region 17 with fail
  have hwq := HWF.out
  rw [show IntKind.i64.wrap (fm + 1) = wrap64 (fm + 1) by first | (simp [go_sem]; done) | (unfold wrap64 IntKind.wrap; simp [IntKind.bits, IntKind.signed]; split <;> omega) | (simp [IntKind.wrap, wrap64])] at hwq
  rw [← hwq, ← HW8.out]
  clear hwq x2 g2
  go_upto_region 18 with fail
  rw [← HW9.out]
  clear m5 f5 hbt8
  obtain ⟨kx, ux⟩ := blk7 HBR9.out (.int .i64 c1) (.int .i64 c2) (.int .i64 c3) (.int .i64 c4) (.slice pA n1 pc) (.slice (some ⟨g, 0, none⟩) n2 d6) (.slice bA n3 bc)
  obtain ⟨wx, hwx⟩ : ∃ wx, wx = (((((((w9.setCell ⟨T + 1 + 1, 0, none⟩ (.int .i64 c1)).setCell ⟨T + 1 + 1, 1, none⟩ (.int .i64 c2)).setCell ⟨T + 1 + 1, 2, none⟩ (.int .i64 c3)).setCell ⟨T + 1 + 1, 3, none⟩ (.int .i64 c4)).setCell ⟨T + 1 + 1, 4, none⟩ (.slice pA n1 pc)).setCell ⟨T + 1 + 1, 5, none⟩ (.slice (some ⟨g, 0, none⟩) n2 d6)).setCell ⟨T + 1 + 1, 6, none⟩ (.slice bA n3 bc)) := ⟨_, rfl⟩
  rw [← hwx] at kx ux
  have HKX := Lib.hid kx
  have HUX := Lib.hid ux
  have HWX := Lib.hid hwx
  clear kx ux hwx
  have m0 : w9.cell? ⟨T, 0, none⟩ = some (.int .i64 c1) := HBT9.out.cell 0
  have m1 : w9.cell? ⟨T, 1, none⟩ = some (.int .i64 c2) := HBT9.out.cell 1
  have m2 : w9.cell? ⟨T, 2, none⟩ = some (.int .i64 c3) := HBT9.out.cell 2
  have m3 : w9.cell? ⟨T, 3, none⟩ = some (.int .i64 c4) := HBT9.out.cell 3
  have m4 : w9.cell? ⟨T, 4, none⟩ = some (.slice pA n1 pc) := HBT9.out.cell 4
  have m5 : w9.cell? ⟨T, 5, none⟩ = some (.slice (some ⟨g, 0, none⟩) n2 d6) := HBT9.out.cell 5
  have m6 : w9.cell? ⟨T, 6, none⟩ = some (.slice bA n3 bc) := HBT9.out.cell 6
  have n10 := HBR9.out.frozen 0
  have o0 : w9.cell? ⟨T + 1 + 1, 0, none⟩ = some (.int .i64 0) := HBR9.out.cell 0
  have n11 := HBR9.out.frozen 1
  have o1 : w9.cell? ⟨T + 1 + 1, 1, none⟩ = some (.int .i64 0) := HBR9.out.cell 1
  have n12 := HBR9.out.frozen 2
  have o2 : w9.cell? ⟨T + 1 + 1, 2, none⟩ = some (.int .i64 0) := HBR9.out.cell 2
  have n13 := HBR9.out.frozen 3
  have o3 : w9.cell? ⟨T + 1 + 1, 3, none⟩ = some (.int .i64 0) := HBR9.out.cell 3
  have n14 := HBR9.out.frozen 4
  have o4 : w9.cell? ⟨T + 1 + 1, 4, none⟩ = some (.slice none 0 0) := HBR9.out.cell 4
  have n15 := HBR9.out.frozen 5
  have o5 : w9.cell? ⟨T + 1 + 1, 5, none⟩ = some (.slice none 0 0) := HBR9.out.cell 5
  have n16 := HBR9.out.frozen 6
  have o6 : w9.cell? ⟨T + 1 + 1, 6, none⟩ = some (.slice none 0 0) := HBR9.out.cell 6
  go_wp2
  rw [← HWX.out]
  have g0 := HKX.out.cell 0
  have g1 := HKX.out.cell 1
  have g2 := HKX.out.cell 2
  have g3 := HKX.out.cell 3
  have g4 := HKX.out.cell 4
  have g5 := HKX.out.cell 5
  have g6 := HKX.out.cell 6
  simp only [List.getElem?_toArray, List.getElem?_cons_zero, List.getElem?_cons_succ] at g0 g1 g2 g3 g4 g5 g6
  refine bodyPost_res (v := .tuple #[.agg #[.int .i64 c1, .int .i64 c2, .int .i64 c3, .int .i64 c4, .slice pA n1 pc, .slice (some ⟨g, 0, none⟩) n2 d6, .slice bA n3 bc], .int .i64 0]) (by simp [results, Try.results38, go_sem, Addr.add, g0, g1, g2, g3, g4, g5, g6]) rfl ?_
  have HOWN12 := ownsRow_upd HOWN9.out HUX.out (fun s hs hg => by rw [List.mem_singleton] at hs; subst hs; exact own_box HOWN9.out HBR9.out (by decide) hg)
  have HFIN := HU9.out.box HUX.out HT.out
  have hlx : (tx.set j ((⟨y.1.id, y.1.owner, wf, ss⟩, ⟨qA, qc⟩) : Trk × SH)).map (·.1) = s.ts.set j ⟨y.1.id, y.1.owner, wf, ss⟩ := by rw [List.map_set, ← HS.out.tx]
  refine ⟨⟨pA, pc, tx.set j (⟨y.1.id, y.1.owner, wf, ss⟩, ⟨qA, qc⟩), some ⟨g, 0, none⟩, d6, bA, bc⟩, ?_, ?_, ?_, HFIN⟩
  · rw [H8.out]
    unfold scells
    dsimp only
    rw [← HC.out, List.length_set, ← HN.out.1, ← HN.out.2.1, ← HN.out.2.2]
  · rw [H8.out]
    have k := HS.out.upd HFIN
    refine ⟨k.p, ?_, k.b, hlx, ?_⟩
    · dsimp only
      rw [List.length_set, ← HN.out.2.1]
      exact (RwIn.of_own HOWN12).more (Nat.zero_le _)
    · intro x hx
      rcases mem_set_or hx with rfl | hx
      · exact HQ.out.upd HFIN
      · exact k.ss x hx
  · intro g2 hg hq ha
    rw [H8.out]
    refine ⟨ha.p, ?_, ha.b, ?_⟩
    · dsimp only
      rw [List.length_set, ← HN.out.2.1]
      exact own_av HOWN12 (Nat.lt_of_lt_of_le hg HU4.out.size)
    · intro x hx
      rcases mem_set_or hx with rfl | hx
      · exact hq
      · exact ha.ss x hx
end Go.Proofs.Ytjcbaelefacolaa
