/- Parts of the proof, one behind the other: DRChange. No condition of their own. -/
import Derived.Test.YtjcbaelefacolaaB10
/- The layer delta, the document's side: Unsubscribe, Mute, Unmute, Select. Conditions: the state in memory; what always holds of a state. -/
namespace Go.Proofs.Ytjcbaelefacolaa
open Go Go.RowKit
set_option maxHeartbeats 400000
def changeD (s : St) (q : Rq) : St × Int :=
  if q.kind = 6 then unsubscribeM s q else if q.kind = 7 then mutesM s q true else if q.kind = 8 then mutesM s q false else selectsM s q
theorem change_no {s : St} {q : Rq} (h : has (cB q.who q.track) s.bs = false) : changeD s q = (s, 21) := by
  unfold changeD unsubscribeM mutesM selectsM
  rw [if_pos h, if_pos h, if_pos h, if_pos h]
  split
  · rfl
  · split
    · rfl
    · split <;> rfl
theorem own_take {w : World} {B size n cap g : Nat} {e : TypeId} {xs : List Value} (h : w.ownsRow B e size (.slice (some ⟨g, 0, none⟩) n cap) n xs) {i : Nat} (hi : i ≤ n) : w.ownsRow B e size (.slice (some ⟨g, 0, none⟩) i cap) i (xs.take (i * size)) := by
  rcases h.2 with ⟨hv, _⟩ | ⟨g', cap', cur, hv, hb, hh, h1, h2, h3, h4⟩
  · cases hv
  · injection hv with e1 _ e3
    injection e1 with e1
    injection e1 with e1
    subst e1
    subst e3
    refine ⟨by rw [List.length_take, h.1, Nat.min_eq_left (Nat.mul_le_mul_right _ hi)], .inr ⟨g, cap, cur, rfl, hb, hh, by omega, h2, h3, ?_⟩⟩
    rw [← h4, List.take_take, Nat.min_eq_left (Nat.mul_le_mul_right _ hi)]
theorem take_flat {α : Type} {f : α → List Value} {size : Nat} (hf : ∀ z, (f z).length = size) (l : List α) (i : Nat) : (l.flatMap f).take (i * size) = (l.take i).flatMap f := flat_take hf l i

set_option maxRecDepth 100000 in
set_option maxHeartbeats 4000000 in
theorem rchange_any {w : World} {s : St} {h : SHd} {q : Rq} {qh : SH} (hs : StIn w s h) (hi : Inv s) (hq : RwIn w 0 1 qh.A q.ss.length qh.c (q.ss.map (Value.int .u32))) :
    Calls Try.prog 40 #[.agg (scells s h).toArray, .agg (qcells q qh).toArray] w fun e w' => ∃ h', e = .returned (.tuple #[.agg (scells (changeD s q).1 h').toArray, .int .i64 (changeD s q).2]) ∧ StIn w' (changeD s q).1 h' ∧ (∀ g, g < w.heap.size → QAv g q qh → Av g s h → Av g (changeD s q).1 h') ∧ Upd [] w w' := by
  obtain ⟨T, hT⟩ : ∃ T, T = w.heap.size := ⟨_, rfl⟩
  obtain ⟨n1, hn1⟩ : ∃ n, n = s.ps.length := ⟨_, rfl⟩
  obtain ⟨n2, hn2⟩ : ∃ n, n = s.ts.length := ⟨_, rfl⟩
  obtain ⟨n3, hn3⟩ : ∃ n, n = s.bs.length := ⟨_, rfl⟩
  obtain ⟨r, hr⟩ : ∃ r, r = changeD s q := ⟨_, rfl⟩
  have HR := Lib.hid hr
  rw [← hr]
  clear hr
  have HS := Lib.hid hs
  have HI := Lib.hid hi
  have HQ := Lib.hid hq
  have HN := Lib.hid (And.intro hn1 (And.intro hn2 hn3))
  have hsc : scells s h = [.int .i64 s.c.people, .int .i64 s.c.tracks, .int .i64 s.c.subs, .int .i64 s.c.slots, .slice h.pA n1 h.pc, .slice h.tA n2 h.tc, .slice h.bA n3 h.bc] := by unfold scells; rw [← hn1, ← hn2, ← hn3]
  have hm1 : n1 ≤ 16 := by have := hi.np; have := hi.cp; omega
  have hm2 : n2 ≤ 16 := by have := hi.nt; have := hi.ct; omega
  have hm3 : n3 ≤ 64 := by have := hi.nb; have := hi.cl; omega
  obtain ⟨kd, who, room, rights, track, ss, layer, tid⟩ := q
  obtain ⟨qA, qc⟩ := qh
  unfold qcells
  dsimp only
  obtain ⟨ql, hql⟩ : ∃ ql, ql = ss.length := ⟨_, rfl⟩
  have HQL := Lib.hid hql
  rw [← hql]
  rw [hsc]
  have HSC := Lib.hid hsc
  obtain ⟨pA, pc, tx, tA, tc, bA, bc⟩ := h
  obtain ⟨⟨c1, c2, c3, c4⟩, hc⟩ : ∃ c, c = s.c := ⟨_, rfl⟩
  have HC := Lib.hid hc
  rw [← hc]
  dsimp only
  clear hsc hn1 hn2 hn3 hc hs hi hq hql
  obtain ⟨CS, hCS⟩ : ∃ l : List Value, l = [.int .i64 c1, .int .i64 c2, .int .i64 c3, .int .i64 c4, .slice pA n1 pc, .slice tA n2 tc, .slice bA n3 bc] := ⟨_, rfl⟩
  obtain ⟨W1, hW1⟩ : ∃ W, W = w.alloc (.cells #[.int .i64 c1, .int .i64 c2, .int .i64 c3, .int .i64 c4, .slice pA n1 pc, .slice tA n2 tc, .slice bA n3 bc] 37) := ⟨_, rfl⟩
  obtain ⟨W2, hW2⟩ : ∃ W, W = W1.alloc (.cells #[.int .i64 kd, .int .i64 who, .int .i64 room, .int .i64 rights, .int .i64 track, .slice qA ql qc, .int .i64 layer, .int .i64 tid] 48) := ⟨_, rfl⟩
  obtain ⟨W, hW⟩ : ∃ W, W = W2.alloc (.cells #[.int .i64 0, .int .i64 0, .int .i64 0, .int .i64 0, .slice none 0 0, .slice none 0 0, .slice none 0 0] 37) := ⟨_, rfl⟩
  have u1 : Upd [] w W1 := by rw [hW1]; exact (Upd.refl [] w).alloc _
  have u2 : Upd [] W1 W2 := by rw [hW2]; exact (Upd.refl [] W1).alloc _
  have u3 : Upd [] W2 W := by rw [hW]; exact (Upd.refl [] W2).alloc _
  have s1 : W1.heap.size = T + 1 := by rw [hW1, World.size_alloc, hT]
  have s2 : W2.heap.size = T + 1 + 1 := by rw [hW2, World.size_alloc, s1]
  have hbT : Blk W T 37 #[.int .i64 c1, .int .i64 c2, .int .i64 c3, .int .i64 c4, .slice pA n1 pc, .slice tA n2 tc, .slice bA n3 bc] := by
    have : Blk W1 T 37 #[.int .i64 c1, .int .i64 c2, .int .i64 c3, .int .i64 c4, .slice pA n1 pc, .slice tA n2 tc, .slice bA n3 bc] := by rw [hW1, hT]; exact Blk.new _ _ _
    exact (this.upd u2 (by simp)).upd u3 (by simp)
  have hbQ : Blk W (T + 1) 48 #[.int .i64 kd, .int .i64 who, .int .i64 room, .int .i64 rights, .int .i64 track, .slice qA ql qc, .int .i64 layer, .int .i64 tid] := by
    have : Blk W2 (T + 1) 48 #[.int .i64 kd, .int .i64 who, .int .i64 room, .int .i64 rights, .int .i64 track, .slice qA ql qc, .int .i64 layer, .int .i64 tid] := by rw [hW2, ← s1]; exact Blk.new _ _ _
    exact this.upd u3 (by simp)
  have hbR : Blk W (T + 1 + 1) 37 #[.int .i64 0, .int .i64 0, .int .i64 0, .int .i64 0, .slice none 0 0, .slice none 0 0, .slice none 0 0] := by rw [hW, ← s2]; exact Blk.new _ _ _
  have hT' := hT
  have HU := Lib.hid ((u1.next u2).next u3)
  have HBT := Lib.hid hbT
  have HBQ := Lib.hid hbQ
  have HBR := Lib.hid hbR
  have HT := Lib.hid hT
  clear hbT hbQ hbR u1 u2 u3 s1 s2 hT' hCS
  go_enter Try.func40, Try.ntmps40
  go_upto_region 1 with fail
  rw [← hW1, ← hW2, ← hW, ← hT]
  clear hW1 hW2 hW hT
  have HBT0 := HBT
  have HBR0 := HBR
  have HBQ0 := HBQ
  have HU0 := HU
  obtain ⟨q, hq⟩ : ∃ q : Rq, q = ⟨kd, who, room, rights, track, ss, layer, tid⟩ := ⟨_, rfl⟩
  rw [← hq] at HR
  have HQQ := Lib.hid hq
  clear hq
  obtain ⟨ix, hix⟩ : ∃ x, x = ridxM (cB who track) s.bs := ⟨_, rfl⟩
  have HK : Hid (Calls Try.prog 45 #[.agg #[.int .i64 c1, .int .i64 c2, .int .i64 c3, .int .i64 c4, .slice pA n1 pc, .slice tA n2 tc, .slice bA n3 bc], .int .i64 who, .int .i64 track] W fun e w' => e = .returned (.int .i64 ix) ∧ Upd [] W w') := Lib.hid (by
    have h := rsub_any (HS.out.upd HU0.out) HI.out.ub (by rw [← HN.out.2.2]; omega) who track
    rw [HSC.out, ← HC.out, ← hix] at h
    exact h)
  have HIX := Lib.hid hix
  clear hix
  have m0 : W.cell? ⟨T, 0, none⟩ = some (.int .i64 c1) := HBT0.out.cell 0
  have m1 : W.cell? ⟨T, 1, none⟩ = some (.int .i64 c2) := HBT0.out.cell 1
  have m2 : W.cell? ⟨T, 2, none⟩ = some (.int .i64 c3) := HBT0.out.cell 2
  have m3 : W.cell? ⟨T, 3, none⟩ = some (.int .i64 c4) := HBT0.out.cell 3
  have m4 : W.cell? ⟨T, 4, none⟩ = some (.slice pA n1 pc) := HBT0.out.cell 4
  have m5 : W.cell? ⟨T, 5, none⟩ = some (.slice tA n2 tc) := HBT0.out.cell 5
  have m6 : W.cell? ⟨T, 6, none⟩ = some (.slice bA n3 bc) := HBT0.out.cell 6
  have q1 : W.cell? ⟨T + 1, 1, none⟩ = some (.int .i64 who) := HBQ0.out.cell 1
  have q4 : W.cell? ⟨T + 1, 4, none⟩ = some (.int .i64 track) := HBQ0.out.cell 4
  go_wp2_with fail
  refine HK.out.mono ?_
  rintro _ w1 ⟨rfl, hu1⟩
  have HBT1 := Lib.hid (HBT0.out.upd hu1 (by simp))
  have HBR1 := Lib.hid (HBR0.out.upd hu1 (by simp))
  have HBQ1 := Lib.hid (HBQ0.out.upd hu1 (by simp))
  have HU1 := Lib.hid (HU0.out.next hu1)
  clear hu1 HK q1 q4 m0 m1 m2 m3 m4 m5 m6
  by_cases k1 : ix < 0
  · have H1 : Hid (r = (s, 21)) := Lib.hid (by
      rw [HR.out]
      exact change_no (by
        rw [HQQ.out]
        dsimp only
        cases hh : has (cB who track) s.bs
        · rfl
        · exact absurd (ridx_neg.2 hh) (by rw [← HIX.out]; omega)))
    obtain ⟨kx, ux⟩ := blk7 HBR1.out (.int .i64 c1) (.int .i64 c2) (.int .i64 c3) (.int .i64 c4) (.slice pA n1 pc) (.slice tA n2 tc) (.slice bA n3 bc)
    obtain ⟨wx, hwx⟩ : ∃ wx, wx = (((((((w1.setCell ⟨T + 1 + 1, 0, none⟩ (.int .i64 c1)).setCell ⟨T + 1 + 1, 1, none⟩ (.int .i64 c2)).setCell ⟨T + 1 + 1, 2, none⟩ (.int .i64 c3)).setCell ⟨T + 1 + 1, 3, none⟩ (.int .i64 c4)).setCell ⟨T + 1 + 1, 4, none⟩ (.slice pA n1 pc)).setCell ⟨T + 1 + 1, 5, none⟩ (.slice tA n2 tc)).setCell ⟨T + 1 + 1, 6, none⟩ (.slice bA n3 bc)) := ⟨_, rfl⟩
    rw [← hwx] at kx ux
    have HKX := Lib.hid kx
    have HUX := Lib.hid ux
    have HWX := Lib.hid hwx
    clear kx ux hwx
    have m0 : w1.cell? ⟨T, 0, none⟩ = some (.int .i64 c1) := HBT1.out.cell 0
    have m1 : w1.cell? ⟨T, 1, none⟩ = some (.int .i64 c2) := HBT1.out.cell 1
    have m2 : w1.cell? ⟨T, 2, none⟩ = some (.int .i64 c3) := HBT1.out.cell 2
    have m3 : w1.cell? ⟨T, 3, none⟩ = some (.int .i64 c4) := HBT1.out.cell 3
    have m4 : w1.cell? ⟨T, 4, none⟩ = some (.slice pA n1 pc) := HBT1.out.cell 4
    have m5 : w1.cell? ⟨T, 5, none⟩ = some (.slice tA n2 tc) := HBT1.out.cell 5
    have m6 : w1.cell? ⟨T, 6, none⟩ = some (.slice bA n3 bc) := HBT1.out.cell 6
    have n10 := HBR1.out.frozen 0
    have o0 : w1.cell? ⟨T + 1 + 1, 0, none⟩ = some (.int .i64 0) := HBR1.out.cell 0
    have n11 := HBR1.out.frozen 1
    have o1 : w1.cell? ⟨T + 1 + 1, 1, none⟩ = some (.int .i64 0) := HBR1.out.cell 1
    have n12 := HBR1.out.frozen 2
    have o2 : w1.cell? ⟨T + 1 + 1, 2, none⟩ = some (.int .i64 0) := HBR1.out.cell 2
    have n13 := HBR1.out.frozen 3
    have o3 : w1.cell? ⟨T + 1 + 1, 3, none⟩ = some (.int .i64 0) := HBR1.out.cell 3
    have n14 := HBR1.out.frozen 4
    have o4 : w1.cell? ⟨T + 1 + 1, 4, none⟩ = some (.slice none 0 0) := HBR1.out.cell 4
    have n15 := HBR1.out.frozen 5
    have o5 : w1.cell? ⟨T + 1 + 1, 5, none⟩ = some (.slice none 0 0) := HBR1.out.cell 5
    have n16 := HBR1.out.frozen 6
    have o6 : w1.cell? ⟨T + 1 + 1, 6, none⟩ = some (.slice none 0 0) := HBR1.out.cell 6
    go_wp2
    rw [← HWX.out]
    have g0 := HKX.out.cell 0
    have g1 := HKX.out.cell 1
    have g2 := HKX.out.cell 2
    have g3 := HKX.out.cell 3
    have g4 := HKX.out.cell 4
    have g5 := HKX.out.cell 5
    have g6 := HKX.out.cell 6
    simp only [List.getElem?_toArray, List.getElem?_cons_zero, List.getElem?_cons_succ] at g0 g1 g2 g3 g4 g5 g6
    refine bodyPost_res (v := .tuple #[.agg #[.int .i64 c1, .int .i64 c2, .int .i64 c3, .int .i64 c4, .slice pA n1 pc, .slice tA n2 tc, .slice bA n3 bc], .int .i64 21]) (by simp [results, Try.results40, go_sem, Addr.add, g0, g1, g2, g3, g4, g5, g6]) rfl ?_
    exact ⟨⟨pA, pc, tx, tA, tc, bA, bc⟩, by rw [H1.out]; dsimp only; rw [HSC.out, ← HC.out], by rw [H1.out]; exact HS.out.upd (HU1.out.box HUX.out HT.out), by rw [H1.out]; exact fun _ _ _ ha => ha, HU1.out.box HUX.out HT.out⟩
  have hh : has (cB who track) s.bs = true := ridx_neg.1 (by rw [← HIX.out]; omega)
  obtain ⟨j, hj⟩ : ∃ j, j = low (cB who track) s.bs := ⟨_, rfl⟩
  obtain ⟨x, hx⟩ : ∃ x, x = subAt s who track := ⟨_, rfl⟩
  obtain ⟨sa1, sa2, sa3, sa4⟩ := sub_at HI.out hh
  rw [← hj, ← hx] at sa1
  have hixj : ix = (j : Int) := by rw [HIX.out]; unfold ridxM; rw [if_pos hh, hj]
  subst hixj
  have hjl : j < n3 := by rw [HN.out.2.2]; exact (List.getElem?_eq_some_iff.1 sa1).1
  have hjli : (j : Int) < (n3 : Int) := by omega
  obtain ⟨bP, oP, e, e0, _⟩ := rowB (HS.out.upd HU1.out).b rfl j x sa1
  dsimp only at e
  cases e
  have HX := Lib.hid sa1
  have HH := Lib.hid hh
  have HJ := Lib.hid hj
  have HXX := Lib.hid hx
  clear hh hj hx sa1 sa2 sa3 sa4 e0 k1
  obtain ⟨j0, hj0, hy0, hy1, hy2⟩ := info_parts infoRB
  have HRP := Lib.hid (HS.out.upd HU1.out).b
  have hle := HRP.out.le
  have hcm := HRP.out.cm
  dsimp only at hle hcm
  rw [← HN.out.2.2] at hle
  obtain ⟨x0, x1, x2, x3, xm⟩ := x
  have m6 : w1.cell? ⟨T, 6, none⟩ = some (.slice (some ⟨bP, oP, none⟩) n3 bc) := HBT1.out.cell 6
  have q0 : w1.cell? ⟨T + 1, 0, none⟩ = some (.int .i64 kd) := HBQ1.out.cell 0
  go_wp2_with (at_builtin; refine wpList_append_src w1 rfl (.tmp 17) (.tmp 19) 35 rfl w1.heap.size 56 j0 _ 5 40 Try.underlying35 hj0 hy0 hy1 hy2 rfl (by decide) (.slice none 0 0) 0 [] rfl (World.ownsRow_nil _ _ _ _) (some ⟨bP, oP, none⟩) n3 bc (s.bs.flatMap encB) rfl (fun e => by cases e) (by rw [flat_length encB_len, ← HN.out.2.2]) (by have h := HRP.out.piece0 (k := s.bs.length) encB_len; rw [List.take_length] at h; exact h) (flat_ones encB_one _) (by unfold maxLen; omega) (by omega) (Nat.le_refl _) ?_)
  intro v6 w6 hown6 hg6 _
  obtain ⟨A6, d6, hv6, hdd, hA6, _⟩ := own_form hown6
  obtain ⟨g, rfl, hg1, hg2⟩ := hA6 (by omega)
  subst hv6
  try simp only [Nat.zero_add, List.nil_append] at hown6
  have hu6 : Upd [] w1 w6 := Upd.of_below ((Upd.of_grown hg6).below (Nat.le_refl _) (fun s hs => by
    simp [Value.ownBlock] at hs))
  have hd6 : n3 ≤ d6 := by omega
  have hcap : d6 ≤ 9223372036854775807 := own_cap hown6
  have HBT6 := Lib.hid (HBT1.out.upd hu6 (by simp))
  have HBR6 := Lib.hid (HBR1.out.upd hu6 (by simp))
  have HBQ6 := Lib.hid (HBQ1.out.upd hu6 (by simp))
  have HU6 := Lib.hid (HU1.out.next hu6)
  have HOWN6 := Lib.hid hown6
  have HU16 := Lib.hid hu6
  have HG1 := Lib.hid hg1
  clear hown6 hg6 hu6 m6 q0 hg1 hg2 hdd hA6
  have q0 : w6.cell? ⟨T + 1, 0, none⟩ = some (.int .i64 kd) := HBQ6.out.cell 0
  by_cases k6 : kd = 6
  · subst k6
    have H8 : Hid (r = ({ s with bs := s.bs.eraseIdx j }, 0)) := Lib.hid (by rw [HR.out]; unfold changeD; rw [if_pos (by rw [HQQ.out])]; unfold unsubscribeM; rw [HQQ.out, if_neg (by dsimp only; rw [HH.out]; decide), ← HJ.out])
    have hwj : IntKind.i64.wrap ((j : Int) + 1) = (j : Int) + 1 := IntWalk.i64_in _ (by omega)
    have m6 : w6.cell? ⟨T, 6, none⟩ = some (.slice (some ⟨bP, oP, none⟩) n3 bc) := HBT6.out.cell 6
    by_cases hpc : bc = j + 1
    · have hpci : (bc : Int) = (j : Int) + 1 := by omega
      go_upto_region 12 with fail
      refine wp_quiet_tail 8 (by kernel_rfl) (by kernel_rfl) (fun _ _ _ _ h => h) ?_
      simp only [List.take_succ_cons, List.take_zero, List.drop_succ_cons, List.drop_zero]
      repeat (go_big_quiet_step (fail))
      refine wpQuiet_nil ?_
      rintro _ ⟨nq, rfl⟩
      obtain ⟨wa, hwa⟩ : ∃ wa, wa = w6.drewN nq := ⟨_, rfl⟩
      have ua : Upd [] w6 wa := by rw [hwa]; exact (Upd.refl _ _).drewN _
      rw [← hwa]
      clear hwa
      have HUA := Lib.hid ua
      clear ua m6 q0
      go_wp2_with (at_builtin; go_loud (refine wpList_append_src wa rfl (.tmp 58) (.tmp 63) 35 rfl w1.heap.size 56 j0 _ 5 40 Try.underlying35 hj0 hy0 hy1 hy2 rfl (by decide) (.slice (some ⟨g, 0, none⟩) j d6) j _ rfl (own_take (ownsRow_upd HOWN6.out HUA.out (by simp)) (by omega)) (some ⟨bP, oP, none⟩) (n3 - (j + 1)) 0 ((s.bs.drop (j + 1)).flatMap encB) rfl (fun e => by cases e) (by rw [flat_length encB_len, List.length_drop, ← HN.out.2.2]) (by rw [List.drop_eq_nil_of_le (by rw [← HN.out.2.2]; omega)]; intro ad _ j u hj; simp at hj) (flat_ones encB_one _) (by unfold maxLen; omega) (by omega) (Nat.le_trans HU16.out.size HUA.out.size) ?_))
      intro v7 w7 hown7 hg7 _
      obtain ⟨A7, d7, hv7, _⟩ := own_form hown7
      subst hv7
      have hu7 : Upd [] w1 w7 := (HU16.out.next HUA.out).box' (Upd.of_grown hg7) (by exact HG1.out)
      have HBT7 := Lib.hid (HBT1.out.upd hu7 (by simp))
      have HBR7 := Lib.hid (HBR1.out.upd hu7 (by simp))
      have HU7 := Lib.hid (HU1.out.next hu7)
      obtain ⟨NN, hNN⟩ : ∃ N, N = j + (n3 - (j + 1)) := ⟨_, rfl⟩
      rw [← hNN] at hown7
      have HOWT : Hid (w7.ownsRow w1.heap.size 56 5 (.slice A7 NN d7) NN ((s.bs.eraseIdx j).flatMap encB)) := Lib.hid (by
        have h := hown7
        rw [take_flat encB_len, ← List.flatMap_append, ← List.eraseIdx_eq_take_drop_succ] at h
        exact h)
      have HNN := Lib.hid hNN
      clear hown7 hg7 hu7 hNN
      rw [← HNN.out]
      have hbt9 := HBT7.out
      have hbr9 := HBR7.out
      have m6 : w7.cell? ⟨T, 6, none⟩ = some (.slice (some ⟨bP, oP, none⟩) n3 bc) := hbt9.cell 6
      have f6 := hbt9.frozen 6
      obtain ⟨w9, hw9⟩ : ∃ w9, w9 = w7.setCell ⟨T, 6, none⟩ (.slice A7 NN d7) := ⟨_, rfl⟩
      have us : Upd [T] w7 w9 := by rw [hw9]; exact (Upd.refl [T] w7).setCell (.inl (by simp)) _
      have HBT9 : Hid (Blk w9 T 37 #[.int .i64 c1, .int .i64 c2, .int .i64 c3, .int .i64 c4, .slice pA n1 pc, .slice tA n2 tc, .slice A7 NN d7]) := Lib.hid (by rw [hw9]; exact hbt9.store 6 _)
      have HBR9 := Lib.hid (hbr9.upd us (by simp; omega))
      have HU9 : Hid (Upd [] w w9) := Lib.hid (HU7.out.box' us (by rw [HT.out]; exact Nat.le_refl _))
      have HOWN9 : Hid (w9.ownsRow w1.heap.size 56 5 (.slice A7 NN d7) NN ((s.bs.eraseIdx j).flatMap encB)) := Lib.hid (ownsRow_upd HOWT.out us (fun s hs hg => by rw [List.mem_singleton] at hs; subst hs; exact own_box HOWT.out hbt9 (by decide) hg))
      have HLEN : Hid (((s.bs.eraseIdx j)).length = NN) := Lib.hid (by rw [HNN.out, List.length_eraseIdx, if_pos (by rw [← HN.out.2.2]; exact hjl), ← HN.out.2.2]; omega)
      have HW9 := Lib.hid hw9
      clear hbt9 hbr9 us hw9
      go_upto_region 19 with fail
      rw [← HW9.out]
      clear m6 f6
      obtain ⟨kx, ux⟩ := blk7 HBR9.out (.int .i64 c1) (.int .i64 c2) (.int .i64 c3) (.int .i64 c4) (.slice pA n1 pc) (.slice tA n2 tc) (.slice A7 NN d7)
      obtain ⟨wx, hwx⟩ : ∃ wx, wx = (((((((w9.setCell ⟨T + 1 + 1, 0, none⟩ (.int .i64 c1)).setCell ⟨T + 1 + 1, 1, none⟩ (.int .i64 c2)).setCell ⟨T + 1 + 1, 2, none⟩ (.int .i64 c3)).setCell ⟨T + 1 + 1, 3, none⟩ (.int .i64 c4)).setCell ⟨T + 1 + 1, 4, none⟩ (.slice pA n1 pc)).setCell ⟨T + 1 + 1, 5, none⟩ (.slice tA n2 tc)).setCell ⟨T + 1 + 1, 6, none⟩ (.slice A7 NN d7)) := ⟨_, rfl⟩
      rw [← hwx] at kx ux
      have HKX := Lib.hid kx
      have HUX := Lib.hid ux
      have HWX := Lib.hid hwx
      clear kx ux hwx
      have m0 : w9.cell? ⟨T, 0, none⟩ = some (.int .i64 c1) := HBT9.out.cell 0
      have m1 : w9.cell? ⟨T, 1, none⟩ = some (.int .i64 c2) := HBT9.out.cell 1
      have m2 : w9.cell? ⟨T, 2, none⟩ = some (.int .i64 c3) := HBT9.out.cell 2
      have m3 : w9.cell? ⟨T, 3, none⟩ = some (.int .i64 c4) := HBT9.out.cell 3
      have m4 : w9.cell? ⟨T, 4, none⟩ = some (.slice pA n1 pc) := HBT9.out.cell 4
      have m5 : w9.cell? ⟨T, 5, none⟩ = some (.slice tA n2 tc) := HBT9.out.cell 5
      have m6 : w9.cell? ⟨T, 6, none⟩ = some (.slice A7 NN d7) := HBT9.out.cell 6
      have n10 := HBR9.out.frozen 0
      have o0 : w9.cell? ⟨T + 1 + 1, 0, none⟩ = some (.int .i64 0) := HBR9.out.cell 0
      have n11 := HBR9.out.frozen 1
      have o1 : w9.cell? ⟨T + 1 + 1, 1, none⟩ = some (.int .i64 0) := HBR9.out.cell 1
      have n12 := HBR9.out.frozen 2
      have o2 : w9.cell? ⟨T + 1 + 1, 2, none⟩ = some (.int .i64 0) := HBR9.out.cell 2
      have n13 := HBR9.out.frozen 3
      have o3 : w9.cell? ⟨T + 1 + 1, 3, none⟩ = some (.int .i64 0) := HBR9.out.cell 3
      have n14 := HBR9.out.frozen 4
      have o4 : w9.cell? ⟨T + 1 + 1, 4, none⟩ = some (.slice none 0 0) := HBR9.out.cell 4
      have n15 := HBR9.out.frozen 5
      have o5 : w9.cell? ⟨T + 1 + 1, 5, none⟩ = some (.slice none 0 0) := HBR9.out.cell 5
      have n16 := HBR9.out.frozen 6
      have o6 : w9.cell? ⟨T + 1 + 1, 6, none⟩ = some (.slice none 0 0) := HBR9.out.cell 6
      go_wp2
      rw [← HWX.out]
      have g0 := HKX.out.cell 0
      have g1 := HKX.out.cell 1
      have g2 := HKX.out.cell 2
      have g3 := HKX.out.cell 3
      have g4 := HKX.out.cell 4
      have g5 := HKX.out.cell 5
      have g6 := HKX.out.cell 6
      simp only [List.getElem?_toArray, List.getElem?_cons_zero, List.getElem?_cons_succ] at g0 g1 g2 g3 g4 g5 g6
      refine bodyPost_res (v := .tuple #[.agg #[.int .i64 c1, .int .i64 c2, .int .i64 c3, .int .i64 c4, .slice pA n1 pc, .slice tA n2 tc, .slice A7 NN d7], .int .i64 0]) (by simp [results, Try.results40, go_sem, Addr.add, g0, g1, g2, g3, g4, g5, g6]) rfl ?_
      have HOWN12 := ownsRow_upd HOWN9.out HUX.out (fun s hs hg => by rw [List.mem_singleton] at hs; subst hs; exact own_box HOWN9.out HBR9.out (by decide) hg)
      have HFIN := HU9.out.box HUX.out HT.out
      refine ⟨⟨pA, pc, tx, tA, tc, A7, d7⟩, ?_, ?_, ?_, HFIN⟩
      · rw [H8.out]
        unfold scells
        dsimp only
        rw [← HC.out, HLEN.out, ← HN.out.1, ← HN.out.2.1]
      · rw [H8.out]
        have k := HS.out.upd HFIN
        refine ⟨k.p, k.t, ?_, k.tx, k.ss⟩
        dsimp only
        rw [HLEN.out]
        exact (RwIn.of_own HOWN12).more (Nat.zero_le _)
      · intro g2 hg _ ha
        rw [H8.out]
        refine ⟨ha.p, ha.t, ?_, ha.ss⟩
        dsimp only
        rw [HLEN.out]
        exact own_av HOWN12 (Nat.lt_of_lt_of_le hg HU1.out.size)
    · have hpci : (j : Int) + 1 < (bc : Int) := by omega
      go_upto_region 12 with fail
      refine wp_quiet_tail 8 (by kernel_rfl) (by kernel_rfl) (fun _ _ _ _ h => h) ?_
      simp only [List.take_succ_cons, List.take_zero, List.drop_succ_cons, List.drop_zero]
      repeat (go_big_quiet_step (fail))
      refine wpQuiet_nil ?_
      rintro _ ⟨nq, rfl⟩
      obtain ⟨wa, hwa⟩ : ∃ wa, wa = w6.drewN nq := ⟨_, rfl⟩
      have ua : Upd [] w6 wa := by rw [hwa]; exact (Upd.refl _ _).drewN _
      rw [← hwa]
      clear hwa
      have HUA := Lib.hid ua
      clear ua m6 q0
      go_wp2_with (at_builtin; go_loud (refine wpList_append_src wa rfl (.tmp 58) (.tmp 63) 35 rfl w1.heap.size 56 j0 _ 5 40 Try.underlying35 hj0 hy0 hy1 hy2 rfl (by decide) (.slice (some ⟨g, 0, none⟩) j d6) j _ rfl (own_take (ownsRow_upd HOWN6.out HUA.out (by simp)) (by omega)) (some ((⟨bP, oP, none⟩ : Addr).add ((j + 1) * 5))) (n3 - (j + 1)) (bc - (j + 1)) ((s.bs.drop (j + 1)).flatMap encB) rfl (fun e => by cases e) (by rw [flat_length encB_len, List.length_drop, ← HN.out.2.2]) ((HRP.out.upd (HU16.out.next HUA.out)).piece1 encB_len rfl) (flat_ones encB_one _) (by unfold maxLen; omega) (by omega) (Nat.le_trans HU16.out.size HUA.out.size) ?_))
      intro v7 w7 hown7 hg7 _
      obtain ⟨A7, d7, hv7, _⟩ := own_form hown7
      subst hv7
      have hu7 : Upd [] w1 w7 := (HU16.out.next HUA.out).box' (Upd.of_grown hg7) (by exact HG1.out)
      have HBT7 := Lib.hid (HBT1.out.upd hu7 (by simp))
      have HBR7 := Lib.hid (HBR1.out.upd hu7 (by simp))
      have HU7 := Lib.hid (HU1.out.next hu7)
      obtain ⟨NN, hNN⟩ : ∃ N, N = j + (n3 - (j + 1)) := ⟨_, rfl⟩
      rw [← hNN] at hown7
      have HOWT : Hid (w7.ownsRow w1.heap.size 56 5 (.slice A7 NN d7) NN ((s.bs.eraseIdx j).flatMap encB)) := Lib.hid (by
        have h := hown7
        rw [take_flat encB_len, ← List.flatMap_append, ← List.eraseIdx_eq_take_drop_succ] at h
        exact h)
      have HNN := Lib.hid hNN
      clear hown7 hg7 hu7 hNN
      rw [← HNN.out]
      have hbt9 := HBT7.out
      have hbr9 := HBR7.out
      have m6 : w7.cell? ⟨T, 6, none⟩ = some (.slice (some ⟨bP, oP, none⟩) n3 bc) := hbt9.cell 6
      have f6 := hbt9.frozen 6
      obtain ⟨w9, hw9⟩ : ∃ w9, w9 = w7.setCell ⟨T, 6, none⟩ (.slice A7 NN d7) := ⟨_, rfl⟩
      have us : Upd [T] w7 w9 := by rw [hw9]; exact (Upd.refl [T] w7).setCell (.inl (by simp)) _
      have HBT9 : Hid (Blk w9 T 37 #[.int .i64 c1, .int .i64 c2, .int .i64 c3, .int .i64 c4, .slice pA n1 pc, .slice tA n2 tc, .slice A7 NN d7]) := Lib.hid (by rw [hw9]; exact hbt9.store 6 _)
      have HBR9 := Lib.hid (hbr9.upd us (by simp; omega))
      have HU9 : Hid (Upd [] w w9) := Lib.hid (HU7.out.box' us (by rw [HT.out]; exact Nat.le_refl _))
      have HOWN9 : Hid (w9.ownsRow w1.heap.size 56 5 (.slice A7 NN d7) NN ((s.bs.eraseIdx j).flatMap encB)) := Lib.hid (ownsRow_upd HOWT.out us (fun s hs hg => by rw [List.mem_singleton] at hs; subst hs; exact own_box HOWT.out hbt9 (by decide) hg))
      have HLEN : Hid (((s.bs.eraseIdx j)).length = NN) := Lib.hid (by rw [HNN.out, List.length_eraseIdx, if_pos (by rw [← HN.out.2.2]; exact hjl), ← HN.out.2.2]; omega)
      have HW9 := Lib.hid hw9
      clear hbt9 hbr9 us hw9
      go_upto_region 19 with fail
      rw [← HW9.out]
      clear m6 f6
      obtain ⟨kx, ux⟩ := blk7 HBR9.out (.int .i64 c1) (.int .i64 c2) (.int .i64 c3) (.int .i64 c4) (.slice pA n1 pc) (.slice tA n2 tc) (.slice A7 NN d7)
      obtain ⟨wx, hwx⟩ : ∃ wx, wx = (((((((w9.setCell ⟨T + 1 + 1, 0, none⟩ (.int .i64 c1)).setCell ⟨T + 1 + 1, 1, none⟩ (.int .i64 c2)).setCell ⟨T + 1 + 1, 2, none⟩ (.int .i64 c3)).setCell ⟨T + 1 + 1, 3, none⟩ (.int .i64 c4)).setCell ⟨T + 1 + 1, 4, none⟩ (.slice pA n1 pc)).setCell ⟨T + 1 + 1, 5, none⟩ (.slice tA n2 tc)).setCell ⟨T + 1 + 1, 6, none⟩ (.slice A7 NN d7)) := ⟨_, rfl⟩
      rw [← hwx] at kx ux
      have HKX := Lib.hid kx
      have HUX := Lib.hid ux
      have HWX := Lib.hid hwx
      clear kx ux hwx
      have m0 : w9.cell? ⟨T, 0, none⟩ = some (.int .i64 c1) := HBT9.out.cell 0
      have m1 : w9.cell? ⟨T, 1, none⟩ = some (.int .i64 c2) := HBT9.out.cell 1
      have m2 : w9.cell? ⟨T, 2, none⟩ = some (.int .i64 c3) := HBT9.out.cell 2
      have m3 : w9.cell? ⟨T, 3, none⟩ = some (.int .i64 c4) := HBT9.out.cell 3
      have m4 : w9.cell? ⟨T, 4, none⟩ = some (.slice pA n1 pc) := HBT9.out.cell 4
      have m5 : w9.cell? ⟨T, 5, none⟩ = some (.slice tA n2 tc) := HBT9.out.cell 5
      have m6 : w9.cell? ⟨T, 6, none⟩ = some (.slice A7 NN d7) := HBT9.out.cell 6
      have n10 := HBR9.out.frozen 0
      have o0 : w9.cell? ⟨T + 1 + 1, 0, none⟩ = some (.int .i64 0) := HBR9.out.cell 0
      have n11 := HBR9.out.frozen 1
      have o1 : w9.cell? ⟨T + 1 + 1, 1, none⟩ = some (.int .i64 0) := HBR9.out.cell 1
      have n12 := HBR9.out.frozen 2
      have o2 : w9.cell? ⟨T + 1 + 1, 2, none⟩ = some (.int .i64 0) := HBR9.out.cell 2
      have n13 := HBR9.out.frozen 3
      have o3 : w9.cell? ⟨T + 1 + 1, 3, none⟩ = some (.int .i64 0) := HBR9.out.cell 3
      have n14 := HBR9.out.frozen 4
      have o4 : w9.cell? ⟨T + 1 + 1, 4, none⟩ = some (.slice none 0 0) := HBR9.out.cell 4
      have n15 := HBR9.out.frozen 5
      have o5 : w9.cell? ⟨T + 1 + 1, 5, none⟩ = some (.slice none 0 0) := HBR9.out.cell 5
      have n16 := HBR9.out.frozen 6
      have o6 : w9.cell? ⟨T + 1 + 1, 6, none⟩ = some (.slice none 0 0) := HBR9.out.cell 6
      go_wp2
      rw [← HWX.out]
      have g0 := HKX.out.cell 0
      have g1 := HKX.out.cell 1
      have g2 := HKX.out.cell 2
      have g3 := HKX.out.cell 3
      have g4 := HKX.out.cell 4
      have g5 := HKX.out.cell 5
      have g6 := HKX.out.cell 6
      simp only [List.getElem?_toArray, List.getElem?_cons_zero, List.getElem?_cons_succ] at g0 g1 g2 g3 g4 g5 g6
      refine bodyPost_res (v := .tuple #[.agg #[.int .i64 c1, .int .i64 c2, .int .i64 c3, .int .i64 c4, .slice pA n1 pc, .slice tA n2 tc, .slice A7 NN d7], .int .i64 0]) (by simp [results, Try.results40, go_sem, Addr.add, g0, g1, g2, g3, g4, g5, g6]) rfl ?_
      have HOWN12 := ownsRow_upd HOWN9.out HUX.out (fun s hs hg => by rw [List.mem_singleton] at hs; subst hs; exact own_box HOWN9.out HBR9.out (by decide) hg)
      have HFIN := HU9.out.box HUX.out HT.out
      refine ⟨⟨pA, pc, tx, tA, tc, A7, d7⟩, ?_, ?_, ?_, HFIN⟩
      · rw [H8.out]
        unfold scells
        dsimp only
        rw [← HC.out, HLEN.out, ← HN.out.1, ← HN.out.2.1]
      · rw [H8.out]
        have k := HS.out.upd HFIN
        refine ⟨k.p, k.t, ?_, k.tx, k.ss⟩
        dsimp only
        rw [HLEN.out]
        exact (RwIn.of_own HOWN12).more (Nat.zero_le _)
      · intro g2 hg _ ha
        rw [H8.out]
        refine ⟨ha.p, ha.t, ?_, ha.ss⟩
        dsimp only
        rw [HLEN.out]
        exact own_av HOWN12 (Nat.lt_of_lt_of_le hg HU1.out.size)
  have hk6 : (kd == 6) = false := beq_eq_false_iff_ne.2 k6
  have hrow := HOWN6.out
  have hcell := fun (k : Nat) (u : Value) (hu : (s.bs.flatMap encB)[k]? = some u) => (by
    have := hrow.cells (g := g) rfl k u hu
    by_cases hk : k = 0
    · subst hk; exact this
    · simpa [Addr.add, hk] using this : w6.cell? ⟨g, k, none⟩ = some u)
  have y4 : w6.cell? ⟨g, j * 5 + 4, none⟩ = some (.bool xm) := hcell (j * 5 + 4) _ (flat_get encB_len s.bs j 4 _ HX.out (by omega))
  by_cases k7 : kd = 7
  · subst k7
    have HM : Hid (r = mutesM s q true) := Lib.hid (by rw [HR.out]; unfold changeD; rw [HQQ.out]; rfl)
    go_upto_region 15 with fail
    go_cut [76] (fun v wd => v = .bool (xm == true) ∧ Upd [] w6 wd)
    case first =>
      go_wp2_with fail
      go_quiet (fail)
      go_wp2
      go_meet
      case rel => exact ⟨by cases xm <;> rfl, (Upd.refl [] w6).drewN _⟩
    obtain ⟨rfl, hud⟩ := hcut
    have HBT5 := Lib.hid (HBT6.out.upd hud (by simp))
    have HBR5 := Lib.hid (HBR6.out.upd hud (by simp))
    have HBQ5 := Lib.hid (HBQ6.out.upd hud (by simp))
    have HU5 := Lib.hid (HU6.out.next hud)
    have HOWN5 := Lib.hid (ownsRow_upd HOWN6.out hud (by simp))
    have HU15 := Lib.hid (HU16.out.next hud)
    clear hud y4 hcell hrow q0
    obtain ⟨w5, hw5⟩ : ∃ x : World, x = wc := ⟨_, rfl⟩
    rw [← hw5] at HBT5 HBR5 HBQ5 HU5 HOWN5 HU15 ⊢
    clear hw5
    have q0 : w5.cell? ⟨T + 1, 0, none⟩ = some (.int .i64 7) := HBQ5.out.cell 0
    by_cases kx : xm = true
    · subst kx
      have H1 : Hid (r = (s, 23)) := Lib.hid (by rw [HM.out]; unfold mutesM; rw [HQQ.out, if_neg (by dsimp only; rw [HH.out]; decide), if_pos (by dsimp only; rw [← HXX.out])])
      obtain ⟨kx, ux⟩ := blk7 HBR5.out (.int .i64 c1) (.int .i64 c2) (.int .i64 c3) (.int .i64 c4) (.slice pA n1 pc) (.slice tA n2 tc) (.slice (some ⟨bP, oP, none⟩) n3 bc)
      obtain ⟨wx, hwx⟩ : ∃ wx, wx = (((((((w5.setCell ⟨T + 1 + 1, 0, none⟩ (.int .i64 c1)).setCell ⟨T + 1 + 1, 1, none⟩ (.int .i64 c2)).setCell ⟨T + 1 + 1, 2, none⟩ (.int .i64 c3)).setCell ⟨T + 1 + 1, 3, none⟩ (.int .i64 c4)).setCell ⟨T + 1 + 1, 4, none⟩ (.slice pA n1 pc)).setCell ⟨T + 1 + 1, 5, none⟩ (.slice tA n2 tc)).setCell ⟨T + 1 + 1, 6, none⟩ (.slice (some ⟨bP, oP, none⟩) n3 bc)) := ⟨_, rfl⟩
      rw [← hwx] at kx ux
      have HKX := Lib.hid kx
      have HUX := Lib.hid ux
      have HWX := Lib.hid hwx
      clear kx ux hwx
      have m0 : w5.cell? ⟨T, 0, none⟩ = some (.int .i64 c1) := HBT5.out.cell 0
      have m1 : w5.cell? ⟨T, 1, none⟩ = some (.int .i64 c2) := HBT5.out.cell 1
      have m2 : w5.cell? ⟨T, 2, none⟩ = some (.int .i64 c3) := HBT5.out.cell 2
      have m3 : w5.cell? ⟨T, 3, none⟩ = some (.int .i64 c4) := HBT5.out.cell 3
      have m4 : w5.cell? ⟨T, 4, none⟩ = some (.slice pA n1 pc) := HBT5.out.cell 4
      have m5 : w5.cell? ⟨T, 5, none⟩ = some (.slice tA n2 tc) := HBT5.out.cell 5
      have m6 : w5.cell? ⟨T, 6, none⟩ = some (.slice (some ⟨bP, oP, none⟩) n3 bc) := HBT5.out.cell 6
      have n10 := HBR5.out.frozen 0
      have o0 : w5.cell? ⟨T + 1 + 1, 0, none⟩ = some (.int .i64 0) := HBR5.out.cell 0
      have n11 := HBR5.out.frozen 1
      have o1 : w5.cell? ⟨T + 1 + 1, 1, none⟩ = some (.int .i64 0) := HBR5.out.cell 1
      have n12 := HBR5.out.frozen 2
      have o2 : w5.cell? ⟨T + 1 + 1, 2, none⟩ = some (.int .i64 0) := HBR5.out.cell 2
      have n13 := HBR5.out.frozen 3
      have o3 : w5.cell? ⟨T + 1 + 1, 3, none⟩ = some (.int .i64 0) := HBR5.out.cell 3
      have n14 := HBR5.out.frozen 4
      have o4 : w5.cell? ⟨T + 1 + 1, 4, none⟩ = some (.slice none 0 0) := HBR5.out.cell 4
      have n15 := HBR5.out.frozen 5
      have o5 : w5.cell? ⟨T + 1 + 1, 5, none⟩ = some (.slice none 0 0) := HBR5.out.cell 5
      have n16 := HBR5.out.frozen 6
      have o6 : w5.cell? ⟨T + 1 + 1, 6, none⟩ = some (.slice none 0 0) := HBR5.out.cell 6
      go_wp2
      rw [← HWX.out]
      have g0 := HKX.out.cell 0
      have g1 := HKX.out.cell 1
      have g2 := HKX.out.cell 2
      have g3 := HKX.out.cell 3
      have g4 := HKX.out.cell 4
      have g5 := HKX.out.cell 5
      have g6 := HKX.out.cell 6
      simp only [List.getElem?_toArray, List.getElem?_cons_zero, List.getElem?_cons_succ] at g0 g1 g2 g3 g4 g5 g6
      refine bodyPost_res (v := .tuple #[.agg #[.int .i64 c1, .int .i64 c2, .int .i64 c3, .int .i64 c4, .slice pA n1 pc, .slice tA n2 tc, .slice (some ⟨bP, oP, none⟩) n3 bc], .int .i64 23]) (by simp [results, Try.results40, go_sem, Addr.add, g0, g1, g2, g3, g4, g5, g6]) rfl ?_
      exact ⟨⟨pA, pc, tx, tA, tc, (some ⟨bP, oP, none⟩), bc⟩, by rw [H1.out]; dsimp only; rw [HSC.out, ← HC.out], by rw [H1.out]; exact HS.out.upd (HU5.out.box HUX.out HT.out), by rw [H1.out]; exact fun _ _ _ ha => ha, HU5.out.box HUX.out HT.out⟩
    · have kx : xm = false := by cases xm <;> simp_all
      subst kx
      have H8 : Hid (r = ({ s with bs := s.bs.set j ⟨x0, x1, x2, x3, true⟩ }, 0)) := Lib.hid (by rw [HM.out]; unfold mutesM; rw [HQQ.out, if_neg (by dsimp only; rw [HH.out]; decide), if_neg (by dsimp only; rw [← HXX.out]; simp)]; dsimp only; rw [← HXX.out, ← HJ.out])
      have hrow := HOWN5.out
      have hcell := fun (k : Nat) (u : Value) (hu : (s.bs.flatMap encB)[k]? = some u) => (by
        have := hrow.cells (g := g) rfl k u hu
        by_cases hk : k = 0
        · subst hk; exact this
        · simpa [Addr.add, hk] using this : w5.cell? ⟨g, k, none⟩ = some u)
      have y4 : w5.cell? ⟨g, j * 5 + 4, none⟩ = some (.bool false) := hcell (j * 5 + 4) _ (flat_get encB_len s.bs j 4 _ HX.out (by omega))
      have y4f : w5.frozen? ⟨g, j * 5 + 4, none⟩ = false := by
        have := hrow.frozenAt (j * 5 + 4)
        simpa [Addr.add] using this
      have s1 := (hrow.stored (j * 5 + 4) (.bool true)).1
      rw [flat_set encB_len s.bs j 4 _ (⟨x0, x1, x2, x3, true⟩ : Sb) _ HX.out (by omega) rfl] at s1
      obtain ⟨w7, hw7⟩ : ∃ w7, w7 = w5.setCell ⟨g, j * 5 + 4, none⟩ (.bool true) := ⟨_, rfl⟩
      rw [← hw7] at s1
      have u7 : Upd [g] w5 w7 := by rw [hw7]; exact (Upd.refl [g] w5).setCell (.inl (by simp)) _
      have hu7 : Upd [] w1 w7 := HU15.out.box' u7 HG1.out
      have HBT7 := Lib.hid (HBT1.out.upd hu7 (by simp))
      have HBR7 := Lib.hid (HBR1.out.upd hu7 (by simp))
      have HU7 := Lib.hid (HU1.out.next hu7)
      have HOWT := Lib.hid s1
      have HW7 := Lib.hid hw7
      clear s1 u7 hu7 hw7 hrow hcell
      go_upto_region 18 with fail
      rw [← HW7.out]
      clear y4 y4f q0
      have hbt9 := HBT7.out
      have hbr9 := HBR7.out
      have m6 : w7.cell? ⟨T, 6, none⟩ = some (.slice (some ⟨bP, oP, none⟩) n3 bc) := hbt9.cell 6
      have f6 := hbt9.frozen 6
      obtain ⟨w9, hw9⟩ : ∃ w9, w9 = w7.setCell ⟨T, 6, none⟩ (.slice (some ⟨g, 0, none⟩) n3 d6) := ⟨_, rfl⟩
      have us : Upd [T] w7 w9 := by rw [hw9]; exact (Upd.refl [T] w7).setCell (.inl (by simp)) _
      have HBT9 : Hid (Blk w9 T 37 #[.int .i64 c1, .int .i64 c2, .int .i64 c3, .int .i64 c4, .slice pA n1 pc, .slice tA n2 tc, .slice (some ⟨g, 0, none⟩) n3 d6]) := Lib.hid (by rw [hw9]; exact hbt9.store 6 _)
      have HBR9 := Lib.hid (hbr9.upd us (by simp; omega))
      have HU9 : Hid (Upd [] w w9) := Lib.hid (HU7.out.box' us (by rw [HT.out]; exact Nat.le_refl _))
      have HOWN9 : Hid (w9.ownsRow w1.heap.size 56 5 (.slice (some ⟨g, 0, none⟩) n3 d6) n3 ((s.bs.set j ⟨x0, x1, x2, x3, true⟩).flatMap encB)) := Lib.hid (ownsRow_upd HOWT.out us (fun s hs hg => by rw [List.mem_singleton] at hs; subst hs; exact own_box HOWT.out hbt9 (by decide) hg))
      have HLEN : Hid (((s.bs.set j ⟨x0, x1, x2, x3, true⟩)).length = n3) := Lib.hid (by rw [List.length_set, ← HN.out.2.2])
      have HW9 := Lib.hid hw9
      clear hbt9 hbr9 us hw9
      go_upto_region 19 with fail
      rw [← HW9.out]
      clear m6 f6
      obtain ⟨kx, ux⟩ := blk7 HBR9.out (.int .i64 c1) (.int .i64 c2) (.int .i64 c3) (.int .i64 c4) (.slice pA n1 pc) (.slice tA n2 tc) (.slice (some ⟨g, 0, none⟩) n3 d6)
      obtain ⟨wx, hwx⟩ : ∃ wx, wx = (((((((w9.setCell ⟨T + 1 + 1, 0, none⟩ (.int .i64 c1)).setCell ⟨T + 1 + 1, 1, none⟩ (.int .i64 c2)).setCell ⟨T + 1 + 1, 2, none⟩ (.int .i64 c3)).setCell ⟨T + 1 + 1, 3, none⟩ (.int .i64 c4)).setCell ⟨T + 1 + 1, 4, none⟩ (.slice pA n1 pc)).setCell ⟨T + 1 + 1, 5, none⟩ (.slice tA n2 tc)).setCell ⟨T + 1 + 1, 6, none⟩ (.slice (some ⟨g, 0, none⟩) n3 d6)) := ⟨_, rfl⟩
      rw [← hwx] at kx ux
      have HKX := Lib.hid kx
      have HUX := Lib.hid ux
      have HWX := Lib.hid hwx
      clear kx ux hwx
      have m0 : w9.cell? ⟨T, 0, none⟩ = some (.int .i64 c1) := HBT9.out.cell 0
      have m1 : w9.cell? ⟨T, 1, none⟩ = some (.int .i64 c2) := HBT9.out.cell 1
      have m2 : w9.cell? ⟨T, 2, none⟩ = some (.int .i64 c3) := HBT9.out.cell 2
      have m3 : w9.cell? ⟨T, 3, none⟩ = some (.int .i64 c4) := HBT9.out.cell 3
      have m4 : w9.cell? ⟨T, 4, none⟩ = some (.slice pA n1 pc) := HBT9.out.cell 4
      have m5 : w9.cell? ⟨T, 5, none⟩ = some (.slice tA n2 tc) := HBT9.out.cell 5
      have m6 : w9.cell? ⟨T, 6, none⟩ = some (.slice (some ⟨g, 0, none⟩) n3 d6) := HBT9.out.cell 6
      have n10 := HBR9.out.frozen 0
      have o0 : w9.cell? ⟨T + 1 + 1, 0, none⟩ = some (.int .i64 0) := HBR9.out.cell 0
      have n11 := HBR9.out.frozen 1
      have o1 : w9.cell? ⟨T + 1 + 1, 1, none⟩ = some (.int .i64 0) := HBR9.out.cell 1
      have n12 := HBR9.out.frozen 2
      have o2 : w9.cell? ⟨T + 1 + 1, 2, none⟩ = some (.int .i64 0) := HBR9.out.cell 2
      have n13 := HBR9.out.frozen 3
      have o3 : w9.cell? ⟨T + 1 + 1, 3, none⟩ = some (.int .i64 0) := HBR9.out.cell 3
      have n14 := HBR9.out.frozen 4
      have o4 : w9.cell? ⟨T + 1 + 1, 4, none⟩ = some (.slice none 0 0) := HBR9.out.cell 4
      have n15 := HBR9.out.frozen 5
      have o5 : w9.cell? ⟨T + 1 + 1, 5, none⟩ = some (.slice none 0 0) := HBR9.out.cell 5
      have n16 := HBR9.out.frozen 6
      have o6 : w9.cell? ⟨T + 1 + 1, 6, none⟩ = some (.slice none 0 0) := HBR9.out.cell 6
      go_wp2
      rw [← HWX.out]
      have g0 := HKX.out.cell 0
      have g1 := HKX.out.cell 1
      have g2 := HKX.out.cell 2
      have g3 := HKX.out.cell 3
      have g4 := HKX.out.cell 4
      have g5 := HKX.out.cell 5
      have g6 := HKX.out.cell 6
      simp only [List.getElem?_toArray, List.getElem?_cons_zero, List.getElem?_cons_succ] at g0 g1 g2 g3 g4 g5 g6
      refine bodyPost_res (v := .tuple #[.agg #[.int .i64 c1, .int .i64 c2, .int .i64 c3, .int .i64 c4, .slice pA n1 pc, .slice tA n2 tc, .slice (some ⟨g, 0, none⟩) n3 d6], .int .i64 0]) (by simp [results, Try.results40, go_sem, Addr.add, g0, g1, g2, g3, g4, g5, g6]) rfl ?_
      have HOWN12 := ownsRow_upd HOWN9.out HUX.out (fun s hs hg => by rw [List.mem_singleton] at hs; subst hs; exact own_box HOWN9.out HBR9.out (by decide) hg)
      have HFIN := HU9.out.box HUX.out HT.out
      refine ⟨⟨pA, pc, tx, tA, tc, (some ⟨g, 0, none⟩), d6⟩, ?_, ?_, ?_, HFIN⟩
      · rw [H8.out]
        unfold scells
        dsimp only
        rw [← HC.out, HLEN.out, ← HN.out.1, ← HN.out.2.1]
      · rw [H8.out]
        have k := HS.out.upd HFIN
        refine ⟨k.p, k.t, ?_, k.tx, k.ss⟩
        dsimp only
        rw [HLEN.out]
        exact (RwIn.of_own HOWN12).more (Nat.zero_le _)
      · intro g2 hg _ ha
        rw [H8.out]
        refine ⟨ha.p, ha.t, ?_, ha.ss⟩
        dsimp only
        rw [HLEN.out]
        exact own_av HOWN12 (Nat.lt_of_lt_of_le hg HU1.out.size)
  have hk7 : (kd == 7) = false := beq_eq_false_iff_ne.2 k7
  by_cases k8 : kd = 8
  · subst k8
    have HM : Hid (r = mutesM s q false) := Lib.hid (by rw [HR.out]; unfold changeD; rw [HQQ.out]; rfl)
    go_upto_region 15 with fail
    go_cut [76] (fun v wd => v = .bool (xm == false) ∧ Upd [] w6 wd)
    case first =>
      go_wp2_with fail
      go_quiet (fail)
      go_wp2
      go_meet
      case rel => exact ⟨by cases xm <;> rfl, (Upd.refl [] w6).drewN _⟩
    obtain ⟨rfl, hud⟩ := hcut
    have HBT5 := Lib.hid (HBT6.out.upd hud (by simp))
    have HBR5 := Lib.hid (HBR6.out.upd hud (by simp))
    have HBQ5 := Lib.hid (HBQ6.out.upd hud (by simp))
    have HU5 := Lib.hid (HU6.out.next hud)
    have HOWN5 := Lib.hid (ownsRow_upd HOWN6.out hud (by simp))
    have HU15 := Lib.hid (HU16.out.next hud)
    clear hud y4 hcell hrow q0
    obtain ⟨w5, hw5⟩ : ∃ x : World, x = wc := ⟨_, rfl⟩
    rw [← hw5] at HBT5 HBR5 HBQ5 HU5 HOWN5 HU15 ⊢
    clear hw5
    have q0 : w5.cell? ⟨T + 1, 0, none⟩ = some (.int .i64 8) := HBQ5.out.cell 0
    by_cases kx : xm = false
    · subst kx
      have H1 : Hid (r = (s, 23)) := Lib.hid (by rw [HM.out]; unfold mutesM; rw [HQQ.out, if_neg (by dsimp only; rw [HH.out]; decide), if_pos (by dsimp only; rw [← HXX.out])])
      obtain ⟨kx, ux⟩ := blk7 HBR5.out (.int .i64 c1) (.int .i64 c2) (.int .i64 c3) (.int .i64 c4) (.slice pA n1 pc) (.slice tA n2 tc) (.slice (some ⟨bP, oP, none⟩) n3 bc)
      obtain ⟨wx, hwx⟩ : ∃ wx, wx = (((((((w5.setCell ⟨T + 1 + 1, 0, none⟩ (.int .i64 c1)).setCell ⟨T + 1 + 1, 1, none⟩ (.int .i64 c2)).setCell ⟨T + 1 + 1, 2, none⟩ (.int .i64 c3)).setCell ⟨T + 1 + 1, 3, none⟩ (.int .i64 c4)).setCell ⟨T + 1 + 1, 4, none⟩ (.slice pA n1 pc)).setCell ⟨T + 1 + 1, 5, none⟩ (.slice tA n2 tc)).setCell ⟨T + 1 + 1, 6, none⟩ (.slice (some ⟨bP, oP, none⟩) n3 bc)) := ⟨_, rfl⟩
      rw [← hwx] at kx ux
      have HKX := Lib.hid kx
      have HUX := Lib.hid ux
      have HWX := Lib.hid hwx
      clear kx ux hwx
      have m0 : w5.cell? ⟨T, 0, none⟩ = some (.int .i64 c1) := HBT5.out.cell 0
      have m1 : w5.cell? ⟨T, 1, none⟩ = some (.int .i64 c2) := HBT5.out.cell 1
      have m2 : w5.cell? ⟨T, 2, none⟩ = some (.int .i64 c3) := HBT5.out.cell 2
      have m3 : w5.cell? ⟨T, 3, none⟩ = some (.int .i64 c4) := HBT5.out.cell 3
      have m4 : w5.cell? ⟨T, 4, none⟩ = some (.slice pA n1 pc) := HBT5.out.cell 4
      have m5 : w5.cell? ⟨T, 5, none⟩ = some (.slice tA n2 tc) := HBT5.out.cell 5
      have m6 : w5.cell? ⟨T, 6, none⟩ = some (.slice (some ⟨bP, oP, none⟩) n3 bc) := HBT5.out.cell 6
      have n10 := HBR5.out.frozen 0
      have o0 : w5.cell? ⟨T + 1 + 1, 0, none⟩ = some (.int .i64 0) := HBR5.out.cell 0
      have n11 := HBR5.out.frozen 1
      have o1 : w5.cell? ⟨T + 1 + 1, 1, none⟩ = some (.int .i64 0) := HBR5.out.cell 1
      have n12 := HBR5.out.frozen 2
      have o2 : w5.cell? ⟨T + 1 + 1, 2, none⟩ = some (.int .i64 0) := HBR5.out.cell 2
      have n13 := HBR5.out.frozen 3
      have o3 : w5.cell? ⟨T + 1 + 1, 3, none⟩ = some (.int .i64 0) := HBR5.out.cell 3
      have n14 := HBR5.out.frozen 4
      have o4 : w5.cell? ⟨T + 1 + 1, 4, none⟩ = some (.slice none 0 0) := HBR5.out.cell 4
      have n15 := HBR5.out.frozen 5
      have o5 : w5.cell? ⟨T + 1 + 1, 5, none⟩ = some (.slice none 0 0) := HBR5.out.cell 5
      have n16 := HBR5.out.frozen 6
      have o6 : w5.cell? ⟨T + 1 + 1, 6, none⟩ = some (.slice none 0 0) := HBR5.out.cell 6
      go_wp2
      rw [← HWX.out]
      have g0 := HKX.out.cell 0
      have g1 := HKX.out.cell 1
      have g2 := HKX.out.cell 2
      have g3 := HKX.out.cell 3
      have g4 := HKX.out.cell 4
      have g5 := HKX.out.cell 5
      have g6 := HKX.out.cell 6
      simp only [List.getElem?_toArray, List.getElem?_cons_zero, List.getElem?_cons_succ] at g0 g1 g2 g3 g4 g5 g6
      refine bodyPost_res (v := .tuple #[.agg #[.int .i64 c1, .int .i64 c2, .int .i64 c3, .int .i64 c4, .slice pA n1 pc, .slice tA n2 tc, .slice (some ⟨bP, oP, none⟩) n3 bc], .int .i64 23]) (by simp [results, Try.results40, go_sem, Addr.add, g0, g1, g2, g3, g4, g5, g6]) rfl ?_
      exact ⟨⟨pA, pc, tx, tA, tc, (some ⟨bP, oP, none⟩), bc⟩, by rw [H1.out]; dsimp only; rw [HSC.out, ← HC.out], by rw [H1.out]; exact HS.out.upd (HU5.out.box HUX.out HT.out), by rw [H1.out]; exact fun _ _ _ ha => ha, HU5.out.box HUX.out HT.out⟩
    · have kx : xm = true := by cases xm <;> simp_all
      subst kx
      have H8 : Hid (r = ({ s with bs := s.bs.set j ⟨x0, x1, x2, x3, false⟩ }, 0)) := Lib.hid (by rw [HM.out]; unfold mutesM; rw [HQQ.out, if_neg (by dsimp only; rw [HH.out]; decide), if_neg (by dsimp only; rw [← HXX.out]; simp)]; dsimp only; rw [← HXX.out, ← HJ.out])
      have hrow := HOWN5.out
      have hcell := fun (k : Nat) (u : Value) (hu : (s.bs.flatMap encB)[k]? = some u) => (by
        have := hrow.cells (g := g) rfl k u hu
        by_cases hk : k = 0
        · subst hk; exact this
        · simpa [Addr.add, hk] using this : w5.cell? ⟨g, k, none⟩ = some u)
      have y4 : w5.cell? ⟨g, j * 5 + 4, none⟩ = some (.bool true) := hcell (j * 5 + 4) _ (flat_get encB_len s.bs j 4 _ HX.out (by omega))
      have y4f : w5.frozen? ⟨g, j * 5 + 4, none⟩ = false := by
        have := hrow.frozenAt (j * 5 + 4)
        simpa [Addr.add] using this
      have s1 := (hrow.stored (j * 5 + 4) (.bool false)).1
      rw [flat_set encB_len s.bs j 4 _ (⟨x0, x1, x2, x3, false⟩ : Sb) _ HX.out (by omega) rfl] at s1
      obtain ⟨w7, hw7⟩ : ∃ w7, w7 = w5.setCell ⟨g, j * 5 + 4, none⟩ (.bool false) := ⟨_, rfl⟩
      rw [← hw7] at s1
      have u7 : Upd [g] w5 w7 := by rw [hw7]; exact (Upd.refl [g] w5).setCell (.inl (by simp)) _
      have hu7 : Upd [] w1 w7 := HU15.out.box' u7 HG1.out
      have HBT7 := Lib.hid (HBT1.out.upd hu7 (by simp))
      have HBR7 := Lib.hid (HBR1.out.upd hu7 (by simp))
      have HU7 := Lib.hid (HU1.out.next hu7)
      have HOWT := Lib.hid s1
      have HW7 := Lib.hid hw7
      clear s1 u7 hu7 hw7 hrow hcell
      go_upto_region 18 with fail
      rw [← HW7.out]
      clear y4 y4f q0
      have hbt9 := HBT7.out
      have hbr9 := HBR7.out
      have m6 : w7.cell? ⟨T, 6, none⟩ = some (.slice (some ⟨bP, oP, none⟩) n3 bc) := hbt9.cell 6
      have f6 := hbt9.frozen 6
      obtain ⟨w9, hw9⟩ : ∃ w9, w9 = w7.setCell ⟨T, 6, none⟩ (.slice (some ⟨g, 0, none⟩) n3 d6) := ⟨_, rfl⟩
      have us : Upd [T] w7 w9 := by rw [hw9]; exact (Upd.refl [T] w7).setCell (.inl (by simp)) _
      have HBT9 : Hid (Blk w9 T 37 #[.int .i64 c1, .int .i64 c2, .int .i64 c3, .int .i64 c4, .slice pA n1 pc, .slice tA n2 tc, .slice (some ⟨g, 0, none⟩) n3 d6]) := Lib.hid (by rw [hw9]; exact hbt9.store 6 _)
      have HBR9 := Lib.hid (hbr9.upd us (by simp; omega))
      have HU9 : Hid (Upd [] w w9) := Lib.hid (HU7.out.box' us (by rw [HT.out]; exact Nat.le_refl _))
      have HOWN9 : Hid (w9.ownsRow w1.heap.size 56 5 (.slice (some ⟨g, 0, none⟩) n3 d6) n3 ((s.bs.set j ⟨x0, x1, x2, x3, false⟩).flatMap encB)) := Lib.hid (ownsRow_upd HOWT.out us (fun s hs hg => by rw [List.mem_singleton] at hs; subst hs; exact own_box HOWT.out hbt9 (by decide) hg))
      have HLEN : Hid (((s.bs.set j ⟨x0, x1, x2, x3, false⟩)).length = n3) := Lib.hid (by rw [List.length_set, ← HN.out.2.2])
      have HW9 := Lib.hid hw9
      clear hbt9 hbr9 us hw9
      go_upto_region 19 with fail
      rw [← HW9.out]
      clear m6 f6
      obtain ⟨kx, ux⟩ := blk7 HBR9.out (.int .i64 c1) (.int .i64 c2) (.int .i64 c3) (.int .i64 c4) (.slice pA n1 pc) (.slice tA n2 tc) (.slice (some ⟨g, 0, none⟩) n3 d6)
      obtain ⟨wx, hwx⟩ : ∃ wx, wx = (((((((w9.setCell ⟨T + 1 + 1, 0, none⟩ (.int .i64 c1)).setCell ⟨T + 1 + 1, 1, none⟩ (.int .i64 c2)).setCell ⟨T + 1 + 1, 2, none⟩ (.int .i64 c3)).setCell ⟨T + 1 + 1, 3, none⟩ (.int .i64 c4)).setCell ⟨T + 1 + 1, 4, none⟩ (.slice pA n1 pc)).setCell ⟨T + 1 + 1, 5, none⟩ (.slice tA n2 tc)).setCell ⟨T + 1 + 1, 6, none⟩ (.slice (some ⟨g, 0, none⟩) n3 d6)) := ⟨_, rfl⟩
      rw [← hwx] at kx ux
      have HKX := Lib.hid kx
      have HUX := Lib.hid ux
      have HWX := Lib.hid hwx
      clear kx ux hwx
      have m0 : w9.cell? ⟨T, 0, none⟩ = some (.int .i64 c1) := HBT9.out.cell 0
      have m1 : w9.cell? ⟨T, 1, none⟩ = some (.int .i64 c2) := HBT9.out.cell 1
      have m2 : w9.cell? ⟨T, 2, none⟩ = some (.int .i64 c3) := HBT9.out.cell 2
      have m3 : w9.cell? ⟨T, 3, none⟩ = some (.int .i64 c4) := HBT9.out.cell 3
      have m4 : w9.cell? ⟨T, 4, none⟩ = some (.slice pA n1 pc) := HBT9.out.cell 4
      have m5 : w9.cell? ⟨T, 5, none⟩ = some (.slice tA n2 tc) := HBT9.out.cell 5
      have m6 : w9.cell? ⟨T, 6, none⟩ = some (.slice (some ⟨g, 0, none⟩) n3 d6) := HBT9.out.cell 6
      have n10 := HBR9.out.frozen 0
      have o0 : w9.cell? ⟨T + 1 + 1, 0, none⟩ = some (.int .i64 0) := HBR9.out.cell 0
      have n11 := HBR9.out.frozen 1
      have o1 : w9.cell? ⟨T + 1 + 1, 1, none⟩ = some (.int .i64 0) := HBR9.out.cell 1
      have n12 := HBR9.out.frozen 2
      have o2 : w9.cell? ⟨T + 1 + 1, 2, none⟩ = some (.int .i64 0) := HBR9.out.cell 2
      have n13 := HBR9.out.frozen 3
      have o3 : w9.cell? ⟨T + 1 + 1, 3, none⟩ = some (.int .i64 0) := HBR9.out.cell 3
      have n14 := HBR9.out.frozen 4
      have o4 : w9.cell? ⟨T + 1 + 1, 4, none⟩ = some (.slice none 0 0) := HBR9.out.cell 4
      have n15 := HBR9.out.frozen 5
      have o5 : w9.cell? ⟨T + 1 + 1, 5, none⟩ = some (.slice none 0 0) := HBR9.out.cell 5
      have n16 := HBR9.out.frozen 6
      have o6 : w9.cell? ⟨T + 1 + 1, 6, none⟩ = some (.slice none 0 0) := HBR9.out.cell 6
      go_wp2
      rw [← HWX.out]
      have g0 := HKX.out.cell 0
      have g1 := HKX.out.cell 1
      have g2 := HKX.out.cell 2
      have g3 := HKX.out.cell 3
      have g4 := HKX.out.cell 4
      have g5 := HKX.out.cell 5
      have g6 := HKX.out.cell 6
      simp only [List.getElem?_toArray, List.getElem?_cons_zero, List.getElem?_cons_succ] at g0 g1 g2 g3 g4 g5 g6
      refine bodyPost_res (v := .tuple #[.agg #[.int .i64 c1, .int .i64 c2, .int .i64 c3, .int .i64 c4, .slice pA n1 pc, .slice tA n2 tc, .slice (some ⟨g, 0, none⟩) n3 d6], .int .i64 0]) (by simp [results, Try.results40, go_sem, Addr.add, g0, g1, g2, g3, g4, g5, g6]) rfl ?_
      have HOWN12 := ownsRow_upd HOWN9.out HUX.out (fun s hs hg => by rw [List.mem_singleton] at hs; subst hs; exact own_box HOWN9.out HBR9.out (by decide) hg)
      have HFIN := HU9.out.box HUX.out HT.out
      refine ⟨⟨pA, pc, tx, tA, tc, (some ⟨g, 0, none⟩), d6⟩, ?_, ?_, ?_, HFIN⟩
      · rw [H8.out]
        unfold scells
        dsimp only
        rw [← HC.out, HLEN.out, ← HN.out.1, ← HN.out.2.1]
      · rw [H8.out]
        have k := HS.out.upd HFIN
        refine ⟨k.p, k.t, ?_, k.tx, k.ss⟩
        dsimp only
        rw [HLEN.out]
        exact (RwIn.of_own HOWN12).more (Nat.zero_le _)
      · intro g2 hg _ ha
        rw [H8.out]
        refine ⟨ha.p, ha.t, ?_, ha.ss⟩
        dsimp only
        rw [HLEN.out]
        exact own_av HOWN12 (Nat.lt_of_lt_of_le hg HU1.out.size)
  have hk8 : (kd == 8) = false := beq_eq_false_iff_ne.2 k8
  have HM : Hid (r = selectsM s q) := Lib.hid (by rw [HR.out]; unfold changeD; rw [if_neg (by rw [HQQ.out]; exact k6), if_neg (by rw [HQQ.out]; exact k7), if_neg (by rw [HQQ.out]; exact k8)])
  clear k6 k7 k8 y4 hcell hrow
  have q6 : w6.cell? ⟨T + 1, 6, none⟩ = some (.int .i64 layer) := HBQ6.out.cell 6
  have q7 : w6.cell? ⟨T + 1, 7, none⟩ = some (.int .i64 tid) := HBQ6.out.cell 7
  by_cases l0 : layer < 0
  · have H1 : Hid (r = (s, 1)) := Lib.hid (by rw [HM.out]; unfold selectsM; rw [HQQ.out, if_neg (by dsimp only; rw [HH.out]; decide), if_pos (by unfold layersM; dsimp only; simp; omega)])
    obtain ⟨kx, ux⟩ := blk7 HBR6.out (.int .i64 c1) (.int .i64 c2) (.int .i64 c3) (.int .i64 c4) (.slice pA n1 pc) (.slice tA n2 tc) (.slice (some ⟨bP, oP, none⟩) n3 bc)
    obtain ⟨wx, hwx⟩ : ∃ wx, wx = (((((((w6.setCell ⟨T + 1 + 1, 0, none⟩ (.int .i64 c1)).setCell ⟨T + 1 + 1, 1, none⟩ (.int .i64 c2)).setCell ⟨T + 1 + 1, 2, none⟩ (.int .i64 c3)).setCell ⟨T + 1 + 1, 3, none⟩ (.int .i64 c4)).setCell ⟨T + 1 + 1, 4, none⟩ (.slice pA n1 pc)).setCell ⟨T + 1 + 1, 5, none⟩ (.slice tA n2 tc)).setCell ⟨T + 1 + 1, 6, none⟩ (.slice (some ⟨bP, oP, none⟩) n3 bc)) := ⟨_, rfl⟩
    rw [← hwx] at kx ux
    have HKX := Lib.hid kx
    have HUX := Lib.hid ux
    have HWX := Lib.hid hwx
    clear kx ux hwx
    have m0 : w6.cell? ⟨T, 0, none⟩ = some (.int .i64 c1) := HBT6.out.cell 0
    have m1 : w6.cell? ⟨T, 1, none⟩ = some (.int .i64 c2) := HBT6.out.cell 1
    have m2 : w6.cell? ⟨T, 2, none⟩ = some (.int .i64 c3) := HBT6.out.cell 2
    have m3 : w6.cell? ⟨T, 3, none⟩ = some (.int .i64 c4) := HBT6.out.cell 3
    have m4 : w6.cell? ⟨T, 4, none⟩ = some (.slice pA n1 pc) := HBT6.out.cell 4
    have m5 : w6.cell? ⟨T, 5, none⟩ = some (.slice tA n2 tc) := HBT6.out.cell 5
    have m6 : w6.cell? ⟨T, 6, none⟩ = some (.slice (some ⟨bP, oP, none⟩) n3 bc) := HBT6.out.cell 6
    have n10 := HBR6.out.frozen 0
    have o0 : w6.cell? ⟨T + 1 + 1, 0, none⟩ = some (.int .i64 0) := HBR6.out.cell 0
    have n11 := HBR6.out.frozen 1
    have o1 : w6.cell? ⟨T + 1 + 1, 1, none⟩ = some (.int .i64 0) := HBR6.out.cell 1
    have n12 := HBR6.out.frozen 2
    have o2 : w6.cell? ⟨T + 1 + 1, 2, none⟩ = some (.int .i64 0) := HBR6.out.cell 2
    have n13 := HBR6.out.frozen 3
    have o3 : w6.cell? ⟨T + 1 + 1, 3, none⟩ = some (.int .i64 0) := HBR6.out.cell 3
    have n14 := HBR6.out.frozen 4
    have o4 : w6.cell? ⟨T + 1 + 1, 4, none⟩ = some (.slice none 0 0) := HBR6.out.cell 4
    have n15 := HBR6.out.frozen 5
    have o5 : w6.cell? ⟨T + 1 + 1, 5, none⟩ = some (.slice none 0 0) := HBR6.out.cell 5
    have n16 := HBR6.out.frozen 6
    have o6 : w6.cell? ⟨T + 1 + 1, 6, none⟩ = some (.slice none 0 0) := HBR6.out.cell 6
    go_wp2
    rw [← HWX.out]
    have g0 := HKX.out.cell 0
    have g1 := HKX.out.cell 1
    have g2 := HKX.out.cell 2
    have g3 := HKX.out.cell 3
    have g4 := HKX.out.cell 4
    have g5 := HKX.out.cell 5
    have g6 := HKX.out.cell 6
    simp only [List.getElem?_toArray, List.getElem?_cons_zero, List.getElem?_cons_succ] at g0 g1 g2 g3 g4 g5 g6
    refine bodyPost_res (v := .tuple #[.agg #[.int .i64 c1, .int .i64 c2, .int .i64 c3, .int .i64 c4, .slice pA n1 pc, .slice tA n2 tc, .slice (some ⟨bP, oP, none⟩) n3 bc], .int .i64 1]) (by simp [results, Try.results40, go_sem, Addr.add, g0, g1, g2, g3, g4, g5, g6]) rfl ?_
    exact ⟨⟨pA, pc, tx, tA, tc, (some ⟨bP, oP, none⟩), bc⟩, by rw [H1.out]; dsimp only; rw [HSC.out, ← HC.out], by rw [H1.out]; exact HS.out.upd (HU6.out.box HUX.out HT.out), by rw [H1.out]; exact fun _ _ _ ha => ha, HU6.out.box HUX.out HT.out⟩
  by_cases l1 : 2 < layer
  · have H1 : Hid (r = (s, 1)) := Lib.hid (by rw [HM.out]; unfold selectsM; rw [HQQ.out, if_neg (by dsimp only; rw [HH.out]; decide), if_pos (by unfold layersM; dsimp only; simp; omega)])
    obtain ⟨kx, ux⟩ := blk7 HBR6.out (.int .i64 c1) (.int .i64 c2) (.int .i64 c3) (.int .i64 c4) (.slice pA n1 pc) (.slice tA n2 tc) (.slice (some ⟨bP, oP, none⟩) n3 bc)
    obtain ⟨wx, hwx⟩ : ∃ wx, wx = (((((((w6.setCell ⟨T + 1 + 1, 0, none⟩ (.int .i64 c1)).setCell ⟨T + 1 + 1, 1, none⟩ (.int .i64 c2)).setCell ⟨T + 1 + 1, 2, none⟩ (.int .i64 c3)).setCell ⟨T + 1 + 1, 3, none⟩ (.int .i64 c4)).setCell ⟨T + 1 + 1, 4, none⟩ (.slice pA n1 pc)).setCell ⟨T + 1 + 1, 5, none⟩ (.slice tA n2 tc)).setCell ⟨T + 1 + 1, 6, none⟩ (.slice (some ⟨bP, oP, none⟩) n3 bc)) := ⟨_, rfl⟩
    rw [← hwx] at kx ux
    have HKX := Lib.hid kx
    have HUX := Lib.hid ux
    have HWX := Lib.hid hwx
    clear kx ux hwx
    have m0 : w6.cell? ⟨T, 0, none⟩ = some (.int .i64 c1) := HBT6.out.cell 0
    have m1 : w6.cell? ⟨T, 1, none⟩ = some (.int .i64 c2) := HBT6.out.cell 1
    have m2 : w6.cell? ⟨T, 2, none⟩ = some (.int .i64 c3) := HBT6.out.cell 2
    have m3 : w6.cell? ⟨T, 3, none⟩ = some (.int .i64 c4) := HBT6.out.cell 3
    have m4 : w6.cell? ⟨T, 4, none⟩ = some (.slice pA n1 pc) := HBT6.out.cell 4
    have m5 : w6.cell? ⟨T, 5, none⟩ = some (.slice tA n2 tc) := HBT6.out.cell 5
    have m6 : w6.cell? ⟨T, 6, none⟩ = some (.slice (some ⟨bP, oP, none⟩) n3 bc) := HBT6.out.cell 6
    have n10 := HBR6.out.frozen 0
    have o0 : w6.cell? ⟨T + 1 + 1, 0, none⟩ = some (.int .i64 0) := HBR6.out.cell 0
    have n11 := HBR6.out.frozen 1
    have o1 : w6.cell? ⟨T + 1 + 1, 1, none⟩ = some (.int .i64 0) := HBR6.out.cell 1
    have n12 := HBR6.out.frozen 2
    have o2 : w6.cell? ⟨T + 1 + 1, 2, none⟩ = some (.int .i64 0) := HBR6.out.cell 2
    have n13 := HBR6.out.frozen 3
    have o3 : w6.cell? ⟨T + 1 + 1, 3, none⟩ = some (.int .i64 0) := HBR6.out.cell 3
    have n14 := HBR6.out.frozen 4
    have o4 : w6.cell? ⟨T + 1 + 1, 4, none⟩ = some (.slice none 0 0) := HBR6.out.cell 4
    have n15 := HBR6.out.frozen 5
    have o5 : w6.cell? ⟨T + 1 + 1, 5, none⟩ = some (.slice none 0 0) := HBR6.out.cell 5
    have n16 := HBR6.out.frozen 6
    have o6 : w6.cell? ⟨T + 1 + 1, 6, none⟩ = some (.slice none 0 0) := HBR6.out.cell 6
    go_wp2
    rw [← HWX.out]
    have g0 := HKX.out.cell 0
    have g1 := HKX.out.cell 1
    have g2 := HKX.out.cell 2
    have g3 := HKX.out.cell 3
    have g4 := HKX.out.cell 4
    have g5 := HKX.out.cell 5
    have g6 := HKX.out.cell 6
    simp only [List.getElem?_toArray, List.getElem?_cons_zero, List.getElem?_cons_succ] at g0 g1 g2 g3 g4 g5 g6
    refine bodyPost_res (v := .tuple #[.agg #[.int .i64 c1, .int .i64 c2, .int .i64 c3, .int .i64 c4, .slice pA n1 pc, .slice tA n2 tc, .slice (some ⟨bP, oP, none⟩) n3 bc], .int .i64 1]) (by simp [results, Try.results40, go_sem, Addr.add, g0, g1, g2, g3, g4, g5, g6]) rfl ?_
    exact ⟨⟨pA, pc, tx, tA, tc, (some ⟨bP, oP, none⟩), bc⟩, by rw [H1.out]; dsimp only; rw [HSC.out, ← HC.out], by rw [H1.out]; exact HS.out.upd (HU6.out.box HUX.out HT.out), by rw [H1.out]; exact fun _ _ _ ha => ha, HU6.out.box HUX.out HT.out⟩
  by_cases l2 : tid < 0
  · have H1 : Hid (r = (s, 1)) := Lib.hid (by rw [HM.out]; unfold selectsM; rw [HQQ.out, if_neg (by dsimp only; rw [HH.out]; decide), if_pos (by unfold layersM; dsimp only; simp; omega)])
    obtain ⟨kx, ux⟩ := blk7 HBR6.out (.int .i64 c1) (.int .i64 c2) (.int .i64 c3) (.int .i64 c4) (.slice pA n1 pc) (.slice tA n2 tc) (.slice (some ⟨bP, oP, none⟩) n3 bc)
    obtain ⟨wx, hwx⟩ : ∃ wx, wx = (((((((w6.setCell ⟨T + 1 + 1, 0, none⟩ (.int .i64 c1)).setCell ⟨T + 1 + 1, 1, none⟩ (.int .i64 c2)).setCell ⟨T + 1 + 1, 2, none⟩ (.int .i64 c3)).setCell ⟨T + 1 + 1, 3, none⟩ (.int .i64 c4)).setCell ⟨T + 1 + 1, 4, none⟩ (.slice pA n1 pc)).setCell ⟨T + 1 + 1, 5, none⟩ (.slice tA n2 tc)).setCell ⟨T + 1 + 1, 6, none⟩ (.slice (some ⟨bP, oP, none⟩) n3 bc)) := ⟨_, rfl⟩
    rw [← hwx] at kx ux
    have HKX := Lib.hid kx
    have HUX := Lib.hid ux
    have HWX := Lib.hid hwx
    clear kx ux hwx
    have m0 : w6.cell? ⟨T, 0, none⟩ = some (.int .i64 c1) := HBT6.out.cell 0
    have m1 : w6.cell? ⟨T, 1, none⟩ = some (.int .i64 c2) := HBT6.out.cell 1
    have m2 : w6.cell? ⟨T, 2, none⟩ = some (.int .i64 c3) := HBT6.out.cell 2
    have m3 : w6.cell? ⟨T, 3, none⟩ = some (.int .i64 c4) := HBT6.out.cell 3
    have m4 : w6.cell? ⟨T, 4, none⟩ = some (.slice pA n1 pc) := HBT6.out.cell 4
    have m5 : w6.cell? ⟨T, 5, none⟩ = some (.slice tA n2 tc) := HBT6.out.cell 5
    have m6 : w6.cell? ⟨T, 6, none⟩ = some (.slice (some ⟨bP, oP, none⟩) n3 bc) := HBT6.out.cell 6
    have n10 := HBR6.out.frozen 0
    have o0 : w6.cell? ⟨T + 1 + 1, 0, none⟩ = some (.int .i64 0) := HBR6.out.cell 0
    have n11 := HBR6.out.frozen 1
    have o1 : w6.cell? ⟨T + 1 + 1, 1, none⟩ = some (.int .i64 0) := HBR6.out.cell 1
    have n12 := HBR6.out.frozen 2
    have o2 : w6.cell? ⟨T + 1 + 1, 2, none⟩ = some (.int .i64 0) := HBR6.out.cell 2
    have n13 := HBR6.out.frozen 3
    have o3 : w6.cell? ⟨T + 1 + 1, 3, none⟩ = some (.int .i64 0) := HBR6.out.cell 3
    have n14 := HBR6.out.frozen 4
    have o4 : w6.cell? ⟨T + 1 + 1, 4, none⟩ = some (.slice none 0 0) := HBR6.out.cell 4
    have n15 := HBR6.out.frozen 5
    have o5 : w6.cell? ⟨T + 1 + 1, 5, none⟩ = some (.slice none 0 0) := HBR6.out.cell 5
    have n16 := HBR6.out.frozen 6
    have o6 : w6.cell? ⟨T + 1 + 1, 6, none⟩ = some (.slice none 0 0) := HBR6.out.cell 6
    go_wp2
    rw [← HWX.out]
    have g0 := HKX.out.cell 0
    have g1 := HKX.out.cell 1
    have g2 := HKX.out.cell 2
    have g3 := HKX.out.cell 3
    have g4 := HKX.out.cell 4
    have g5 := HKX.out.cell 5
    have g6 := HKX.out.cell 6
    simp only [List.getElem?_toArray, List.getElem?_cons_zero, List.getElem?_cons_succ] at g0 g1 g2 g3 g4 g5 g6
    refine bodyPost_res (v := .tuple #[.agg #[.int .i64 c1, .int .i64 c2, .int .i64 c3, .int .i64 c4, .slice pA n1 pc, .slice tA n2 tc, .slice (some ⟨bP, oP, none⟩) n3 bc], .int .i64 1]) (by simp [results, Try.results40, go_sem, Addr.add, g0, g1, g2, g3, g4, g5, g6]) rfl ?_
    exact ⟨⟨pA, pc, tx, tA, tc, (some ⟨bP, oP, none⟩), bc⟩, by rw [H1.out]; dsimp only; rw [HSC.out, ← HC.out], by rw [H1.out]; exact HS.out.upd (HU6.out.box HUX.out HT.out), by rw [H1.out]; exact fun _ _ _ ha => ha, HU6.out.box HUX.out HT.out⟩
  by_cases l3 : 3 < tid
  · have H1 : Hid (r = (s, 1)) := Lib.hid (by rw [HM.out]; unfold selectsM; rw [HQQ.out, if_neg (by dsimp only; rw [HH.out]; decide), if_pos (by unfold layersM; dsimp only; simp; omega)])
    obtain ⟨kx, ux⟩ := blk7 HBR6.out (.int .i64 c1) (.int .i64 c2) (.int .i64 c3) (.int .i64 c4) (.slice pA n1 pc) (.slice tA n2 tc) (.slice (some ⟨bP, oP, none⟩) n3 bc)
    obtain ⟨wx, hwx⟩ : ∃ wx, wx = (((((((w6.setCell ⟨T + 1 + 1, 0, none⟩ (.int .i64 c1)).setCell ⟨T + 1 + 1, 1, none⟩ (.int .i64 c2)).setCell ⟨T + 1 + 1, 2, none⟩ (.int .i64 c3)).setCell ⟨T + 1 + 1, 3, none⟩ (.int .i64 c4)).setCell ⟨T + 1 + 1, 4, none⟩ (.slice pA n1 pc)).setCell ⟨T + 1 + 1, 5, none⟩ (.slice tA n2 tc)).setCell ⟨T + 1 + 1, 6, none⟩ (.slice (some ⟨bP, oP, none⟩) n3 bc)) := ⟨_, rfl⟩
    rw [← hwx] at kx ux
    have HKX := Lib.hid kx
    have HUX := Lib.hid ux
    have HWX := Lib.hid hwx
    clear kx ux hwx
    have m0 : w6.cell? ⟨T, 0, none⟩ = some (.int .i64 c1) := HBT6.out.cell 0
    have m1 : w6.cell? ⟨T, 1, none⟩ = some (.int .i64 c2) := HBT6.out.cell 1
    have m2 : w6.cell? ⟨T, 2, none⟩ = some (.int .i64 c3) := HBT6.out.cell 2
    have m3 : w6.cell? ⟨T, 3, none⟩ = some (.int .i64 c4) := HBT6.out.cell 3
    have m4 : w6.cell? ⟨T, 4, none⟩ = some (.slice pA n1 pc) := HBT6.out.cell 4
    have m5 : w6.cell? ⟨T, 5, none⟩ = some (.slice tA n2 tc) := HBT6.out.cell 5
    have m6 : w6.cell? ⟨T, 6, none⟩ = some (.slice (some ⟨bP, oP, none⟩) n3 bc) := HBT6.out.cell 6
    have n10 := HBR6.out.frozen 0
    have o0 : w6.cell? ⟨T + 1 + 1, 0, none⟩ = some (.int .i64 0) := HBR6.out.cell 0
    have n11 := HBR6.out.frozen 1
    have o1 : w6.cell? ⟨T + 1 + 1, 1, none⟩ = some (.int .i64 0) := HBR6.out.cell 1
    have n12 := HBR6.out.frozen 2
    have o2 : w6.cell? ⟨T + 1 + 1, 2, none⟩ = some (.int .i64 0) := HBR6.out.cell 2
    have n13 := HBR6.out.frozen 3
    have o3 : w6.cell? ⟨T + 1 + 1, 3, none⟩ = some (.int .i64 0) := HBR6.out.cell 3
    have n14 := HBR6.out.frozen 4
    have o4 : w6.cell? ⟨T + 1 + 1, 4, none⟩ = some (.slice none 0 0) := HBR6.out.cell 4
    have n15 := HBR6.out.frozen 5
    have o5 : w6.cell? ⟨T + 1 + 1, 5, none⟩ = some (.slice none 0 0) := HBR6.out.cell 5
    have n16 := HBR6.out.frozen 6
    have o6 : w6.cell? ⟨T + 1 + 1, 6, none⟩ = some (.slice none 0 0) := HBR6.out.cell 6
    go_wp2
    rw [← HWX.out]
    have g0 := HKX.out.cell 0
    have g1 := HKX.out.cell 1
    have g2 := HKX.out.cell 2
    have g3 := HKX.out.cell 3
    have g4 := HKX.out.cell 4
    have g5 := HKX.out.cell 5
    have g6 := HKX.out.cell 6
    simp only [List.getElem?_toArray, List.getElem?_cons_zero, List.getElem?_cons_succ] at g0 g1 g2 g3 g4 g5 g6
    refine bodyPost_res (v := .tuple #[.agg #[.int .i64 c1, .int .i64 c2, .int .i64 c3, .int .i64 c4, .slice pA n1 pc, .slice tA n2 tc, .slice (some ⟨bP, oP, none⟩) n3 bc], .int .i64 1]) (by simp [results, Try.results40, go_sem, Addr.add, g0, g1, g2, g3, g4, g5, g6]) rfl ?_
    exact ⟨⟨pA, pc, tx, tA, tc, (some ⟨bP, oP, none⟩), bc⟩, by rw [H1.out]; dsimp only; rw [HSC.out, ← HC.out], by rw [H1.out]; exact HS.out.upd (HU6.out.box HUX.out HT.out), by rw [H1.out]; exact fun _ _ _ ha => ha, HU6.out.box HUX.out HT.out⟩
  have H8 : Hid (r = ({ s with bs := s.bs.set j ⟨x0, x1, layer, tid, xm⟩ }, 0)) := Lib.hid (by rw [HM.out]; unfold selectsM; rw [HQQ.out, if_neg (by dsimp only; rw [HH.out]; decide), if_neg (by unfold layersM; dsimp only; simp; omega)]; dsimp only; rw [← HXX.out, ← HJ.out])
  have hrow := HOWN6.out
  have hcell := fun (k : Nat) (u : Value) (hu : (s.bs.flatMap encB)[k]? = some u) => (by
    have := hrow.cells (g := g) rfl k u hu
    by_cases hk : k = 0
    · subst hk; exact this
    · simpa [Addr.add, hk] using this : w6.cell? ⟨g, k, none⟩ = some u)
  have y2 : w6.cell? ⟨g, j * 5 + 2, none⟩ = some (.int .i64 x2) := hcell (j * 5 + 2) _ (flat_get encB_len s.bs j 2 _ HX.out (by omega))
  have y2f : w6.frozen? ⟨g, j * 5 + 2, none⟩ = false := by
    have := hrow.frozenAt (j * 5 + 2)
    simpa [Addr.add] using this
  have s1 := (hrow.stored (j * 5 + 2) (.int .i64 layer)).1
  rw [flat_set encB_len s.bs j 2 _ (⟨x0, x1, layer, x3, xm⟩ : Sb) _ HX.out (by omega) rfl] at s1
  have hyl : j < s.bs.length := (List.getElem?_eq_some_iff.1 HX.out).1
  obtain ⟨w7, hw7⟩ : ∃ w7, w7 = w6.setCell ⟨g, j * 5 + 2, none⟩ (.int .i64 layer) := ⟨_, rfl⟩
  rw [← hw7] at s1
  have y3 : w7.cell? ⟨g, j * 5 + 3, none⟩ = some (.int .i64 x3) := by
    have := s1.cells (g := g) rfl (j * 5 + 3) _ (flat_get encB_len _ j 3 _ (List.getElem?_set_self hyl) (by omega))
    simpa [Addr.add] using this
  have y3f : w7.frozen? ⟨g, j * 5 + 3, none⟩ = false := by
    have := s1.frozenAt (j * 5 + 3)
    simpa [Addr.add] using this
  have s2 := (s1.stored (j * 5 + 3) (.int .i64 tid)).1
  rw [flat_set encB_len _ j 3 (⟨x0, x1, layer, x3, xm⟩ : Sb) (⟨x0, x1, layer, tid, xm⟩ : Sb) _ (by rw [List.getElem?_set_self hyl]) (by omega) rfl, List.set_set] at s2
  obtain ⟨w8, hw8⟩ : ∃ w8, w8 = w7.setCell ⟨g, j * 5 + 3, none⟩ (.int .i64 tid) := ⟨_, rfl⟩
  rw [← hw8] at s2
  have u7 : Upd [g] w6 w7 := by rw [hw7]; exact (Upd.refl [g] w6).setCell (.inl (by simp)) _
  have u8 : Upd [g] w6 w8 := by rw [hw8]; exact u7.setCell (.inl (by simp)) _
  have hu7 : Upd [] w1 w7 := HU16.out.box' u7 HG1.out
  have hu8 : Upd [] w1 w8 := HU16.out.box' u8 HG1.out
  have HBQ7 := Lib.hid (HBQ1.out.upd hu7 (by simp))
  have HBT8 := Lib.hid (HBT1.out.upd hu8 (by simp))
  have HBR8 := Lib.hid (HBR1.out.upd hu8 (by simp))
  have HU8 := Lib.hid (HU1.out.next hu8)
  have HOWT := Lib.hid s2
  have HW7 := Lib.hid hw7
  have HW8 := Lib.hid hw8
  clear s1 s2 u7 u8 hu7 hu8 hw7 hw8 hrow hcell hyl
  go_upto_region 10 with fail
  rw [← HW7.out]
  clear y2 y2f q0 q6 q7
  have q7 : w7.cell? ⟨T + 1, 7, none⟩ = some (.int .i64 tid) := HBQ7.out.cell 7
  go_upto_region 18 with fail
  rw [← HW8.out]
  clear y3 y3f q7
  have hbt9 := HBT8.out
  have hbr9 := HBR8.out
  have m6 : w8.cell? ⟨T, 6, none⟩ = some (.slice (some ⟨bP, oP, none⟩) n3 bc) := hbt9.cell 6
  have f6 := hbt9.frozen 6
  obtain ⟨w9, hw9⟩ : ∃ w9, w9 = w8.setCell ⟨T, 6, none⟩ (.slice (some ⟨g, 0, none⟩) n3 d6) := ⟨_, rfl⟩
  have us : Upd [T] w8 w9 := by rw [hw9]; exact (Upd.refl [T] w8).setCell (.inl (by simp)) _
  have HBT9 : Hid (Blk w9 T 37 #[.int .i64 c1, .int .i64 c2, .int .i64 c3, .int .i64 c4, .slice pA n1 pc, .slice tA n2 tc, .slice (some ⟨g, 0, none⟩) n3 d6]) := Lib.hid (by rw [hw9]; exact hbt9.store 6 _)
  have HBR9 := Lib.hid (hbr9.upd us (by simp; omega))
  have HU9 : Hid (Upd [] w w9) := Lib.hid (HU8.out.box' us (by rw [HT.out]; exact Nat.le_refl _))
  have HOWN9 : Hid (w9.ownsRow w1.heap.size 56 5 (.slice (some ⟨g, 0, none⟩) n3 d6) n3 ((s.bs.set j ⟨x0, x1, layer, tid, xm⟩).flatMap encB)) := Lib.hid (ownsRow_upd HOWT.out us (fun s hs hg => by rw [List.mem_singleton] at hs; subst hs; exact own_box HOWT.out hbt9 (by decide) hg))
  have HLEN : Hid (((s.bs.set j ⟨x0, x1, layer, tid, xm⟩)).length = n3) := Lib.hid (by rw [List.length_set, ← HN.out.2.2])
  have HW9 := Lib.hid hw9
  clear hbt9 hbr9 us hw9
  go_upto_region 19 with fail
  rw [← HW9.out]
  clear m6 f6
  obtain ⟨kx, ux⟩ := blk7 HBR9.out (.int .i64 c1) (.int .i64 c2) (.int .i64 c3) (.int .i64 c4) (.slice pA n1 pc) (.slice tA n2 tc) (.slice (some ⟨g, 0, none⟩) n3 d6)
  obtain ⟨wx, hwx⟩ : ∃ wx, wx = (((((((w9.setCell ⟨T + 1 + 1, 0, none⟩ (.int .i64 c1)).setCell ⟨T + 1 + 1, 1, none⟩ (.int .i64 c2)).setCell ⟨T + 1 + 1, 2, none⟩ (.int .i64 c3)).setCell ⟨T + 1 + 1, 3, none⟩ (.int .i64 c4)).setCell ⟨T + 1 + 1, 4, none⟩ (.slice pA n1 pc)).setCell ⟨T + 1 + 1, 5, none⟩ (.slice tA n2 tc)).setCell ⟨T + 1 + 1, 6, none⟩ (.slice (some ⟨g, 0, none⟩) n3 d6)) := ⟨_, rfl⟩
  rw [← hwx] at kx ux
  have HKX := Lib.hid kx
  have HUX := Lib.hid ux
  have HWX := Lib.hid hwx
  clear kx ux hwx
  have m0 : w9.cell? ⟨T, 0, none⟩ = some (.int .i64 c1) := HBT9.out.cell 0
  have m1 : w9.cell? ⟨T, 1, none⟩ = some (.int .i64 c2) := HBT9.out.cell 1
  have m2 : w9.cell? ⟨T, 2, none⟩ = some (.int .i64 c3) := HBT9.out.cell 2
  have m3 : w9.cell? ⟨T, 3, none⟩ = some (.int .i64 c4) := HBT9.out.cell 3
  have m4 : w9.cell? ⟨T, 4, none⟩ = some (.slice pA n1 pc) := HBT9.out.cell 4
  have m5 : w9.cell? ⟨T, 5, none⟩ = some (.slice tA n2 tc) := HBT9.out.cell 5
  have m6 : w9.cell? ⟨T, 6, none⟩ = some (.slice (some ⟨g, 0, none⟩) n3 d6) := HBT9.out.cell 6
  have n10 := HBR9.out.frozen 0
  have o0 : w9.cell? ⟨T + 1 + 1, 0, none⟩ = some (.int .i64 0) := HBR9.out.cell 0
  have n11 := HBR9.out.frozen 1
  have o1 : w9.cell? ⟨T + 1 + 1, 1, none⟩ = some (.int .i64 0) := HBR9.out.cell 1
  have n12 := HBR9.out.frozen 2
  have o2 : w9.cell? ⟨T + 1 + 1, 2, none⟩ = some (.int .i64 0) := HBR9.out.cell 2
  have n13 := HBR9.out.frozen 3
  have o3 : w9.cell? ⟨T + 1 + 1, 3, none⟩ = some (.int .i64 0) := HBR9.out.cell 3
  have n14 := HBR9.out.frozen 4
  have o4 : w9.cell? ⟨T + 1 + 1, 4, none⟩ = some (.slice none 0 0) := HBR9.out.cell 4
  have n15 := HBR9.out.frozen 5
  have o5 : w9.cell? ⟨T + 1 + 1, 5, none⟩ = some (.slice none 0 0) := HBR9.out.cell 5
  have n16 := HBR9.out.frozen 6
  have o6 : w9.cell? ⟨T + 1 + 1, 6, none⟩ = some (.slice none 0 0) := HBR9.out.cell 6
  go_wp2
  rw [← HWX.out]
  have g0 := HKX.out.cell 0
  have g1 := HKX.out.cell 1
  have g2 := HKX.out.cell 2
  have g3 := HKX.out.cell 3
  have g4 := HKX.out.cell 4
  have g5 := HKX.out.cell 5
  have g6 := HKX.out.cell 6
  simp only [List.getElem?_toArray, List.getElem?_cons_zero, List.getElem?_cons_succ] at g0 g1 g2 g3 g4 g5 g6
  refine bodyPost_res (v := .tuple #[.agg #[.int .i64 c1, .int .i64 c2, .int .i64 c3, .int .i64 c4, .slice pA n1 pc, .slice tA n2 tc, .slice (some ⟨g, 0, none⟩) n3 d6], .int .i64 0]) (by simp [results, Try.results40, go_sem, Addr.add, g0, g1, g2, g3, g4, g5, g6]) rfl ?_
  have HOWN12 := ownsRow_upd HOWN9.out HUX.out (fun s hs hg => by rw [List.mem_singleton] at hs; subst hs; exact own_box HOWN9.out HBR9.out (by decide) hg)
  have HFIN := HU9.out.box HUX.out HT.out
  refine ⟨⟨pA, pc, tx, tA, tc, (some ⟨g, 0, none⟩), d6⟩, ?_, ?_, ?_, HFIN⟩
  · rw [H8.out]
    unfold scells
    dsimp only
    rw [← HC.out, HLEN.out, ← HN.out.1, ← HN.out.2.1]
  · rw [H8.out]
    have k := HS.out.upd HFIN
    refine ⟨k.p, k.t, ?_, k.tx, k.ss⟩
    dsimp only
    rw [HLEN.out]
    exact (RwIn.of_own HOWN12).more (Nat.zero_le _)
  · intro g2 hg _ ha
    rw [H8.out]
    refine ⟨ha.p, ha.t, ?_, ha.ss⟩
    dsimp only
    rw [HLEN.out]
    exact own_av HOWN12 (Nat.lt_of_lt_of_le hg HU1.out.size)
end Go.Proofs.Ytjcbaelefacolaa
