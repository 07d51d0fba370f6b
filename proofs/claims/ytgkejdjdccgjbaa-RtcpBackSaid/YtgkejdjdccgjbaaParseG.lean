/- rtcp's Parse, whole: what it answers is parseM's answer. Conditions: bytes, no more than 100000. (Written by wip/gen/rtcpparseg.py.) -/
import Derived.Test.YtgkejdjdccgjbaaParseS
namespace Go.Proofs.Ytgkejdjdccgjbaa
open Go Go.RowKit
set_option maxHeartbeats 400000

set_option maxRecDepth 100000 in
set_option maxHeartbeats 3000000 in
theorem parse_any {w : World} {lo : Nat} {r : Rw} (h : RowIn w lo .u8 r) (hl : r.xs.length ≤ 100000) (hb : Byt r.xs) :
    Calls Try.prog 14 #[encR r] w fun e w' => ∃ (v : Value) (out : List (Mg × Hd)), e = .returned (.tuple #[v, .int .i64 (parseM r.xs).2]) ∧ out.map (·.1) = (parseM r.xs).1 ∧ w'.ownsRow w.heap.size 59 12 v out.length (out.flatMap encM) ∧
      (∀ x, x ∈ out → MgIn w' w.heap.size x.1 x.2) ∧ Upd [] w w' := by
  obtain ⟨j0, hj0, hy0, hy1, hy2⟩ := info_parts infoM
  have HN := Lib.hid (cut_new h hl)
  unfold encR at HN ⊢
  obtain ⟨L, hL⟩ : ∃ L, L = r.xs.length := ⟨_, rfl⟩
  have HLL := Lib.hid hL
  rw [← hL] at HN hl ⊢
  have HBY := Lib.hid hb
  obtain ⟨R, hR⟩ : ∃ R, R = parseM r.xs := ⟨_, rfl⟩
  rw [← hR]
  have HRR := Lib.hid hR
  clear h hb hL hR
  by_cases hbig : (1500 : Int) < (L : Int)
  · have hRe : R = ([], 13) := by rw [HRR.out]; unfold parseM; rw [if_pos (by rw [← HLL.out]; omega)]
    have HRE := Lib.hid hRe
    clear hRe HN
    go_enter Try.func14, Try.ntmps14
    go_wp2
    exact bodyPost_res (v := .tuple #[.slice none 0 0, .int .i64 13]) (by simp [results, Try.results14, go_sem]) rfl ⟨_, [], by rw [HRE.out], by rw [HRE.out]; rfl, World.ownsRow_nil _ _ _ _, by simp, Upd.refl _ _⟩
  have HR0 : Hid (R = parseA (L + 1) [] r.xs) := by
    rw [HRR.out]; unfold parseM; rw [if_neg (by rw [← HLL.out]; omega), HLL.out]; exact Lib.hid rfl
  clear HRR
  go_enter Try.func14, Try.ntmps14
  go_wp2_with fail
  refine HN.out.mono ?_
  rintro e w1 ⟨c, ra, rfl, hx, hcut, hc0, hra, hu⟩
  have HC := Lib.hid hcut
  have HU := Lib.hid hu
  have HX := Lib.hid hx
  have HC0 := Lib.hid hc0
  obtain ⟨N1, hN1⟩ : ∃ N1, N1 = w1.heap.size := ⟨_, rfl⟩
  have HCN : Hid (c < N1) := by rw [hN1]; exact Lib.hid hcut.bl.lt
  have HWN : Hid (w.heap.size ≤ N1) := by rw [hN1]; exact Lib.hid hu.size
  have HRA0 : Hid (∀ a, ra.A = some a → a.block < N1) := Lib.hid (fun a ha => Nat.lt_trans (hra a ha).2 HCN.out)
  have HN1 : Hid (N1 ≤ w1.heap.size) := by rw [hN1]; exact Lib.hid (Nat.le_refl _)
  clear hx hcut hc0 hu HN hra hN1
  go_wp2
  go_loopg [5] L (fun gk x5 wr => (∃ (re : Rw) (out : List (Mg × Hd)) (f : Nat), CutIs wr c w.heap.size re 0 ∧ Byt re.xs ∧ 4 * out.length + re.xs.length ≤ L ∧ re.xs.length ≤ gk ∧ (re.xs.length = 0 → L = 0) ∧ re.xs.length < f ∧ parseA f (out.map (·.1)) re.xs = R ∧
      wr.ownsRow N1 59 12 x5 out.length (out.flatMap encM) ∧ (∀ x, x ∈ out → MgIn wr N1 x.1 x.2 ∧ Off x5 x.1 x.2) ∧ (∀ a, re.A = some a → a.block < N1) ∧ N1 ≤ wr.heap.size ∧ Upd [] w wr) ∨
    (∃ (re : Rw) (out : List (Mg × Hd)), CutIs wr c w.heap.size re 0 ∧ re.xs = [] ∧ 0 < L ∧ R = (out.map (·.1), 0) ∧ wr.ownsRow w.heap.size 59 12 x5 out.length (out.flatMap encM) ∧ (∀ x, x ∈ out → MgIn wr w.heap.size x.1 x.2) ∧ Upd [] w wr))
  case atStart =>
    refine .inl ⟨ra, [], L + 1, HC.out, by rw [HX.out]; exact HBY.out, ?_, ?_, ?_, ?_, ?_, World.ownsRow_nil _ _ _ _, by simp, HRA0.out, HN1.out, HU.out⟩
    · rw [HX.out, ← HLL.out]; simp
    · rw [HX.out, ← HLL.out]; exact Nat.le_refl _
    · rw [HX.out, ← HLL.out]; exact id
    · rw [HX.out, ← HLL.out]; omega
    · rw [HR0.out, HX.out]; rfl
  case round =>
    clear HC HU HX HR0 HBY HLL HN1 HRA0
    rcases hrel with ⟨re, out, f, hcut, hby, hlo, hgk, hz, hf, hpa, hown, hmi, hrow, hn1, hu⟩ | ⟨re, out, hcut, hre, hL0, hRe, hown, hmi, hu⟩
    rotate_left
    · have HL := Lib.hid (left_any hcut)
      rw [hre] at HL
      dsimp only [List.length_nil] at HL
      have HFN := Lib.hid (And.intro hown (And.intro hmi hu))
      have HRE := Lib.hid hRe
      have hL0' : ¬ (L : Int) = 0 := by omega
      have hL0b : ((L : Int) == 0) = false := beq_eq_false_iff_ne.2 hL0'
      clear hown hmi hu hcut hre hRe
      go_wp2_with fail
      refine HL.out.mono ?_
      rintro e w2 ⟨rfl, rfl⟩
      go_wp2
      exact bodyPost_res (v := .tuple #[u5, .int .i64 0]) (by simp [results, Try.results14, go_sem]) rfl ⟨_, out, by rw [HRE.out], by rw [HRE.out], HFN.out⟩
    obtain ⟨f, rfl⟩ : ∃ g, f = g + 1 := ⟨f - 1, by omega⟩
    obtain ⟨Av, cv, hve, _⟩ := own_form hown
    subst hve
    have HL := Lib.hid (left_any hcut)
    have HCU := Lib.hid hcut
    have HOW := Lib.hid hown
    have HMI := Lib.hid hmi
    have HU := Lib.hid hu
    have HPA := Lib.hid hpa
    have HB := Lib.hid hby
    have HN1 := Lib.hid hn1
    have HROW0 := Lib.hid hrow
    clear hn1 hrow hcut hown hmi hu hpa hby
    by_cases hlt4 : re.xs.length < 4
    · have hRe : R = ([], 10) := by rw [← HPA.out, parseA_err (stepM_short hlt4)]
      have HRE := Lib.hid hRe
      have HBS := Lib.hid (bytes_short HCU.out 4 hlt4)
      clear hRe
      by_cases h0 : re.xs.length = 0
      · obtain rfl := hz h0
        rw [h0] at HL
        clear hz
        go_wp2_with fail
        refine HL.out.mono ?_
        rintro e w2 ⟨rfl, rfl⟩
        go_wp2_with fail
        refine HBS.out.mono ?_
        rintro e w3 ⟨rfl, h3, hu3⟩
        have HE := Lib.hid (err_any h3)
        have HU3 := Lib.hid (HU.out.trans hu3 (fun s hs => .inr (by rw [List.mem_singleton] at hs; subst hs; exact HC0.out)))
        clear h3 hu3
        go_wp2_with fail
        refine HE.out.mono ?_
        rintro e w4 ⟨rfl, rfl⟩
        go_wp2
        exact bodyPost_res (v := .tuple #[.slice none 0 0, .int .i64 10]) (by simp [results, Try.results14, go_sem]) rfl ⟨_, [], by rw [HRE.out], by rw [HRE.out]; rfl, World.ownsRow_nil _ _ _ _, by simp, HU3.out⟩
      · have h0' : (0 : Int) < (re.xs.length : Int) := by omega
        have hgo : ((re.xs.length : Int) == 0) = false := beq_eq_false_iff_ne.2 (by omega)
        clear hz
        go_wp2_with fail
        refine HL.out.mono ?_
        rintro e w2 ⟨rfl, rfl⟩
        go_wp2_with fail
        refine HBS.out.mono ?_
        rintro e w3 ⟨rfl, h3, hu3⟩
        have HE := Lib.hid (err_any h3)
        have HU3 := Lib.hid (HU.out.trans hu3 (fun s hs => .inr (by rw [List.mem_singleton] at hs; subst hs; exact HC0.out)))
        clear h3 hu3
        go_wp2_with fail
        refine HE.out.mono ?_
        rintro e w4 ⟨rfl, rfl⟩
        go_wp2
        exact bodyPost_res (v := .tuple #[.slice none 0 0, .int .i64 10]) (by simp [results, Try.results14, go_sem]) rfl ⟨_, [], by rw [HRE.out], by rw [HRE.out]; rfl, World.ownsRow_nil _ _ _ _, by simp, HU3.out⟩
    obtain ⟨x0, x1, x2, x3, body, hr⟩ : ∃ x0 x1 x2 x3 body, re.xs = x0 :: x1 :: x2 :: x3 :: body := by
      match hq : re.xs, hlt4 with
      | x0 :: x1 :: x2 :: x3 :: body, _ => exact ⟨x0, x1, x2, x3, body, rfl⟩
      | [], h4 => exact absurd (by simp) h4
      | [_], h4 => exact absurd (by simp) h4
      | [_, _], h4 => exact absurd (by simp) h4
      | [_, _, _], h4 => exact absurd (by simp) h4
    have hbx0 := HB.out x0 (by rw [hr]; simp)
    have hbx1 := HB.out x1 (by rw [hr]; simp)
    have hbx2 := HB.out x2 (by rw [hr]; simp)
    have hbx3 := HB.out x3 (by rw [hr]; simp)
    have hlr : re.xs.length = body.length + 4 := by rw [hr]; simp
    have hbp : (0 : Int) < (re.xs.length : Int) := by omega
    have HR := Lib.hid hr
    have HBD : Hid (Byt body) := Lib.hid (fun z hz => HB.out z (by rw [hr]; simp [hz]))
    rw [hr] at HPA
    have HBQ := Lib.hid (bytes_yes HCU.out 4 (by omega))
    have HOB : Hid (4 * out.length + (body.length + 4) ≤ L) := Lib.hid (by omega)
    have HGK : Hid (body.length + 4 ≤ gk) := Lib.hid (by omega)
    have HFF : Hid (body.length + 4 < f + 1) := Lib.hid (by omega)
    rw [hlr] at HL hbp
    clear hz hr hlt4 hlo hgk hf HB hlr
    go_wp2_with fail
    refine HL.out.mono ?_
    rintro e w2 ⟨rfl, rfl⟩
    go_wp2_with fail
    refine HBQ.out.mono ?_
    rintro e w2 ⟨q, rb, rfl, hq1, hq2, hq3, hq4, hq5, hq6, hq8, hq7⟩
    have HROW2 : Hid (∀ a, rb.A = some a → a.block < N1) := Lib.hid (fun a ha => by obtain ⟨a0, h0, e⟩ := hq8 a ha; rw [← e]; exact HROW0.out a0 h0)
    have hqx : q.xs = [x0, x1, x2, x3] := by rw [hq1, HR.out]; rfl
    have hrb : rb.xs = body := by rw [hq3, HR.out]; rfl
    obtain ⟨b, off, hA, hbb1, hbb2, hcc⟩ := hq4.at (by rw [hqx]; simp)
    have HIS := Lib.hid (is_any hq4 (by rw [hqx]; intro z hz; simp at hz; rcases hz with rfl | rfl | rfl | rfl <;> assumption))
    rw [hqx] at HIS
    have hbc : b ≠ c := (hq5 _ hA).1
    obtain ⟨qA, qc, qx⟩ := q
    dsimp only at hqx hA hq2
    subst hqx
    subst hA
    subst hq2
    have e0 := hcc 0 x0 rfl
    have e1 := hcc 1 x1 rfl
    have e2 := hcc 2 x2 rfl
    have e3 := hcc 3 x3 rfl
    rw [Nat.add_zero] at e0
    have HE := Lib.hid (err_any hq6)
    have HC2 := Lib.hid hq6
    have HRB := Lib.hid hrb
    have HU2 := Lib.hid (HU.out.trans hq7 (fun s hs => .inr (by rw [List.mem_singleton] at hs; subst hs; exact HC0.out)))
    have HMI2 := Lib.hid (fun x hx => (⟨(HMI.out x hx).1.behind hq7 HCN.out (Nat.le_refl _), (HMI.out x hx).2⟩ : MgIn w2 N1 x.1 x.2 ∧ Off (.slice Av out.length cv) x.1 x.2))
    have hncb : ∀ w', ∀ s, s ∈ [c] → (w' : World).ownsRow N1 59 12 (.slice Av out.length cv) out.length (out.flatMap encM) → (∃ rr er, CutIs w' c w.heap.size rr er) → (Value.slice Av out.length cv).ownBlock ≠ some s := by
      intro w' s hs ho ⟨rr, er, hcc'⟩ e
      rw [List.mem_singleton] at hs
      subst hs
      obtain ⟨cur, hcur⟩ := row_type ho s e
      exact (hcur.ne hcc'.bl (by decide)) rfl
    have HNCB := Lib.hid hncb
    have HOW2 := Lib.hid (ownsRow_upd HOW.out hq7 (fun s hs => HNCB.out _ s hs HOW.out ⟨_, _, HCU.out⟩))
    have HN2 := Lib.hid (Nat.le_trans HN1.out hq7.size)
    clear hq1 hq3 hq4 hq5 hq6 hq7 hq8 hcc hrb HBQ HL hncb HMI HOW HU HN1 HCU HROW0
    unfold encR at HIS ⊢
    dsimp only [List.length_cons, List.length_nil] at HIS ⊢
    go_wp2_with fail
    refine HE.out.mono ?_
    rintro e w3 ⟨rfl, rfl⟩
    go_wp2_with fail
    refine HIS.out.mono ?_
    rintro e w3 ⟨rfl, rfl⟩
    obtain ⟨is, his⟩ : ∃ is, is = isM [x0, x1, x2, x3] := ⟨_, rfl⟩
    rw [← his]
    cases is with
    | false =>
      have hRe : R = ([], 11) := by rw [← HPA.out, parseA_err (stepM_form his.symm)]
      have HRE := Lib.hid hRe
      clear hRe his HIS
      go_wp2
      refine bodyPost_res (v := .tuple #[.slice none 0 0, .int .i64 11]) (by simp [results, Try.results14, go_sem]) rfl ?_
      first | exact ⟨_, [], by rw [HRE.out], by rw [HRE.out]; rfl, World.ownsRow_nil _ _ _ _, by simp, HU2.out⟩ | exact ⟨_, by rw [HRE.out], [], by rw [HRE.out]; rfl, World.ownsRow_nil _ _ _ _, by simp, HU2.out⟩
    | true =>
    have hh01 : (128 ≤ x0 ∧ x0 < 192) ∧ (192 ≤ x1 ∧ x1 ≤ 223) := by simp [isM] at his; omega
    have HISM := Lib.hid his.symm
    clear his HIS HE
    have ho := or_int x2 x3 hbx2.1 hbx2.2 hbx3.1 hbx3.2
    have hx2a := hbx2.1
    have hx2b := hbx2.2
    have hx3a := hbx3.1
    have hx3b := hbx3.2
    go_upto_region 12 with fail
    refine wp_moves_quiet_tail 1 12 (by kernel_rfl) (by kernel_rfl) (fun _ _ _ _ h => h) ?_
    simp only [List.take_succ_cons, List.take_zero, List.drop_succ_cons, List.drop_zero]
    repeat (go_big_quiet_step (fail))
    refine wpQuiet_nil (show wpQuiet _ _ _ _ _ _ from ?_)
    repeat (go_big_quiet_step (fail))
    refine wpQuiet_nil ?_
    rintro _ ⟨nq, rfl⟩
    obtain ⟨n4, hn4⟩ : ∃ n4 : Nat, n4 = 4 * (x2.toNat * 256 + x3.toNat) := ⟨_, rfl⟩
    have hn4' : 4 * (x2 * 256 + x3) = (n4 : Int) := by omega
    have HN4 := Lib.hid hn4
    clear hn4
    by_cases hsh : body.length < n4
    · have hRe : R = ([], 10) := by rw [← HPA.out, parseA_err (stepM_cut HISM.out (by rw [← HN4.out]; exact hsh))]
      have HRE := Lib.hid hRe
      have HB := Lib.hid (bytes_short (HC2.out.more ((Upd.refl [] w2).drewN nq)) n4 (by rw [HRB.out]; exact hsh))
      clear hRe
      go_wp2_with fail
      refine HB.out.mono ?_
      rintro e w4 ⟨rfl, h4, hu4⟩
      have HE2 := Lib.hid (err_any h4)
      have HU4 := Lib.hid ((HU2.out.drewN nq).trans hu4 (fun s hs => .inr (by rw [List.mem_singleton] at hs; subst hs; exact HC0.out)))
      clear h4 hu4
      go_wp2_with fail
      refine HE2.out.mono ?_
      rintro e w5 ⟨rfl, rfl⟩
      go_wp2
      refine bodyPost_res (v := .tuple #[.slice none 0 0, .int .i64 10]) (by simp [results, Try.results14, go_sem]) rfl ?_
      first | exact ⟨_, [], by rw [HRE.out], by rw [HRE.out]; rfl, World.ownsRow_nil _ _ _ _, by simp, HU4.out⟩ | exact ⟨_, by rw [HRE.out], [], by rw [HRE.out]; rfl, World.ownsRow_nil _ _ _ _, by simp, HU4.out⟩
    have HB := Lib.hid (bytes_yes (HC2.out.more ((Upd.refl [] w2).drewN nq)) n4 (by rw [HRB.out]; omega))
    go_wp2_with fail
    refine HB.out.mono ?_
    rintro e w4 ⟨q, rd, rfl, hq1, hq2, hq3, hq4, hq5, hq6, hq8, hq7⟩
    have HROW : Hid (∀ a, rd.A = some a → a.block < N1) := Lib.hid (fun a ha => by obtain ⟨a0, h0, e⟩ := hq8 a ha; rw [← e]; exact HROW2.out a0 h0)
    have hqx : q.xs = body.take n4 := by rw [hq1, HRB.out]
    have hrd : rd.xs = body.drop n4 := by rw [hq3, HRB.out]
    have hk : ∀ p : Addr, p.block = b → w4.cell? p = w2.cell? p := fun p hp => hq7.cell (w := w2.drewN nq) (by rw [hp]; exact hbb2) (by rw [hp]; simpa using hbc)
    have f0 := (hk ⟨b, off, none⟩ rfl).trans e0
    have f1 := (hk ⟨b, off + 1, none⟩ rfl).trans e1
    have hbb4 : b < w4.heap.size := Nat.lt_of_lt_of_le hbb2 hq7.size
    have nb4 : b ≠ w4.heap.size := Nat.ne_of_lt hbb4
    have HE2 := Lib.hid (err_any hq6)
    have HLF := Lib.hid (left_any hq6)
    have HC4 := Lib.hid hq6
    have HRD := Lib.hid hrd
    have HQ := Lib.hid (And.intro hq4 hqx)
    have HU4 := Lib.hid ((HU2.out.drewN nq).trans hq7 (fun s hs => .inr (by rw [List.mem_singleton] at hs; subst hs; exact HC0.out)))
    have HOW4 := Lib.hid (ownsRow_upd (w := w2.drewN nq) HOW2.out hq7 (fun s hs => HNCB.out (w2.drewN nq) s hs HOW2.out ⟨_, _, HC2.out.more ((Upd.refl [] w2).drewN nq)⟩))
    have HMI4 := Lib.hid (fun x hx => (⟨((HMI2.out x hx).1.same ((Upd.refl [] w2).drewN nq) (Nat.le_refl _)).behind hq7 HCN.out (Nat.le_refl _), (HMI2.out x hx).2⟩ : MgIn w4 N1 x.1 x.2 ∧ Off (.slice Av out.length cv) x.1 x.2))
    have HN4s : Hid (N1 ≤ w4.heap.size) := Lib.hid (Nat.le_trans HN2.out hq7.size)
    unfold encR
    clear hq1 hq2 hq3 hq4 hq5 hq6 hq7 hq8 hqx hrd HROW2 HB HC2 HU2 e0 e1 e2 e3 hk ho hbb1 HOW2 HMI2 HN2 HNCB HRB
    go_wp2_with fail
    refine HE2.out.mono ?_
    rintro e w5 ⟨rfl, rfl⟩
    clear HE2
    go_upto_if 59 with fail
    go_cut [8] (fun s8 wd => wd = w4 ∧ ∃ Q : Rw, s8 = .slice Q.A Q.xs.length Q.c ∧ RowIn w4 w.heap.size .u8 Q ∧ bodyOf x0 (body.take n4) (decide ((body.drop n4).length = 0)) = some Q.xs)
    case first =>
      by_cases hp : x0 / 32 % 2 = 1
      · have ha0 : bits .and .u8 x0 32 = 32 := by rw [and32 x0 hbx0.1 hbx0.2]; omega
        rw [HRD.out] at HLF
        obtain ⟨last, hlast⟩ : ∃ last, last = decide ((body.drop n4).length = 0) := ⟨_, rfl⟩
        obtain ⟨dl, hdl⟩ : ∃ dl, dl = (body.drop n4).length := ⟨_, rfl⟩
        have hlb : ((dl : Int) == 0) = last := by
          rw [hlast, ← hdl]
          by_cases hz : dl = 0
          · subst hz; rfl
          · rw [decide_eq_false hz]; exact beq_eq_false_iff_ne.2 (by omega)
        rw [← hdl] at HLF
        clear hdl
        obtain ⟨hq4, hqx⟩ := HQ.out
        have hbq : Byt q.xs := by rw [hqx]; intro z hz; exact HBD.out z (List.mem_of_mem_take hz)
        rcases hcm : cutM q.xs last with _ | ys
        · have hRe : R = ([], 11) := by
            rw [← HPA.out, parseA_err (stepM_pad HISM.out (by rw [← HN4.out]; exact hsh) (by rw [← HN4.out, bodyOf, if_pos hp, ← hqx, ← hlast]; exact hcm))]
          have HRE := Lib.hid hRe
          have HPD := Lib.hid (cut_no hq4 hbq last hcm)
          unfold encR at HPD
          clear hRe hq4 hqx hbq hcm hlast HQ
          go_wp2_with fail
          refine HLF.out.mono ?_
          rintro e w5 ⟨rfl, rfl⟩
          go_wp2_with fail
          refine HPD.out.mono ?_
          rintro e w5 ⟨rfl, rfl⟩
          go_wp2
          refine bodyPost_res (v := .tuple #[.slice none 0 0, .int .i64 11]) (by simp [results, Try.results14, go_sem]) rfl ?_
          first | exact ⟨_, [], by rw [HRE.out], by rw [HRE.out]; rfl, World.ownsRow_nil _ _ _ _, by simp, HU4.out⟩ | exact ⟨_, by rw [HRE.out], [], by rw [HRE.out]; rfl, World.ownsRow_nil _ _ _ _, by simp, HU4.out⟩
        · have hlt := (cutM_sub hcm).1
          rw [hlt] at hlb hcm
          have HPD := Lib.hid (cut_yes hq4 hbq ys hcm)
          have HBO : Hid (bodyOf x0 (body.take n4) (decide ((body.drop n4).length = 0)) = some ys) := by rw [bodyOf, if_pos hp, ← hqx, ← hlast, hlt]; exact Lib.hid hcm
          unfold encR at HPD
          clear hq4 hqx hbq hcm hlast HQ hlt
          go_wp2_with fail
          refine HLF.out.mono ?_
          rintro e w5 ⟨rfl, rfl⟩
          go_wp2_with fail
          refine HPD.out.mono ?_
          rintro e w5 ⟨Q, rfl, hQx, hQr, hQA, rfl⟩
          have HQQ := Lib.hid (And.intro hQr (by rw [HBO.out, hQx] : bodyOf x0 (body.take n4) (decide ((body.drop n4).length = 0)) = some Q.xs))
          clear hQr hQx hQA
          go_wp2
          go_meet
          case rel => exact ⟨rfl, Q, rfl, HQQ.out⟩
      · have ha0 : bits .and .u8 x0 32 = 0 := by rw [and32 x0 hbx0.1 hbx0.2]; omega
        have HQQ := Lib.hid (And.intro HQ.out.1 (by rw [bodyOf, if_neg hp, HQ.out.2] : bodyOf x0 (body.take n4) (decide ((body.drop n4).length = 0)) = some q.xs))
        go_wp2
        go_meet
        case rel => exact ⟨rfl, q, rfl, HQQ.out⟩
    obtain ⟨hwd, ⟨A2, k2, qx⟩, rfl, hQr, hbo⟩ := hcut
    obtain rfl := hwd.symm
    dsimp only at hbo
    obtain ⟨⟨⟨mk, m1, m2, m3, m4, m5, m6, mR, mW, mP, mA, mT⟩, ee⟩, hrm⟩ : ∃ z, z = readM x1 (x0 % 32).toNat qx := ⟨_, rfl⟩
    have hstep := stepM_read (rest := body) HISM.out (by rw [← HN4.out]; exact hsh) (by rw [← HN4.out]; exact hbo)
    rw [← hrm, ← HN4.out] at hstep
    dsimp only at hstep
    have hqb : Byt qx ∧ qx.length ≤ 100000 := by
      have hs : ∃ k, qx = (body.take n4).take k ∨ qx = body.take n4 := by
        unfold bodyOf at hbo
        split at hbo
        · obtain ⟨_, k, hk⟩ := cutM_sub hbo
          exact ⟨k, .inl hk⟩
        · exact ⟨0, .inr (Option.some.inj hbo).symm⟩
      obtain ⟨k, hs⟩ := hs
      have hOB := HOB.out
      rcases hs with rfl | rfl
      · exact ⟨fun z hz => HBD.out z (List.mem_of_mem_take (List.mem_of_mem_take hz)), by rw [List.length_take, List.length_take]; omega⟩
      · exact ⟨fun z hz => HBD.out z (List.mem_of_mem_take hz), by rw [List.length_take]; omega⟩
    have hnn : (((x0 % 32).toNat : Nat) : Int) = x0 % 32 := by omega
    have HREAD := Lib.hid (fun (W : World) (hW : Upd [] w4 W) => by
      have := read_any (hQr.upd2 hW (by simp)) hqb.2 x1 (x0 % 32).toNat (by omega) hqb.1
      dsimp only at this
      rw [← hrm, hnn] at this
      exact this)
    simp only [encR, mcells] at HREAD
    have HSTEP := Lib.hid hstep
    have ha1 := and31 x0 hbx0.1 hbx0.2
    have ha2 : IntKind.i64.wrap (x0 % 32) = x0 % 32 := IntWalk.i64_in _ (by omega)
    clear hstep hbo hrm hqb hnn hQr HQ HLF HN4
    go_upto_region 21 with fail
    go_cut [12, 13] (fun s12 s13 wd => ∃ (bx : Nat) (dR : Option Addr) (cR : Nat) (dW : Option Addr) (cW : Nat) (dP : Option Addr) (cP : Nat) (dA : Option Addr) (cA : Nat), s12 = .pointer (some ⟨bx, 0, none⟩) ∧ s13 = .int .i64 ee ∧ Blk wd bx 59 #[.int .i64 mk, .int .u32 m1, .int .u32 m2, .int .u64 m3, .int .u32 m4, .int .u32 m5, .int .u32 m6, .slice dR mR.length cR, .slice dW mW.length cW, .slice dP mP.length cP, .slice dA mA.length cA, .int .u8 mT] ∧ w4.heap.size ≤ bx ∧ MgIn wd w4.heap.size ⟨mk, m1, m2, m3, m4, m5, m6, mR, mW, mP, mA, mT⟩ ⟨dR, cR, dW, cW, dP, cP, dA, cA⟩ ∧ Upd [] w4 wd)
    case first =>
      go_region_held3 (fun w' => w'.cell? ⟨b, off, none⟩ = some (.int .u8 x0) ∧ w'.cell? ⟨b, off + 1, none⟩ = some (.int .u8 x1)) (first | (have hh := HQ; first | (with_reducible exact ⟨g0, g1⟩) | (with_reducible exact ⟨set12_cell _ _ _ _ _ _ _ _ _ _ _ _ _ _ nb4 g0, set12_cell _ _ _ _ _ _ _ _ _ _ _ _ _ _ nb4 g1⟩)) | (have hh := HArmA; first | (with_reducible exact ⟨g0, g1⟩) | (with_reducible exact ⟨(((Upd.refl [] w6).alloc _).cell (p := ⟨b, off, none⟩) hbb6 (by simp)).trans g0, (((Upd.refl [] w6).alloc _).cell (p := ⟨b, off + 1, none⟩) hbb6 (by simp)).trans g1⟩)| go_keep) | go_keep)
        (first
          | (go_at_call 30; have hx9 := HREAD.out w4.drew ((Upd.refl [] w4).drewN 1); refine hx9.mono ?_; clear hx9; rintro e w6 ⟨⟨dR, cR, dW, cW, dP, cP, dA, cA⟩, rfl, hin6, hu6⟩; dsimp only; have HIN6 := Lib.hid hin6; have hU1 : Upd [] w4 w6 := ((Upd.refl [] w4).drewN 1).next hu6; have g0 := (hU1.cell (p := ⟨b, off, none⟩) hbb4 (by simp)).trans f0; have g1 := (hU1.cell (p := ⟨b, off + 1, none⟩) hbb4 (by simp)).trans f1; have hbb6 : b < w6.heap.size := Nat.lt_of_lt_of_le hbb4 hU1.size; have HArmA := Lib.hid (True.intro); clear hu6 hin6)
          | (go_at_call 30; have hx9 := HREAD.out (w4.drew.alloc (.cells #[.int .i64 0, .int .u32 0, .int .u32 0, .int .u64 0, .int .u32 0, .int .u32 0, .int .u32 0, .slice none 0 0, .slice none 0 0, .slice none 0 0, .slice none 0 0, .int .u8 0] 59)) (((Upd.refl [] w4).drewN 1).alloc _); refine hx9.mono ?_; clear hx9; rintro e w6 ⟨⟨dR, cR, dW, cW, dP, cP, dA, cA⟩, rfl, hin6, hu6⟩; dsimp only; have HIN6 := Lib.hid hin6; have hU1 : Upd [] w4 w6 := (((Upd.refl [] w4).drewN 1).alloc _).next hu6; have g0 := (hU1.cell (p := ⟨b, off, none⟩) hbb4 (by simp)).trans f0; have g1 := (hU1.cell (p := ⟨b, off + 1, none⟩) hbb4 (by simp)).trans f1; have hbb6 : b < w6.heap.size := Nat.lt_of_lt_of_le hbb4 hU1.size; have hq : Blk w6 w4.heap.size 59 (zcells 0).toArray := (Blk.new (w4.drewN 1) 59 (zcells 0).toArray).upd hu6 (by simp); have m0z : w6.cell? ⟨w4.heap.size, 0, none⟩ = some (.int .i64 0) := hq.cell 0; have n0z := hq.frozen 0; have m1z : w6.cell? ⟨w4.heap.size, 1, none⟩ = some (.int .u32 0) := hq.cell 1; have n1z := hq.frozen 1; have m2z : w6.cell? ⟨w4.heap.size, 2, none⟩ = some (.int .u32 0) := hq.cell 2; have n2z := hq.frozen 2; have m3z : w6.cell? ⟨w4.heap.size, 3, none⟩ = some (.int .u64 0) := hq.cell 3; have n3z := hq.frozen 3; have m4z : w6.cell? ⟨w4.heap.size, 4, none⟩ = some (.int .u32 0) := hq.cell 4; have n4z := hq.frozen 4; have m5z : w6.cell? ⟨w4.heap.size, 5, none⟩ = some (.int .u32 0) := hq.cell 5; have n5z := hq.frozen 5; have m6z : w6.cell? ⟨w4.heap.size, 6, none⟩ = some (.int .u32 0) := hq.cell 6; have n6z := hq.frozen 6; have m7z : w6.cell? ⟨w4.heap.size, 7, none⟩ = some (.slice none 0 0) := hq.cell 7; have n7z := hq.frozen 7; have m8z : w6.cell? ⟨w4.heap.size, 8, none⟩ = some (.slice none 0 0) := hq.cell 8; have n8z := hq.frozen 8; have m9z : w6.cell? ⟨w4.heap.size, 9, none⟩ = some (.slice none 0 0) := hq.cell 9; have n9z := hq.frozen 9; have m10z : w6.cell? ⟨w4.heap.size, 10, none⟩ = some (.slice none 0 0) := hq.cell 10; have n10z := hq.frozen 10; have m11z : w6.cell? ⟨w4.heap.size, 11, none⟩ = some (.int .u8 0) := hq.cell 11; have n11z := hq.frozen 11; have hql := hq.lt; have HQ := Lib.hid hq; clear hu6 hin6 hq))
      all_goals clear f0 f1 HREAD
      all_goals go_wp2
      all_goals go_meet
      all_goals
        first
          | (have hh := HArmA; exact ⟨w6.heap.size, dR, cR, dW, cW, dP, cP, dA, cA, rfl, rfl, Blk.new _ _ _, hU1.size, HIN6.out.same ((Upd.refl [] w6).alloc _) (Nat.le_refl _), hU1.alloc _⟩)
          | (have hh := HQ; exact ⟨w4.heap.size, dR, cR, dW, cW, dP, cP, dA, cA, rfl, rfl, set12_blk _ _ _ _ _ _ _ _ _ _ _ _ _ _ _ _ _ _ _ _ _ _ _ _ HQ.out, Nat.le_refl _, HIN6.out.behind (set12_upd (S := [w4.heap.size]) _ _ _ _ _ _ _ _ _ _ _ _ _ (Upd.refl _ _) (.inl (by simp))) (by simp) (by simp), set12_upd _ _ _ _ _ _ _ _ _ _ _ _ _ hU1 (.inr (Nat.le_refl _))⟩)
    obtain ⟨bx, dR, cR, dW, cW, dP, cP, dA, cA, rfl, rfl, hblk, hbx, hin, hud⟩ := hcut
    have hneE : ee = 0 ∨ ee ≠ 0 := by by_cases hh : ee = 0; exact .inl hh; exact .inr hh
    clear f0 f1 HREAD
    rcases hneE with rfl | hne
    rotate_left
    · have hRe : R = ([], ee) := by
        rw [← HPA.out]
        refine parseA_err ?_
        rw [HSTEP.out, if_neg hne]
      have HRE := Lib.hid hRe
      have HUE := Lib.hid (HU4.out.next hud)
      clear hRe hblk hin hud
      go_wp2
      refine bodyPost_res (v := .tuple #[.slice none 0 0, .int .i64 ee]) (by simp [results, Try.results14, go_sem]) rfl ?_
      first | exact ⟨_, [], by rw [HRE.out], by rw [HRE.out]; rfl, World.ownsRow_nil _ _ _ _, by simp, HUE.out⟩ | exact ⟨_, by rw [HRE.out], [], by rw [HRE.out]; rfl, World.ownsRow_nil _ _ _ _, by simp, HUE.out⟩
    have hok := HSTEP.out
    rw [if_pos rfl] at hok
    have HPO := Lib.hid (HPA.out.symm.trans (parseA_ok hok))
    have z0 : wc.cell? ⟨bx, 0, none⟩ = some (.int .i64 mk) := hblk.cell 0
    have z1 : wc.cell? ⟨bx, 1, none⟩ = some (.int .u32 m1) := hblk.cell 1
    have z2 : wc.cell? ⟨bx, 2, none⟩ = some (.int .u32 m2) := hblk.cell 2
    have z3 : wc.cell? ⟨bx, 3, none⟩ = some (.int .u64 m3) := hblk.cell 3
    have z4 : wc.cell? ⟨bx, 4, none⟩ = some (.int .u32 m4) := hblk.cell 4
    have z5 : wc.cell? ⟨bx, 5, none⟩ = some (.int .u32 m5) := hblk.cell 5
    have z6 : wc.cell? ⟨bx, 6, none⟩ = some (.int .u32 m6) := hblk.cell 6
    have z7 : wc.cell? ⟨bx, 7, none⟩ = some (.slice dR mR.length cR) := hblk.cell 7
    have z8 : wc.cell? ⟨bx, 8, none⟩ = some (.slice dW mW.length cW) := hblk.cell 8
    have z9 : wc.cell? ⟨bx, 9, none⟩ = some (.slice dP mP.length cP) := hblk.cell 9
    have z10 : wc.cell? ⟨bx, 10, none⟩ = some (.slice dA mA.length cA) := hblk.cell 10
    have z11 : wc.cell? ⟨bx, 11, none⟩ = some (.int .u8 mT) := hblk.cell 11
    have hown5 := ownsRow_upd HOW4.out hud (by simp)
    have HOWD : Hid ((wc.alloc (.cells #[.int .i64 mk, .int .u32 m1, .int .u32 m2, .int .u64 m3, .int .u32 m4, .int .u32 m5, .int .u32 m6, .slice dR mR.length cR, .slice dW mW.length cW, .slice dP mP.length cP, .slice dA mA.length cA, .int .u8 mT] 59)).ownsRow N1 59 12 (.slice Av out.length cv) out.length (out.flatMap encM)) := Lib.hid (hown5.alloc _)
    have HUD := Lib.hid ((HU4.out.next hud).alloc (.cells #[.int .i64 mk, .int .u32 m1, .int .u32 m2, .int .u64 m3, .int .u32 m4, .int .u32 m5, .int .u32 m6, .slice dR mR.length cR, .slice dW mW.length cW, .slice dP mP.length cP, .slice dA mA.length cA, .int .u8 mT] 59))
    have HCD := Lib.hid ((HC4.out.more hud).more ((Upd.refl [] wc).alloc (.cells #[.int .i64 mk, .int .u32 m1, .int .u32 m2, .int .u64 m3, .int .u32 m4, .int .u32 m5, .int .u32 m6, .slice dR mR.length cR, .slice dW mW.length cW, .slice dP mP.length cP, .slice dA mA.length cA, .int .u8 mT] 59)))
    have HMD := Lib.hid (fun x hx => (⟨((HMI4.out x hx).1.same hud (Nat.le_refl _)).same ((Upd.refl [] wc).alloc (.cells #[.int .i64 mk, .int .u32 m1, .int .u32 m2, .int .u64 m3, .int .u32 m4, .int .u32 m5, .int .u32 m6, .slice dR mR.length cR, .slice dW mW.length cW, .slice dP mP.length cP, .slice dA mA.length cA, .int .u8 mT] 59)) (Nat.le_refl _), (HMI4.out x hx).2⟩ : MgIn (wc.alloc (.cells #[.int .i64 mk, .int .u32 m1, .int .u32 m2, .int .u64 m3, .int .u32 m4, .int .u32 m5, .int .u32 m6, .slice dR mR.length cR, .slice dW mW.length cW, .slice dP mP.length cP, .slice dA mA.length cA, .int .u8 mT] 59)) N1 x.1 x.2 ∧ Off (.slice Av out.length cv) x.1 x.2))
    have HIND := Lib.hid (hin.same ((Upd.refl [] wc).alloc (.cells #[.int .i64 mk, .int .u32 m1, .int .u32 m2, .int .u64 m3, .int .u32 m4, .int .u32 m5, .int .u32 m6, .slice dR mR.length cR, .slice dW mW.length cW, .slice dP mP.length cP, .slice dA mA.length cA, .int .u8 mT] 59)) (Nat.le_refl _))
    have HOLD : Hid (∀ s, (Value.slice Av out.length cv).ownBlock = some s → s < w4.heap.size) := Lib.hid (fun s hs => (own_block_lt HOW4.out hs).2)
    have HNW := Lib.hid (Blk.new wc 59 #[.int .i64 mk, .int .u32 m1, .int .u32 m2, .int .u64 m3, .int .u32 m4, .int .u32 m5, .int .u32 m6, .slice dR mR.length cR, .slice dW mW.length cW, .slice dP mP.length cP, .slice dA mA.length cA, .int .u8 mT])
    have HSZ : Hid (N1 ≤ (wc.alloc (.cells #[.int .i64 mk, .int .u32 m1, .int .u32 m2, .int .u64 m3, .int .u32 m4, .int .u32 m5, .int .u32 m6, .slice dR mR.length cR, .slice dW mW.length cW, .slice dP mP.length cP, .slice dA mA.length cA, .int .u8 mT] 59)).heap.size ∧ w4.heap.size ≤ (wc.alloc (.cells #[.int .i64 mk, .int .u32 m1, .int .u32 m2, .int .u64 m3, .int .u32 m4, .int .u32 m5, .int .u32 m6, .slice dR mR.length cR, .slice dW mW.length cW, .slice dP mP.length cP, .slice dA mA.length cA, .int .u8 mT] 59)).heap.size) := Lib.hid (by have h1 := HN4s.out; have h2 := hud.size; simp; omega)
    have HONE : Hid (∀ u ∈ ([.int .i64 mk, .int .u32 m1, .int .u32 m2, .int .u64 m3, .int .u32 m4, .int .u32 m5, .int .u32 m6, .slice dR mR.length cR, .slice dW mW.length cW, .slice dP mP.length cP, .slice dA mA.length cA, .int .u8 mT] : List Value), u.oneCell' = true) := Lib.hid (by intro u hu; repeat (first | (rcases List.mem_cons.1 hu with rfl | hu; · rfl) | cases hu))
    have hol : out.length ≤ 1500 := by have := HOB.out; omega
    clear hblk hin hud hown5 HOW4 HMI4 HC4 HU4 hok HPA HSTEP
    go_wp2_with (at_builtin; refine wpList_append_own_at _ rfl (.tmp 87) (.tmp 89) 22 rfl N1 59 j0 _ 12 144 Try.underlying22 hj0 hy0 hy1 hy2 rfl (by decide) _ out.length (out.flatMap encM) rfl HOWD.out ⟨wc.heap.size, 0, none⟩ 1 1 [.int .i64 mk, .int .u32 m1, .int .u32 m2, .int .u64 m3, .int .u32 m4, .int .u32 m5, .int .u32 m6, .slice dR mR.length cR, .slice dW mW.length cW, .slice dP mP.length cP, .slice dA mA.length cA, .int .u8 mT] rfl rfl (blk_src HNW.out) HONE.out (by unfold maxLen; omega) (by omega) HSZ.out.1 ?_)
    intro v9 w9 hown9 hg9 _ hat9
    have HREL := Lib.hid (round_rel HUD.out HOWD.out HCD.out HMD.out HIND.out HN4s.out HOLD.out HROW.out HSZ.out.1 HWN.out HOB.out HGK.out HFF.out HBD.out HRD.out HPO.out hown9 hg9 (by rw [World.size_alloc]; exact hat9))
    have HGK' : Hid (1 ≤ gk) := Lib.hid (by have := HGK.out; omega)
    obtain ⟨A9, c9, hv9, _⟩ := own_form hown9
    subst hv9
    clear hown9 hg9 hat9 HPO HOWD HUD HCD HMD HIND HOLD HNW
    go_wp2
    go_roundg (gk - 1)
    case measure => have := HGK'.out; omega
    case rel => exact HREL.out
end Go.Proofs.Ytgkejdjdccgjbaa
