/- rtcp's Parse of what is refused: too short, of another version, cut off, padded within. Conditions: no more than 1500 bytes. (Written by wip/gen/rtcpparsee.py.) -/
import Derived.Test.YtgkejdjdccgjbaaParse2
import Derived.Test.YtgkejdjdccgjbaaPad
namespace Go.Proofs.Ytgkejdjdccgjbaa
open Go Go.RowKit
set_option maxHeartbeats 400000

set_option maxRecDepth 100000 in
set_option maxHeartbeats 1000000 in
theorem parse_short {w : World} {lo : Nat} {r : Rw} (h : RowIn w lo .u8 r) (hl : r.xs.length < 4) :
    Calls Try.prog 14 #[encR r] w fun e w' => e = .returned (.tuple #[.slice none 0 0, .int .i64 10]) ∧ Upd [] w w' := by
  have HN := Lib.hid (cut_new h (by omega))
  unfold encR at HN ⊢
  obtain ⟨L, hL⟩ : ∃ L, L = r.xs.length := ⟨_, rfl⟩
  have HLL := Lib.hid hL
  rw [← hL] at HN hl ⊢
  clear h hL
  have hlI : ¬ (1500 : Int) < (L : Int) := by omega
  go_enter Try.func14, Try.ntmps14
  go_wp2_with fail
  refine HN.out.mono ?_
  rintro e w1 ⟨c, ra, rfl, hx, hcut, hc0, hra, hu⟩
  have HC := Lib.hid hcut
  have HU := Lib.hid hu
  have HX := Lib.hid hx
  have HC0 := Lib.hid hc0
  clear hx hcut hc0 hu HN hra
  go_wp2
  go_loopg [5] 1 (fun gk x5 wr => x5 = .slice none 0 0 ∧ wr = w1)
  case atStart => exact ⟨rfl, rfl⟩
  case round =>
    obtain ⟨rfl, rfl⟩ := hrel
    have HL := Lib.hid (left_any HC.out)
    have hla : ra.xs.length = L := by rw [HX.out, HLL.out]
    rw [hla] at HL
    have HB := Lib.hid (bytes_short HC.out 4 (by rw [hla]; omega))
    by_cases h0 : L = 0
    · subst h0
      go_wp2_with fail
      refine HL.out.mono ?_
      rintro e w2 ⟨rfl, rfl⟩
      go_wp2_with fail
      refine HB.out.mono ?_
      rintro e w3 ⟨rfl, h3, hu3⟩
      have HE := Lib.hid (err_any h3)
      have HU3 := Lib.hid (HU.out.trans hu3 (fun s hs => .inr (by rw [List.mem_singleton] at hs; subst hs; exact HC0.out)))
      clear h3 hu3
      go_wp2_with fail
      refine HE.out.mono ?_
      rintro e w4 ⟨rfl, rfl⟩
      go_wp2
      exact bodyPost_res (v := .tuple #[.slice none 0 0, .int .i64 10]) (by simp [results, Try.results14, go_sem]) rfl ⟨rfl, HU3.out⟩
    · have h0' : (0 : Int) < (L : Int) := by omega
      go_wp2_with fail
      refine HL.out.mono ?_
      rintro e w2 ⟨rfl, rfl⟩
      go_wp2_with fail
      refine HB.out.mono ?_
      rintro e w3 ⟨rfl, h3, hu3⟩
      have HE := Lib.hid (err_any h3)
      have HU3 := Lib.hid (HU.out.trans hu3 (fun s hs => .inr (by rw [List.mem_singleton] at hs; subst hs; exact HC0.out)))
      clear h3 hu3
      go_wp2_with fail
      refine HE.out.mono ?_
      rintro e w4 ⟨rfl, rfl⟩
      go_wp2
      exact bodyPost_res (v := .tuple #[.slice none 0 0, .int .i64 10]) (by simp [results, Try.results14, go_sem]) rfl ⟨rfl, HU3.out⟩
set_option maxRecDepth 100000 in
set_option maxHeartbeats 1000000 in
theorem parse_form {w : World} {lo : Nat} {r : Rw} (h : RowIn w lo .u8 r) (hb : Byt r.xs) (x0 x1 x2 x3 : Int) (body : List Int) (hr : r.xs = x0 :: x1 :: x2 :: x3 :: body) (hl : r.xs.length ≤ 1500) (hIS : isM [x0, x1, x2, x3] = false) :
    Calls Try.prog 14 #[encR r] w fun e w' => e = .returned (.tuple #[.slice none 0 0, .int .i64 11]) ∧ Upd [] w w' := by
  have hbx0 := hb x0 (by rw [hr]; simp)
  have hbx1 := hb x1 (by rw [hr]; simp)
  have hbx2 := hb x2 (by rw [hr]; simp)
  have hbx3 := hb x3 (by rw [hr]; simp)
  have hlr : r.xs.length = body.length + 4 := by rw [hr]; simp
  have HR := Lib.hid hr
  have hbp : (0 : Int) < (r.xs.length : Int) := by omega
  have hL4 : 4 ≤ r.xs.length := by omega
  have HN := Lib.hid (cut_new h (by omega))
  unfold encR at HN ⊢
  obtain ⟨L, hL⟩ : ∃ L, L = r.xs.length := ⟨_, rfl⟩
  have HLL := Lib.hid hL
  rw [← hL] at HN hl hbp hL4 ⊢
  clear h hb hr hlr hL
  have hlI : ¬ (1500 : Int) < (L : Int) := by omega
  go_enter Try.func14, Try.ntmps14
  go_wp2_with fail
  refine HN.out.mono ?_
  rintro e w1 ⟨c, ra, rfl, hx, hcut, hc0, hra, hu⟩
  have HC := Lib.hid hcut
  have HU := Lib.hid hu
  have HX := Lib.hid hx
  have HC0 := Lib.hid hc0
  clear hx hcut hc0 hu HN hra
  go_wp2
  go_loopg [5] 1 (fun gk x5 wr => x5 = .slice none 0 0 ∧ wr = w1)
  case atStart => exact ⟨rfl, rfl⟩
  case round =>
    obtain ⟨rfl, rfl⟩ := hrel
    have HL := Lib.hid (left_any HC.out)
    have hla : ra.xs.length = L := by rw [HX.out, HLL.out]
    rw [hla] at HL
    have HB := Lib.hid (bytes_yes HC.out 4 (by rw [hla]; omega))
    clear hla
    go_wp2_with fail
    refine HL.out.mono ?_
    rintro e w2 ⟨rfl, rfl⟩
    go_wp2_with fail
    refine HB.out.mono ?_
    rintro e w2 ⟨q, rb, rfl, hq1, hq2, hq3, hq4, hq5, hq6, _, hq7⟩
    have hqx : q.xs = [x0, x1, x2, x3] := by rw [hq1, HX.out, HR.out]; rfl
    have hrb : rb.xs = body := by rw [hq3, HX.out, HR.out]; rfl
    obtain ⟨b, off, hA, hbb1, hbb2, hcc⟩ := hq4.at (by rw [hqx]; simp)
    have HIS := Lib.hid (is_any hq4 (by rw [hqx]; intro z hz; simp at hz; rcases hz with rfl | rfl | rfl | rfl <;> assumption))
    have hism : isM q.xs = false := by rw [hqx]; exact hIS
    rw [hism] at HIS
    have hbc : b ≠ c := (hq5 _ hA).1
    obtain ⟨qA, qc, qx⟩ := q
    dsimp only at hqx hA hq2
    subst hqx
    subst hA
    subst hq2
    have e0 := hcc 0 x0 rfl
    have e1 := hcc 1 x1 rfl
    have e2 := hcc 2 x2 rfl
    have e3 := hcc 3 x3 rfl
    rw [Nat.add_zero] at e0
    have HE := Lib.hid (err_any hq6)
    have HC2 := Lib.hid hq6
    have HRB := Lib.hid hrb
    have HU2 := Lib.hid (HU.out.trans hq7 (fun s hs => .inr (by rw [List.mem_singleton] at hs; subst hs; exact HC0.out)))
    clear hq1 hq3 hq4 hq5 hq6 hq7 hism hcc hrb HB HL
    unfold encR at HIS ⊢
    dsimp only [List.length_cons, List.length_nil] at HIS ⊢
    go_wp2_with fail
    refine HE.out.mono ?_
    rintro e w3 ⟨rfl, rfl⟩
    go_wp2_with fail
    refine HIS.out.mono ?_
    rintro e w3 ⟨rfl, rfl⟩
    go_wp2
    exact bodyPost_res (v := .tuple #[.slice none 0 0, .int .i64 11]) (by simp [results, Try.results14, go_sem]) rfl ⟨rfl, HU2.out⟩
set_option maxRecDepth 100000 in
set_option maxHeartbeats 1000000 in
theorem parse_cutoff {w : World} {lo : Nat} {r : Rw} (h : RowIn w lo .u8 r) (hb : Byt r.xs) (x0 x1 x2 x3 : Int) (body : List Int) (hr : r.xs = x0 :: x1 :: x2 :: x3 :: body) (hl : r.xs.length ≤ 1500) (hIS : isM [x0, x1, x2, x3] = true) (hn : (body.length : Int) < 4 * (x2 * 256 + x3)) :
    Calls Try.prog 14 #[encR r] w fun e w' => e = .returned (.tuple #[.slice none 0 0, .int .i64 10]) ∧ Upd [] w w' := by
  have hbx0 := hb x0 (by rw [hr]; simp)
  have hbx1 := hb x1 (by rw [hr]; simp)
  have hbx2 := hb x2 (by rw [hr]; simp)
  have hbx3 := hb x3 (by rw [hr]; simp)
  have hlr : r.xs.length = body.length + 4 := by rw [hr]; simp
  have HR := Lib.hid hr
  have hbp : (0 : Int) < (r.xs.length : Int) := by omega
  have hL4 : 4 ≤ r.xs.length := by omega
  have HN := Lib.hid (cut_new h (by omega))
  unfold encR at HN ⊢
  obtain ⟨L, hL⟩ : ∃ L, L = r.xs.length := ⟨_, rfl⟩
  have HLL := Lib.hid hL
  rw [← hL] at HN hl hbp hL4 ⊢
  clear h hb hr hlr hL
  have hlI : ¬ (1500 : Int) < (L : Int) := by omega
  go_enter Try.func14, Try.ntmps14
  go_wp2_with fail
  refine HN.out.mono ?_
  rintro e w1 ⟨c, ra, rfl, hx, hcut, hc0, hra, hu⟩
  have HC := Lib.hid hcut
  have HU := Lib.hid hu
  have HX := Lib.hid hx
  have HC0 := Lib.hid hc0
  clear hx hcut hc0 hu HN hra
  go_wp2
  go_loopg [5] 1 (fun gk x5 wr => x5 = .slice none 0 0 ∧ wr = w1)
  case atStart => exact ⟨rfl, rfl⟩
  case round =>
    obtain ⟨rfl, rfl⟩ := hrel
    have HL := Lib.hid (left_any HC.out)
    have hla : ra.xs.length = L := by rw [HX.out, HLL.out]
    rw [hla] at HL
    have HB := Lib.hid (bytes_yes HC.out 4 (by rw [hla]; omega))
    clear hla
    go_wp2_with fail
    refine HL.out.mono ?_
    rintro e w2 ⟨rfl, rfl⟩
    go_wp2_with fail
    refine HB.out.mono ?_
    rintro e w2 ⟨q, rb, rfl, hq1, hq2, hq3, hq4, hq5, hq6, _, hq7⟩
    have hqx : q.xs = [x0, x1, x2, x3] := by rw [hq1, HX.out, HR.out]; rfl
    have hrb : rb.xs = body := by rw [hq3, HX.out, HR.out]; rfl
    obtain ⟨b, off, hA, hbb1, hbb2, hcc⟩ := hq4.at (by rw [hqx]; simp)
    have HIS := Lib.hid (is_any hq4 (by rw [hqx]; intro z hz; simp at hz; rcases hz with rfl | rfl | rfl | rfl <;> assumption))
    have hism : isM q.xs = true := by rw [hqx]; exact hIS
    rw [hism] at HIS
    have hbc : b ≠ c := (hq5 _ hA).1
    obtain ⟨qA, qc, qx⟩ := q
    dsimp only at hqx hA hq2
    subst hqx
    subst hA
    subst hq2
    have e0 := hcc 0 x0 rfl
    have e1 := hcc 1 x1 rfl
    have e2 := hcc 2 x2 rfl
    have e3 := hcc 3 x3 rfl
    rw [Nat.add_zero] at e0
    have HE := Lib.hid (err_any hq6)
    have HC2 := Lib.hid hq6
    have HRB := Lib.hid hrb
    have HU2 := Lib.hid (HU.out.trans hq7 (fun s hs => .inr (by rw [List.mem_singleton] at hs; subst hs; exact HC0.out)))
    clear hq1 hq3 hq4 hq5 hq6 hq7 hism hcc hrb HB HL
    unfold encR at HIS ⊢
    dsimp only [List.length_cons, List.length_nil] at HIS ⊢
    go_wp2_with fail
    refine HE.out.mono ?_
    rintro e w3 ⟨rfl, rfl⟩
    go_wp2_with fail
    refine HIS.out.mono ?_
    rintro e w3 ⟨rfl, rfl⟩
    go_wp2_with fail
    have ho := or_int x2 x3 hbx2.1 hbx2.2 hbx3.1 hbx3.2
    have hx2a := hbx2.1
    have hx2b := hbx2.2
    have hx3a := hbx3.1
    have hx3b := hbx3.2
    refine wp_moves_quiet_tail 1 12 (by kernel_rfl) (by kernel_rfl) (fun _ _ _ _ h => h) ?_
    simp only [List.take_succ_cons, List.take_zero, List.drop_succ_cons, List.drop_zero]
    repeat (go_big_quiet_step (fail))
    refine wpQuiet_nil (show wpQuiet _ _ _ _ _ _ from ?_)
    repeat (go_big_quiet_step (fail))
    refine wpQuiet_nil ?_
    rintro _ ⟨nq, rfl⟩
    have HB := Lib.hid (bytes_short (HC2.out.more ((Upd.refl [] w2).drewN nq)) (4 * (x2.toNat * 256 + x3.toNat)) (by rw [HRB.out]; omega))
    rw [show ((4 * (x2.toNat * 256 + x3.toNat) : Nat) : Int) = 4 * (x2 * 256 + x3) by omega] at HB
    go_wp2_with fail
    refine HB.out.mono ?_
    rintro e w4 ⟨rfl, h4, hu4⟩
    have HE2 := Lib.hid (err_any h4)
    have HU4 := Lib.hid ((HU2.out.drewN nq).trans hu4 (fun s hs => .inr (by rw [List.mem_singleton] at hs; subst hs; exact HC0.out)))
    clear h4 hu4
    go_wp2_with fail
    refine HE2.out.mono ?_
    rintro e w5 ⟨rfl, rfl⟩
    go_wp2
    exact bodyPost_res (v := .tuple #[.slice none 0 0, .int .i64 10]) (by simp [results, Try.results14, go_sem]) rfl ⟨rfl, HU4.out⟩
set_option maxRecDepth 100000 in
set_option maxHeartbeats 1000000 in
theorem parse_pad {w : World} {lo : Nat} {r : Rw} (h : RowIn w lo .u8 r) (hb : Byt r.xs) (x0 x1 x2 x3 : Int) (body : List Int) (hr : r.xs = x0 :: x1 :: x2 :: x3 :: body) (hl : r.xs.length ≤ 1500) (hIS : isM [x0, x1, x2, x3] = true) (hn : 4 * (x2 * 256 + x3) < (body.length : Int)) (hp : x0 / 32 % 2 = 1) :
    Calls Try.prog 14 #[encR r] w fun e w' => e = .returned (.tuple #[.slice none 0 0, .int .i64 11]) ∧ Upd [] w w' := by
  have hbx0 := hb x0 (by rw [hr]; simp)
  have hbx1 := hb x1 (by rw [hr]; simp)
  have hbx2 := hb x2 (by rw [hr]; simp)
  have hbx3 := hb x3 (by rw [hr]; simp)
  have hlr : r.xs.length = body.length + 4 := by rw [hr]; simp
  have HR := Lib.hid hr
  have hbp : (0 : Int) < (r.xs.length : Int) := by omega
  have hL4 : 4 ≤ r.xs.length := by omega
  have HBY := Lib.hid hb
  have HN := Lib.hid (cut_new h (by omega))
  unfold encR at HN ⊢
  obtain ⟨L, hL⟩ : ∃ L, L = r.xs.length := ⟨_, rfl⟩
  have HLL := Lib.hid hL
  rw [← hL] at HN hl hbp hL4 ⊢
  clear h hb hr hlr hL
  have hlI : ¬ (1500 : Int) < (L : Int) := by omega
  go_enter Try.func14, Try.ntmps14
  go_wp2_with fail
  refine HN.out.mono ?_
  rintro e w1 ⟨c, ra, rfl, hx, hcut, hc0, hra, hu⟩
  have HC := Lib.hid hcut
  have HU := Lib.hid hu
  have HX := Lib.hid hx
  have HC0 := Lib.hid hc0
  clear hx hcut hc0 hu HN hra
  go_wp2
  go_loopg [5] 1 (fun gk x5 wr => x5 = .slice none 0 0 ∧ wr = w1)
  case atStart => exact ⟨rfl, rfl⟩
  case round =>
    obtain ⟨rfl, rfl⟩ := hrel
    have HL := Lib.hid (left_any HC.out)
    have hla : ra.xs.length = L := by rw [HX.out, HLL.out]
    rw [hla] at HL
    have HB := Lib.hid (bytes_yes HC.out 4 (by rw [hla]; omega))
    clear hla
    go_wp2_with fail
    refine HL.out.mono ?_
    rintro e w2 ⟨rfl, rfl⟩
    go_wp2_with fail
    refine HB.out.mono ?_
    rintro e w2 ⟨q, rb, rfl, hq1, hq2, hq3, hq4, hq5, hq6, _, hq7⟩
    have hqx : q.xs = [x0, x1, x2, x3] := by rw [hq1, HX.out, HR.out]; rfl
    have hrb : rb.xs = body := by rw [hq3, HX.out, HR.out]; rfl
    obtain ⟨b, off, hA, hbb1, hbb2, hcc⟩ := hq4.at (by rw [hqx]; simp)
    have HIS := Lib.hid (is_any hq4 (by rw [hqx]; intro z hz; simp at hz; rcases hz with rfl | rfl | rfl | rfl <;> assumption))
    have hism : isM q.xs = true := by rw [hqx]; exact hIS
    rw [hism] at HIS
    have hbc : b ≠ c := (hq5 _ hA).1
    obtain ⟨qA, qc, qx⟩ := q
    dsimp only at hqx hA hq2
    subst hqx
    subst hA
    subst hq2
    have e0 := hcc 0 x0 rfl
    have e1 := hcc 1 x1 rfl
    have e2 := hcc 2 x2 rfl
    have e3 := hcc 3 x3 rfl
    rw [Nat.add_zero] at e0
    have HE := Lib.hid (err_any hq6)
    have HC2 := Lib.hid hq6
    have HRB := Lib.hid hrb
    have HU2 := Lib.hid (HU.out.trans hq7 (fun s hs => .inr (by rw [List.mem_singleton] at hs; subst hs; exact HC0.out)))
    clear hq1 hq3 hq4 hq5 hq6 hq7 hism hcc hrb HB HL
    unfold encR at HIS ⊢
    dsimp only [List.length_cons, List.length_nil] at HIS ⊢
    go_wp2_with fail
    refine HE.out.mono ?_
    rintro e w3 ⟨rfl, rfl⟩
    go_wp2_with fail
    refine HIS.out.mono ?_
    rintro e w3 ⟨rfl, rfl⟩
    go_wp2_with fail
    have ho := or_int x2 x3 hbx2.1 hbx2.2 hbx3.1 hbx3.2
    have hx2a := hbx2.1
    have hx2b := hbx2.2
    have hx3a := hbx3.1
    have hx3b := hbx3.2
    refine wp_moves_quiet_tail 1 12 (by kernel_rfl) (by kernel_rfl) (fun _ _ _ _ h => h) ?_
    simp only [List.take_succ_cons, List.take_zero, List.drop_succ_cons, List.drop_zero]
    repeat (go_big_quiet_step (fail))
    refine wpQuiet_nil (show wpQuiet _ _ _ _ _ _ from ?_)
    repeat (go_big_quiet_step (fail))
    refine wpQuiet_nil ?_
    rintro _ ⟨nq, rfl⟩
    have HB := Lib.hid (bytes_yes (HC2.out.more ((Upd.refl [] w2).drewN nq)) (4 * (x2.toNat * 256 + x3.toNat)) (by rw [HRB.out]; omega))
    rw [show ((4 * (x2.toNat * 256 + x3.toNat) : Nat) : Int) = 4 * (x2 * 256 + x3) by omega] at HB
    go_wp2_with fail
    refine HB.out.mono ?_
    rintro e w4 ⟨q, rd, rfl, hq1, hq2, hq3, hq4, hq5, hq6, _, hq7⟩
    have hrl : 0 < rd.xs.length := by rw [hq3, HRB.out, List.length_drop]; omega
    have hbq : Byt q.xs := by
      intro z hz
      rw [hq1, HRB.out] at hz
      exact HBY.out z (by rw [HR.out]; have := List.mem_of_mem_take hz; simp [this])
    have HPD := Lib.hid (cut_no hq4 hbq false (by simp [cutM]))
    have hrl' : ((rd.xs.length : Int) == 0) = false := beq_eq_false_iff_ne.2 (by omega)
    have hk : ∀ p : Addr, p.block = b → w4.cell? p = w2.cell? p := fun p hp => hq7.cell (w := w2.drewN nq) (by rw [hp]; exact hbb2) (by rw [hp]; simpa using hbc)
    have f0 := (hk ⟨b, off, none⟩ rfl).trans e0
    have ha0 : bits .and .u8 x0 32 = 32 := by rw [and32 x0 hbx0.1 hbx0.2]; omega
    have HE2 := Lib.hid (err_any hq6)
    have HLF := Lib.hid (left_any hq6)
    have HU4 := Lib.hid ((HU2.out.drewN nq).trans hq7 (fun s hs => .inr (by rw [List.mem_singleton] at hs; subst hs; exact HC0.out)))
    unfold encR at HPD ⊢
    clear hq1 hq2 hq3 hq4 hq5 hq6 hq7 HB HC2 HU2 e0 e1 e2 e3 hk ho hn hbq hrl
    go_wp2_with fail
    refine HE2.out.mono ?_
    rintro e w5 ⟨rfl, rfl⟩
    go_wp2_with fail
    refine HLF.out.mono ?_
    rintro e w5 ⟨rfl, rfl⟩
    go_wp2_with fail
    refine HPD.out.mono ?_
    rintro e w5 ⟨rfl, rfl⟩
    go_wp2
    exact bodyPost_res (v := .tuple #[.slice none 0 0, .int .i64 11]) (by simp [results, Try.results14, go_sem]) rfl ⟨rfl, HU4.out⟩
end Go.Proofs.Ytgkejdjdccgjbaa
