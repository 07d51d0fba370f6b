/- rtcp's Parse of one message. Conditions: no more than 1500 bytes; no padding; the message is one that is read. -/
import Derived.Test.YtgkejdjdccgjbaaParse
namespace Go.Proofs.Ytgkejdjdccgjbaa
open Go Go.RowKit
set_option maxHeartbeats 400000

theorem infoM : (Try.prog.info? 59).map (fun i => (i.zero, i.size, i.bytes)) = some (some (.agg (zcells 0).toArray), 12, 144) := by kernel_rfl
theorem bv64 (n : Nat) (h : n < 18446744073709551616) : (BitVec.ofInt 64 (n : Int)).toNat = n := by
  rw [BitVec.toNat_ofInt]
  omega
theorem or_int (x y : Int) (h0 : 0 ≤ x) (h1 : x ≤ 255) (h2 : 0 ≤ y) (h3 : y ≤ 255) : bits .or .i64 (x * 256) y = x * 256 + y := by
  obtain ⟨a, rfl⟩ : ∃ a : Nat, x = a := ⟨x.toNat, by omega⟩
  obtain ⟨b, rfl⟩ : ∃ b : Nat, y = b := ⟨y.toNat, by omega⟩
  have e : 256 * a ||| b = 256 * a + b := (Nat.two_pow_add_eq_or_of_lt (i := 8) (by omega) a).symm
  rw [show (a : Int) * 256 = ((256 * a : Nat) : Int) by omega]
  show IntKind.i64.wrap ((BitVec.ofInt 64 ((256 * a : Nat) : Int) ||| BitVec.ofInt 64 (b : Int)).toNat : Int) = _
  rw [BitVec.toNat_or, bv64 _ (by omega), bv64 _ (by omega), e]
  rw [IntWalk.i64_in _ (by omega)]
  omega
theorem set12_cell (w : World) (g : Nat) (v0 v1 v2 v3 v4 v5 v6 v7 v8 v9 v10 v11 : Value) {p : Addr} {u : Value} (hp : p.block ≠ g) (h : w.cell? p = some u) : ((((((((((((w.setCell ⟨g, 0, none⟩ v0).setCell ⟨g, 1, none⟩ v1).setCell ⟨g, 2, none⟩ v2).setCell ⟨g, 3, none⟩ v3).setCell ⟨g, 4, none⟩ v4).setCell ⟨g, 5, none⟩ v5).setCell ⟨g, 6, none⟩ v6).setCell ⟨g, 7, none⟩ v7).setCell ⟨g, 8, none⟩ v8).setCell ⟨g, 9, none⟩ v9).setCell ⟨g, 10, none⟩ v10).setCell ⟨g, 11, none⟩ v11).cell? p = some u := by
  rw [World.cell?_setCell_far _ _ _ _ (by exact hp.symm), World.cell?_setCell_far _ _ _ _ (by exact hp.symm), World.cell?_setCell_far _ _ _ _ (by exact hp.symm), World.cell?_setCell_far _ _ _ _ (by exact hp.symm), World.cell?_setCell_far _ _ _ _ (by exact hp.symm), World.cell?_setCell_far _ _ _ _ (by exact hp.symm), World.cell?_setCell_far _ _ _ _ (by exact hp.symm), World.cell?_setCell_far _ _ _ _ (by exact hp.symm), World.cell?_setCell_far _ _ _ _ (by exact hp.symm), World.cell?_setCell_far _ _ _ _ (by exact hp.symm), World.cell?_setCell_far _ _ _ _ (by exact hp.symm), World.cell?_setCell_far _ _ _ _ (by exact hp.symm)]
  exact h
theorem set12_upd {S : List Nat} {a w : World} (g : Nat) (v0 v1 v2 v3 v4 v5 v6 v7 v8 v9 v10 v11 : Value) (h : Upd S a w) (hg : g ∈ S ∨ a.heap.size ≤ g) : Upd S a ((((((((((((w.setCell ⟨g, 0, none⟩ v0).setCell ⟨g, 1, none⟩ v1).setCell ⟨g, 2, none⟩ v2).setCell ⟨g, 3, none⟩ v3).setCell ⟨g, 4, none⟩ v4).setCell ⟨g, 5, none⟩ v5).setCell ⟨g, 6, none⟩ v6).setCell ⟨g, 7, none⟩ v7).setCell ⟨g, 8, none⟩ v8).setCell ⟨g, 9, none⟩ v9).setCell ⟨g, 10, none⟩ v10).setCell ⟨g, 11, none⟩ v11) :=
  (((((((((((h.setCell (p := ⟨g, 0, none⟩) hg _).setCell (p := ⟨g, 1, none⟩) hg _).setCell (p := ⟨g, 2, none⟩) hg _).setCell (p := ⟨g, 3, none⟩) hg _).setCell (p := ⟨g, 4, none⟩) hg _).setCell (p := ⟨g, 5, none⟩) hg _).setCell (p := ⟨g, 6, none⟩) hg _).setCell (p := ⟨g, 7, none⟩) hg _).setCell (p := ⟨g, 8, none⟩) hg _).setCell (p := ⟨g, 9, none⟩) hg _).setCell (p := ⟨g, 10, none⟩) hg _).setCell (p := ⟨g, 11, none⟩) hg _
theorem set12_blk {w : World} {g : Nat} {t : TypeId} (u0 u1 u2 u3 u4 u5 u6 u7 u8 u9 u10 u11 v0 v1 v2 v3 v4 v5 v6 v7 v8 v9 v10 v11 : Value) (h : Blk w g t #[u0, u1, u2, u3, u4, u5, u6, u7, u8, u9, u10, u11]) : Blk ((((((((((((w.setCell ⟨g, 0, none⟩ v0).setCell ⟨g, 1, none⟩ v1).setCell ⟨g, 2, none⟩ v2).setCell ⟨g, 3, none⟩ v3).setCell ⟨g, 4, none⟩ v4).setCell ⟨g, 5, none⟩ v5).setCell ⟨g, 6, none⟩ v6).setCell ⟨g, 7, none⟩ v7).setCell ⟨g, 8, none⟩ v8).setCell ⟨g, 9, none⟩ v9).setCell ⟨g, 10, none⟩ v10).setCell ⟨g, 11, none⟩ v11) g t #[v0, v1, v2, v3, v4, v5, v6, v7, v8, v9, v10, v11] := by
  have := (((((((((((h.store 0 v0).store 1 v1).store 2 v2).store 3 v3).store 4 v4).store 5 v5).store 6 v6).store 7 v7).store 8 v8).store 9 v9).store 10 v10).store 11 v11
  simpa using this
set_option maxRecDepth 100000 in
set_option maxHeartbeats 1000000 in
theorem parse_one {w : World} {lo : Nat} {r : Rw} (h : RowIn w lo .u8 r) (x0 x1 x2 x3 : Int) (body : List Int) (hr : r.xs = x0 :: x1 :: x2 :: x3 :: body) (hl : body.length ≤ 1000) (hb : Byt r.xs)
    (h0 : 128 ≤ x0 ∧ x0 < 160) (h1 : 192 ≤ x1 ∧ x1 ≤ 223) (hn : 4 * (x2 * 256 + x3) = body.length) (m : Mg) (hd : Hd)
    (HRead : ∀ (W : World) (lo' : Nat) (q : Rw), RowIn W lo' .u8 q → q.xs = body → Calls Try.prog 30 #[.int .u8 x1, .int .i64 (x0 % 32), encR q] W fun e w' => e = .returned (.tuple #[.agg (mcells m hd).toArray, .int .i64 0]) ∧ Upd [] W w') :
    Calls Try.prog 14 #[encR r] w fun e w' => ∃ v, e = .returned (.tuple #[v, .int .i64 0]) ∧ w'.ownsRow w.heap.size 59 12 v 1 (mcells m hd) ∧ Upd [] w w' := by
  obtain ⟨j0, hj0, hy0, hy1, hy2⟩ := info_parts infoM
  have hbx0 := hb x0 (by rw [hr]; simp)
  have hbx1 := hb x1 (by rw [hr]; simp)
  have hbx2 := hb x2 (by rw [hr]; simp)
  have hbx3 := hb x3 (by rw [hr]; simp)
  have hlr : r.xs.length = body.length + 4 := by rw [hr]; simp
  have HN := Lib.hid (cut_new h (by omega))
  have HRD := Lib.hid HRead
  simp only [mcells] at HRD ⊢
  have HR := Lib.hid hr
  have hbl : (r.xs.length : Int) ≤ 1004 := by omega
  have hbp : (0 : Int) < (r.xs.length : Int) := by omega
  have hL4 : 4 ≤ r.xs.length := by omega
  have hnb : ¬ (1500 : Int) < (r.xs.length : Int) := by omega
  obtain ⟨L, hL⟩ : ∃ L, L = r.xs.length := ⟨_, rfl⟩
  unfold encR at HN ⊢
  have HLL := Lib.hid hL
  rw [← hL] at HN hbl hbp hnb hL4 ⊢
  clear h hb hr HRead hlr hL
  go_enter Try.func14, Try.ntmps14
  go_wp2_with fail
  refine HN.out.mono ?_
  rintro e w1 ⟨c, ra, rfl, hx, hcut, hc0, hra, hu⟩
  have HC := Lib.hid hcut
  have HU := Lib.hid hu
  have HX := Lib.hid hx
  have HC0 := Lib.hid hc0
  clear hx hcut hc0 hu HN hra
  go_wp2
  go_loopg [5] 2 (fun gk x5 wr => (1 ≤ gk ∧ x5 = .slice none 0 0 ∧ wr = w1) ∨ ∃ (re : Rw), re.xs = [] ∧ CutIs wr c w.heap.size re 0 ∧ wr.ownsRow w.heap.size 59 12 x5 1 [.int .i64 m.kind, .int .u32 m.ssrc, .int .u32 m.media, .int .u64 m.clock, .int .u32 m.time, .int .u32 m.packets, .int .u32 m.bytes, .slice hd.rA m.reports.length hd.rc, .slice hd.wA m.who.length hd.wc, .slice hd.pA m.pairs.length hd.pc, .slice hd.aA m.asks.length hd.ac, .int .u8 m.type] ∧ Upd [] w wr)
  case atStart => exact .inl ⟨by decide, rfl, rfl⟩
  case round =>
    rcases hrel with ⟨hgk, rfl, rfl⟩ | ⟨re, hre, hce, hoe, hue⟩
    · have HL := Lib.hid (left_any HC.out)
      have hla : ra.xs.length = L := by rw [HX.out, HLL.out]
      rw [hla] at HL
      have HB := Lib.hid (bytes_yes HC.out 4 (by rw [hla]; omega))
      clear hla
      go_wp2_with fail
      refine HL.out.mono ?_
      rintro e w2 ⟨rfl, rfl⟩
      go_wp2_with fail
      refine HB.out.mono ?_
      rintro e w2 ⟨q, rb, rfl, hq1, hq2, hq3, hq4, hq5, hq6, _, hq7⟩
      have hqx : q.xs = [x0, x1, x2, x3] := by rw [hq1, HX.out, HR.out]; rfl
      have hrb : rb.xs = body := by rw [hq3, HX.out, HR.out]; rfl
      obtain ⟨b, off, hA, hbb1, hbb2, hcc⟩ := hq4.at (by rw [hqx]; simp)
      have HIS := Lib.hid (is_any hq4 (by rw [hqx]; intro z hz; simp at hz; rcases hz with rfl | rfl | rfl | rfl <;> assumption))
      have hism : isM q.xs = true := by rw [hqx]; simp [isM]; omega
      rw [hism] at HIS
      have hbc : b ≠ c := (hq5 _ hA).1
      obtain ⟨qA, qc, qx⟩ := q
      dsimp only at hqx hA hq2
      subst hqx
      subst hA
      subst hq2
      have e0 := hcc 0 x0 rfl
      have e1 := hcc 1 x1 rfl
      have e2 := hcc 2 x2 rfl
      have e3 := hcc 3 x3 rfl
      rw [Nat.add_zero] at e0
      have HE := Lib.hid (err_any hq6)
      have HC2 := Lib.hid hq6
      have HRB := Lib.hid hrb
      have HU2 := Lib.hid (HU.out.trans hq7 (fun s hs => .inr (by rw [List.mem_singleton] at hs; subst hs; exact HC0.out)))
      clear hq1 hq3 hq4 hq5 hq6 hq7 hism hcc hrb HB HL
      unfold encR at HIS ⊢
      dsimp only [List.length_cons, List.length_nil] at HIS ⊢
      go_wp2_with fail
      refine HE.out.mono ?_
      rintro e w3 ⟨rfl, rfl⟩
      go_wp2_with fail
      refine HIS.out.mono ?_
      rintro e w3 ⟨rfl, rfl⟩
      go_wp2_with fail
      have ho := or_int x2 x3 hbx2.1 hbx2.2 hbx3.1 hbx3.2
      have hx2a := hbx2.1
      have hx2b := hbx2.2
      have hx3a := hbx3.1
      have hx3b := hbx3.2
      refine wp_moves_quiet_tail 1 12 (by kernel_rfl) (by kernel_rfl) (fun _ _ _ _ h => h) ?_
      simp only [List.take_succ_cons, List.take_zero, List.drop_succ_cons, List.drop_zero]
      repeat (go_big_quiet_step (fail))
      refine wpQuiet_nil (show wpQuiet _ _ _ _ _ _ from ?_)
      repeat (go_big_quiet_step (fail))
      refine wpQuiet_nil ?_
      rintro _ ⟨nq, rfl⟩
      have HB := Lib.hid (bytes_yes (HC2.out.more ((Upd.refl [] w2).drewN nq)) body.length (by rw [HRB.out]; exact Nat.le_refl _))
      go_wp2_with fail
      refine HB.out.mono ?_
      rintro e w4 ⟨q, rd, rfl, hq1, hq2, hq3, hq4, hq5, hq6, _, hq7⟩
      have hqx : q.xs = body := by rw [hq1, HRB.out, List.take_of_length_le (Nat.le_refl _)]
      have hrd : rd.xs = [] := by rw [hq3, HRB.out, List.drop_of_length_le (Nat.le_refl _)]
      obtain ⟨A2, k2, qx⟩ := q
      dsimp only at hqx hq2
      subst hqx
      subst hq2
      have hk : ∀ p : Addr, p.block = b → w4.cell? p = w2.cell? p := fun p hp => hq7.cell (w := w2.drewN nq) (by rw [hp]; exact hbb2) (by rw [hp]; simpa using hbc)
      have f0 := (hk ⟨b, off, none⟩ rfl).trans e0
      have f1 := (hk ⟨b, off + 1, none⟩ rfl).trans e1
      have hbb4 : b < w4.heap.size := Nat.lt_of_lt_of_le hbb2 hq7.size
      have nb4 : b ≠ w4.heap.size := Nat.ne_of_lt hbb4
      have ha0 : bits .and .u8 x0 32 = 0 := by rw [and32 x0 hbx0.1 hbx0.2]; omega
      have ha1 := and31 x0 hbx0.1 hbx0.2
      have ha2 : IntKind.i64.wrap (x0 % 32) = x0 % 32 := IntWalk.i64_in _ (by omega)
      have HE2 := Lib.hid (err_any hq6)
      have HC4 := Lib.hid hq6
      have HRW := Lib.hid hq4
      have HRE := Lib.hid hrd
      have HU4 := Lib.hid ((HU2.out.drewN nq).trans hq7 (fun s hs => .inr (by rw [List.mem_singleton] at hs; subst hs; exact HC0.out)))
      unfold encR
      dsimp only
      clear hq1 hq3 hq4 hq5 hq6 hq7 hrd HB HC2 HU2 e0 e1 e2 e3 hk ho hn
      go_wp2_with fail
      refine HE2.out.mono ?_
      rintro e w5 ⟨rfl, rfl⟩
      go_upto_region 21 with fail
      have HRD2 := Lib.hid (fun (W : World) (hW : Upd [] w4 W) => HRD.out W w.heap.size ⟨A2, qx.length, qx⟩ (HRW.out.upd2 hW (by simp)) rfl)
      simp only [encR] at HRD2
      go_cut [12, 13] (fun s12 s13 wd => ∃ bx, s12 = .pointer (some ⟨bx, 0, none⟩) ∧ s13 = .int .i64 0 ∧ Blk wd bx 59 #[.int .i64 m.kind, .int .u32 m.ssrc, .int .u32 m.media, .int .u64 m.clock, .int .u32 m.time, .int .u32 m.packets, .int .u32 m.bytes, .slice hd.rA m.reports.length hd.rc, .slice hd.wA m.who.length hd.wc, .slice hd.pA m.pairs.length hd.pc, .slice hd.aA m.asks.length hd.ac, .int .u8 m.type] ∧ w4.heap.size ≤ bx ∧ Upd [] w4 wd)
      case first =>
        go_region_held3 (fun w' => w'.cell? ⟨b, off, none⟩ = some (.int .u8 x0) ∧ w'.cell? ⟨b, off + 1, none⟩ = some (.int .u8 x1)) (first | (have hh := HQ; first | (with_reducible exact ⟨g0, g1⟩) | (with_reducible exact ⟨set12_cell _ _ _ _ _ _ _ _ _ _ _ _ _ _ nb4 g0, set12_cell _ _ _ _ _ _ _ _ _ _ _ _ _ _ nb4 g1⟩)) | (have hh := HArmA; first | (with_reducible exact ⟨g0, g1⟩) | (with_reducible exact ⟨(((Upd.refl [] w6).alloc _).cell (p := ⟨b, off, none⟩) hbb6 (by simp)).trans g0, (((Upd.refl [] w6).alloc _).cell (p := ⟨b, off + 1, none⟩) hbb6 (by simp)).trans g1⟩)| go_keep) | go_keep)
          (first
            | (go_at_call 30; have hx9 := HRD2.out w4.drew ((Upd.refl [] w4).drewN 1); refine hx9.mono ?_; clear hx9; rintro e w6 ⟨rfl, hu6⟩; have hU1 : Upd [] w4 w6 := ((Upd.refl [] w4).drewN 1).next hu6; have g0 := (hU1.cell (p := ⟨b, off, none⟩) hbb4 (by simp)).trans f0; have g1 := (hU1.cell (p := ⟨b, off + 1, none⟩) hbb4 (by simp)).trans f1; have hbb6 : b < w6.heap.size := Nat.lt_of_lt_of_le hbb4 hU1.size; have HArmA := Lib.hid (True.intro); clear hu6)
            | (go_at_call 30; have hx9 := HRD2.out (w4.drew.alloc (.cells #[.int .i64 0, .int .u32 0, .int .u32 0, .int .u64 0, .int .u32 0, .int .u32 0, .int .u32 0, .slice none 0 0, .slice none 0 0, .slice none 0 0, .slice none 0 0, .int .u8 0] 59)) (((Upd.refl [] w4).drewN 1).alloc _); refine hx9.mono ?_; clear hx9; rintro e w6 ⟨rfl, hu6⟩; have hU1 : Upd [] w4 w6 := (((Upd.refl [] w4).drewN 1).alloc _).next hu6; have g0 := (hU1.cell (p := ⟨b, off, none⟩) hbb4 (by simp)).trans f0; have g1 := (hU1.cell (p := ⟨b, off + 1, none⟩) hbb4 (by simp)).trans f1; have hbb6 : b < w6.heap.size := Nat.lt_of_lt_of_le hbb4 hU1.size; have hq : Blk w6 w4.heap.size 59 (zcells 0).toArray := (Blk.new (w4.drewN 1) 59 (zcells 0).toArray).upd hu6 (by simp); have m0 : w6.cell? ⟨w4.heap.size, 0, none⟩ = some (.int .i64 0) := hq.cell 0; have n0 := hq.frozen 0; have m1 : w6.cell? ⟨w4.heap.size, 1, none⟩ = some (.int .u32 0) := hq.cell 1; have n1 := hq.frozen 1; have m2 : w6.cell? ⟨w4.heap.size, 2, none⟩ = some (.int .u32 0) := hq.cell 2; have n2 := hq.frozen 2; have m3 : w6.cell? ⟨w4.heap.size, 3, none⟩ = some (.int .u64 0) := hq.cell 3; have n3 := hq.frozen 3; have m4 : w6.cell? ⟨w4.heap.size, 4, none⟩ = some (.int .u32 0) := hq.cell 4; have n4 := hq.frozen 4; have m5 : w6.cell? ⟨w4.heap.size, 5, none⟩ = some (.int .u32 0) := hq.cell 5; have n5 := hq.frozen 5; have m6 : w6.cell? ⟨w4.heap.size, 6, none⟩ = some (.int .u32 0) := hq.cell 6; have n6 := hq.frozen 6; have m7 : w6.cell? ⟨w4.heap.size, 7, none⟩ = some (.slice none 0 0) := hq.cell 7; have n7 := hq.frozen 7; have m8 : w6.cell? ⟨w4.heap.size, 8, none⟩ = some (.slice none 0 0) := hq.cell 8; have n8 := hq.frozen 8; have m9 : w6.cell? ⟨w4.heap.size, 9, none⟩ = some (.slice none 0 0) := hq.cell 9; have n9 := hq.frozen 9; have m10 : w6.cell? ⟨w4.heap.size, 10, none⟩ = some (.slice none 0 0) := hq.cell 10; have n10 := hq.frozen 10; have m11 : w6.cell? ⟨w4.heap.size, 11, none⟩ = some (.int .u8 0) := hq.cell 11; have n11 := hq.frozen 11; have hql := hq.lt; have HQ := Lib.hid hq; clear hu6 hq))
        all_goals clear f0 f1 HRD2 HRD HRW
        all_goals go_wp2
        all_goals go_meet
        all_goals
          first
            | (have hh := HArmA; exact ⟨w6.heap.size, rfl, rfl, Blk.new _ _ _, hU1.size, hU1.alloc _⟩)
            | (have hh := HQ; exact ⟨w4.heap.size, rfl, rfl, set12_blk _ _ _ _ _ _ _ _ _ _ _ _ _ _ _ _ _ _ _ _ _ _ _ _ HQ.out, Nat.le_refl _, set12_upd _ _ _ _ _ _ _ _ _ _ _ _ _ hU1 (.inr (Nat.le_refl _))⟩)
      obtain ⟨bx, rfl, rfl, hblk, hbx, hud⟩ := hcut
      have z0 : wc.cell? ⟨bx, 0, none⟩ = some (.int .i64 m.kind) := hblk.cell 0
      have z1 : wc.cell? ⟨bx, 1, none⟩ = some (.int .u32 m.ssrc) := hblk.cell 1
      have z2 : wc.cell? ⟨bx, 2, none⟩ = some (.int .u32 m.media) := hblk.cell 2
      have z3 : wc.cell? ⟨bx, 3, none⟩ = some (.int .u64 m.clock) := hblk.cell 3
      have z4 : wc.cell? ⟨bx, 4, none⟩ = some (.int .u32 m.time) := hblk.cell 4
      have z5 : wc.cell? ⟨bx, 5, none⟩ = some (.int .u32 m.packets) := hblk.cell 5
      have z6 : wc.cell? ⟨bx, 6, none⟩ = some (.int .u32 m.bytes) := hblk.cell 6
      have z7 : wc.cell? ⟨bx, 7, none⟩ = some (.slice hd.rA m.reports.length hd.rc) := hblk.cell 7
      have z8 : wc.cell? ⟨bx, 8, none⟩ = some (.slice hd.wA m.who.length hd.wc) := hblk.cell 8
      have z9 : wc.cell? ⟨bx, 9, none⟩ = some (.slice hd.pA m.pairs.length hd.pc) := hblk.cell 9
      have z10 : wc.cell? ⟨bx, 10, none⟩ = some (.slice hd.aA m.asks.length hd.ac) := hblk.cell 10
      have z11 : wc.cell? ⟨bx, 11, none⟩ = some (.int .u8 m.type) := hblk.cell 11
      have HCD := Lib.hid (HC4.out.more hud)
      have HUD := Lib.hid (HU4.out.next (hud.more (by simp)))
      clear hblk hud HRD2 HRD HRW HC4 HU4 f0 f1 HE2 HIS HE
      go_wp2_with (at_builtin; refine wpList_append_own_at _ rfl (.tmp 87) (.tmp 89) 22 rfl w.heap.size 59 j0 _ 12 144 Try.underlying22 hj0 hy0 hy1 hy2 rfl (by decide) _ 0 [] rfl (World.ownsRow_nil _ _ _ _) ⟨wc.heap.size, 0, none⟩ 1 1 [.int .i64 m.kind, .int .u32 m.ssrc, .int .u32 m.media, .int .u64 m.clock, .int .u32 m.time, .int .u32 m.packets, .int .u32 m.bytes, .slice hd.rA m.reports.length hd.rc, .slice hd.wA m.who.length hd.wc, .slice hd.pA m.pairs.length hd.pc, .slice hd.aA m.asks.length hd.ac, .int .u8 m.type] rfl rfl ?u1 ?u2 ?u3 ?u4 ?u5 ?_)
      case u1 => exact blk_src (Blk.new wc 59 _)
      case u2 => intro u hu; repeat (first | (rcases List.mem_cons.1 hu with rfl | hu; · rfl) | cases hu)
      case u3 => unfold maxLen; omega
      case u4 => omega
      case u5 => simp; have := HUD.out.size; omega
      intro v4 w4' hown4 hg4 _ hat4
      have hu4 : Upd [] (wc.alloc (.cells ([.int .i64 m.kind, .int .u32 m.ssrc, .int .u32 m.media, .int .u64 m.clock, .int .u32 m.time, .int .u32 m.packets, .int .u32 m.bytes, .slice hd.rA m.reports.length hd.rc, .slice hd.wA m.who.length hd.wc, .slice hd.pA m.pairs.length hd.pc, .slice hd.aA m.asks.length hd.ac, .int .u8 m.type] : List Value).toArray 59)) w4' := (Upd.of_grown hg4).more (by simp [Value.ownBlock])
      have HF := Lib.hid (And.intro (((HCD.out.more ((Upd.refl [] wc).alloc _)).more hu4)) (And.intro hown4 ((HUD.out.alloc _).next hu4)))
      clear hown4 hg4 hat4 hu4 HCD HUD z0 z1 z2 z3 z4 z5 z6 z7 z8 z9 z10 z11
      go_wp2
      go_roundg (gk - 1)
      case rel => exact .inr ⟨rd, HRE.out, HF.out⟩
      case measure => omega
    · obtain ⟨rA, rc, rx⟩ := re
      dsimp only at hre
      subst hre
      have HL := Lib.hid (left_any hce)
      have HH := Lib.hid (And.intro hoe hue)
      clear hoe hue
      dsimp only [List.length_nil] at HL
      have hL0 : ¬ (L : Int) = 0 := by omega
      clear hce HRD HC0
      go_wp2_with fail
      refine HL.out.mono ?_
      rintro e w2 ⟨rfl, rfl⟩
      go_wp2
      exact bodyPost_res (v := .tuple #[u5, .int .i64 0]) (by simp [results, Try.results14, go_sem]) rfl ⟨_, rfl, HH.out⟩
end Go.Proofs.Ytgkejdjdccgjbaa
