/- Parts of the proof, one behind the other: RdClo3, ReadO, Parse, Parse2, ReadG, ReadA, Pad, ParseS, Few, Msg, Join. No condition of their own. -/
import Derived.Test.YtgkejdjdccgjbaaB4
import Derived.Test.YtgkejdjdccgjbaaB3
/- rtcp's reader: the closure of Bye. Conditions: bytes. -/
namespace Go.Proofs.Ytgkejdjdccgjbaa
open Go Go.RowKit
set_option maxHeartbeats 400000

def whoM : Nat → List Int × Int → List Int × (List Int × Int)
  | 0, s => ([], s)
  | n + 1, s => ((whoM n s).1 ++ [numS (whoM n s).2 4], after (whoM n s).2 4)
theorem whoM_byt {s : List Int × Int} (h : Byt s.1) : ∀ n, Byt (whoM n s).2.1
  | 0 => h
  | n + 1 => after_byt _ (whoM_byt h n)
theorem whoM_len (s : List Int × Int) : ∀ n, (whoM n s).1.length = n
  | 0 => rfl
  | n + 1 => by rw [whoM, List.length_append, whoM_len s n]; rfl
def byeM (n : Nat) (s : List Int × Int) : Mg × (List Int × Int) := (⟨2, 0, 0, 0, 0, 0, 0, [], (whoM n s).1, [], [], 0⟩, (whoM n s).2)
theorem infoU : (Try.prog.info? 43).map (fun i => (i.zero, i.size, i.bytes)) = some (some (.int .u32 0), 1, 4) := by kernel_rfl
set_option maxRecDepth 100000 in
set_option maxHeartbeats 4000000 in
theorem read3_any {w : World} {rv rp c lo : Nat} {n : Nat} {r : Rw} {er : Int} (h : RdIs w rv rp c lo n (zcells 2) r er) (hb : Byt r.xs) (hn : n ≤ 31) (hra : ∀ a, r.A = some a → a.block < w.heap.size) :
    Calls Try.prog 47 #[.pointer (some ⟨rv, 0, none⟩)] w fun e w' => ∃ r' hd, e = .returned (.tuple #[]) ∧ RdIs w' rv rp c lo n (mcells (byeM n (r.xs, er)).1 hd) r' (byeM n (r.xs, er)).2.2 ∧ MgIn w' w.heap.size (byeM n (r.xs, er)).1 hd ∧ Upd [c, rp] w w' := by
  obtain ⟨j0, hj0, hy0, hy1, hy2⟩ := info_parts infoU
  have hrc : rv ≠ rp := h.bv.ne h.br (by decide)
  have hrc' : rp ≠ rv := hrc.symm
  have v0 : w.cell? ⟨rv, 0, none⟩ = some (.pointer (some ⟨rp, 0, none⟩)) := h.bv.cell 0
  have n0 : w.cell? ⟨rp, 1, none⟩ = some (.int .i64 n) := h.br.cell 1
  have H := Lib.hid h
  have HB := Lib.hid hb
  have HRA := Lib.hid hra
  unfold zcells at H
  clear h hb hra
  go_enter Try.func47, Try.ntmps47
  go_wp2
  go_loopg [5] n (fun gk x5 wr => ∃ (i : Nat) (ri : Rw) (A : Option Addr) (cap : Nat), i ≤ n ∧ n ≤ i + gk ∧ x5 = .int .i64 i ∧ RdIs wr rv rp c lo n [.int .i64 2, .int .u32 0, .int .u32 0, .int .u64 0, .int .u32 0, .int .u32 0, .int .u32 0, .slice none 0 0, .slice A i cap, .slice none 0 0, .slice none 0 0, .int .u8 0] ri (whoM i (r.xs, er)).2.2 ∧ ri.xs = (whoM i (r.xs, er)).2.1 ∧
      (∀ a, ri.A = some a → a.block < w.heap.size) ∧ wr.ownsRow w.heap.size 43 1 (.slice A i cap) i ((whoM i (r.xs, er)).1.map (Value.int .u32)) ∧ Upd [c, rp] w wr)
  case atStart => exact ⟨0, r, none, 0, Nat.zero_le _, by omega, rfl, H.out, rfl, HRA.out, World.ownsRow_nil _ _ _ _, Upd.refl _ _⟩
  case round =>
    obtain ⟨i, ri, A, cap, hi, hgi, rfl, hrd, hxs, hra, hown, hu⟩ := hrel
    have HBY := Lib.hid (whoM_byt (s := (r.xs, er)) HB.out i)
    obtain ⟨s, hs⟩ : ∃ s, s = (whoM i (r.xs, er)).2 := ⟨_, rfl⟩
    rw [← hs] at hrd hxs HBY
    have HS := Lib.hid hs
    have HRI := Lib.hid hra
    have HOW := Lib.hid hown
    have HU := Lib.hid hu
    have HR := Lib.hid hrd
    have HXS := Lib.hid hxs
    clear hs hra hown hu hrd hxs v0 n0
    by_cases hlt : i < n
    · have hlti : (i : Int) < (n : Int) := by omega
      have hw : IntKind.i64.wrap ((i : Int) + 1) = (i : Int) + 1 := IntWalk.i64_in _ (by omega)
      have HC := Lib.hid (rnum_kept (HR.out.more ((Upd.refl [] wr).drewN 1)) (by rw [HXS.out]; exact HBY.out))
      rw [HXS.out] at HC
      change Hid (Calls _ _ _ _ fun e w' => ∃ r', e = .returned (.int .u32 (numS s 4)) ∧ r'.xs = (after s 4).1 ∧ RdIs w' rv rp c lo n _ r' (after s 4).2 ∧ (∀ a, r'.A = some a → ∃ a0, ri.A = some a0 ∧ a0.block = a.block) ∧ Upd [c] _ w') at HC
      obtain ⟨x, hx⟩ : ∃ x, x = numS s 4 := ⟨_, rfl⟩
      rw [← hx] at HC
      have HX := Lib.hid hx
      clear hx
      have pv : wr.cell? ⟨rv, 0, none⟩ = some (.pointer (some ⟨rp, 0, none⟩)) := HR.out.bv.cell 0
      have pvd : wr.drew.cell? ⟨rv, 0, none⟩ = some (.pointer (some ⟨rp, 0, none⟩)) := pv
      have pr : wr.cell? ⟨rp, 10, none⟩ = some (.slice A i cap) := HR.out.cellAt 8 rfl
      have prd : wr.drew.cell? ⟨rp, 10, none⟩ = some (.slice A i cap) := pr
      have hnc : ∀ t', t' ∈ [c] → (Value.slice A i cap).ownBlock ≠ some t' := by
        intro t' ht' e
        rw [List.mem_singleton] at ht'
        subst ht'
        obtain ⟨cur, hcur⟩ := row_type HOW.out t' e
        exact (hcur.ne HR.out.cut.bl (by decide)) rfl
      have HNC := Lib.hid hnc
      obtain ⟨ys, hys⟩ : ∃ ys, ys = (whoM i (r.xs, er)).1.map (Value.int .u32) := ⟨_, rfl⟩
      rw [← hys] at HOW
      have HYS := Lib.hid hys
      have HONE : Hid (∀ u ∈ ([.int .u32 x] : List Value), u.oneCell' = true) := Lib.hid (by intro u hu; repeat (first | (rcases List.mem_cons.1 hu with rfl | hu; · rfl) | cases hu))
      have hi31 : i ≤ 31 := by omega
      clear hys hnc
      go_upto_region 2 with fail
      go_region_law
        (first
          | (refine step_append_src _ (by rfl) (.tmp 12) (.tmp 15) 46 (by rfl) w.heap.size 43 j0 _ 1 4 Try.underlying46 hj0 hy0 hy1 hy2 rfl (by decide) (.slice A i cap) i ys (by rfl) HOA.out (some ⟨w1.heap.size, 0, none⟩) 1 1 [.int .u32 x] (by rfl) (fun e => by cases e) rfl (fun ad had => by cases had; exact blk_src HNEW.out) HONE.out (by unfold maxLen; omega) (by omega) HSZ.out ?_; intro v8 w8 hown8 hg8 hat8; have HRD8 := Lib.hid ((HA1.out.1.more ((Upd.refl [] w1).alloc (.cells #[.int .u32 x] 43))).upd (Upd.of_grown hg8) (fun hm => by obtain ⟨cur, hcur⟩ := row_type HOA.out rv (by simpa using hm); exact (hcur.ne (HA1.out.1.bv.alloc _) (by decide)) rfl) (fun hm => by obtain ⟨cur, hcur⟩ := row_type HOA.out rp (by simpa using hm); exact (hcur.ne (HA1.out.1.br.alloc _) (by decide)) rfl) (fun hm => by obtain ⟨cur, hcur⟩ := row_type HOA.out c (by simpa using hm); exact (hcur.ne (HA1.out.1.cut.bl.alloc _) (by decide)) rfl) (fun a ha hm => by have h1 := HRI1.out a ha; have h2 := (own_block_lt HOA.out (by simpa using hm)).1; omega)); have p8 : w8.cell? ⟨rp, 10, none⟩ = some (.slice A i cap) := HRD8.out.cellAt 8 rfl; have pv8 : w8.cell? ⟨rv, 0, none⟩ = some (.pointer (some ⟨rp, 0, none⟩)) := HRD8.out.bv.cell 0; have f8 := HRD8.out.br.frozen 10; have HU8 := Lib.hid (app_upd (HU1.out.alloc (.cells #[.int .u32 x] 43)) HOA.out hg8 (Nat.le_refl _)); obtain ⟨A8, c8, hv8, _⟩ := own_form hown8; subst hv8; have HO8 := Lib.hid hown8; have HA8 := Lib.hid True.intro; clear hown8 hg8 hat8)
          | (go_simp; go_at_call 43; refine HC.out.mono ?_; rintro e w1 ⟨r1, rfl, hx, hrd, hkk, hku⟩; have va : w1.cell? ⟨rv, 0, none⟩ = some (.pointer (some ⟨rp, 0, none⟩)) := hrd.bv.cell 0; have vaa : (w1.alloc (.cells #[.int .u32 x] 43)).cell? ⟨rv, 0, none⟩ = some (.pointer (some ⟨rp, 0, none⟩)) := (((Upd.refl [] w1).alloc _).cell (p := ⟨rv, 0, none⟩) hrd.bv.lt (by simp)).trans va; have pw : w1.cell? ⟨rp, 10, none⟩ = some (.slice A i cap) := hrd.cellAt 8 rfl; have pwa : (w1.alloc (.cells #[.int .u32 x] 43)).cell? ⟨rp, 10, none⟩ = some (.slice A i cap) := (((Upd.refl [] w1).alloc _).cell (p := ⟨rp, 10, none⟩) hrd.br.lt (by simp)).trans pw; have HU1 := Lib.hid ((HU.out.drewN 1).next (hku.more (by simp))); have HOA := Lib.hid ((ownsRow_upd HOW.out (((Upd.refl [c] wr).drewN 1).next hku) HNC.out).alloc (.cells #[.int .u32 x] 43)); have HSZ := Lib.hid (HU1.out.alloc (.cells #[.int .u32 x] 43)).size; have HNEW := Lib.hid (Blk.new w1 43 #[.int .u32 x]); have HRI1 : Hid (∀ a, r1.A = some a → a.block < w.heap.size) := Lib.hid (fun a ha => by obtain ⟨a0, h0, e⟩ := hkk a ha; rw [← e]; exact HRI.out a0 h0); have HA1 := Lib.hid (And.intro hrd hx); clear hx hrd hkk hku))
      all_goals
        go_wp2
        go_roundg (gk - 1)
        case measure => omega
        case rel =>
          have hput := HRD8.out.put 8 (.slice A8 (i + 1) c8)
          have hrs : whoM (i + 1) (r.xs, er) = ((whoM i (r.xs, er)).1 ++ [numS s 4], after s 4) := by rw [whoM, ← HS.out]
          have hnr : (Value.slice A8 (i + 1) c8).ownBlock ≠ some rp := by
            intro e
            obtain ⟨cur, hcur⟩ := row_type HO8.out rp e
            exact (hcur.ne HRD8.out.br (by decide)) rfl
          have hst := ownsRow_setCell_other HO8.out (a := ⟨rp, 10, none⟩) hnr (.slice A8 (i + 1) c8)
          refine ⟨i + 1, r1, A8, c8, by omega, by omega, by go_num, ?_, ?_, HRI1.out, ?_, HU8.out.setCell (.inl (by simp)) _⟩
          · rw [hrs]; exact hput
          · rw [hrs]; exact HA1.out.2
          · rw [hrs, List.map_append, ← HYS.out, List.map_cons, List.map_nil, ← HX.out]; exact hst
    · obtain rfl : i = n := by omega
      go_wp2
      refine bodyPost_end (v := .tuple #[]) (by simp [results, Try.results47, go_sem]) rfl ⟨ri, ⟨none, 0, A, cap, none, 0, none, 0⟩, rfl, ?_, ⟨CellsIn.nil _ _ _ _ _, ?_, CellsIn.nil _ _ _ _ _, CellsIn.nil _ _ _ _ _⟩, HU.out⟩
      · have hrd := HR.out
        rw [HS.out] at hrd
        simp only [byeM, mcells, whoM_len]
        exact hrd
      · simp only [byeM, whoM_len]
        exact CellsIn.of_own HOW.out
end Go.Proofs.Ytgkejdjdccgjbaa
/- rtcp's read, of others. Conditions: no more than 100000 bytes. -/
namespace Go.Proofs.Ytgkejdjdccgjbaa
open Go Go.RowKit
set_option maxHeartbeats 400000

set_option maxRecDepth 100000 in
set_option maxHeartbeats 4000000 in
theorem read_other {w : World} {lo : Nat} {r : Rw} (h : RowIn w lo .u8 r) (hl : r.xs.length ≤ 100000) (t count : Int) (hk : kindM t count = 6) :
    Calls Try.prog 30 #[.int .u8 t, .int .i64 count, encR r] w fun e w' => e = .returned (.tuple #[.agg ((zcells 6).set 11 (.int .u8 t)).toArray, .int .i64 0]) ∧ Upd [] w w' := by
  obtain ⟨W0, hW0⟩ : ∃ W0, W0 = (w.alloc (.cells #[.int .u8 t] 5)).alloc (.cells (zcells 0).toArray 59) := ⟨_, rfl⟩
  have HK := Lib.hid hk
  clear hk
  have HN := Lib.hid (fun W : World => fun (hW : Upd [] w W) => cut_new (h.upd2 hW (by simp)) hl)
  unfold encR at HN ⊢
  unfold zcells at hW0
  go_enter Try.func30, Try.ntmps30
  go_upto_region 1 with fail
  have hB : Blk W0 w.heap.size 5 #[.int .u8 t] := by rw [hW0]; exact (Blk.new _ _ _).alloc _
  have hM : Blk W0 (w.heap.size + 1) 59 (zcells 0).toArray := by
    have := Blk.new (w.alloc (.cells #[.int .u8 t] 5)) 59 (zcells 0).toArray
    rw [World.size_alloc] at this
    rw [hW0]; exact this
  have hU0 : Upd [] w W0 := by rw [hW0]; exact ((Upd.refl [] w).alloc _).alloc _
  have hsz : W0.heap.size = w.heap.size + 1 + 1 := by rw [hW0]; simp
  rw [← hW0]
  obtain ⟨bx, hbx⟩ : ∃ bx, bx = w.heap.size := ⟨_, rfl⟩
  obtain ⟨mr, hmr⟩ : ∃ mr, mr = w.heap.size + 1 := ⟨_, rfl⟩
  have HMR : Hid (w.heap.size ≤ mr) := by rw [hmr]; exact Lib.hid (Nat.le_succ _)
  rw [← hmr] at hM ⊢
  rw [← hbx] at hB ⊢
  have HB := Lib.hid hB
  have HM := Lib.hid hM
  have HU0 := Lib.hid hU0
  have hbl := hB.lt
  have b0 : W0.cell? ⟨bx, 0, none⟩ = some (.int .u8 t) := hB.cell 0
  clear hW0 hbx hmr hB hM hU0 hsz h
  go_cut [8] (fun s8 wd => ∃ (rv rp c : Nat) (r' : Rw), s8 = .pointer (some ⟨rv, 0, none⟩) ∧ r'.xs = r.xs ∧ RdIs wd rv rp c w.heap.size count (zcells (kindM t count)) r' 0 ∧ (w.heap.size ≤ c ∧ w.heap.size ≤ rp) ∧ Upd [] W0 wd)
  case first =>
    go_region_held3 (fun w' => w'.cell? ⟨bx, 0, none⟩ = some (.int .u8 t)) (first | go_keep | exact b5 | exact ((((Upd.refl [W0.heap.size] w5).setCell (by simp) _).alloc _).cell (p := ⟨bx, 0, none⟩) hb5 (by simpa using nb7)).trans b5 | exact (((Upd.refl [] w5).alloc _).cell (p := ⟨bx, 0, none⟩) hb5 (by simp)).trans b5 | exact ((((Upd.refl [] w5).alloc _).alloc _).cell (p := ⟨bx, 0, none⟩) hb5 (by simp)).trans b5)
      (first
        | (go_at_call 41; refine (kind_any t count _).mono ?_; rintro e w6 ⟨rfl, rfl⟩)
        | (go_at_call 25; refine (HN.out _ (HU0.out.drewN 1)).mono ?_; rintro e w5 ⟨c, r', rfl, hx, hcut, hc0, hra, hu5⟩; have hU1 : Upd [] W0 w5 := ((Upd.refl [] W0).drewN 1).next hu5; have HX := Lib.hid (And.intro hx (And.intro hcut (And.intro hc0 hra))); have b5 : w5.cell? ⟨bx, 0, none⟩ = some (.int .u8 t) := (hU1.cell (p := ⟨bx, 0, none⟩) hbl (by simp)).trans b0; have hb5 : bx < w5.heap.size := Nat.lt_of_lt_of_le hbl hU1.size; have nb5 : bx ≠ w5.heap.size := Nat.ne_of_lt hb5; have nb6 : bx ≠ w5.heap.size + 1 := (by omega); have nb7 : bx ≠ W0.heap.size := Nat.ne_of_lt hbl; clear hx hcut hc0 hra hu5)
        | (go_at_call 25; refine (HN.out _ ((HU0.out.drewN 1).alloc (.cells #[.pointer none] 105))).mono ?_; rintro e w5 ⟨c, r', rfl, hx, hcut, hc0, hra, hu5⟩; have hU1 : Upd [] W0 w5 := (((Upd.refl [] W0).drewN 1).alloc _).next hu5; have hq : Blk w5 W0.heap.size 105 #[.pointer none] := (Blk.new (W0.drewN 1) 105 #[.pointer none]).upd hu5 (by simp); have q0 : w5.cell? ⟨W0.heap.size, 0, none⟩ = some (.pointer none) := hq.cell 0; have qf := hq.frozen 0; have ql := hq.lt; have HQ := Lib.hid hq; have HX := Lib.hid (And.intro hx (And.intro hcut (And.intro hc0 hra))); have b5 : w5.cell? ⟨bx, 0, none⟩ = some (.int .u8 t) := (hU1.cell (p := ⟨bx, 0, none⟩) hbl (by simp)).trans b0; have hb5 : bx < w5.heap.size := Nat.lt_of_lt_of_le hbl hU1.size; have nb5 : bx ≠ w5.heap.size := Nat.ne_of_lt hb5; have nb6 : bx ≠ w5.heap.size + 1 := (by omega); have nb7 : bx ≠ W0.heap.size := Nat.ne_of_lt hbl; clear hx hcut hc0 hra hu5 hq))
    all_goals
      obtain ⟨hx, hcut, hc0, hra⟩ := HX.out
      have hcl := hcut.lower (lo' := w.heap.size) (Nat.le_trans HU0.out.size (by simp))
      have HXX := Lib.hid hx
      have HCL := Lib.hid hcl
      have HRA := Lib.hid hra
      have HC0 := Lib.hid hc0
      have hcc : w.heap.size ≤ c := (by have h1 := hc0; have h2 := HU0.out.size; simp at h1; omega)
      have hrr : w.heap.size ≤ w5.heap.size := Nat.le_trans HU0.out.size hU1.size
      have HCC := Lib.hid (And.intro hcc hrr)
      clear hx hcut hcl hra hc0 HX hcc hrr
      go_wp2
      go_meet
      case rel =>
        first
          | exact ⟨_, _, c, r', rfl, HXX.out, rd1 HCL.out (fun a ha => (HRA.out a ha).2), HCC.out, (hU1.alloc _).alloc _⟩
          | exact ⟨_, _, c, r', rfl, HXX.out, rd2 HCL.out (fun a ha => (HRA.out a ha).2), ⟨HCC.out.1, Nat.le_succ_of_le HCC.out.2⟩, (hU1.alloc _).alloc _⟩
          | exact ⟨_, _, c, r', rfl, HXX.out, rd4 HCL.out (fun a ha => (HRA.out a ha).2) HQ.out (fun a ha => by have := (HRA.out a ha).1; simp at this; omega), HCC.out, (hU1.setCell (.inr (Nat.le_refl _)) _).alloc _⟩
  obtain ⟨rv, rp, c, r', rfl, hx, hrd, hnew, hu⟩ := hcut
  have HNEW := Lib.hid hnew
  clear hnew
  obtain ⟨M1, M2, M3, M4, M5, M6, M7, q1, q2, q3, q4, q5, q6, q7, hb7, hu7⟩ := fill wc bx rv
  have qm := run_makeMap_plain (P := Try.prog) wc 111
  have hrd7 := hrd.more hu7
  rw [HK.out] at hrd7
  have v0 : M7.cell? ⟨rv, 0, none⟩ = some (.pointer (some ⟨rp, 0, none⟩)) := hrd7.bv.cell 0
  have k0 : M7.cell? ⟨rp, 2, none⟩ = some (.int .i64 6) := hrd7.cellAt 0 rfl
  have ql := look hb7 6 6 (fv 51 #[.pointer (some ⟨bx, 0, none⟩), .pointer (some ⟨rv, 0, none⟩)]) rfl
  simp only [fv] at q1 q2 q3 q4 q5 q6 q7 ql
  have HC := Lib.hid (read7_any hrd7 ((HB.out.upd hu (by simp)).upd hu7 (by simp)) rfl)
  have HM7 := Lib.hid ((HM.out.upd hu (by simp)).upd hu7 (by simp))
  have NMC : Hid (mr ≠ c ∧ mr ≠ rp) := ⟨HM7.out.ne hrd7.cut.bl (by decide), HM7.out.ne hrd7.br (by decide)⟩
  have HU7 := Lib.hid ((HU0.out.next hu).next hu7)
  clear hx hrd hu hb7 hu7 hrd7 b0 HM HU0 HB hbl HN hl
  go_wp2_with fail
  refine HC.out.mono ?_
  rintro e w7 ⟨rfl, hrd, hu7⟩
  have hm7 : Blk w7 mr 59 (zcells 0).toArray := HM7.out.upd hu7 (by
    rw [List.mem_singleton]
    exact NMC.out.2)
  have v7 : w7.cell? ⟨rv, 0, none⟩ = some (.pointer (some ⟨rp, 0, none⟩)) := hrd.bv.cell 0
  have c7 : w7.cell? ⟨rp, 0, none⟩ = some (.pointer (some ⟨c, 0, none⟩)) := hrd.br.cell 0
  have rc0 : w7.cell? ⟨rp, 2, none⟩ = some (.int .i64 6) := hrd.cellAt 0 rfl
  have rc1 : w7.cell? ⟨rp, 3, none⟩ = some (.int .u32 0) := hrd.cellAt 1 rfl
  have rc2 : w7.cell? ⟨rp, 4, none⟩ = some (.int .u32 0) := hrd.cellAt 2 rfl
  have rc3 : w7.cell? ⟨rp, 5, none⟩ = some (.int .u64 0) := hrd.cellAt 3 rfl
  have rc4 : w7.cell? ⟨rp, 6, none⟩ = some (.int .u32 0) := hrd.cellAt 4 rfl
  have rc5 : w7.cell? ⟨rp, 7, none⟩ = some (.int .u32 0) := hrd.cellAt 5 rfl
  have rc6 : w7.cell? ⟨rp, 8, none⟩ = some (.int .u32 0) := hrd.cellAt 6 rfl
  have rc7 : w7.cell? ⟨rp, 9, none⟩ = some (.slice none 0 0) := hrd.cellAt 7 rfl
  have rc8 : w7.cell? ⟨rp, 10, none⟩ = some (.slice none 0 0) := hrd.cellAt 8 rfl
  have rc9 : w7.cell? ⟨rp, 11, none⟩ = some (.slice none 0 0) := hrd.cellAt 9 rfl
  have rc10 : w7.cell? ⟨rp, 12, none⟩ = some (.slice none 0 0) := hrd.cellAt 10 rfl
  have rc11 : w7.cell? ⟨rp, 13, none⟩ = some (.int .u8 t) := hrd.cellAt 11 rfl
  have HE := Lib.hid (err_any hrd.cut)
  have mc0 : w7.cell? ⟨mr, 0, none⟩ = some (.int .i64 0) := hm7.cell 0
  have mf0 := hm7.frozen 0
  have mc1 : w7.cell? ⟨mr, 1, none⟩ = some (.int .u32 0) := hm7.cell 1
  have mf1 := hm7.frozen 1
  have mc2 : w7.cell? ⟨mr, 2, none⟩ = some (.int .u32 0) := hm7.cell 2
  have mf2 := hm7.frozen 2
  have mc3 : w7.cell? ⟨mr, 3, none⟩ = some (.int .u64 0) := hm7.cell 3
  have mf3 := hm7.frozen 3
  have mc4 : w7.cell? ⟨mr, 4, none⟩ = some (.int .u32 0) := hm7.cell 4
  have mf4 := hm7.frozen 4
  have mc5 : w7.cell? ⟨mr, 5, none⟩ = some (.int .u32 0) := hm7.cell 5
  have mf5 := hm7.frozen 5
  have mc6 : w7.cell? ⟨mr, 6, none⟩ = some (.int .u32 0) := hm7.cell 6
  have mf6 := hm7.frozen 6
  have mc7 : w7.cell? ⟨mr, 7, none⟩ = some (.slice none 0 0) := hm7.cell 7
  have mf7 := hm7.frozen 7
  have mc8 : w7.cell? ⟨mr, 8, none⟩ = some (.slice none 0 0) := hm7.cell 8
  have mf8 := hm7.frozen 8
  have mc9 : w7.cell? ⟨mr, 9, none⟩ = some (.slice none 0 0) := hm7.cell 9
  have mf9 := hm7.frozen 9
  have mc10 : w7.cell? ⟨mr, 10, none⟩ = some (.slice none 0 0) := hm7.cell 10
  have mf10 := hm7.frozen 10
  have mc11 : w7.cell? ⟨mr, 11, none⟩ = some (.int .u8 0) := hm7.cell 11
  have mf11 := hm7.frozen 11
  have hmrp : mr ≠ rp := NMC.out.2
  have HU := Lib.hid (HU7.out.trans hu7 (fun s hs => .inr (by
    rw [List.mem_singleton] at hs
    subst hs
    exact HNEW.out.2)))
  clear hrd hm7 hu7 HC HM7 HU7 v0 k0 q1 q2 q3 q4 q5 q6 q7 ql qm
  go_wp2_with fail
  refine HE.out.mono ?_
  rintro e w8 ⟨rfl, rfl⟩
  clear HE
  go_wp2
  exact bodyPost_res (v := .tuple #[.agg #[.int .i64 6, .int .u32 0, .int .u32 0, .int .u64 0, .int .u32 0, .int .u32 0, .int .u32 0, .slice none 0 0, .slice none 0 0, .slice none 0 0, .slice none 0 0, .int .u8 t], .int .i64 0]) (by simp [results, Try.results30, go_sem, mc0, mc1, mc2, mc3, mc4, mc5, mc6, mc7, mc8, mc9, mc10, mc11]) rfl ⟨rfl, ((((((((((((HU.out.setCell (.inr HMR.out) _).setCell (.inr HMR.out) _).setCell (.inr HMR.out) _).setCell (.inr HMR.out) _).setCell (.inr HMR.out) _).setCell (.inr HMR.out) _).setCell (.inr HMR.out) _).setCell (.inr HMR.out) _).setCell (.inr HMR.out) _).setCell (.inr HMR.out) _).setCell (.inr HMR.out) _).setCell (.inr HMR.out) _)⟩
end Go.Proofs.Ytgkejdjdccgjbaa
/- rtcp's Parse, of nothing, and of one message. Conditions: no more than 1500 bytes; no padding; the message is one that is read. -/
namespace Go.Proofs.Ytgkejdjdccgjbaa
open Go Go.RowKit
set_option maxHeartbeats 400000

set_option maxRecDepth 100000 in
set_option maxHeartbeats 2000000 in
theorem parse_nil (w : World) : Calls Try.prog 14 #[.slice none 0 0] w fun e w' => e = .returned (.tuple #[.slice none 0 0, .int .i64 10]) ∧ Upd [] w w' := by
  have HN := Lib.hid (cut_new (w := w) (lo := 0) (r := ⟨none, 0, []⟩) RowIn.nil (by simp))
  unfold encR at HN
  dsimp only [List.length_nil] at HN
  go_enter Try.func14, Try.ntmps14
  go_wp2_with fail
  refine HN.out.mono ?_
  rintro e w1 ⟨c, r, rfl, hx, hcut, hc0, _, hu⟩
  have HC := Lib.hid hcut
  have HU := Lib.hid hu
  have HX := Lib.hid hx
  have HC0 := Lib.hid hc0
  clear hx hcut hc0 hu HN
  go_wp2
  go_loopg [5] 1 (fun gk x5 wr => x5 = .slice none 0 0 ∧ wr = w1)
  case atStart => exact ⟨rfl, rfl⟩
  case round =>
    obtain ⟨rfl, rfl⟩ := hrel
    have HL := Lib.hid (left_any HC.out)
    rw [HX.out] at HL
    dsimp only [List.length_nil] at HL
    have HB := Lib.hid (bytes_short HC.out 4 (by rw [HX.out]; decide))
    go_wp2_with fail
    refine HL.out.mono ?_
    rintro e w2 ⟨rfl, rfl⟩
    go_wp2_with fail
    refine HB.out.mono ?_
    rintro e w3 ⟨rfl, h3, hu3⟩
    have HE := Lib.hid (err_any h3)
    have HU3 := Lib.hid (HU.out.trans hu3 (fun s hs => .inr (by rw [List.mem_singleton] at hs; subst hs; exact HC0.out)))
    clear h3 hu3
    go_wp2_with fail
    refine HE.out.mono ?_
    rintro e w4 ⟨rfl, rfl⟩
    go_wp2
    exact bodyPost_res (v := .tuple #[.slice none 0 0, .int .i64 10]) (by simp [results, Try.results14, go_sem]) rfl ⟨rfl, HU3.out⟩
end Go.Proofs.Ytgkejdjdccgjbaa
/- rtcp's Parse of one message. Conditions: no more than 1500 bytes; no padding; the message is one that is read. -/
namespace Go.Proofs.Ytgkejdjdccgjbaa
open Go Go.RowKit
set_option maxHeartbeats 400000

theorem infoM : (Try.prog.info? 59).map (fun i => (i.zero, i.size, i.bytes)) = some (some (.agg (zcells 0).toArray), 12, 144) := by kernel_rfl
theorem bv64 (n : Nat) (h : n < 18446744073709551616) : (BitVec.ofInt 64 (n : Int)).toNat = n := by
  rw [BitVec.toNat_ofInt]
  omega
theorem or_int (x y : Int) (h0 : 0 ≤ x) (h1 : x ≤ 255) (h2 : 0 ≤ y) (h3 : y ≤ 255) : bits .or .i64 (x * 256) y = x * 256 + y := by
  obtain ⟨a, rfl⟩ : ∃ a : Nat, x = a := ⟨x.toNat, by omega⟩
  obtain ⟨b, rfl⟩ : ∃ b : Nat, y = b := ⟨y.toNat, by omega⟩
  have e : 256 * a ||| b = 256 * a + b := (Nat.two_pow_add_eq_or_of_lt (i := 8) (by omega) a).symm
  rw [show (a : Int) * 256 = ((256 * a : Nat) : Int) by omega]
  show IntKind.i64.wrap ((BitVec.ofInt 64 ((256 * a : Nat) : Int) ||| BitVec.ofInt 64 (b : Int)).toNat : Int) = _
  rw [BitVec.toNat_or, bv64 _ (by omega), bv64 _ (by omega), e]
  rw [IntWalk.i64_in _ (by omega)]
  omega
theorem set12_cell (w : World) (g : Nat) (v0 v1 v2 v3 v4 v5 v6 v7 v8 v9 v10 v11 : Value) {p : Addr} {u : Value} (hp : p.block ≠ g) (h : w.cell? p = some u) : ((((((((((((w.setCell ⟨g, 0, none⟩ v0).setCell ⟨g, 1, none⟩ v1).setCell ⟨g, 2, none⟩ v2).setCell ⟨g, 3, none⟩ v3).setCell ⟨g, 4, none⟩ v4).setCell ⟨g, 5, none⟩ v5).setCell ⟨g, 6, none⟩ v6).setCell ⟨g, 7, none⟩ v7).setCell ⟨g, 8, none⟩ v8).setCell ⟨g, 9, none⟩ v9).setCell ⟨g, 10, none⟩ v10).setCell ⟨g, 11, none⟩ v11).cell? p = some u := by
  rw [World.cell?_setCell_far _ _ _ _ (by exact hp.symm), World.cell?_setCell_far _ _ _ _ (by exact hp.symm), World.cell?_setCell_far _ _ _ _ (by exact hp.symm), World.cell?_setCell_far _ _ _ _ (by exact hp.symm), World.cell?_setCell_far _ _ _ _ (by exact hp.symm), World.cell?_setCell_far _ _ _ _ (by exact hp.symm), World.cell?_setCell_far _ _ _ _ (by exact hp.symm), World.cell?_setCell_far _ _ _ _ (by exact hp.symm), World.cell?_setCell_far _ _ _ _ (by exact hp.symm), World.cell?_setCell_far _ _ _ _ (by exact hp.symm), World.cell?_setCell_far _ _ _ _ (by exact hp.symm), World.cell?_setCell_far _ _ _ _ (by exact hp.symm)]
  exact h
theorem set12_upd {S : List Nat} {a w : World} (g : Nat) (v0 v1 v2 v3 v4 v5 v6 v7 v8 v9 v10 v11 : Value) (h : Upd S a w) (hg : g ∈ S ∨ a.heap.size ≤ g) : Upd S a ((((((((((((w.setCell ⟨g, 0, none⟩ v0).setCell ⟨g, 1, none⟩ v1).setCell ⟨g, 2, none⟩ v2).setCell ⟨g, 3, none⟩ v3).setCell ⟨g, 4, none⟩ v4).setCell ⟨g, 5, none⟩ v5).setCell ⟨g, 6, none⟩ v6).setCell ⟨g, 7, none⟩ v7).setCell ⟨g, 8, none⟩ v8).setCell ⟨g, 9, none⟩ v9).setCell ⟨g, 10, none⟩ v10).setCell ⟨g, 11, none⟩ v11) :=
  (((((((((((h.setCell (p := ⟨g, 0, none⟩) hg _).setCell (p := ⟨g, 1, none⟩) hg _).setCell (p := ⟨g, 2, none⟩) hg _).setCell (p := ⟨g, 3, none⟩) hg _).setCell (p := ⟨g, 4, none⟩) hg _).setCell (p := ⟨g, 5, none⟩) hg _).setCell (p := ⟨g, 6, none⟩) hg _).setCell (p := ⟨g, 7, none⟩) hg _).setCell (p := ⟨g, 8, none⟩) hg _).setCell (p := ⟨g, 9, none⟩) hg _).setCell (p := ⟨g, 10, none⟩) hg _).setCell (p := ⟨g, 11, none⟩) hg _
theorem set12_blk {w : World} {g : Nat} {t : TypeId} (u0 u1 u2 u3 u4 u5 u6 u7 u8 u9 u10 u11 v0 v1 v2 v3 v4 v5 v6 v7 v8 v9 v10 v11 : Value) (h : Blk w g t #[u0, u1, u2, u3, u4, u5, u6, u7, u8, u9, u10, u11]) : Blk ((((((((((((w.setCell ⟨g, 0, none⟩ v0).setCell ⟨g, 1, none⟩ v1).setCell ⟨g, 2, none⟩ v2).setCell ⟨g, 3, none⟩ v3).setCell ⟨g, 4, none⟩ v4).setCell ⟨g, 5, none⟩ v5).setCell ⟨g, 6, none⟩ v6).setCell ⟨g, 7, none⟩ v7).setCell ⟨g, 8, none⟩ v8).setCell ⟨g, 9, none⟩ v9).setCell ⟨g, 10, none⟩ v10).setCell ⟨g, 11, none⟩ v11) g t #[v0, v1, v2, v3, v4, v5, v6, v7, v8, v9, v10, v11] := by
  have := (((((((((((h.store 0 v0).store 1 v1).store 2 v2).store 3 v3).store 4 v4).store 5 v5).store 6 v6).store 7 v7).store 8 v8).store 9 v9).store 10 v10).store 11 v11
  simpa using this
set_option maxRecDepth 100000 in
set_option maxHeartbeats 1000000 in
theorem parse_one {w : World} {lo : Nat} {r : Rw} (h : RowIn w lo .u8 r) (x0 x1 x2 x3 : Int) (body : List Int) (hr : r.xs = x0 :: x1 :: x2 :: x3 :: body) (hl : body.length ≤ 1000) (hb : Byt r.xs)
    (h0 : 128 ≤ x0 ∧ x0 < 160) (h1 : 192 ≤ x1 ∧ x1 ≤ 223) (hn : 4 * (x2 * 256 + x3) = body.length) (m : Mg) (hd : Hd)
    (HRead : ∀ (W : World) (lo' : Nat) (q : Rw), RowIn W lo' .u8 q → q.xs = body → Calls Try.prog 30 #[.int .u8 x1, .int .i64 (x0 % 32), encR q] W fun e w' => e = .returned (.tuple #[.agg (mcells m hd).toArray, .int .i64 0]) ∧ Upd [] W w') :
    Calls Try.prog 14 #[encR r] w fun e w' => ∃ v, e = .returned (.tuple #[v, .int .i64 0]) ∧ w'.ownsRow w.heap.size 59 12 v 1 (mcells m hd) ∧ Upd [] w w' := by
  obtain ⟨j0, hj0, hy0, hy1, hy2⟩ := info_parts infoM
  have hbx0 := hb x0 (by rw [hr]; simp)
  have hbx1 := hb x1 (by rw [hr]; simp)
  have hbx2 := hb x2 (by rw [hr]; simp)
  have hbx3 := hb x3 (by rw [hr]; simp)
  have hlr : r.xs.length = body.length + 4 := by rw [hr]; simp
  have HN := Lib.hid (cut_new h (by omega))
  have HRD := Lib.hid HRead
  simp only [mcells] at HRD ⊢
  have HR := Lib.hid hr
  have hbl : (r.xs.length : Int) ≤ 1004 := by omega
  have hbp : (0 : Int) < (r.xs.length : Int) := by omega
  have hL4 : 4 ≤ r.xs.length := by omega
  have hnb : ¬ (1500 : Int) < (r.xs.length : Int) := by omega
  obtain ⟨L, hL⟩ : ∃ L, L = r.xs.length := ⟨_, rfl⟩
  unfold encR at HN ⊢
  have HLL := Lib.hid hL
  rw [← hL] at HN hbl hbp hnb hL4 ⊢
  clear h hb hr HRead hlr hL
  go_enter Try.func14, Try.ntmps14
  go_wp2_with fail
  refine HN.out.mono ?_
  rintro e w1 ⟨c, ra, rfl, hx, hcut, hc0, hra, hu⟩
  have HC := Lib.hid hcut
  have HU := Lib.hid hu
  have HX := Lib.hid hx
  have HC0 := Lib.hid hc0
  clear hx hcut hc0 hu HN hra
  go_wp2
  go_loopg [5] 2 (fun gk x5 wr => (1 ≤ gk ∧ x5 = .slice none 0 0 ∧ wr = w1) ∨ ∃ (re : Rw), re.xs = [] ∧ CutIs wr c w.heap.size re 0 ∧ wr.ownsRow w.heap.size 59 12 x5 1 [.int .i64 m.kind, .int .u32 m.ssrc, .int .u32 m.media, .int .u64 m.clock, .int .u32 m.time, .int .u32 m.packets, .int .u32 m.bytes, .slice hd.rA m.reports.length hd.rc, .slice hd.wA m.who.length hd.wc, .slice hd.pA m.pairs.length hd.pc, .slice hd.aA m.asks.length hd.ac, .int .u8 m.type] ∧ Upd [] w wr)
  case atStart => exact .inl ⟨by decide, rfl, rfl⟩
  case round =>
    rcases hrel with ⟨hgk, rfl, rfl⟩ | ⟨re, hre, hce, hoe, hue⟩
    · have HL := Lib.hid (left_any HC.out)
      have hla : ra.xs.length = L := by rw [HX.out, HLL.out]
      rw [hla] at HL
      have HB := Lib.hid (bytes_yes HC.out 4 (by rw [hla]; omega))
      clear hla
      go_wp2_with fail
      refine HL.out.mono ?_
      rintro e w2 ⟨rfl, rfl⟩
      go_wp2_with fail
      refine HB.out.mono ?_
      rintro e w2 ⟨q, rb, rfl, hq1, hq2, hq3, hq4, hq5, hq6, _, hq7⟩
      have hqx : q.xs = [x0, x1, x2, x3] := by rw [hq1, HX.out, HR.out]; rfl
      have hrb : rb.xs = body := by rw [hq3, HX.out, HR.out]; rfl
      obtain ⟨b, off, hA, hbb1, hbb2, hcc⟩ := hq4.at (by rw [hqx]; simp)
      have HIS := Lib.hid (is_any hq4 (by rw [hqx]; intro z hz; simp at hz; rcases hz with rfl | rfl | rfl | rfl <;> assumption))
      have hism : isM q.xs = true := by rw [hqx]; simp [isM]; omega
      rw [hism] at HIS
      have hbc : b ≠ c := (hq5 _ hA).1
      obtain ⟨qA, qc, qx⟩ := q
      dsimp only at hqx hA hq2
      subst hqx
      subst hA
      subst hq2
      have e0 := hcc 0 x0 rfl
      have e1 := hcc 1 x1 rfl
      have e2 := hcc 2 x2 rfl
      have e3 := hcc 3 x3 rfl
      rw [Nat.add_zero] at e0
      have HE := Lib.hid (err_any hq6)
      have HC2 := Lib.hid hq6
      have HRB := Lib.hid hrb
      have HU2 := Lib.hid (HU.out.trans hq7 (fun s hs => .inr (by rw [List.mem_singleton] at hs; subst hs; exact HC0.out)))
      clear hq1 hq3 hq4 hq5 hq6 hq7 hism hcc hrb HB HL
      unfold encR at HIS ⊢
      dsimp only [List.length_cons, List.length_nil] at HIS ⊢
      go_wp2_with fail
      refine HE.out.mono ?_
      rintro e w3 ⟨rfl, rfl⟩
      go_wp2_with fail
      refine HIS.out.mono ?_
      rintro e w3 ⟨rfl, rfl⟩
      go_wp2_with fail
      have ho := or_int x2 x3 hbx2.1 hbx2.2 hbx3.1 hbx3.2
      have hx2a := hbx2.1
      have hx2b := hbx2.2
      have hx3a := hbx3.1
      have hx3b := hbx3.2
      refine wp_moves_quiet_tail 1 12 (by kernel_rfl) (by kernel_rfl) (fun _ _ _ _ h => h) ?_
      simp only [List.take_succ_cons, List.take_zero, List.drop_succ_cons, List.drop_zero]
      repeat (go_big_quiet_step (fail))
      refine wpQuiet_nil (show wpQuiet _ _ _ _ _ _ from ?_)
      repeat (go_big_quiet_step (fail))
      refine wpQuiet_nil ?_
      rintro _ ⟨nq, rfl⟩
      have HB := Lib.hid (bytes_yes (HC2.out.more ((Upd.refl [] w2).drewN nq)) body.length (by rw [HRB.out]; exact Nat.le_refl _))
      go_wp2_with fail
      refine HB.out.mono ?_
      rintro e w4 ⟨q, rd, rfl, hq1, hq2, hq3, hq4, hq5, hq6, _, hq7⟩
      have hqx : q.xs = body := by rw [hq1, HRB.out, List.take_of_length_le (Nat.le_refl _)]
      have hrd : rd.xs = [] := by rw [hq3, HRB.out, List.drop_of_length_le (Nat.le_refl _)]
      obtain ⟨A2, k2, qx⟩ := q
      dsimp only at hqx hq2
      subst hqx
      subst hq2
      have hk : ∀ p : Addr, p.block = b → w4.cell? p = w2.cell? p := fun p hp => hq7.cell (w := w2.drewN nq) (by rw [hp]; exact hbb2) (by rw [hp]; simpa using hbc)
      have f0 := (hk ⟨b, off, none⟩ rfl).trans e0
      have f1 := (hk ⟨b, off + 1, none⟩ rfl).trans e1
      have hbb4 : b < w4.heap.size := Nat.lt_of_lt_of_le hbb2 hq7.size
      have nb4 : b ≠ w4.heap.size := Nat.ne_of_lt hbb4
      have ha0 : bits .and .u8 x0 32 = 0 := by rw [and32 x0 hbx0.1 hbx0.2]; omega
      have ha1 := and31 x0 hbx0.1 hbx0.2
      have ha2 : IntKind.i64.wrap (x0 % 32) = x0 % 32 := IntWalk.i64_in _ (by omega)
      have HE2 := Lib.hid (err_any hq6)
      have HC4 := Lib.hid hq6
      have HRW := Lib.hid hq4
      have HRE := Lib.hid hrd
      have HU4 := Lib.hid ((HU2.out.drewN nq).trans hq7 (fun s hs => .inr (by rw [List.mem_singleton] at hs; subst hs; exact HC0.out)))
      unfold encR
      dsimp only
      clear hq1 hq3 hq4 hq5 hq6 hq7 hrd HB HC2 HU2 e0 e1 e2 e3 hk ho hn
      go_wp2_with fail
      refine HE2.out.mono ?_
      rintro e w5 ⟨rfl, rfl⟩
      go_upto_region 21 with fail
      have HRD2 := Lib.hid (fun (W : World) (hW : Upd [] w4 W) => HRD.out W w.heap.size ⟨A2, qx.length, qx⟩ (HRW.out.upd2 hW (by simp)) rfl)
      simp only [encR] at HRD2
      go_cut [12, 13] (fun s12 s13 wd => ∃ bx, s12 = .pointer (some ⟨bx, 0, none⟩) ∧ s13 = .int .i64 0 ∧ Blk wd bx 59 #[.int .i64 m.kind, .int .u32 m.ssrc, .int .u32 m.media, .int .u64 m.clock, .int .u32 m.time, .int .u32 m.packets, .int .u32 m.bytes, .slice hd.rA m.reports.length hd.rc, .slice hd.wA m.who.length hd.wc, .slice hd.pA m.pairs.length hd.pc, .slice hd.aA m.asks.length hd.ac, .int .u8 m.type] ∧ w4.heap.size ≤ bx ∧ Upd [] w4 wd)
      case first =>
        go_region_held3 (fun w' => w'.cell? ⟨b, off, none⟩ = some (.int .u8 x0) ∧ w'.cell? ⟨b, off + 1, none⟩ = some (.int .u8 x1)) (first | (have hh := HQ; first | (with_reducible exact ⟨g0, g1⟩) | (with_reducible exact ⟨set12_cell _ _ _ _ _ _ _ _ _ _ _ _ _ _ nb4 g0, set12_cell _ _ _ _ _ _ _ _ _ _ _ _ _ _ nb4 g1⟩)) | (have hh := HArmA; first | (with_reducible exact ⟨g0, g1⟩) | (with_reducible exact ⟨(((Upd.refl [] w6).alloc _).cell (p := ⟨b, off, none⟩) hbb6 (by simp)).trans g0, (((Upd.refl [] w6).alloc _).cell (p := ⟨b, off + 1, none⟩) hbb6 (by simp)).trans g1⟩)| go_keep) | go_keep)
          (first
            | (go_at_call 30; have hx9 := HRD2.out w4.drew ((Upd.refl [] w4).drewN 1); refine hx9.mono ?_; clear hx9; rintro e w6 ⟨rfl, hu6⟩; have hU1 : Upd [] w4 w6 := ((Upd.refl [] w4).drewN 1).next hu6; have g0 := (hU1.cell (p := ⟨b, off, none⟩) hbb4 (by simp)).trans f0; have g1 := (hU1.cell (p := ⟨b, off + 1, none⟩) hbb4 (by simp)).trans f1; have hbb6 : b < w6.heap.size := Nat.lt_of_lt_of_le hbb4 hU1.size; have HArmA := Lib.hid (True.intro); clear hu6)
            | (go_at_call 30; have hx9 := HRD2.out (w4.drew.alloc (.cells #[.int .i64 0, .int .u32 0, .int .u32 0, .int .u64 0, .int .u32 0, .int .u32 0, .int .u32 0, .slice none 0 0, .slice none 0 0, .slice none 0 0, .slice none 0 0, .int .u8 0] 59)) (((Upd.refl [] w4).drewN 1).alloc _); refine hx9.mono ?_; clear hx9; rintro e w6 ⟨rfl, hu6⟩; have hU1 : Upd [] w4 w6 := (((Upd.refl [] w4).drewN 1).alloc _).next hu6; have g0 := (hU1.cell (p := ⟨b, off, none⟩) hbb4 (by simp)).trans f0; have g1 := (hU1.cell (p := ⟨b, off + 1, none⟩) hbb4 (by simp)).trans f1; have hbb6 : b < w6.heap.size := Nat.lt_of_lt_of_le hbb4 hU1.size; have hq : Blk w6 w4.heap.size 59 (zcells 0).toArray := (Blk.new (w4.drewN 1) 59 (zcells 0).toArray).upd hu6 (by simp); have m0 : w6.cell? ⟨w4.heap.size, 0, none⟩ = some (.int .i64 0) := hq.cell 0; have n0 := hq.frozen 0; have m1 : w6.cell? ⟨w4.heap.size, 1, none⟩ = some (.int .u32 0) := hq.cell 1; have n1 := hq.frozen 1; have m2 : w6.cell? ⟨w4.heap.size, 2, none⟩ = some (.int .u32 0) := hq.cell 2; have n2 := hq.frozen 2; have m3 : w6.cell? ⟨w4.heap.size, 3, none⟩ = some (.int .u64 0) := hq.cell 3; have n3 := hq.frozen 3; have m4 : w6.cell? ⟨w4.heap.size, 4, none⟩ = some (.int .u32 0) := hq.cell 4; have n4 := hq.frozen 4; have m5 : w6.cell? ⟨w4.heap.size, 5, none⟩ = some (.int .u32 0) := hq.cell 5; have n5 := hq.frozen 5; have m6 : w6.cell? ⟨w4.heap.size, 6, none⟩ = some (.int .u32 0) := hq.cell 6; have n6 := hq.frozen 6; have m7 : w6.cell? ⟨w4.heap.size, 7, none⟩ = some (.slice none 0 0) := hq.cell 7; have n7 := hq.frozen 7; have m8 : w6.cell? ⟨w4.heap.size, 8, none⟩ = some (.slice none 0 0) := hq.cell 8; have n8 := hq.frozen 8; have m9 : w6.cell? ⟨w4.heap.size, 9, none⟩ = some (.slice none 0 0) := hq.cell 9; have n9 := hq.frozen 9; have m10 : w6.cell? ⟨w4.heap.size, 10, none⟩ = some (.slice none 0 0) := hq.cell 10; have n10 := hq.frozen 10; have m11 : w6.cell? ⟨w4.heap.size, 11, none⟩ = some (.int .u8 0) := hq.cell 11; have n11 := hq.frozen 11; have hql := hq.lt; have HQ := Lib.hid hq; clear hu6 hq))
        all_goals clear f0 f1 HRD2 HRD HRW
        all_goals go_wp2
        all_goals go_meet
        all_goals
          first
            | (have hh := HArmA; exact ⟨w6.heap.size, rfl, rfl, Blk.new _ _ _, hU1.size, hU1.alloc _⟩)
            | (have hh := HQ; exact ⟨w4.heap.size, rfl, rfl, set12_blk _ _ _ _ _ _ _ _ _ _ _ _ _ _ _ _ _ _ _ _ _ _ _ _ HQ.out, Nat.le_refl _, set12_upd _ _ _ _ _ _ _ _ _ _ _ _ _ hU1 (.inr (Nat.le_refl _))⟩)
      obtain ⟨bx, rfl, rfl, hblk, hbx, hud⟩ := hcut
      have z0 : wc.cell? ⟨bx, 0, none⟩ = some (.int .i64 m.kind) := hblk.cell 0
      have z1 : wc.cell? ⟨bx, 1, none⟩ = some (.int .u32 m.ssrc) := hblk.cell 1
      have z2 : wc.cell? ⟨bx, 2, none⟩ = some (.int .u32 m.media) := hblk.cell 2
      have z3 : wc.cell? ⟨bx, 3, none⟩ = some (.int .u64 m.clock) := hblk.cell 3
      have z4 : wc.cell? ⟨bx, 4, none⟩ = some (.int .u32 m.time) := hblk.cell 4
      have z5 : wc.cell? ⟨bx, 5, none⟩ = some (.int .u32 m.packets) := hblk.cell 5
      have z6 : wc.cell? ⟨bx, 6, none⟩ = some (.int .u32 m.bytes) := hblk.cell 6
      have z7 : wc.cell? ⟨bx, 7, none⟩ = some (.slice hd.rA m.reports.length hd.rc) := hblk.cell 7
      have z8 : wc.cell? ⟨bx, 8, none⟩ = some (.slice hd.wA m.who.length hd.wc) := hblk.cell 8
      have z9 : wc.cell? ⟨bx, 9, none⟩ = some (.slice hd.pA m.pairs.length hd.pc) := hblk.cell 9
      have z10 : wc.cell? ⟨bx, 10, none⟩ = some (.slice hd.aA m.asks.length hd.ac) := hblk.cell 10
      have z11 : wc.cell? ⟨bx, 11, none⟩ = some (.int .u8 m.type) := hblk.cell 11
      have HCD := Lib.hid (HC4.out.more hud)
      have HUD := Lib.hid (HU4.out.next (hud.more (by simp)))
      clear hblk hud HRD2 HRD HRW HC4 HU4 f0 f1 HE2 HIS HE
      go_wp2_with (at_builtin; refine wpList_append_own_at _ rfl (.tmp 87) (.tmp 89) 22 rfl w.heap.size 59 j0 _ 12 144 Try.underlying22 hj0 hy0 hy1 hy2 rfl (by decide) _ 0 [] rfl (World.ownsRow_nil _ _ _ _) ⟨wc.heap.size, 0, none⟩ 1 1 [.int .i64 m.kind, .int .u32 m.ssrc, .int .u32 m.media, .int .u64 m.clock, .int .u32 m.time, .int .u32 m.packets, .int .u32 m.bytes, .slice hd.rA m.reports.length hd.rc, .slice hd.wA m.who.length hd.wc, .slice hd.pA m.pairs.length hd.pc, .slice hd.aA m.asks.length hd.ac, .int .u8 m.type] rfl rfl ?u1 ?u2 ?u3 ?u4 ?u5 ?_)
      case u1 => exact blk_src (Blk.new wc 59 _)
      case u2 => intro u hu; repeat (first | (rcases List.mem_cons.1 hu with rfl | hu; · rfl) | cases hu)
      case u3 => unfold maxLen; omega
      case u4 => omega
      case u5 => simp; have := HUD.out.size; omega
      intro v4 w4' hown4 hg4 _ hat4
      have hu4 : Upd [] (wc.alloc (.cells ([.int .i64 m.kind, .int .u32 m.ssrc, .int .u32 m.media, .int .u64 m.clock, .int .u32 m.time, .int .u32 m.packets, .int .u32 m.bytes, .slice hd.rA m.reports.length hd.rc, .slice hd.wA m.who.length hd.wc, .slice hd.pA m.pairs.length hd.pc, .slice hd.aA m.asks.length hd.ac, .int .u8 m.type] : List Value).toArray 59)) w4' := (Upd.of_grown hg4).more (by simp [Value.ownBlock])
      have HF := Lib.hid (And.intro (((HCD.out.more ((Upd.refl [] wc).alloc _)).more hu4)) (And.intro hown4 ((HUD.out.alloc _).next hu4)))
      clear hown4 hg4 hat4 hu4 HCD HUD z0 z1 z2 z3 z4 z5 z6 z7 z8 z9 z10 z11
      go_wp2
      go_roundg (gk - 1)
      case rel => exact .inr ⟨rd, HRE.out, HF.out⟩
      case measure => omega
    · obtain ⟨rA, rc, rx⟩ := re
      dsimp only at hre
      subst hre
      have HL := Lib.hid (left_any hce)
      have HH := Lib.hid (And.intro hoe hue)
      clear hoe hue
      dsimp only [List.length_nil] at HL
      have hL0 : ¬ (L : Int) = 0 := by omega
      clear hce HRD HC0
      go_wp2_with fail
      refine HL.out.mono ?_
      rintro e w2 ⟨rfl, rfl⟩
      go_wp2
      exact bodyPost_res (v := .tuple #[u5, .int .i64 0]) (by simp [results, Try.results14, go_sem]) rfl ⟨_, rfl, HH.out⟩
end Go.Proofs.Ytgkejdjdccgjbaa
/- rtcp's read, whatever the kind but others: by the kind's closure. Conditions: bytes, no more than 100000. (Written by wip/gen/rtcpreadg.py.) -/
namespace Go.Proofs.Ytgkejdjdccgjbaa
open Go Go.RowKit
set_option maxHeartbeats 400000

def mZ : Mg := ⟨0, 0, 0, 0, 0, 0, 0, [], [], [], [], 0⟩
def hZ : Hd := ⟨none, 0, none, 0, none, 0, none, 0⟩
/-- what read answers, of what the closure made -/
def finM (q : Mg × (List Int × Int)) : Mg × Int :=
  if q.2.2 = 0 then (if (q.1.kind = 3 ∧ q.1.pairs.length = 0) ∨ (q.1.kind = 5 ∧ q.1.asks.length = 0) then (mZ, 11) else (q.1, 0)) else (mZ, q.2.2)
theorem mgIn_z (w : World) (lo : Nat) : MgIn w lo mZ hZ := ⟨CellsIn.nil _ _ _ _ _, CellsIn.nil _ _ _ _ _, CellsIn.nil _ _ _ _ _, CellsIn.nil _ _ _ _ _⟩
theorem MgIn.upd {w w' : World} {lo lo' : Nat} {S : List Nat} {m : Mg} {h : Hd} (k : MgIn w lo m h) (u : Upd S w w') (hS : ∀ s, s ∈ S → 0 < m.reports.length → ∀ a, h.rA = some a → a.block ≠ s) (hS2 : ∀ s, s ∈ S → 0 < m.who.length → ∀ a, h.wA = some a → a.block ≠ s)
    (hS3 : ∀ s, s ∈ S → 0 < m.pairs.length → ∀ a, h.pA = some a → a.block ≠ s) (hS4 : ∀ s, s ∈ S → 0 < m.asks.length → ∀ a, h.aA = some a → a.block ≠ s) (hl : lo' ≤ lo) : MgIn w' lo' m h :=
  ⟨(k.cr.upd2 u (Nat.le_refl _) hS).more hl u.size, (k.cw.upd2 u (Nat.le_refl _) hS2).more hl u.size, (k.cp.upd2 u (Nat.le_refl _) hS3).more hl u.size, (k.ca.upd2 u (Nat.le_refl _) hS4).more hl u.size⟩
/-- rows that lie behind a block are as they were when it is written -/
theorem MgIn.behind {w w' : World} {lo lo' g : Nat} {m : Mg} {h : Hd} (k : MgIn w lo m h) (u : Upd [g] w w') (hg : g < lo) (hl : lo' ≤ lo) : MgIn w' lo' m h :=
  k.upd u (fun s hs hn a ha e => by have := k.cr.fresh hn a ha; rw [List.mem_singleton] at hs; omega) (fun s hs hn a ha e => by have := k.cw.fresh hn a ha; rw [List.mem_singleton] at hs; omega)
    (fun s hs hn a ha e => by have := k.cp.fresh hn a ha; rw [List.mem_singleton] at hs; omega) (fun s hs hn a ha e => by have := k.ca.fresh hn a ha; rw [List.mem_singleton] at hs; omega) hl
set_option maxRecDepth 100000 in
set_option maxHeartbeats 8000000 in
theorem read_gen {w : World} {lo : Nat} {r : Rw} (h : RowIn w lo .u8 r) (hl : r.xs.length ≤ 100000) (t count : Int) (k : Int) (hk : kindM t count = k) (F : FuncId) (q : Mg × (List Int × Int))
    (hF6 : (k = 0 ∧ F = 42) ∨ (k = 1 ∧ F = 46) ∨ (k = 2 ∧ F = 47) ∨ (k = 3 ∧ F = 48) ∨ (k = 4 ∧ F = 49) ∨ (k = 5 ∧ F = 50)) (hqk : q.1.kind = k)
    (HCL : ∀ (W : World) (rv rp c lo' : Nat) (r' : Rw), RdIs W rv rp c lo' count (zcells k) r' 0 → r'.xs = r.xs → (∀ a, r'.A = some a → a.block < W.heap.size) → Calls Try.prog F #[.pointer (some ⟨rv, 0, none⟩)] W fun e w' => ∃ r'' hd, e = .returned (.tuple #[]) ∧ RdIs w' rv rp c lo' count (mcells q.1 hd) r'' q.2.2 ∧ MgIn w' W.heap.size q.1 hd ∧ Upd [c, rp] W w') :
    Calls Try.prog 30 #[.int .u8 t, .int .i64 count, encR r] w fun e w' => ∃ hd, e = .returned (.tuple #[.agg (mcells (finM q).1 hd).toArray, .int .i64 (finM q).2]) ∧ MgIn w' w.heap.size (finM q).1 hd ∧ Upd [] w w' := by
  have HCLO := Lib.hid HCL
  have HF6 := Lib.hid hF6
  clear HCL hF6
  obtain ⟨W0, hW0⟩ : ∃ W0, W0 = (w.alloc (.cells #[.int .u8 t] 5)).alloc (.cells (zcells 0).toArray 59) := ⟨_, rfl⟩
  have HK := Lib.hid hk
  clear hk
  have HN := Lib.hid (fun W : World => fun (hW : Upd [] w W) => cut_new (h.upd2 hW (by simp)) hl)
  unfold encR at HN ⊢
  unfold zcells at hW0
  go_enter Try.func30, Try.ntmps30
  go_upto_region 1 with fail
  have hB : Blk W0 w.heap.size 5 #[.int .u8 t] := by rw [hW0]; exact (Blk.new _ _ _).alloc _
  have hM : Blk W0 (w.heap.size + 1) 59 (zcells 0).toArray := by
    have := Blk.new (w.alloc (.cells #[.int .u8 t] 5)) 59 (zcells 0).toArray
    rw [World.size_alloc] at this
    rw [hW0]; exact this
  have hU0 : Upd [] w W0 := by rw [hW0]; exact ((Upd.refl [] w).alloc _).alloc _
  have hsz : W0.heap.size = w.heap.size + 1 + 1 := by rw [hW0]; simp
  rw [← hW0]
  obtain ⟨bx, hbx⟩ : ∃ bx, bx = w.heap.size := ⟨_, rfl⟩
  obtain ⟨mr, hmr⟩ : ∃ mr, mr = w.heap.size + 1 := ⟨_, rfl⟩
  have HMR : Hid (w.heap.size ≤ mr) := by rw [hmr]; exact Lib.hid (Nat.le_succ _)
  rw [← hmr] at hM ⊢
  rw [← hbx] at hB ⊢
  have HB := Lib.hid hB
  have HM := Lib.hid hM
  have HU0 := Lib.hid hU0
  have hbl := hB.lt
  have b0 : W0.cell? ⟨bx, 0, none⟩ = some (.int .u8 t) := hB.cell 0
  clear hW0 hbx hmr hB hM hU0 hsz h
  go_cut [8] (fun s8 wd => ∃ (rv rp c : Nat) (r' : Rw), s8 = .pointer (some ⟨rv, 0, none⟩) ∧ r'.xs = r.xs ∧ RdIs wd rv rp c w.heap.size count (zcells (kindM t count)) r' 0 ∧ (w.heap.size ≤ c ∧ w.heap.size ≤ rp) ∧ (∀ a, r'.A = some a → a.block < wd.heap.size) ∧ Upd [] W0 wd)
  case first =>
    go_region_held3 (fun w' => w'.cell? ⟨bx, 0, none⟩ = some (.int .u8 t)) (first | go_keep | exact b5 | exact ((((Upd.refl [W0.heap.size] w5).setCell (by simp) _).alloc _).cell (p := ⟨bx, 0, none⟩) hb5 (by simpa using nb7)).trans b5 | exact (((Upd.refl [] w5).alloc _).cell (p := ⟨bx, 0, none⟩) hb5 (by simp)).trans b5 | exact ((((Upd.refl [] w5).alloc _).alloc _).cell (p := ⟨bx, 0, none⟩) hb5 (by simp)).trans b5)
      (first
        | (go_at_call 41; refine (kind_any t count _).mono ?_; rintro e w6 ⟨rfl, rfl⟩)
        | (go_at_call 25; refine (HN.out _ (HU0.out.drewN 1)).mono ?_; rintro e w5 ⟨c, r', rfl, hx, hcut, hc0, hra, hu5⟩; have hU1 : Upd [] W0 w5 := ((Upd.refl [] W0).drewN 1).next hu5; have HX := Lib.hid (And.intro hx (And.intro hcut (And.intro hc0 hra))); have b5 : w5.cell? ⟨bx, 0, none⟩ = some (.int .u8 t) := (hU1.cell (p := ⟨bx, 0, none⟩) hbl (by simp)).trans b0; have hb5 : bx < w5.heap.size := Nat.lt_of_lt_of_le hbl hU1.size; have nb5 : bx ≠ w5.heap.size := Nat.ne_of_lt hb5; have nb6 : bx ≠ w5.heap.size + 1 := (by omega); have nb7 : bx ≠ W0.heap.size := Nat.ne_of_lt hbl; clear hx hcut hc0 hra hu5)
        | (go_at_call 25; refine (HN.out _ ((HU0.out.drewN 1).alloc (.cells #[.pointer none] 105))).mono ?_; rintro e w5 ⟨c, r', rfl, hx, hcut, hc0, hra, hu5⟩; have hU1 : Upd [] W0 w5 := (((Upd.refl [] W0).drewN 1).alloc _).next hu5; have hq : Blk w5 W0.heap.size 105 #[.pointer none] := (Blk.new (W0.drewN 1) 105 #[.pointer none]).upd hu5 (by simp); have q0 : w5.cell? ⟨W0.heap.size, 0, none⟩ = some (.pointer none) := hq.cell 0; have qf := hq.frozen 0; have ql := hq.lt; have HQ := Lib.hid hq; have HX := Lib.hid (And.intro hx (And.intro hcut (And.intro hc0 hra))); have b5 : w5.cell? ⟨bx, 0, none⟩ = some (.int .u8 t) := (hU1.cell (p := ⟨bx, 0, none⟩) hbl (by simp)).trans b0; have hb5 : bx < w5.heap.size := Nat.lt_of_lt_of_le hbl hU1.size; have nb5 : bx ≠ w5.heap.size := Nat.ne_of_lt hb5; have nb6 : bx ≠ w5.heap.size + 1 := (by omega); have nb7 : bx ≠ W0.heap.size := Nat.ne_of_lt hbl; clear hx hcut hc0 hra hu5 hq))
    all_goals
      obtain ⟨hx, hcut, hc0, hra⟩ := HX.out
      have hcl := hcut.lower (lo' := w.heap.size) (Nat.le_trans HU0.out.size (by simp))
      have HXX := Lib.hid hx
      have HCL := Lib.hid hcl
      have HRA := Lib.hid hra
      have HC0 := Lib.hid hc0
      have hcc : w.heap.size ≤ c := (by have h1 := hc0; have h2 := HU0.out.size; simp at h1; omega)
      have hrr : w.heap.size ≤ w5.heap.size := Nat.le_trans HU0.out.size hU1.size
      have HCC := Lib.hid (And.intro hcc hrr)
      clear hx hcut hcl hra hc0 HX hcc hrr
      go_wp2
      go_meet
      case rel =>
        first
          | exact ⟨_, _, c, r', rfl, HXX.out, rd1 HCL.out (fun a ha => (HRA.out a ha).2), HCC.out, (fun a ha => Nat.lt_of_lt_of_le (Nat.lt_trans (HRA.out a ha).2 HCL.out.bl.lt) ((((Upd.refl [] w5).alloc _).alloc _).size)), (hU1.alloc _).alloc _⟩
          | exact ⟨_, _, c, r', rfl, HXX.out, rd2 HCL.out (fun a ha => (HRA.out a ha).2), ⟨HCC.out.1, Nat.le_succ_of_le HCC.out.2⟩, (fun a ha => Nat.lt_of_lt_of_le (Nat.lt_trans (HRA.out a ha).2 HCL.out.bl.lt) ((((Upd.refl [] w5).alloc _).alloc _).size)), (hU1.alloc _).alloc _⟩
          | exact ⟨_, _, c, r', rfl, HXX.out, rd4 HCL.out (fun a ha => (HRA.out a ha).2) HQ.out (fun a ha => by have := (HRA.out a ha).1; simp at this; omega), HCC.out, (fun a ha => Nat.lt_of_lt_of_le (Nat.lt_trans (HRA.out a ha).2 HCL.out.bl.lt) ((((Upd.refl [W0.heap.size] w5).setCell (by simp) _).alloc _).size)), (hU1.setCell (.inr (Nat.le_refl _)) _).alloc _⟩
  obtain ⟨rv, rp, c, r', rfl, hx, hrd, hnew, hrl, hu⟩ := hcut
  have HNEW := Lib.hid hnew
  clear hnew
  obtain ⟨M1, M2, M3, M4, M5, M6, M7, q1, q2, q3, q4, q5, q6, q7, hb7, hu7⟩ := fill wc bx rv
  have qm := run_makeMap_plain (P := Try.prog) wc 111
  have hrd7 := hrd.more hu7
  rw [HK.out] at hrd7
  have v0 : M7.cell? ⟨rv, 0, none⟩ = some (.pointer (some ⟨rp, 0, none⟩)) := hrd7.bv.cell 0
  have k0 : M7.cell? ⟨rp, 2, none⟩ = some (.int .i64 k) := hrd7.cellAt 0 rfl
  have hF : ∃ i, Instr.findNow (.int .i64) (.int .i64 k) (ents bx rv) 0 = some (some (i, fv F #[.pointer (some ⟨rv, 0, none⟩)])) := by
    rcases HF6.out with ⟨rfl, rfl⟩ | ⟨rfl, rfl⟩ | ⟨rfl, rfl⟩ | ⟨rfl, rfl⟩ | ⟨rfl, rfl⟩ | ⟨rfl, rfl⟩
    · exact ⟨0, rfl⟩
    · exact ⟨1, rfl⟩
    · exact ⟨2, rfl⟩
    · exact ⟨3, rfl⟩
    · exact ⟨4, rfl⟩
    · exact ⟨5, rfl⟩
  obtain ⟨j, hj⟩ := hF
  have ql := look hb7 k j (fv F #[.pointer (some ⟨rv, 0, none⟩)]) hj
  simp only [fv] at q1 q2 q3 q4 q5 q6 q7 ql
  have HC := Lib.hid (HCLO.out M7 rv rp c w.heap.size r' hrd7 hx (fun a ha => Nat.lt_of_lt_of_le (hrl a ha) hu7.size))
  have HM7 := Lib.hid ((HM.out.upd hu (by simp)).upd hu7 (by simp))
  have NMC : Hid (mr ≠ c ∧ mr ≠ rp) := ⟨HM7.out.ne hrd7.cut.bl (by decide), HM7.out.ne hrd7.br (by decide)⟩
  have HU7 := Lib.hid ((HU0.out.next hu).next hu7)
  have HML := Lib.hid HM7.out.lt
  clear hx hrd hu hb7 hu7 hrd7 b0 HM HU0 HB hbl HN hl hrl HCLO hj
  obtain ⟨⟨mk, m1, m2, m3, m4, m5, m6, mR, mW, mP, mA, mT⟩, xs', er2⟩ := q
  dsimp only at hqk HC
  subst hqk
  go_upto_region 3 with fail
  go_cut [8] (fun s8 wd => s8 = .pointer (some ⟨rv, 0, none⟩) ∧ ∃ (r7 : Rw) (dR : Option Addr) (cR : Nat) (dW : Option Addr) (cW : Nat) (dP : Option Addr) (cP : Nat) (dA : Option Addr) (cA : Nat), RdIs wd rv rp c w.heap.size count [.int .i64 mk, .int .u32 m1, .int .u32 m2, .int .u64 m3, .int .u32 m4, .int .u32 m5, .int .u32 m6, .slice dR mR.length cR, .slice dW mW.length cW, .slice dP mP.length cP, .slice dA mA.length cA, .int .u8 mT] r7 er2 ∧
    MgIn wd M7.heap.size ⟨mk, m1, m2, m3, m4, m5, m6, mR, mW, mP, mA, mT⟩ ⟨dR, cR, dW, cW, dP, cP, dA, cA⟩ ∧ Upd [c, rp] M7 wd)
  case first =>
    rcases HF6.out with ⟨hk', rfl⟩ | ⟨hk', rfl⟩ | ⟨hk', rfl⟩ | ⟨hk', rfl⟩ | ⟨hk', rfl⟩ | ⟨hk', rfl⟩
    all_goals
      obtain rfl := hk'
      go_wp2_with fail
      refine HC.out.mono ?_
      rintro e w7 ⟨r7, ⟨dR, cR, dW, cW, dP, cP, dA, cA⟩, rfl, hrd, hin, hu7⟩
      have HH := Lib.hid (And.intro hrd (And.intro hin hu7))
      clear hrd hin hu7
      go_wp2
      go_meet
      case rel => exact ⟨rfl, r7, dR, cR, dW, cW, dP, cP, dA, cA, HH.out⟩
  obtain ⟨rfl, r7, dR, cR, dW, cW, dP, cP, dA, cA, hrd, hin, hu7⟩ := hcut
  have hm7 : Blk wc mr 59 (zcells 0).toArray := HM7.out.upd hu7 (by
    simp only [List.mem_cons, List.not_mem_nil, or_false, not_or]
    exact ⟨NMC.out.1, NMC.out.2⟩)
  have v7 : wc.cell? ⟨rv, 0, none⟩ = some (.pointer (some ⟨rp, 0, none⟩)) := hrd.bv.cell 0
  have c7 : wc.cell? ⟨rp, 0, none⟩ = some (.pointer (some ⟨c, 0, none⟩)) := hrd.br.cell 0
  have rc0 : wc.cell? ⟨rp, 2, none⟩ = some (.int .i64 mk) := hrd.cellAt 0 rfl
  have rc1 : wc.cell? ⟨rp, 3, none⟩ = some (.int .u32 m1) := hrd.cellAt 1 rfl
  have rc2 : wc.cell? ⟨rp, 4, none⟩ = some (.int .u32 m2) := hrd.cellAt 2 rfl
  have rc3 : wc.cell? ⟨rp, 5, none⟩ = some (.int .u64 m3) := hrd.cellAt 3 rfl
  have rc4 : wc.cell? ⟨rp, 6, none⟩ = some (.int .u32 m4) := hrd.cellAt 4 rfl
  have rc5 : wc.cell? ⟨rp, 7, none⟩ = some (.int .u32 m5) := hrd.cellAt 5 rfl
  have rc6 : wc.cell? ⟨rp, 8, none⟩ = some (.int .u32 m6) := hrd.cellAt 6 rfl
  have rc7 : wc.cell? ⟨rp, 9, none⟩ = some (.slice dR mR.length cR) := hrd.cellAt 7 rfl
  have rc8 : wc.cell? ⟨rp, 10, none⟩ = some (.slice dW mW.length cW) := hrd.cellAt 8 rfl
  have rc9 : wc.cell? ⟨rp, 11, none⟩ = some (.slice dP mP.length cP) := hrd.cellAt 9 rfl
  have rc10 : wc.cell? ⟨rp, 12, none⟩ = some (.slice dA mA.length cA) := hrd.cellAt 10 rfl
  have rc11 : wc.cell? ⟨rp, 13, none⟩ = some (.int .u8 mT) := hrd.cellAt 11 rfl
  have HE := Lib.hid (err_any hrd.cut)
  have mc0 : wc.cell? ⟨mr, 0, none⟩ = some (.int .i64 0) := hm7.cell 0
  have mf0 := hm7.frozen 0
  have mc1 : wc.cell? ⟨mr, 1, none⟩ = some (.int .u32 0) := hm7.cell 1
  have mf1 := hm7.frozen 1
  have mc2 : wc.cell? ⟨mr, 2, none⟩ = some (.int .u32 0) := hm7.cell 2
  have mf2 := hm7.frozen 2
  have mc3 : wc.cell? ⟨mr, 3, none⟩ = some (.int .u64 0) := hm7.cell 3
  have mf3 := hm7.frozen 3
  have mc4 : wc.cell? ⟨mr, 4, none⟩ = some (.int .u32 0) := hm7.cell 4
  have mf4 := hm7.frozen 4
  have mc5 : wc.cell? ⟨mr, 5, none⟩ = some (.int .u32 0) := hm7.cell 5
  have mf5 := hm7.frozen 5
  have mc6 : wc.cell? ⟨mr, 6, none⟩ = some (.int .u32 0) := hm7.cell 6
  have mf6 := hm7.frozen 6
  have mc7 : wc.cell? ⟨mr, 7, none⟩ = some (.slice none 0 0) := hm7.cell 7
  have mf7 := hm7.frozen 7
  have mc8 : wc.cell? ⟨mr, 8, none⟩ = some (.slice none 0 0) := hm7.cell 8
  have mf8 := hm7.frozen 8
  have mc9 : wc.cell? ⟨mr, 9, none⟩ = some (.slice none 0 0) := hm7.cell 9
  have mf9 := hm7.frozen 9
  have mc10 : wc.cell? ⟨mr, 10, none⟩ = some (.slice none 0 0) := hm7.cell 10
  have mf10 := hm7.frozen 10
  have mc11 : wc.cell? ⟨mr, 11, none⟩ = some (.int .u8 0) := hm7.cell 11
  have mf11 := hm7.frozen 11
  have hmrp : mr ≠ rp := NMC.out.2
  have HIN := Lib.hid hin
  have HMLT : Hid (mr < M7.heap.size) := HML
  have HSZ7 : Hid (w.heap.size ≤ M7.heap.size) := Lib.hid HU7.out.size
  have HU := Lib.hid (HU7.out.trans hu7 (fun s hs => .inr (by
    simp only [List.mem_cons, List.not_mem_nil, or_false] at hs
    rcases hs with rfl | rfl
    · exact HNEW.out.1
    · exact HNEW.out.2)))
  clear hrd hm7 hu7 hin HC HM7 HU7 v0 k0 q1 q2 q3 q4 q5 q6 q7 ql qm
  go_wp2_with fail
  refine HE.out.mono ?_
  rintro e w8 ⟨rfl, rfl⟩
  by_cases he : er2 = 0
  · subst he
    clear HE
    by_cases k3 : mk = 3
    · subst k3
      by_cases hp : mP.length = 0
      · have hpb : ((mP.length : Int) == 0) = true := by rw [hp]; rfl
        have HFIN : Hid (finM (⟨3, m1, m2, m3, m4, m5, m6, mR, mW, mP, mA, mT⟩, (xs', 0)) = (mZ, 11)) := by
          unfold finM; dsimp only; rw [if_pos rfl, if_pos (.inl ⟨rfl, hp⟩)]; exact Lib.hid rfl
        go_wp2
        refine bodyPost_res (v := .tuple #[.agg #[.int .i64 0, .int .u32 0, .int .u32 0, .int .u64 0, .int .u32 0, .int .u32 0, .int .u32 0, .slice none 0 0, .slice none 0 0, .slice none 0 0, .slice none 0 0, .int .u8 0], .int .i64 11]) (by simp [results, Try.results30, go_sem, mc0, mc1, mc2, mc3, mc4, mc5, mc6, mc7, mc8, mc9, mc10, mc11]) rfl ⟨hZ, ?_, ?_, ?_⟩
        · rw [HFIN.out]; rfl
        · rw [HFIN.out]; exact mgIn_z _ _
        · exact set12_upd _ _ _ _ _ _ _ _ _ _ _ _ _ HU.out (.inr HMR.out)
      · have hpb : ((mP.length : Int) == 0) = false := beq_eq_false_iff_ne.2 (by omega)
        have HFIN : Hid (finM (⟨3, m1, m2, m3, m4, m5, m6, mR, mW, mP, mA, mT⟩, (xs', 0)) = (⟨3, m1, m2, m3, m4, m5, m6, mR, mW, mP, mA, mT⟩, 0)) := by
          unfold finM; dsimp only; rw [if_pos rfl, if_neg (by omega)]; exact Lib.hid rfl
        go_wp2
        refine bodyPost_res (v := .tuple #[.agg #[.int .i64 3, .int .u32 m1, .int .u32 m2, .int .u64 m3, .int .u32 m4, .int .u32 m5, .int .u32 m6, .slice dR mR.length cR, .slice dW mW.length cW, .slice dP mP.length cP, .slice dA mA.length cA, .int .u8 mT], .int .i64 0]) (by simp [results, Try.results30, go_sem, mc0, mc1, mc2, mc3, mc4, mc5, mc6, mc7, mc8, mc9, mc10, mc11]) rfl ⟨⟨dR, cR, dW, cW, dP, cP, dA, cA⟩, ?_, ?_, ?_⟩
        · rw [HFIN.out]; rfl
        · rw [HFIN.out]; exact HIN.out.behind (set12_upd (S := [mr]) _ _ _ _ _ _ _ _ _ _ _ _ _ (Upd.refl _ _) (.inl (by simp))) HMLT.out HSZ7.out
        · exact set12_upd _ _ _ _ _ _ _ _ _ _ _ _ _ HU.out (.inr HMR.out)
    · have k3b : (mk == 3) = false := beq_eq_false_iff_ne.2 k3
      by_cases k5 : mk = 5
      · subst k5
        by_cases hp : mA.length = 0
        · have hpb : ((mA.length : Int) == 0) = true := by rw [hp]; rfl
          have HFIN : Hid (finM (⟨5, m1, m2, m3, m4, m5, m6, mR, mW, mP, mA, mT⟩, (xs', 0)) = (mZ, 11)) := by
            unfold finM; dsimp only; rw [if_pos rfl, if_pos (.inr ⟨rfl, hp⟩)]; exact Lib.hid rfl
          go_wp2
          refine bodyPost_res (v := .tuple #[.agg #[.int .i64 0, .int .u32 0, .int .u32 0, .int .u64 0, .int .u32 0, .int .u32 0, .int .u32 0, .slice none 0 0, .slice none 0 0, .slice none 0 0, .slice none 0 0, .int .u8 0], .int .i64 11]) (by simp [results, Try.results30, go_sem, mc0, mc1, mc2, mc3, mc4, mc5, mc6, mc7, mc8, mc9, mc10, mc11]) rfl ⟨hZ, ?_, ?_, ?_⟩
          · rw [HFIN.out]; rfl
          · rw [HFIN.out]; exact mgIn_z _ _
          · exact set12_upd _ _ _ _ _ _ _ _ _ _ _ _ _ HU.out (.inr HMR.out)
        · have hpb : ((mA.length : Int) == 0) = false := beq_eq_false_iff_ne.2 (by omega)
          have HFIN : Hid (finM (⟨5, m1, m2, m3, m4, m5, m6, mR, mW, mP, mA, mT⟩, (xs', 0)) = (⟨5, m1, m2, m3, m4, m5, m6, mR, mW, mP, mA, mT⟩, 0)) := by
            unfold finM; dsimp only; rw [if_pos rfl, if_neg (by omega)]; exact Lib.hid rfl
          go_wp2
          refine bodyPost_res (v := .tuple #[.agg #[.int .i64 5, .int .u32 m1, .int .u32 m2, .int .u64 m3, .int .u32 m4, .int .u32 m5, .int .u32 m6, .slice dR mR.length cR, .slice dW mW.length cW, .slice dP mP.length cP, .slice dA mA.length cA, .int .u8 mT], .int .i64 0]) (by simp [results, Try.results30, go_sem, mc0, mc1, mc2, mc3, mc4, mc5, mc6, mc7, mc8, mc9, mc10, mc11]) rfl ⟨⟨dR, cR, dW, cW, dP, cP, dA, cA⟩, ?_, ?_, ?_⟩
          · rw [HFIN.out]; rfl
          · rw [HFIN.out]; exact HIN.out.behind (set12_upd (S := [mr]) _ _ _ _ _ _ _ _ _ _ _ _ _ (Upd.refl _ _) (.inl (by simp))) HMLT.out HSZ7.out
          · exact set12_upd _ _ _ _ _ _ _ _ _ _ _ _ _ HU.out (.inr HMR.out)
      · have k5b : (mk == 5) = false := beq_eq_false_iff_ne.2 k5
        have HFIN : Hid (finM (⟨mk, m1, m2, m3, m4, m5, m6, mR, mW, mP, mA, mT⟩, (xs', 0)) = (⟨mk, m1, m2, m3, m4, m5, m6, mR, mW, mP, mA, mT⟩, 0)) := by
          unfold finM; dsimp only; rw [if_pos rfl, if_neg (by omega)]; exact Lib.hid rfl
        go_wp2
        refine bodyPost_res (v := .tuple #[.agg #[.int .i64 mk, .int .u32 m1, .int .u32 m2, .int .u64 m3, .int .u32 m4, .int .u32 m5, .int .u32 m6, .slice dR mR.length cR, .slice dW mW.length cW, .slice dP mP.length cP, .slice dA mA.length cA, .int .u8 mT], .int .i64 0]) (by simp [results, Try.results30, go_sem, mc0, mc1, mc2, mc3, mc4, mc5, mc6, mc7, mc8, mc9, mc10, mc11]) rfl ⟨⟨dR, cR, dW, cW, dP, cP, dA, cA⟩, ?_, ?_, ?_⟩
        · rw [HFIN.out]; rfl
        · rw [HFIN.out]; exact HIN.out.behind (set12_upd (S := [mr]) _ _ _ _ _ _ _ _ _ _ _ _ _ (Upd.refl _ _) (.inl (by simp))) HMLT.out HSZ7.out
        · exact set12_upd _ _ _ _ _ _ _ _ _ _ _ _ _ HU.out (.inr HMR.out)
  · have hne : ¬ er2 = 0 := he
    have HFIN : Hid (finM (⟨mk, m1, m2, m3, m4, m5, m6, mR, mW, mP, mA, mT⟩, (xs', er2)) = (mZ, er2)) := by
      unfold finM; dsimp only; rw [if_neg hne]; exact Lib.hid rfl
    go_wp2_with fail
    refine HE.out.mono ?_
    rintro e w8 ⟨rfl, rfl⟩
    clear HE
    go_wp2
    refine bodyPost_res (v := .tuple #[.agg #[.int .i64 0, .int .u32 0, .int .u32 0, .int .u64 0, .int .u32 0, .int .u32 0, .int .u32 0, .slice none 0 0, .slice none 0 0, .slice none 0 0, .slice none 0 0, .int .u8 0], .int .i64 er2]) (by simp [results, Try.results30, go_sem, mc0, mc1, mc2, mc3, mc4, mc5, mc6, mc7, mc8, mc9, mc10, mc11]) rfl ⟨hZ, ?_, ?_, ?_⟩
    · rw [HFIN.out]; rfl
    · rw [HFIN.out]; exact mgIn_z _ _
    · exact set12_upd _ _ _ _ _ _ _ _ _ _ _ _ _ HU.out (.inr HMR.out)
end Go.Proofs.Ytgkejdjdccgjbaa
/- rtcp's read, as one function of bytes; and what Parse answers, as a function of bytes. Conditions: bytes, no more than 100000. -/
namespace Go.Proofs.Ytgkejdjdccgjbaa
open Go Go.RowKit
set_option maxHeartbeats 1000000

def readM (t : Int) (n : Nat) (xs : List Int) : Mg × Int :=
  if kindM t n = 0 then finM (senderM n (xs, 0)) else if kindM t n = 1 then finM (receiverM n (xs, 0)) else if kindM t n = 2 then finM (byeM n (xs, 0)) else if kindM t n = 3 then finM (nackM (xs, 0))
  else if kindM t n = 4 then finM (pliG (xs, 0)) else if kindM t n = 5 then finM (firM (xs, 0)) else (⟨6, 0, 0, 0, 0, 0, 0, [], [], [], [], t⟩, 0)
theorem kind_lt (t c : Int) : kindM t c = 0 ∨ kindM t c = 1 ∨ kindM t c = 2 ∨ kindM t c = 3 ∨ kindM t c = 4 ∨ kindM t c = 5 ∨ kindM t c = 6 := by
  unfold kindM
  repeat' split
  all_goals simp
theorem read_any {w : World} {lo : Nat} {r : Rw} (h : RowIn w lo .u8 r) (hl : r.xs.length ≤ 100000) (t : Int) (n : Nat) (hn : n ≤ 31) (hb : Byt r.xs) :
    Calls Try.prog 30 #[.int .u8 t, .int .i64 n, encR r] w fun e w' => ∃ hd, e = .returned (.tuple #[.agg (mcells (readM t n r.xs).1 hd).toArray, .int .i64 (readM t n r.xs).2]) ∧ MgIn w' w.heap.size (readM t n r.xs).1 hd ∧ Upd [] w w' := by
  rcases kind_lt t n with hk | hk | hk | hk | hk | hk | hk
  · have e : readM t n r.xs = finM (senderM n (r.xs, 0)) := by unfold readM; rw [if_pos hk]
    rw [e]
    exact read_gen h hl t n 0 hk _ _ (.inl ⟨rfl, rfl⟩) rfl (fun W rv rp c lo' r' hr hx ha => by have := read1_any hr (by rw [hx]; exact hb) hn ha; rwa [hx] at this)
  · have e : readM t n r.xs = finM (receiverM n (r.xs, 0)) := by unfold readM; rw [if_neg (by omega), if_pos hk]
    rw [e]
    exact read_gen h hl t n 1 hk _ _ (.inr (.inl ⟨rfl, rfl⟩)) rfl (fun W rv rp c lo' r' hr hx ha => by have := read2_any hr (by rw [hx]; exact hb) hn ha; rwa [hx] at this)
  · have e : readM t n r.xs = finM (byeM n (r.xs, 0)) := by unfold readM; rw [if_neg (by omega), if_neg (by omega), if_pos hk]
    rw [e]
    exact read_gen h hl t n 2 hk _ _ (.inr (.inr (.inl ⟨rfl, rfl⟩))) rfl (fun W rv rp c lo' r' hr hx ha => by have := read3_any hr (by rw [hx]; exact hb) hn ha; rwa [hx] at this)
  · have e : readM t n r.xs = finM (nackM (r.xs, 0)) := by unfold readM; rw [if_neg (by omega), if_neg (by omega), if_neg (by omega), if_pos hk]
    rw [e]
    exact read_gen h hl t n 3 hk _ _ (.inr (.inr (.inr (.inl ⟨rfl, rfl⟩)))) rfl (fun W rv rp c lo' r' hr hx ha => by have := read4_any hr (by rw [hx]; exact hb) (by rw [hx]; exact hl) ha; rwa [hx] at this)
  · have e : readM t n r.xs = finM (pliG (r.xs, 0)) := by unfold readM; rw [if_neg (by omega), if_neg (by omega), if_neg (by omega), if_neg (by omega), if_pos hk]
    rw [e]
    exact read_gen h hl t n 4 hk _ _ (.inr (.inr (.inr (.inr (.inl ⟨rfl, rfl⟩))))) rfl (fun W rv rp c lo' r' hr hx ha => by have := read5g_any hr (by rw [hx]; exact hb) (by rw [hx]; exact hl) ha; rwa [hx] at this)
  · have e : readM t n r.xs = finM (firM (r.xs, 0)) := by unfold readM; rw [if_neg (by omega), if_neg (by omega), if_neg (by omega), if_neg (by omega), if_neg (by omega), if_pos hk]
    rw [e]
    exact read_gen h hl t n 5 hk _ _ (.inr (.inr (.inr (.inr (.inr ⟨rfl, rfl⟩))))) rfl (fun W rv rp c lo' r' hr hx ha => by have := read6_any hr (by rw [hx]; exact hb) (by rw [hx]; exact hl) ha; rwa [hx] at this)
  · have e : readM t n r.xs = (⟨6, 0, 0, 0, 0, 0, 0, [], [], [], [], t⟩, 0) := by unfold readM; rw [if_neg (by omega), if_neg (by omega), if_neg (by omega), if_neg (by omega), if_neg (by omega), if_neg (by omega)]
    rw [e]
    refine (read_other h hl t n hk).mono ?_
    rintro e w' ⟨rfl, hu⟩
    exact ⟨hZ, rfl, ⟨CellsIn.nil _ _ _ _ _, CellsIn.nil _ _ _ _ _, CellsIn.nil _ _ _ _ _, CellsIn.nil _ _ _ _ _⟩, hu⟩
/-- a message's body, its padding cut off where it says so -/
def bodyOf (x0 : Int) (body : List Int) (last : Bool) : Option (List Int) := if x0 / 32 % 2 = 1 then cutM body last else some body
/-- one message of bytes, and what is left; or what went wrong -/
def stepM (xs : List Int) : Except Int (Mg × List Int) :=
  match xs with
  | x0 :: x1 :: x2 :: x3 :: rest =>
    if isM [x0, x1, x2, x3] = true then
      (if rest.length < 4 * (x2.toNat * 256 + x3.toNat) then .error 10
       else match bodyOf x0 (rest.take (4 * (x2.toNat * 256 + x3.toNat))) (decide ((rest.drop (4 * (x2.toNat * 256 + x3.toNat))).length = 0)) with
        | none => .error 11
        | some b => if (readM x1 (x0 % 32).toNat b).2 = 0 then .ok ((readM x1 (x0 % 32).toNat b).1, rest.drop (4 * (x2.toNat * 256 + x3.toNat))) else .error (readM x1 (x0 % 32).toNat b).2)
    else .error 11
  | _ => .error 10
/-- messages of bytes, behind those that were read before -/
def parseA : Nat → List Mg → List Int → List Mg × Int
  | 0, _, _ => ([], 99)
  | f + 1, out, xs => match stepM xs with
    | .error e => ([], e)
    | .ok (m, rest) => if rest.length = 0 then (out ++ [m], 0) else parseA f (out ++ [m]) rest
def parseM (xs : List Int) : List Mg × Int := if 1500 < xs.length then ([], 13) else parseA (xs.length + 1) [] xs
end Go.Proofs.Ytgkejdjdccgjbaa
/- rtcp: cut, of padding. Conditions: bytes. -/
namespace Go.Proofs.Ytgkejdjdccgjbaa
open Go Go.RowKit
set_option maxHeartbeats 400000

theorem cut_no {w : World} {lo : Nat} {r : Rw} (h : RowIn w lo .u8 r) (hb : Byt r.xs) (last : Bool) (hc : cutM r.xs last = none) : Calls Try.prog 29 #[encR r, .bool last] w fun e w' => e = .returned (.tuple #[.slice none 0 0, .bool false]) ∧ w = w' := by
  obtain ⟨A, cp, xs⟩ := r
  unfold encR
  dsimp only at hc hb ⊢
  cases last with
  | false =>
    clear h hb hc
    go_enter Try.func29, Try.ntmps29
    go_wp2
    exact bodyPost_res (v := .tuple #[.slice none 0 0, .bool false]) (by simp [results, Try.results29, go_sem]) rfl ⟨rfl, rfl⟩
  | true =>
    by_cases hl : xs.length = 0
    · have hl' : (xs.length : Int) = 0 := by omega
      clear h hb hc
      obtain ⟨L, hL⟩ : ∃ L, L = xs.length := ⟨_, rfl⟩
      rw [← hL] at hl' ⊢
      clear hL hl
      go_enter Try.func29, Try.ntmps29
      go_wp2
      exact bodyPost_res (v := .tuple #[.slice none 0 0, .bool false]) (by simp [results, Try.results29, go_sem]) rfl ⟨rfl, rfl⟩
    · obtain ⟨b, off, hA, _, hbl, hcc⟩ := h.at (by dsimp only; omega)
      dsimp only at hA hcc
      subst hA
      have hne : xs ≠ [] := by intro e; subst e; exact hl rfl
      obtain ⟨x, hx⟩ : ∃ x, xs[xs.length - 1]? = some x := ⟨_, List.getElem?_eq_getElem (by omega)⟩
      have hgl : xs.getLastD 0 = x := by
        rw [List.getLastD_eq_getLast?, List.getLast?_eq_getElem?, hx]; rfl
      have c0 := hcc (xs.length - 1) x hx
      obtain ⟨hx0, hx1⟩ := hb x (List.mem_of_getElem? hx)
      have hd : x = 0 ∨ x % 4 ≠ 0 ∨ (xs.length : Int) < x := by
        unfold cutM at hc
        rw [if_neg (by simp [hl])] at hc
        dsimp only at hc
        rw [hgl] at hc
        by_cases hq : x = 0 ∨ x % 4 ≠ 0 ∨ (xs.length : Int) < x
        · exact hq
        · rw [if_neg hq] at hc; cases hc
      obtain ⟨k, hL⟩ : ∃ k, xs.length = k + 1 := ⟨xs.length - 1, by omega⟩
      rw [hL] at c0 hd ⊢
      rw [Nat.add_sub_cancel] at c0
      have hle := h.le
      have hcm := h.cm
      dsimp only at hle hcm
      have hkb : (k : Int) ≤ 9223372036854775806 := by omega
      have hln : ¬ ((k + 1 : Nat) : Int) = 0 := by omega
      have hln2 : ¬ (k : Int) + 1 = 0 := by omega
      clear h hb hc hcc hL hx hgl hne hl hle hcm
      by_cases h1 : x = 0
      · subst h1
        go_enter Try.func29, Try.ntmps29
        go_wp2
        exact bodyPost_res (v := .tuple #[.slice none 0 0, .bool false]) (by simp [results, Try.results29, go_sem]) rfl ⟨rfl, rfl⟩
      by_cases h2 : x % 4 = 0
      · have h3 : ((k + 1 : Nat) : Int) < x := by rcases hd with h | h | h <;> first | exact absurd h h1 | exact absurd h2 h | exact h
        have h3' : (k : Int) + 1 < x := by omega
        clear hd
        go_enter Try.func29, Try.ntmps29
        go_wp2
        exact bodyPost_res (v := .tuple #[.slice none 0 0, .bool false]) (by simp [results, Try.results29, go_sem]) rfl ⟨rfl, rfl⟩
      · clear hd
        go_enter Try.func29, Try.ntmps29
        go_wp2
        exact bodyPost_res (v := .tuple #[.slice none 0 0, .bool false]) (by simp [results, Try.results29, go_sem]) rfl ⟨rfl, rfl⟩
theorem cut_yes {w : World} {lo : Nat} {r : Rw} (h : RowIn w lo .u8 r) (hb : Byt r.xs) (ys : List Int) (hc : cutM r.xs true = some ys) : Calls Try.prog 29 #[encR r, .bool true] w fun e w' => ∃ q, e = .returned (.tuple #[encR q, .bool true]) ∧ q.xs = ys ∧ RowIn w lo .u8 q ∧ q.A = r.A ∧ w = w' := by
  obtain ⟨A, cp, xs⟩ := r
  unfold encR
  dsimp only at hc hb ⊢
  have hl : ¬ xs.length = 0 := by
    intro e
    unfold cutM at hc
    rw [if_pos (.inr e)] at hc
    cases hc
  obtain ⟨b, off, hA, _, hbl, hcc⟩ := h.at (by dsimp only; omega)
  dsimp only at hA hcc
  subst hA
  have hne : xs ≠ [] := by intro e; subst e; exact hl rfl
  obtain ⟨x, hx⟩ : ∃ x, xs[xs.length - 1]? = some x := ⟨_, List.getElem?_eq_getElem (by omega)⟩
  have hgl : xs.getLastD 0 = x := by
    rw [List.getLastD_eq_getLast?, List.getLast?_eq_getElem?, hx]; rfl
  have c0 := hcc (xs.length - 1) x hx
  obtain ⟨hx0, hx1⟩ := hb x (List.mem_of_getElem? hx)
  have hd : ¬ (x = 0 ∨ x % 4 ≠ 0 ∨ (xs.length : Int) < x) ∧ ys = xs.take (xs.length - x.toNat) := by
    unfold cutM at hc
    rw [if_neg (by simp [hl])] at hc
    dsimp only at hc
    rw [hgl] at hc
    by_cases hq : x = 0 ∨ x % 4 ≠ 0 ∨ (xs.length : Int) < x
    · rw [if_pos hq] at hc; cases hc
    · rw [if_neg hq] at hc; exact ⟨hq, (Option.some.inj hc).symm⟩
  obtain ⟨hd1, hys⟩ := hd
  obtain ⟨n, rfl⟩ : ∃ n : Nat, x = n := ⟨x.toNat, by omega⟩
  rw [Int.toNat_natCast] at hys
  have h1 : ¬ (n : Int) = 0 := by omega
  have h2 : (n : Int) % 4 = 0 := by omega
  have h3 : n ≤ xs.length := by omega
  have hle := h.le
  have hcm := h.cm
  have HQ := Lib.hid (h.short (xs.length - n))
  have HYS := Lib.hid hys
  dsimp only at hle hcm
  have hlq : Hid ((xs.take (xs.length - n)).length = xs.length - n) := by show _ = _; rw [List.length_take]; omega
  obtain ⟨k, hL⟩ : ∃ k, xs.length = k + 1 := ⟨xs.length - 1, by omega⟩
  have HL := Lib.hid hL
  rw [hL] at c0 h3 hle ⊢
  rw [Nat.add_sub_cancel] at c0
  have hkb : (k : Int) ≤ 9223372036854775806 := by omega
  have hln2 : ¬ (k : Int) + 1 = 0 := by omega
  have h4 : ¬ (k : Int) + 1 < (n : Int) := by omega
  have h5 : 0 ≤ (k : Int) + 1 - (n : Int) := by omega
  have h6 : (k : Int) + 1 - (n : Int) ≤ (cp : Int) := by omega
  clear h hb hc hcc hL hx hgl hne hl hd1 hys
  go_enter Try.func29, Try.ntmps29
  go_wp2
  refine bodyPost_res (v := .tuple #[.slice (some ⟨b, off, none⟩) (k + 1 - n) cp, .bool true]) (by simp [results, Try.results29, go_sem]) rfl ⟨⟨some ⟨b, off, none⟩, cp, xs.take (xs.length - n)⟩, ?_, HYS.out.symm, HQ.out, rfl, rfl⟩
  dsimp only
  rw [hlq.out, HL.out]
end Go.Proofs.Ytgkejdjdccgjbaa
/- rtcp's Parse: its answer as a function of bytes, step by step, and what a round of its loop keeps. Plain laws. (Written by wip/gen/rtcpparseg.py.) -/
namespace Go.Proofs.Ytgkejdjdccgjbaa
open Go Go.RowKit
set_option maxHeartbeats 400000

/-- a message's rows lie in other blocks than a slice of the call's own -/
structure Off (v : Value) (m : Mg) (h : Hd) : Prop where
  r : ∀ s, v.ownBlock = some s → 0 < m.reports.length → ∀ a, h.rA = some a → a.block ≠ s
  w : ∀ s, v.ownBlock = some s → 0 < m.who.length → ∀ a, h.wA = some a → a.block ≠ s
  p : ∀ s, v.ownBlock = some s → 0 < m.pairs.length → ∀ a, h.pA = some a → a.block ≠ s
  a : ∀ s, v.ownBlock = some s → 0 < m.asks.length → ∀ a, h.aA = some a → a.block ≠ s
theorem CellsIn.below_hi {w : World} {lo hi size n : Nat} {A : Option Addr} {xs : List Value} (h : CellsIn w lo hi size A n xs) (hn : 0 < n) : ∀ a, A = some a → a.block < hi := by
  intro a ha
  obtain ⟨b, off, e, _, h2, _⟩ := h.2 hn
  rw [ha] at e
  obtain rfl := Option.some.inj e
  exact h2
theorem MgIn.off_new {w : World} {lo : Nat} {m : Mg} {h : Hd} (k : MgIn w lo m h) (u : Value) (hu : ∀ s, u.ownBlock = some s → w.heap.size ≤ s) : Off u m h :=
  ⟨fun s hs hn a ha e => by have := k.cr.below_hi hn a ha; have := hu s hs; omega, fun s hs hn a ha e => by have := k.cw.below_hi hn a ha; have := hu s hs; omega,
   fun s hs hn a ha e => by have := k.cp.below_hi hn a ha; have := hu s hs; omega, fun s hs hn a ha e => by have := k.ca.below_hi hn a ha; have := hu s hs; omega⟩
theorem MgIn.off_old {w : World} {lo : Nat} {m : Mg} {h : Hd} (k : MgIn w lo m h) (u : Value) (hu : ∀ s, u.ownBlock = some s → s < lo) : Off u m h :=
  ⟨fun s hs hn a ha e => by have := k.cr.fresh hn a ha; have := hu s hs; omega, fun s hs hn a ha e => by have := k.cw.fresh hn a ha; have := hu s hs; omega,
   fun s hs hn a ha e => by have := k.cp.fresh hn a ha; have := hu s hs; omega, fun s hs hn a ha e => by have := k.ca.fresh hn a ha; have := hu s hs; omega⟩
theorem MgIn.grown {w w' : World} {lo : Nat} {m : Mg} {h : Hd} {v : Value} (k : MgIn w lo m h) (f : Off v m h) (g : w.grownBy w' v.ownBlock) : MgIn w' lo m h :=
  k.upd (Upd.of_grown g) (fun s hs => f.r s (by simpa using hs)) (fun s hs => f.w s (by simpa using hs)) (fun s hs => f.p s (by simpa using hs)) (fun s hs => f.a s (by simpa using hs)) (Nat.le_refl _)
theorem MgIn.same {w w' : World} {lo lo' : Nat} {m : Mg} {h : Hd} (k : MgIn w lo m h) (u : Upd [] w w') (hl : lo' ≤ lo) : MgIn w' lo' m h :=
  k.upd u (by simp) (by simp) (by simp) (by simp) hl
theorem ownsRow_lower {w : World} {B B' : Nat} {e : TypeId} {size n : Nat} {v : Value} {xs : List Value} (h : w.ownsRow B e size v n xs) (hB : B' ≤ B) : w.ownsRow B' e size v n xs :=
  ⟨h.1, h.2.imp id fun ⟨g, cap, cur, hv, hg, r⟩ => ⟨g, cap, cur, hv, Nat.le_trans hB hg, r⟩⟩
theorem parseA_err {f : Nat} {out : List Mg} {xs : List Int} {e : Int} (h : stepM xs = .error e) : parseA (f + 1) out xs = ([], e) := by
  show (match stepM xs with | .error e => ([], e) | .ok (m, rest) => if rest.length = 0 then (out ++ [m], 0) else parseA f (out ++ [m]) rest) = _
  rw [h]
theorem parseA_ok {f : Nat} {out : List Mg} {xs rest : List Int} {m : Mg} (h : stepM xs = .ok (m, rest)) : parseA (f + 1) out xs = if rest.length = 0 then (out ++ [m], 0) else parseA f (out ++ [m]) rest := by
  show (match stepM xs with | .error e => ([], e) | .ok (m, rest) => if rest.length = 0 then (out ++ [m], 0) else parseA f (out ++ [m]) rest) = _
  rw [h]
theorem stepM_short {xs : List Int} (h : xs.length < 4) : stepM xs = .error 10 := by
  match xs, h with
  | [], _ => rfl
  | [_], _ => rfl
  | [_, _], _ => rfl
  | [_, _, _], _ => rfl
theorem stepM_form {x0 x1 x2 x3 : Int} {rest : List Int} (h : isM [x0, x1, x2, x3] = false) : stepM (x0 :: x1 :: x2 :: x3 :: rest) = .error 11 := by
  show (if isM [x0, x1, x2, x3] = true then _ else _) = _
  rw [if_neg (by rw [h]; decide)]
theorem stepM_cut {x0 x1 x2 x3 : Int} {rest : List Int} (h : isM [x0, x1, x2, x3] = true) (hn : rest.length < 4 * (x2.toNat * 256 + x3.toNat)) : stepM (x0 :: x1 :: x2 :: x3 :: rest) = .error 10 := by
  show (if isM [x0, x1, x2, x3] = true then _ else _) = _
  rw [if_pos h, if_pos hn]
theorem stepM_pad {x0 x1 x2 x3 : Int} {rest : List Int} (h : isM [x0, x1, x2, x3] = true) (hn : ¬ rest.length < 4 * (x2.toNat * 256 + x3.toNat))
    (hb : bodyOf x0 (rest.take (4 * (x2.toNat * 256 + x3.toNat))) (decide ((rest.drop (4 * (x2.toNat * 256 + x3.toNat))).length = 0)) = none) : stepM (x0 :: x1 :: x2 :: x3 :: rest) = .error 11 := by
  show (if isM [x0, x1, x2, x3] = true then _ else _) = _
  rw [if_pos h, if_neg hn, hb]
theorem stepM_read {x0 x1 x2 x3 : Int} {rest b : List Int} (h : isM [x0, x1, x2, x3] = true) (hn : ¬ rest.length < 4 * (x2.toNat * 256 + x3.toNat))
    (hb : bodyOf x0 (rest.take (4 * (x2.toNat * 256 + x3.toNat))) (decide ((rest.drop (4 * (x2.toNat * 256 + x3.toNat))).length = 0)) = some b) :
    stepM (x0 :: x1 :: x2 :: x3 :: rest) = if (readM x1 (x0 % 32).toNat b).2 = 0 then .ok ((readM x1 (x0 % 32).toNat b).1, rest.drop (4 * (x2.toNat * 256 + x3.toNat))) else .error (readM x1 (x0 % 32).toNat b).2 := by
  show (if isM [x0, x1, x2, x3] = true then _ else _) = _
  rw [if_pos h, if_neg hn, hb]
theorem cutM_sub {xs ys : List Int} {l : Bool} (h : cutM xs l = some ys) : l = true ∧ ∃ k, ys = xs.take k := by
  unfold cutM at h
  split at h
  · cases h
  · rename_i hh
    dsimp only at h
    split at h
    · cases h
    · exact ⟨by cases l <;> simp_all, _, (Option.some.inj h).symm⟩
theorem round_rel {w W w9 : World} {c N1 L gk f n4 lo4 cv : Nat} {R : List Mg × Int} {Av : Option Addr} {out : List (Mg × Hd)} {v9 : Value} {rd : Rw} {m : Mg} {hd : Hd} {body : List Int}
    (HUD : Upd [] w W) (HOWD : W.ownsRow N1 59 12 (.slice Av out.length cv) out.length (out.flatMap encM)) (HCD : CutIs W c w.heap.size rd 0) (HMD : ∀ x, x ∈ out → MgIn W N1 x.1 x.2 ∧ Off (.slice Av out.length cv) x.1 x.2)
    (HIND : MgIn W lo4 m hd) (hN4 : N1 ≤ lo4) (HOLD : ∀ s, (Value.slice Av out.length cv).ownBlock = some s → s < lo4) (HROW : ∀ a, rd.A = some a → a.block < N1) (HSZ : N1 ≤ W.heap.size) (HWN : w.heap.size ≤ N1) (h1 : 4 * out.length + (body.length + 4) ≤ L)
    (h2 : body.length + 4 ≤ gk) (h3 : body.length + 4 < f + 1) (HBD : Byt body) (HRD : rd.xs = body.drop n4) (hpo : R = if (body.drop n4).length = 0 then (out.map (·.1) ++ [m], 0) else parseA f (out.map (·.1) ++ [m]) (body.drop n4))
    (hown9 : w9.ownsRow N1 59 12 v9 (out.length + 1) (out.flatMap encM ++ encM (m, hd))) (hg9 : W.grownBy w9 (Value.slice Av out.length cv).ownBlock) (hat9 : v9.ownBlock = (Value.slice Av out.length cv).ownBlock ∨ v9.ownBlock = some W.heap.size) :
    (∃ (re : Rw) (out : List (Mg × Hd)) (f : Nat), CutIs w9 c w.heap.size re 0 ∧ Byt re.xs ∧ 4 * out.length + re.xs.length ≤ L ∧ re.xs.length ≤ gk - 1 ∧ (re.xs.length = 0 → L = 0) ∧ re.xs.length < f ∧ parseA f (out.map (·.1)) re.xs = R ∧
        w9.ownsRow N1 59 12 v9 out.length (out.flatMap encM) ∧ (∀ x, x ∈ out → MgIn w9 N1 x.1 x.2 ∧ Off v9 x.1 x.2) ∧ (∀ a, re.A = some a → a.block < N1) ∧ N1 ≤ w9.heap.size ∧ Upd [] w w9) ∨
      (∃ (re : Rw) (out : List (Mg × Hd)), CutIs w9 c w.heap.size re 0 ∧ re.xs = [] ∧ 0 < L ∧ R = (out.map (·.1), 0) ∧ w9.ownsRow w.heap.size 59 12 v9 out.length (out.flatMap encM) ∧ (∀ x, x ∈ out → MgIn w9 w.heap.size x.1 x.2) ∧ Upd [] w w9) := by
  have hu9 := app_upd HUD HOWD hg9 HWN
  have hcut9 : CutIs w9 c w.heap.size rd 0 := by
    have hno : c ∉ (Value.slice Av out.length cv).ownBlock.toList := fun hm => by
      obtain ⟨cur, hcur⟩ := row_type HOWD c (by simpa using hm)
      exact (hcur.ne HCD.bl (by decide)) rfl
    exact ⟨HCD.bl.upd (Upd.of_grown hg9) hno, HCD.row.upd2 (Upd.of_grown hg9) (fun s hs a ha e => by
      have h1 := HROW a ha
      have h2 := (own_block_lt HOWD (by simpa using hs)).1
      omega), HCD.ap, HCD.fm⟩
  have hoff : Off (.slice Av out.length cv) m hd := HIND.off_old _ HOLD
  have hmi9 : ∀ x, x ∈ out ++ [(m, hd)] → MgIn w9 N1 x.1 x.2 ∧ Off v9 x.1 x.2 := by
    intro x hx
    have hk : ∃ l, N1 ≤ l ∧ MgIn W l x.1 x.2 ∧ Off (.slice Av out.length cv) x.1 x.2 := by
      rcases List.mem_append.1 hx with hx | hx
      · exact ⟨N1, Nat.le_refl _, HMD x hx⟩
      · rw [List.mem_singleton] at hx
        subst hx
        exact ⟨_, hN4, HIND, hoff⟩
    obtain ⟨l, hNl, hk1, hk2⟩ := hk
    refine ⟨(hk1.grown hk2 hg9).same (Upd.refl _ _) hNl, ?_⟩
    rcases hat9 with e | e
    · exact ⟨fun s hs => hk2.r s (by rw [← e]; exact hs), fun s hs => hk2.w s (by rw [← e]; exact hs), fun s hs => hk2.p s (by rw [← e]; exact hs), fun s hs => hk2.a s (by rw [← e]; exact hs)⟩
    · exact hk1.off_new _ (fun s hs => by rw [e] at hs; exact Nat.le_of_eq (Option.some.inj hs))
  have hfl : (out ++ [(m, hd)]).flatMap encM = out.flatMap encM ++ encM (m, hd) := by simp
  have hlen' : (out ++ [(m, hd)]).length = out.length + 1 := by rw [List.length_append]; rfl
  have hown9' : w9.ownsRow N1 59 12 v9 (out ++ [(m, hd)]).length ((out ++ [(m, hd)]).flatMap encM) := by rw [hfl, hlen']; exact hown9
  rw [← HRD] at hpo
  have hrl : rd.xs.length = body.length - n4 := by rw [HRD, List.length_drop]
  have hbyr : Byt rd.xs := by rw [HRD]; intro z hz; exact HBD z (List.mem_of_mem_drop hz)
  have hmap : (out ++ [(m, hd)]).map (·.1) = out.map (·.1) ++ [m] := by rw [List.map_append]; rfl
  by_cases hz : rd.xs.length = 0
  · rw [if_pos hz] at hpo
    exact .inr ⟨rd, out ++ [(m, hd)], hcut9, List.eq_nil_of_length_eq_zero hz, by omega, by rw [hmap]; exact hpo, ownsRow_lower hown9' HWN, fun x hx => (hmi9 x hx).1.same (Upd.refl _ _) HWN, hu9⟩
  · rw [if_neg hz] at hpo
    exact .inl ⟨rd, out ++ [(m, hd)], f, hcut9, hbyr, by rw [hlen']; omega, by omega, fun hh => absurd hh hz, by omega, by rw [hmap]; exact hpo.symm, hown9', hmi9, HROW, Nat.le_trans HSZ hg9.size, hu9⟩
end Go.Proofs.Ytgkejdjdccgjbaa
/- The laws' 'few': are messages few, and short? Condition: no more messages than an int counts. -/
namespace Go.Proofs.Ytgkejdjdccgjbaa
open Go Go.RowKit
set_option maxHeartbeats 400000

def shortM (m : Mg) : Bool := decide (m.reports.length ≤ 40) && decide (m.who.length ≤ 40) && decide (m.pairs.length ≤ 60) && decide (m.asks.length ≤ 40)
def fewM (ms : List Mg) : Bool := ms.all shortM && decide (ms.length ≤ 12)
set_option maxRecDepth 100000 in
set_option maxHeartbeats 2000000 in
theorem few_any {w : World} {lo : Nat} {A : Option Addr} {cap : Nat} {ms : List (Mg × Hd)} (hc : CellsIn w lo w.heap.size 12 A ms.length (ms.flatMap encM)) (hl : ms.length ≤ 9223372036854775807) :
    Calls Try.prog 10 #[.slice A ms.length cap] w fun e w' => e = .returned (.bool (fewM (ms.map (·.1)))) ∧ w' = w := by
  have HC := Lib.hid hc
  obtain ⟨L, hL⟩ : ∃ L, L = ms.length := ⟨_, rfl⟩
  have HL := Lib.hid hL
  rw [← hL] at hl ⊢
  clear hc hL
  go_enter Try.func10, Try.ntmps10
  go_wp2
  go_loopg [3] L (fun gk x3 wr => ∃ (i : Nat), i ≤ L ∧ L ≤ i + gk ∧ x3 = .int .i64 i ∧ (∀ m, m ∈ (ms.take i).map (·.1) → shortM m = true) ∧ wr = w)
  case atStart => exact ⟨0, Nat.zero_le _, by omega, rfl, by simp, rfl⟩
  case round =>
    obtain ⟨i, hi, hgi, rfl, his, rfl⟩ := hrel
    by_cases hlt : i < L
    · obtain ⟨x, hxi⟩ : ∃ p, ms[i]? = some p := ⟨_, List.getElem?_eq_getElem (by rw [← HL.out]; exact hlt)⟩
      obtain ⟨b, off, rfl, hb1, hb2, hcc⟩ := HC.out.2 (by rw [← HL.out]; omega)
      have c7 := hcc (i * 12 + 7) _ (flat_get encM_len ms i 7 x hxi (by omega))
      have c8 := hcc (i * 12 + 8) _ (flat_get encM_len ms i 8 x hxi (by omega))
      have c9 := hcc (i * 12 + 9) _ (flat_get encM_len ms i 9 x hxi (by omega))
      have c10 := hcc (i * 12 + 10) _ (flat_get encM_len ms i 10 x hxi (by omega))
      obtain ⟨m, h⟩ := x
      simp only [← Nat.add_assoc] at c7 c8 c9 c10
      have HIS := Lib.hid his
      have HXI := Lib.hid hxi
      have HLT := Lib.hid hlt
      have HGI := Lib.hid hgi
      clear hcc his hxi hgi
      have hlti : (i : Int) < (L : Int) := by omega
      have hw : IntKind.i64.wrap ((i : Int) + 1) = (i : Int) + 1 := IntWalk.i64_in _ (by omega)
      have hno : ∀ {B : Prop}, shortM m = false → (Value.bool false = Value.bool (fewM (ms.map (·.1)))) := fun hs => by
        have hmem : m ∈ ms.map (·.1) := List.mem_map.2 ⟨_, List.mem_of_getElem? HXI.out, rfl⟩
        rw [fewM, List.all_eq_false.2 ⟨m, hmem, by rw [hs]; decide⟩]
        rfl
      have HNO := Lib.hid (hno (B := True))
      clear hno
      by_cases k1 : m.reports.length ≤ 40
      · have n1 : ¬ (40 : Int) < (m.reports.length : Int) := by omega
        by_cases k2 : m.who.length ≤ 40
        · have n2 : ¬ (40 : Int) < (m.who.length : Int) := by omega
          by_cases k3 : m.pairs.length ≤ 60
          · have n3 : ¬ (60 : Int) < (m.pairs.length : Int) := by omega
            by_cases k4 : m.asks.length ≤ 40
            · have n4 : ¬ (40 : Int) < (m.asks.length : Int) := by omega
              go_wp2
              go_roundg (gk - 1)
              case measure => have := HGI.out; omega
              case rel =>
              refine ⟨i + 1, by omega, by have := HGI.out; omega, by go_num, fun m' hm' => ?_, rfl⟩
              rw [List.take_add_one, HXI.out] at hm'
              simp only [Option.toList_some, List.map_append, List.map_cons, List.map_nil, List.mem_append, List.mem_singleton] at hm'
              rcases hm' with hm' | rfl
              · exact HIS.out m' hm'
              · simp [shortM, k1, k2, k3, k4]
            · have n4 : (40 : Int) < (m.asks.length : Int) := by omega
              go_wp2
              exact bodyPost_res (v := .bool false) (by simp [results, Try.results10, go_sem]) rfl ⟨congrArg Ending.returned (HNO.out (by simp [shortM, k4])), rfl⟩
          · have n3 : (60 : Int) < (m.pairs.length : Int) := by omega
            go_wp2
            exact bodyPost_res (v := .bool false) (by simp [results, Try.results10, go_sem]) rfl ⟨congrArg Ending.returned (HNO.out (by simp [shortM, k3])), rfl⟩
        · have n2 : (40 : Int) < (m.who.length : Int) := by omega
          go_wp2
          exact bodyPost_res (v := .bool false) (by simp [results, Try.results10, go_sem]) rfl ⟨congrArg Ending.returned (HNO.out (by simp [shortM, k2])), rfl⟩
      · have n1 : (40 : Int) < (m.reports.length : Int) := by omega
        go_wp2
        exact bodyPost_res (v := .bool false) (by simp [results, Try.results10, go_sem]) rfl ⟨congrArg Ending.returned (HNO.out (by simp [shortM, k1])), rfl⟩
    · obtain rfl : i = L := by omega
      have hall : (ms.map (·.1)).all shortM = true := List.all_eq_true.2 (fun m hm => his m (by rw [HL.out, List.take_length]; exact hm))
      have hf : fewM (ms.map (·.1)) = decide ((i : Int) ≤ 12) := by
        rw [fewM, hall, Bool.true_and, List.length_map, ← HL.out]
        exact decide_eq_decide.2 (by omega)
      clear his hgi hlt
      go_wp2
      exact bodyPost_res (v := .bool (decide ((i : Int) ≤ 12))) (by simp [results, Try.results10, go_sem]) rfl ⟨by rw [hf], rfl⟩
end Go.Proofs.Ytgkejdjdccgjbaa
/- A message's bytes: their shape. Plain laws, no program in sight. -/
namespace Go.Proofs.Ytgkejdjdccgjbaa
open Go Go.RowKit
set_option maxHeartbeats 400000

theorem be_byt (x : Int) (n : Nat) : Byt (be x n) := by
  intro b hb
  obtain ⟨i, _, rfl⟩ := List.mem_map.1 hb
  exact ⟨Int.emod_nonneg _ (by decide), by have := Int.emod_lt_of_pos (x / 2 ^ (8 * (n - 1 - i))) (show (0 : Int) < 256 by decide); omega⟩
theorem bytesOf_byt (ps : List (Int × Nat)) : Byt (bytesOf ps) := by
  intro b hb
  obtain ⟨p, _, hp⟩ := List.mem_flatMap.1 hb
  exact be_byt _ _ b hp
def sz (ps : List (Int × Nat)) : Nat := (ps.map (·.2)).sum
theorem bytesOf_sz (ps : List (Int × Nat)) : (bytesOf ps).length = sz ps := by
  induction ps with
  | nil => rfl
  | cons p ps ih =>
    unfold bytesOf sz at ih ⊢
    rw [List.flatMap_cons, List.length_append, be_length, ih, List.map_cons, List.sum_cons]
theorem sz_app (a b : List (Int × Nat)) : sz (a ++ b) = sz a + sz b := by simp [sz]
theorem sz_flat {α : Type} (f : α → List (Int × Nat)) (k : Nat) (hf : ∀ z, sz (f z) = k) (l : List α) : sz (l.flatMap f) = k * l.length := by
  induction l with
  | nil => simp [sz]
  | cons z l ih => rw [List.flatMap_cons, sz_app, hf, ih, List.length_cons, Nat.mul_succ]; omega
theorem sz_who (l : List Int) : sz (l.map fun x => (x, 4)) = 4 * l.length := by
  induction l with
  | nil => rfl
  | cons z l ih =>
    unfold sz at ih ⊢
    simp only [List.map_cons, List.sum_cons, List.length_cons] at ih ⊢
    omega
theorem body_four (m : Mg) : (bytesOf (bodyM m).ps).length % 4 = 0 := by
  have h1 := sz_flat repParts 24 (fun _ => rfl) m.reports
  have h2 := sz_flat pairParts 4 (fun _ => rfl) m.pairs
  have h3 := sz_flat askParts 8 (fun _ => rfl) m.asks
  have h4 := sz_who m.who
  rw [bytesOf_sz]
  unfold bodyM
  split
  · dsimp only; rw [sz_app, h1]; simp [sz]; try omega
  split
  · dsimp only; rw [sz_app, h1]; simp [sz]; try omega
  split
  · dsimp only; rw [h4]; omega
  split
  · dsimp only; rw [sz_app, h2]; simp [sz]; try omega
  split
  · simp [sz]
  split
  · dsimp only; rw [sz_app, h3]; simp [sz]; try omega
  · rfl
theorem body_type {m : Mg} (h : (bodyM m).is = true) : 192 ≤ (bodyM m).t ∧ (bodyM m).t ≤ 223 := by
  unfold bodyM at h ⊢
  split
  · simp
  split
  · simp
  split
  · simp
  split
  · simp
  split
  · simp
  split
  · simp
  · simp_all
theorem msg_shape {m : Mg} (h : (bodyM m).is = true) : ∃ (n : Nat) (t : Int) (bs : List Int), msgB m = (128 + (n : Int)) :: t :: ((bs.length : Int) / 4 / 256 % 256) :: ((bs.length : Int) / 4 % 256) :: bs ∧ n ≤ 31 ∧ 192 ≤ t ∧ t ≤ 223 ∧ bs.length % 4 = 0 ∧ Byt bs :=
  ⟨(bodyM m).n, (bodyM m).t, bytesOf (bodyM m).ps, rfl, body_n h, (body_type h).1, (body_type h).2, body_four m, bytesOf_byt _⟩
theorem msgB_byt {m : Mg} (h : (bodyM m).is = true) : Byt (msgB m) := by
  obtain ⟨n, t, bs, e, hn, h1, h2, _, hb⟩ := msg_shape h
  rw [e]
  intro b hx
  simp only [List.mem_cons] at hx
  rcases hx with rfl | rfl | rfl | rfl | hx
  · omega
  · omega
  · exact ⟨by omega, by omega⟩
  · exact ⟨by omega, by omega⟩
  · exact hb b hx
theorem msgsB_byt {ms : List Mg} (h : ∀ m, m ∈ ms → (bodyM m).is = true) : Byt (ms.flatMap msgB) := by
  intro b hb
  obtain ⟨m, hm, hx⟩ := List.mem_flatMap.1 hb
  exact msgB_byt (h m hm) b hx
theorem isM_head {x0 x1 x2 x3 : Int} (h0 : 128 ≤ x0 ∧ x0 < 192) (h1 : 192 ≤ x1 ∧ x1 ≤ 223) : isM [x0, x1, x2, x3] = true := by simp [isM]; omega
/-- Put went well: each message may be put, and the bytes are theirs -/
theorem putM_ok {ms : List Mg} (h : (putM ms).2 = 0) : (∀ m, m ∈ ms → (bodyM m).is = true) ∧ (ms.flatMap msgB).length ≤ 1500 ∧ (putM ms).1 = ms.flatMap msgB := by
  unfold putM at h ⊢
  by_cases ha : (ms.all fun m => (bodyM m).is) = true
  · rw [if_pos ha] at h ⊢
    by_cases hb : 1500 < (ms.flatMap msgB).length
    · rw [if_pos hb] at h; simp at h
    · rw [if_neg hb]; exact ⟨fun m hm => List.all_eq_true.1 ha m hm, by omega, rfl⟩
  · rw [if_neg ha] at h; simp at h
theorem putM_of {ms : List Mg} (h1 : ∀ m, m ∈ ms → (bodyM m).is = true) (h2 : (ms.flatMap msgB).length ≤ 1500) : putM ms = (ms.flatMap msgB, 0) := by
  unfold putM
  rw [if_pos (List.all_eq_true.2 h1), if_neg (by omega)]
/-- Put went wrong: there are no bytes -/
theorem putM_no {ms : List Mg} (h : (putM ms).2 ≠ 0) : (putM ms).1 = [] := by
  unfold putM at h ⊢
  split at h
  · rename_i ha
    rw [if_pos ha]
    split at h
    · rename_i hb; rw [if_pos hb]
    · simp at h
  · rename_i ha
    rw [if_neg ha]
/-- numbers of their types, however many -/
structure Mg.Num (m : Mg) : Prop where
  ssrc : U32 m.ssrc
  media : U32 m.media
  clock : U64 m.clock
  time : U32 m.time
  packets : U32 m.packets
  bytes : U32 m.bytes
  reports : ∀ r, r ∈ m.reports → r.Ok
  who : ∀ x, x ∈ m.who → U32 x
  pairs : ∀ p, p ∈ m.pairs → U16 p.1 ∧ U16 p.2
  asks : ∀ p, p ∈ m.asks → U32 p.1 ∧ U8 p.2
  type : U8 m.type
theorem Mg.Num.ok {m : Mg} (h : m.Num) (hs : shortM m = true) : m.Ok := by
  simp only [shortM, Bool.and_eq_true, decide_eq_true_eq] at hs
  exact ⟨h.ssrc, h.media, h.clock, h.time, h.packets, h.bytes, h.reports, h.who, h.pairs, h.asks, h.type, by omega, by omega, by omega, by omega⟩
theorem fewM_ok {ms : List (Mg × Hd)} (h : fewM (ms.map (·.1)) = true) (hn : ∀ x, x ∈ ms → x.1.Num) : (∀ x, x ∈ ms → x.1.Ok) ∧ ms.length ≤ 12 := by
  simp only [fewM, Bool.and_eq_true, decide_eq_true_eq, List.length_map] at h
  exact ⟨fun x hx => (hn x hx).ok (List.all_eq_true.1 h.1 x.1 (List.mem_map.2 ⟨x, hx, rfl⟩)), h.2⟩
theorem xor64 (n : Nat) (h : n ≤ 31) : bits .xor .u8 (128 + (n : Int)) 64 = 192 + n := by
  have : ∀ k : Fin 32, bits .xor .u8 (128 + (k.val : Int)) 64 = 192 + k.val := by decide +kernel
  exact this ⟨n, by omega⟩
theorem xor64' (n : Nat) (h : n ≤ 31) : bits .xor .u8 (192 + (n : Int)) 64 = 128 + n := by
  have : ∀ k : Fin 32, bits .xor .u8 (192 + (k.val : Int)) 64 = 128 + k.val := by decide +kernel
  exact this ⟨n, by omega⟩
theorem or32 (n : Nat) (h : n ≤ 31) : bits .or .u8 (128 + (n : Int)) 32 = 160 + n := by
  have : ∀ k : Fin 32, bits .or .u8 (128 + (k.val : Int)) 32 = 160 + k.val := by decide +kernel
  exact this ⟨n, by omega⟩
end Go.Proofs.Ytgkejdjdccgjbaa
/- What is put is parsed: as many messages. Plain laws, no program in sight. -/
namespace Go.Proofs.Ytgkejdjdccgjbaa
open Go Go.RowKit
set_option maxHeartbeats 1000000

theorem repsM_ok {s : List Int × Int} (h : s.2 = 0) : ∀ n, 24 * n ≤ s.1.length → (repsM n s).2.1.length = s.1.length - 24 * n ∧ (repsM n s).2.2 = 0
  | 0, _ => ⟨by simp [repsM], h⟩
  | n + 1, hn => by
    obtain ⟨h1, h2⟩ := repsM_ok h n (by omega)
    obtain ⟨a1, a2⟩ := after_ok 4 h2 (by omega)
    obtain ⟨b1, b2⟩ := after_ok 1 a2 (by omega)
    obtain ⟨c1, c2⟩ := after_ok 3 b2 (by omega)
    obtain ⟨d1, d2⟩ := after_ok 4 c2 (by omega)
    obtain ⟨e1, e2⟩ := after_ok 4 d2 (by omega)
    obtain ⟨f1, f2⟩ := after_ok 4 e2 (by omega)
    obtain ⟨g1, g2⟩ := after_ok 4 f2 (by omega)
    exact ⟨by show (repA (repsM n s).2).1.length = _; unfold repA; omega, g2⟩
theorem whoM_ok {s : List Int × Int} (h : s.2 = 0) : ∀ n, 4 * n ≤ s.1.length → (whoM n s).2.1.length = s.1.length - 4 * n ∧ (whoM n s).2.2 = 0
  | 0, _ => ⟨by simp [whoM], h⟩
  | n + 1, hn => by
    obtain ⟨h1, h2⟩ := whoM_ok h n (by omega)
    obtain ⟨a1, a2⟩ := after_ok 4 h2 (by omega)
    exact ⟨by show (after (whoM n s).2 4).1.length = _; omega, a2⟩
theorem finM_zero {q : Mg × (List Int × Int)} (h : q.2.2 = 0) (h3 : q.1.kind = 3 → q.1.pairs.length ≠ 0) (h5 : q.1.kind = 5 → q.1.asks.length ≠ 0) : (finM q).2 = 0 := by
  unfold finM
  rw [if_pos h, if_neg]
  rintro (⟨a, b⟩ | ⟨a, b⟩)
  · exact h3 a b
  · exact h5 a b
/-- what a message's body is read back without fault -/
theorem read_back {m : Mg} (h : (bodyM m).is = true) : (readM (bodyM m).t (bodyM m).n (bytesOf (bodyM m).ps)).2 = 0 := by
  have h1 := sz_flat repParts 24 (fun _ => rfl) m.reports
  have h2 := sz_flat pairParts 4 (fun _ => rfl) m.pairs
  have h3 := sz_flat askParts 8 (fun _ => rfl) m.asks
  have h4 := sz_who m.who
  have hlen := bytesOf_sz (bodyM m).ps
  obtain ⟨bs, hbs⟩ : ∃ bs, bs = bytesOf (bodyM m).ps := ⟨_, rfl⟩
  rw [← hbs] at hlen ⊢
  clear hbs
  by_cases k0 : m.kind = 0
  · have eb : bodyM m = ⟨200, m.reports.length, [(m.ssrc, 4), (m.clock, 8), (m.time, 4), (m.packets, 4), (m.bytes, 4)] ++ m.reports.flatMap repParts, decide (m.reports.length ≤ 31)⟩ := by unfold bodyM; rw [if_pos k0]
    rw [eb] at hlen ⊢
    dsimp only at hlen ⊢
    rw [sz_app, h1] at hlen
    have hl : bs.length = 24 + 24 * m.reports.length := by rw [hlen]; simp [sz]
    have er : readM 200 m.reports.length bs = finM (senderM m.reports.length (bs, 0)) := by unfold readM; rw [if_pos (by simp [kindM])]
    rw [er]
    obtain ⟨a1, a2⟩ := after_ok (s := (bs, 0)) 4 rfl (by dsimp only; omega)
    obtain ⟨b1, b2⟩ := after_ok 8 a2 (by dsimp only at a1; omega)
    obtain ⟨c1, c2⟩ := after_ok 4 b2 (by dsimp only at a1; omega)
    obtain ⟨d1, d2⟩ := after_ok 4 c2 (by dsimp only at a1; omega)
    obtain ⟨e1, e2⟩ := after_ok 4 d2 (by dsimp only at a1; omega)
    exact finM_zero (repsM_ok e2 m.reports.length (by dsimp only at a1; omega)).2 (fun hk => absurd hk (by simp [senderM])) (fun hk => absurd hk (by simp [senderM]))
  by_cases k1 : m.kind = 1
  · have eb : bodyM m = ⟨201, m.reports.length, [(m.ssrc, 4)] ++ m.reports.flatMap repParts, decide (m.reports.length ≤ 31)⟩ := by unfold bodyM; rw [if_neg k0, if_pos k1]
    rw [eb] at hlen ⊢
    dsimp only at hlen ⊢
    rw [sz_app, h1] at hlen
    have hl : bs.length = 4 + 24 * m.reports.length := by rw [hlen]; simp [sz]
    have er : readM 201 m.reports.length bs = finM (receiverM m.reports.length (bs, 0)) := by unfold readM; rw [if_neg (by simp [kindM]), if_pos (by simp [kindM])]
    rw [er]
    obtain ⟨a1, a2⟩ := after_ok (s := (bs, 0)) 4 rfl (by dsimp only; omega)
    exact finM_zero (repsM_ok a2 m.reports.length (by dsimp only at a1; omega)).2 (fun hk => absurd hk (by simp [receiverM])) (fun hk => absurd hk (by simp [receiverM]))
  by_cases k2 : m.kind = 2
  · have eb : bodyM m = ⟨203, m.who.length, m.who.map fun x => (x, 4), decide (m.who.length ≤ 31)⟩ := by unfold bodyM; rw [if_neg k0, if_neg k1, if_pos k2]
    rw [eb] at hlen ⊢
    dsimp only at hlen ⊢
    rw [h4] at hlen
    have er : readM 203 m.who.length bs = finM (byeM m.who.length (bs, 0)) := by unfold readM; rw [if_neg (by simp [kindM]), if_neg (by simp [kindM]), if_pos (by simp [kindM])]
    rw [er]
    exact finM_zero (whoM_ok (s := (bs, 0)) rfl m.who.length (by dsimp only; omega)).2 (fun hk => absurd hk (by simp [byeM])) (fun hk => absurd hk (by simp [byeM]))
  by_cases k3 : m.kind = 3
  · have eb : bodyM m = ⟨205, 1, [(m.ssrc, 4), (m.media, 4)] ++ m.pairs.flatMap pairParts, decide (0 < m.pairs.length)⟩ := by unfold bodyM; rw [if_neg k0, if_neg k1, if_neg k2, if_pos k3]
    rw [eb] at hlen h ⊢
    dsimp only at hlen h ⊢
    have hp : 0 < m.pairs.length := by simpa using h
    rw [sz_app, h2] at hlen
    have hl : bs.length = 8 + 4 * m.pairs.length := by rw [hlen]; simp [sz]
    have er : readM 205 (1 : Nat) bs = finM (nackM (bs, 0)) := by unfold readM; rw [if_neg (by simp [kindM]), if_neg (by simp [kindM]), if_neg (by simp [kindM]), if_pos (by simp [kindM])]
    rw [er]
    obtain ⟨a1, a2⟩ := after_ok (s := (bs, 0)) 4 rfl (by dsimp only; omega)
    obtain ⟨b1, b2⟩ := after_ok 4 a2 (by dsimp only at a1; omega)
    have hq : (after (after (bs, 0) 4) 4).1.length = 4 * m.pairs.length := by dsimp only at a1; omega
    refine finM_zero (pairsM_ok b2 _ (by rw [hq]; omega)).2 (fun _ => ?_) (fun hk => absurd hk (by simp [nackM]))
    show (pairsM ((after (after (bs, 0) 4) 4).1.length / 4) (after (after (bs, 0) 4) 4)).1.length ≠ 0
    rw [pairsM_len, hq]
    omega
  by_cases k4 : m.kind = 4
  · have eb : bodyM m = ⟨206, 1, [(m.ssrc, 4), (m.media, 4)], true⟩ := by unfold bodyM; rw [if_neg k0, if_neg k1, if_neg k2, if_neg k3, if_pos k4]
    rw [eb] at hlen ⊢
    dsimp only at hlen ⊢
    have hl : bs.length = 8 := by rw [hlen]; simp [sz]
    have er : readM 206 (1 : Nat) bs = finM (pliG (bs, 0)) := by unfold readM; rw [if_neg (by simp [kindM]), if_neg (by simp [kindM]), if_neg (by simp [kindM]), if_neg (by simp [kindM]), if_pos (by simp [kindM])]
    rw [er]
    obtain ⟨a1, a2⟩ := after_ok (s := (bs, 0)) 4 rfl (by dsimp only; omega)
    obtain ⟨b1, b2⟩ := after_ok 4 a2 (by dsimp only at a1; omega)
    exact finM_zero b2 (fun hk => absurd hk (by simp [pliG])) (fun hk => absurd hk (by simp [pliG]))
  by_cases k5 : m.kind = 5
  · have eb : bodyM m = ⟨206, 4, [(m.ssrc, 4), (m.media, 4)] ++ m.asks.flatMap askParts, decide (0 < m.asks.length)⟩ := by unfold bodyM; rw [if_neg k0, if_neg k1, if_neg k2, if_neg k3, if_neg k4, if_pos k5]
    rw [eb] at hlen h ⊢
    dsimp only at hlen h ⊢
    have hp : 0 < m.asks.length := by simpa using h
    rw [sz_app, h3] at hlen
    have hl : bs.length = 8 + 8 * m.asks.length := by rw [hlen]; simp [sz]
    have er : readM 206 (4 : Nat) bs = finM (firM (bs, 0)) := by unfold readM; rw [if_neg (by simp [kindM]), if_neg (by simp [kindM]), if_neg (by simp [kindM]), if_neg (by simp [kindM]), if_neg (by simp [kindM]), if_pos (by simp [kindM])]
    rw [er]
    obtain ⟨a1, a2⟩ := after_ok (s := (bs, 0)) 4 rfl (by dsimp only; omega)
    obtain ⟨b1, b2⟩ := after_ok 4 a2 (by dsimp only at a1; omega)
    have hq : (after (after (bs, 0) 4) 4).1.length = 8 * m.asks.length := by dsimp only at a1; omega
    refine finM_zero (asksM_ok b2 _ (by rw [hq]; omega)).2 (fun hk => absurd hk (by simp [firM])) (fun _ => ?_)
    show (asksM ((after (after (bs, 0) 4) 4).1.length / 8) (after (after (bs, 0) 4) 4)).1.length ≠ 0
    rw [asksM_len, hq]
    omega
  · exfalso
    unfold bodyM at h
    rw [if_neg k0, if_neg k1, if_neg k2, if_neg k3, if_neg k4, if_neg k5] at h
    cases h
/-- one message of bytes that were put -/
theorem step_put {m : Mg} (h : (bodyM m).is = true) (rest : List Int) (hl : (msgB m).length ≤ 1500) : ∃ m', stepM (msgB m ++ rest) = .ok (m', rest) := by
  have hn := body_n h
  have ht := body_type h
  have h4 := body_four m
  have hr := read_back h
  unfold msgB at hl ⊢
  obtain ⟨bs, hbs⟩ : ∃ bs, bs = bytesOf (bodyM m).ps := ⟨_, rfl⟩
  rw [← hbs] at hl h4 hr ⊢
  simp only [List.cons_append, List.nil_append, List.length_cons] at hl ⊢
  have hx2 : (((bs.length : Int) / 4 / 256) % 256).toNat * 256 + ((bs.length : Int) / 4 % 256).toNat = bs.length / 4 := by omega
  have hmul : 4 * ((((bs.length : Int) / 4 / 256) % 256).toNat * 256 + ((bs.length : Int) / 4 % 256).toNat) = bs.length := by omega
  have hb : bodyOf (128 + ((bodyM m).n : Int)) ((bs ++ rest).take bs.length) (decide (((bs ++ rest).drop bs.length).length = 0)) = some bs := by
    unfold bodyOf
    rw [if_neg (by omega), List.take_left]
  have hs := stepM_read (x0 := 128 + ((bodyM m).n : Int)) (x1 := (bodyM m).t) (x2 := ((bs.length : Int) / 4 / 256) % 256) (x3 := (bs.length : Int) / 4 % 256) (rest := bs ++ rest) (b := bs) (isM_head (by omega) (by omega)) (by rw [hmul, List.length_append]; omega) (by rw [hmul]; exact hb)
  have he : ((128 + ((bodyM m).n : Int)) % 32).toNat = (bodyM m).n := by omega
  rw [he, if_pos hr, hmul, List.drop_left] at hs
  exact ⟨_, hs⟩
theorem parseA_put : ∀ (ms : List Mg), ms ≠ [] → (∀ m, m ∈ ms → (bodyM m).is = true) → ∀ (f : Nat) (out : List Mg), (ms.flatMap msgB).length ≤ 1500 → (ms.flatMap msgB).length < f → ∃ l, parseA f out (ms.flatMap msgB) = (out ++ l, 0) ∧ l.length = ms.length
  | [], hne, _ => absurd rfl hne
  | m :: ms, _, his => by
    intro f out hl hf
    rw [List.flatMap_cons] at hl hf ⊢
    rw [List.length_append] at hl hf
    obtain ⟨m', hs⟩ := step_put (his m (by simp)) (ms.flatMap msgB) (by omega)
    obtain ⟨g, rfl⟩ : ∃ g, f = g + 1 := ⟨f - 1, by omega⟩
    rw [parseA_ok hs]
    obtain ⟨n, t, bs, e, _⟩ := msg_shape (his m (by simp))
    have hml : 4 ≤ (msgB m).length := by rw [e]; simp
    cases ms with
    | nil => rw [if_pos (by rfl)]; exact ⟨[m'], rfl, rfl⟩
    | cons m2 ms2 =>
      obtain ⟨n2, t2, bs2, e2, _⟩ := msg_shape (his m2 (by simp))
      rw [if_neg (by rw [List.flatMap_cons, List.length_append, e2]; simp)]
      obtain ⟨l, hl2, hlen⟩ := parseA_put (m2 :: ms2) (by simp) (fun x hx => his x (by simp [List.mem_cons.1 hx])) g (out ++ [m']) (by omega) (by omega)
      exact ⟨m' :: l, by rw [hl2, List.append_assoc]; rfl, by simp only [List.length_cons] at hlen ⊢; omega⟩
theorem parse_put {ms : List Mg} (hne : ms ≠ []) (his : ∀ m, m ∈ ms → (bodyM m).is = true) (hl : (ms.flatMap msgB).length ≤ 1500) : (parseM (ms.flatMap msgB)).2 = 0 ∧ (parseM (ms.flatMap msgB)).1.length = ms.length := by
  unfold parseM
  rw [if_neg (by omega)]
  obtain ⟨l, h1, h2⟩ := parseA_put ms hne his ((ms.flatMap msgB).length + 1) [] hl (by omega)
  rw [h1]
  exact ⟨rfl, by simpa using h2⟩
theorem parse_none : parseM [] = ([], 10) := rfl
theorem put_four {ms : List Mg} (his : ∀ m, m ∈ ms → (bodyM m).is = true) : (ms.flatMap msgB).length % 4 = 0 := by
  induction ms with
  | nil => rfl
  | cons m ms ih =>
    obtain ⟨n, t, bs, e, _, _, _, h4, _⟩ := msg_shape (his m (by simp))
    have := ih (fun x hx => his x (by simp [hx]))
    rw [List.flatMap_cons, List.length_append, e]
    simp only [List.length_cons]
    omega
theorem put_is {ms : List Mg} (hne : ms ≠ []) (his : ∀ m, m ∈ ms → (bodyM m).is = true) : isM (ms.flatMap msgB) = true := by
  cases ms with
  | nil => exact absurd rfl hne
  | cons m ms =>
    obtain ⟨n, t, bs, e, hn, h1, h2, _⟩ := msg_shape (his m (by simp))
    rw [List.flatMap_cons, e]
    simp [isM]
    omega
end Go.Proofs.Ytgkejdjdccgjbaa
