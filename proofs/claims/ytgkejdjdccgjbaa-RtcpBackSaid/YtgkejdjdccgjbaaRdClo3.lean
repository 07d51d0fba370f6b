/- rtcp's reader: the closure of Bye. Conditions: bytes. -/
import Derived.Test.YtgkejdjdccgjbaaRdClo2
namespace Go.Proofs.Ytgkejdjdccgjbaa
open Go Go.RowKit
set_option maxHeartbeats 400000

def whoM : Nat → List Int × Int → List Int × (List Int × Int)
  | 0, s => ([], s)
  | n + 1, s => ((whoM n s).1 ++ [numS (whoM n s).2 4], after (whoM n s).2 4)
theorem whoM_byt {s : List Int × Int} (h : Byt s.1) : ∀ n, Byt (whoM n s).2.1
  | 0 => h
  | n + 1 => after_byt _ (whoM_byt h n)
theorem whoM_len (s : List Int × Int) : ∀ n, (whoM n s).1.length = n
  | 0 => rfl
  | n + 1 => by rw [whoM, List.length_append, whoM_len s n]; rfl
def byeM (n : Nat) (s : List Int × Int) : Mg × (List Int × Int) := (⟨2, 0, 0, 0, 0, 0, 0, [], (whoM n s).1, [], [], 0⟩, (whoM n s).2)
theorem infoU : (Try.prog.info? 43).map (fun i => (i.zero, i.size, i.bytes)) = some (some (.int .u32 0), 1, 4) := by kernel_rfl
set_option maxRecDepth 100000 in
set_option maxHeartbeats 4000000 in
theorem read3_any {w : World} {rv rp c lo : Nat} {n : Nat} {r : Rw} {er : Int} (h : RdIs w rv rp c lo n (zcells 2) r er) (hb : Byt r.xs) (hn : n ≤ 31) (hra : ∀ a, r.A = some a → a.block < w.heap.size) :
    Calls Try.prog 47 #[.pointer (some ⟨rv, 0, none⟩)] w fun e w' => ∃ r' hd, e = .returned (.tuple #[]) ∧ RdIs w' rv rp c lo n (mcells (byeM n (r.xs, er)).1 hd) r' (byeM n (r.xs, er)).2.2 ∧ MgIn w' w.heap.size (byeM n (r.xs, er)).1 hd ∧ Upd [c, rp] w w' := by
  obtain ⟨j0, hj0, hy0, hy1, hy2⟩ := info_parts infoU
  have hrc : rv ≠ rp := h.bv.ne h.br (by decide)
  have hrc' : rp ≠ rv := hrc.symm
  have v0 : w.cell? ⟨rv, 0, none⟩ = some (.pointer (some ⟨rp, 0, none⟩)) := h.bv.cell 0
  have n0 : w.cell? ⟨rp, 1, none⟩ = some (.int .i64 n) := h.br.cell 1
  have H := Lib.hid h
  have HB := Lib.hid hb
  have HRA := Lib.hid hra
  unfold zcells at H
  clear h hb hra
  go_enter Try.func47, Try.ntmps47
  go_wp2
  go_loopg [5] n (fun gk x5 wr => ∃ (i : Nat) (ri : Rw) (A : Option Addr) (cap : Nat), i ≤ n ∧ n ≤ i + gk ∧ x5 = .int .i64 i ∧ RdIs wr rv rp c lo n [.int .i64 2, .int .u32 0, .int .u32 0, .int .u64 0, .int .u32 0, .int .u32 0, .int .u32 0, .slice none 0 0, .slice A i cap, .slice none 0 0, .slice none 0 0, .int .u8 0] ri (whoM i (r.xs, er)).2.2 ∧ ri.xs = (whoM i (r.xs, er)).2.1 ∧
      (∀ a, ri.A = some a → a.block < w.heap.size) ∧ wr.ownsRow w.heap.size 43 1 (.slice A i cap) i ((whoM i (r.xs, er)).1.map (Value.int .u32)) ∧ Upd [c, rp] w wr)
  case atStart => exact ⟨0, r, none, 0, Nat.zero_le _, by omega, rfl, H.out, rfl, HRA.out, World.ownsRow_nil _ _ _ _, Upd.refl _ _⟩
  case round =>
    obtain ⟨i, ri, A, cap, hi, hgi, rfl, hrd, hxs, hra, hown, hu⟩ := hrel
    have HBY := Lib.hid (whoM_byt (s := (r.xs, er)) HB.out i)
    obtain ⟨s, hs⟩ : ∃ s, s = (whoM i (r.xs, er)).2 := ⟨_, rfl⟩
    rw [← hs] at hrd hxs HBY
    have HS := Lib.hid hs
    have HRI := Lib.hid hra
    have HOW := Lib.hid hown
    have HU := Lib.hid hu
    have HR := Lib.hid hrd
    have HXS := Lib.hid hxs
    clear hs hra hown hu hrd hxs v0 n0
    by_cases hlt : i < n
    · have hlti : (i : Int) < (n : Int) := by omega
      have hw : IntKind.i64.wrap ((i : Int) + 1) = (i : Int) + 1 := IntWalk.i64_in _ (by omega)
      have HC := Lib.hid (rnum_kept (HR.out.more ((Upd.refl [] wr).drewN 1)) (by rw [HXS.out]; exact HBY.out))
      rw [HXS.out] at HC
      change Hid (Calls _ _ _ _ fun e w' => ∃ r', e = .returned (.int .u32 (numS s 4)) ∧ r'.xs = (after s 4).1 ∧ RdIs w' rv rp c lo n _ r' (after s 4).2 ∧ (∀ a, r'.A = some a → ∃ a0, ri.A = some a0 ∧ a0.block = a.block) ∧ Upd [c] _ w') at HC
      obtain ⟨x, hx⟩ : ∃ x, x = numS s 4 := ⟨_, rfl⟩
      rw [← hx] at HC
      have HX := Lib.hid hx
      clear hx
      have pv : wr.cell? ⟨rv, 0, none⟩ = some (.pointer (some ⟨rp, 0, none⟩)) := HR.out.bv.cell 0
      have pvd : wr.drew.cell? ⟨rv, 0, none⟩ = some (.pointer (some ⟨rp, 0, none⟩)) := pv
      have pr : wr.cell? ⟨rp, 10, none⟩ = some (.slice A i cap) := HR.out.cellAt 8 rfl
      have prd : wr.drew.cell? ⟨rp, 10, none⟩ = some (.slice A i cap) := pr
      have hnc : ∀ t', t' ∈ [c] → (Value.slice A i cap).ownBlock ≠ some t' := by
        intro t' ht' e
        rw [List.mem_singleton] at ht'
        subst ht'
        obtain ⟨cur, hcur⟩ := row_type HOW.out t' e
        exact (hcur.ne HR.out.cut.bl (by decide)) rfl
      have HNC := Lib.hid hnc
      obtain ⟨ys, hys⟩ : ∃ ys, ys = (whoM i (r.xs, er)).1.map (Value.int .u32) := ⟨_, rfl⟩
      rw [← hys] at HOW
      have HYS := Lib.hid hys
      have HONE : Hid (∀ u ∈ ([.int .u32 x] : List Value), u.oneCell' = true) := Lib.hid (by intro u hu; repeat (first | (rcases List.mem_cons.1 hu with rfl | hu; · rfl) | cases hu))
      have hi31 : i ≤ 31 := by omega
      clear hys hnc
      go_upto_region 2 with fail
      go_region_law
        (first
          | (refine step_append_src _ (by rfl) (.tmp 12) (.tmp 15) 46 (by rfl) w.heap.size 43 j0 _ 1 4 Try.underlying46 hj0 hy0 hy1 hy2 rfl (by decide) (.slice A i cap) i ys (by rfl) HOA.out (some ⟨w1.heap.size, 0, none⟩) 1 1 [.int .u32 x] (by rfl) (fun e => by cases e) rfl (fun ad had => by cases had; exact blk_src HNEW.out) HONE.out (by unfold maxLen; omega) (by omega) HSZ.out ?_; intro v8 w8 hown8 hg8 hat8; have HRD8 := Lib.hid ((HA1.out.1.more ((Upd.refl [] w1).alloc (.cells #[.int .u32 x] 43))).upd (Upd.of_grown hg8) (fun hm => by obtain ⟨cur, hcur⟩ := row_type HOA.out rv (by simpa using hm); exact (hcur.ne (HA1.out.1.bv.alloc _) (by decide)) rfl) (fun hm => by obtain ⟨cur, hcur⟩ := row_type HOA.out rp (by simpa using hm); exact (hcur.ne (HA1.out.1.br.alloc _) (by decide)) rfl) (fun hm => by obtain ⟨cur, hcur⟩ := row_type HOA.out c (by simpa using hm); exact (hcur.ne (HA1.out.1.cut.bl.alloc _) (by decide)) rfl) (fun a ha hm => by have h1 := HRI1.out a ha; have h2 := (own_block_lt HOA.out (by simpa using hm)).1; omega)); have p8 : w8.cell? ⟨rp, 10, none⟩ = some (.slice A i cap) := HRD8.out.cellAt 8 rfl; have pv8 : w8.cell? ⟨rv, 0, none⟩ = some (.pointer (some ⟨rp, 0, none⟩)) := HRD8.out.bv.cell 0; have f8 := HRD8.out.br.frozen 10; have HU8 := Lib.hid (app_upd (HU1.out.alloc (.cells #[.int .u32 x] 43)) HOA.out hg8 (Nat.le_refl _)); obtain ⟨A8, c8, hv8, _⟩ := own_form hown8; subst hv8; have HO8 := Lib.hid hown8; have HA8 := Lib.hid True.intro; clear hown8 hg8 hat8)
          | (go_simp; go_at_call 43; refine HC.out.mono ?_; rintro e w1 ⟨r1, rfl, hx, hrd, hkk, hku⟩; have va : w1.cell? ⟨rv, 0, none⟩ = some (.pointer (some ⟨rp, 0, none⟩)) := hrd.bv.cell 0; have vaa : (w1.alloc (.cells #[.int .u32 x] 43)).cell? ⟨rv, 0, none⟩ = some (.pointer (some ⟨rp, 0, none⟩)) := (((Upd.refl [] w1).alloc _).cell (p := ⟨rv, 0, none⟩) hrd.bv.lt (by simp)).trans va; have pw : w1.cell? ⟨rp, 10, none⟩ = some (.slice A i cap) := hrd.cellAt 8 rfl; have pwa : (w1.alloc (.cells #[.int .u32 x] 43)).cell? ⟨rp, 10, none⟩ = some (.slice A i cap) := (((Upd.refl [] w1).alloc _).cell (p := ⟨rp, 10, none⟩) hrd.br.lt (by simp)).trans pw; have HU1 := Lib.hid ((HU.out.drewN 1).next (hku.more (by simp))); have HOA := Lib.hid ((ownsRow_upd HOW.out (((Upd.refl [c] wr).drewN 1).next hku) HNC.out).alloc (.cells #[.int .u32 x] 43)); have HSZ := Lib.hid (HU1.out.alloc (.cells #[.int .u32 x] 43)).size; have HNEW := Lib.hid (Blk.new w1 43 #[.int .u32 x]); have HRI1 : Hid (∀ a, r1.A = some a → a.block < w.heap.size) := Lib.hid (fun a ha => by obtain ⟨a0, h0, e⟩ := hkk a ha; rw [← e]; exact HRI.out a0 h0); have HA1 := Lib.hid (And.intro hrd hx); clear hx hrd hkk hku))
      all_goals
        go_wp2
        go_roundg (gk - 1)
        case measure => omega
        case rel =>
          have hput := HRD8.out.put 8 (.slice A8 (i + 1) c8)
          have hrs : whoM (i + 1) (r.xs, er) = ((whoM i (r.xs, er)).1 ++ [numS s 4], after s 4) := by rw [whoM, ← HS.out]
          have hnr : (Value.slice A8 (i + 1) c8).ownBlock ≠ some rp := by
            intro e
            obtain ⟨cur, hcur⟩ := row_type HO8.out rp e
            exact (hcur.ne HRD8.out.br (by decide)) rfl
          have hst := ownsRow_setCell_other HO8.out (a := ⟨rp, 10, none⟩) hnr (.slice A8 (i + 1) c8)
          refine ⟨i + 1, r1, A8, c8, by omega, by omega, by go_num, ?_, ?_, HRI1.out, ?_, HU8.out.setCell (.inl (by simp)) _⟩
          · rw [hrs]; exact hput
          · rw [hrs]; exact HA1.out.2
          · rw [hrs, List.map_append, ← HYS.out, List.map_cons, List.map_nil, ← HX.out]; exact hst
    · obtain rfl : i = n := by omega
      go_wp2
      refine bodyPost_end (v := .tuple #[]) (by simp [results, Try.results47, go_sem]) rfl ⟨ri, ⟨none, 0, A, cap, none, 0, none, 0⟩, rfl, ?_, ⟨CellsIn.nil _ _ _ _ _, ?_, CellsIn.nil _ _ _ _ _, CellsIn.nil _ _ _ _ _⟩, HU.out⟩
      · have hrd := HR.out
        rw [HS.out] at hrd
        simp only [byeM, mcells, whoM_len]
        exact hrd
      · simp only [byeM, whoM_len]
        exact CellsIn.of_own HOW.out
end Go.Proofs.Ytgkejdjdccgjbaa
