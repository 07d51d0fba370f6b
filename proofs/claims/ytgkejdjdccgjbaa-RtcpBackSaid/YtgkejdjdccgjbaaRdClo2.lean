/- rtcp's reader: the closures of Pli, Nack, Fir. Conditions: bytes. (Written by wip/gen/rtcpclo2.py.) -/
import Derived.Test.YtgkejdjdccgjbaaRdClo
namespace Go.Proofs.Ytgkejdjdccgjbaa
open Go Go.RowKit
set_option maxHeartbeats 400000

theorem after_ok {s : List Int × Int} (n : Nat) (h : s.2 = 0) (hn : n ≤ s.1.length) : (after s n).1.length = s.1.length - n ∧ (after s n).2 = 0 := by
  obtain ⟨xs, er⟩ := s
  dsimp only at h hn
  subst h
  have e : numM xs 0 n = (numOf (xs.take n), xs.drop n, 0) := by simp [numM]; omega
  unfold after
  dsimp only
  rw [e]
  exact ⟨by rw [List.length_drop], rfl⟩
theorem after_bad {s : List Int × Int} (n : Nat) (h : s.2 ≠ 0 → s.1.length < n) : (after s n).2 ≠ 0 → (after s n).1.length < n := by
  obtain ⟨xs, er⟩ := s
  dsimp only at h
  unfold after
  dsimp only
  unfold numM
  split
  · intro _; exact h (by assumption)
  split
  · intro _; assumption
  · intro hh; exact absurd rfl hh
def pairS (s : List Int × Int) : Int × Int := (numS s 2, numS (after s 2) 2)
def pairA (s : List Int × Int) : List Int × Int := after (after s 2) 2
def pairsM : Nat → List Int × Int → List (Int × Int) × (List Int × Int)
  | 0, s => ([], s)
  | n + 1, s => ((pairsM n s).1 ++ [pairS (pairsM n s).2], pairA (pairsM n s).2)
theorem pairsM_byt {s : List Int × Int} (h : Byt s.1) : ∀ n, Byt (pairsM n s).2.1
  | 0 => h
  | n + 1 => after_byt _ (after_byt _ (pairsM_byt h n))
theorem pairsM_len (s : List Int × Int) : ∀ n, (pairsM n s).1.length = n
  | 0 => rfl
  | n + 1 => by rw [pairsM, List.length_append, pairsM_len s n]; rfl
theorem pairsM_ok {s : List Int × Int} (h : s.2 = 0) : ∀ n, 4 * n ≤ s.1.length → (pairsM n s).2.1.length = s.1.length - 4 * n ∧ (pairsM n s).2.2 = 0
  | 0, _ => ⟨by simp [pairsM], h⟩
  | n + 1, hn => by
    obtain ⟨h1, h2⟩ := pairsM_ok h n (by omega)
    obtain ⟨h3, h4⟩ := after_ok 2 h2 (by omega)
    obtain ⟨h5, h6⟩ := after_ok 2 h4 (by omega)
    exact ⟨by show (after (after (pairsM n s).2 2) 2).1.length = _; omega, h6⟩
def askS (s : List Int × Int) : Int × Int := (numS s 4, numS (after s 4) 1)
def askA (s : List Int × Int) : List Int × Int := after (after (after s 4) 1) 3
def asksM : Nat → List Int × Int → List (Int × Int) × (List Int × Int)
  | 0, s => ([], s)
  | n + 1, s => ((asksM n s).1 ++ [askS (asksM n s).2], askA (asksM n s).2)
theorem asksM_byt {s : List Int × Int} (h : Byt s.1) : ∀ n, Byt (asksM n s).2.1
  | 0 => h
  | n + 1 => after_byt _ (after_byt _ (after_byt _ (asksM_byt h n)))
theorem asksM_len (s : List Int × Int) : ∀ n, (asksM n s).1.length = n
  | 0 => rfl
  | n + 1 => by rw [asksM, List.length_append, asksM_len s n]; rfl
theorem asksM_ok {s : List Int × Int} (h : s.2 = 0) : ∀ n, 8 * n ≤ s.1.length → (asksM n s).2.1.length = s.1.length - 8 * n ∧ (asksM n s).2.2 = 0
  | 0, _ => ⟨by simp [asksM], h⟩
  | n + 1, hn => by
    obtain ⟨h1, h2⟩ := asksM_ok h n (by omega)
    obtain ⟨h3, h4⟩ := after_ok 4 h2 (by omega)
    obtain ⟨h5, h6⟩ := after_ok 1 h4 (by omega)
    obtain ⟨h7, h8⟩ := after_ok 3 h6 (by omega)
    exact ⟨by show (after (after (after (asksM n s).2 4) 1) 3).1.length = _; omega, h8⟩
def nackM (s : List Int × Int) : Mg × (List Int × Int) :=
  (⟨3, numS s 4, numS (after s 4) 4, 0, 0, 0, 0, [], [], (pairsM ((after (after s 4) 4).1.length / 4) (after (after s 4) 4)).1, [], 0⟩, (pairsM ((after (after s 4) 4).1.length / 4) (after (after s 4) 4)).2)
def firM (s : List Int × Int) : Mg × (List Int × Int) :=
  (⟨5, numS s 4, numS (after s 4) 4, 0, 0, 0, 0, [], [], [], (asksM ((after (after s 4) 4).1.length / 8) (after (after s 4) 4)).1, 0⟩, (asksM ((after (after s 4) 4).1.length / 8) (after (after s 4) 4)).2)
theorem infoPr : (Try.prog.info? 68).map (fun i => (i.zero, i.size, i.bytes)) = some (some (.agg #[.int .u16 0, .int .u16 0]), 2, 4) := by kernel_rfl
theorem infoAs : (Try.prog.info? 91).map (fun i => (i.zero, i.size, i.bytes)) = some (some (.agg #[.int .u32 0, .int .u8 0]), 2, 8) := by kernel_rfl
theorem blk2 {w : World} {X : Nat} {t : TypeId} {a0 a1 p : Value} {g : Addr} (h : Blk w X t #[a0, a1]) (hg : w.cell? g = some p) : w.cell? g = some p ∧ w.cell? ⟨X, 0, none⟩ = some a0 ∧ w.cell? ⟨X, 1, none⟩ = some a1 := ⟨hg, h.cell 0, h.cell 1⟩
set_option maxRecDepth 100000 in
set_option maxHeartbeats 4000000 in
theorem read5g_any {w : World} {rv rp c lo : Nat} {n : Nat} {r : Rw} (h : RdIs w rv rp c lo n (zcells 4) r 0) (hb : Byt r.xs) (hl : r.xs.length ≤ 100000) (hra : ∀ a, r.A = some a → a.block < w.heap.size) :
    Calls Try.prog 49 #[.pointer (some ⟨rv, 0, none⟩)] w fun e w' => ∃ r' hd, e = .returned (.tuple #[]) ∧ RdIs w' rv rp c lo n (mcells (pliG (r.xs, 0)).1 hd) r' (pliG (r.xs, 0)).2.2 ∧ MgIn w' w.heap.size (pliG (r.xs, 0)).1 hd ∧ Upd [c, rp] w w' := by
  have hrc : rv ≠ rp := h.bv.ne h.br (by decide)
  have hrc' : rp ≠ rv := hrc.symm
  have hrv := h.bv.lt
  have hrp := h.br.lt
  have hc := h.cut.bl.lt
  obtain ⟨s0, hs0⟩ : ∃ s : List Int × Int, s = (r.xs, 0) := ⟨_, rfl⟩
  rw [← hs0]
  obtain ⟨r0, hr0⟩ : ∃ q, q = r := ⟨_, rfl⟩
  have HXS0 : Hid (r0.xs = s0.1) := by rw [hs0, hr0]; exact Lib.hid rfl
  have HR0 : Hid (RdIs w rv rp c lo n (zcells 4) r0 s0.2) := by rw [hs0, hr0]; exact Lib.hid h
  have HB0 : Hid (Byt s0.1) := by rw [hs0]; exact Lib.hid hb
  have HRI0 : Hid (∀ a, r0.A = some a → a.block < w.heap.size) := by rw [hr0]; exact Lib.hid hra
  have HU0 : Hid (Upd [c, rp] w w) := Lib.hid (Upd.refl _ _)
  have HE0 : Hid (s0.2 = 0) := by rw [hs0]; exact Lib.hid rfl
  have HL0 : Hid (s0.1.length ≤ 100000) := by rw [hs0]; exact Lib.hid hl
  unfold zcells at HR0
  clear h hb hra hs0 hr0 hl
  go_enter Try.func49, Try.ntmps49
  have hb1 := after_byt 4 HB0.out
  have HC := Lib.hid (rnum_kept (HR0.out.more ((Upd.refl [] w).drewN 1)) (by rw [HXS0.out]; exact HB0.out))
  rw [HXS0.out] at HC
  change Hid (Calls _ _ _ _ fun e w' => ∃ r', e = .returned (.int .u32 (numS s0 4)) ∧ r'.xs = (after s0 4).1 ∧ RdIs w' rv rp c lo n _ r' (after s0 4).2 ∧ (∀ a, r'.A = some a → ∃ a0, r0.A = some a0 ∧ a0.block = a.block) ∧ Upd [c] _ w') at HC
  have v0 : w.cell? ⟨rv, 0, none⟩ = some (.pointer (some ⟨rp, 0, none⟩)) := HR0.out.bv.cell 0
  obtain ⟨x, hx⟩ : ∃ x, x = numS s0 4 := ⟨_, rfl⟩
  obtain ⟨s1, hs1⟩ : ∃ t, t = after s0 4 := ⟨_, rfl⟩
  rw [← hx, ← hs1] at HC
  rw [← hs1] at hb1
  have HX0 := Lib.hid hx
  have HS1 := Lib.hid hs1
  have HB1 := Lib.hid hb1
  clear hx hs1 hb1
  go_upto_region 0 with fail
  go_region_held3 (fun w' => w'.cell? ⟨rv, 0, none⟩ = some (.pointer (some ⟨rp, 0, none⟩))) (first | go_keep | exact va | exact v0 | simpa [hrc, hrc'] using va)
    ((go_at_call 43; refine HC.out.mono ?_; rintro e w1 ⟨r1, rfl, hx, hrd, hkk, hku⟩; have va : w1.cell? ⟨rv, 0, none⟩ = some (.pointer (some ⟨rp, 0, none⟩)) := hrd.bv.cell 0; have pa : w1.cell? ⟨rp, 3, none⟩ = some (.int .u32 0) := hrd.cellAt 1 rfl; have fa := hrd.br.frozen 3; have HH := Lib.hid (And.intro hx (And.intro (hrd.put 1 (.int .u32 x)) (And.intro hkk hku))); clear hx hrd hkk hku))
  obtain ⟨V1, hV1⟩ : ∃ V, V = w1.setCell ⟨rp, 3, none⟩ (.int .u32 x) := ⟨_, rfl⟩
  obtain ⟨hx, hrd, hkk, hku⟩ := HH.out
  have HU1 : Hid (Upd [c, rp] w V1) := by rw [hV1]; exact Lib.hid (((HU0.out.drewN 1).next (hku.more (by simp))).setCell (.inl (by simp)) _)
  rw [show (1 + 2 : Nat) = 3 from rfl, ← hV1] at hrd
  rw [← hV1]
  have HR1 := Lib.hid hrd
  have HXS1 := Lib.hid hx
  have HRI1 : Hid (∀ a, r1.A = some a → a.block < w.heap.size) := Lib.hid (fun a ha => by obtain ⟨a0, h0, e⟩ := hkk a ha; rw [← e]; exact HRI0.out a0 h0)
  clear hV1 HH HC hx hrd hkk hku va pa fa v0
  have hb2 := after_byt 4 HB1.out
  have HC := Lib.hid (rnum_kept (HR1.out.more ((Upd.refl [] V1).drewN 1)) (by rw [HXS1.out]; exact HB1.out))
  rw [HXS1.out] at HC
  change Hid (Calls _ _ _ _ fun e w' => ∃ r', e = .returned (.int .u32 (numS s1 4)) ∧ r'.xs = (after s1 4).1 ∧ RdIs w' rv rp c lo n _ r' (after s1 4).2 ∧ (∀ a, r'.A = some a → ∃ a0, r1.A = some a0 ∧ a0.block = a.block) ∧ Upd [c] _ w') at HC
  have v1 : V1.cell? ⟨rv, 0, none⟩ = some (.pointer (some ⟨rp, 0, none⟩)) := HR1.out.bv.cell 0
  obtain ⟨x, hx⟩ : ∃ x, x = numS s1 4 := ⟨_, rfl⟩
  obtain ⟨s2, hs2⟩ : ∃ t, t = after s1 4 := ⟨_, rfl⟩
  rw [← hx, ← hs2] at HC
  rw [← hs2] at hb2
  have HX1 := Lib.hid hx
  have HS2 := Lib.hid hs2
  have HB2 := Lib.hid hb2
  clear hx hs2 hb2
  go_upto_region 1 with fail
  go_region_held3 (fun w' => w'.cell? ⟨rv, 0, none⟩ = some (.pointer (some ⟨rp, 0, none⟩))) (first | go_keep | exact va | exact v1 | simpa [hrc, hrc'] using va)
    ((go_at_call 43; refine HC.out.mono ?_; rintro e w1 ⟨r2, rfl, hx, hrd, hkk, hku⟩; have va : w1.cell? ⟨rv, 0, none⟩ = some (.pointer (some ⟨rp, 0, none⟩)) := hrd.bv.cell 0; have pa : w1.cell? ⟨rp, 4, none⟩ = some (.int .u32 0) := hrd.cellAt 2 rfl; have fa := hrd.br.frozen 4; have HH := Lib.hid (And.intro hx (And.intro (hrd.put 2 (.int .u32 x)) (And.intro hkk hku))); clear hx hrd hkk hku))
  obtain ⟨V2, hV2⟩ : ∃ V, V = w1.setCell ⟨rp, 4, none⟩ (.int .u32 x) := ⟨_, rfl⟩
  obtain ⟨hx, hrd, hkk, hku⟩ := HH.out
  have HU2 : Hid (Upd [c, rp] w V2) := by rw [hV2]; exact Lib.hid (((HU1.out.drewN 1).next (hku.more (by simp))).setCell (.inl (by simp)) _)
  rw [show (2 + 2 : Nat) = 4 from rfl, ← hV2] at hrd
  rw [← hV2]
  have HR2 := Lib.hid hrd
  have HXS2 := Lib.hid hx
  have HRI2 : Hid (∀ a, r2.A = some a → a.block < w.heap.size) := Lib.hid (fun a ha => by obtain ⟨a0, h0, e⟩ := hkk a ha; rw [← e]; exact HRI1.out a0 h0)
  clear hV2 HH HC hx hrd hkk hku va pa fa v1
  go_wp2
  refine bodyPost_end (v := .tuple #[]) (by simp [results, Try.results49, go_sem]) rfl ⟨r2, ⟨none, 0, none, 0, none, 0, none, 0⟩, rfl, ?_, ⟨CellsIn.nil _ _ _ _ _, CellsIn.nil _ _ _ _ _, CellsIn.nil _ _ _ _ _, CellsIn.nil _ _ _ _ _⟩, HU2.out⟩
  have hrd := HR2.out
  simp only [pliG, mcells, ← HS1.out, ← HS2.out]
  simp only [HX0.out, HX1.out] at hrd
  exact hrd
set_option maxRecDepth 100000 in
set_option maxHeartbeats 4000000 in
theorem read4_any {w : World} {rv rp c lo : Nat} {n : Nat} {r : Rw} (h : RdIs w rv rp c lo n (zcells 3) r 0) (hb : Byt r.xs) (hl : r.xs.length ≤ 100000) (hra : ∀ a, r.A = some a → a.block < w.heap.size) :
    Calls Try.prog 48 #[.pointer (some ⟨rv, 0, none⟩)] w fun e w' => ∃ r' hd, e = .returned (.tuple #[]) ∧ RdIs w' rv rp c lo n (mcells (nackM (r.xs, 0)).1 hd) r' (nackM (r.xs, 0)).2.2 ∧ MgIn w' w.heap.size (nackM (r.xs, 0)).1 hd ∧ Upd [c, rp] w w' := by
  obtain ⟨j0, hj0, hy0, hy1, hy2⟩ := info_parts infoPr
  have hrc : rv ≠ rp := h.bv.ne h.br (by decide)
  have hrc' : rp ≠ rv := hrc.symm
  have hrv := h.bv.lt
  have hrp := h.br.lt
  have hc := h.cut.bl.lt
  obtain ⟨s0, hs0⟩ : ∃ s : List Int × Int, s = (r.xs, 0) := ⟨_, rfl⟩
  rw [← hs0]
  obtain ⟨r0, hr0⟩ : ∃ q, q = r := ⟨_, rfl⟩
  have HXS0 : Hid (r0.xs = s0.1) := by rw [hs0, hr0]; exact Lib.hid rfl
  have HR0 : Hid (RdIs w rv rp c lo n (zcells 3) r0 s0.2) := by rw [hs0, hr0]; exact Lib.hid h
  have HB0 : Hid (Byt s0.1) := by rw [hs0]; exact Lib.hid hb
  have HRI0 : Hid (∀ a, r0.A = some a → a.block < w.heap.size) := by rw [hr0]; exact Lib.hid hra
  have HU0 : Hid (Upd [c, rp] w w) := Lib.hid (Upd.refl _ _)
  have HE0 : Hid (s0.2 = 0) := by rw [hs0]; exact Lib.hid rfl
  have HL0 : Hid (s0.1.length ≤ 100000) := by rw [hs0]; exact Lib.hid hl
  unfold zcells at HR0
  clear h hb hra hs0 hr0 hl
  go_enter Try.func48, Try.ntmps48
  have hb1 := after_byt 4 HB0.out
  have HC := Lib.hid (rnum_kept (HR0.out.more ((Upd.refl [] w).drewN 1)) (by rw [HXS0.out]; exact HB0.out))
  rw [HXS0.out] at HC
  change Hid (Calls _ _ _ _ fun e w' => ∃ r', e = .returned (.int .u32 (numS s0 4)) ∧ r'.xs = (after s0 4).1 ∧ RdIs w' rv rp c lo n _ r' (after s0 4).2 ∧ (∀ a, r'.A = some a → ∃ a0, r0.A = some a0 ∧ a0.block = a.block) ∧ Upd [c] _ w') at HC
  have v0 : w.cell? ⟨rv, 0, none⟩ = some (.pointer (some ⟨rp, 0, none⟩)) := HR0.out.bv.cell 0
  obtain ⟨x, hx⟩ : ∃ x, x = numS s0 4 := ⟨_, rfl⟩
  obtain ⟨s1, hs1⟩ : ∃ t, t = after s0 4 := ⟨_, rfl⟩
  rw [← hx, ← hs1] at HC
  rw [← hs1] at hb1
  have HX0 := Lib.hid hx
  have HS1 := Lib.hid hs1
  have HB1 := Lib.hid hb1
  clear hx hs1 hb1
  go_upto_region 0 with fail
  go_region_held3 (fun w' => w'.cell? ⟨rv, 0, none⟩ = some (.pointer (some ⟨rp, 0, none⟩))) (first | go_keep | exact va | exact v0 | simpa [hrc, hrc'] using va)
    ((go_at_call 43; refine HC.out.mono ?_; rintro e w1 ⟨r1, rfl, hx, hrd, hkk, hku⟩; have va : w1.cell? ⟨rv, 0, none⟩ = some (.pointer (some ⟨rp, 0, none⟩)) := hrd.bv.cell 0; have pa : w1.cell? ⟨rp, 3, none⟩ = some (.int .u32 0) := hrd.cellAt 1 rfl; have fa := hrd.br.frozen 3; have HH := Lib.hid (And.intro hx (And.intro (hrd.put 1 (.int .u32 x)) (And.intro hkk hku))); clear hx hrd hkk hku))
  obtain ⟨V1, hV1⟩ : ∃ V, V = w1.setCell ⟨rp, 3, none⟩ (.int .u32 x) := ⟨_, rfl⟩
  obtain ⟨hx, hrd, hkk, hku⟩ := HH.out
  have HU1 : Hid (Upd [c, rp] w V1) := by rw [hV1]; exact Lib.hid (((HU0.out.drewN 1).next (hku.more (by simp))).setCell (.inl (by simp)) _)
  rw [show (1 + 2 : Nat) = 3 from rfl, ← hV1] at hrd
  rw [← hV1]
  have HR1 := Lib.hid hrd
  have HXS1 := Lib.hid hx
  have HRI1 : Hid (∀ a, r1.A = some a → a.block < w.heap.size) := Lib.hid (fun a ha => by obtain ⟨a0, h0, e⟩ := hkk a ha; rw [← e]; exact HRI0.out a0 h0)
  clear hV1 HH HC hx hrd hkk hku va pa fa v0
  have hb2 := after_byt 4 HB1.out
  have HC := Lib.hid (rnum_kept (HR1.out.more ((Upd.refl [] V1).drewN 1)) (by rw [HXS1.out]; exact HB1.out))
  rw [HXS1.out] at HC
  change Hid (Calls _ _ _ _ fun e w' => ∃ r', e = .returned (.int .u32 (numS s1 4)) ∧ r'.xs = (after s1 4).1 ∧ RdIs w' rv rp c lo n _ r' (after s1 4).2 ∧ (∀ a, r'.A = some a → ∃ a0, r1.A = some a0 ∧ a0.block = a.block) ∧ Upd [c] _ w') at HC
  have v1 : V1.cell? ⟨rv, 0, none⟩ = some (.pointer (some ⟨rp, 0, none⟩)) := HR1.out.bv.cell 0
  obtain ⟨x, hx⟩ : ∃ x, x = numS s1 4 := ⟨_, rfl⟩
  obtain ⟨s2, hs2⟩ : ∃ t, t = after s1 4 := ⟨_, rfl⟩
  rw [← hx, ← hs2] at HC
  rw [← hs2] at hb2
  have HX1 := Lib.hid hx
  have HS2 := Lib.hid hs2
  have HB2 := Lib.hid hb2
  clear hx hs2 hb2
  go_upto_region 1 with fail
  go_region_held3 (fun w' => w'.cell? ⟨rv, 0, none⟩ = some (.pointer (some ⟨rp, 0, none⟩))) (first | go_keep | exact va | exact v1 | simpa [hrc, hrc'] using va)
    ((go_at_call 43; refine HC.out.mono ?_; rintro e w1 ⟨r2, rfl, hx, hrd, hkk, hku⟩; have va : w1.cell? ⟨rv, 0, none⟩ = some (.pointer (some ⟨rp, 0, none⟩)) := hrd.bv.cell 0; have pa : w1.cell? ⟨rp, 4, none⟩ = some (.int .u32 0) := hrd.cellAt 2 rfl; have fa := hrd.br.frozen 4; have HH := Lib.hid (And.intro hx (And.intro (hrd.put 2 (.int .u32 x)) (And.intro hkk hku))); clear hx hrd hkk hku))
  obtain ⟨V2, hV2⟩ : ∃ V, V = w1.setCell ⟨rp, 4, none⟩ (.int .u32 x) := ⟨_, rfl⟩
  obtain ⟨hx, hrd, hkk, hku⟩ := HH.out
  have HU2 : Hid (Upd [c, rp] w V2) := by rw [hV2]; exact Lib.hid (((HU1.out.drewN 1).next (hku.more (by simp))).setCell (.inl (by simp)) _)
  rw [show (2 + 2 : Nat) = 4 from rfl, ← hV2] at hrd
  rw [← hV2]
  have HR2 := Lib.hid hrd
  have HXS2 := Lib.hid hx
  have HRI2 : Hid (∀ a, r2.A = some a → a.block < w.heap.size) := Lib.hid (fun a ha => by obtain ⟨a0, h0, e⟩ := hkk a ha; rw [← e]; exact HRI1.out a0 h0)
  clear hV2 HH HC hx hrd hkk hku va pa fa v1
  obtain ⟨x0, hx0⟩ : ∃ x0, x0 = numS s0 4 := ⟨_, rfl⟩
  obtain ⟨x1, hx1⟩ : ∃ x1, x1 = numS s1 4 := ⟨_, rfl⟩
  have HRV : Hid (RdIs V2 rv rp c lo n [.int .i64 3, .int .u32 x0, .int .u32 x1, .int .u64 0, .int .u32 0, .int .u32 0, .int .u32 0, .slice none 0 0, .slice none 0 0, .slice none 0 0, .slice none 0 0, .int .u8 0] r2 s2.2) := by
    have hrd := HR2.out
    simp only [HX0.out, HX1.out] at hrd
    rw [hx0, hx1]
    exact Lib.hid hrd
  have HM : Hid (nackM s0 = (⟨3, x0, x1, 0, 0, 0, 0, [], [], (pairsM (s2.1.length / 4) s2).1, [], 0⟩, (pairsM (s2.1.length / 4) s2).2)) := by
    rw [nackM, ← HS1.out, ← HS2.out, hx0, hx1]; exact Lib.hid rfl
  have HBAD : Hid (s2.2 ≠ 0 → s2.1.length < 4) := by
    rw [HS2.out]
    refine Lib.hid (after_bad 4 ?_)
    rw [HS1.out]
    exact after_bad 4 (fun hh => absurd HE0.out hh)
  have HL2 : Hid (s2.1.length ≤ 100000) := by
    rw [HS2.out, HS1.out]
    have e : ∀ (s : List Int × Int), (after s 4).1.length ≤ s.1.length := fun s => by
      unfold after numM; (repeat' split) <;> simp
    exact Lib.hid (Nat.le_trans (e _) (Nat.le_trans (e _) HL0.out))
  clear HR2 HX0 HX1 hx0 hx1 HR1 HR0 HXS0 HXS1 HB0 HB1 HRI0 HRI1 HU0 HU1 HS1 HS2 HE0 HL0
  obtain ⟨N, hN⟩ : ∃ N, N = s2.1.length / 4 := ⟨_, rfl⟩
  rw [← hN] at HM
  have hNb : N ≤ 100000 := by have := HL2.out; omega
  have HNN := Lib.hid hN
  clear hN
  go_wp2
  go_loopg [1] N (fun gk x1' wr => ∃ (i : Nat) (ri : Rw) (A : Option Addr) (cap : Nat), i ≤ N ∧ N ≤ i + gk ∧ RdIs wr rv rp c lo n [.int .i64 3, .int .u32 x0, .int .u32 x1, .int .u64 0, .int .u32 0, .int .u32 0, .int .u32 0, .slice none 0 0, .slice none 0 0, .slice A i cap, .slice none 0 0, .int .u8 0] ri (pairsM i s2).2.2 ∧ ri.xs = (pairsM i s2).2.1 ∧
      (∀ a, ri.A = some a → a.block < w.heap.size) ∧ wr.ownsRow w.heap.size 68 2 (.slice A i cap) i ((pairsM i s2).1.flatMap encPair) ∧ Upd [c, rp] w wr)
  case atStart => exact ⟨0, r2, none, 0, Nat.zero_le _, by omega, HRV.out, HXS2.out, HRI2.out, World.ownsRow_nil _ _ _ _, HU2.out⟩
  case round =>
    obtain ⟨i, ri, A, cap, hi, hgi, hrd, hxs, hra, hown, hu⟩ := hrel
    have HBY := Lib.hid (pairsM_byt HB2.out i)
    have hlen : (pairsM i s2).2.1.length = s2.1.length - 4 * i := by
      have hN := HNN.out
      by_cases hz : s2.2 = 0
      · exact (pairsM_ok hz i (by omega)).1
      · have := HBAD.out hz
        obtain rfl : i = 0 := by omega
        show s2.1.length = _; omega
    have hlx : ri.xs.length = s2.1.length - 4 * i := by rw [hxs, hlen]
    obtain ⟨s, hs⟩ : ∃ s, s = (pairsM i s2).2 := ⟨_, rfl⟩
    rw [← hs] at hrd hxs HBY
    have HS := Lib.hid hs
    have HRI := Lib.hid hra
    have HOW := Lib.hid hown
    have HU := Lib.hid hu
    have HR := Lib.hid hrd
    have HXS := Lib.hid hxs
    have HLF := Lib.hid (left_any hrd.cut)
    have pv : wr.cell? ⟨rv, 0, none⟩ = some (.pointer (some ⟨rp, 0, none⟩)) := hrd.bv.cell 0
    have pc : wr.cell? ⟨rp, 0, none⟩ = some (.pointer (some ⟨c, 0, none⟩)) := hrd.br.cell 0
    clear hs hra hown hu hrd hxs hlen
    go_wp2_with fail
    refine HLF.out.mono ?_
    rintro e w1 ⟨rfl, rfl⟩
    clear HLF
    by_cases hlt : i < N
    · have hge : (4 : Int) ≤ (ri.xs.length : Int) := by have hN := HNN.out; rw [hlx]; omega
      have HBQ0 := Lib.hid (after_byt 2 HBY.out)
      have HCk := Lib.hid (num_any HR.out.cut 2 (by decide) (by decide) (by rw [HXS.out]; exact HBY.out))
      rw [HXS.out] at HCk
      change Hid (Calls _ _ _ _ fun e w' => ∃ r', e = .returned (.int .u64 (numS s 2)) ∧ r'.xs = (after s 2).1 ∧ CutIs w' c lo r' (after s 2).2 ∧ (∀ a, r'.A = some a → ∃ a0, ri.A = some a0 ∧ a0.block = a.block) ∧ Upd [c] _ w') at HCk
      have hcv := numS_lt 2 HBY.out
      have hcv1 : IntKind.u16.wrap (numS s 2) = numS s 2 := IntWalk.u16_in _ (by have := hcv.2; have := hcv.1; omega)
      go_wp2_with fail
      refine HCk.out.mono ?_
      rintro e w2 ⟨q0, rfl, hx, hct, hkk, hku⟩
      have hrd := HR.out.took hct hkk hku
      have hri : ∀ a, q0.A = some a → a.block < w.heap.size := (fun a ha => by obtain ⟨a0, h0, e⟩ := hkk a ha; rw [← e]; exact HRI.out a0 h0)
      go_upto_region 4 with fail
      obtain ⟨W0, hW0⟩ : ∃ W0, W0 = w2.alloc (.cells #[.int .u16 (numS s 2), .int .u16 0] 68) := ⟨_, rfl⟩
      obtain ⟨X, hX⟩ : ∃ X, X = w2.heap.size := ⟨_, rfl⟩
      rw [← hW0, ← hX]
      have HX0 : Hid (Blk W0 X 68 #[.int .u16 (numS s 2), .int .u16 0]) := by rw [hW0, hX]; exact Lib.hid (Blk.new _ _ _)
      have HQ0 := Lib.hid (hrd.more (((Upd.refl [] _).alloc (.cells #[.int .u16 (numS s 2), .int .u16 0] 68))))
      rw [← hW0] at HQ0
      have HW0 : Hid (Upd [c] wr W0) := by rw [hW0]; exact Lib.hid (hku.alloc _)
      have HUQ0 : Hid (Upd [c, rp] w W0) := Lib.hid (HU.out.next (HW0.out.more (by simp)))
      have HXW : Hid (wr.heap.size ≤ X) := by rw [hX]; exact Lib.hid hku.size
      have HXN : Hid (w.heap.size ≤ X) := Lib.hid (Nat.le_trans HU.out.size HXW.out)
      have HXQ0 := Lib.hid hx
      have HRQ0 := Lib.hid hri
      clear hx hrd hku hri HCk hW0 hkk hX pv pc hct hcv hcv1
      have HBQ1 := Lib.hid (after_byt 2 HBQ0.out)
      have HCk := Lib.hid (num_any HQ0.out.cut 2 (by decide) (by decide) (by rw [HXQ0.out]; exact HBQ0.out))
      rw [HXQ0.out] at HCk
      change Hid (Calls _ _ _ _ fun e w' => ∃ r', e = .returned (.int .u64 (numS (after s 2) 2)) ∧ r'.xs = (after (after s 2) 2).1 ∧ CutIs w' c lo r' (after (after s 2) 2).2 ∧ (∀ a, r'.A = some a → ∃ a0, q0.A = some a0 ∧ a0.block = a.block) ∧ Upd [c] _ w') at HCk
      have hcv := numS_lt 2 HBQ0.out
      have hcv1 : IntKind.u16.wrap (numS (after s 2) 2) = numS (after s 2) 2 := IntWalk.u16_in _ (by have := hcv.2; have := hcv.1; omega)
      have pv : W0.cell? ⟨rv, 0, none⟩ = some (.pointer (some ⟨rp, 0, none⟩)) := HQ0.out.bv.cell 0
      have pc : W0.cell? ⟨rp, 0, none⟩ = some (.pointer (some ⟨c, 0, none⟩)) := HQ0.out.br.cell 0
      go_wp2_with fail
      refine HCk.out.mono ?_
      rintro e w3 ⟨q1, rfl, hx, hct, hkk, hku⟩
      have hrd := HQ0.out.took hct hkk hku
      have hri : ∀ a, q1.A = some a → a.block < w.heap.size := (fun a ha => by obtain ⟨a0, h0, e⟩ := hkk a ha; rw [← e]; exact HRQ0.out a0 h0)
      have hXq := HX0.out.upd hku (by rw [List.mem_singleton]; have := HXN.out; omega)
      have cx : w3.cell? ⟨X, 1, none⟩ = some (.int .u16 0) := hXq.cell 1
      have fx := hXq.frozen 1
      go_upto_region 5 with fail
      obtain ⟨W1, hW1⟩ : ∃ W1, W1 = w3.setCell ⟨X, 1, none⟩ (.int .u16 (numS (after s 2) 2)) := ⟨_, rfl⟩
      rw [← hW1]
      have HX1 : Hid (Blk W1 X 68 #[.int .u16 (numS s 2), .int .u16 (numS (after s 2) 2)]) := by rw [hW1]; exact Lib.hid (hXq.store 1 (.int .u16 (numS (after s 2) 2)))
      have HQ1 := Lib.hid (hrd.box (X := X) (k := 1) (N := w.heap.size) (.int .u16 (numS (after s 2) 2)) hrv hrp hc hri HXN.out)
      rw [← hW1] at HQ1
      have HW1 : Hid (Upd [c] wr W1) := by rw [hW1]; exact Lib.hid ((HW0.out.next hku).setCell (.inr HXW.out) _)
      have HUQ1 : Hid (Upd [c, rp] w W1) := by rw [hW1]; exact Lib.hid ((HUQ0.out.next (hku.more (by simp))).setCell (.inr HXN.out) _)
      have HXQ1 := Lib.hid hx
      have HRQ1 := Lib.hid hri
      clear hx hrd hku hri HCk hW1 hkk hXq cx fx pv pc hct hcv hcv1
      have p9 : W1.cell? ⟨rp, 11, none⟩ = some (.slice A i cap) := HQ1.out.cellAt 9 rfl
      have pv : W1.cell? ⟨rv, 0, none⟩ = some (.pointer (some ⟨rp, 0, none⟩)) := HQ1.out.bv.cell 0
      have pvd : W1.drew.cell? ⟨rv, 0, none⟩ = some (.pointer (some ⟨rp, 0, none⟩)) := pv
      have f9 := HQ1.out.br.frozen 11
      have HXd : Hid (Blk W1.drew X 68 #[.int .u16 (numS s 2), .int .u16 (numS (after s 2) 2)]) := Lib.hid (HX1.out.drewN 1)
      have HXa : Hid (Blk (W1.alloc (.cells #[.int .u16 (numS s 2), .int .u16 (numS (after s 2) 2)] 68)).drew X 68 #[.int .u16 (numS s 2), .int .u16 (numS (after s 2) 2)]) := Lib.hid ((HX1.out.alloc _).drewN 1)
      have hnc : ∀ t', t' ∈ [c] → (Value.slice A i cap).ownBlock ≠ some t' := by
        intro t' ht' e
        rw [List.mem_singleton] at ht'
        subst ht'
        obtain ⟨cur, hcur⟩ := row_type HOW.out t' e
        exact (hcur.ne HR.out.cut.bl (by decide)) rfl
      have HO6 := Lib.hid (ownsRow_upd HOW.out HW1.out hnc)
      have HVX : Hid (X ∉ (Value.slice A i cap).ownBlock.toList) := Lib.hid (by
        intro hm
        have := own_block_lt HOW.out (by simpa using hm)
        have := HXW.out
        omega)
      have hXrp : X ≠ rp := by have := HXN.out; omega
      have HOA : Hid ((W1.alloc (.cells #[.int .u16 (numS s 2), .int .u16 (numS (after s 2) 2)] 68)).drew.ownsRow w.heap.size 68 2 (.slice A i cap) i ((pairsM i s2).1.flatMap encPair)) := Lib.hid ((HO6.out.alloc _).drew)
      have HSZ : Hid (w.heap.size ≤ (W1.alloc (.cells #[.int .u16 (numS s 2), .int .u16 (numS (after s 2) 2)] 68)).drew.heap.size) := Lib.hid (((HUQ1.out.alloc (.cells #[.int .u16 (numS s 2), .int .u16 (numS (after s 2) 2)] 68)).drewN 1).size)
      obtain ⟨ys, hys⟩ : ∃ ys, ys = (pairsM i s2).1.flatMap encPair := ⟨_, rfl⟩
      rw [← hys] at HOA
      have HYS := Lib.hid hys
      have HNEW : Hid (Blk (W1.alloc (.cells #[.int .u16 (numS s 2), .int .u16 (numS (after s 2) 2)] 68)).drew W1.heap.size 68 #[.int .u16 (numS s 2), .int .u16 (numS (after s 2) 2)]) := Lib.hid ((Blk.new W1 68 #[.int .u16 (numS s 2), .int .u16 (numS (after s 2) 2)]).drewN 1)
      have HONE : Hid (∀ u ∈ ([.int .u16 (numS s 2), .int .u16 (numS (after s 2) 2)] : List Value), u.oneCell' = true) := Lib.hid (by intro u hu; repeat (first | (rcases List.mem_cons.1 hu with rfl | hu; · rfl) | cases hu))
      have p9a : (W1.alloc (.cells #[.int .u16 (numS s 2), .int .u16 (numS (after s 2) 2)] 68)).cell? ⟨rp, 11, none⟩ = some (.slice A i cap) := (((Upd.refl [] W1).alloc _).cell (p := ⟨rp, 11, none⟩) HQ1.out.br.lt (by simp)).trans p9
      have p9b : (W1.alloc (.cells #[.int .u16 (numS s 2), .int .u16 (numS (after s 2) 2)] 68)).drew.cell? ⟨rp, 11, none⟩ = some (.slice A i cap) := p9a
      have pva : (W1.alloc (.cells #[.int .u16 (numS s 2), .int .u16 (numS (after s 2) 2)] 68)).drew.cell? ⟨rv, 0, none⟩ = some (.pointer (some ⟨rp, 0, none⟩)) := (((Upd.refl [] W1).alloc _).cell (p := ⟨rv, 0, none⟩) HQ1.out.bv.lt (by simp)).trans pv
      clear hys hnc HOW HO6 HU
      obtain ⟨_, y0, y1⟩ := blk2 HX1.out pv
      go_region_law
        ((refine step_append_src _ (by rfl) (.tmp 39) (.tmp 41) 56 (by rfl) w.heap.size 68 j0 _ 2 4 Try.underlying56 hj0 hy0 hy1 hy2 rfl (by decide) (.slice A i cap) i ys (by rfl) HOA.out (some ⟨W1.heap.size, 0, none⟩) 1 1 [.int .u16 (numS s 2), .int .u16 (numS (after s 2) 2)] (by rfl) (fun e => by cases e) rfl (fun ad had => by cases had; exact blk_src HNEW.out) HONE.out (by unfold maxLen; omega) (by omega) HSZ.out ?_; intro v8 w8 hown8 hg8 hat8; have HX8 := Lib.hid (HXa.out.upd (Upd.of_grown hg8) HVX.out); have HRD8 := Lib.hid ((HQ1.out.more (((Upd.refl [] W1).alloc (.cells #[.int .u16 (numS s 2), .int .u16 (numS (after s 2) 2)] 68)).drewN 1)).upd (Upd.of_grown hg8) (fun hm => by obtain ⟨cur, hcur⟩ := row_type HOA.out rv (by simpa using hm); exact (hcur.ne ((HQ1.out.bv.alloc _).drewN 1) (by decide)) rfl) (fun hm => by obtain ⟨cur, hcur⟩ := row_type HOA.out rp (by simpa using hm); exact (hcur.ne ((HQ1.out.br.alloc _).drewN 1) (by decide)) rfl) (fun hm => by obtain ⟨cur, hcur⟩ := row_type HOA.out c (by simpa using hm); exact (hcur.ne ((HQ1.out.cut.bl.alloc _).drewN 1) (by decide)) rfl) (fun a ha hm => by have h1 := HRQ1.out a ha; have h2 := (own_block_lt HOA.out (by simpa using hm)).1; omega)); have p8 : w8.cell? ⟨rp, 11, none⟩ = some (.slice A i cap) := HRD8.out.cellAt 9 rfl; have pv8 : w8.cell? ⟨rv, 0, none⟩ = some (.pointer (some ⟨rp, 0, none⟩)) := HRD8.out.bv.cell 0; have f8 := HRD8.out.br.frozen 11; have HU8 := Lib.hid (app_upd ((HUQ1.out.alloc (.cells #[.int .u16 (numS s 2), .int .u16 (numS (after s 2) 2)] 68)).drewN 1) HOA.out hg8 (Nat.le_refl _)); obtain ⟨A8, c8, hv8, _⟩ := own_form hown8; subst hv8; have HO8 := Lib.hid hown8; clear hown8 hg8 hat8))
      all_goals
        go_wp2
        go_roundg (gk - 1)
        case measure => omega
        case rel =>
          have hput := HRD8.out.put 9 (.slice A8 (i + 1) c8)
          have hrs : pairsM (i + 1) s2 = ((pairsM i s2).1 ++ [pairS s], pairA s) := by rw [pairsM, ← HS.out]
          have hnr : (Value.slice A8 (i + 1) c8).ownBlock ≠ some rp := by
            intro e
            obtain ⟨cur, hcur⟩ := row_type HO8.out rp e
            exact (hcur.ne HRD8.out.br (by decide)) rfl
          have hst := ownsRow_setCell_other HO8.out (a := ⟨rp, 11, none⟩) hnr (.slice A8 (i + 1) c8)
          refine ⟨i + 1, q1, A8, c8, by omega, by omega, ?_, ?_, HRQ1.out, ?_, HU8.out.setCell (.inl (by simp)) _⟩
          · rw [hrs]; exact hput
          · rw [hrs]; exact HXQ1.out
          · rw [hrs, List.flatMap_append, ← HYS.out]; exact hst
    · obtain rfl : i = N := by omega
      have hge : ¬ (4 : Int) ≤ (ri.xs.length : Int) := by have hN := HNN.out; rw [hlx]; omega
      go_wp2
      refine bodyPost_end (v := .tuple #[]) (by simp [results, Try.results48, go_sem]) rfl ⟨ri, ⟨none, 0, none, 0, A, cap, none, 0⟩, rfl, ?_, ⟨CellsIn.nil _ _ _ _ _, CellsIn.nil _ _ _ _ _, by rw [HM.out]; dsimp only; rw [pairsM_len]; exact CellsIn.of_own HOW.out, CellsIn.nil _ _ _ _ _⟩, HU.out⟩
      have hrd := HR.out
      rw [HS.out] at hrd
      rw [HM.out]
      simp only [mcells, pairsM_len]
      exact hrd
set_option maxRecDepth 100000 in
set_option maxHeartbeats 4000000 in
theorem read6_any {w : World} {rv rp c lo : Nat} {n : Nat} {r : Rw} (h : RdIs w rv rp c lo n (zcells 5) r 0) (hb : Byt r.xs) (hl : r.xs.length ≤ 100000) (hra : ∀ a, r.A = some a → a.block < w.heap.size) :
    Calls Try.prog 50 #[.pointer (some ⟨rv, 0, none⟩)] w fun e w' => ∃ r' hd, e = .returned (.tuple #[]) ∧ RdIs w' rv rp c lo n (mcells (firM (r.xs, 0)).1 hd) r' (firM (r.xs, 0)).2.2 ∧ MgIn w' w.heap.size (firM (r.xs, 0)).1 hd ∧ Upd [c, rp] w w' := by
  obtain ⟨j0, hj0, hy0, hy1, hy2⟩ := info_parts infoAs
  have hrc : rv ≠ rp := h.bv.ne h.br (by decide)
  have hrc' : rp ≠ rv := hrc.symm
  have hrv := h.bv.lt
  have hrp := h.br.lt
  have hc := h.cut.bl.lt
  obtain ⟨s0, hs0⟩ : ∃ s : List Int × Int, s = (r.xs, 0) := ⟨_, rfl⟩
  rw [← hs0]
  obtain ⟨r0, hr0⟩ : ∃ q, q = r := ⟨_, rfl⟩
  have HXS0 : Hid (r0.xs = s0.1) := by rw [hs0, hr0]; exact Lib.hid rfl
  have HR0 : Hid (RdIs w rv rp c lo n (zcells 5) r0 s0.2) := by rw [hs0, hr0]; exact Lib.hid h
  have HB0 : Hid (Byt s0.1) := by rw [hs0]; exact Lib.hid hb
  have HRI0 : Hid (∀ a, r0.A = some a → a.block < w.heap.size) := by rw [hr0]; exact Lib.hid hra
  have HU0 : Hid (Upd [c, rp] w w) := Lib.hid (Upd.refl _ _)
  have HE0 : Hid (s0.2 = 0) := by rw [hs0]; exact Lib.hid rfl
  have HL0 : Hid (s0.1.length ≤ 100000) := by rw [hs0]; exact Lib.hid hl
  unfold zcells at HR0
  clear h hb hra hs0 hr0 hl
  go_enter Try.func50, Try.ntmps50
  have hb1 := after_byt 4 HB0.out
  have HC := Lib.hid (rnum_kept (HR0.out.more ((Upd.refl [] w).drewN 1)) (by rw [HXS0.out]; exact HB0.out))
  rw [HXS0.out] at HC
  change Hid (Calls _ _ _ _ fun e w' => ∃ r', e = .returned (.int .u32 (numS s0 4)) ∧ r'.xs = (after s0 4).1 ∧ RdIs w' rv rp c lo n _ r' (after s0 4).2 ∧ (∀ a, r'.A = some a → ∃ a0, r0.A = some a0 ∧ a0.block = a.block) ∧ Upd [c] _ w') at HC
  have v0 : w.cell? ⟨rv, 0, none⟩ = some (.pointer (some ⟨rp, 0, none⟩)) := HR0.out.bv.cell 0
  obtain ⟨x, hx⟩ : ∃ x, x = numS s0 4 := ⟨_, rfl⟩
  obtain ⟨s1, hs1⟩ : ∃ t, t = after s0 4 := ⟨_, rfl⟩
  rw [← hx, ← hs1] at HC
  rw [← hs1] at hb1
  have HX0 := Lib.hid hx
  have HS1 := Lib.hid hs1
  have HB1 := Lib.hid hb1
  clear hx hs1 hb1
  go_upto_region 0 with fail
  go_region_held3 (fun w' => w'.cell? ⟨rv, 0, none⟩ = some (.pointer (some ⟨rp, 0, none⟩))) (first | go_keep | exact va | exact v0 | simpa [hrc, hrc'] using va)
    ((go_at_call 43; refine HC.out.mono ?_; rintro e w1 ⟨r1, rfl, hx, hrd, hkk, hku⟩; have va : w1.cell? ⟨rv, 0, none⟩ = some (.pointer (some ⟨rp, 0, none⟩)) := hrd.bv.cell 0; have pa : w1.cell? ⟨rp, 3, none⟩ = some (.int .u32 0) := hrd.cellAt 1 rfl; have fa := hrd.br.frozen 3; have HH := Lib.hid (And.intro hx (And.intro (hrd.put 1 (.int .u32 x)) (And.intro hkk hku))); clear hx hrd hkk hku))
  obtain ⟨V1, hV1⟩ : ∃ V, V = w1.setCell ⟨rp, 3, none⟩ (.int .u32 x) := ⟨_, rfl⟩
  obtain ⟨hx, hrd, hkk, hku⟩ := HH.out
  have HU1 : Hid (Upd [c, rp] w V1) := by rw [hV1]; exact Lib.hid (((HU0.out.drewN 1).next (hku.more (by simp))).setCell (.inl (by simp)) _)
  rw [show (1 + 2 : Nat) = 3 from rfl, ← hV1] at hrd
  rw [← hV1]
  have HR1 := Lib.hid hrd
  have HXS1 := Lib.hid hx
  have HRI1 : Hid (∀ a, r1.A = some a → a.block < w.heap.size) := Lib.hid (fun a ha => by obtain ⟨a0, h0, e⟩ := hkk a ha; rw [← e]; exact HRI0.out a0 h0)
  clear hV1 HH HC hx hrd hkk hku va pa fa v0
  have hb2 := after_byt 4 HB1.out
  have HC := Lib.hid (rnum_kept (HR1.out.more ((Upd.refl [] V1).drewN 1)) (by rw [HXS1.out]; exact HB1.out))
  rw [HXS1.out] at HC
  change Hid (Calls _ _ _ _ fun e w' => ∃ r', e = .returned (.int .u32 (numS s1 4)) ∧ r'.xs = (after s1 4).1 ∧ RdIs w' rv rp c lo n _ r' (after s1 4).2 ∧ (∀ a, r'.A = some a → ∃ a0, r1.A = some a0 ∧ a0.block = a.block) ∧ Upd [c] _ w') at HC
  have v1 : V1.cell? ⟨rv, 0, none⟩ = some (.pointer (some ⟨rp, 0, none⟩)) := HR1.out.bv.cell 0
  obtain ⟨x, hx⟩ : ∃ x, x = numS s1 4 := ⟨_, rfl⟩
  obtain ⟨s2, hs2⟩ : ∃ t, t = after s1 4 := ⟨_, rfl⟩
  rw [← hx, ← hs2] at HC
  rw [← hs2] at hb2
  have HX1 := Lib.hid hx
  have HS2 := Lib.hid hs2
  have HB2 := Lib.hid hb2
  clear hx hs2 hb2
  go_upto_region 1 with fail
  go_region_held3 (fun w' => w'.cell? ⟨rv, 0, none⟩ = some (.pointer (some ⟨rp, 0, none⟩))) (first | go_keep | exact va | exact v1 | simpa [hrc, hrc'] using va)
    ((go_at_call 43; refine HC.out.mono ?_; rintro e w1 ⟨r2, rfl, hx, hrd, hkk, hku⟩; have va : w1.cell? ⟨rv, 0, none⟩ = some (.pointer (some ⟨rp, 0, none⟩)) := hrd.bv.cell 0; have pa : w1.cell? ⟨rp, 4, none⟩ = some (.int .u32 0) := hrd.cellAt 2 rfl; have fa := hrd.br.frozen 4; have HH := Lib.hid (And.intro hx (And.intro (hrd.put 2 (.int .u32 x)) (And.intro hkk hku))); clear hx hrd hkk hku))
  obtain ⟨V2, hV2⟩ : ∃ V, V = w1.setCell ⟨rp, 4, none⟩ (.int .u32 x) := ⟨_, rfl⟩
  obtain ⟨hx, hrd, hkk, hku⟩ := HH.out
  have HU2 : Hid (Upd [c, rp] w V2) := by rw [hV2]; exact Lib.hid (((HU1.out.drewN 1).next (hku.more (by simp))).setCell (.inl (by simp)) _)
  rw [show (2 + 2 : Nat) = 4 from rfl, ← hV2] at hrd
  rw [← hV2]
  have HR2 := Lib.hid hrd
  have HXS2 := Lib.hid hx
  have HRI2 : Hid (∀ a, r2.A = some a → a.block < w.heap.size) := Lib.hid (fun a ha => by obtain ⟨a0, h0, e⟩ := hkk a ha; rw [← e]; exact HRI1.out a0 h0)
  clear hV2 HH HC hx hrd hkk hku va pa fa v1
  obtain ⟨x0, hx0⟩ : ∃ x0, x0 = numS s0 4 := ⟨_, rfl⟩
  obtain ⟨x1, hx1⟩ : ∃ x1, x1 = numS s1 4 := ⟨_, rfl⟩
  have HRV : Hid (RdIs V2 rv rp c lo n [.int .i64 5, .int .u32 x0, .int .u32 x1, .int .u64 0, .int .u32 0, .int .u32 0, .int .u32 0, .slice none 0 0, .slice none 0 0, .slice none 0 0, .slice none 0 0, .int .u8 0] r2 s2.2) := by
    have hrd := HR2.out
    simp only [HX0.out, HX1.out] at hrd
    rw [hx0, hx1]
    exact Lib.hid hrd
  have HM : Hid (firM s0 = (⟨5, x0, x1, 0, 0, 0, 0, [], [], [], (asksM (s2.1.length / 8) s2).1, 0⟩, (asksM (s2.1.length / 8) s2).2)) := by
    rw [firM, ← HS1.out, ← HS2.out, hx0, hx1]; exact Lib.hid rfl
  have HBAD : Hid (s2.2 ≠ 0 → s2.1.length < 4) := by
    rw [HS2.out]
    refine Lib.hid (after_bad 4 ?_)
    rw [HS1.out]
    exact after_bad 4 (fun hh => absurd HE0.out hh)
  have HL2 : Hid (s2.1.length ≤ 100000) := by
    rw [HS2.out, HS1.out]
    have e : ∀ (s : List Int × Int), (after s 4).1.length ≤ s.1.length := fun s => by
      unfold after numM; (repeat' split) <;> simp
    exact Lib.hid (Nat.le_trans (e _) (Nat.le_trans (e _) HL0.out))
  clear HR2 HX0 HX1 hx0 hx1 HR1 HR0 HXS0 HXS1 HB0 HB1 HRI0 HRI1 HU0 HU1 HS1 HS2 HE0 HL0
  obtain ⟨N, hN⟩ : ∃ N, N = s2.1.length / 8 := ⟨_, rfl⟩
  rw [← hN] at HM
  have hNb : N ≤ 100000 := by have := HL2.out; omega
  have HNN := Lib.hid hN
  clear hN
  go_wp2
  go_loopg [1] N (fun gk x1' wr => ∃ (i : Nat) (ri : Rw) (A : Option Addr) (cap : Nat), i ≤ N ∧ N ≤ i + gk ∧ RdIs wr rv rp c lo n [.int .i64 5, .int .u32 x0, .int .u32 x1, .int .u64 0, .int .u32 0, .int .u32 0, .int .u32 0, .slice none 0 0, .slice none 0 0, .slice none 0 0, .slice A i cap, .int .u8 0] ri (asksM i s2).2.2 ∧ ri.xs = (asksM i s2).2.1 ∧
      (∀ a, ri.A = some a → a.block < w.heap.size) ∧ wr.ownsRow w.heap.size 91 2 (.slice A i cap) i ((asksM i s2).1.flatMap encAsk) ∧ Upd [c, rp] w wr)
  case atStart => exact ⟨0, r2, none, 0, Nat.zero_le _, by omega, HRV.out, HXS2.out, HRI2.out, World.ownsRow_nil _ _ _ _, HU2.out⟩
  case round =>
    obtain ⟨i, ri, A, cap, hi, hgi, hrd, hxs, hra, hown, hu⟩ := hrel
    have HBY := Lib.hid (asksM_byt HB2.out i)
    have hlen : (asksM i s2).2.1.length = s2.1.length - 8 * i := by
      have hN := HNN.out
      by_cases hz : s2.2 = 0
      · exact (asksM_ok hz i (by omega)).1
      · have := HBAD.out hz
        obtain rfl : i = 0 := by omega
        show s2.1.length = _; omega
    have hlx : ri.xs.length = s2.1.length - 8 * i := by rw [hxs, hlen]
    obtain ⟨s, hs⟩ : ∃ s, s = (asksM i s2).2 := ⟨_, rfl⟩
    rw [← hs] at hrd hxs HBY
    have HS := Lib.hid hs
    have HRI := Lib.hid hra
    have HOW := Lib.hid hown
    have HU := Lib.hid hu
    have HR := Lib.hid hrd
    have HXS := Lib.hid hxs
    have HLF := Lib.hid (left_any hrd.cut)
    have pv : wr.cell? ⟨rv, 0, none⟩ = some (.pointer (some ⟨rp, 0, none⟩)) := hrd.bv.cell 0
    have pc : wr.cell? ⟨rp, 0, none⟩ = some (.pointer (some ⟨c, 0, none⟩)) := hrd.br.cell 0
    clear hs hra hown hu hrd hxs hlen
    go_wp2_with fail
    refine HLF.out.mono ?_
    rintro e w1 ⟨rfl, rfl⟩
    clear HLF
    by_cases hlt : i < N
    · have hge : (8 : Int) ≤ (ri.xs.length : Int) := by have hN := HNN.out; rw [hlx]; omega
      have HBQ0 := Lib.hid (after_byt 4 HBY.out)
      have HCk := Lib.hid (rnum_kept HR.out (by rw [HXS.out]; exact HBY.out))
      rw [HXS.out] at HCk
      change Hid (Calls _ _ _ _ fun e w' => ∃ r', e = .returned (.int .u32 (numS s 4)) ∧ r'.xs = (after s 4).1 ∧ RdIs w' rv rp c lo n _ r' (after s 4).2 ∧ (∀ a, r'.A = some a → ∃ a0, ri.A = some a0 ∧ a0.block = a.block) ∧ Upd [c] _ w') at HCk
      go_wp2_with fail
      refine HCk.out.mono ?_
      rintro e w2 ⟨q0, rfl, hx, hrd, hkk, hku⟩
      have hri : ∀ a, q0.A = some a → a.block < w.heap.size := (fun a ha => by obtain ⟨a0, h0, e⟩ := hkk a ha; rw [← e]; exact HRI.out a0 h0)
      go_upto_region 4 with fail
      obtain ⟨W0, hW0⟩ : ∃ W0, W0 = w2.alloc (.cells #[.int .u32 (numS s 4), .int .u8 0] 91) := ⟨_, rfl⟩
      obtain ⟨X, hX⟩ : ∃ X, X = w2.heap.size := ⟨_, rfl⟩
      rw [← hW0, ← hX]
      have HX0 : Hid (Blk W0 X 91 #[.int .u32 (numS s 4), .int .u8 0]) := by rw [hW0, hX]; exact Lib.hid (Blk.new _ _ _)
      have HQ0 := Lib.hid (hrd.more (((Upd.refl [] _).alloc (.cells #[.int .u32 (numS s 4), .int .u8 0] 91))))
      rw [← hW0] at HQ0
      have HW0 : Hid (Upd [c] wr W0) := by rw [hW0]; exact Lib.hid (hku.alloc _)
      have HUQ0 : Hid (Upd [c, rp] w W0) := Lib.hid (HU.out.next (HW0.out.more (by simp)))
      have HXW : Hid (wr.heap.size ≤ X) := by rw [hX]; exact Lib.hid hku.size
      have HXN : Hid (w.heap.size ≤ X) := Lib.hid (Nat.le_trans HU.out.size HXW.out)
      have HXQ0 := Lib.hid hx
      have HRQ0 := Lib.hid hri
      clear hx hrd hku hri HCk hW0 hkk hX pv pc
      have HBQ1 := Lib.hid (after_byt 1 HBQ0.out)
      have HCk := Lib.hid (num_any HQ0.out.cut 1 (by decide) (by decide) (by rw [HXQ0.out]; exact HBQ0.out))
      rw [HXQ0.out] at HCk
      change Hid (Calls _ _ _ _ fun e w' => ∃ r', e = .returned (.int .u64 (numS (after s 4) 1)) ∧ r'.xs = (after (after s 4) 1).1 ∧ CutIs w' c lo r' (after (after s 4) 1).2 ∧ (∀ a, r'.A = some a → ∃ a0, q0.A = some a0 ∧ a0.block = a.block) ∧ Upd [c] _ w') at HCk
      have hcv := numS_lt 1 HBQ0.out
      have hcv1 : IntKind.u8.wrap (numS (after s 4) 1) = numS (after s 4) 1 := IntWalk.u8_in _ (by have := hcv.2; have := hcv.1; omega)
      have pv : W0.cell? ⟨rv, 0, none⟩ = some (.pointer (some ⟨rp, 0, none⟩)) := HQ0.out.bv.cell 0
      have pc : W0.cell? ⟨rp, 0, none⟩ = some (.pointer (some ⟨c, 0, none⟩)) := HQ0.out.br.cell 0
      go_wp2_with fail
      refine HCk.out.mono ?_
      rintro e w3 ⟨q1, rfl, hx, hct, hkk, hku⟩
      have hrd := HQ0.out.took hct hkk hku
      have hri : ∀ a, q1.A = some a → a.block < w.heap.size := (fun a ha => by obtain ⟨a0, h0, e⟩ := hkk a ha; rw [← e]; exact HRQ0.out a0 h0)
      have hXq := HX0.out.upd hku (by rw [List.mem_singleton]; have := HXN.out; omega)
      have cx : w3.cell? ⟨X, 1, none⟩ = some (.int .u8 0) := hXq.cell 1
      have fx := hXq.frozen 1
      go_upto_region 5 with fail
      obtain ⟨W1, hW1⟩ : ∃ W1, W1 = w3.setCell ⟨X, 1, none⟩ (.int .u8 (numS (after s 4) 1)) := ⟨_, rfl⟩
      rw [← hW1]
      have HX1 : Hid (Blk W1 X 91 #[.int .u32 (numS s 4), .int .u8 (numS (after s 4) 1)]) := by rw [hW1]; exact Lib.hid (hXq.store 1 (.int .u8 (numS (after s 4) 1)))
      have HQ1 := Lib.hid (hrd.box (X := X) (k := 1) (N := w.heap.size) (.int .u8 (numS (after s 4) 1)) hrv hrp hc hri HXN.out)
      rw [← hW1] at HQ1
      have HW1 : Hid (Upd [c] wr W1) := by rw [hW1]; exact Lib.hid ((HW0.out.next hku).setCell (.inr HXW.out) _)
      have HUQ1 : Hid (Upd [c, rp] w W1) := by rw [hW1]; exact Lib.hid ((HUQ0.out.next (hku.more (by simp))).setCell (.inr HXN.out) _)
      have HXQ1 := Lib.hid hx
      have HRQ1 := Lib.hid hri
      clear hx hrd hku hri HCk hW1 hkk hXq cx fx pv pc hct hcv hcv1
      have HBQ2 := Lib.hid (after_byt 3 HBQ1.out)
      have HCk := Lib.hid (num_any HQ1.out.cut 3 (by decide) (by decide) (by rw [HXQ1.out]; exact HBQ1.out))
      rw [HXQ1.out] at HCk
      change Hid (Calls _ _ _ _ fun e w' => ∃ r', e = .returned (.int .u64 (numS (after (after s 4) 1) 3)) ∧ r'.xs = (after (after (after s 4) 1) 3).1 ∧ CutIs w' c lo r' (after (after (after s 4) 1) 3).2 ∧ (∀ a, r'.A = some a → ∃ a0, q1.A = some a0 ∧ a0.block = a.block) ∧ Upd [c] _ w') at HCk
      have pv : W1.cell? ⟨rv, 0, none⟩ = some (.pointer (some ⟨rp, 0, none⟩)) := HQ1.out.bv.cell 0
      have pc : W1.cell? ⟨rp, 0, none⟩ = some (.pointer (some ⟨c, 0, none⟩)) := HQ1.out.br.cell 0
      go_wp2_with fail
      refine HCk.out.mono ?_
      rintro e w4 ⟨q2, rfl, hx, hct, hkk, hku⟩
      have hrd := HQ1.out.took hct hkk hku
      have hri : ∀ a, q2.A = some a → a.block < w.heap.size := (fun a ha => by obtain ⟨a0, h0, e⟩ := hkk a ha; rw [← e]; exact HRQ1.out a0 h0)
      have hXq := HX1.out.upd hku (by rw [List.mem_singleton]; have := HXN.out; omega)
      go_upto_region 6 with fail
      obtain ⟨W2, hW2⟩ : ∃ W2, W2 = w4 := ⟨_, rfl⟩
      rw [← hW2]
      have HX2 : Hid (Blk W2 X 91 #[.int .u32 (numS s 4), .int .u8 (numS (after s 4) 1)]) := by rw [hW2]; exact Lib.hid hXq
      have HQ2 := Lib.hid hrd
      rw [← hW2] at HQ2
      have HW2 : Hid (Upd [c] wr W2) := by rw [hW2]; exact Lib.hid (HW1.out.next hku)
      have HUQ2 : Hid (Upd [c, rp] w W2) := by rw [hW2]; exact Lib.hid (HUQ1.out.next (hku.more (by simp)))
      have HXQ2 := Lib.hid hx
      have HRQ2 := Lib.hid hri
      clear hx hrd hku hri HCk hW2 hkk hXq pv pc hct
      have p9 : W2.cell? ⟨rp, 12, none⟩ = some (.slice A i cap) := HQ2.out.cellAt 10 rfl
      have pv : W2.cell? ⟨rv, 0, none⟩ = some (.pointer (some ⟨rp, 0, none⟩)) := HQ2.out.bv.cell 0
      have pvd : W2.drew.cell? ⟨rv, 0, none⟩ = some (.pointer (some ⟨rp, 0, none⟩)) := pv
      have f9 := HQ2.out.br.frozen 12
      have HXd : Hid (Blk W2.drew X 91 #[.int .u32 (numS s 4), .int .u8 (numS (after s 4) 1)]) := Lib.hid (HX2.out.drewN 1)
      have HXa : Hid (Blk (W2.alloc (.cells #[.int .u32 (numS s 4), .int .u8 (numS (after s 4) 1)] 91)).drew X 91 #[.int .u32 (numS s 4), .int .u8 (numS (after s 4) 1)]) := Lib.hid ((HX2.out.alloc _).drewN 1)
      have hnc : ∀ t', t' ∈ [c] → (Value.slice A i cap).ownBlock ≠ some t' := by
        intro t' ht' e
        rw [List.mem_singleton] at ht'
        subst ht'
        obtain ⟨cur, hcur⟩ := row_type HOW.out t' e
        exact (hcur.ne HR.out.cut.bl (by decide)) rfl
      have HO6 := Lib.hid (ownsRow_upd HOW.out HW2.out hnc)
      have HVX : Hid (X ∉ (Value.slice A i cap).ownBlock.toList) := Lib.hid (by
        intro hm
        have := own_block_lt HOW.out (by simpa using hm)
        have := HXW.out
        omega)
      have hXrp : X ≠ rp := by have := HXN.out; omega
      have HOA : Hid ((W2.alloc (.cells #[.int .u32 (numS s 4), .int .u8 (numS (after s 4) 1)] 91)).drew.ownsRow w.heap.size 91 2 (.slice A i cap) i ((asksM i s2).1.flatMap encAsk)) := Lib.hid ((HO6.out.alloc _).drew)
      have HSZ : Hid (w.heap.size ≤ (W2.alloc (.cells #[.int .u32 (numS s 4), .int .u8 (numS (after s 4) 1)] 91)).drew.heap.size) := Lib.hid (((HUQ2.out.alloc (.cells #[.int .u32 (numS s 4), .int .u8 (numS (after s 4) 1)] 91)).drewN 1).size)
      obtain ⟨ys, hys⟩ : ∃ ys, ys = (asksM i s2).1.flatMap encAsk := ⟨_, rfl⟩
      rw [← hys] at HOA
      have HYS := Lib.hid hys
      have HNEW : Hid (Blk (W2.alloc (.cells #[.int .u32 (numS s 4), .int .u8 (numS (after s 4) 1)] 91)).drew W2.heap.size 91 #[.int .u32 (numS s 4), .int .u8 (numS (after s 4) 1)]) := Lib.hid ((Blk.new W2 91 #[.int .u32 (numS s 4), .int .u8 (numS (after s 4) 1)]).drewN 1)
      have HONE : Hid (∀ u ∈ ([.int .u32 (numS s 4), .int .u8 (numS (after s 4) 1)] : List Value), u.oneCell' = true) := Lib.hid (by intro u hu; repeat (first | (rcases List.mem_cons.1 hu with rfl | hu; · rfl) | cases hu))
      have p9a : (W2.alloc (.cells #[.int .u32 (numS s 4), .int .u8 (numS (after s 4) 1)] 91)).cell? ⟨rp, 12, none⟩ = some (.slice A i cap) := (((Upd.refl [] W2).alloc _).cell (p := ⟨rp, 12, none⟩) HQ2.out.br.lt (by simp)).trans p9
      have p9b : (W2.alloc (.cells #[.int .u32 (numS s 4), .int .u8 (numS (after s 4) 1)] 91)).drew.cell? ⟨rp, 12, none⟩ = some (.slice A i cap) := p9a
      have pva : (W2.alloc (.cells #[.int .u32 (numS s 4), .int .u8 (numS (after s 4) 1)] 91)).drew.cell? ⟨rv, 0, none⟩ = some (.pointer (some ⟨rp, 0, none⟩)) := (((Upd.refl [] W2).alloc _).cell (p := ⟨rv, 0, none⟩) HQ2.out.bv.lt (by simp)).trans pv
      clear hys hnc HOW HO6 HU
      obtain ⟨_, y0, y1⟩ := blk2 HX2.out pv
      go_region_law
        ((refine step_append_src _ (by rfl) (.tmp 40) (.tmp 42) 57 (by rfl) w.heap.size 91 j0 _ 2 8 Try.underlying57 hj0 hy0 hy1 hy2 rfl (by decide) (.slice A i cap) i ys (by rfl) HOA.out (some ⟨W2.heap.size, 0, none⟩) 1 1 [.int .u32 (numS s 4), .int .u8 (numS (after s 4) 1)] (by rfl) (fun e => by cases e) rfl (fun ad had => by cases had; exact blk_src HNEW.out) HONE.out (by unfold maxLen; omega) (by omega) HSZ.out ?_; intro v8 w8 hown8 hg8 hat8; have HX8 := Lib.hid (HXa.out.upd (Upd.of_grown hg8) HVX.out); have HRD8 := Lib.hid ((HQ2.out.more (((Upd.refl [] W2).alloc (.cells #[.int .u32 (numS s 4), .int .u8 (numS (after s 4) 1)] 91)).drewN 1)).upd (Upd.of_grown hg8) (fun hm => by obtain ⟨cur, hcur⟩ := row_type HOA.out rv (by simpa using hm); exact (hcur.ne ((HQ2.out.bv.alloc _).drewN 1) (by decide)) rfl) (fun hm => by obtain ⟨cur, hcur⟩ := row_type HOA.out rp (by simpa using hm); exact (hcur.ne ((HQ2.out.br.alloc _).drewN 1) (by decide)) rfl) (fun hm => by obtain ⟨cur, hcur⟩ := row_type HOA.out c (by simpa using hm); exact (hcur.ne ((HQ2.out.cut.bl.alloc _).drewN 1) (by decide)) rfl) (fun a ha hm => by have h1 := HRQ2.out a ha; have h2 := (own_block_lt HOA.out (by simpa using hm)).1; omega)); have p8 : w8.cell? ⟨rp, 12, none⟩ = some (.slice A i cap) := HRD8.out.cellAt 10 rfl; have pv8 : w8.cell? ⟨rv, 0, none⟩ = some (.pointer (some ⟨rp, 0, none⟩)) := HRD8.out.bv.cell 0; have f8 := HRD8.out.br.frozen 12; have HU8 := Lib.hid (app_upd ((HUQ2.out.alloc (.cells #[.int .u32 (numS s 4), .int .u8 (numS (after s 4) 1)] 91)).drewN 1) HOA.out hg8 (Nat.le_refl _)); obtain ⟨A8, c8, hv8, _⟩ := own_form hown8; subst hv8; have HO8 := Lib.hid hown8; clear hown8 hg8 hat8))
      all_goals
        go_wp2
        go_roundg (gk - 1)
        case measure => omega
        case rel =>
          have hput := HRD8.out.put 10 (.slice A8 (i + 1) c8)
          have hrs : asksM (i + 1) s2 = ((asksM i s2).1 ++ [askS s], askA s) := by rw [asksM, ← HS.out]
          have hnr : (Value.slice A8 (i + 1) c8).ownBlock ≠ some rp := by
            intro e
            obtain ⟨cur, hcur⟩ := row_type HO8.out rp e
            exact (hcur.ne HRD8.out.br (by decide)) rfl
          have hst := ownsRow_setCell_other HO8.out (a := ⟨rp, 12, none⟩) hnr (.slice A8 (i + 1) c8)
          refine ⟨i + 1, q2, A8, c8, by omega, by omega, ?_, ?_, HRQ2.out, ?_, HU8.out.setCell (.inl (by simp)) _⟩
          · rw [hrs]; exact hput
          · rw [hrs]; exact HXQ2.out
          · rw [hrs, List.flatMap_append, ← HYS.out]; exact hst
    · obtain rfl : i = N := by omega
      have hge : ¬ (8 : Int) ≤ (ri.xs.length : Int) := by have hN := HNN.out; rw [hlx]; omega
      go_wp2
      refine bodyPost_end (v := .tuple #[]) (by simp [results, Try.results50, go_sem]) rfl ⟨ri, ⟨none, 0, none, 0, none, 0, A, cap⟩, rfl, ?_, ⟨CellsIn.nil _ _ _ _ _, CellsIn.nil _ _ _ _ _, CellsIn.nil _ _ _ _ _, by rw [HM.out]; dsimp only; rw [asksM_len]; exact CellsIn.of_own HOW.out⟩, HU.out⟩
      have hrd := HR.out
      rw [HS.out] at hrd
      rw [HM.out]
      simp only [mcells, asksM_len]
      exact hrd
end Go.Proofs.Ytgkejdjdccgjbaa
