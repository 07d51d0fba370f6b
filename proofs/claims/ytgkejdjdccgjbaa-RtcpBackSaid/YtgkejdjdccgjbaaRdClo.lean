/- rtcp's reader: the closures of Sender, Receiver, Pli. Conditions: bytes. (Written by wip/gen/rtcpclo1.py.) -/
import Derived.Test.YtgkejdjdccgjbaaRdReps
namespace Go.Proofs.Ytgkejdjdccgjbaa
open Go Go.RowKit
set_option maxHeartbeats 400000

theorem CellsIn.lower {w : World} {lo lo' hi size n : Nat} {A : Option Addr} {xs : List Value} (h : CellsIn w lo hi size A n xs) (hl : lo' ≤ lo) : CellsIn w lo' hi size A n xs := h.more hl (Nat.le_refl _)
def senderM (n : Nat) (s : List Int × Int) : Mg × (List Int × Int) :=
  (⟨0, numS s 4, 0, numS (after s 4) 8, numS (after (after s 4) 8) 4, numS (after (after (after s 4) 8) 4) 4, numS (after (after (after (after s 4) 8) 4) 4) 4, (repsM n (after (after (after (after (after s 4) 8) 4) 4) 4)).1, [], [], [], 0⟩, (repsM n (after (after (after (after (after s 4) 8) 4) 4) 4)).2)
def receiverM (n : Nat) (s : List Int × Int) : Mg × (List Int × Int) :=
  (⟨1, numS s 4, 0, 0, 0, 0, 0, (repsM n (after s 4)).1, [], [], [], 0⟩, (repsM n (after s 4)).2)
def pliG (s : List Int × Int) : Mg × (List Int × Int) :=
  (⟨4, numS s 4, numS (after s 4) 4, 0, 0, 0, 0, [], [], [], [], 0⟩, after (after s 4) 4)
set_option maxRecDepth 100000 in
set_option maxHeartbeats 4000000 in
theorem read1_any {w : World} {rv rp c lo : Nat} {n : Nat} {r : Rw} {er : Int} (h : RdIs w rv rp c lo n (zcells 0) r er) (hb : Byt r.xs) (hn : n ≤ 31) (hra : ∀ a, r.A = some a → a.block < w.heap.size) :
    Calls Try.prog 42 #[.pointer (some ⟨rv, 0, none⟩)] w fun e w' => ∃ r' hd, e = .returned (.tuple #[]) ∧ RdIs w' rv rp c lo n (mcells (senderM n (r.xs, er)).1 hd) r' (senderM n (r.xs, er)).2.2 ∧ MgIn w' w.heap.size (senderM n (r.xs, er)).1 hd ∧ Upd [c, rp] w w' := by
  have hrc : rv ≠ rp := h.bv.ne h.br (by decide)
  have hrc' : rp ≠ rv := hrc.symm
  obtain ⟨s0, hs0⟩ : ∃ s, s = (r.xs, er) := ⟨_, rfl⟩
  rw [← hs0]
  obtain ⟨r0, hr0⟩ : ∃ q, q = r := ⟨_, rfl⟩
  have HXS0 : Hid (r0.xs = s0.1) := by rw [hs0, hr0]; exact Lib.hid rfl
  have HR0 : Hid (RdIs w rv rp c lo n (zcells 0) r0 s0.2) := by rw [hs0, hr0]; exact Lib.hid h
  have HB0 : Hid (Byt s0.1) := by rw [hs0]; exact Lib.hid hb
  have HRI0 : Hid (∀ a, r0.A = some a → a.block < w.heap.size) := by rw [hr0]; exact Lib.hid hra
  have HU0 : Hid (Upd [c, rp] w w) := Lib.hid (Upd.refl _ _)
  unfold zcells at HR0
  clear h hb hra hs0 hr0
  go_enter Try.func42, Try.ntmps42
  have hb1 := after_byt 4 HB0.out
  have HC := Lib.hid (rnum_kept (HR0.out.more ((Upd.refl [] w).drewN 1)) (by rw [HXS0.out]; exact HB0.out))
  rw [HXS0.out] at HC
  change Hid (Calls _ _ _ _ fun e w' => ∃ r', e = .returned (.int .u32 (numS s0 4)) ∧ r'.xs = (after s0 4).1 ∧ RdIs w' rv rp c lo n _ r' (after s0 4).2 ∧ (∀ a, r'.A = some a → ∃ a0, r0.A = some a0 ∧ a0.block = a.block) ∧ Upd [c] _ w') at HC
  have v0 : w.cell? ⟨rv, 0, none⟩ = some (.pointer (some ⟨rp, 0, none⟩)) := HR0.out.bv.cell 0
  obtain ⟨x, hx⟩ : ∃ x, x = numS s0 4 := ⟨_, rfl⟩
  obtain ⟨s1, hs1⟩ : ∃ t, t = after s0 4 := ⟨_, rfl⟩
  rw [← hx, ← hs1] at HC
  rw [← hs1] at hb1
  have HX0 := Lib.hid hx
  have HS1 := Lib.hid hs1
  have HB1 := Lib.hid hb1
  clear hx hs1 hb1
  go_upto_region 0 with fail
  go_region_held3 (fun w' => w'.cell? ⟨rv, 0, none⟩ = some (.pointer (some ⟨rp, 0, none⟩))) (first | go_keep | exact va | exact v0 | simpa [hrc, hrc'] using va)
    ((go_at_call 43; refine HC.out.mono ?_; rintro e w1 ⟨r1, rfl, hx, hrd, hkk, hku⟩; have va : w1.cell? ⟨rv, 0, none⟩ = some (.pointer (some ⟨rp, 0, none⟩)) := hrd.bv.cell 0; have pa : w1.cell? ⟨rp, 3, none⟩ = some (.int .u32 0) := hrd.cellAt 1 rfl; have fa := hrd.br.frozen 3; have HH := Lib.hid (And.intro hx (And.intro (hrd.put 1 (.int .u32 x)) (And.intro hkk hku))); clear hx hrd hkk hku))
  obtain ⟨V1, hV1⟩ : ∃ V, V = w1.setCell ⟨rp, 3, none⟩ (.int .u32 x) := ⟨_, rfl⟩
  obtain ⟨hx, hrd, hkk, hku⟩ := HH.out
  have HU1 : Hid (Upd [c, rp] w V1) := by rw [hV1]; exact Lib.hid (((HU0.out.drewN 1).next (hku.more (by simp))).setCell (.inl (by simp)) _)
  rw [show (1 + 2 : Nat) = 3 from rfl, ← hV1] at hrd
  rw [← hV1]
  have HR1 := Lib.hid hrd
  have HXS1 := Lib.hid hx
  have HRI1 : Hid (∀ a, r1.A = some a → a.block < w.heap.size) := Lib.hid (fun a ha => by obtain ⟨a0, h0, e⟩ := hkk a ha; rw [← e]; exact HRI0.out a0 h0)
  clear hV1 HH HC hx hrd hkk hku va pa fa v0
  have hb2 := after_byt 8 HB1.out
  have HC := Lib.hid (num_any (HR1.out.more ((Upd.refl [] V1).drewN 1)).cut 8 (by decide) (by decide) (by rw [HXS1.out]; exact HB1.out))
  rw [HXS1.out] at HC
  change Hid (Calls _ _ _ _ fun e w' => ∃ r', e = .returned (.int .u64 (numS s1 8)) ∧ r'.xs = (after s1 8).1 ∧ CutIs w' c lo r' (after s1 8).2 ∧ (∀ a, r'.A = some a → ∃ a0, r1.A = some a0 ∧ a0.block = a.block) ∧ Upd [c] _ w') at HC
  have v1 : V1.cell? ⟨rv, 0, none⟩ = some (.pointer (some ⟨rp, 0, none⟩)) := HR1.out.bv.cell 0
  have c1 : V1.cell? ⟨rp, 0, none⟩ = some (.pointer (some ⟨c, 0, none⟩)) := HR1.out.br.cell 0
  obtain ⟨x, hx⟩ : ∃ x, x = numS s1 8 := ⟨_, rfl⟩
  obtain ⟨s2, hs2⟩ : ∃ t, t = after s1 8 := ⟨_, rfl⟩
  rw [← hx, ← hs2] at HC
  rw [← hs2] at hb2
  have HX1 := Lib.hid hx
  have HS2 := Lib.hid hs2
  have HB2 := Lib.hid hb2
  clear hx hs2 hb2
  go_upto_region 1 with fail
  go_region_held3 (fun w' => w'.cell? ⟨rv, 0, none⟩ = some (.pointer (some ⟨rp, 0, none⟩)) ∧ w'.cell? ⟨rp, 0, none⟩ = some (.pointer (some ⟨c, 0, none⟩))) (first | go_keep | exact ⟨va, ca⟩ | exact ⟨zb, za⟩ | exact ⟨v1, c1⟩ | simpa [hrc, hrc'] using And.intro va ca)
    ((go_at_call 44; refine HC.out.mono ?_; rintro e w1 ⟨r2, rfl, hx, hct, hkk, hku⟩; have hrd := (HR1.out.more ((Upd.refl [] V1).drewN 1)).took hct hkk hku; clear hct; have va : w1.cell? ⟨rv, 0, none⟩ = some (.pointer (some ⟨rp, 0, none⟩)) := hrd.bv.cell 0; have za : (w1.setCell ⟨rp, 5, none⟩ (.int .u64 x)).cell? ⟨rp, 0, none⟩ = some (.pointer (some ⟨c, 0, none⟩)) := (hrd.put 3 (.int .u64 x)).br.cell 0; have zb : (w1.setCell ⟨rp, 5, none⟩ (.int .u64 x)).cell? ⟨rv, 0, none⟩ = some (.pointer (some ⟨rp, 0, none⟩)) := (hrd.put 3 (.int .u64 x)).bv.cell 0; have ca : w1.cell? ⟨rp, 0, none⟩ = some (.pointer (some ⟨c, 0, none⟩)) := hrd.br.cell 0; have pa : w1.cell? ⟨rp, 5, none⟩ = some (.int .u64 0) := hrd.cellAt 3 rfl; have fa := hrd.br.frozen 5; have HH := Lib.hid (And.intro hx (And.intro (hrd.put 3 (.int .u64 x)) (And.intro hkk hku))); clear hx hrd hkk hku))
  obtain ⟨V2, hV2⟩ : ∃ V, V = w1.setCell ⟨rp, 5, none⟩ (.int .u64 x) := ⟨_, rfl⟩
  obtain ⟨hx, hrd, hkk, hku⟩ := HH.out
  have HU2 : Hid (Upd [c, rp] w V2) := by rw [hV2]; exact Lib.hid (((HU1.out.drewN 1).next (hku.more (by simp))).setCell (.inl (by simp)) _)
  rw [show (3 + 2 : Nat) = 5 from rfl, ← hV2] at hrd
  rw [← hV2]
  have HR2 := Lib.hid hrd
  have HXS2 := Lib.hid hx
  have HRI2 : Hid (∀ a, r2.A = some a → a.block < w.heap.size) := Lib.hid (fun a ha => by obtain ⟨a0, h0, e⟩ := hkk a ha; rw [← e]; exact HRI1.out a0 h0)
  clear hV2 HH HC hx hrd hkk hku va pa fa v1 ca za zb c1
  have hb3 := after_byt 4 HB2.out
  have HC := Lib.hid (rnum_kept (HR2.out.more ((Upd.refl [] V2).drewN 1)) (by rw [HXS2.out]; exact HB2.out))
  rw [HXS2.out] at HC
  change Hid (Calls _ _ _ _ fun e w' => ∃ r', e = .returned (.int .u32 (numS s2 4)) ∧ r'.xs = (after s2 4).1 ∧ RdIs w' rv rp c lo n _ r' (after s2 4).2 ∧ (∀ a, r'.A = some a → ∃ a0, r2.A = some a0 ∧ a0.block = a.block) ∧ Upd [c] _ w') at HC
  have v2 : V2.cell? ⟨rv, 0, none⟩ = some (.pointer (some ⟨rp, 0, none⟩)) := HR2.out.bv.cell 0
  obtain ⟨x, hx⟩ : ∃ x, x = numS s2 4 := ⟨_, rfl⟩
  obtain ⟨s3, hs3⟩ : ∃ t, t = after s2 4 := ⟨_, rfl⟩
  rw [← hx, ← hs3] at HC
  rw [← hs3] at hb3
  have HX2 := Lib.hid hx
  have HS3 := Lib.hid hs3
  have HB3 := Lib.hid hb3
  clear hx hs3 hb3
  go_upto_region 2 with fail
  go_region_held3 (fun w' => w'.cell? ⟨rv, 0, none⟩ = some (.pointer (some ⟨rp, 0, none⟩))) (first | go_keep | exact va | exact v2 | simpa [hrc, hrc'] using va)
    ((go_at_call 43; refine HC.out.mono ?_; rintro e w1 ⟨r3, rfl, hx, hrd, hkk, hku⟩; have va : w1.cell? ⟨rv, 0, none⟩ = some (.pointer (some ⟨rp, 0, none⟩)) := hrd.bv.cell 0; have pa : w1.cell? ⟨rp, 6, none⟩ = some (.int .u32 0) := hrd.cellAt 4 rfl; have fa := hrd.br.frozen 6; have HH := Lib.hid (And.intro hx (And.intro (hrd.put 4 (.int .u32 x)) (And.intro hkk hku))); clear hx hrd hkk hku))
  obtain ⟨V3, hV3⟩ : ∃ V, V = w1.setCell ⟨rp, 6, none⟩ (.int .u32 x) := ⟨_, rfl⟩
  obtain ⟨hx, hrd, hkk, hku⟩ := HH.out
  have HU3 : Hid (Upd [c, rp] w V3) := by rw [hV3]; exact Lib.hid (((HU2.out.drewN 1).next (hku.more (by simp))).setCell (.inl (by simp)) _)
  rw [show (4 + 2 : Nat) = 6 from rfl, ← hV3] at hrd
  rw [← hV3]
  have HR3 := Lib.hid hrd
  have HXS3 := Lib.hid hx
  have HRI3 : Hid (∀ a, r3.A = some a → a.block < w.heap.size) := Lib.hid (fun a ha => by obtain ⟨a0, h0, e⟩ := hkk a ha; rw [← e]; exact HRI2.out a0 h0)
  clear hV3 HH HC hx hrd hkk hku va pa fa v2
  have hb4 := after_byt 4 HB3.out
  have HC := Lib.hid (rnum_kept (HR3.out.more ((Upd.refl [] V3).drewN 1)) (by rw [HXS3.out]; exact HB3.out))
  rw [HXS3.out] at HC
  change Hid (Calls _ _ _ _ fun e w' => ∃ r', e = .returned (.int .u32 (numS s3 4)) ∧ r'.xs = (after s3 4).1 ∧ RdIs w' rv rp c lo n _ r' (after s3 4).2 ∧ (∀ a, r'.A = some a → ∃ a0, r3.A = some a0 ∧ a0.block = a.block) ∧ Upd [c] _ w') at HC
  have v3 : V3.cell? ⟨rv, 0, none⟩ = some (.pointer (some ⟨rp, 0, none⟩)) := HR3.out.bv.cell 0
  obtain ⟨x, hx⟩ : ∃ x, x = numS s3 4 := ⟨_, rfl⟩
  obtain ⟨s4, hs4⟩ : ∃ t, t = after s3 4 := ⟨_, rfl⟩
  rw [← hx, ← hs4] at HC
  rw [← hs4] at hb4
  have HX3 := Lib.hid hx
  have HS4 := Lib.hid hs4
  have HB4 := Lib.hid hb4
  clear hx hs4 hb4
  go_upto_region 3 with fail
  go_region_held3 (fun w' => w'.cell? ⟨rv, 0, none⟩ = some (.pointer (some ⟨rp, 0, none⟩))) (first | go_keep | exact va | exact v3 | simpa [hrc, hrc'] using va)
    ((go_at_call 43; refine HC.out.mono ?_; rintro e w1 ⟨r4, rfl, hx, hrd, hkk, hku⟩; have va : w1.cell? ⟨rv, 0, none⟩ = some (.pointer (some ⟨rp, 0, none⟩)) := hrd.bv.cell 0; have pa : w1.cell? ⟨rp, 7, none⟩ = some (.int .u32 0) := hrd.cellAt 5 rfl; have fa := hrd.br.frozen 7; have HH := Lib.hid (And.intro hx (And.intro (hrd.put 5 (.int .u32 x)) (And.intro hkk hku))); clear hx hrd hkk hku))
  obtain ⟨V4, hV4⟩ : ∃ V, V = w1.setCell ⟨rp, 7, none⟩ (.int .u32 x) := ⟨_, rfl⟩
  obtain ⟨hx, hrd, hkk, hku⟩ := HH.out
  have HU4 : Hid (Upd [c, rp] w V4) := by rw [hV4]; exact Lib.hid (((HU3.out.drewN 1).next (hku.more (by simp))).setCell (.inl (by simp)) _)
  rw [show (5 + 2 : Nat) = 7 from rfl, ← hV4] at hrd
  rw [← hV4]
  have HR4 := Lib.hid hrd
  have HXS4 := Lib.hid hx
  have HRI4 : Hid (∀ a, r4.A = some a → a.block < w.heap.size) := Lib.hid (fun a ha => by obtain ⟨a0, h0, e⟩ := hkk a ha; rw [← e]; exact HRI3.out a0 h0)
  clear hV4 HH HC hx hrd hkk hku va pa fa v3
  have hb5 := after_byt 4 HB4.out
  have HC := Lib.hid (rnum_kept (HR4.out.more ((Upd.refl [] V4).drewN 1)) (by rw [HXS4.out]; exact HB4.out))
  rw [HXS4.out] at HC
  change Hid (Calls _ _ _ _ fun e w' => ∃ r', e = .returned (.int .u32 (numS s4 4)) ∧ r'.xs = (after s4 4).1 ∧ RdIs w' rv rp c lo n _ r' (after s4 4).2 ∧ (∀ a, r'.A = some a → ∃ a0, r4.A = some a0 ∧ a0.block = a.block) ∧ Upd [c] _ w') at HC
  have v4 : V4.cell? ⟨rv, 0, none⟩ = some (.pointer (some ⟨rp, 0, none⟩)) := HR4.out.bv.cell 0
  obtain ⟨x, hx⟩ : ∃ x, x = numS s4 4 := ⟨_, rfl⟩
  obtain ⟨s5, hs5⟩ : ∃ t, t = after s4 4 := ⟨_, rfl⟩
  rw [← hx, ← hs5] at HC
  rw [← hs5] at hb5
  have HX4 := Lib.hid hx
  have HS5 := Lib.hid hs5
  have HB5 := Lib.hid hb5
  clear hx hs5 hb5
  go_upto_region 4 with fail
  go_region_held3 (fun w' => w'.cell? ⟨rv, 0, none⟩ = some (.pointer (some ⟨rp, 0, none⟩))) (first | go_keep | exact va | exact v4 | simpa [hrc, hrc'] using va)
    ((go_at_call 43; refine HC.out.mono ?_; rintro e w1 ⟨r5, rfl, hx, hrd, hkk, hku⟩; have va : w1.cell? ⟨rv, 0, none⟩ = some (.pointer (some ⟨rp, 0, none⟩)) := hrd.bv.cell 0; have pa : w1.cell? ⟨rp, 8, none⟩ = some (.int .u32 0) := hrd.cellAt 6 rfl; have fa := hrd.br.frozen 8; have HH := Lib.hid (And.intro hx (And.intro (hrd.put 6 (.int .u32 x)) (And.intro hkk hku))); clear hx hrd hkk hku))
  obtain ⟨V5, hV5⟩ : ∃ V, V = w1.setCell ⟨rp, 8, none⟩ (.int .u32 x) := ⟨_, rfl⟩
  obtain ⟨hx, hrd, hkk, hku⟩ := HH.out
  have HU5 : Hid (Upd [c, rp] w V5) := by rw [hV5]; exact Lib.hid (((HU4.out.drewN 1).next (hku.more (by simp))).setCell (.inl (by simp)) _)
  rw [show (6 + 2 : Nat) = 8 from rfl, ← hV5] at hrd
  rw [← hV5]
  have HR5 := Lib.hid hrd
  have HXS5 := Lib.hid hx
  have HRI5 : Hid (∀ a, r5.A = some a → a.block < w.heap.size) := Lib.hid (fun a ha => by obtain ⟨a0, h0, e⟩ := hkk a ha; rw [← e]; exact HRI4.out a0 h0)
  clear hV5 HH HC hx hrd hkk hku va pa fa v4
  have HCR := Lib.hid (rreports_any HR5.out rfl rfl (by rw [HXS5.out]; exact HB5.out) hn (fun a ha => Nat.lt_of_lt_of_le (HRI5.out a ha) HU5.out.size))
  have v5 : V5.cell? ⟨rv, 0, none⟩ = some (.pointer (some ⟨rp, 0, none⟩)) := HR5.out.bv.cell 0
  go_wp2_with fail
  refine HCR.out.mono ?_
  rintro e w9 ⟨r9, A, cap, rfl, hrd, hx, _, hown, hu9⟩
  have hu := HU5.out.next hu9
  rw [HXS5.out] at hrd hown
  have HF := Lib.hid (And.intro hrd (And.intro hown hu))
  clear hrd hown hu hu9 hx HCR
  go_wp2
  obtain ⟨hrd, hown, hu⟩ := HF.out
  refine bodyPost_end (v := .tuple #[]) (by simp [results, Try.results42, go_sem]) rfl ⟨r9, ⟨A, cap, none, 0, none, 0, none, 0⟩, rfl, ?_, ⟨?_, CellsIn.nil _ _ _ _ _, CellsIn.nil _ _ _ _ _, CellsIn.nil _ _ _ _ _⟩, hu⟩
  · simp only [senderM, mcells, repsM_len, ← HS1.out, ← HS2.out, ← HS3.out, ← HS4.out, ← HS5.out]
    simp only [HX0.out, HX1.out, HX2.out, HX3.out, HX4.out] at hrd
    exact hrd
  · simp only [senderM, repsM_len, ← HS1.out, ← HS2.out, ← HS3.out, ← HS4.out, ← HS5.out]
    exact (CellsIn.of_own hown).lower HU5.out.size
set_option maxRecDepth 100000 in
set_option maxHeartbeats 4000000 in
theorem read2_any {w : World} {rv rp c lo : Nat} {n : Nat} {r : Rw} {er : Int} (h : RdIs w rv rp c lo n (zcells 1) r er) (hb : Byt r.xs) (hn : n ≤ 31) (hra : ∀ a, r.A = some a → a.block < w.heap.size) :
    Calls Try.prog 46 #[.pointer (some ⟨rv, 0, none⟩)] w fun e w' => ∃ r' hd, e = .returned (.tuple #[]) ∧ RdIs w' rv rp c lo n (mcells (receiverM n (r.xs, er)).1 hd) r' (receiverM n (r.xs, er)).2.2 ∧ MgIn w' w.heap.size (receiverM n (r.xs, er)).1 hd ∧ Upd [c, rp] w w' := by
  have hrc : rv ≠ rp := h.bv.ne h.br (by decide)
  have hrc' : rp ≠ rv := hrc.symm
  obtain ⟨s0, hs0⟩ : ∃ s, s = (r.xs, er) := ⟨_, rfl⟩
  rw [← hs0]
  obtain ⟨r0, hr0⟩ : ∃ q, q = r := ⟨_, rfl⟩
  have HXS0 : Hid (r0.xs = s0.1) := by rw [hs0, hr0]; exact Lib.hid rfl
  have HR0 : Hid (RdIs w rv rp c lo n (zcells 1) r0 s0.2) := by rw [hs0, hr0]; exact Lib.hid h
  have HB0 : Hid (Byt s0.1) := by rw [hs0]; exact Lib.hid hb
  have HRI0 : Hid (∀ a, r0.A = some a → a.block < w.heap.size) := by rw [hr0]; exact Lib.hid hra
  have HU0 : Hid (Upd [c, rp] w w) := Lib.hid (Upd.refl _ _)
  unfold zcells at HR0
  clear h hb hra hs0 hr0
  go_enter Try.func46, Try.ntmps46
  have hb1 := after_byt 4 HB0.out
  have HC := Lib.hid (rnum_kept (HR0.out.more ((Upd.refl [] w).drewN 1)) (by rw [HXS0.out]; exact HB0.out))
  rw [HXS0.out] at HC
  change Hid (Calls _ _ _ _ fun e w' => ∃ r', e = .returned (.int .u32 (numS s0 4)) ∧ r'.xs = (after s0 4).1 ∧ RdIs w' rv rp c lo n _ r' (after s0 4).2 ∧ (∀ a, r'.A = some a → ∃ a0, r0.A = some a0 ∧ a0.block = a.block) ∧ Upd [c] _ w') at HC
  have v0 : w.cell? ⟨rv, 0, none⟩ = some (.pointer (some ⟨rp, 0, none⟩)) := HR0.out.bv.cell 0
  obtain ⟨x, hx⟩ : ∃ x, x = numS s0 4 := ⟨_, rfl⟩
  obtain ⟨s1, hs1⟩ : ∃ t, t = after s0 4 := ⟨_, rfl⟩
  rw [← hx, ← hs1] at HC
  rw [← hs1] at hb1
  have HX0 := Lib.hid hx
  have HS1 := Lib.hid hs1
  have HB1 := Lib.hid hb1
  clear hx hs1 hb1
  go_upto_region 0 with fail
  go_region_held3 (fun w' => w'.cell? ⟨rv, 0, none⟩ = some (.pointer (some ⟨rp, 0, none⟩))) (first | go_keep | exact va | exact v0 | simpa [hrc, hrc'] using va)
    ((go_at_call 43; refine HC.out.mono ?_; rintro e w1 ⟨r1, rfl, hx, hrd, hkk, hku⟩; have va : w1.cell? ⟨rv, 0, none⟩ = some (.pointer (some ⟨rp, 0, none⟩)) := hrd.bv.cell 0; have pa : w1.cell? ⟨rp, 3, none⟩ = some (.int .u32 0) := hrd.cellAt 1 rfl; have fa := hrd.br.frozen 3; have HH := Lib.hid (And.intro hx (And.intro (hrd.put 1 (.int .u32 x)) (And.intro hkk hku))); clear hx hrd hkk hku))
  obtain ⟨V1, hV1⟩ : ∃ V, V = w1.setCell ⟨rp, 3, none⟩ (.int .u32 x) := ⟨_, rfl⟩
  obtain ⟨hx, hrd, hkk, hku⟩ := HH.out
  have HU1 : Hid (Upd [c, rp] w V1) := by rw [hV1]; exact Lib.hid (((HU0.out.drewN 1).next (hku.more (by simp))).setCell (.inl (by simp)) _)
  rw [show (1 + 2 : Nat) = 3 from rfl, ← hV1] at hrd
  rw [← hV1]
  have HR1 := Lib.hid hrd
  have HXS1 := Lib.hid hx
  have HRI1 : Hid (∀ a, r1.A = some a → a.block < w.heap.size) := Lib.hid (fun a ha => by obtain ⟨a0, h0, e⟩ := hkk a ha; rw [← e]; exact HRI0.out a0 h0)
  clear hV1 HH HC hx hrd hkk hku va pa fa v0
  have HCR := Lib.hid (rreports_any HR1.out rfl rfl (by rw [HXS1.out]; exact HB1.out) hn (fun a ha => Nat.lt_of_lt_of_le (HRI1.out a ha) HU1.out.size))
  have v1 : V1.cell? ⟨rv, 0, none⟩ = some (.pointer (some ⟨rp, 0, none⟩)) := HR1.out.bv.cell 0
  go_wp2_with fail
  refine HCR.out.mono ?_
  rintro e w9 ⟨r9, A, cap, rfl, hrd, hx, _, hown, hu9⟩
  have hu := HU1.out.next hu9
  rw [HXS1.out] at hrd hown
  have HF := Lib.hid (And.intro hrd (And.intro hown hu))
  clear hrd hown hu hu9 hx HCR
  go_wp2
  obtain ⟨hrd, hown, hu⟩ := HF.out
  refine bodyPost_end (v := .tuple #[]) (by simp [results, Try.results46, go_sem]) rfl ⟨r9, ⟨A, cap, none, 0, none, 0, none, 0⟩, rfl, ?_, ⟨?_, CellsIn.nil _ _ _ _ _, CellsIn.nil _ _ _ _ _, CellsIn.nil _ _ _ _ _⟩, hu⟩
  · simp only [receiverM, mcells, repsM_len, ← HS1.out]
    simp only [HX0.out] at hrd
    exact hrd
  · simp only [receiverM, repsM_len, ← HS1.out]
    exact (CellsIn.of_own hown).lower HU1.out.size
end Go.Proofs.Ytgkejdjdccgjbaa
