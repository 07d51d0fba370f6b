/- Parts of the proof, one behind the other: RdClo, RdClo2, RdClo3, ReadG, ReadA, Pad. No condition of their own. -/
import Derived.Test.YtgkejdjdccgjbaaB4
import Derived.Test.YtgkejdjdccgjbaaB3
/- rtcp's reader: the closures of Sender, Receiver, Pli. Conditions: bytes. (Written by wip/gen/rtcpclo1.py.) -/
namespace Go.Proofs.Ytgkejdjdccgjbaa
open Go Go.RowKit
set_option maxHeartbeats 400000

theorem CellsIn.lower {w : World} {lo lo' hi size n : Nat} {A : Option Addr} {xs : List Value} (h : CellsIn w lo hi size A n xs) (hl : lo' ≤ lo) : CellsIn w lo' hi size A n xs := h.more hl (Nat.le_refl _)
def senderM (n : Nat) (s : List Int × Int) : Mg × (List Int × Int) :=
  (⟨0, numS s 4, 0, numS (after s 4) 8, numS (after (after s 4) 8) 4, numS (after (after (after s 4) 8) 4) 4, numS (after (after (after (after s 4) 8) 4) 4) 4, (repsM n (after (after (after (after (after s 4) 8) 4) 4) 4)).1, [], [], [], 0⟩, (repsM n (after (after (after (after (after s 4) 8) 4) 4) 4)).2)
def receiverM (n : Nat) (s : List Int × Int) : Mg × (List Int × Int) :=
  (⟨1, numS s 4, 0, 0, 0, 0, 0, (repsM n (after s 4)).1, [], [], [], 0⟩, (repsM n (after s 4)).2)
def pliG (s : List Int × Int) : Mg × (List Int × Int) :=
  (⟨4, numS s 4, numS (after s 4) 4, 0, 0, 0, 0, [], [], [], [], 0⟩, after (after s 4) 4)
set_option maxRecDepth 100000 in
set_option maxHeartbeats 4000000 in
theorem read1_any {w : World} {rv rp c lo : Nat} {n : Nat} {r : Rw} {er : Int} (h : RdIs w rv rp c lo n (zcells 0) r er) (hb : Byt r.xs) (hn : n ≤ 31) (hra : ∀ a, r.A = some a → a.block < w.heap.size) :
    Calls Try.prog 42 #[.pointer (some ⟨rv, 0, none⟩)] w fun e w' => ∃ r' hd, e = .returned (.tuple #[]) ∧ RdIs w' rv rp c lo n (mcells (senderM n (r.xs, er)).1 hd) r' (senderM n (r.xs, er)).2.2 ∧ MgIn w' w.heap.size (senderM n (r.xs, er)).1 hd ∧ Upd [c, rp] w w' := by
  have hrc : rv ≠ rp := h.bv.ne h.br (by decide)
  have hrc' : rp ≠ rv := hrc.symm
  obtain ⟨s0, hs0⟩ : ∃ s, s = (r.xs, er) := ⟨_, rfl⟩
  rw [← hs0]
  obtain ⟨r0, hr0⟩ : ∃ q, q = r := ⟨_, rfl⟩
  have HXS0 : Hid (r0.xs = s0.1) := by rw [hs0, hr0]; exact Lib.hid rfl
  have HR0 : Hid (RdIs w rv rp c lo n (zcells 0) r0 s0.2) := by rw [hs0, hr0]; exact Lib.hid h
  have HB0 : Hid (Byt s0.1) := by rw [hs0]; exact Lib.hid hb
  have HRI0 : Hid (∀ a, r0.A = some a → a.block < w.heap.size) := by rw [hr0]; exact Lib.hid hra
  have HU0 : Hid (Upd [c, rp] w w) := Lib.hid (Upd.refl _ _)
  unfold zcells at HR0
  clear h hb hra hs0 hr0
  go_enter Try.func42, Try.ntmps42
  have hb1 := after_byt 4 HB0.out
  have HC := Lib.hid (rnum_kept (HR0.out.more ((Upd.refl [] w).drewN 1)) (by rw [HXS0.out]; exact HB0.out))
  rw [HXS0.out] at HC
  change Hid (Calls _ _ _ _ fun e w' => ∃ r', e = .returned (.int .u32 (numS s0 4)) ∧ r'.xs = (after s0 4).1 ∧ RdIs w' rv rp c lo n _ r' (after s0 4).2 ∧ (∀ a, r'.A = some a → ∃ a0, r0.A = some a0 ∧ a0.block = a.block) ∧ Upd [c] _ w') at HC
  have v0 : w.cell? ⟨rv, 0, none⟩ = some (.pointer (some ⟨rp, 0, none⟩)) := HR0.out.bv.cell 0
  obtain ⟨x, hx⟩ : ∃ x, x = numS s0 4 := ⟨_, rfl⟩
  obtain ⟨s1, hs1⟩ : ∃ t, t = after s0 4 := ⟨_, rfl⟩
  rw [← hx, ← hs1] at HC
  rw [← hs1] at hb1
  have HX0 := Lib.hid hx
  have HS1 := Lib.hid hs1
  have HB1 := Lib.hid hb1
  clear hx hs1 hb1
  go_upto_region 0 with fail
  go_region_held3 (fun w' => w'.cell? ⟨rv, 0, none⟩ = some (.pointer (some ⟨rp, 0, none⟩))) (first | go_keep | exact va | exact v0 | simpa [hrc, hrc'] using va)
    ((go_at_call 43; refine HC.out.mono ?_; rintro e w1 ⟨r1, rfl, hx, hrd, hkk, hku⟩; have va : w1.cell? ⟨rv, 0, none⟩ = some (.pointer (some ⟨rp, 0, none⟩)) := hrd.bv.cell 0; have pa : w1.cell? ⟨rp, 3, none⟩ = some (.int .u32 0) := hrd.cellAt 1 rfl; have fa := hrd.br.frozen 3; have HH := Lib.hid (And.intro hx (And.intro (hrd.put 1 (.int .u32 x)) (And.intro hkk hku))); clear hx hrd hkk hku))
  obtain ⟨V1, hV1⟩ : ∃ V, V = w1.setCell ⟨rp, 3, none⟩ (.int .u32 x) := ⟨_, rfl⟩
  obtain ⟨hx, hrd, hkk, hku⟩ := HH.out
  have HU1 : Hid (Upd [c, rp] w V1) := by rw [hV1]; exact Lib.hid (((HU0.out.drewN 1).next (hku.more (by simp))).setCell (.inl (by simp)) _)
  rw [show (1 + 2 : Nat) = 3 from rfl, ← hV1] at hrd
  rw [← hV1]
  have HR1 := Lib.hid hrd
  have HXS1 := Lib.hid hx
  have HRI1 : Hid (∀ a, r1.A = some a → a.block < w.heap.size) := Lib.hid (fun a ha => by obtain ⟨a0, h0, e⟩ := hkk a ha; rw [← e]; exact HRI0.out a0 h0)
  clear hV1 HH HC hx hrd hkk hku va pa fa v0
  have hb2 := after_byt 8 HB1.out
  have HC := Lib.hid (num_any (HR1.out.more ((Upd.refl [] V1).drewN 1)).cut 8 (by decide) (by decide) (by rw [HXS1.out]; exact HB1.out))
  rw [HXS1.out] at HC
  change Hid (Calls _ _ _ _ fun e w' => ∃ r', e = .returned (.int .u64 (numS s1 8)) ∧ r'.xs = (after s1 8).1 ∧ CutIs w' c lo r' (after s1 8).2 ∧ (∀ a, r'.A = some a → ∃ a0, r1.A = some a0 ∧ a0.block = a.block) ∧ Upd [c] _ w') at HC
  have v1 : V1.cell? ⟨rv, 0, none⟩ = some (.pointer (some ⟨rp, 0, none⟩)) := HR1.out.bv.cell 0
  have c1 : V1.cell? ⟨rp, 0, none⟩ = some (.pointer (some ⟨c, 0, none⟩)) := HR1.out.br.cell 0
  obtain ⟨x, hx⟩ : ∃ x, x = numS s1 8 := ⟨_, rfl⟩
  obtain ⟨s2, hs2⟩ : ∃ t, t = after s1 8 := ⟨_, rfl⟩
  rw [← hx, ← hs2] at HC
  rw [← hs2] at hb2
  have HX1 := Lib.hid hx
  have HS2 := Lib.hid hs2
  have HB2 := Lib.hid hb2
  clear hx hs2 hb2
  go_upto_region 1 with fail
  go_region_held3 (fun w' => w'.cell? ⟨rv, 0, none⟩ = some (.pointer (some ⟨rp, 0, none⟩)) ∧ w'.cell? ⟨rp, 0, none⟩ = some (.pointer (some ⟨c, 0, none⟩))) (first | go_keep | exact ⟨va, ca⟩ | exact ⟨zb, za⟩ | exact ⟨v1, c1⟩ | simpa [hrc, hrc'] using And.intro va ca)
    ((go_at_call 44; refine HC.out.mono ?_; rintro e w1 ⟨r2, rfl, hx, hct, hkk, hku⟩; have hrd := (HR1.out.more ((Upd.refl [] V1).drewN 1)).took hct hkk hku; clear hct; have va : w1.cell? ⟨rv, 0, none⟩ = some (.pointer (some ⟨rp, 0, none⟩)) := hrd.bv.cell 0; have za : (w1.setCell ⟨rp, 5, none⟩ (.int .u64 x)).cell? ⟨rp, 0, none⟩ = some (.pointer (some ⟨c, 0, none⟩)) := (hrd.put 3 (.int .u64 x)).br.cell 0; have zb : (w1.setCell ⟨rp, 5, none⟩ (.int .u64 x)).cell? ⟨rv, 0, none⟩ = some (.pointer (some ⟨rp, 0, none⟩)) := (hrd.put 3 (.int .u64 x)).bv.cell 0; have ca : w1.cell? ⟨rp, 0, none⟩ = some (.pointer (some ⟨c, 0, none⟩)) := hrd.br.cell 0; have pa : w1.cell? ⟨rp, 5, none⟩ = some (.int .u64 0) := hrd.cellAt 3 rfl; have fa := hrd.br.frozen 5; have HH := Lib.hid (And.intro hx (And.intro (hrd.put 3 (.int .u64 x)) (And.intro hkk hku))); clear hx hrd hkk hku))
  obtain ⟨V2, hV2⟩ : ∃ V, V = w1.setCell ⟨rp, 5, none⟩ (.int .u64 x) := ⟨_, rfl⟩
  obtain ⟨hx, hrd, hkk, hku⟩ := HH.out
  have HU2 : Hid (Upd [c, rp] w V2) := by rw [hV2]; exact Lib.hid (((HU1.out.drewN 1).next (hku.more (by simp))).setCell (.inl (by simp)) _)
  rw [show (3 + 2 : Nat) = 5 from rfl, ← hV2] at hrd
  rw [← hV2]
  have HR2 := Lib.hid hrd
  have HXS2 := Lib.hid hx
  have HRI2 : Hid (∀ a, r2.A = some a → a.block < w.heap.size) := Lib.hid (fun a ha => by obtain ⟨a0, h0, e⟩ := hkk a ha; rw [← e]; exact HRI1.out a0 h0)
  clear hV2 HH HC hx hrd hkk hku va pa fa v1 ca za zb c1
  have hb3 := after_byt 4 HB2.out
  have HC := Lib.hid (rnum_kept (HR2.out.more ((Upd.refl [] V2).drewN 1)) (by rw [HXS2.out]; exact HB2.out))
  rw [HXS2.out] at HC
  change Hid (Calls _ _ _ _ fun e w' => ∃ r', e = .returned (.int .u32 (numS s2 4)) ∧ r'.xs = (after s2 4).1 ∧ RdIs w' rv rp c lo n _ r' (after s2 4).2 ∧ (∀ a, r'.A = some a → ∃ a0, r2.A = some a0 ∧ a0.block = a.block) ∧ Upd [c] _ w') at HC
  have v2 : V2.cell? ⟨rv, 0, none⟩ = some (.pointer (some ⟨rp, 0, none⟩)) := HR2.out.bv.cell 0
  obtain ⟨x, hx⟩ : ∃ x, x = numS s2 4 := ⟨_, rfl⟩
  obtain ⟨s3, hs3⟩ : ∃ t, t = after s2 4 := ⟨_, rfl⟩
  rw [← hx, ← hs3] at HC
  rw [← hs3] at hb3
  have HX2 := Lib.hid hx
  have HS3 := Lib.hid hs3
  have HB3 := Lib.hid hb3
  clear hx hs3 hb3
  go_upto_region 2 with fail
  go_region_held3 (fun w' => w'.cell? ⟨rv, 0, none⟩ = some (.pointer (some ⟨rp, 0, none⟩))) (first | go_keep | exact va | exact v2 | simpa [hrc, hrc'] using va)
    ((go_at_call 43; refine HC.out.mono ?_; rintro e w1 ⟨r3, rfl, hx, hrd, hkk, hku⟩; have va : w1.cell? ⟨rv, 0, none⟩ = some (.pointer (some ⟨rp, 0, none⟩)) := hrd.bv.cell 0; have pa : w1.cell? ⟨rp, 6, none⟩ = some (.int .u32 0) := hrd.cellAt 4 rfl; have fa := hrd.br.frozen 6; have HH := Lib.hid (And.intro hx (And.intro (hrd.put 4 (.int .u32 x)) (And.intro hkk hku))); clear hx hrd hkk hku))
  obtain ⟨V3, hV3⟩ : ∃ V, V = w1.setCell ⟨rp, 6, none⟩ (.int .u32 x) := ⟨_, rfl⟩
  obtain ⟨hx, hrd, hkk, hku⟩ := HH.out
  have HU3 : Hid (Upd [c, rp] w V3) := by rw [hV3]; exact Lib.hid (((HU2.out.drewN 1).next (hku.more (by simp))).setCell (.inl (by simp)) _)
  rw [show (4 + 2 : Nat) = 6 from rfl, ← hV3] at hrd
  rw [← hV3]
  have HR3 := Lib.hid hrd
  have HXS3 := Lib.hid hx
  have HRI3 : Hid (∀ a, r3.A = some a → a.block < w.heap.size) := Lib.hid (fun a ha => by obtain ⟨a0, h0, e⟩ := hkk a ha; rw [← e]; exact HRI2.out a0 h0)
  clear hV3 HH HC hx hrd hkk hku va pa fa v2
  have hb4 := after_byt 4 HB3.out
  have HC := Lib.hid (rnum_kept (HR3.out.more ((Upd.refl [] V3).drewN 1)) (by rw [HXS3.out]; exact HB3.out))
  rw [HXS3.out] at HC
  change Hid (Calls _ _ _ _ fun e w' => ∃ r', e = .returned (.int .u32 (numS s3 4)) ∧ r'.xs = (after s3 4).1 ∧ RdIs w' rv rp c lo n _ r' (after s3 4).2 ∧ (∀ a, r'.A = some a → ∃ a0, r3.A = some a0 ∧ a0.block = a.block) ∧ Upd [c] _ w') at HC
  have v3 : V3.cell? ⟨rv, 0, none⟩ = some (.pointer (some ⟨rp, 0, none⟩)) := HR3.out.bv.cell 0
  obtain ⟨x, hx⟩ : ∃ x, x = numS s3 4 := ⟨_, rfl⟩
  obtain ⟨s4, hs4⟩ : ∃ t, t = after s3 4 := ⟨_, rfl⟩
  rw [← hx, ← hs4] at HC
  rw [← hs4] at hb4
  have HX3 := Lib.hid hx
  have HS4 := Lib.hid hs4
  have HB4 := Lib.hid hb4
  clear hx hs4 hb4
  go_upto_region 3 with fail
  go_region_held3 (fun w' => w'.cell? ⟨rv, 0, none⟩ = some (.pointer (some ⟨rp, 0, none⟩))) (first | go_keep | exact va | exact v3 | simpa [hrc, hrc'] using va)
    ((go_at_call 43; refine HC.out.mono ?_; rintro e w1 ⟨r4, rfl, hx, hrd, hkk, hku⟩; have va : w1.cell? ⟨rv, 0, none⟩ = some (.pointer (some ⟨rp, 0, none⟩)) := hrd.bv.cell 0; have pa : w1.cell? ⟨rp, 7, none⟩ = some (.int .u32 0) := hrd.cellAt 5 rfl; have fa := hrd.br.frozen 7; have HH := Lib.hid (And.intro hx (And.intro (hrd.put 5 (.int .u32 x)) (And.intro hkk hku))); clear hx hrd hkk hku))
  obtain ⟨V4, hV4⟩ : ∃ V, V = w1.setCell ⟨rp, 7, none⟩ (.int .u32 x) := ⟨_, rfl⟩
  obtain ⟨hx, hrd, hkk, hku⟩ := HH.out
  have HU4 : Hid (Upd [c, rp] w V4) := by rw [hV4]; exact Lib.hid (((HU3.out.drewN 1).next (hku.more (by simp))).setCell (.inl (by simp)) _)
  rw [show (5 + 2 : Nat) = 7 from rfl, ← hV4] at hrd
  rw [← hV4]
  have HR4 := Lib.hid hrd
  have HXS4 := Lib.hid hx
  have HRI4 : Hid (∀ a, r4.A = some a → a.block < w.heap.size) := Lib.hid (fun a ha => by obtain ⟨a0, h0, e⟩ := hkk a ha; rw [← e]; exact HRI3.out a0 h0)
  clear hV4 HH HC hx hrd hkk hku va pa fa v3
  have hb5 := after_byt 4 HB4.out
  have HC := Lib.hid (rnum_kept (HR4.out.more ((Upd.refl [] V4).drewN 1)) (by rw [HXS4.out]; exact HB4.out))
  rw [HXS4.out] at HC
  change Hid (Calls _ _ _ _ fun e w' => ∃ r', e = .returned (.int .u32 (numS s4 4)) ∧ r'.xs = (after s4 4).1 ∧ RdIs w' rv rp c lo n _ r' (after s4 4).2 ∧ (∀ a, r'.A = some a → ∃ a0, r4.A = some a0 ∧ a0.block = a.block) ∧ Upd [c] _ w') at HC
  have v4 : V4.cell? ⟨rv, 0, none⟩ = some (.pointer (some ⟨rp, 0, none⟩)) := HR4.out.bv.cell 0
  obtain ⟨x, hx⟩ : ∃ x, x = numS s4 4 := ⟨_, rfl⟩
  obtain ⟨s5, hs5⟩ : ∃ t, t = after s4 4 := ⟨_, rfl⟩
  rw [← hx, ← hs5] at HC
  rw [← hs5] at hb5
  have HX4 := Lib.hid hx
  have HS5 := Lib.hid hs5
  have HB5 := Lib.hid hb5
  clear hx hs5 hb5
  go_upto_region 4 with fail
  go_region_held3 (fun w' => w'.cell? ⟨rv, 0, none⟩ = some (.pointer (some ⟨rp, 0, none⟩))) (first | go_keep | exact va | exact v4 | simpa [hrc, hrc'] using va)
    ((go_at_call 43; refine HC.out.mono ?_; rintro e w1 ⟨r5, rfl, hx, hrd, hkk, hku⟩; have va : w1.cell? ⟨rv, 0, none⟩ = some (.pointer (some ⟨rp, 0, none⟩)) := hrd.bv.cell 0; have pa : w1.cell? ⟨rp, 8, none⟩ = some (.int .u32 0) := hrd.cellAt 6 rfl; have fa := hrd.br.frozen 8; have HH := Lib.hid (And.intro hx (And.intro (hrd.put 6 (.int .u32 x)) (And.intro hkk hku))); clear hx hrd hkk hku))
  obtain ⟨V5, hV5⟩ : ∃ V, V = w1.setCell ⟨rp, 8, none⟩ (.int .u32 x) := ⟨_, rfl⟩
  obtain ⟨hx, hrd, hkk, hku⟩ := HH.out
  have HU5 : Hid (Upd [c, rp] w V5) := by rw [hV5]; exact Lib.hid (((HU4.out.drewN 1).next (hku.more (by simp))).setCell (.inl (by simp)) _)
  rw [show (6 + 2 : Nat) = 8 from rfl, ← hV5] at hrd
  rw [← hV5]
  have HR5 := Lib.hid hrd
  have HXS5 := Lib.hid hx
  have HRI5 : Hid (∀ a, r5.A = some a → a.block < w.heap.size) := Lib.hid (fun a ha => by obtain ⟨a0, h0, e⟩ := hkk a ha; rw [← e]; exact HRI4.out a0 h0)
  clear hV5 HH HC hx hrd hkk hku va pa fa v4
  have HCR := Lib.hid (rreports_any HR5.out rfl rfl (by rw [HXS5.out]; exact HB5.out) hn (fun a ha => Nat.lt_of_lt_of_le (HRI5.out a ha) HU5.out.size))
  have v5 : V5.cell? ⟨rv, 0, none⟩ = some (.pointer (some ⟨rp, 0, none⟩)) := HR5.out.bv.cell 0
  go_wp2_with fail
  refine HCR.out.mono ?_
  rintro e w9 ⟨r9, A, cap, rfl, hrd, hx, _, hown, hu9⟩
  have hu := HU5.out.next hu9
  rw [HXS5.out] at hrd hown
  have HF := Lib.hid (And.intro hrd (And.intro hown hu))
  clear hrd hown hu hu9 hx HCR
  go_wp2
  obtain ⟨hrd, hown, hu⟩ := HF.out
  refine bodyPost_end (v := .tuple #[]) (by simp [results, Try.results42, go_sem]) rfl ⟨r9, ⟨A, cap, none, 0, none, 0, none, 0⟩, rfl, ?_, ⟨?_, CellsIn.nil _ _ _ _ _, CellsIn.nil _ _ _ _ _, CellsIn.nil _ _ _ _ _⟩, hu⟩
  · simp only [senderM, mcells, repsM_len, ← HS1.out, ← HS2.out, ← HS3.out, ← HS4.out, ← HS5.out]
    simp only [HX0.out, HX1.out, HX2.out, HX3.out, HX4.out] at hrd
    exact hrd
  · simp only [senderM, repsM_len, ← HS1.out, ← HS2.out, ← HS3.out, ← HS4.out, ← HS5.out]
    exact (CellsIn.of_own hown).lower HU5.out.size
set_option maxRecDepth 100000 in
set_option maxHeartbeats 4000000 in
theorem read2_any {w : World} {rv rp c lo : Nat} {n : Nat} {r : Rw} {er : Int} (h : RdIs w rv rp c lo n (zcells 1) r er) (hb : Byt r.xs) (hn : n ≤ 31) (hra : ∀ a, r.A = some a → a.block < w.heap.size) :
    Calls Try.prog 46 #[.pointer (some ⟨rv, 0, none⟩)] w fun e w' => ∃ r' hd, e = .returned (.tuple #[]) ∧ RdIs w' rv rp c lo n (mcells (receiverM n (r.xs, er)).1 hd) r' (receiverM n (r.xs, er)).2.2 ∧ MgIn w' w.heap.size (receiverM n (r.xs, er)).1 hd ∧ Upd [c, rp] w w' := by
  have hrc : rv ≠ rp := h.bv.ne h.br (by decide)
  have hrc' : rp ≠ rv := hrc.symm
  obtain ⟨s0, hs0⟩ : ∃ s, s = (r.xs, er) := ⟨_, rfl⟩
  rw [← hs0]
  obtain ⟨r0, hr0⟩ : ∃ q, q = r := ⟨_, rfl⟩
  have HXS0 : Hid (r0.xs = s0.1) := by rw [hs0, hr0]; exact Lib.hid rfl
  have HR0 : Hid (RdIs w rv rp c lo n (zcells 1) r0 s0.2) := by rw [hs0, hr0]; exact Lib.hid h
  have HB0 : Hid (Byt s0.1) := by rw [hs0]; exact Lib.hid hb
  have HRI0 : Hid (∀ a, r0.A = some a → a.block < w.heap.size) := by rw [hr0]; exact Lib.hid hra
  have HU0 : Hid (Upd [c, rp] w w) := Lib.hid (Upd.refl _ _)
  unfold zcells at HR0
  clear h hb hra hs0 hr0
  go_enter Try.func46, Try.ntmps46
  have hb1 := after_byt 4 HB0.out
  have HC := Lib.hid (rnum_kept (HR0.out.more ((Upd.refl [] w).drewN 1)) (by rw [HXS0.out]; exact HB0.out))
  rw [HXS0.out] at HC
  change Hid (Calls _ _ _ _ fun e w' => ∃ r', e = .returned (.int .u32 (numS s0 4)) ∧ r'.xs = (after s0 4).1 ∧ RdIs w' rv rp c lo n _ r' (after s0 4).2 ∧ (∀ a, r'.A = some a → ∃ a0, r0.A = some a0 ∧ a0.block = a.block) ∧ Upd [c] _ w') at HC
  have v0 : w.cell? ⟨rv, 0, none⟩ = some (.pointer (some ⟨rp, 0, none⟩)) := HR0.out.bv.cell 0
  obtain ⟨x, hx⟩ : ∃ x, x = numS s0 4 := ⟨_, rfl⟩
  obtain ⟨s1, hs1⟩ : ∃ t, t = after s0 4 := ⟨_, rfl⟩
  rw [← hx, ← hs1] at HC
  rw [← hs1] at hb1
  have HX0 := Lib.hid hx
  have HS1 := Lib.hid hs1
  have HB1 := Lib.hid hb1
  clear hx hs1 hb1
  go_upto_region 0 with fail
  go_region_held3 (fun w' => w'.cell? ⟨rv, 0, none⟩ = some (.pointer (some ⟨rp, 0, none⟩))) (first | go_keep | exact va | exact v0 | simpa [hrc, hrc'] using va)
    ((go_at_call 43; refine HC.out.mono ?_; rintro e w1 ⟨r1, rfl, hx, hrd, hkk, hku⟩; have va : w1.cell? ⟨rv, 0, none⟩ = some (.pointer (some ⟨rp, 0, none⟩)) := hrd.bv.cell 0; have pa : w1.cell? ⟨rp, 3, none⟩ = some (.int .u32 0) := hrd.cellAt 1 rfl; have fa := hrd.br.frozen 3; have HH := Lib.hid (And.intro hx (And.intro (hrd.put 1 (.int .u32 x)) (And.intro hkk hku))); clear hx hrd hkk hku))
  obtain ⟨V1, hV1⟩ : ∃ V, V = w1.setCell ⟨rp, 3, none⟩ (.int .u32 x) := ⟨_, rfl⟩
  obtain ⟨hx, hrd, hkk, hku⟩ := HH.out
  have HU1 : Hid (Upd [c, rp] w V1) := by rw [hV1]; exact Lib.hid (((HU0.out.drewN 1).next (hku.more (by simp))).setCell (.inl (by simp)) _)
  rw [show (1 + 2 : Nat) = 3 from rfl, ← hV1] at hrd
  rw [← hV1]
  have HR1 := Lib.hid hrd
  have HXS1 := Lib.hid hx
  have HRI1 : Hid (∀ a, r1.A = some a → a.block < w.heap.size) := Lib.hid (fun a ha => by obtain ⟨a0, h0, e⟩ := hkk a ha; rw [← e]; exact HRI0.out a0 h0)
  clear hV1 HH HC hx hrd hkk hku va pa fa v0
  have HCR := Lib.hid (rreports_any HR1.out rfl rfl (by rw [HXS1.out]; exact HB1.out) hn (fun a ha => Nat.lt_of_lt_of_le (HRI1.out a ha) HU1.out.size))
  have v1 : V1.cell? ⟨rv, 0, none⟩ = some (.pointer (some ⟨rp, 0, none⟩)) := HR1.out.bv.cell 0
  go_wp2_with fail
  refine HCR.out.mono ?_
  rintro e w9 ⟨r9, A, cap, rfl, hrd, hx, _, hown, hu9⟩
  have hu := HU1.out.next hu9
  rw [HXS1.out] at hrd hown
  have HF := Lib.hid (And.intro hrd (And.intro hown hu))
  clear hrd hown hu hu9 hx HCR
  go_wp2
  obtain ⟨hrd, hown, hu⟩ := HF.out
  refine bodyPost_end (v := .tuple #[]) (by simp [results, Try.results46, go_sem]) rfl ⟨r9, ⟨A, cap, none, 0, none, 0, none, 0⟩, rfl, ?_, ⟨?_, CellsIn.nil _ _ _ _ _, CellsIn.nil _ _ _ _ _, CellsIn.nil _ _ _ _ _⟩, hu⟩
  · simp only [receiverM, mcells, repsM_len, ← HS1.out]
    simp only [HX0.out] at hrd
    exact hrd
  · simp only [receiverM, repsM_len, ← HS1.out]
    exact (CellsIn.of_own hown).lower HU1.out.size
end Go.Proofs.Ytgkejdjdccgjbaa
/- rtcp's reader: the closures of Pli, Nack, Fir. Conditions: bytes. (Written by wip/gen/rtcpclo2.py.) -/
namespace Go.Proofs.Ytgkejdjdccgjbaa
open Go Go.RowKit
set_option maxHeartbeats 400000

theorem after_ok {s : List Int × Int} (n : Nat) (h : s.2 = 0) (hn : n ≤ s.1.length) : (after s n).1.length = s.1.length - n ∧ (after s n).2 = 0 := by
  obtain ⟨xs, er⟩ := s
  dsimp only at h hn
  subst h
  have e : numM xs 0 n = (numOf (xs.take n), xs.drop n, 0) := by simp [numM]; omega
  unfold after
  dsimp only
  rw [e]
  exact ⟨by rw [List.length_drop], rfl⟩
theorem after_bad {s : List Int × Int} (n : Nat) (h : s.2 ≠ 0 → s.1.length < n) : (after s n).2 ≠ 0 → (after s n).1.length < n := by
  obtain ⟨xs, er⟩ := s
  dsimp only at h
  unfold after
  dsimp only
  unfold numM
  split
  · intro _; exact h (by assumption)
  split
  · intro _; assumption
  · intro hh; exact absurd rfl hh
def pairS (s : List Int × Int) : Int × Int := (numS s 2, numS (after s 2) 2)
def pairA (s : List Int × Int) : List Int × Int := after (after s 2) 2
def pairsM : Nat → List Int × Int → List (Int × Int) × (List Int × Int)
  | 0, s => ([], s)
  | n + 1, s => ((pairsM n s).1 ++ [pairS (pairsM n s).2], pairA (pairsM n s).2)
theorem pairsM_byt {s : List Int × Int} (h : Byt s.1) : ∀ n, Byt (pairsM n s).2.1
  | 0 => h
  | n + 1 => after_byt _ (after_byt _ (pairsM_byt h n))
theorem pairsM_len (s : List Int × Int) : ∀ n, (pairsM n s).1.length = n
  | 0 => rfl
  | n + 1 => by rw [pairsM, List.length_append, pairsM_len s n]; rfl
theorem pairsM_ok {s : List Int × Int} (h : s.2 = 0) : ∀ n, 4 * n ≤ s.1.length → (pairsM n s).2.1.length = s.1.length - 4 * n ∧ (pairsM n s).2.2 = 0
  | 0, _ => ⟨by simp [pairsM], h⟩
  | n + 1, hn => by
    obtain ⟨h1, h2⟩ := pairsM_ok h n (by omega)
    obtain ⟨h3, h4⟩ := after_ok 2 h2 (by omega)
    obtain ⟨h5, h6⟩ := after_ok 2 h4 (by omega)
    exact ⟨by show (after (after (pairsM n s).2 2) 2).1.length = _; omega, h6⟩
def askS (s : List Int × Int) : Int × Int := (numS s 4, numS (after s 4) 1)
def askA (s : List Int × Int) : List Int × Int := after (after (after s 4) 1) 3
def asksM : Nat → List Int × Int → List (Int × Int) × (List Int × Int)
  | 0, s => ([], s)
  | n + 1, s => ((asksM n s).1 ++ [askS (asksM n s).2], askA (asksM n s).2)
theorem asksM_byt {s : List Int × Int} (h : Byt s.1) : ∀ n, Byt (asksM n s).2.1
  | 0 => h
  | n + 1 => after_byt _ (after_byt _ (after_byt _ (asksM_byt h n)))
theorem asksM_len (s : List Int × Int) : ∀ n, (asksM n s).1.length = n
  | 0 => rfl
  | n + 1 => by rw [asksM, List.length_append, asksM_len s n]; rfl
theorem asksM_ok {s : List Int × Int} (h : s.2 = 0) : ∀ n, 8 * n ≤ s.1.length → (asksM n s).2.1.length = s.1.length - 8 * n ∧ (asksM n s).2.2 = 0
  | 0, _ => ⟨by simp [asksM], h⟩
  | n + 1, hn => by
    obtain ⟨h1, h2⟩ := asksM_ok h n (by omega)
    obtain ⟨h3, h4⟩ := after_ok 4 h2 (by omega)
    obtain ⟨h5, h6⟩ := after_ok 1 h4 (by omega)
    obtain ⟨h7, h8⟩ := after_ok 3 h6 (by omega)
    exact ⟨by show (after (after (after (asksM n s).2 4) 1) 3).1.length = _; omega, h8⟩
def nackM (s : List Int × Int) : Mg × (List Int × Int) :=
  (⟨3, numS s 4, numS (after s 4) 4, 0, 0, 0, 0, [], [], (pairsM ((after (after s 4) 4).1.length / 4) (after (after s 4) 4)).1, [], 0⟩, (pairsM ((after (after s 4) 4).1.length / 4) (after (after s 4) 4)).2)
def firM (s : List Int × Int) : Mg × (List Int × Int) :=
  (⟨5, numS s 4, numS (after s 4) 4, 0, 0, 0, 0, [], [], [], (asksM ((after (after s 4) 4).1.length / 8) (after (after s 4) 4)).1, 0⟩, (asksM ((after (after s 4) 4).1.length / 8) (after (after s 4) 4)).2)
theorem infoPr : (Try.prog.info? 68).map (fun i => (i.zero, i.size, i.bytes)) = some (some (.agg #[.int .u16 0, .int .u16 0]), 2, 4) := by kernel_rfl
theorem infoAs : (Try.prog.info? 91).map (fun i => (i.zero, i.size, i.bytes)) = some (some (.agg #[.int .u32 0, .int .u8 0]), 2, 8) := by kernel_rfl
theorem blk2 {w : World} {X : Nat} {t : TypeId} {a0 a1 p : Value} {g : Addr} (h : Blk w X t #[a0, a1]) (hg : w.cell? g = some p) : w.cell? g = some p ∧ w.cell? ⟨X, 0, none⟩ = some a0 ∧ w.cell? ⟨X, 1, none⟩ = some a1 := ⟨hg, h.cell 0, h.cell 1⟩
set_option maxRecDepth 100000 in
set_option maxHeartbeats 4000000 in
theorem read5g_any {w : World} {rv rp c lo : Nat} {n : Nat} {r : Rw} (h : RdIs w rv rp c lo n (zcells 4) r 0) (hb : Byt r.xs) (hl : r.xs.length ≤ 100000) (hra : ∀ a, r.A = some a → a.block < w.heap.size) :
    Calls Try.prog 49 #[.pointer (some ⟨rv, 0, none⟩)] w fun e w' => ∃ r' hd, e = .returned (.tuple #[]) ∧ RdIs w' rv rp c lo n (mcells (pliG (r.xs, 0)).1 hd) r' (pliG (r.xs, 0)).2.2 ∧ MgIn w' w.heap.size (pliG (r.xs, 0)).1 hd ∧ Upd [c, rp] w w' := by
  have hrc : rv ≠ rp := h.bv.ne h.br (by decide)
  have hrc' : rp ≠ rv := hrc.symm
  have hrv := h.bv.lt
  have hrp := h.br.lt
  have hc := h.cut.bl.lt
  obtain ⟨s0, hs0⟩ : ∃ s : List Int × Int, s = (r.xs, 0) := ⟨_, rfl⟩
  rw [← hs0]
  obtain ⟨r0, hr0⟩ : ∃ q, q = r := ⟨_, rfl⟩
  have HXS0 : Hid (r0.xs = s0.1) := by rw [hs0, hr0]; exact Lib.hid rfl
  have HR0 : Hid (RdIs w rv rp c lo n (zcells 4) r0 s0.2) := by rw [hs0, hr0]; exact Lib.hid h
  have HB0 : Hid (Byt s0.1) := by rw [hs0]; exact Lib.hid hb
  have HRI0 : Hid (∀ a, r0.A = some a → a.block < w.heap.size) := by rw [hr0]; exact Lib.hid hra
  have HU0 : Hid (Upd [c, rp] w w) := Lib.hid (Upd.refl _ _)
  have HE0 : Hid (s0.2 = 0) := by rw [hs0]; exact Lib.hid rfl
  have HL0 : Hid (s0.1.length ≤ 100000) := by rw [hs0]; exact Lib.hid hl
  unfold zcells at HR0
  clear h hb hra hs0 hr0 hl
  go_enter Try.func49, Try.ntmps49
  have hb1 := after_byt 4 HB0.out
  have HC := Lib.hid (rnum_kept (HR0.out.more ((Upd.refl [] w).drewN 1)) (by rw [HXS0.out]; exact HB0.out))
  rw [HXS0.out] at HC
  change Hid (Calls _ _ _ _ fun e w' => ∃ r', e = .returned (.int .u32 (numS s0 4)) ∧ r'.xs = (after s0 4).1 ∧ RdIs w' rv rp c lo n _ r' (after s0 4).2 ∧ (∀ a, r'.A = some a → ∃ a0, r0.A = some a0 ∧ a0.block = a.block) ∧ Upd [c] _ w') at HC
  have v0 : w.cell? ⟨rv, 0, none⟩ = some (.pointer (some ⟨rp, 0, none⟩)) := HR0.out.bv.cell 0
  obtain ⟨x, hx⟩ : ∃ x, x = numS s0 4 := ⟨_, rfl⟩
  obtain ⟨s1, hs1⟩ : ∃ t, t = after s0 4 := ⟨_, rfl⟩
  rw [← hx, ← hs1] at HC
  rw [← hs1] at hb1
  have HX0 := Lib.hid hx
  have HS1 := Lib.hid hs1
  have HB1 := Lib.hid hb1
  clear hx hs1 hb1
  go_upto_region 0 with fail
  go_region_held3 (fun w' => w'.cell? ⟨rv, 0, none⟩ = some (.pointer (some ⟨rp, 0, none⟩))) (first | go_keep | exact va | exact v0 | simpa [hrc, hrc'] using va)
    ((go_at_call 43; refine HC.out.mono ?_; rintro e w1 ⟨r1, rfl, hx, hrd, hkk, hku⟩; have va : w1.cell? ⟨rv, 0, none⟩ = some (.pointer (some ⟨rp, 0, none⟩)) := hrd.bv.cell 0; have pa : w1.cell? ⟨rp, 3, none⟩ = some (.int .u32 0) := hrd.cellAt 1 rfl; have fa := hrd.br.frozen 3; have HH := Lib.hid (And.intro hx (And.intro (hrd.put 1 (.int .u32 x)) (And.intro hkk hku))); clear hx hrd hkk hku))
  obtain ⟨V1, hV1⟩ : ∃ V, V = w1.setCell ⟨rp, 3, none⟩ (.int .u32 x) := ⟨_, rfl⟩
  obtain ⟨hx, hrd, hkk, hku⟩ := HH.out
  have HU1 : Hid (Upd [c, rp] w V1) := by rw [hV1]; exact Lib.hid (((HU0.out.drewN 1).next (hku.more (by simp))).setCell (.inl (by simp)) _)
  rw [show (1 + 2 : Nat) = 3 from rfl, ← hV1] at hrd
  rw [← hV1]
  have HR1 := Lib.hid hrd
  have HXS1 := Lib.hid hx
  have HRI1 : Hid (∀ a, r1.A = some a → a.block < w.heap.size) := Lib.hid (fun a ha => by obtain ⟨a0, h0, e⟩ := hkk a ha; rw [← e]; exact HRI0.out a0 h0)
  clear hV1 HH HC hx hrd hkk hku va pa fa v0
  have hb2 := after_byt 4 HB1.out
  have HC := Lib.hid (rnum_kept (HR1.out.more ((Upd.refl [] V1).drewN 1)) (by rw [HXS1.out]; exact HB1.out))
  rw [HXS1.out] at HC
  change Hid (Calls _ _ _ _ fun e w' => ∃ r', e = .returned (.int .u32 (numS s1 4)) ∧ r'.xs = (after s1 4).1 ∧ RdIs w' rv rp c lo n _ r' (after s1 4).2 ∧ (∀ a, r'.A = some a → ∃ a0, r1.A = some a0 ∧ a0.block = a.block) ∧ Upd [c] _ w') at HC
  have v1 : V1.cell? ⟨rv, 0, none⟩ = some (.pointer (some ⟨rp, 0, none⟩)) := HR1.out.bv.cell 0
  obtain ⟨x, hx⟩ : ∃ x, x = numS s1 4 := ⟨_, rfl⟩
  obtain ⟨s2, hs2⟩ : ∃ t, t = after s1 4 := ⟨_, rfl⟩
  rw [← hx, ← hs2] at HC
  rw [← hs2] at hb2
  have HX1 := Lib.hid hx
  have HS2 := Lib.hid hs2
  have HB2 := Lib.hid hb2
  clear hx hs2 hb2
  go_upto_region 1 with fail
  go_region_held3 (fun w' => w'.cell? ⟨rv, 0, none⟩ = some (.pointer (some ⟨rp, 0, none⟩))) (first | go_keep | exact va | exact v1 | simpa [hrc, hrc'] using va)
    ((go_at_call 43; refine HC.out.mono ?_; rintro e w1 ⟨r2, rfl, hx, hrd, hkk, hku⟩; have va : w1.cell? ⟨rv, 0, none⟩ = some (.pointer (some ⟨rp, 0, none⟩)) := hrd.bv.cell 0; have pa : w1.cell? ⟨rp, 4, none⟩ = some (.int .u32 0) := hrd.cellAt 2 rfl; have fa := hrd.br.frozen 4; have HH := Lib.hid (And.intro hx (And.intro (hrd.put 2 (.int .u32 x)) (And.intro hkk hku))); clear hx hrd hkk hku))
  obtain ⟨V2, hV2⟩ : ∃ V, V = w1.setCell ⟨rp, 4, none⟩ (.int .u32 x) := ⟨_, rfl⟩
  obtain ⟨hx, hrd, hkk, hku⟩ := HH.out
  have HU2 : Hid (Upd [c, rp] w V2) := by rw [hV2]; exact Lib.hid (((HU1.out.drewN 1).next (hku.more (by simp))).setCell (.inl (by simp)) _)
  rw [show (2 + 2 : Nat) = 4 from rfl, ← hV2] at hrd
  rw [← hV2]
  have HR2 := Lib.hid hrd
  have HXS2 := Lib.hid hx
  have HRI2 : Hid (∀ a, r2.A = some a → a.block < w.heap.size) := Lib.hid (fun a ha => by obtain ⟨a0, h0, e⟩ := hkk a ha; rw [← e]; exact HRI1.out a0 h0)
  clear hV2 HH HC hx hrd hkk hku va pa fa v1
  go_wp2
  refine bodyPost_end (v := .tuple #[]) (by simp [results, Try.results49, go_sem]) rfl ⟨r2, ⟨none, 0, none, 0, none, 0, none, 0⟩, rfl, ?_, ⟨CellsIn.nil _ _ _ _ _, CellsIn.nil _ _ _ _ _, CellsIn.nil _ _ _ _ _, CellsIn.nil _ _ _ _ _⟩, HU2.out⟩
  have hrd := HR2.out
  simp only [pliG, mcells, ← HS1.out, ← HS2.out]
  simp only [HX0.out, HX1.out] at hrd
  exact hrd
set_option maxRecDepth 100000 in
set_option maxHeartbeats 4000000 in
theorem read4_any {w : World} {rv rp c lo : Nat} {n : Nat} {r : Rw} (h : RdIs w rv rp c lo n (zcells 3) r 0) (hb : Byt r.xs) (hl : r.xs.length ≤ 100000) (hra : ∀ a, r.A = some a → a.block < w.heap.size) :
    Calls Try.prog 48 #[.pointer (some ⟨rv, 0, none⟩)] w fun e w' => ∃ r' hd, e = .returned (.tuple #[]) ∧ RdIs w' rv rp c lo n (mcells (nackM (r.xs, 0)).1 hd) r' (nackM (r.xs, 0)).2.2 ∧ MgIn w' w.heap.size (nackM (r.xs, 0)).1 hd ∧ Upd [c, rp] w w' := by
  obtain ⟨j0, hj0, hy0, hy1, hy2⟩ := info_parts infoPr
  have hrc : rv ≠ rp := h.bv.ne h.br (by decide)
  have hrc' : rp ≠ rv := hrc.symm
  have hrv := h.bv.lt
  have hrp := h.br.lt
  have hc := h.cut.bl.lt
  obtain ⟨s0, hs0⟩ : ∃ s : List Int × Int, s = (r.xs, 0) := ⟨_, rfl⟩
  rw [← hs0]
  obtain ⟨r0, hr0⟩ : ∃ q, q = r := ⟨_, rfl⟩
  have HXS0 : Hid (r0.xs = s0.1) := by rw [hs0, hr0]; exact Lib.hid rfl
  have HR0 : Hid (RdIs w rv rp c lo n (zcells 3) r0 s0.2) := by rw [hs0, hr0]; exact Lib.hid h
  have HB0 : Hid (Byt s0.1) := by rw [hs0]; exact Lib.hid hb
  have HRI0 : Hid (∀ a, r0.A = some a → a.block < w.heap.size) := by rw [hr0]; exact Lib.hid hra
  have HU0 : Hid (Upd [c, rp] w w) := Lib.hid (Upd.refl _ _)
  have HE0 : Hid (s0.2 = 0) := by rw [hs0]; exact Lib.hid rfl
  have HL0 : Hid (s0.1.length ≤ 100000) := by rw [hs0]; exact Lib.hid hl
  unfold zcells at HR0
  clear h hb hra hs0 hr0 hl
  go_enter Try.func48, Try.ntmps48
  have hb1 := after_byt 4 HB0.out
  have HC := Lib.hid (rnum_kept (HR0.out.more ((Upd.refl [] w).drewN 1)) (by rw [HXS0.out]; exact HB0.out))
  rw [HXS0.out] at HC
  change Hid (Calls _ _ _ _ fun e w' => ∃ r', e = .returned (.int .u32 (numS s0 4)) ∧ r'.xs = (after s0 4).1 ∧ RdIs w' rv rp c lo n _ r' (after s0 4).2 ∧ (∀ a, r'.A = some a → ∃ a0, r0.A = some a0 ∧ a0.block = a.block) ∧ Upd [c] _ w') at HC
  have v0 : w.cell? ⟨rv, 0, none⟩ = some (.pointer (some ⟨rp, 0, none⟩)) := HR0.out.bv.cell 0
  obtain ⟨x, hx⟩ : ∃ x, x = numS s0 4 := ⟨_, rfl⟩
  obtain ⟨s1, hs1⟩ : ∃ t, t = after s0 4 := ⟨_, rfl⟩
  rw [← hx, ← hs1] at HC
  rw [← hs1] at hb1
  have HX0 := Lib.hid hx
  have HS1 := Lib.hid hs1
  have HB1 := Lib.hid hb1
  clear hx hs1 hb1
  go_upto_region 0 with fail
  go_region_held3 (fun w' => w'.cell? ⟨rv, 0, none⟩ = some (.pointer (some ⟨rp, 0, none⟩))) (first | go_keep | exact va | exact v0 | simpa [hrc, hrc'] using va)
    ((go_at_call 43; refine HC.out.mono ?_; rintro e w1 ⟨r1, rfl, hx, hrd, hkk, hku⟩; have va : w1.cell? ⟨rv, 0, none⟩ = some (.pointer (some ⟨rp, 0, none⟩)) := hrd.bv.cell 0; have pa : w1.cell? ⟨rp, 3, none⟩ = some (.int .u32 0) := hrd.cellAt 1 rfl; have fa := hrd.br.frozen 3; have HH := Lib.hid (And.intro hx (And.intro (hrd.put 1 (.int .u32 x)) (And.intro hkk hku))); clear hx hrd hkk hku))
  obtain ⟨V1, hV1⟩ : ∃ V, V = w1.setCell ⟨rp, 3, none⟩ (.int .u32 x) := ⟨_, rfl⟩
  obtain ⟨hx, hrd, hkk, hku⟩ := HH.out
  have HU1 : Hid (Upd [c, rp] w V1) := by rw [hV1]; exact Lib.hid (((HU0.out.drewN 1).next (hku.more (by simp))).setCell (.inl (by simp)) _)
  rw [show (1 + 2 : Nat) = 3 from rfl, ← hV1] at hrd
  rw [← hV1]
  have HR1 := Lib.hid hrd
  have HXS1 := Lib.hid hx
  have HRI1 : Hid (∀ a, r1.A = some a → a.block < w.heap.size) := Lib.hid (fun a ha => by obtain ⟨a0, h0, e⟩ := hkk a ha; rw [← e]; exact HRI0.out a0 h0)
  clear hV1 HH HC hx hrd hkk hku va pa fa v0
  have hb2 := after_byt 4 HB1.out
  have HC := Lib.hid (rnum_kept (HR1.out.more ((Upd.refl [] V1).drewN 1)) (by rw [HXS1.out]; exact HB1.out))
  rw [HXS1.out] at HC
  change Hid (Calls _ _ _ _ fun e w' => ∃ r', e = .returned (.int .u32 (numS s1 4)) ∧ r'.xs = (after s1 4).1 ∧ RdIs w' rv rp c lo n _ r' (after s1 4).2 ∧ (∀ a, r'.A = some a → ∃ a0, r1.A = some a0 ∧ a0.block = a.block) ∧ Upd [c] _ w') at HC
  have v1 : V1.cell? ⟨rv, 0, none⟩ = some (.pointer (some ⟨rp, 0, none⟩)) := HR1.out.bv.cell 0
  obtain ⟨x, hx⟩ : ∃ x, x = numS s1 4 := ⟨_, rfl⟩
  obtain ⟨s2, hs2⟩ : ∃ t, t = after s1 4 := ⟨_, rfl⟩
  rw [← hx, ← hs2] at HC
  rw [← hs2] at hb2
  have HX1 := Lib.hid hx
  have HS2 := Lib.hid hs2
  have HB2 := Lib.hid hb2
  clear hx hs2 hb2
  go_upto_region 1 with fail
  go_region_held3 (fun w' => w'.cell? ⟨rv, 0, none⟩ = some (.pointer (some ⟨rp, 0, none⟩))) (first | go_keep | exact va | exact v1 | simpa [hrc, hrc'] using va)
    ((go_at_call 43; refine HC.out.mono ?_; rintro e w1 ⟨r2, rfl, hx, hrd, hkk, hku⟩; have va : w1.cell? ⟨rv, 0, none⟩ = some (.pointer (some ⟨rp, 0, none⟩)) := hrd.bv.cell 0; have pa : w1.cell? ⟨rp, 4, none⟩ = some (.int .u32 0) := hrd.cellAt 2 rfl; have fa := hrd.br.frozen 4; have HH := Lib.hid (And.intro hx (And.intro (hrd.put 2 (.int .u32 x)) (And.intro hkk hku))); clear hx hrd hkk hku))
  obtain ⟨V2, hV2⟩ : ∃ V, V = w1.setCell ⟨rp, 4, none⟩ (.int .u32 x) := ⟨_, rfl⟩
  obtain ⟨hx, hrd, hkk, hku⟩ := HH.out
  have HU2 : Hid (Upd [c, rp] w V2) := by rw [hV2]; exact Lib.hid (((HU1.out.drewN 1).next (hku.more (by simp))).setCell (.inl (by simp)) _)
  rw [show (2 + 2 : Nat) = 4 from rfl, ← hV2] at hrd
  rw [← hV2]
  have HR2 := Lib.hid hrd
  have HXS2 := Lib.hid hx
  have HRI2 : Hid (∀ a, r2.A = some a → a.block < w.heap.size) := Lib.hid (fun a ha => by obtain ⟨a0, h0, e⟩ := hkk a ha; rw [← e]; exact HRI1.out a0 h0)
  clear hV2 HH HC hx hrd hkk hku va pa fa v1
  obtain ⟨x0, hx0⟩ : ∃ x0, x0 = numS s0 4 := ⟨_, rfl⟩
  obtain ⟨x1, hx1⟩ : ∃ x1, x1 = numS s1 4 := ⟨_, rfl⟩
  have HRV : Hid (RdIs V2 rv rp c lo n [.int .i64 3, .int .u32 x0, .int .u32 x1, .int .u64 0, .int .u32 0, .int .u32 0, .int .u32 0, .slice none 0 0, .slice none 0 0, .slice none 0 0, .slice none 0 0, .int .u8 0] r2 s2.2) := by
    have hrd := HR2.out
    simp only [HX0.out, HX1.out] at hrd
    rw [hx0, hx1]
    exact Lib.hid hrd
  have HM : Hid (nackM s0 = (⟨3, x0, x1, 0, 0, 0, 0, [], [], (pairsM (s2.1.length / 4) s2).1, [], 0⟩, (pairsM (s2.1.length / 4) s2).2)) := by
    rw [nackM, ← HS1.out, ← HS2.out, hx0, hx1]; exact Lib.hid rfl
  have HBAD : Hid (s2.2 ≠ 0 → s2.1.length < 4) := by
    rw [HS2.out]
    refine Lib.hid (after_bad 4 ?_)
    rw [HS1.out]
    exact after_bad 4 (fun hh => absurd HE0.out hh)
  have HL2 : Hid (s2.1.length ≤ 100000) := by
    rw [HS2.out, HS1.out]
    have e : ∀ (s : List Int × Int), (after s 4).1.length ≤ s.1.length := fun s => by
      unfold after numM; (repeat' split) <;> simp
    exact Lib.hid (Nat.le_trans (e _) (Nat.le_trans (e _) HL0.out))
  clear HR2 HX0 HX1 hx0 hx1 HR1 HR0 HXS0 HXS1 HB0 HB1 HRI0 HRI1 HU0 HU1 HS1 HS2 HE0 HL0
  obtain ⟨N, hN⟩ : ∃ N, N = s2.1.length / 4 := ⟨_, rfl⟩
  rw [← hN] at HM
  have hNb : N ≤ 100000 := by have := HL2.out; omega
  have HNN := Lib.hid hN
  clear hN
  go_wp2
  go_loopg [1] N (fun gk x1' wr => ∃ (i : Nat) (ri : Rw) (A : Option Addr) (cap : Nat), i ≤ N ∧ N ≤ i + gk ∧ RdIs wr rv rp c lo n [.int .i64 3, .int .u32 x0, .int .u32 x1, .int .u64 0, .int .u32 0, .int .u32 0, .int .u32 0, .slice none 0 0, .slice none 0 0, .slice A i cap, .slice none 0 0, .int .u8 0] ri (pairsM i s2).2.2 ∧ ri.xs = (pairsM i s2).2.1 ∧
      (∀ a, ri.A = some a → a.block < w.heap.size) ∧ wr.ownsRow w.heap.size 68 2 (.slice A i cap) i ((pairsM i s2).1.flatMap encPair) ∧ Upd [c, rp] w wr)
  case atStart => exact ⟨0, r2, none, 0, Nat.zero_le _, by omega, HRV.out, HXS2.out, HRI2.out, World.ownsRow_nil _ _ _ _, HU2.out⟩
  case round =>
    obtain ⟨i, ri, A, cap, hi, hgi, hrd, hxs, hra, hown, hu⟩ := hrel
    have HBY := Lib.hid (pairsM_byt HB2.out i)
    have hlen : (pairsM i s2).2.1.length = s2.1.length - 4 * i := by
      have hN := HNN.out
      by_cases hz : s2.2 = 0
      · exact (pairsM_ok hz i (by omega)).1
      · have := HBAD.out hz
        obtain rfl : i = 0 := by omega
        show s2.1.length = _; omega
    have hlx : ri.xs.length = s2.1.length - 4 * i := by rw [hxs, hlen]
    obtain ⟨s, hs⟩ : ∃ s, s = (pairsM i s2).2 := ⟨_, rfl⟩
    rw [← hs] at hrd hxs HBY
    have HS := Lib.hid hs
    have HRI := Lib.hid hra
    have HOW := Lib.hid hown
    have HU := Lib.hid hu
    have HR := Lib.hid hrd
    have HXS := Lib.hid hxs
    have HLF := Lib.hid (left_any hrd.cut)
    have pv : wr.cell? ⟨rv, 0, none⟩ = some (.pointer (some ⟨rp, 0, none⟩)) := hrd.bv.cell 0
    have pc : wr.cell? ⟨rp, 0, none⟩ = some (.pointer (some ⟨c, 0, none⟩)) := hrd.br.cell 0
    clear hs hra hown hu hrd hxs hlen
    go_wp2_with fail
    refine HLF.out.mono ?_
    rintro e w1 ⟨rfl, rfl⟩
    clear HLF
    by_cases hlt : i < N
    · have hge : (4 : Int) ≤ (ri.xs.length : Int) := by have hN := HNN.out; rw [hlx]; omega
      have HBQ0 := Lib.hid (after_byt 2 HBY.out)
      have HCk := Lib.hid (num_any HR.out.cut 2 (by decide) (by decide) (by rw [HXS.out]; exact HBY.out))
      rw [HXS.out] at HCk
      change Hid (Calls _ _ _ _ fun e w' => ∃ r', e = .returned (.int .u64 (numS s 2)) ∧ r'.xs = (after s 2).1 ∧ CutIs w' c lo r' (after s 2).2 ∧ (∀ a, r'.A = some a → ∃ a0, ri.A = some a0 ∧ a0.block = a.block) ∧ Upd [c] _ w') at HCk
      have hcv := numS_lt 2 HBY.out
      have hcv1 : IntKind.u16.wrap (numS s 2) = numS s 2 := IntWalk.u16_in _ (by have := hcv.2; have := hcv.1; omega)
      go_wp2_with fail
      refine HCk.out.mono ?_
      rintro e w2 ⟨q0, rfl, hx, hct, hkk, hku⟩
      have hrd := HR.out.took hct hkk hku
      have hri : ∀ a, q0.A = some a → a.block < w.heap.size := (fun a ha => by obtain ⟨a0, h0, e⟩ := hkk a ha; rw [← e]; exact HRI.out a0 h0)
      go_upto_region 4 with fail
      obtain ⟨W0, hW0⟩ : ∃ W0, W0 = w2.alloc (.cells #[.int .u16 (numS s 2), .int .u16 0] 68) := ⟨_, rfl⟩
      obtain ⟨X, hX⟩ : ∃ X, X = w2.heap.size := ⟨_, rfl⟩
      rw [← hW0, ← hX]
      have HX0 : Hid (Blk W0 X 68 #[.int .u16 (numS s 2), .int .u16 0]) := by rw [hW0, hX]; exact Lib.hid (Blk.new _ _ _)
      have HQ0 := Lib.hid (hrd.more (((Upd.refl [] _).alloc (.cells #[.int .u16 (numS s 2), .int .u16 0] 68))))
      rw [← hW0] at HQ0
      have HW0 : Hid (Upd [c] wr W0) := by rw [hW0]; exact Lib.hid (hku.alloc _)
      have HUQ0 : Hid (Upd [c, rp] w W0) := Lib.hid (HU.out.next (HW0.out.more (by simp)))
      have HXW : Hid (wr.heap.size ≤ X) := by rw [hX]; exact Lib.hid hku.size
      have HXN : Hid (w.heap.size ≤ X) := Lib.hid (Nat.le_trans HU.out.size HXW.out)
      have HXQ0 := Lib.hid hx
      have HRQ0 := Lib.hid hri
      clear hx hrd hku hri HCk hW0 hkk hX pv pc hct hcv hcv1
      have HBQ1 := Lib.hid (after_byt 2 HBQ0.out)
      have HCk := Lib.hid (num_any HQ0.out.cut 2 (by decide) (by decide) (by rw [HXQ0.out]; exact HBQ0.out))
      rw [HXQ0.out] at HCk
      change Hid (Calls _ _ _ _ fun e w' => ∃ r', e = .returned (.int .u64 (numS (after s 2) 2)) ∧ r'.xs = (after (after s 2) 2).1 ∧ CutIs w' c lo r' (after (after s 2) 2).2 ∧ (∀ a, r'.A = some a → ∃ a0, q0.A = some a0 ∧ a0.block = a.block) ∧ Upd [c] _ w') at HCk
      have hcv := numS_lt 2 HBQ0.out
      have hcv1 : IntKind.u16.wrap (numS (after s 2) 2) = numS (after s 2) 2 := IntWalk.u16_in _ (by have := hcv.2; have := hcv.1; omega)
      have pv : W0.cell? ⟨rv, 0, none⟩ = some (.pointer (some ⟨rp, 0, none⟩)) := HQ0.out.bv.cell 0
      have pc : W0.cell? ⟨rp, 0, none⟩ = some (.pointer (some ⟨c, 0, none⟩)) := HQ0.out.br.cell 0
      go_wp2_with fail
      refine HCk.out.mono ?_
      rintro e w3 ⟨q1, rfl, hx, hct, hkk, hku⟩
      have hrd := HQ0.out.took hct hkk hku
      have hri : ∀ a, q1.A = some a → a.block < w.heap.size := (fun a ha => by obtain ⟨a0, h0, e⟩ := hkk a ha; rw [← e]; exact HRQ0.out a0 h0)
      have hXq := HX0.out.upd hku (by rw [List.mem_singleton]; have := HXN.out; omega)
      have cx : w3.cell? ⟨X, 1, none⟩ = some (.int .u16 0) := hXq.cell 1
      have fx := hXq.frozen 1
      go_upto_region 5 with fail
      obtain ⟨W1, hW1⟩ : ∃ W1, W1 = w3.setCell ⟨X, 1, none⟩ (.int .u16 (numS (after s 2) 2)) := ⟨_, rfl⟩
      rw [← hW1]
      have HX1 : Hid (Blk W1 X 68 #[.int .u16 (numS s 2), .int .u16 (numS (after s 2) 2)]) := by rw [hW1]; exact Lib.hid (hXq.store 1 (.int .u16 (numS (after s 2) 2)))
      have HQ1 := Lib.hid (hrd.box (X := X) (k := 1) (N := w.heap.size) (.int .u16 (numS (after s 2) 2)) hrv hrp hc hri HXN.out)
      rw [← hW1] at HQ1
      have HW1 : Hid (Upd [c] wr W1) := by rw [hW1]; exact Lib.hid ((HW0.out.next hku).setCell (.inr HXW.out) _)
      have HUQ1 : Hid (Upd [c, rp] w W1) := by rw [hW1]; exact Lib.hid ((HUQ0.out.next (hku.more (by simp))).setCell (.inr HXN.out) _)
      have HXQ1 := Lib.hid hx
      have HRQ1 := Lib.hid hri
      clear hx hrd hku hri HCk hW1 hkk hXq cx fx pv pc hct hcv hcv1
      have p9 : W1.cell? ⟨rp, 11, none⟩ = some (.slice A i cap) := HQ1.out.cellAt 9 rfl
      have pv : W1.cell? ⟨rv, 0, none⟩ = some (.pointer (some ⟨rp, 0, none⟩)) := HQ1.out.bv.cell 0
      have pvd : W1.drew.cell? ⟨rv, 0, none⟩ = some (.pointer (some ⟨rp, 0, none⟩)) := pv
      have f9 := HQ1.out.br.frozen 11
      have HXd : Hid (Blk W1.drew X 68 #[.int .u16 (numS s 2), .int .u16 (numS (after s 2) 2)]) := Lib.hid (HX1.out.drewN 1)
      have HXa : Hid (Blk (W1.alloc (.cells #[.int .u16 (numS s 2), .int .u16 (numS (after s 2) 2)] 68)).drew X 68 #[.int .u16 (numS s 2), .int .u16 (numS (after s 2) 2)]) := Lib.hid ((HX1.out.alloc _).drewN 1)
      have hnc : ∀ t', t' ∈ [c] → (Value.slice A i cap).ownBlock ≠ some t' := by
        intro t' ht' e
        rw [List.mem_singleton] at ht'
        subst ht'
        obtain ⟨cur, hcur⟩ := row_type HOW.out t' e
        exact (hcur.ne HR.out.cut.bl (by decide)) rfl
      have HO6 := Lib.hid (ownsRow_upd HOW.out HW1.out hnc)
      have HVX : Hid (X ∉ (Value.slice A i cap).ownBlock.toList) := Lib.hid (by
        intro hm
        have := own_block_lt HOW.out (by simpa using hm)
        have := HXW.out
        omega)
      have hXrp : X ≠ rp := by have := HXN.out; omega
      have HOA : Hid ((W1.alloc (.cells #[.int .u16 (numS s 2), .int .u16 (numS (after s 2) 2)] 68)).drew.ownsRow w.heap.size 68 2 (.slice A i cap) i ((pairsM i s2).1.flatMap encPair)) := Lib.hid ((HO6.out.alloc _).drew)
      have HSZ : Hid (w.heap.size ≤ (W1.alloc (.cells #[.int .u16 (numS s 2), .int .u16 (numS (after s 2) 2)] 68)).drew.heap.size) := Lib.hid (((HUQ1.out.alloc (.cells #[.int .u16 (numS s 2), .int .u16 (numS (after s 2) 2)] 68)).drewN 1).size)
      obtain ⟨ys, hys⟩ : ∃ ys, ys = (pairsM i s2).1.flatMap encPair := ⟨_, rfl⟩
      rw [← hys] at HOA
      have HYS := Lib.hid hys
      have HNEW : Hid (Blk (W1.alloc (.cells #[.int .u16 (numS s 2), .int .u16 (numS (after s 2) 2)] 68)).drew W1.heap.size 68 #[.int .u16 (numS s 2), .int .u16 (numS (after s 2) 2)]) := Lib.hid ((Blk.new W1 68 #[.int .u16 (numS s 2), .int .u16 (numS (after s 2) 2)]).drewN 1)
      have HONE : Hid (∀ u ∈ ([.int .u16 (numS s 2), .int .u16 (numS (after s 2) 2)] : List Value), u.oneCell' = true) := Lib.hid (by intro u hu; repeat (first | (rcases List.mem_cons.1 hu with rfl | hu; · rfl) | cases hu))
      have p9a : (W1.alloc (.cells #[.int .u16 (numS s 2), .int .u16 (numS (after s 2) 2)] 68)).cell? ⟨rp, 11, none⟩ = some (.slice A i cap) := (((Upd.refl [] W1).alloc _).cell (p := ⟨rp, 11, none⟩) HQ1.out.br.lt (by simp)).trans p9
      have p9b : (W1.alloc (.cells #[.int .u16 (numS s 2), .int .u16 (numS (after s 2) 2)] 68)).drew.cell? ⟨rp, 11, none⟩ = some (.slice A i cap) := p9a
      have pva : (W1.alloc (.cells #[.int .u16 (numS s 2), .int .u16 (numS (after s 2) 2)] 68)).drew.cell? ⟨rv, 0, none⟩ = some (.pointer (some ⟨rp, 0, none⟩)) := (((Upd.refl [] W1).alloc _).cell (p := ⟨rv, 0, none⟩) HQ1.out.bv.lt (by simp)).trans pv
      clear hys hnc HOW HO6 HU
      obtain ⟨_, y0, y1⟩ := blk2 HX1.out pv
      go_region_law
        ((refine step_append_src _ (by rfl) (.tmp 39) (.tmp 41) 56 (by rfl) w.heap.size 68 j0 _ 2 4 Try.underlying56 hj0 hy0 hy1 hy2 rfl (by decide) (.slice A i cap) i ys (by rfl) HOA.out (some ⟨W1.heap.size, 0, none⟩) 1 1 [.int .u16 (numS s 2), .int .u16 (numS (after s 2) 2)] (by rfl) (fun e => by cases e) rfl (fun ad had => by cases had; exact blk_src HNEW.out) HONE.out (by unfold maxLen; omega) (by omega) HSZ.out ?_; intro v8 w8 hown8 hg8 hat8; have HX8 := Lib.hid (HXa.out.upd (Upd.of_grown hg8) HVX.out); have HRD8 := Lib.hid ((HQ1.out.more (((Upd.refl [] W1).alloc (.cells #[.int .u16 (numS s 2), .int .u16 (numS (after s 2) 2)] 68)).drewN 1)).upd (Upd.of_grown hg8) (fun hm => by obtain ⟨cur, hcur⟩ := row_type HOA.out rv (by simpa using hm); exact (hcur.ne ((HQ1.out.bv.alloc _).drewN 1) (by decide)) rfl) (fun hm => by obtain ⟨cur, hcur⟩ := row_type HOA.out rp (by simpa using hm); exact (hcur.ne ((HQ1.out.br.alloc _).drewN 1) (by decide)) rfl) (fun hm => by obtain ⟨cur, hcur⟩ := row_type HOA.out c (by simpa using hm); exact (hcur.ne ((HQ1.out.cut.bl.alloc _).drewN 1) (by decide)) rfl) (fun a ha hm => by have h1 := HRQ1.out a ha; have h2 := (own_block_lt HOA.out (by simpa using hm)).1; omega)); have p8 : w8.cell? ⟨rp, 11, none⟩ = some (.slice A i cap) := HRD8.out.cellAt 9 rfl; have pv8 : w8.cell? ⟨rv, 0, none⟩ = some (.pointer (some ⟨rp, 0, none⟩)) := HRD8.out.bv.cell 0; have f8 := HRD8.out.br.frozen 11; have HU8 := Lib.hid (app_upd ((HUQ1.out.alloc (.cells #[.int .u16 (numS s 2), .int .u16 (numS (after s 2) 2)] 68)).drewN 1) HOA.out hg8 (Nat.le_refl _)); obtain ⟨A8, c8, hv8, _⟩ := own_form hown8; subst hv8; have HO8 := Lib.hid hown8; clear hown8 hg8 hat8))
      all_goals
        go_wp2
        go_roundg (gk - 1)
        case measure => omega
        case rel =>
          have hput := HRD8.out.put 9 (.slice A8 (i + 1) c8)
          have hrs : pairsM (i + 1) s2 = ((pairsM i s2).1 ++ [pairS s], pairA s) := by rw [pairsM, ← HS.out]
          have hnr : (Value.slice A8 (i + 1) c8).ownBlock ≠ some rp := by
            intro e
            obtain ⟨cur, hcur⟩ := row_type HO8.out rp e
            exact (hcur.ne HRD8.out.br (by decide)) rfl
          have hst := ownsRow_setCell_other HO8.out (a := ⟨rp, 11, none⟩) hnr (.slice A8 (i + 1) c8)
          refine ⟨i + 1, q1, A8, c8, by omega, by omega, ?_, ?_, HRQ1.out, ?_, HU8.out.setCell (.inl (by simp)) _⟩
          · rw [hrs]; exact hput
          · rw [hrs]; exact HXQ1.out
          · rw [hrs, List.flatMap_append, ← HYS.out]; exact hst
    · obtain rfl : i = N := by omega
      have hge : ¬ (4 : Int) ≤ (ri.xs.length : Int) := by have hN := HNN.out; rw [hlx]; omega
      go_wp2
      refine bodyPost_end (v := .tuple #[]) (by simp [results, Try.results48, go_sem]) rfl ⟨ri, ⟨none, 0, none, 0, A, cap, none, 0⟩, rfl, ?_, ⟨CellsIn.nil _ _ _ _ _, CellsIn.nil _ _ _ _ _, by rw [HM.out]; dsimp only; rw [pairsM_len]; exact CellsIn.of_own HOW.out, CellsIn.nil _ _ _ _ _⟩, HU.out⟩
      have hrd := HR.out
      rw [HS.out] at hrd
      rw [HM.out]
      simp only [mcells, pairsM_len]
      exact hrd
set_option maxRecDepth 100000 in
set_option maxHeartbeats 4000000 in
theorem read6_any {w : World} {rv rp c lo : Nat} {n : Nat} {r : Rw} (h : RdIs w rv rp c lo n (zcells 5) r 0) (hb : Byt r.xs) (hl : r.xs.length ≤ 100000) (hra : ∀ a, r.A = some a → a.block < w.heap.size) :
    Calls Try.prog 50 #[.pointer (some ⟨rv, 0, none⟩)] w fun e w' => ∃ r' hd, e = .returned (.tuple #[]) ∧ RdIs w' rv rp c lo n (mcells (firM (r.xs, 0)).1 hd) r' (firM (r.xs, 0)).2.2 ∧ MgIn w' w.heap.size (firM (r.xs, 0)).1 hd ∧ Upd [c, rp] w w' := by
  obtain ⟨j0, hj0, hy0, hy1, hy2⟩ := info_parts infoAs
  have hrc : rv ≠ rp := h.bv.ne h.br (by decide)
  have hrc' : rp ≠ rv := hrc.symm
  have hrv := h.bv.lt
  have hrp := h.br.lt
  have hc := h.cut.bl.lt
  obtain ⟨s0, hs0⟩ : ∃ s : List Int × Int, s = (r.xs, 0) := ⟨_, rfl⟩
  rw [← hs0]
  obtain ⟨r0, hr0⟩ : ∃ q, q = r := ⟨_, rfl⟩
  have HXS0 : Hid (r0.xs = s0.1) := by rw [hs0, hr0]; exact Lib.hid rfl
  have HR0 : Hid (RdIs w rv rp c lo n (zcells 5) r0 s0.2) := by rw [hs0, hr0]; exact Lib.hid h
  have HB0 : Hid (Byt s0.1) := by rw [hs0]; exact Lib.hid hb
  have HRI0 : Hid (∀ a, r0.A = some a → a.block < w.heap.size) := by rw [hr0]; exact Lib.hid hra
  have HU0 : Hid (Upd [c, rp] w w) := Lib.hid (Upd.refl _ _)
  have HE0 : Hid (s0.2 = 0) := by rw [hs0]; exact Lib.hid rfl
  have HL0 : Hid (s0.1.length ≤ 100000) := by rw [hs0]; exact Lib.hid hl
  unfold zcells at HR0
  clear h hb hra hs0 hr0 hl
  go_enter Try.func50, Try.ntmps50
  have hb1 := after_byt 4 HB0.out
  have HC := Lib.hid (rnum_kept (HR0.out.more ((Upd.refl [] w).drewN 1)) (by rw [HXS0.out]; exact HB0.out))
  rw [HXS0.out] at HC
  change Hid (Calls _ _ _ _ fun e w' => ∃ r', e = .returned (.int .u32 (numS s0 4)) ∧ r'.xs = (after s0 4).1 ∧ RdIs w' rv rp c lo n _ r' (after s0 4).2 ∧ (∀ a, r'.A = some a → ∃ a0, r0.A = some a0 ∧ a0.block = a.block) ∧ Upd [c] _ w') at HC
  have v0 : w.cell? ⟨rv, 0, none⟩ = some (.pointer (some ⟨rp, 0, none⟩)) := HR0.out.bv.cell 0
  obtain ⟨x, hx⟩ : ∃ x, x = numS s0 4 := ⟨_, rfl⟩
  obtain ⟨s1, hs1⟩ : ∃ t, t = after s0 4 := ⟨_, rfl⟩
  rw [← hx, ← hs1] at HC
  rw [← hs1] at hb1
  have HX0 := Lib.hid hx
  have HS1 := Lib.hid hs1
  have HB1 := Lib.hid hb1
  clear hx hs1 hb1
  go_upto_region 0 with fail
  go_region_held3 (fun w' => w'.cell? ⟨rv, 0, none⟩ = some (.pointer (some ⟨rp, 0, none⟩))) (first | go_keep | exact va | exact v0 | simpa [hrc, hrc'] using va)
    ((go_at_call 43; refine HC.out.mono ?_; rintro e w1 ⟨r1, rfl, hx, hrd, hkk, hku⟩; have va : w1.cell? ⟨rv, 0, none⟩ = some (.pointer (some ⟨rp, 0, none⟩)) := hrd.bv.cell 0; have pa : w1.cell? ⟨rp, 3, none⟩ = some (.int .u32 0) := hrd.cellAt 1 rfl; have fa := hrd.br.frozen 3; have HH := Lib.hid (And.intro hx (And.intro (hrd.put 1 (.int .u32 x)) (And.intro hkk hku))); clear hx hrd hkk hku))
  obtain ⟨V1, hV1⟩ : ∃ V, V = w1.setCell ⟨rp, 3, none⟩ (.int .u32 x) := ⟨_, rfl⟩
  obtain ⟨hx, hrd, hkk, hku⟩ := HH.out
  have HU1 : Hid (Upd [c, rp] w V1) := by rw [hV1]; exact Lib.hid (((HU0.out.drewN 1).next (hku.more (by simp))).setCell (.inl (by simp)) _)
  rw [show (1 + 2 : Nat) = 3 from rfl, ← hV1] at hrd
  rw [← hV1]
  have HR1 := Lib.hid hrd
  have HXS1 := Lib.hid hx
  have HRI1 : Hid (∀ a, r1.A = some a → a.block < w.heap.size) := Lib.hid (fun a ha => by obtain ⟨a0, h0, e⟩ := hkk a ha; rw [← e]; exact HRI0.out a0 h0)
  clear hV1 HH HC hx hrd hkk hku va pa fa v0
  have hb2 := after_byt 4 HB1.out
  have HC := Lib.hid (rnum_kept (HR1.out.more ((Upd.refl [] V1).drewN 1)) (by rw [HXS1.out]; exact HB1.out))
  rw [HXS1.out] at HC
  change Hid (Calls _ _ _ _ fun e w' => ∃ r', e = .returned (.int .u32 (numS s1 4)) ∧ r'.xs = (after s1 4).1 ∧ RdIs w' rv rp c lo n _ r' (after s1 4).2 ∧ (∀ a, r'.A = some a → ∃ a0, r1.A = some a0 ∧ a0.block = a.block) ∧ Upd [c] _ w') at HC
  have v1 : V1.cell? ⟨rv, 0, none⟩ = some (.pointer (some ⟨rp, 0, none⟩)) := HR1.out.bv.cell 0
  obtain ⟨x, hx⟩ : ∃ x, x = numS s1 4 := ⟨_, rfl⟩
  obtain ⟨s2, hs2⟩ : ∃ t, t = after s1 4 := ⟨_, rfl⟩
  rw [← hx, ← hs2] at HC
  rw [← hs2] at hb2
  have HX1 := Lib.hid hx
  have HS2 := Lib.hid hs2
  have HB2 := Lib.hid hb2
  clear hx hs2 hb2
  go_upto_region 1 with fail
  go_region_held3 (fun w' => w'.cell? ⟨rv, 0, none⟩ = some (.pointer (some ⟨rp, 0, none⟩))) (first | go_keep | exact va | exact v1 | simpa [hrc, hrc'] using va)
    ((go_at_call 43; refine HC.out.mono ?_; rintro e w1 ⟨r2, rfl, hx, hrd, hkk, hku⟩; have va : w1.cell? ⟨rv, 0, none⟩ = some (.pointer (some ⟨rp, 0, none⟩)) := hrd.bv.cell 0; have pa : w1.cell? ⟨rp, 4, none⟩ = some (.int .u32 0) := hrd.cellAt 2 rfl; have fa := hrd.br.frozen 4; have HH := Lib.hid (And.intro hx (And.intro (hrd.put 2 (.int .u32 x)) (And.intro hkk hku))); clear hx hrd hkk hku))
  obtain ⟨V2, hV2⟩ : ∃ V, V = w1.setCell ⟨rp, 4, none⟩ (.int .u32 x) := ⟨_, rfl⟩
  obtain ⟨hx, hrd, hkk, hku⟩ := HH.out
  have HU2 : Hid (Upd [c, rp] w V2) := by rw [hV2]; exact Lib.hid (((HU1.out.drewN 1).next (hku.more (by simp))).setCell (.inl (by simp)) _)
  rw [show (2 + 2 : Nat) = 4 from rfl, ← hV2] at hrd
  rw [← hV2]
  have HR2 := Lib.hid hrd
  have HXS2 := Lib.hid hx
  have HRI2 : Hid (∀ a, r2.A = some a → a.block < w.heap.size) := Lib.hid (fun a ha => by obtain ⟨a0, h0, e⟩ := hkk a ha; rw [← e]; exact HRI1.out a0 h0)
  clear hV2 HH HC hx hrd hkk hku va pa fa v1
  obtain ⟨x0, hx0⟩ : ∃ x0, x0 = numS s0 4 := ⟨_, rfl⟩
  obtain ⟨x1, hx1⟩ : ∃ x1, x1 = numS s1 4 := ⟨_, rfl⟩
  have HRV : Hid (RdIs V2 rv rp c lo n [.int .i64 5, .int .u32 x0, .int .u32 x1, .int .u64 0, .int .u32 0, .int .u32 0, .int .u32 0, .slice none 0 0, .slice none 0 0, .slice none 0 0, .slice none 0 0, .int .u8 0] r2 s2.2) := by
    have hrd := HR2.out
    simp only [HX0.out, HX1.out] at hrd
    rw [hx0, hx1]
    exact Lib.hid hrd
  have HM : Hid (firM s0 = (⟨5, x0, x1, 0, 0, 0, 0, [], [], [], (asksM (s2.1.length / 8) s2).1, 0⟩, (asksM (s2.1.length / 8) s2).2)) := by
    rw [firM, ← HS1.out, ← HS2.out, hx0, hx1]; exact Lib.hid rfl
  have HBAD : Hid (s2.2 ≠ 0 → s2.1.length < 4) := by
    rw [HS2.out]
    refine Lib.hid (after_bad 4 ?_)
    rw [HS1.out]
    exact after_bad 4 (fun hh => absurd HE0.out hh)
  have HL2 : Hid (s2.1.length ≤ 100000) := by
    rw [HS2.out, HS1.out]
    have e : ∀ (s : List Int × Int), (after s 4).1.length ≤ s.1.length := fun s => by
      unfold after numM; (repeat' split) <;> simp
    exact Lib.hid (Nat.le_trans (e _) (Nat.le_trans (e _) HL0.out))
  clear HR2 HX0 HX1 hx0 hx1 HR1 HR0 HXS0 HXS1 HB0 HB1 HRI0 HRI1 HU0 HU1 HS1 HS2 HE0 HL0
  obtain ⟨N, hN⟩ : ∃ N, N = s2.1.length / 8 := ⟨_, rfl⟩
  rw [← hN] at HM
  have hNb : N ≤ 100000 := by have := HL2.out; omega
  have HNN := Lib.hid hN
  clear hN
  go_wp2
  go_loopg [1] N (fun gk x1' wr => ∃ (i : Nat) (ri : Rw) (A : Option Addr) (cap : Nat), i ≤ N ∧ N ≤ i + gk ∧ RdIs wr rv rp c lo n [.int .i64 5, .int .u32 x0, .int .u32 x1, .int .u64 0, .int .u32 0, .int .u32 0, .int .u32 0, .slice none 0 0, .slice none 0 0, .slice none 0 0, .slice A i cap, .int .u8 0] ri (asksM i s2).2.2 ∧ ri.xs = (asksM i s2).2.1 ∧
      (∀ a, ri.A = some a → a.block < w.heap.size) ∧ wr.ownsRow w.heap.size 91 2 (.slice A i cap) i ((asksM i s2).1.flatMap encAsk) ∧ Upd [c, rp] w wr)
  case atStart => exact ⟨0, r2, none, 0, Nat.zero_le _, by omega, HRV.out, HXS2.out, HRI2.out, World.ownsRow_nil _ _ _ _, HU2.out⟩
  case round =>
    obtain ⟨i, ri, A, cap, hi, hgi, hrd, hxs, hra, hown, hu⟩ := hrel
    have HBY := Lib.hid (asksM_byt HB2.out i)
    have hlen : (asksM i s2).2.1.length = s2.1.length - 8 * i := by
      have hN := HNN.out
      by_cases hz : s2.2 = 0
      · exact (asksM_ok hz i (by omega)).1
      · have := HBAD.out hz
        obtain rfl : i = 0 := by omega
        show s2.1.length = _; omega
    have hlx : ri.xs.length = s2.1.length - 8 * i := by rw [hxs, hlen]
    obtain ⟨s, hs⟩ : ∃ s, s = (asksM i s2).2 := ⟨_, rfl⟩
    rw [← hs] at hrd hxs HBY
    have HS := Lib.hid hs
    have HRI := Lib.hid hra
    have HOW := Lib.hid hown
    have HU := Lib.hid hu
    have HR := Lib.hid hrd
    have HXS := Lib.hid hxs
    have HLF := Lib.hid (left_any hrd.cut)
    have pv : wr.cell? ⟨rv, 0, none⟩ = some (.pointer (some ⟨rp, 0, none⟩)) := hrd.bv.cell 0
    have pc : wr.cell? ⟨rp, 0, none⟩ = some (.pointer (some ⟨c, 0, none⟩)) := hrd.br.cell 0
    clear hs hra hown hu hrd hxs hlen
    go_wp2_with fail
    refine HLF.out.mono ?_
    rintro e w1 ⟨rfl, rfl⟩
    clear HLF
    by_cases hlt : i < N
    · have hge : (8 : Int) ≤ (ri.xs.length : Int) := by have hN := HNN.out; rw [hlx]; omega
      have HBQ0 := Lib.hid (after_byt 4 HBY.out)
      have HCk := Lib.hid (rnum_kept HR.out (by rw [HXS.out]; exact HBY.out))
      rw [HXS.out] at HCk
      change Hid (Calls _ _ _ _ fun e w' => ∃ r', e = .returned (.int .u32 (numS s 4)) ∧ r'.xs = (after s 4).1 ∧ RdIs w' rv rp c lo n _ r' (after s 4).2 ∧ (∀ a, r'.A = some a → ∃ a0, ri.A = some a0 ∧ a0.block = a.block) ∧ Upd [c] _ w') at HCk
      go_wp2_with fail
      refine HCk.out.mono ?_
      rintro e w2 ⟨q0, rfl, hx, hrd, hkk, hku⟩
      have hri : ∀ a, q0.A = some a → a.block < w.heap.size := (fun a ha => by obtain ⟨a0, h0, e⟩ := hkk a ha; rw [← e]; exact HRI.out a0 h0)
      go_upto_region 4 with fail
      obtain ⟨W0, hW0⟩ : ∃ W0, W0 = w2.alloc (.cells #[.int .u32 (numS s 4), .int .u8 0] 91) := ⟨_, rfl⟩
      obtain ⟨X, hX⟩ : ∃ X, X = w2.heap.size := ⟨_, rfl⟩
      rw [← hW0, ← hX]
      have HX0 : Hid (Blk W0 X 91 #[.int .u32 (numS s 4), .int .u8 0]) := by rw [hW0, hX]; exact Lib.hid (Blk.new _ _ _)
      have HQ0 := Lib.hid (hrd.more (((Upd.refl [] _).alloc (.cells #[.int .u32 (numS s 4), .int .u8 0] 91))))
      rw [← hW0] at HQ0
      have HW0 : Hid (Upd [c] wr W0) := by rw [hW0]; exact Lib.hid (hku.alloc _)
      have HUQ0 : Hid (Upd [c, rp] w W0) := Lib.hid (HU.out.next (HW0.out.more (by simp)))
      have HXW : Hid (wr.heap.size ≤ X) := by rw [hX]; exact Lib.hid hku.size
      have HXN : Hid (w.heap.size ≤ X) := Lib.hid (Nat.le_trans HU.out.size HXW.out)
      have HXQ0 := Lib.hid hx
      have HRQ0 := Lib.hid hri
      clear hx hrd hku hri HCk hW0 hkk hX pv pc
      have HBQ1 := Lib.hid (after_byt 1 HBQ0.out)
      have HCk := Lib.hid (num_any HQ0.out.cut 1 (by decide) (by decide) (by rw [HXQ0.out]; exact HBQ0.out))
      rw [HXQ0.out] at HCk
      change Hid (Calls _ _ _ _ fun e w' => ∃ r', e = .returned (.int .u64 (numS (after s 4) 1)) ∧ r'.xs = (after (after s 4) 1).1 ∧ CutIs w' c lo r' (after (after s 4) 1).2 ∧ (∀ a, r'.A = some a → ∃ a0, q0.A = some a0 ∧ a0.block = a.block) ∧ Upd [c] _ w') at HCk
      have hcv := numS_lt 1 HBQ0.out
      have hcv1 : IntKind.u8.wrap (numS (after s 4) 1) = numS (after s 4) 1 := IntWalk.u8_in _ (by have := hcv.2; have := hcv.1; omega)
      have pv : W0.cell? ⟨rv, 0, none⟩ = some (.pointer (some ⟨rp, 0, none⟩)) := HQ0.out.bv.cell 0
      have pc : W0.cell? ⟨rp, 0, none⟩ = some (.pointer (some ⟨c, 0, none⟩)) := HQ0.out.br.cell 0
      go_wp2_with fail
      refine HCk.out.mono ?_
      rintro e w3 ⟨q1, rfl, hx, hct, hkk, hku⟩
      have hrd := HQ0.out.took hct hkk hku
      have hri : ∀ a, q1.A = some a → a.block < w.heap.size := (fun a ha => by obtain ⟨a0, h0, e⟩ := hkk a ha; rw [← e]; exact HRQ0.out a0 h0)
      have hXq := HX0.out.upd hku (by rw [List.mem_singleton]; have := HXN.out; omega)
      have cx : w3.cell? ⟨X, 1, none⟩ = some (.int .u8 0) := hXq.cell 1
      have fx := hXq.frozen 1
      go_upto_region 5 with fail
      obtain ⟨W1, hW1⟩ : ∃ W1, W1 = w3.setCell ⟨X, 1, none⟩ (.int .u8 (numS (after s 4) 1)) := ⟨_, rfl⟩
      rw [← hW1]
      have HX1 : Hid (Blk W1 X 91 #[.int .u32 (numS s 4), .int .u8 (numS (after s 4) 1)]) := by rw [hW1]; exact Lib.hid (hXq.store 1 (.int .u8 (numS (after s 4) 1)))
      have HQ1 := Lib.hid (hrd.box (X := X) (k := 1) (N := w.heap.size) (.int .u8 (numS (after s 4) 1)) hrv hrp hc hri HXN.out)
      rw [← hW1] at HQ1
      have HW1 : Hid (Upd [c] wr W1) := by rw [hW1]; exact Lib.hid ((HW0.out.next hku).setCell (.inr HXW.out) _)
      have HUQ1 : Hid (Upd [c, rp] w W1) := by rw [hW1]; exact Lib.hid ((HUQ0.out.next (hku.more (by simp))).setCell (.inr HXN.out) _)
      have HXQ1 := Lib.hid hx
      have HRQ1 := Lib.hid hri
      clear hx hrd hku hri HCk hW1 hkk hXq cx fx pv pc hct hcv hcv1
      have HBQ2 := Lib.hid (after_byt 3 HBQ1.out)
      have HCk := Lib.hid (num_any HQ1.out.cut 3 (by decide) (by decide) (by rw [HXQ1.out]; exact HBQ1.out))
      rw [HXQ1.out] at HCk
      change Hid (Calls _ _ _ _ fun e w' => ∃ r', e = .returned (.int .u64 (numS (after (after s 4) 1) 3)) ∧ r'.xs = (after (after (after s 4) 1) 3).1 ∧ CutIs w' c lo r' (after (after (after s 4) 1) 3).2 ∧ (∀ a, r'.A = some a → ∃ a0, q1.A = some a0 ∧ a0.block = a.block) ∧ Upd [c] _ w') at HCk
      have pv : W1.cell? ⟨rv, 0, none⟩ = some (.pointer (some ⟨rp, 0, none⟩)) := HQ1.out.bv.cell 0
      have pc : W1.cell? ⟨rp, 0, none⟩ = some (.pointer (some ⟨c, 0, none⟩)) := HQ1.out.br.cell 0
      go_wp2_with fail
      refine HCk.out.mono ?_
      rintro e w4 ⟨q2, rfl, hx, hct, hkk, hku⟩
      have hrd := HQ1.out.took hct hkk hku
      have hri : ∀ a, q2.A = some a → a.block < w.heap.size := (fun a ha => by obtain ⟨a0, h0, e⟩ := hkk a ha; rw [← e]; exact HRQ1.out a0 h0)
      have hXq := HX1.out.upd hku (by rw [List.mem_singleton]; have := HXN.out; omega)
      go_upto_region 6 with fail
      obtain ⟨W2, hW2⟩ : ∃ W2, W2 = w4 := ⟨_, rfl⟩
      rw [← hW2]
      have HX2 : Hid (Blk W2 X 91 #[.int .u32 (numS s 4), .int .u8 (numS (after s 4) 1)]) := by rw [hW2]; exact Lib.hid hXq
      have HQ2 := Lib.hid hrd
      rw [← hW2] at HQ2
      have HW2 : Hid (Upd [c] wr W2) := by rw [hW2]; exact Lib.hid (HW1.out.next hku)
      have HUQ2 : Hid (Upd [c, rp] w W2) := by rw [hW2]; exact Lib.hid (HUQ1.out.next (hku.more (by simp)))
      have HXQ2 := Lib.hid hx
      have HRQ2 := Lib.hid hri
      clear hx hrd hku hri HCk hW2 hkk hXq pv pc hct
      have p9 : W2.cell? ⟨rp, 12, none⟩ = some (.slice A i cap) := HQ2.out.cellAt 10 rfl
      have pv : W2.cell? ⟨rv, 0, none⟩ = some (.pointer (some ⟨rp, 0, none⟩)) := HQ2.out.bv.cell 0
      have pvd : W2.drew.cell? ⟨rv, 0, none⟩ = some (.pointer (some ⟨rp, 0, none⟩)) := pv
      have f9 := HQ2.out.br.frozen 12
      have HXd : Hid (Blk W2.drew X 91 #[.int .u32 (numS s 4), .int .u8 (numS (after s 4) 1)]) := Lib.hid (HX2.out.drewN 1)
      have HXa : Hid (Blk (W2.alloc (.cells #[.int .u32 (numS s 4), .int .u8 (numS (after s 4) 1)] 91)).drew X 91 #[.int .u32 (numS s 4), .int .u8 (numS (after s 4) 1)]) := Lib.hid ((HX2.out.alloc _).drewN 1)
      have hnc : ∀ t', t' ∈ [c] → (Value.slice A i cap).ownBlock ≠ some t' := by
        intro t' ht' e
        rw [List.mem_singleton] at ht'
        subst ht'
        obtain ⟨cur, hcur⟩ := row_type HOW.out t' e
        exact (hcur.ne HR.out.cut.bl (by decide)) rfl
      have HO6 := Lib.hid (ownsRow_upd HOW.out HW2.out hnc)
      have HVX : Hid (X ∉ (Value.slice A i cap).ownBlock.toList) := Lib.hid (by
        intro hm
        have := own_block_lt HOW.out (by simpa using hm)
        have := HXW.out
        omega)
      have hXrp : X ≠ rp := by have := HXN.out; omega
      have HOA : Hid ((W2.alloc (.cells #[.int .u32 (numS s 4), .int .u8 (numS (after s 4) 1)] 91)).drew.ownsRow w.heap.size 91 2 (.slice A i cap) i ((asksM i s2).1.flatMap encAsk)) := Lib.hid ((HO6.out.alloc _).drew)
      have HSZ : Hid (w.heap.size ≤ (W2.alloc (.cells #[.int .u32 (numS s 4), .int .u8 (numS (after s 4) 1)] 91)).drew.heap.size) := Lib.hid (((HUQ2.out.alloc (.cells #[.int .u32 (numS s 4), .int .u8 (numS (after s 4) 1)] 91)).drewN 1).size)
      obtain ⟨ys, hys⟩ : ∃ ys, ys = (asksM i s2).1.flatMap encAsk := ⟨_, rfl⟩
      rw [← hys] at HOA
      have HYS := Lib.hid hys
      have HNEW : Hid (Blk (W2.alloc (.cells #[.int .u32 (numS s 4), .int .u8 (numS (after s 4) 1)] 91)).drew W2.heap.size 91 #[.int .u32 (numS s 4), .int .u8 (numS (after s 4) 1)]) := Lib.hid ((Blk.new W2 91 #[.int .u32 (numS s 4), .int .u8 (numS (after s 4) 1)]).drewN 1)
      have HONE : Hid (∀ u ∈ ([.int .u32 (numS s 4), .int .u8 (numS (after s 4) 1)] : List Value), u.oneCell' = true) := Lib.hid (by intro u hu; repeat (first | (rcases List.mem_cons.1 hu with rfl | hu; · rfl) | cases hu))
      have p9a : (W2.alloc (.cells #[.int .u32 (numS s 4), .int .u8 (numS (after s 4) 1)] 91)).cell? ⟨rp, 12, none⟩ = some (.slice A i cap) := (((Upd.refl [] W2).alloc _).cell (p := ⟨rp, 12, none⟩) HQ2.out.br.lt (by simp)).trans p9
      have p9b : (W2.alloc (.cells #[.int .u32 (numS s 4), .int .u8 (numS (after s 4) 1)] 91)).drew.cell? ⟨rp, 12, none⟩ = some (.slice A i cap) := p9a
      have pva : (W2.alloc (.cells #[.int .u32 (numS s 4), .int .u8 (numS (after s 4) 1)] 91)).drew.cell? ⟨rv, 0, none⟩ = some (.pointer (some ⟨rp, 0, none⟩)) := (((Upd.refl [] W2).alloc _).cell (p := ⟨rv, 0, none⟩) HQ2.out.bv.lt (by simp)).trans pv
      clear hys hnc HOW HO6 HU
      obtain ⟨_, y0, y1⟩ := blk2 HX2.out pv
      go_region_law
        ((refine step_append_src _ (by rfl) (.tmp 40) (.tmp 42) 57 (by rfl) w.heap.size 91 j0 _ 2 8 Try.underlying57 hj0 hy0 hy1 hy2 rfl (by decide) (.slice A i cap) i ys (by rfl) HOA.out (some ⟨W2.heap.size, 0, none⟩) 1 1 [.int .u32 (numS s 4), .int .u8 (numS (after s 4) 1)] (by rfl) (fun e => by cases e) rfl (fun ad had => by cases had; exact blk_src HNEW.out) HONE.out (by unfold maxLen; omega) (by omega) HSZ.out ?_; intro v8 w8 hown8 hg8 hat8; have HX8 := Lib.hid (HXa.out.upd (Upd.of_grown hg8) HVX.out); have HRD8 := Lib.hid ((HQ2.out.more (((Upd.refl [] W2).alloc (.cells #[.int .u32 (numS s 4), .int .u8 (numS (after s 4) 1)] 91)).drewN 1)).upd (Upd.of_grown hg8) (fun hm => by obtain ⟨cur, hcur⟩ := row_type HOA.out rv (by simpa using hm); exact (hcur.ne ((HQ2.out.bv.alloc _).drewN 1) (by decide)) rfl) (fun hm => by obtain ⟨cur, hcur⟩ := row_type HOA.out rp (by simpa using hm); exact (hcur.ne ((HQ2.out.br.alloc _).drewN 1) (by decide)) rfl) (fun hm => by obtain ⟨cur, hcur⟩ := row_type HOA.out c (by simpa using hm); exact (hcur.ne ((HQ2.out.cut.bl.alloc _).drewN 1) (by decide)) rfl) (fun a ha hm => by have h1 := HRQ2.out a ha; have h2 := (own_block_lt HOA.out (by simpa using hm)).1; omega)); have p8 : w8.cell? ⟨rp, 12, none⟩ = some (.slice A i cap) := HRD8.out.cellAt 10 rfl; have pv8 : w8.cell? ⟨rv, 0, none⟩ = some (.pointer (some ⟨rp, 0, none⟩)) := HRD8.out.bv.cell 0; have f8 := HRD8.out.br.frozen 12; have HU8 := Lib.hid (app_upd ((HUQ2.out.alloc (.cells #[.int .u32 (numS s 4), .int .u8 (numS (after s 4) 1)] 91)).drewN 1) HOA.out hg8 (Nat.le_refl _)); obtain ⟨A8, c8, hv8, _⟩ := own_form hown8; subst hv8; have HO8 := Lib.hid hown8; clear hown8 hg8 hat8))
      all_goals
        go_wp2
        go_roundg (gk - 1)
        case measure => omega
        case rel =>
          have hput := HRD8.out.put 10 (.slice A8 (i + 1) c8)
          have hrs : asksM (i + 1) s2 = ((asksM i s2).1 ++ [askS s], askA s) := by rw [asksM, ← HS.out]
          have hnr : (Value.slice A8 (i + 1) c8).ownBlock ≠ some rp := by
            intro e
            obtain ⟨cur, hcur⟩ := row_type HO8.out rp e
            exact (hcur.ne HRD8.out.br (by decide)) rfl
          have hst := ownsRow_setCell_other HO8.out (a := ⟨rp, 12, none⟩) hnr (.slice A8 (i + 1) c8)
          refine ⟨i + 1, q2, A8, c8, by omega, by omega, ?_, ?_, HRQ2.out, ?_, HU8.out.setCell (.inl (by simp)) _⟩
          · rw [hrs]; exact hput
          · rw [hrs]; exact HXQ2.out
          · rw [hrs, List.flatMap_append, ← HYS.out]; exact hst
    · obtain rfl : i = N := by omega
      have hge : ¬ (8 : Int) ≤ (ri.xs.length : Int) := by have hN := HNN.out; rw [hlx]; omega
      go_wp2
      refine bodyPost_end (v := .tuple #[]) (by simp [results, Try.results50, go_sem]) rfl ⟨ri, ⟨none, 0, none, 0, none, 0, A, cap⟩, rfl, ?_, ⟨CellsIn.nil _ _ _ _ _, CellsIn.nil _ _ _ _ _, CellsIn.nil _ _ _ _ _, by rw [HM.out]; dsimp only; rw [asksM_len]; exact CellsIn.of_own HOW.out⟩, HU.out⟩
      have hrd := HR.out
      rw [HS.out] at hrd
      rw [HM.out]
      simp only [mcells, asksM_len]
      exact hrd
end Go.Proofs.Ytgkejdjdccgjbaa
/- rtcp's reader: the closure of Bye. Conditions: bytes. -/
namespace Go.Proofs.Ytgkejdjdccgjbaa
open Go Go.RowKit
set_option maxHeartbeats 400000

def whoM : Nat → List Int × Int → List Int × (List Int × Int)
  | 0, s => ([], s)
  | n + 1, s => ((whoM n s).1 ++ [numS (whoM n s).2 4], after (whoM n s).2 4)
theorem whoM_byt {s : List Int × Int} (h : Byt s.1) : ∀ n, Byt (whoM n s).2.1
  | 0 => h
  | n + 1 => after_byt _ (whoM_byt h n)
theorem whoM_len (s : List Int × Int) : ∀ n, (whoM n s).1.length = n
  | 0 => rfl
  | n + 1 => by rw [whoM, List.length_append, whoM_len s n]; rfl
def byeM (n : Nat) (s : List Int × Int) : Mg × (List Int × Int) := (⟨2, 0, 0, 0, 0, 0, 0, [], (whoM n s).1, [], [], 0⟩, (whoM n s).2)
theorem infoU : (Try.prog.info? 43).map (fun i => (i.zero, i.size, i.bytes)) = some (some (.int .u32 0), 1, 4) := by kernel_rfl
set_option maxRecDepth 100000 in
set_option maxHeartbeats 4000000 in
theorem read3_any {w : World} {rv rp c lo : Nat} {n : Nat} {r : Rw} {er : Int} (h : RdIs w rv rp c lo n (zcells 2) r er) (hb : Byt r.xs) (hn : n ≤ 31) (hra : ∀ a, r.A = some a → a.block < w.heap.size) :
    Calls Try.prog 47 #[.pointer (some ⟨rv, 0, none⟩)] w fun e w' => ∃ r' hd, e = .returned (.tuple #[]) ∧ RdIs w' rv rp c lo n (mcells (byeM n (r.xs, er)).1 hd) r' (byeM n (r.xs, er)).2.2 ∧ MgIn w' w.heap.size (byeM n (r.xs, er)).1 hd ∧ Upd [c, rp] w w' := by
  obtain ⟨j0, hj0, hy0, hy1, hy2⟩ := info_parts infoU
  have hrc : rv ≠ rp := h.bv.ne h.br (by decide)
  have hrc' : rp ≠ rv := hrc.symm
  have v0 : w.cell? ⟨rv, 0, none⟩ = some (.pointer (some ⟨rp, 0, none⟩)) := h.bv.cell 0
  have n0 : w.cell? ⟨rp, 1, none⟩ = some (.int .i64 n) := h.br.cell 1
  have H := Lib.hid h
  have HB := Lib.hid hb
  have HRA := Lib.hid hra
  unfold zcells at H
  clear h hb hra
  go_enter Try.func47, Try.ntmps47
  go_wp2
  go_loopg [5] n (fun gk x5 wr => ∃ (i : Nat) (ri : Rw) (A : Option Addr) (cap : Nat), i ≤ n ∧ n ≤ i + gk ∧ x5 = .int .i64 i ∧ RdIs wr rv rp c lo n [.int .i64 2, .int .u32 0, .int .u32 0, .int .u64 0, .int .u32 0, .int .u32 0, .int .u32 0, .slice none 0 0, .slice A i cap, .slice none 0 0, .slice none 0 0, .int .u8 0] ri (whoM i (r.xs, er)).2.2 ∧ ri.xs = (whoM i (r.xs, er)).2.1 ∧
      (∀ a, ri.A = some a → a.block < w.heap.size) ∧ wr.ownsRow w.heap.size 43 1 (.slice A i cap) i ((whoM i (r.xs, er)).1.map (Value.int .u32)) ∧ Upd [c, rp] w wr)
  case atStart => exact ⟨0, r, none, 0, Nat.zero_le _, by omega, rfl, H.out, rfl, HRA.out, World.ownsRow_nil _ _ _ _, Upd.refl _ _⟩
  case round =>
    obtain ⟨i, ri, A, cap, hi, hgi, rfl, hrd, hxs, hra, hown, hu⟩ := hrel
    have HBY := Lib.hid (whoM_byt (s := (r.xs, er)) HB.out i)
    obtain ⟨s, hs⟩ : ∃ s, s = (whoM i (r.xs, er)).2 := ⟨_, rfl⟩
    rw [← hs] at hrd hxs HBY
    have HS := Lib.hid hs
    have HRI := Lib.hid hra
    have HOW := Lib.hid hown
    have HU := Lib.hid hu
    have HR := Lib.hid hrd
    have HXS := Lib.hid hxs
    clear hs hra hown hu hrd hxs v0 n0
    by_cases hlt : i < n
    · have hlti : (i : Int) < (n : Int) := by omega
      have hw : IntKind.i64.wrap ((i : Int) + 1) = (i : Int) + 1 := IntWalk.i64_in _ (by omega)
      have HC := Lib.hid (rnum_kept (HR.out.more ((Upd.refl [] wr).drewN 1)) (by rw [HXS.out]; exact HBY.out))
      rw [HXS.out] at HC
      change Hid (Calls _ _ _ _ fun e w' => ∃ r', e = .returned (.int .u32 (numS s 4)) ∧ r'.xs = (after s 4).1 ∧ RdIs w' rv rp c lo n _ r' (after s 4).2 ∧ (∀ a, r'.A = some a → ∃ a0, ri.A = some a0 ∧ a0.block = a.block) ∧ Upd [c] _ w') at HC
      obtain ⟨x, hx⟩ : ∃ x, x = numS s 4 := ⟨_, rfl⟩
      rw [← hx] at HC
      have HX := Lib.hid hx
      clear hx
      have pv : wr.cell? ⟨rv, 0, none⟩ = some (.pointer (some ⟨rp, 0, none⟩)) := HR.out.bv.cell 0
      have pvd : wr.drew.cell? ⟨rv, 0, none⟩ = some (.pointer (some ⟨rp, 0, none⟩)) := pv
      have pr : wr.cell? ⟨rp, 10, none⟩ = some (.slice A i cap) := HR.out.cellAt 8 rfl
      have prd : wr.drew.cell? ⟨rp, 10, none⟩ = some (.slice A i cap) := pr
      have hnc : ∀ t', t' ∈ [c] → (Value.slice A i cap).ownBlock ≠ some t' := by
        intro t' ht' e
        rw [List.mem_singleton] at ht'
        subst ht'
        obtain ⟨cur, hcur⟩ := row_type HOW.out t' e
        exact (hcur.ne HR.out.cut.bl (by decide)) rfl
      have HNC := Lib.hid hnc
      obtain ⟨ys, hys⟩ : ∃ ys, ys = (whoM i (r.xs, er)).1.map (Value.int .u32) := ⟨_, rfl⟩
      rw [← hys] at HOW
      have HYS := Lib.hid hys
      have HONE : Hid (∀ u ∈ ([.int .u32 x] : List Value), u.oneCell' = true) := Lib.hid (by intro u hu; repeat (first | (rcases List.mem_cons.1 hu with rfl | hu; · rfl) | cases hu))
      have hi31 : i ≤ 31 := by omega
      clear hys hnc
      go_upto_region 2 with fail
      go_region_law
        (first
          | (refine step_append_src _ (by rfl) (.tmp 12) (.tmp 15) 46 (by rfl) w.heap.size 43 j0 _ 1 4 Try.underlying46 hj0 hy0 hy1 hy2 rfl (by decide) (.slice A i cap) i ys (by rfl) HOA.out (some ⟨w1.heap.size, 0, none⟩) 1 1 [.int .u32 x] (by rfl) (fun e => by cases e) rfl (fun ad had => by cases had; exact blk_src HNEW.out) HONE.out (by unfold maxLen; omega) (by omega) HSZ.out ?_; intro v8 w8 hown8 hg8 hat8; have HRD8 := Lib.hid ((HA1.out.1.more ((Upd.refl [] w1).alloc (.cells #[.int .u32 x] 43))).upd (Upd.of_grown hg8) (fun hm => by obtain ⟨cur, hcur⟩ := row_type HOA.out rv (by simpa using hm); exact (hcur.ne (HA1.out.1.bv.alloc _) (by decide)) rfl) (fun hm => by obtain ⟨cur, hcur⟩ := row_type HOA.out rp (by simpa using hm); exact (hcur.ne (HA1.out.1.br.alloc _) (by decide)) rfl) (fun hm => by obtain ⟨cur, hcur⟩ := row_type HOA.out c (by simpa using hm); exact (hcur.ne (HA1.out.1.cut.bl.alloc _) (by decide)) rfl) (fun a ha hm => by have h1 := HRI1.out a ha; have h2 := (own_block_lt HOA.out (by simpa using hm)).1; omega)); have p8 : w8.cell? ⟨rp, 10, none⟩ = some (.slice A i cap) := HRD8.out.cellAt 8 rfl; have pv8 : w8.cell? ⟨rv, 0, none⟩ = some (.pointer (some ⟨rp, 0, none⟩)) := HRD8.out.bv.cell 0; have f8 := HRD8.out.br.frozen 10; have HU8 := Lib.hid (app_upd (HU1.out.alloc (.cells #[.int .u32 x] 43)) HOA.out hg8 (Nat.le_refl _)); obtain ⟨A8, c8, hv8, _⟩ := own_form hown8; subst hv8; have HO8 := Lib.hid hown8; have HA8 := Lib.hid True.intro; clear hown8 hg8 hat8)
          | (go_simp; go_at_call 43; refine HC.out.mono ?_; rintro e w1 ⟨r1, rfl, hx, hrd, hkk, hku⟩; have va : w1.cell? ⟨rv, 0, none⟩ = some (.pointer (some ⟨rp, 0, none⟩)) := hrd.bv.cell 0; have vaa : (w1.alloc (.cells #[.int .u32 x] 43)).cell? ⟨rv, 0, none⟩ = some (.pointer (some ⟨rp, 0, none⟩)) := (((Upd.refl [] w1).alloc _).cell (p := ⟨rv, 0, none⟩) hrd.bv.lt (by simp)).trans va; have pw : w1.cell? ⟨rp, 10, none⟩ = some (.slice A i cap) := hrd.cellAt 8 rfl; have pwa : (w1.alloc (.cells #[.int .u32 x] 43)).cell? ⟨rp, 10, none⟩ = some (.slice A i cap) := (((Upd.refl [] w1).alloc _).cell (p := ⟨rp, 10, none⟩) hrd.br.lt (by simp)).trans pw; have HU1 := Lib.hid ((HU.out.drewN 1).next (hku.more (by simp))); have HOA := Lib.hid ((ownsRow_upd HOW.out (((Upd.refl [c] wr).drewN 1).next hku) HNC.out).alloc (.cells #[.int .u32 x] 43)); have HSZ := Lib.hid (HU1.out.alloc (.cells #[.int .u32 x] 43)).size; have HNEW := Lib.hid (Blk.new w1 43 #[.int .u32 x]); have HRI1 : Hid (∀ a, r1.A = some a → a.block < w.heap.size) := Lib.hid (fun a ha => by obtain ⟨a0, h0, e⟩ := hkk a ha; rw [← e]; exact HRI.out a0 h0); have HA1 := Lib.hid (And.intro hrd hx); clear hx hrd hkk hku))
      all_goals
        go_wp2
        go_roundg (gk - 1)
        case measure => omega
        case rel =>
          have hput := HRD8.out.put 8 (.slice A8 (i + 1) c8)
          have hrs : whoM (i + 1) (r.xs, er) = ((whoM i (r.xs, er)).1 ++ [numS s 4], after s 4) := by rw [whoM, ← HS.out]
          have hnr : (Value.slice A8 (i + 1) c8).ownBlock ≠ some rp := by
            intro e
            obtain ⟨cur, hcur⟩ := row_type HO8.out rp e
            exact (hcur.ne HRD8.out.br (by decide)) rfl
          have hst := ownsRow_setCell_other HO8.out (a := ⟨rp, 10, none⟩) hnr (.slice A8 (i + 1) c8)
          refine ⟨i + 1, r1, A8, c8, by omega, by omega, by go_num, ?_, ?_, HRI1.out, ?_, HU8.out.setCell (.inl (by simp)) _⟩
          · rw [hrs]; exact hput
          · rw [hrs]; exact HA1.out.2
          · rw [hrs, List.map_append, ← HYS.out, List.map_cons, List.map_nil, ← HX.out]; exact hst
    · obtain rfl : i = n := by omega
      go_wp2
      refine bodyPost_end (v := .tuple #[]) (by simp [results, Try.results47, go_sem]) rfl ⟨ri, ⟨none, 0, A, cap, none, 0, none, 0⟩, rfl, ?_, ⟨CellsIn.nil _ _ _ _ _, ?_, CellsIn.nil _ _ _ _ _, CellsIn.nil _ _ _ _ _⟩, HU.out⟩
      · have hrd := HR.out
        rw [HS.out] at hrd
        simp only [byeM, mcells, whoM_len]
        exact hrd
      · simp only [byeM, whoM_len]
        exact CellsIn.of_own HOW.out
end Go.Proofs.Ytgkejdjdccgjbaa
/- rtcp's read, whatever the kind but others: by the kind's closure. Conditions: bytes, no more than 100000. (Written by wip/gen/rtcpreadg.py.) -/
namespace Go.Proofs.Ytgkejdjdccgjbaa
open Go Go.RowKit
set_option maxHeartbeats 400000

def mZ : Mg := ⟨0, 0, 0, 0, 0, 0, 0, [], [], [], [], 0⟩
def hZ : Hd := ⟨none, 0, none, 0, none, 0, none, 0⟩
/-- what read answers, of what the closure made -/
def finM (q : Mg × (List Int × Int)) : Mg × Int :=
  if q.2.2 = 0 then (if (q.1.kind = 3 ∧ q.1.pairs.length = 0) ∨ (q.1.kind = 5 ∧ q.1.asks.length = 0) then (mZ, 11) else (q.1, 0)) else (mZ, q.2.2)
theorem mgIn_z (w : World) (lo : Nat) : MgIn w lo mZ hZ := ⟨CellsIn.nil _ _ _ _ _, CellsIn.nil _ _ _ _ _, CellsIn.nil _ _ _ _ _, CellsIn.nil _ _ _ _ _⟩
theorem MgIn.upd {w w' : World} {lo lo' : Nat} {S : List Nat} {m : Mg} {h : Hd} (k : MgIn w lo m h) (u : Upd S w w') (hS : ∀ s, s ∈ S → 0 < m.reports.length → ∀ a, h.rA = some a → a.block ≠ s) (hS2 : ∀ s, s ∈ S → 0 < m.who.length → ∀ a, h.wA = some a → a.block ≠ s)
    (hS3 : ∀ s, s ∈ S → 0 < m.pairs.length → ∀ a, h.pA = some a → a.block ≠ s) (hS4 : ∀ s, s ∈ S → 0 < m.asks.length → ∀ a, h.aA = some a → a.block ≠ s) (hl : lo' ≤ lo) : MgIn w' lo' m h :=
  ⟨(k.cr.upd2 u (Nat.le_refl _) hS).more hl u.size, (k.cw.upd2 u (Nat.le_refl _) hS2).more hl u.size, (k.cp.upd2 u (Nat.le_refl _) hS3).more hl u.size, (k.ca.upd2 u (Nat.le_refl _) hS4).more hl u.size⟩
/-- rows that lie behind a block are as they were when it is written -/
theorem MgIn.behind {w w' : World} {lo lo' g : Nat} {m : Mg} {h : Hd} (k : MgIn w lo m h) (u : Upd [g] w w') (hg : g < lo) (hl : lo' ≤ lo) : MgIn w' lo' m h :=
  k.upd u (fun s hs hn a ha e => by have := k.cr.fresh hn a ha; rw [List.mem_singleton] at hs; omega) (fun s hs hn a ha e => by have := k.cw.fresh hn a ha; rw [List.mem_singleton] at hs; omega)
    (fun s hs hn a ha e => by have := k.cp.fresh hn a ha; rw [List.mem_singleton] at hs; omega) (fun s hs hn a ha e => by have := k.ca.fresh hn a ha; rw [List.mem_singleton] at hs; omega) hl
set_option maxRecDepth 100000 in
set_option maxHeartbeats 8000000 in
theorem read_gen {w : World} {lo : Nat} {r : Rw} (h : RowIn w lo .u8 r) (hl : r.xs.length ≤ 100000) (t count : Int) (k : Int) (hk : kindM t count = k) (F : FuncId) (q : Mg × (List Int × Int))
    (hF6 : (k = 0 ∧ F = 42) ∨ (k = 1 ∧ F = 46) ∨ (k = 2 ∧ F = 47) ∨ (k = 3 ∧ F = 48) ∨ (k = 4 ∧ F = 49) ∨ (k = 5 ∧ F = 50)) (hqk : q.1.kind = k)
    (HCL : ∀ (W : World) (rv rp c lo' : Nat) (r' : Rw), RdIs W rv rp c lo' count (zcells k) r' 0 → r'.xs = r.xs → (∀ a, r'.A = some a → a.block < W.heap.size) → Calls Try.prog F #[.pointer (some ⟨rv, 0, none⟩)] W fun e w' => ∃ r'' hd, e = .returned (.tuple #[]) ∧ RdIs w' rv rp c lo' count (mcells q.1 hd) r'' q.2.2 ∧ MgIn w' W.heap.size q.1 hd ∧ Upd [c, rp] W w') :
    Calls Try.prog 30 #[.int .u8 t, .int .i64 count, encR r] w fun e w' => ∃ hd, e = .returned (.tuple #[.agg (mcells (finM q).1 hd).toArray, .int .i64 (finM q).2]) ∧ MgIn w' w.heap.size (finM q).1 hd ∧ Upd [] w w' := by
  have HCLO := Lib.hid HCL
  have HF6 := Lib.hid hF6
  clear HCL hF6
  obtain ⟨W0, hW0⟩ : ∃ W0, W0 = (w.alloc (.cells #[.int .u8 t] 5)).alloc (.cells (zcells 0).toArray 59) := ⟨_, rfl⟩
  have HK := Lib.hid hk
  clear hk
  have HN := Lib.hid (fun W : World => fun (hW : Upd [] w W) => cut_new (h.upd2 hW (by simp)) hl)
  unfold encR at HN ⊢
  unfold zcells at hW0
  go_enter Try.func30, Try.ntmps30
  go_upto_region 1 with fail
  have hB : Blk W0 w.heap.size 5 #[.int .u8 t] := by rw [hW0]; exact (Blk.new _ _ _).alloc _
  have hM : Blk W0 (w.heap.size + 1) 59 (zcells 0).toArray := by
    have := Blk.new (w.alloc (.cells #[.int .u8 t] 5)) 59 (zcells 0).toArray
    rw [World.size_alloc] at this
    rw [hW0]; exact this
  have hU0 : Upd [] w W0 := by rw [hW0]; exact ((Upd.refl [] w).alloc _).alloc _
  have hsz : W0.heap.size = w.heap.size + 1 + 1 := by rw [hW0]; simp
  rw [← hW0]
  obtain ⟨bx, hbx⟩ : ∃ bx, bx = w.heap.size := ⟨_, rfl⟩
  obtain ⟨mr, hmr⟩ : ∃ mr, mr = w.heap.size + 1 := ⟨_, rfl⟩
  have HMR : Hid (w.heap.size ≤ mr) := by rw [hmr]; exact Lib.hid (Nat.le_succ _)
  rw [← hmr] at hM ⊢
  rw [← hbx] at hB ⊢
  have HB := Lib.hid hB
  have HM := Lib.hid hM
  have HU0 := Lib.hid hU0
  have hbl := hB.lt
  have b0 : W0.cell? ⟨bx, 0, none⟩ = some (.int .u8 t) := hB.cell 0
  clear hW0 hbx hmr hB hM hU0 hsz h
  go_cut [8] (fun s8 wd => ∃ (rv rp c : Nat) (r' : Rw), s8 = .pointer (some ⟨rv, 0, none⟩) ∧ r'.xs = r.xs ∧ RdIs wd rv rp c w.heap.size count (zcells (kindM t count)) r' 0 ∧ (w.heap.size ≤ c ∧ w.heap.size ≤ rp) ∧ (∀ a, r'.A = some a → a.block < wd.heap.size) ∧ Upd [] W0 wd)
  case first =>
    go_region_held3 (fun w' => w'.cell? ⟨bx, 0, none⟩ = some (.int .u8 t)) (first | go_keep | exact b5 | exact ((((Upd.refl [W0.heap.size] w5).setCell (by simp) _).alloc _).cell (p := ⟨bx, 0, none⟩) hb5 (by simpa using nb7)).trans b5 | exact (((Upd.refl [] w5).alloc _).cell (p := ⟨bx, 0, none⟩) hb5 (by simp)).trans b5 | exact ((((Upd.refl [] w5).alloc _).alloc _).cell (p := ⟨bx, 0, none⟩) hb5 (by simp)).trans b5)
      (first
        | (go_at_call 41; refine (kind_any t count _).mono ?_; rintro e w6 ⟨rfl, rfl⟩)
        | (go_at_call 25; refine (HN.out _ (HU0.out.drewN 1)).mono ?_; rintro e w5 ⟨c, r', rfl, hx, hcut, hc0, hra, hu5⟩; have hU1 : Upd [] W0 w5 := ((Upd.refl [] W0).drewN 1).next hu5; have HX := Lib.hid (And.intro hx (And.intro hcut (And.intro hc0 hra))); have b5 : w5.cell? ⟨bx, 0, none⟩ = some (.int .u8 t) := (hU1.cell (p := ⟨bx, 0, none⟩) hbl (by simp)).trans b0; have hb5 : bx < w5.heap.size := Nat.lt_of_lt_of_le hbl hU1.size; have nb5 : bx ≠ w5.heap.size := Nat.ne_of_lt hb5; have nb6 : bx ≠ w5.heap.size + 1 := (by omega); have nb7 : bx ≠ W0.heap.size := Nat.ne_of_lt hbl; clear hx hcut hc0 hra hu5)
        | (go_at_call 25; refine (HN.out _ ((HU0.out.drewN 1).alloc (.cells #[.pointer none] 105))).mono ?_; rintro e w5 ⟨c, r', rfl, hx, hcut, hc0, hra, hu5⟩; have hU1 : Upd [] W0 w5 := (((Upd.refl [] W0).drewN 1).alloc _).next hu5; have hq : Blk w5 W0.heap.size 105 #[.pointer none] := (Blk.new (W0.drewN 1) 105 #[.pointer none]).upd hu5 (by simp); have q0 : w5.cell? ⟨W0.heap.size, 0, none⟩ = some (.pointer none) := hq.cell 0; have qf := hq.frozen 0; have ql := hq.lt; have HQ := Lib.hid hq; have HX := Lib.hid (And.intro hx (And.intro hcut (And.intro hc0 hra))); have b5 : w5.cell? ⟨bx, 0, none⟩ = some (.int .u8 t) := (hU1.cell (p := ⟨bx, 0, none⟩) hbl (by simp)).trans b0; have hb5 : bx < w5.heap.size := Nat.lt_of_lt_of_le hbl hU1.size; have nb5 : bx ≠ w5.heap.size := Nat.ne_of_lt hb5; have nb6 : bx ≠ w5.heap.size + 1 := (by omega); have nb7 : bx ≠ W0.heap.size := Nat.ne_of_lt hbl; clear hx hcut hc0 hra hu5 hq))
    all_goals
      obtain ⟨hx, hcut, hc0, hra⟩ := HX.out
      have hcl := hcut.lower (lo' := w.heap.size) (Nat.le_trans HU0.out.size (by simp))
      have HXX := Lib.hid hx
      have HCL := Lib.hid hcl
      have HRA := Lib.hid hra
      have HC0 := Lib.hid hc0
      have hcc : w.heap.size ≤ c := (by have h1 := hc0; have h2 := HU0.out.size; simp at h1; omega)
      have hrr : w.heap.size ≤ w5.heap.size := Nat.le_trans HU0.out.size hU1.size
      have HCC := Lib.hid (And.intro hcc hrr)
      clear hx hcut hcl hra hc0 HX hcc hrr
      go_wp2
      go_meet
      case rel =>
        first
          | exact ⟨_, _, c, r', rfl, HXX.out, rd1 HCL.out (fun a ha => (HRA.out a ha).2), HCC.out, (fun a ha => Nat.lt_of_lt_of_le (Nat.lt_trans (HRA.out a ha).2 HCL.out.bl.lt) ((((Upd.refl [] w5).alloc _).alloc _).size)), (hU1.alloc _).alloc _⟩
          | exact ⟨_, _, c, r', rfl, HXX.out, rd2 HCL.out (fun a ha => (HRA.out a ha).2), ⟨HCC.out.1, Nat.le_succ_of_le HCC.out.2⟩, (fun a ha => Nat.lt_of_lt_of_le (Nat.lt_trans (HRA.out a ha).2 HCL.out.bl.lt) ((((Upd.refl [] w5).alloc _).alloc _).size)), (hU1.alloc _).alloc _⟩
          | exact ⟨_, _, c, r', rfl, HXX.out, rd4 HCL.out (fun a ha => (HRA.out a ha).2) HQ.out (fun a ha => by have := (HRA.out a ha).1; simp at this; omega), HCC.out, (fun a ha => Nat.lt_of_lt_of_le (Nat.lt_trans (HRA.out a ha).2 HCL.out.bl.lt) ((((Upd.refl [W0.heap.size] w5).setCell (by simp) _).alloc _).size)), (hU1.setCell (.inr (Nat.le_refl _)) _).alloc _⟩
  obtain ⟨rv, rp, c, r', rfl, hx, hrd, hnew, hrl, hu⟩ := hcut
  have HNEW := Lib.hid hnew
  clear hnew
  obtain ⟨M1, M2, M3, M4, M5, M6, M7, q1, q2, q3, q4, q5, q6, q7, hb7, hu7⟩ := fill wc bx rv
  have qm := run_makeMap_plain (P := Try.prog) wc 111
  have hrd7 := hrd.more hu7
  rw [HK.out] at hrd7
  have v0 : M7.cell? ⟨rv, 0, none⟩ = some (.pointer (some ⟨rp, 0, none⟩)) := hrd7.bv.cell 0
  have k0 : M7.cell? ⟨rp, 2, none⟩ = some (.int .i64 k) := hrd7.cellAt 0 rfl
  have hF : ∃ i, Instr.findNow (.int .i64) (.int .i64 k) (ents bx rv) 0 = some (some (i, fv F #[.pointer (some ⟨rv, 0, none⟩)])) := by
    rcases HF6.out with ⟨rfl, rfl⟩ | ⟨rfl, rfl⟩ | ⟨rfl, rfl⟩ | ⟨rfl, rfl⟩ | ⟨rfl, rfl⟩ | ⟨rfl, rfl⟩
    · exact ⟨0, rfl⟩
    · exact ⟨1, rfl⟩
    · exact ⟨2, rfl⟩
    · exact ⟨3, rfl⟩
    · exact ⟨4, rfl⟩
    · exact ⟨5, rfl⟩
  obtain ⟨j, hj⟩ := hF
  have ql := look hb7 k j (fv F #[.pointer (some ⟨rv, 0, none⟩)]) hj
  simp only [fv] at q1 q2 q3 q4 q5 q6 q7 ql
  have HC := Lib.hid (HCLO.out M7 rv rp c w.heap.size r' hrd7 hx (fun a ha => Nat.lt_of_lt_of_le (hrl a ha) hu7.size))
  have HM7 := Lib.hid ((HM.out.upd hu (by simp)).upd hu7 (by simp))
  have NMC : Hid (mr ≠ c ∧ mr ≠ rp) := ⟨HM7.out.ne hrd7.cut.bl (by decide), HM7.out.ne hrd7.br (by decide)⟩
  have HU7 := Lib.hid ((HU0.out.next hu).next hu7)
  have HML := Lib.hid HM7.out.lt
  clear hx hrd hu hb7 hu7 hrd7 b0 HM HU0 HB hbl HN hl hrl HCLO hj
  obtain ⟨⟨mk, m1, m2, m3, m4, m5, m6, mR, mW, mP, mA, mT⟩, xs', er2⟩ := q
  dsimp only at hqk HC
  subst hqk
  go_upto_region 3 with fail
  go_cut [8] (fun s8 wd => s8 = .pointer (some ⟨rv, 0, none⟩) ∧ ∃ (r7 : Rw) (dR : Option Addr) (cR : Nat) (dW : Option Addr) (cW : Nat) (dP : Option Addr) (cP : Nat) (dA : Option Addr) (cA : Nat), RdIs wd rv rp c w.heap.size count [.int .i64 mk, .int .u32 m1, .int .u32 m2, .int .u64 m3, .int .u32 m4, .int .u32 m5, .int .u32 m6, .slice dR mR.length cR, .slice dW mW.length cW, .slice dP mP.length cP, .slice dA mA.length cA, .int .u8 mT] r7 er2 ∧
    MgIn wd M7.heap.size ⟨mk, m1, m2, m3, m4, m5, m6, mR, mW, mP, mA, mT⟩ ⟨dR, cR, dW, cW, dP, cP, dA, cA⟩ ∧ Upd [c, rp] M7 wd)
  case first =>
    rcases HF6.out with ⟨hk', rfl⟩ | ⟨hk', rfl⟩ | ⟨hk', rfl⟩ | ⟨hk', rfl⟩ | ⟨hk', rfl⟩ | ⟨hk', rfl⟩
    all_goals
      obtain rfl := hk'
      go_wp2_with fail
      refine HC.out.mono ?_
      rintro e w7 ⟨r7, ⟨dR, cR, dW, cW, dP, cP, dA, cA⟩, rfl, hrd, hin, hu7⟩
      have HH := Lib.hid (And.intro hrd (And.intro hin hu7))
      clear hrd hin hu7
      go_wp2
      go_meet
      case rel => exact ⟨rfl, r7, dR, cR, dW, cW, dP, cP, dA, cA, HH.out⟩
  obtain ⟨rfl, r7, dR, cR, dW, cW, dP, cP, dA, cA, hrd, hin, hu7⟩ := hcut
  have hm7 : Blk wc mr 59 (zcells 0).toArray := HM7.out.upd hu7 (by
    simp only [List.mem_cons, List.not_mem_nil, or_false, not_or]
    exact ⟨NMC.out.1, NMC.out.2⟩)
  have v7 : wc.cell? ⟨rv, 0, none⟩ = some (.pointer (some ⟨rp, 0, none⟩)) := hrd.bv.cell 0
  have c7 : wc.cell? ⟨rp, 0, none⟩ = some (.pointer (some ⟨c, 0, none⟩)) := hrd.br.cell 0
  have rc0 : wc.cell? ⟨rp, 2, none⟩ = some (.int .i64 mk) := hrd.cellAt 0 rfl
  have rc1 : wc.cell? ⟨rp, 3, none⟩ = some (.int .u32 m1) := hrd.cellAt 1 rfl
  have rc2 : wc.cell? ⟨rp, 4, none⟩ = some (.int .u32 m2) := hrd.cellAt 2 rfl
  have rc3 : wc.cell? ⟨rp, 5, none⟩ = some (.int .u64 m3) := hrd.cellAt 3 rfl
  have rc4 : wc.cell? ⟨rp, 6, none⟩ = some (.int .u32 m4) := hrd.cellAt 4 rfl
  have rc5 : wc.cell? ⟨rp, 7, none⟩ = some (.int .u32 m5) := hrd.cellAt 5 rfl
  have rc6 : wc.cell? ⟨rp, 8, none⟩ = some (.int .u32 m6) := hrd.cellAt 6 rfl
  have rc7 : wc.cell? ⟨rp, 9, none⟩ = some (.slice dR mR.length cR) := hrd.cellAt 7 rfl
  have rc8 : wc.cell? ⟨rp, 10, none⟩ = some (.slice dW mW.length cW) := hrd.cellAt 8 rfl
  have rc9 : wc.cell? ⟨rp, 11, none⟩ = some (.slice dP mP.length cP) := hrd.cellAt 9 rfl
  have rc10 : wc.cell? ⟨rp, 12, none⟩ = some (.slice dA mA.length cA) := hrd.cellAt 10 rfl
  have rc11 : wc.cell? ⟨rp, 13, none⟩ = some (.int .u8 mT) := hrd.cellAt 11 rfl
  have HE := Lib.hid (err_any hrd.cut)
  have mc0 : wc.cell? ⟨mr, 0, none⟩ = some (.int .i64 0) := hm7.cell 0
  have mf0 := hm7.frozen 0
  have mc1 : wc.cell? ⟨mr, 1, none⟩ = some (.int .u32 0) := hm7.cell 1
  have mf1 := hm7.frozen 1
  have mc2 : wc.cell? ⟨mr, 2, none⟩ = some (.int .u32 0) := hm7.cell 2
  have mf2 := hm7.frozen 2
  have mc3 : wc.cell? ⟨mr, 3, none⟩ = some (.int .u64 0) := hm7.cell 3
  have mf3 := hm7.frozen 3
  have mc4 : wc.cell? ⟨mr, 4, none⟩ = some (.int .u32 0) := hm7.cell 4
  have mf4 := hm7.frozen 4
  have mc5 : wc.cell? ⟨mr, 5, none⟩ = some (.int .u32 0) := hm7.cell 5
  have mf5 := hm7.frozen 5
  have mc6 : wc.cell? ⟨mr, 6, none⟩ = some (.int .u32 0) := hm7.cell 6
  have mf6 := hm7.frozen 6
  have mc7 : wc.cell? ⟨mr, 7, none⟩ = some (.slice none 0 0) := hm7.cell 7
  have mf7 := hm7.frozen 7
  have mc8 : wc.cell? ⟨mr, 8, none⟩ = some (.slice none 0 0) := hm7.cell 8
  have mf8 := hm7.frozen 8
  have mc9 : wc.cell? ⟨mr, 9, none⟩ = some (.slice none 0 0) := hm7.cell 9
  have mf9 := hm7.frozen 9
  have mc10 : wc.cell? ⟨mr, 10, none⟩ = some (.slice none 0 0) := hm7.cell 10
  have mf10 := hm7.frozen 10
  have mc11 : wc.cell? ⟨mr, 11, none⟩ = some (.int .u8 0) := hm7.cell 11
  have mf11 := hm7.frozen 11
  have hmrp : mr ≠ rp := NMC.out.2
  have HIN := Lib.hid hin
  have HMLT : Hid (mr < M7.heap.size) := HML
  have HSZ7 : Hid (w.heap.size ≤ M7.heap.size) := Lib.hid HU7.out.size
  have HU := Lib.hid (HU7.out.trans hu7 (fun s hs => .inr (by
    simp only [List.mem_cons, List.not_mem_nil, or_false] at hs
    rcases hs with rfl | rfl
    · exact HNEW.out.1
    · exact HNEW.out.2)))
  clear hrd hm7 hu7 hin HC HM7 HU7 v0 k0 q1 q2 q3 q4 q5 q6 q7 ql qm
  go_wp2_with fail
  refine HE.out.mono ?_
  rintro e w8 ⟨rfl, rfl⟩
  by_cases he : er2 = 0
  · subst he
    clear HE
    by_cases k3 : mk = 3
    · subst k3
      by_cases hp : mP.length = 0
      · have hpb : ((mP.length : Int) == 0) = true := by rw [hp]; rfl
        have HFIN : Hid (finM (⟨3, m1, m2, m3, m4, m5, m6, mR, mW, mP, mA, mT⟩, (xs', 0)) = (mZ, 11)) := by
          unfold finM; dsimp only; rw [if_pos rfl, if_pos (.inl ⟨rfl, hp⟩)]; exact Lib.hid rfl
        go_wp2
        refine bodyPost_res (v := .tuple #[.agg #[.int .i64 0, .int .u32 0, .int .u32 0, .int .u64 0, .int .u32 0, .int .u32 0, .int .u32 0, .slice none 0 0, .slice none 0 0, .slice none 0 0, .slice none 0 0, .int .u8 0], .int .i64 11]) (by simp [results, Try.results30, go_sem, mc0, mc1, mc2, mc3, mc4, mc5, mc6, mc7, mc8, mc9, mc10, mc11]) rfl ⟨hZ, ?_, ?_, ?_⟩
        · rw [HFIN.out]; rfl
        · rw [HFIN.out]; exact mgIn_z _ _
        · exact set12_upd _ _ _ _ _ _ _ _ _ _ _ _ _ HU.out (.inr HMR.out)
      · have hpb : ((mP.length : Int) == 0) = false := beq_eq_false_iff_ne.2 (by omega)
        have HFIN : Hid (finM (⟨3, m1, m2, m3, m4, m5, m6, mR, mW, mP, mA, mT⟩, (xs', 0)) = (⟨3, m1, m2, m3, m4, m5, m6, mR, mW, mP, mA, mT⟩, 0)) := by
          unfold finM; dsimp only; rw [if_pos rfl, if_neg (by omega)]; exact Lib.hid rfl
        go_wp2
        refine bodyPost_res (v := .tuple #[.agg #[.int .i64 3, .int .u32 m1, .int .u32 m2, .int .u64 m3, .int .u32 m4, .int .u32 m5, .int .u32 m6, .slice dR mR.length cR, .slice dW mW.length cW, .slice dP mP.length cP, .slice dA mA.length cA, .int .u8 mT], .int .i64 0]) (by simp [results, Try.results30, go_sem, mc0, mc1, mc2, mc3, mc4, mc5, mc6, mc7, mc8, mc9, mc10, mc11]) rfl ⟨⟨dR, cR, dW, cW, dP, cP, dA, cA⟩, ?_, ?_, ?_⟩
        · rw [HFIN.out]; rfl
        · rw [HFIN.out]; exact HIN.out.behind (set12_upd (S := [mr]) _ _ _ _ _ _ _ _ _ _ _ _ _ (Upd.refl _ _) (.inl (by simp))) HMLT.out HSZ7.out
        · exact set12_upd _ _ _ _ _ _ _ _ _ _ _ _ _ HU.out (.inr HMR.out)
    · have k3b : (mk == 3) = false := beq_eq_false_iff_ne.2 k3
      by_cases k5 : mk = 5
      · subst k5
        by_cases hp : mA.length = 0
        · have hpb : ((mA.length : Int) == 0) = true := by rw [hp]; rfl
          have HFIN : Hid (finM (⟨5, m1, m2, m3, m4, m5, m6, mR, mW, mP, mA, mT⟩, (xs', 0)) = (mZ, 11)) := by
            unfold finM; dsimp only; rw [if_pos rfl, if_pos (.inr ⟨rfl, hp⟩)]; exact Lib.hid rfl
          go_wp2
          refine bodyPost_res (v := .tuple #[.agg #[.int .i64 0, .int .u32 0, .int .u32 0, .int .u64 0, .int .u32 0, .int .u32 0, .int .u32 0, .slice none 0 0, .slice none 0 0, .slice none 0 0, .slice none 0 0, .int .u8 0], .int .i64 11]) (by simp [results, Try.results30, go_sem, mc0, mc1, mc2, mc3, mc4, mc5, mc6, mc7, mc8, mc9, mc10, mc11]) rfl ⟨hZ, ?_, ?_, ?_⟩
          · rw [HFIN.out]; rfl
          · rw [HFIN.out]; exact mgIn_z _ _
          · exact set12_upd _ _ _ _ _ _ _ _ _ _ _ _ _ HU.out (.inr HMR.out)
        · have hpb : ((mA.length : Int) == 0) = false := beq_eq_false_iff_ne.2 (by omega)
          have HFIN : Hid (finM (⟨5, m1, m2, m3, m4, m5, m6, mR, mW, mP, mA, mT⟩, (xs', 0)) = (⟨5, m1, m2, m3, m4, m5, m6, mR, mW, mP, mA, mT⟩, 0)) := by
            unfold finM; dsimp only; rw [if_pos rfl, if_neg (by omega)]; exact Lib.hid rfl
          go_wp2
          refine bodyPost_res (v := .tuple #[.agg #[.int .i64 5, .int .u32 m1, .int .u32 m2, .int .u64 m3, .int .u32 m4, .int .u32 m5, .int .u32 m6, .slice dR mR.length cR, .slice dW mW.length cW, .slice dP mP.length cP, .slice dA mA.length cA, .int .u8 mT], .int .i64 0]) (by simp [results, Try.results30, go_sem, mc0, mc1, mc2, mc3, mc4, mc5, mc6, mc7, mc8, mc9, mc10, mc11]) rfl ⟨⟨dR, cR, dW, cW, dP, cP, dA, cA⟩, ?_, ?_, ?_⟩
          · rw [HFIN.out]; rfl
          · rw [HFIN.out]; exact HIN.out.behind (set12_upd (S := [mr]) _ _ _ _ _ _ _ _ _ _ _ _ _ (Upd.refl _ _) (.inl (by simp))) HMLT.out HSZ7.out
          · exact set12_upd _ _ _ _ _ _ _ _ _ _ _ _ _ HU.out (.inr HMR.out)
      · have k5b : (mk == 5) = false := beq_eq_false_iff_ne.2 k5
        have HFIN : Hid (finM (⟨mk, m1, m2, m3, m4, m5, m6, mR, mW, mP, mA, mT⟩, (xs', 0)) = (⟨mk, m1, m2, m3, m4, m5, m6, mR, mW, mP, mA, mT⟩, 0)) := by
          unfold finM; dsimp only; rw [if_pos rfl, if_neg (by omega)]; exact Lib.hid rfl
        go_wp2
        refine bodyPost_res (v := .tuple #[.agg #[.int .i64 mk, .int .u32 m1, .int .u32 m2, .int .u64 m3, .int .u32 m4, .int .u32 m5, .int .u32 m6, .slice dR mR.length cR, .slice dW mW.length cW, .slice dP mP.length cP, .slice dA mA.length cA, .int .u8 mT], .int .i64 0]) (by simp [results, Try.results30, go_sem, mc0, mc1, mc2, mc3, mc4, mc5, mc6, mc7, mc8, mc9, mc10, mc11]) rfl ⟨⟨dR, cR, dW, cW, dP, cP, dA, cA⟩, ?_, ?_, ?_⟩
        · rw [HFIN.out]; rfl
        · rw [HFIN.out]; exact HIN.out.behind (set12_upd (S := [mr]) _ _ _ _ _ _ _ _ _ _ _ _ _ (Upd.refl _ _) (.inl (by simp))) HMLT.out HSZ7.out
        · exact set12_upd _ _ _ _ _ _ _ _ _ _ _ _ _ HU.out (.inr HMR.out)
  · have hne : ¬ er2 = 0 := he
    have HFIN : Hid (finM (⟨mk, m1, m2, m3, m4, m5, m6, mR, mW, mP, mA, mT⟩, (xs', er2)) = (mZ, er2)) := by
      unfold finM; dsimp only; rw [if_neg hne]; exact Lib.hid rfl
    go_wp2_with fail
    refine HE.out.mono ?_
    rintro e w8 ⟨rfl, rfl⟩
    clear HE
    go_wp2
    refine bodyPost_res (v := .tuple #[.agg #[.int .i64 0, .int .u32 0, .int .u32 0, .int .u64 0, .int .u32 0, .int .u32 0, .int .u32 0, .slice none 0 0, .slice none 0 0, .slice none 0 0, .slice none 0 0, .int .u8 0], .int .i64 er2]) (by simp [results, Try.results30, go_sem, mc0, mc1, mc2, mc3, mc4, mc5, mc6, mc7, mc8, mc9, mc10, mc11]) rfl ⟨hZ, ?_, ?_, ?_⟩
    · rw [HFIN.out]; rfl
    · rw [HFIN.out]; exact mgIn_z _ _
    · exact set12_upd _ _ _ _ _ _ _ _ _ _ _ _ _ HU.out (.inr HMR.out)
end Go.Proofs.Ytgkejdjdccgjbaa
/- rtcp's read, as one function of bytes; and what Parse answers, as a function of bytes. Conditions: bytes, no more than 100000. -/
namespace Go.Proofs.Ytgkejdjdccgjbaa
open Go Go.RowKit
set_option maxHeartbeats 1000000

def readM (t : Int) (n : Nat) (xs : List Int) : Mg × Int :=
  if kindM t n = 0 then finM (senderM n (xs, 0)) else if kindM t n = 1 then finM (receiverM n (xs, 0)) else if kindM t n = 2 then finM (byeM n (xs, 0)) else if kindM t n = 3 then finM (nackM (xs, 0))
  else if kindM t n = 4 then finM (pliG (xs, 0)) else if kindM t n = 5 then finM (firM (xs, 0)) else (⟨6, 0, 0, 0, 0, 0, 0, [], [], [], [], t⟩, 0)
theorem kind_lt (t c : Int) : kindM t c = 0 ∨ kindM t c = 1 ∨ kindM t c = 2 ∨ kindM t c = 3 ∨ kindM t c = 4 ∨ kindM t c = 5 ∨ kindM t c = 6 := by
  unfold kindM
  repeat' split
  all_goals simp
theorem read_any {w : World} {lo : Nat} {r : Rw} (h : RowIn w lo .u8 r) (hl : r.xs.length ≤ 100000) (t : Int) (n : Nat) (hn : n ≤ 31) (hb : Byt r.xs) :
    Calls Try.prog 30 #[.int .u8 t, .int .i64 n, encR r] w fun e w' => ∃ hd, e = .returned (.tuple #[.agg (mcells (readM t n r.xs).1 hd).toArray, .int .i64 (readM t n r.xs).2]) ∧ MgIn w' w.heap.size (readM t n r.xs).1 hd ∧ Upd [] w w' := by
  rcases kind_lt t n with hk | hk | hk | hk | hk | hk | hk
  · have e : readM t n r.xs = finM (senderM n (r.xs, 0)) := by unfold readM; rw [if_pos hk]
    rw [e]
    exact read_gen h hl t n 0 hk _ _ (.inl ⟨rfl, rfl⟩) rfl (fun W rv rp c lo' r' hr hx ha => by have := read1_any hr (by rw [hx]; exact hb) hn ha; rwa [hx] at this)
  · have e : readM t n r.xs = finM (receiverM n (r.xs, 0)) := by unfold readM; rw [if_neg (by omega), if_pos hk]
    rw [e]
    exact read_gen h hl t n 1 hk _ _ (.inr (.inl ⟨rfl, rfl⟩)) rfl (fun W rv rp c lo' r' hr hx ha => by have := read2_any hr (by rw [hx]; exact hb) hn ha; rwa [hx] at this)
  · have e : readM t n r.xs = finM (byeM n (r.xs, 0)) := by unfold readM; rw [if_neg (by omega), if_neg (by omega), if_pos hk]
    rw [e]
    exact read_gen h hl t n 2 hk _ _ (.inr (.inr (.inl ⟨rfl, rfl⟩))) rfl (fun W rv rp c lo' r' hr hx ha => by have := read3_any hr (by rw [hx]; exact hb) hn ha; rwa [hx] at this)
  · have e : readM t n r.xs = finM (nackM (r.xs, 0)) := by unfold readM; rw [if_neg (by omega), if_neg (by omega), if_neg (by omega), if_pos hk]
    rw [e]
    exact read_gen h hl t n 3 hk _ _ (.inr (.inr (.inr (.inl ⟨rfl, rfl⟩)))) rfl (fun W rv rp c lo' r' hr hx ha => by have := read4_any hr (by rw [hx]; exact hb) (by rw [hx]; exact hl) ha; rwa [hx] at this)
  · have e : readM t n r.xs = finM (pliG (r.xs, 0)) := by unfold readM; rw [if_neg (by omega), if_neg (by omega), if_neg (by omega), if_neg (by omega), if_pos hk]
    rw [e]
    exact read_gen h hl t n 4 hk _ _ (.inr (.inr (.inr (.inr (.inl ⟨rfl, rfl⟩))))) rfl (fun W rv rp c lo' r' hr hx ha => by have := read5g_any hr (by rw [hx]; exact hb) (by rw [hx]; exact hl) ha; rwa [hx] at this)
  · have e : readM t n r.xs = finM (firM (r.xs, 0)) := by unfold readM; rw [if_neg (by omega), if_neg (by omega), if_neg (by omega), if_neg (by omega), if_neg (by omega), if_pos hk]
    rw [e]
    exact read_gen h hl t n 5 hk _ _ (.inr (.inr (.inr (.inr (.inr ⟨rfl, rfl⟩))))) rfl (fun W rv rp c lo' r' hr hx ha => by have := read6_any hr (by rw [hx]; exact hb) (by rw [hx]; exact hl) ha; rwa [hx] at this)
  · have e : readM t n r.xs = (⟨6, 0, 0, 0, 0, 0, 0, [], [], [], [], t⟩, 0) := by unfold readM; rw [if_neg (by omega), if_neg (by omega), if_neg (by omega), if_neg (by omega), if_neg (by omega), if_neg (by omega)]
    rw [e]
    refine (read_other h hl t n hk).mono ?_
    rintro e w' ⟨rfl, hu⟩
    exact ⟨hZ, rfl, ⟨CellsIn.nil _ _ _ _ _, CellsIn.nil _ _ _ _ _, CellsIn.nil _ _ _ _ _, CellsIn.nil _ _ _ _ _⟩, hu⟩
/-- a message's body, its padding cut off where it says so -/
def bodyOf (x0 : Int) (body : List Int) (last : Bool) : Option (List Int) := if x0 / 32 % 2 = 1 then cutM body last else some body
/-- one message of bytes, and what is left; or what went wrong -/
def stepM (xs : List Int) : Except Int (Mg × List Int) :=
  match xs with
  | x0 :: x1 :: x2 :: x3 :: rest =>
    if isM [x0, x1, x2, x3] = true then
      (if rest.length < 4 * (x2.toNat * 256 + x3.toNat) then .error 10
       else match bodyOf x0 (rest.take (4 * (x2.toNat * 256 + x3.toNat))) (decide ((rest.drop (4 * (x2.toNat * 256 + x3.toNat))).length = 0)) with
        | none => .error 11
        | some b => if (readM x1 (x0 % 32).toNat b).2 = 0 then .ok ((readM x1 (x0 % 32).toNat b).1, rest.drop (4 * (x2.toNat * 256 + x3.toNat))) else .error (readM x1 (x0 % 32).toNat b).2)
    else .error 11
  | _ => .error 10
/-- messages of bytes, behind those that were read before -/
def parseA : Nat → List Mg → List Int → List Mg × Int
  | 0, _, _ => ([], 99)
  | f + 1, out, xs => match stepM xs with
    | .error e => ([], e)
    | .ok (m, rest) => if rest.length = 0 then (out ++ [m], 0) else parseA f (out ++ [m]) rest
def parseM (xs : List Int) : List Mg × Int := if 1500 < xs.length then ([], 13) else parseA (xs.length + 1) [] xs
end Go.Proofs.Ytgkejdjdccgjbaa
/- rtcp: cut, of padding. Conditions: bytes. -/
namespace Go.Proofs.Ytgkejdjdccgjbaa
open Go Go.RowKit
set_option maxHeartbeats 400000

theorem cut_no {w : World} {lo : Nat} {r : Rw} (h : RowIn w lo .u8 r) (hb : Byt r.xs) (last : Bool) (hc : cutM r.xs last = none) : Calls Try.prog 29 #[encR r, .bool last] w fun e w' => e = .returned (.tuple #[.slice none 0 0, .bool false]) ∧ w = w' := by
  obtain ⟨A, cp, xs⟩ := r
  unfold encR
  dsimp only at hc hb ⊢
  cases last with
  | false =>
    clear h hb hc
    go_enter Try.func29, Try.ntmps29
    go_wp2
    exact bodyPost_res (v := .tuple #[.slice none 0 0, .bool false]) (by simp [results, Try.results29, go_sem]) rfl ⟨rfl, rfl⟩
  | true =>
    by_cases hl : xs.length = 0
    · have hl' : (xs.length : Int) = 0 := by omega
      clear h hb hc
      obtain ⟨L, hL⟩ : ∃ L, L = xs.length := ⟨_, rfl⟩
      rw [← hL] at hl' ⊢
      clear hL hl
      go_enter Try.func29, Try.ntmps29
      go_wp2
      exact bodyPost_res (v := .tuple #[.slice none 0 0, .bool false]) (by simp [results, Try.results29, go_sem]) rfl ⟨rfl, rfl⟩
    · obtain ⟨b, off, hA, _, hbl, hcc⟩ := h.at (by dsimp only; omega)
      dsimp only at hA hcc
      subst hA
      have hne : xs ≠ [] := by intro e; subst e; exact hl rfl
      obtain ⟨x, hx⟩ : ∃ x, xs[xs.length - 1]? = some x := ⟨_, List.getElem?_eq_getElem (by omega)⟩
      have hgl : xs.getLastD 0 = x := by
        rw [List.getLastD_eq_getLast?, List.getLast?_eq_getElem?, hx]; rfl
      have c0 := hcc (xs.length - 1) x hx
      obtain ⟨hx0, hx1⟩ := hb x (List.mem_of_getElem? hx)
      have hd : x = 0 ∨ x % 4 ≠ 0 ∨ (xs.length : Int) < x := by
        unfold cutM at hc
        rw [if_neg (by simp [hl])] at hc
        dsimp only at hc
        rw [hgl] at hc
        by_cases hq : x = 0 ∨ x % 4 ≠ 0 ∨ (xs.length : Int) < x
        · exact hq
        · rw [if_neg hq] at hc; cases hc
      obtain ⟨k, hL⟩ : ∃ k, xs.length = k + 1 := ⟨xs.length - 1, by omega⟩
      rw [hL] at c0 hd ⊢
      rw [Nat.add_sub_cancel] at c0
      have hle := h.le
      have hcm := h.cm
      dsimp only at hle hcm
      have hkb : (k : Int) ≤ 9223372036854775806 := by omega
      have hln : ¬ ((k + 1 : Nat) : Int) = 0 := by omega
      have hln2 : ¬ (k : Int) + 1 = 0 := by omega
      clear h hb hc hcc hL hx hgl hne hl hle hcm
      by_cases h1 : x = 0
      · subst h1
        go_enter Try.func29, Try.ntmps29
        go_wp2
        exact bodyPost_res (v := .tuple #[.slice none 0 0, .bool false]) (by simp [results, Try.results29, go_sem]) rfl ⟨rfl, rfl⟩
      by_cases h2 : x % 4 = 0
      · have h3 : ((k + 1 : Nat) : Int) < x := by rcases hd with h | h | h <;> first | exact absurd h h1 | exact absurd h2 h | exact h
        have h3' : (k : Int) + 1 < x := by omega
        clear hd
        go_enter Try.func29, Try.ntmps29
        go_wp2
        exact bodyPost_res (v := .tuple #[.slice none 0 0, .bool false]) (by simp [results, Try.results29, go_sem]) rfl ⟨rfl, rfl⟩
      · clear hd
        go_enter Try.func29, Try.ntmps29
        go_wp2
        exact bodyPost_res (v := .tuple #[.slice none 0 0, .bool false]) (by simp [results, Try.results29, go_sem]) rfl ⟨rfl, rfl⟩
theorem cut_yes {w : World} {lo : Nat} {r : Rw} (h : RowIn w lo .u8 r) (hb : Byt r.xs) (ys : List Int) (hc : cutM r.xs true = some ys) : Calls Try.prog 29 #[encR r, .bool true] w fun e w' => ∃ q, e = .returned (.tuple #[encR q, .bool true]) ∧ q.xs = ys ∧ RowIn w lo .u8 q ∧ q.A = r.A ∧ w = w' := by
  obtain ⟨A, cp, xs⟩ := r
  unfold encR
  dsimp only at hc hb ⊢
  have hl : ¬ xs.length = 0 := by
    intro e
    unfold cutM at hc
    rw [if_pos (.inr e)] at hc
    cases hc
  obtain ⟨b, off, hA, _, hbl, hcc⟩ := h.at (by dsimp only; omega)
  dsimp only at hA hcc
  subst hA
  have hne : xs ≠ [] := by intro e; subst e; exact hl rfl
  obtain ⟨x, hx⟩ : ∃ x, xs[xs.length - 1]? = some x := ⟨_, List.getElem?_eq_getElem (by omega)⟩
  have hgl : xs.getLastD 0 = x := by
    rw [List.getLastD_eq_getLast?, List.getLast?_eq_getElem?, hx]; rfl
  have c0 := hcc (xs.length - 1) x hx
  obtain ⟨hx0, hx1⟩ := hb x (List.mem_of_getElem? hx)
  have hd : ¬ (x = 0 ∨ x % 4 ≠ 0 ∨ (xs.length : Int) < x) ∧ ys = xs.take (xs.length - x.toNat) := by
    unfold cutM at hc
    rw [if_neg (by simp [hl])] at hc
    dsimp only at hc
    rw [hgl] at hc
    by_cases hq : x = 0 ∨ x % 4 ≠ 0 ∨ (xs.length : Int) < x
    · rw [if_pos hq] at hc; cases hc
    · rw [if_neg hq] at hc; exact ⟨hq, (Option.some.inj hc).symm⟩
  obtain ⟨hd1, hys⟩ := hd
  obtain ⟨n, rfl⟩ : ∃ n : Nat, x = n := ⟨x.toNat, by omega⟩
  rw [Int.toNat_natCast] at hys
  have h1 : ¬ (n : Int) = 0 := by omega
  have h2 : (n : Int) % 4 = 0 := by omega
  have h3 : n ≤ xs.length := by omega
  have hle := h.le
  have hcm := h.cm
  have HQ := Lib.hid (h.short (xs.length - n))
  have HYS := Lib.hid hys
  dsimp only at hle hcm
  have hlq : Hid ((xs.take (xs.length - n)).length = xs.length - n) := by show _ = _; rw [List.length_take]; omega
  obtain ⟨k, hL⟩ : ∃ k, xs.length = k + 1 := ⟨xs.length - 1, by omega⟩
  have HL := Lib.hid hL
  rw [hL] at c0 h3 hle ⊢
  rw [Nat.add_sub_cancel] at c0
  have hkb : (k : Int) ≤ 9223372036854775806 := by omega
  have hln2 : ¬ (k : Int) + 1 = 0 := by omega
  have h4 : ¬ (k : Int) + 1 < (n : Int) := by omega
  have h5 : 0 ≤ (k : Int) + 1 - (n : Int) := by omega
  have h6 : (k : Int) + 1 - (n : Int) ≤ (cp : Int) := by omega
  clear h hb hc hcc hL hx hgl hne hl hd1 hys
  go_enter Try.func29, Try.ntmps29
  go_wp2
  refine bodyPost_res (v := .tuple #[.slice (some ⟨b, off, none⟩) (k + 1 - n) cp, .bool true]) (by simp [results, Try.results29, go_sem]) rfl ⟨⟨some ⟨b, off, none⟩, cp, xs.take (xs.length - n)⟩, ?_, HYS.out.symm, HQ.out, rfl, rfl⟩
  dsimp only
  rw [hlq.out, HL.out]
end Go.Proofs.Ytgkejdjdccgjbaa
