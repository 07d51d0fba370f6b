/- Parts of the proof, one behind the other: Read, ReadO, Parse, Parse2, RAwake, OfO, RdReps. No condition of their own. -/
import Derived.Test.YtgkejdjdccgjbaaB3
import Derived.Test.YtgkejdjdccgjbaaB1
/- rtcp's read, of Pli and of others. Conditions: bytes, no more than 100000. -/
namespace Go.Proofs.Ytgkejdjdccgjbaa
open Go Go.RowKit
set_option maxHeartbeats 400000

/-- a message of a kind, and of nothing -/
def zcells (k : Int) : List Value := [.int .i64 k, .int .u32 0, .int .u32 0, .int .u64 0, .int .u32 0, .int .u32 0, .int .u32 0, .slice none 0 0, .slice none 0 0, .slice none 0 0, .slice none 0 0, .int .u8 0]
/-- what a body of Pli is -/
def pliM (xs : List Int) : List Value × Int :=
  if (numM (numM xs 0 4).2.1 (numM xs 0 4).2.2 4).2.2 = 0 then (((zcells 4).set 1 (.int .u32 (numM xs 0 4).1)).set 2 (.int .u32 (numM (numM xs 0 4).2.1 (numM xs 0 4).2.2 4).1), 0)
  else (zcells 0, (numM (numM xs 0 4).2.1 (numM xs 0 4).2.2 4).2.2)
section
variable {w5 : World} {c lo : Nat} {r : Rw} {cnt : Int} {cs : List Value}
theorem rd1 (h : CutIs w5 c lo r 0) (hr : ∀ a, r.A = some a → a.block < c) : RdIs ((w5.alloc (.cells (.pointer (some ⟨c, 0, none⟩) :: .int .i64 cnt :: cs).toArray 108)).alloc (.cells #[.pointer (some ⟨w5.heap.size, 0, none⟩)] 105)) (w5.heap.size + 1) w5.heap.size c lo cnt cs r 0 := by
  have hc := h.bl.lt
  refine ⟨?_, (Blk.new _ _ _).alloc _, h.more (((Upd.refl [] w5).alloc _).alloc _), fun a ha => by have := hr a ha; omega⟩
  have := Blk.new (w5.alloc (.cells (.pointer (some ⟨c, 0, none⟩) :: .int .i64 cnt :: cs).toArray 108)) 105 #[.pointer (some ⟨w5.heap.size, 0, none⟩)]
  rwa [World.size_alloc] at this
theorem rd2 (h : CutIs w5 c lo r 0) (hr : ∀ a, r.A = some a → a.block < c) : RdIs ((w5.alloc (.cells #[.pointer (some ⟨w5.heap.size + 1, 0, none⟩)] 105)).alloc (.cells (.pointer (some ⟨c, 0, none⟩) :: .int .i64 cnt :: cs).toArray 108)) w5.heap.size (w5.heap.size + 1) c lo cnt cs r 0 := by
  have hc := h.bl.lt
  refine ⟨(Blk.new _ _ _).alloc _, ?_, h.more (((Upd.refl [] w5).alloc _).alloc _), fun a ha => by have := hr a ha; omega⟩
  have := Blk.new (w5.alloc (.cells #[.pointer (some ⟨w5.heap.size + 1, 0, none⟩)] 105)) 108 (.pointer (some ⟨c, 0, none⟩) :: .int .i64 cnt :: cs).toArray
  rwa [World.size_alloc] at this
theorem rd4 (h : CutIs w5 c lo r 0) (hr : ∀ a, r.A = some a → a.block < c) {g : Nat} (hg : Blk w5 g 105 #[.pointer none]) (hgr : ∀ a, r.A = some a → a.block ≠ g) : RdIs ((w5.setCell ⟨g, 0, none⟩ (.pointer (some ⟨w5.heap.size, 0, none⟩))).alloc (.cells (.pointer (some ⟨c, 0, none⟩) :: .int .i64 cnt :: cs).toArray 108)) g w5.heap.size c lo cnt cs r 0 := by
  have hc := h.bl.lt
  have hu : Upd [g] w5 (w5.setCell ⟨g, 0, none⟩ (.pointer (some ⟨w5.heap.size, 0, none⟩))) := (Upd.refl _ _).setCell (by simp) _
  have hcg : c ≠ g := (hg.ne h.bl (by decide)).symm
  refine ⟨?_, ?_, CutIs.more ⟨h.bl.other (by show c ≠ g; exact hcg) _, h.row.upd2 hu (fun s hs a ha => by rw [List.mem_singleton] at hs; subst hs; exact hgr a ha), h.ap, h.fm⟩ ((Upd.refl [] _).alloc _), fun a ha => by have := hr a ha; omega⟩
  · have := (hg.store 0 (.pointer (some ⟨w5.heap.size, 0, none⟩))).alloc (.cells (.pointer (some ⟨c, 0, none⟩) :: .int .i64 cnt :: cs).toArray 108)
    simpa using this
  · have := Blk.new (w5.setCell ⟨g, 0, none⟩ (.pointer (some ⟨w5.heap.size, 0, none⟩))) 108 (.pointer (some ⟨c, 0, none⟩) :: .int .i64 cnt :: cs).toArray
    simpa [World.setCell] using this
theorem CutIs.lower {lo' : Nat} {w : World} {er : Int} (h : CutIs w c lo r er) (hl : lo' ≤ lo) : CutIs w c lo' r er := ⟨h.bl, h.row.more hl, h.ap, h.fm⟩
end
set_option maxRecDepth 100000 in
set_option maxHeartbeats 4000000 in
theorem read_pli {w : World} {lo : Nat} {r : Rw} (h : RowIn w lo .u8 r) (hl : r.xs.length ≤ 100000) (t count : Int) (hb : Byt r.xs) (hk : kindM t count = 4) :
    Calls Try.prog 30 #[.int .u8 t, .int .i64 count, encR r] w fun e w' => e = .returned (.tuple #[.agg (pliM r.xs).1.toArray, .int .i64 (pliM r.xs).2]) ∧ Upd [] w w' := by
  obtain ⟨W0, hW0⟩ : ∃ W0, W0 = (w.alloc (.cells #[.int .u8 t] 5)).alloc (.cells (zcells 0).toArray 59) := ⟨_, rfl⟩
  have HK := Lib.hid hk
  clear hk
  have HN := Lib.hid (fun W : World => fun (hW : Upd [] w W) => cut_new (h.upd2 hW (by simp)) hl)
  unfold encR at HN ⊢
  unfold zcells at hW0
  go_enter Try.func30, Try.ntmps30
  go_upto_region 1 with fail
  have hB : Blk W0 w.heap.size 5 #[.int .u8 t] := by rw [hW0]; exact (Blk.new _ _ _).alloc _
  have hM : Blk W0 (w.heap.size + 1) 59 (zcells 0).toArray := by
    have := Blk.new (w.alloc (.cells #[.int .u8 t] 5)) 59 (zcells 0).toArray
    rw [World.size_alloc] at this
    rw [hW0]; exact this
  have hU0 : Upd [] w W0 := by rw [hW0]; exact ((Upd.refl [] w).alloc _).alloc _
  have hsz : W0.heap.size = w.heap.size + 1 + 1 := by rw [hW0]; simp
  rw [← hW0]
  obtain ⟨bx, hbx⟩ : ∃ bx, bx = w.heap.size := ⟨_, rfl⟩
  obtain ⟨mr, hmr⟩ : ∃ mr, mr = w.heap.size + 1 := ⟨_, rfl⟩
  have HMR : Hid (w.heap.size ≤ mr) := by rw [hmr]; exact Lib.hid (Nat.le_succ _)
  rw [← hmr] at hM ⊢
  rw [← hbx] at hB ⊢
  have HB := Lib.hid hB
  have HM := Lib.hid hM
  have HU0 := Lib.hid hU0
  have hbl := hB.lt
  have b0 : W0.cell? ⟨bx, 0, none⟩ = some (.int .u8 t) := hB.cell 0
  clear hW0 hbx hmr hB hM hU0 hsz h
  go_cut [8] (fun s8 wd => ∃ (rv rp c : Nat) (r' : Rw), s8 = .pointer (some ⟨rv, 0, none⟩) ∧ r'.xs = r.xs ∧ RdIs wd rv rp c w.heap.size count (zcells (kindM t count)) r' 0 ∧ (w.heap.size ≤ c ∧ w.heap.size ≤ rp) ∧ Upd [] W0 wd)
  case first =>
    go_region_held3 (fun w' => w'.cell? ⟨bx, 0, none⟩ = some (.int .u8 t)) (first | go_keep | exact b5 | exact ((((Upd.refl [W0.heap.size] w5).setCell (by simp) _).alloc _).cell (p := ⟨bx, 0, none⟩) hb5 (by simpa using nb7)).trans b5 | exact (((Upd.refl [] w5).alloc _).cell (p := ⟨bx, 0, none⟩) hb5 (by simp)).trans b5 | exact ((((Upd.refl [] w5).alloc _).alloc _).cell (p := ⟨bx, 0, none⟩) hb5 (by simp)).trans b5)
      (first
        | (go_at_call 41; refine (kind_any t count _).mono ?_; rintro e w6 ⟨rfl, rfl⟩)
        | (go_at_call 25; refine (HN.out _ (HU0.out.drewN 1)).mono ?_; rintro e w5 ⟨c, r', rfl, hx, hcut, hc0, hra, hu5⟩; have hU1 : Upd [] W0 w5 := ((Upd.refl [] W0).drewN 1).next hu5; have HX := Lib.hid (And.intro hx (And.intro hcut (And.intro hc0 hra))); have b5 : w5.cell? ⟨bx, 0, none⟩ = some (.int .u8 t) := (hU1.cell (p := ⟨bx, 0, none⟩) hbl (by simp)).trans b0; have hb5 : bx < w5.heap.size := Nat.lt_of_lt_of_le hbl hU1.size; have nb5 : bx ≠ w5.heap.size := Nat.ne_of_lt hb5; have nb6 : bx ≠ w5.heap.size + 1 := (by omega); have nb7 : bx ≠ W0.heap.size := Nat.ne_of_lt hbl; clear hx hcut hc0 hra hu5)
        | (go_at_call 25; refine (HN.out _ ((HU0.out.drewN 1).alloc (.cells #[.pointer none] 105))).mono ?_; rintro e w5 ⟨c, r', rfl, hx, hcut, hc0, hra, hu5⟩; have hU1 : Upd [] W0 w5 := (((Upd.refl [] W0).drewN 1).alloc _).next hu5; have hq : Blk w5 W0.heap.size 105 #[.pointer none] := (Blk.new (W0.drewN 1) 105 #[.pointer none]).upd hu5 (by simp); have q0 : w5.cell? ⟨W0.heap.size, 0, none⟩ = some (.pointer none) := hq.cell 0; have qf := hq.frozen 0; have ql := hq.lt; have HQ := Lib.hid hq; have HX := Lib.hid (And.intro hx (And.intro hcut (And.intro hc0 hra))); have b5 : w5.cell? ⟨bx, 0, none⟩ = some (.int .u8 t) := (hU1.cell (p := ⟨bx, 0, none⟩) hbl (by simp)).trans b0; have hb5 : bx < w5.heap.size := Nat.lt_of_lt_of_le hbl hU1.size; have nb5 : bx ≠ w5.heap.size := Nat.ne_of_lt hb5; have nb6 : bx ≠ w5.heap.size + 1 := (by omega); have nb7 : bx ≠ W0.heap.size := Nat.ne_of_lt hbl; clear hx hcut hc0 hra hu5 hq))
    all_goals
      obtain ⟨hx, hcut, hc0, hra⟩ := HX.out
      have hcl := hcut.lower (lo' := w.heap.size) (Nat.le_trans HU0.out.size (by simp))
      have HXX := Lib.hid hx
      have HCL := Lib.hid hcl
      have HRA := Lib.hid hra
      have HC0 := Lib.hid hc0
      have hcc : w.heap.size ≤ c := (by have h1 := hc0; have h2 := HU0.out.size; simp at h1; omega)
      have hrr : w.heap.size ≤ w5.heap.size := Nat.le_trans HU0.out.size hU1.size
      have HCC := Lib.hid (And.intro hcc hrr)
      clear hx hcut hcl hra hc0 HX hcc hrr
      go_wp2
      go_meet
      case rel =>
        first
          | exact ⟨_, _, c, r', rfl, HXX.out, rd1 HCL.out (fun a ha => (HRA.out a ha).2), HCC.out, (hU1.alloc _).alloc _⟩
          | exact ⟨_, _, c, r', rfl, HXX.out, rd2 HCL.out (fun a ha => (HRA.out a ha).2), ⟨HCC.out.1, Nat.le_succ_of_le HCC.out.2⟩, (hU1.alloc _).alloc _⟩
          | exact ⟨_, _, c, r', rfl, HXX.out, rd4 HCL.out (fun a ha => (HRA.out a ha).2) HQ.out (fun a ha => by have := (HRA.out a ha).1; simp at this; omega), HCC.out, (hU1.setCell (.inr (Nat.le_refl _)) _).alloc _⟩
  obtain ⟨rv, rp, c, r', rfl, hx, hrd, hnew, hu⟩ := hcut
  have HNEW := Lib.hid hnew
  clear hnew
  obtain ⟨M1, M2, M3, M4, M5, M6, M7, q1, q2, q3, q4, q5, q6, q7, hb7, hu7⟩ := fill wc bx rv
  have qm := run_makeMap_plain (P := Try.prog) wc 111
  have hrd7 := hrd.more hu7
  rw [HK.out] at hrd7
  have v0 : M7.cell? ⟨rv, 0, none⟩ = some (.pointer (some ⟨rp, 0, none⟩)) := hrd7.bv.cell 0
  have k0 : M7.cell? ⟨rp, 2, none⟩ = some (.int .i64 4) := hrd7.cellAt 0 rfl
  have ql := look hb7 4 4 (fv 49 #[.pointer (some ⟨rv, 0, none⟩)]) rfl
  simp only [fv] at q1 q2 q3 q4 q5 q6 q7 ql
  have HC := Lib.hid (read5_any hrd7 (by rw [hx]; exact hb) rfl)
  rw [hx] at HC
  have HM7 := Lib.hid ((HM.out.upd hu (by simp)).upd hu7 (by simp))
  have NMC : Hid (mr ≠ c ∧ mr ≠ rp) := ⟨HM7.out.ne hrd7.cut.bl (by decide), HM7.out.ne hrd7.br (by decide)⟩
  have HU7 := Lib.hid ((HU0.out.next hu).next hu7)
  clear hx hrd hu hb7 hu7 hrd7 b0 HM HU0 HB hbl HN hl
  obtain ⟨⟨a1, xs1, er1⟩, hn1⟩ : ∃ q, q = numM r.xs 0 4 := ⟨_, rfl⟩
  rw [← hn1] at HC
  dsimp only at HC
  obtain ⟨⟨a2, xs2, er2⟩, hn2⟩ : ∃ q, q = numM xs1 er1 4 := ⟨_, rfl⟩
  rw [← hn2] at HC
  dsimp only at HC
  have HPL : Hid (pliM r.xs = if er2 = 0 then (((zcells 4).set 1 (.int .u32 a1)).set 2 (.int .u32 a2), 0) else (zcells 0, er2)) := by
    unfold pliM
    rw [← hn1]
    dsimp only
    rw [← hn2]
    exact Lib.hid rfl
  clear hn1 hn2
  go_wp2_with fail
  refine HC.out.mono ?_
  rintro e w7 ⟨r7, er7, rfl, hrd, her, hr7, hu7⟩
  obtain rfl : er2 = er7 := her.symm
  have hm7 : Blk w7 mr 59 (zcells 0).toArray := HM7.out.upd hu7 (by
    simp only [List.mem_cons, List.not_mem_nil, or_false, not_or]
    exact ⟨NMC.out.1, NMC.out.2⟩)
  have v7 : w7.cell? ⟨rv, 0, none⟩ = some (.pointer (some ⟨rp, 0, none⟩)) := hrd.bv.cell 0
  have c7 : w7.cell? ⟨rp, 0, none⟩ = some (.pointer (some ⟨c, 0, none⟩)) := hrd.br.cell 0
  have rc0 : w7.cell? ⟨rp, 2, none⟩ = some (.int .i64 4) := hrd.cellAt 0 rfl
  have rc1 : w7.cell? ⟨rp, 3, none⟩ = some (.int .u32 a1) := hrd.cellAt 1 rfl
  have rc2 : w7.cell? ⟨rp, 4, none⟩ = some (.int .u32 a2) := hrd.cellAt 2 rfl
  have rc3 : w7.cell? ⟨rp, 5, none⟩ = some (.int .u64 0) := hrd.cellAt 3 rfl
  have rc4 : w7.cell? ⟨rp, 6, none⟩ = some (.int .u32 0) := hrd.cellAt 4 rfl
  have rc5 : w7.cell? ⟨rp, 7, none⟩ = some (.int .u32 0) := hrd.cellAt 5 rfl
  have rc6 : w7.cell? ⟨rp, 8, none⟩ = some (.int .u32 0) := hrd.cellAt 6 rfl
  have rc7 : w7.cell? ⟨rp, 9, none⟩ = some (.slice none 0 0) := hrd.cellAt 7 rfl
  have rc8 : w7.cell? ⟨rp, 10, none⟩ = some (.slice none 0 0) := hrd.cellAt 8 rfl
  have rc9 : w7.cell? ⟨rp, 11, none⟩ = some (.slice none 0 0) := hrd.cellAt 9 rfl
  have rc10 : w7.cell? ⟨rp, 12, none⟩ = some (.slice none 0 0) := hrd.cellAt 10 rfl
  have rc11 : w7.cell? ⟨rp, 13, none⟩ = some (.int .u8 0) := hrd.cellAt 11 rfl
  have HE := Lib.hid (err_any hrd.cut)
  have mc0 : w7.cell? ⟨mr, 0, none⟩ = some (.int .i64 0) := hm7.cell 0
  have mf0 := hm7.frozen 0
  have mc1 : w7.cell? ⟨mr, 1, none⟩ = some (.int .u32 0) := hm7.cell 1
  have mf1 := hm7.frozen 1
  have mc2 : w7.cell? ⟨mr, 2, none⟩ = some (.int .u32 0) := hm7.cell 2
  have mf2 := hm7.frozen 2
  have mc3 : w7.cell? ⟨mr, 3, none⟩ = some (.int .u64 0) := hm7.cell 3
  have mf3 := hm7.frozen 3
  have mc4 : w7.cell? ⟨mr, 4, none⟩ = some (.int .u32 0) := hm7.cell 4
  have mf4 := hm7.frozen 4
  have mc5 : w7.cell? ⟨mr, 5, none⟩ = some (.int .u32 0) := hm7.cell 5
  have mf5 := hm7.frozen 5
  have mc6 : w7.cell? ⟨mr, 6, none⟩ = some (.int .u32 0) := hm7.cell 6
  have mf6 := hm7.frozen 6
  have mc7 : w7.cell? ⟨mr, 7, none⟩ = some (.slice none 0 0) := hm7.cell 7
  have mf7 := hm7.frozen 7
  have mc8 : w7.cell? ⟨mr, 8, none⟩ = some (.slice none 0 0) := hm7.cell 8
  have mf8 := hm7.frozen 8
  have mc9 : w7.cell? ⟨mr, 9, none⟩ = some (.slice none 0 0) := hm7.cell 9
  have mf9 := hm7.frozen 9
  have mc10 : w7.cell? ⟨mr, 10, none⟩ = some (.slice none 0 0) := hm7.cell 10
  have mf10 := hm7.frozen 10
  have mc11 : w7.cell? ⟨mr, 11, none⟩ = some (.int .u8 0) := hm7.cell 11
  have mf11 := hm7.frozen 11
  have hmrp : mr ≠ rp := NMC.out.2
  have HU := Lib.hid (HU7.out.trans hu7 (fun s hs => .inr (by
    simp only [List.mem_cons, List.not_mem_nil, or_false] at hs
    rcases hs with rfl | rfl
    · exact HNEW.out.1
    · exact HNEW.out.2)))
  clear hrd hm7 hr7 hu7 HC HM7 HU7 v0 k0 q1 q2 q3 q4 q5 q6 q7 ql qm
  go_wp2_with fail
  refine HE.out.mono ?_
  rintro e w8 ⟨rfl, rfl⟩
  by_cases he : er2 = 0
  · subst he
    clear HE
    go_wp2
    refine bodyPost_res (v := .tuple #[.agg #[.int .i64 4, .int .u32 a1, .int .u32 a2, .int .u64 0, .int .u32 0, .int .u32 0, .int .u32 0, .slice none 0 0, .slice none 0 0, .slice none 0 0, .slice none 0 0, .int .u8 0], .int .i64 0]) (by simp [results, Try.results30, go_sem, mc0, mc1, mc2, mc3, mc4, mc5, mc6, mc7, mc8, mc9, mc10, mc11, mf0, mf1, mf2, mf3, mf4, mf5, mf6, mf7, mf8, mf9, mf10, mf11]) rfl ⟨?_, ?_⟩
    · rw [HPL.out]; first | (rw [if_pos rfl]; rfl) | (rw [if_pos trivial]; rfl)
    · exact ((((((((((((HU.out.setCell (.inr HMR.out) _).setCell (.inr HMR.out) _).setCell (.inr HMR.out) _).setCell (.inr HMR.out) _).setCell (.inr HMR.out) _).setCell (.inr HMR.out) _).setCell (.inr HMR.out) _).setCell (.inr HMR.out) _).setCell (.inr HMR.out) _).setCell (.inr HMR.out) _).setCell (.inr HMR.out) _).setCell (.inr HMR.out) _)
  · have hne : ¬ er2 = 0 := he
    go_wp2_with fail
    refine HE.out.mono ?_
    rintro e w8 ⟨rfl, rfl⟩
    clear HE
    go_wp2
    refine bodyPost_res (v := .tuple #[.agg #[.int .i64 0, .int .u32 0, .int .u32 0, .int .u64 0, .int .u32 0, .int .u32 0, .int .u32 0, .slice none 0 0, .slice none 0 0, .slice none 0 0, .slice none 0 0, .int .u8 0], .int .i64 er2]) (by simp [results, Try.results30, go_sem, mc0, mc1, mc2, mc3, mc4, mc5, mc6, mc7, mc8, mc9, mc10, mc11, mf0, mf1, mf2, mf3, mf4, mf5, mf6, mf7, mf8, mf9, mf10, mf11]) rfl ⟨?_, ?_⟩
    · rw [HPL.out, if_neg he]; rfl
    · exact ((((((((((((HU.out.setCell (.inr HMR.out) _).setCell (.inr HMR.out) _).setCell (.inr HMR.out) _).setCell (.inr HMR.out) _).setCell (.inr HMR.out) _).setCell (.inr HMR.out) _).setCell (.inr HMR.out) _).setCell (.inr HMR.out) _).setCell (.inr HMR.out) _).setCell (.inr HMR.out) _).setCell (.inr HMR.out) _).setCell (.inr HMR.out) _)
end Go.Proofs.Ytgkejdjdccgjbaa
/- rtcp's read, of others. Conditions: no more than 100000 bytes. -/
namespace Go.Proofs.Ytgkejdjdccgjbaa
open Go Go.RowKit
set_option maxHeartbeats 400000

set_option maxRecDepth 100000 in
set_option maxHeartbeats 4000000 in
theorem read_other {w : World} {lo : Nat} {r : Rw} (h : RowIn w lo .u8 r) (hl : r.xs.length ≤ 100000) (t count : Int) (hk : kindM t count = 6) :
    Calls Try.prog 30 #[.int .u8 t, .int .i64 count, encR r] w fun e w' => e = .returned (.tuple #[.agg ((zcells 6).set 11 (.int .u8 t)).toArray, .int .i64 0]) ∧ Upd [] w w' := by
  obtain ⟨W0, hW0⟩ : ∃ W0, W0 = (w.alloc (.cells #[.int .u8 t] 5)).alloc (.cells (zcells 0).toArray 59) := ⟨_, rfl⟩
  have HK := Lib.hid hk
  clear hk
  have HN := Lib.hid (fun W : World => fun (hW : Upd [] w W) => cut_new (h.upd2 hW (by simp)) hl)
  unfold encR at HN ⊢
  unfold zcells at hW0
  go_enter Try.func30, Try.ntmps30
  go_upto_region 1 with fail
  have hB : Blk W0 w.heap.size 5 #[.int .u8 t] := by rw [hW0]; exact (Blk.new _ _ _).alloc _
  have hM : Blk W0 (w.heap.size + 1) 59 (zcells 0).toArray := by
    have := Blk.new (w.alloc (.cells #[.int .u8 t] 5)) 59 (zcells 0).toArray
    rw [World.size_alloc] at this
    rw [hW0]; exact this
  have hU0 : Upd [] w W0 := by rw [hW0]; exact ((Upd.refl [] w).alloc _).alloc _
  have hsz : W0.heap.size = w.heap.size + 1 + 1 := by rw [hW0]; simp
  rw [← hW0]
  obtain ⟨bx, hbx⟩ : ∃ bx, bx = w.heap.size := ⟨_, rfl⟩
  obtain ⟨mr, hmr⟩ : ∃ mr, mr = w.heap.size + 1 := ⟨_, rfl⟩
  have HMR : Hid (w.heap.size ≤ mr) := by rw [hmr]; exact Lib.hid (Nat.le_succ _)
  rw [← hmr] at hM ⊢
  rw [← hbx] at hB ⊢
  have HB := Lib.hid hB
  have HM := Lib.hid hM
  have HU0 := Lib.hid hU0
  have hbl := hB.lt
  have b0 : W0.cell? ⟨bx, 0, none⟩ = some (.int .u8 t) := hB.cell 0
  clear hW0 hbx hmr hB hM hU0 hsz h
  go_cut [8] (fun s8 wd => ∃ (rv rp c : Nat) (r' : Rw), s8 = .pointer (some ⟨rv, 0, none⟩) ∧ r'.xs = r.xs ∧ RdIs wd rv rp c w.heap.size count (zcells (kindM t count)) r' 0 ∧ (w.heap.size ≤ c ∧ w.heap.size ≤ rp) ∧ Upd [] W0 wd)
  case first =>
    go_region_held3 (fun w' => w'.cell? ⟨bx, 0, none⟩ = some (.int .u8 t)) (first | go_keep | exact b5 | exact ((((Upd.refl [W0.heap.size] w5).setCell (by simp) _).alloc _).cell (p := ⟨bx, 0, none⟩) hb5 (by simpa using nb7)).trans b5 | exact (((Upd.refl [] w5).alloc _).cell (p := ⟨bx, 0, none⟩) hb5 (by simp)).trans b5 | exact ((((Upd.refl [] w5).alloc _).alloc _).cell (p := ⟨bx, 0, none⟩) hb5 (by simp)).trans b5)
      (first
        | (go_at_call 41; refine (kind_any t count _).mono ?_; rintro e w6 ⟨rfl, rfl⟩)
        | (go_at_call 25; refine (HN.out _ (HU0.out.drewN 1)).mono ?_; rintro e w5 ⟨c, r', rfl, hx, hcut, hc0, hra, hu5⟩; have hU1 : Upd [] W0 w5 := ((Upd.refl [] W0).drewN 1).next hu5; have HX := Lib.hid (And.intro hx (And.intro hcut (And.intro hc0 hra))); have b5 : w5.cell? ⟨bx, 0, none⟩ = some (.int .u8 t) := (hU1.cell (p := ⟨bx, 0, none⟩) hbl (by simp)).trans b0; have hb5 : bx < w5.heap.size := Nat.lt_of_lt_of_le hbl hU1.size; have nb5 : bx ≠ w5.heap.size := Nat.ne_of_lt hb5; have nb6 : bx ≠ w5.heap.size + 1 := (by omega); have nb7 : bx ≠ W0.heap.size := Nat.ne_of_lt hbl; clear hx hcut hc0 hra hu5)
        | (go_at_call 25; refine (HN.out _ ((HU0.out.drewN 1).alloc (.cells #[.pointer none] 105))).mono ?_; rintro e w5 ⟨c, r', rfl, hx, hcut, hc0, hra, hu5⟩; have hU1 : Upd [] W0 w5 := (((Upd.refl [] W0).drewN 1).alloc _).next hu5; have hq : Blk w5 W0.heap.size 105 #[.pointer none] := (Blk.new (W0.drewN 1) 105 #[.pointer none]).upd hu5 (by simp); have q0 : w5.cell? ⟨W0.heap.size, 0, none⟩ = some (.pointer none) := hq.cell 0; have qf := hq.frozen 0; have ql := hq.lt; have HQ := Lib.hid hq; have HX := Lib.hid (And.intro hx (And.intro hcut (And.intro hc0 hra))); have b5 : w5.cell? ⟨bx, 0, none⟩ = some (.int .u8 t) := (hU1.cell (p := ⟨bx, 0, none⟩) hbl (by simp)).trans b0; have hb5 : bx < w5.heap.size := Nat.lt_of_lt_of_le hbl hU1.size; have nb5 : bx ≠ w5.heap.size := Nat.ne_of_lt hb5; have nb6 : bx ≠ w5.heap.size + 1 := (by omega); have nb7 : bx ≠ W0.heap.size := Nat.ne_of_lt hbl; clear hx hcut hc0 hra hu5 hq))
    all_goals
      obtain ⟨hx, hcut, hc0, hra⟩ := HX.out
      have hcl := hcut.lower (lo' := w.heap.size) (Nat.le_trans HU0.out.size (by simp))
      have HXX := Lib.hid hx
      have HCL := Lib.hid hcl
      have HRA := Lib.hid hra
      have HC0 := Lib.hid hc0
      have hcc : w.heap.size ≤ c := (by have h1 := hc0; have h2 := HU0.out.size; simp at h1; omega)
      have hrr : w.heap.size ≤ w5.heap.size := Nat.le_trans HU0.out.size hU1.size
      have HCC := Lib.hid (And.intro hcc hrr)
      clear hx hcut hcl hra hc0 HX hcc hrr
      go_wp2
      go_meet
      case rel =>
        first
          | exact ⟨_, _, c, r', rfl, HXX.out, rd1 HCL.out (fun a ha => (HRA.out a ha).2), HCC.out, (hU1.alloc _).alloc _⟩
          | exact ⟨_, _, c, r', rfl, HXX.out, rd2 HCL.out (fun a ha => (HRA.out a ha).2), ⟨HCC.out.1, Nat.le_succ_of_le HCC.out.2⟩, (hU1.alloc _).alloc _⟩
          | exact ⟨_, _, c, r', rfl, HXX.out, rd4 HCL.out (fun a ha => (HRA.out a ha).2) HQ.out (fun a ha => by have := (HRA.out a ha).1; simp at this; omega), HCC.out, (hU1.setCell (.inr (Nat.le_refl _)) _).alloc _⟩
  obtain ⟨rv, rp, c, r', rfl, hx, hrd, hnew, hu⟩ := hcut
  have HNEW := Lib.hid hnew
  clear hnew
  obtain ⟨M1, M2, M3, M4, M5, M6, M7, q1, q2, q3, q4, q5, q6, q7, hb7, hu7⟩ := fill wc bx rv
  have qm := run_makeMap_plain (P := Try.prog) wc 111
  have hrd7 := hrd.more hu7
  rw [HK.out] at hrd7
  have v0 : M7.cell? ⟨rv, 0, none⟩ = some (.pointer (some ⟨rp, 0, none⟩)) := hrd7.bv.cell 0
  have k0 : M7.cell? ⟨rp, 2, none⟩ = some (.int .i64 6) := hrd7.cellAt 0 rfl
  have ql := look hb7 6 6 (fv 51 #[.pointer (some ⟨bx, 0, none⟩), .pointer (some ⟨rv, 0, none⟩)]) rfl
  simp only [fv] at q1 q2 q3 q4 q5 q6 q7 ql
  have HC := Lib.hid (read7_any hrd7 ((HB.out.upd hu (by simp)).upd hu7 (by simp)) rfl)
  have HM7 := Lib.hid ((HM.out.upd hu (by simp)).upd hu7 (by simp))
  have NMC : Hid (mr ≠ c ∧ mr ≠ rp) := ⟨HM7.out.ne hrd7.cut.bl (by decide), HM7.out.ne hrd7.br (by decide)⟩
  have HU7 := Lib.hid ((HU0.out.next hu).next hu7)
  clear hx hrd hu hb7 hu7 hrd7 b0 HM HU0 HB hbl HN hl
  go_wp2_with fail
  refine HC.out.mono ?_
  rintro e w7 ⟨rfl, hrd, hu7⟩
  have hm7 : Blk w7 mr 59 (zcells 0).toArray := HM7.out.upd hu7 (by
    rw [List.mem_singleton]
    exact NMC.out.2)
  have v7 : w7.cell? ⟨rv, 0, none⟩ = some (.pointer (some ⟨rp, 0, none⟩)) := hrd.bv.cell 0
  have c7 : w7.cell? ⟨rp, 0, none⟩ = some (.pointer (some ⟨c, 0, none⟩)) := hrd.br.cell 0
  have rc0 : w7.cell? ⟨rp, 2, none⟩ = some (.int .i64 6) := hrd.cellAt 0 rfl
  have rc1 : w7.cell? ⟨rp, 3, none⟩ = some (.int .u32 0) := hrd.cellAt 1 rfl
  have rc2 : w7.cell? ⟨rp, 4, none⟩ = some (.int .u32 0) := hrd.cellAt 2 rfl
  have rc3 : w7.cell? ⟨rp, 5, none⟩ = some (.int .u64 0) := hrd.cellAt 3 rfl
  have rc4 : w7.cell? ⟨rp, 6, none⟩ = some (.int .u32 0) := hrd.cellAt 4 rfl
  have rc5 : w7.cell? ⟨rp, 7, none⟩ = some (.int .u32 0) := hrd.cellAt 5 rfl
  have rc6 : w7.cell? ⟨rp, 8, none⟩ = some (.int .u32 0) := hrd.cellAt 6 rfl
  have rc7 : w7.cell? ⟨rp, 9, none⟩ = some (.slice none 0 0) := hrd.cellAt 7 rfl
  have rc8 : w7.cell? ⟨rp, 10, none⟩ = some (.slice none 0 0) := hrd.cellAt 8 rfl
  have rc9 : w7.cell? ⟨rp, 11, none⟩ = some (.slice none 0 0) := hrd.cellAt 9 rfl
  have rc10 : w7.cell? ⟨rp, 12, none⟩ = some (.slice none 0 0) := hrd.cellAt 10 rfl
  have rc11 : w7.cell? ⟨rp, 13, none⟩ = some (.int .u8 t) := hrd.cellAt 11 rfl
  have HE := Lib.hid (err_any hrd.cut)
  have mc0 : w7.cell? ⟨mr, 0, none⟩ = some (.int .i64 0) := hm7.cell 0
  have mf0 := hm7.frozen 0
  have mc1 : w7.cell? ⟨mr, 1, none⟩ = some (.int .u32 0) := hm7.cell 1
  have mf1 := hm7.frozen 1
  have mc2 : w7.cell? ⟨mr, 2, none⟩ = some (.int .u32 0) := hm7.cell 2
  have mf2 := hm7.frozen 2
  have mc3 : w7.cell? ⟨mr, 3, none⟩ = some (.int .u64 0) := hm7.cell 3
  have mf3 := hm7.frozen 3
  have mc4 : w7.cell? ⟨mr, 4, none⟩ = some (.int .u32 0) := hm7.cell 4
  have mf4 := hm7.frozen 4
  have mc5 : w7.cell? ⟨mr, 5, none⟩ = some (.int .u32 0) := hm7.cell 5
  have mf5 := hm7.frozen 5
  have mc6 : w7.cell? ⟨mr, 6, none⟩ = some (.int .u32 0) := hm7.cell 6
  have mf6 := hm7.frozen 6
  have mc7 : w7.cell? ⟨mr, 7, none⟩ = some (.slice none 0 0) := hm7.cell 7
  have mf7 := hm7.frozen 7
  have mc8 : w7.cell? ⟨mr, 8, none⟩ = some (.slice none 0 0) := hm7.cell 8
  have mf8 := hm7.frozen 8
  have mc9 : w7.cell? ⟨mr, 9, none⟩ = some (.slice none 0 0) := hm7.cell 9
  have mf9 := hm7.frozen 9
  have mc10 : w7.cell? ⟨mr, 10, none⟩ = some (.slice none 0 0) := hm7.cell 10
  have mf10 := hm7.frozen 10
  have mc11 : w7.cell? ⟨mr, 11, none⟩ = some (.int .u8 0) := hm7.cell 11
  have mf11 := hm7.frozen 11
  have hmrp : mr ≠ rp := NMC.out.2
  have HU := Lib.hid (HU7.out.trans hu7 (fun s hs => .inr (by
    rw [List.mem_singleton] at hs
    subst hs
    exact HNEW.out.2)))
  clear hrd hm7 hu7 HC HM7 HU7 v0 k0 q1 q2 q3 q4 q5 q6 q7 ql qm
  go_wp2_with fail
  refine HE.out.mono ?_
  rintro e w8 ⟨rfl, rfl⟩
  clear HE
  go_wp2
  exact bodyPost_res (v := .tuple #[.agg #[.int .i64 6, .int .u32 0, .int .u32 0, .int .u64 0, .int .u32 0, .int .u32 0, .int .u32 0, .slice none 0 0, .slice none 0 0, .slice none 0 0, .slice none 0 0, .int .u8 t], .int .i64 0]) (by simp [results, Try.results30, go_sem, mc0, mc1, mc2, mc3, mc4, mc5, mc6, mc7, mc8, mc9, mc10, mc11, mf0, mf1, mf2, mf3, mf4, mf5, mf6, mf7, mf8, mf9, mf10, mf11]) rfl ⟨rfl, ((((((((((((HU.out.setCell (.inr HMR.out) _).setCell (.inr HMR.out) _).setCell (.inr HMR.out) _).setCell (.inr HMR.out) _).setCell (.inr HMR.out) _).setCell (.inr HMR.out) _).setCell (.inr HMR.out) _).setCell (.inr HMR.out) _).setCell (.inr HMR.out) _).setCell (.inr HMR.out) _).setCell (.inr HMR.out) _).setCell (.inr HMR.out) _)⟩
end Go.Proofs.Ytgkejdjdccgjbaa
/- rtcp's Parse, of nothing, and of one message. Conditions: no more than 1500 bytes; no padding; the message is one that is read. -/
namespace Go.Proofs.Ytgkejdjdccgjbaa
open Go Go.RowKit
set_option maxHeartbeats 400000

set_option maxRecDepth 100000 in
set_option maxHeartbeats 2000000 in
theorem parse_nil (w : World) : Calls Try.prog 14 #[.slice none 0 0] w fun e w' => e = .returned (.tuple #[.slice none 0 0, .int .i64 10]) ∧ Upd [] w w' := by
  have HN := Lib.hid (cut_new (w := w) (lo := 0) (r := ⟨none, 0, []⟩) RowIn.nil (by simp))
  unfold encR at HN
  dsimp only [List.length_nil] at HN
  go_enter Try.func14, Try.ntmps14
  go_wp2_with fail
  refine HN.out.mono ?_
  rintro e w1 ⟨c, r, rfl, hx, hcut, hc0, _, hu⟩
  have HC := Lib.hid hcut
  have HU := Lib.hid hu
  have HX := Lib.hid hx
  have HC0 := Lib.hid hc0
  clear hx hcut hc0 hu HN
  go_wp2
  go_loopg [5] 1 (fun gk x5 wr => x5 = .slice none 0 0 ∧ wr = w1)
  case atStart => exact ⟨rfl, rfl⟩
  case round =>
    obtain ⟨rfl, rfl⟩ := hrel
    have HL := Lib.hid (left_any HC.out)
    rw [HX.out] at HL
    dsimp only [List.length_nil] at HL
    have HB := Lib.hid (bytes_short HC.out 4 (by rw [HX.out]; decide))
    go_wp2_with fail
    refine HL.out.mono ?_
    rintro e w2 ⟨rfl, rfl⟩
    go_wp2_with fail
    refine HB.out.mono ?_
    rintro e w3 ⟨rfl, h3, hu3⟩
    have HE := Lib.hid (err_any h3)
    have HU3 := Lib.hid (HU.out.trans hu3 (fun s hs => .inr (by rw [List.mem_singleton] at hs; subst hs; exact HC0.out)))
    clear h3 hu3
    go_wp2_with fail
    refine HE.out.mono ?_
    rintro e w4 ⟨rfl, rfl⟩
    go_wp2
    exact bodyPost_res (v := .tuple #[.slice none 0 0, .int .i64 10]) (by simp [results, Try.results14, go_sem]) rfl ⟨rfl, HU3.out⟩
end Go.Proofs.Ytgkejdjdccgjbaa
/- rtcp's Parse of one message. Conditions: no more than 1500 bytes; no padding; the message is one that is read. -/
namespace Go.Proofs.Ytgkejdjdccgjbaa
open Go Go.RowKit
set_option maxHeartbeats 400000

theorem infoM : (Try.prog.info? 59).map (fun i => (i.zero, i.size, i.bytes)) = some (some (.agg (zcells 0).toArray), 12, 144) := by kernel_rfl
theorem bv64 (n : Nat) (h : n < 18446744073709551616) : (BitVec.ofInt 64 (n : Int)).toNat = n := by
  rw [BitVec.toNat_ofInt]
  omega
theorem or_int (x y : Int) (h0 : 0 ≤ x) (h1 : x ≤ 255) (h2 : 0 ≤ y) (h3 : y ≤ 255) : bits .or .i64 (x * 256) y = x * 256 + y := by
  obtain ⟨a, rfl⟩ : ∃ a : Nat, x = a := ⟨x.toNat, by omega⟩
  obtain ⟨b, rfl⟩ : ∃ b : Nat, y = b := ⟨y.toNat, by omega⟩
  have e : 256 * a ||| b = 256 * a + b := (Nat.two_pow_add_eq_or_of_lt (i := 8) (by omega) a).symm
  rw [show (a : Int) * 256 = ((256 * a : Nat) : Int) by omega]
  show IntKind.i64.wrap ((BitVec.ofInt 64 ((256 * a : Nat) : Int) ||| BitVec.ofInt 64 (b : Int)).toNat : Int) = _
  rw [BitVec.toNat_or, bv64 _ (by omega), bv64 _ (by omega), e]
  rw [IntWalk.i64_in _ (by omega)]
  omega
theorem set12_cell (w : World) (g : Nat) (v0 v1 v2 v3 v4 v5 v6 v7 v8 v9 v10 v11 : Value) {p : Addr} {u : Value} (hp : p.block ≠ g) (h : w.cell? p = some u) : ((((((((((((w.setCell ⟨g, 0, none⟩ v0).setCell ⟨g, 1, none⟩ v1).setCell ⟨g, 2, none⟩ v2).setCell ⟨g, 3, none⟩ v3).setCell ⟨g, 4, none⟩ v4).setCell ⟨g, 5, none⟩ v5).setCell ⟨g, 6, none⟩ v6).setCell ⟨g, 7, none⟩ v7).setCell ⟨g, 8, none⟩ v8).setCell ⟨g, 9, none⟩ v9).setCell ⟨g, 10, none⟩ v10).setCell ⟨g, 11, none⟩ v11).cell? p = some u := by
  rw [World.cell?_setCell_far _ _ _ _ (by exact hp.symm), World.cell?_setCell_far _ _ _ _ (by exact hp.symm), World.cell?_setCell_far _ _ _ _ (by exact hp.symm), World.cell?_setCell_far _ _ _ _ (by exact hp.symm), World.cell?_setCell_far _ _ _ _ (by exact hp.symm), World.cell?_setCell_far _ _ _ _ (by exact hp.symm), World.cell?_setCell_far _ _ _ _ (by exact hp.symm), World.cell?_setCell_far _ _ _ _ (by exact hp.symm), World.cell?_setCell_far _ _ _ _ (by exact hp.symm), World.cell?_setCell_far _ _ _ _ (by exact hp.symm), World.cell?_setCell_far _ _ _ _ (by exact hp.symm), World.cell?_setCell_far _ _ _ _ (by exact hp.symm)]
  exact h
theorem set12_upd {S : List Nat} {a w : World} (g : Nat) (v0 v1 v2 v3 v4 v5 v6 v7 v8 v9 v10 v11 : Value) (h : Upd S a w) (hg : g ∈ S ∨ a.heap.size ≤ g) : Upd S a ((((((((((((w.setCell ⟨g, 0, none⟩ v0).setCell ⟨g, 1, none⟩ v1).setCell ⟨g, 2, none⟩ v2).setCell ⟨g, 3, none⟩ v3).setCell ⟨g, 4, none⟩ v4).setCell ⟨g, 5, none⟩ v5).setCell ⟨g, 6, none⟩ v6).setCell ⟨g, 7, none⟩ v7).setCell ⟨g, 8, none⟩ v8).setCell ⟨g, 9, none⟩ v9).setCell ⟨g, 10, none⟩ v10).setCell ⟨g, 11, none⟩ v11) :=
  (((((((((((h.setCell (p := ⟨g, 0, none⟩) hg _).setCell (p := ⟨g, 1, none⟩) hg _).setCell (p := ⟨g, 2, none⟩) hg _).setCell (p := ⟨g, 3, none⟩) hg _).setCell (p := ⟨g, 4, none⟩) hg _).setCell (p := ⟨g, 5, none⟩) hg _).setCell (p := ⟨g, 6, none⟩) hg _).setCell (p := ⟨g, 7, none⟩) hg _).setCell (p := ⟨g, 8, none⟩) hg _).setCell (p := ⟨g, 9, none⟩) hg _).setCell (p := ⟨g, 10, none⟩) hg _).setCell (p := ⟨g, 11, none⟩) hg _
theorem set12_blk {w : World} {g : Nat} {t : TypeId} (u0 u1 u2 u3 u4 u5 u6 u7 u8 u9 u10 u11 v0 v1 v2 v3 v4 v5 v6 v7 v8 v9 v10 v11 : Value) (h : Blk w g t #[u0, u1, u2, u3, u4, u5, u6, u7, u8, u9, u10, u11]) : Blk ((((((((((((w.setCell ⟨g, 0, none⟩ v0).setCell ⟨g, 1, none⟩ v1).setCell ⟨g, 2, none⟩ v2).setCell ⟨g, 3, none⟩ v3).setCell ⟨g, 4, none⟩ v4).setCell ⟨g, 5, none⟩ v5).setCell ⟨g, 6, none⟩ v6).setCell ⟨g, 7, none⟩ v7).setCell ⟨g, 8, none⟩ v8).setCell ⟨g, 9, none⟩ v9).setCell ⟨g, 10, none⟩ v10).setCell ⟨g, 11, none⟩ v11) g t #[v0, v1, v2, v3, v4, v5, v6, v7, v8, v9, v10, v11] := by
  have := (((((((((((h.store 0 v0).store 1 v1).store 2 v2).store 3 v3).store 4 v4).store 5 v5).store 6 v6).store 7 v7).store 8 v8).store 9 v9).store 10 v10).store 11 v11
  simpa using this
set_option maxRecDepth 100000 in
set_option maxHeartbeats 1000000 in
theorem parse_one {w : World} {lo : Nat} {r : Rw} (h : RowIn w lo .u8 r) (x0 x1 x2 x3 : Int) (body : List Int) (hr : r.xs = x0 :: x1 :: x2 :: x3 :: body) (hl : body.length ≤ 1000) (hb : Byt r.xs)
    (h0 : 128 ≤ x0 ∧ x0 < 160) (h1 : 192 ≤ x1 ∧ x1 ≤ 223) (hn : 4 * (x2 * 256 + x3) = body.length) (m : Mg) (hd : Hd)
    (HRead : ∀ (W : World) (lo' : Nat) (q : Rw), RowIn W lo' .u8 q → q.xs = body → Calls Try.prog 30 #[.int .u8 x1, .int .i64 (x0 % 32), encR q] W fun e w' => e = .returned (.tuple #[.agg (mcells m hd).toArray, .int .i64 0]) ∧ Upd [] W w') :
    Calls Try.prog 14 #[encR r] w fun e w' => ∃ v, e = .returned (.tuple #[v, .int .i64 0]) ∧ w'.ownsRow w.heap.size 59 12 v 1 (mcells m hd) ∧ Upd [] w w' := by
  obtain ⟨j0, hj0, hy0, hy1, hy2⟩ := info_parts infoM
  have hbx0 := hb x0 (by rw [hr]; simp)
  have hbx1 := hb x1 (by rw [hr]; simp)
  have hbx2 := hb x2 (by rw [hr]; simp)
  have hbx3 := hb x3 (by rw [hr]; simp)
  have hlr : r.xs.length = body.length + 4 := by rw [hr]; simp
  have HN := Lib.hid (cut_new h (by omega))
  have HRD := Lib.hid HRead
  simp only [mcells] at HRD ⊢
  have HR := Lib.hid hr
  have hbl : (r.xs.length : Int) ≤ 1004 := by omega
  have hbp : (0 : Int) < (r.xs.length : Int) := by omega
  have hL4 : 4 ≤ r.xs.length := by omega
  have hnb : ¬ (1500 : Int) < (r.xs.length : Int) := by omega
  obtain ⟨L, hL⟩ : ∃ L, L = r.xs.length := ⟨_, rfl⟩
  unfold encR at HN ⊢
  have HLL := Lib.hid hL
  rw [← hL] at HN hbl hbp hnb hL4 ⊢
  clear h hb hr HRead hlr hL
  go_enter Try.func14, Try.ntmps14
  go_wp2_with fail
  refine HN.out.mono ?_
  rintro e w1 ⟨c, ra, rfl, hx, hcut, hc0, hra, hu⟩
  have HC := Lib.hid hcut
  have HU := Lib.hid hu
  have HX := Lib.hid hx
  have HC0 := Lib.hid hc0
  clear hx hcut hc0 hu HN hra
  go_wp2
  go_loopg [5] 2 (fun gk x5 wr => (1 ≤ gk ∧ x5 = .slice none 0 0 ∧ wr = w1) ∨ ∃ (re : Rw), re.xs = [] ∧ CutIs wr c w.heap.size re 0 ∧ wr.ownsRow w.heap.size 59 12 x5 1 [.int .i64 m.kind, .int .u32 m.ssrc, .int .u32 m.media, .int .u64 m.clock, .int .u32 m.time, .int .u32 m.packets, .int .u32 m.bytes, .slice hd.rA m.reports.length hd.rc, .slice hd.wA m.who.length hd.wc, .slice hd.pA m.pairs.length hd.pc, .slice hd.aA m.asks.length hd.ac, .int .u8 m.type] ∧ Upd [] w wr)
  case atStart => exact .inl ⟨by decide, rfl, rfl⟩
  case round =>
    rcases hrel with ⟨hgk, rfl, rfl⟩ | ⟨re, hre, hce, hoe, hue⟩
    · have HL := Lib.hid (left_any HC.out)
      have hla : ra.xs.length = L := by rw [HX.out, HLL.out]
      rw [hla] at HL
      have HB := Lib.hid (bytes_yes HC.out 4 (by rw [hla]; omega))
      clear hla
      go_wp2_with fail
      refine HL.out.mono ?_
      rintro e w2 ⟨rfl, rfl⟩
      go_wp2_with fail
      refine HB.out.mono ?_
      rintro e w2 ⟨q, rb, rfl, hq1, hq2, hq3, hq4, hq5, hq6, _, hq7⟩
      have hqx : q.xs = [x0, x1, x2, x3] := by rw [hq1, HX.out, HR.out]; rfl
      have hrb : rb.xs = body := by rw [hq3, HX.out, HR.out]; rfl
      obtain ⟨b, off, hA, hbb1, hbb2, hcc⟩ := hq4.at (by rw [hqx]; simp)
      have HIS := Lib.hid (is_any hq4 (by rw [hqx]; intro z hz; simp at hz; rcases hz with rfl | rfl | rfl | rfl <;> assumption))
      have hism : isM q.xs = true := by rw [hqx]; simp [isM]; omega
      rw [hism] at HIS
      have hbc : b ≠ c := (hq5 _ hA).1
      obtain ⟨qA, qc, qx⟩ := q
      dsimp only at hqx hA hq2
      subst hqx
      subst hA
      subst hq2
      have e0 := hcc 0 x0 rfl
      have e1 := hcc 1 x1 rfl
      have e2 := hcc 2 x2 rfl
      have e3 := hcc 3 x3 rfl
      rw [Nat.add_zero] at e0
      have HE := Lib.hid (err_any hq6)
      have HC2 := Lib.hid hq6
      have HRB := Lib.hid hrb
      have HU2 := Lib.hid (HU.out.trans hq7 (fun s hs => .inr (by rw [List.mem_singleton] at hs; subst hs; exact HC0.out)))
      clear hq1 hq3 hq4 hq5 hq6 hq7 hism hcc hrb HB HL
      unfold encR at HIS ⊢
      dsimp only [List.length_cons, List.length_nil] at HIS ⊢
      go_wp2_with fail
      refine HE.out.mono ?_
      rintro e w3 ⟨rfl, rfl⟩
      go_wp2_with fail
      refine HIS.out.mono ?_
      rintro e w3 ⟨rfl, rfl⟩
      go_wp2_with fail
      have ho := or_int x2 x3 hbx2.1 hbx2.2 hbx3.1 hbx3.2
      have hx2a := hbx2.1
      have hx2b := hbx2.2
      have hx3a := hbx3.1
      have hx3b := hbx3.2
      refine wp_moves_quiet_tail 1 12 (by kernel_rfl) (by kernel_rfl) (fun _ _ _ _ h => h) ?_
      simp only [List.take_succ_cons, List.take_zero, List.drop_succ_cons, List.drop_zero]
      repeat (go_big_quiet_step (fail))
      refine wpQuiet_nil (show wpQuiet _ _ _ _ _ _ from ?_)
      repeat (go_big_quiet_step (fail))
      refine wpQuiet_nil ?_
      rintro _ ⟨nq, rfl⟩
      have HB := Lib.hid (bytes_yes (HC2.out.more ((Upd.refl [] w2).drewN nq)) body.length (by rw [HRB.out]; exact Nat.le_refl _))
      go_wp2_with fail
      refine HB.out.mono ?_
      rintro e w4 ⟨q, rd, rfl, hq1, hq2, hq3, hq4, hq5, hq6, _, hq7⟩
      have hqx : q.xs = body := by rw [hq1, HRB.out, List.take_of_length_le (Nat.le_refl _)]
      have hrd : rd.xs = [] := by rw [hq3, HRB.out, List.drop_of_length_le (Nat.le_refl _)]
      obtain ⟨A2, k2, qx⟩ := q
      dsimp only at hqx hq2
      subst hqx
      subst hq2
      have hk : ∀ p : Addr, p.block = b → w4.cell? p = w2.cell? p := fun p hp => hq7.cell (w := w2.drewN nq) (by rw [hp]; exact hbb2) (by rw [hp]; simpa using hbc)
      have f0 := (hk ⟨b, off, none⟩ rfl).trans e0
      have f1 := (hk ⟨b, off + 1, none⟩ rfl).trans e1
      have hbb4 : b < w4.heap.size := Nat.lt_of_lt_of_le hbb2 hq7.size
      have nb4 : b ≠ w4.heap.size := Nat.ne_of_lt hbb4
      have ha0 : bits .and .u8 x0 32 = 0 := by rw [and32 x0 hbx0.1 hbx0.2]; omega
      have ha1 := and31 x0 hbx0.1 hbx0.2
      have ha2 : IntKind.i64.wrap (x0 % 32) = x0 % 32 := IntWalk.i64_in _ (by omega)
      have HE2 := Lib.hid (err_any hq6)
      have HC4 := Lib.hid hq6
      have HRW := Lib.hid hq4
      have HRE := Lib.hid hrd
      have HU4 := Lib.hid ((HU2.out.drewN nq).trans hq7 (fun s hs => .inr (by rw [List.mem_singleton] at hs; subst hs; exact HC0.out)))
      unfold encR
      dsimp only
      clear hq1 hq3 hq4 hq5 hq6 hq7 hrd HB HC2 HU2 e0 e1 e2 e3 hk ho hn
      go_wp2_with fail
      refine HE2.out.mono ?_
      rintro e w5 ⟨rfl, rfl⟩
      go_upto_region 21 with fail
      have HRD2 := Lib.hid (fun (W : World) (hW : Upd [] w4 W) => HRD.out W w.heap.size ⟨A2, qx.length, qx⟩ (HRW.out.upd2 hW (by simp)) rfl)
      simp only [encR] at HRD2
      go_cut [12, 13] (fun s12 s13 wd => ∃ bx, s12 = .pointer (some ⟨bx, 0, none⟩) ∧ s13 = .int .i64 0 ∧ Blk wd bx 59 #[.int .i64 m.kind, .int .u32 m.ssrc, .int .u32 m.media, .int .u64 m.clock, .int .u32 m.time, .int .u32 m.packets, .int .u32 m.bytes, .slice hd.rA m.reports.length hd.rc, .slice hd.wA m.who.length hd.wc, .slice hd.pA m.pairs.length hd.pc, .slice hd.aA m.asks.length hd.ac, .int .u8 m.type] ∧ w4.heap.size ≤ bx ∧ Upd [] w4 wd)
      case first =>
        go_region_held3 (fun w' => w'.cell? ⟨b, off, none⟩ = some (.int .u8 x0) ∧ w'.cell? ⟨b, off + 1, none⟩ = some (.int .u8 x1)) (first | (have hh := HQ; first | (with_reducible exact ⟨g0, g1⟩) | (with_reducible exact ⟨set12_cell _ _ _ _ _ _ _ _ _ _ _ _ _ _ nb4 g0, set12_cell _ _ _ _ _ _ _ _ _ _ _ _ _ _ nb4 g1⟩)) | (have hh := HArmA; first | (with_reducible exact ⟨g0, g1⟩) | (with_reducible exact ⟨(((Upd.refl [] w6).alloc _).cell (p := ⟨b, off, none⟩) hbb6 (by simp)).trans g0, (((Upd.refl [] w6).alloc _).cell (p := ⟨b, off + 1, none⟩) hbb6 (by simp)).trans g1⟩)| go_keep) | go_keep)
          (first
            | (go_at_call 30; have hx9 := HRD2.out w4.drew ((Upd.refl [] w4).drewN 1); refine hx9.mono ?_; clear hx9; rintro e w6 ⟨rfl, hu6⟩; have hU1 : Upd [] w4 w6 := ((Upd.refl [] w4).drewN 1).next hu6; have g0 := (hU1.cell (p := ⟨b, off, none⟩) hbb4 (by simp)).trans f0; have g1 := (hU1.cell (p := ⟨b, off + 1, none⟩) hbb4 (by simp)).trans f1; have hbb6 : b < w6.heap.size := Nat.lt_of_lt_of_le hbb4 hU1.size; have HArmA := Lib.hid (True.intro); clear hu6)
            | (go_at_call 30; have hx9 := HRD2.out (w4.drew.alloc (.cells #[.int .i64 0, .int .u32 0, .int .u32 0, .int .u64 0, .int .u32 0, .int .u32 0, .int .u32 0, .slice none 0 0, .slice none 0 0, .slice none 0 0, .slice none 0 0, .int .u8 0] 59)) (((Upd.refl [] w4).drewN 1).alloc _); refine hx9.mono ?_; clear hx9; rintro e w6 ⟨rfl, hu6⟩; have hU1 : Upd [] w4 w6 := (((Upd.refl [] w4).drewN 1).alloc _).next hu6; have g0 := (hU1.cell (p := ⟨b, off, none⟩) hbb4 (by simp)).trans f0; have g1 := (hU1.cell (p := ⟨b, off + 1, none⟩) hbb4 (by simp)).trans f1; have hbb6 : b < w6.heap.size := Nat.lt_of_lt_of_le hbb4 hU1.size; have hq : Blk w6 w4.heap.size 59 (zcells 0).toArray := (Blk.new (w4.drewN 1) 59 (zcells 0).toArray).upd hu6 (by simp); have m0 : w6.cell? ⟨w4.heap.size, 0, none⟩ = some (.int .i64 0) := hq.cell 0; have n0 := hq.frozen 0; have m1 : w6.cell? ⟨w4.heap.size, 1, none⟩ = some (.int .u32 0) := hq.cell 1; have n1 := hq.frozen 1; have m2 : w6.cell? ⟨w4.heap.size, 2, none⟩ = some (.int .u32 0) := hq.cell 2; have n2 := hq.frozen 2; have m3 : w6.cell? ⟨w4.heap.size, 3, none⟩ = some (.int .u64 0) := hq.cell 3; have n3 := hq.frozen 3; have m4 : w6.cell? ⟨w4.heap.size, 4, none⟩ = some (.int .u32 0) := hq.cell 4; have n4 := hq.frozen 4; have m5 : w6.cell? ⟨w4.heap.size, 5, none⟩ = some (.int .u32 0) := hq.cell 5; have n5 := hq.frozen 5; have m6 : w6.cell? ⟨w4.heap.size, 6, none⟩ = some (.int .u32 0) := hq.cell 6; have n6 := hq.frozen 6; have m7 : w6.cell? ⟨w4.heap.size, 7, none⟩ = some (.slice none 0 0) := hq.cell 7; have n7 := hq.frozen 7; have m8 : w6.cell? ⟨w4.heap.size, 8, none⟩ = some (.slice none 0 0) := hq.cell 8; have n8 := hq.frozen 8; have m9 : w6.cell? ⟨w4.heap.size, 9, none⟩ = some (.slice none 0 0) := hq.cell 9; have n9 := hq.frozen 9; have m10 : w6.cell? ⟨w4.heap.size, 10, none⟩ = some (.slice none 0 0) := hq.cell 10; have n10 := hq.frozen 10; have m11 : w6.cell? ⟨w4.heap.size, 11, none⟩ = some (.int .u8 0) := hq.cell 11; have n11 := hq.frozen 11; have hql := hq.lt; have HQ := Lib.hid hq; clear hu6 hq))
        all_goals clear f0 f1 HRD2 HRD HRW
        all_goals go_wp2
        all_goals go_meet
        all_goals
          first
            | (have hh := HArmA; exact ⟨w6.heap.size, rfl, rfl, Blk.new _ _ _, hU1.size, hU1.alloc _⟩)
            | (have hh := HQ; exact ⟨w4.heap.size, rfl, rfl, set12_blk _ _ _ _ _ _ _ _ _ _ _ _ _ _ _ _ _ _ _ _ _ _ _ _ HQ.out, Nat.le_refl _, set12_upd _ _ _ _ _ _ _ _ _ _ _ _ _ hU1 (.inr (Nat.le_refl _))⟩)
      obtain ⟨bx, rfl, rfl, hblk, hbx, hud⟩ := hcut
      have z0 : wc.cell? ⟨bx, 0, none⟩ = some (.int .i64 m.kind) := hblk.cell 0
      have z1 : wc.cell? ⟨bx, 1, none⟩ = some (.int .u32 m.ssrc) := hblk.cell 1
      have z2 : wc.cell? ⟨bx, 2, none⟩ = some (.int .u32 m.media) := hblk.cell 2
      have z3 : wc.cell? ⟨bx, 3, none⟩ = some (.int .u64 m.clock) := hblk.cell 3
      have z4 : wc.cell? ⟨bx, 4, none⟩ = some (.int .u32 m.time) := hblk.cell 4
      have z5 : wc.cell? ⟨bx, 5, none⟩ = some (.int .u32 m.packets) := hblk.cell 5
      have z6 : wc.cell? ⟨bx, 6, none⟩ = some (.int .u32 m.bytes) := hblk.cell 6
      have z7 : wc.cell? ⟨bx, 7, none⟩ = some (.slice hd.rA m.reports.length hd.rc) := hblk.cell 7
      have z8 : wc.cell? ⟨bx, 8, none⟩ = some (.slice hd.wA m.who.length hd.wc) := hblk.cell 8
      have z9 : wc.cell? ⟨bx, 9, none⟩ = some (.slice hd.pA m.pairs.length hd.pc) := hblk.cell 9
      have z10 : wc.cell? ⟨bx, 10, none⟩ = some (.slice hd.aA m.asks.length hd.ac) := hblk.cell 10
      have z11 : wc.cell? ⟨bx, 11, none⟩ = some (.int .u8 m.type) := hblk.cell 11
      have HCD := Lib.hid (HC4.out.more hud)
      have HUD := Lib.hid (HU4.out.next (hud.more (by simp)))
      clear hblk hud HRD2 HRD HRW HC4 HU4 f0 f1 HE2 HIS HE
      go_wp2_with (at_builtin; refine wpList_append_own_at _ rfl (.tmp 87) (.tmp 89) 22 rfl w.heap.size 59 j0 _ 12 144 Try.underlying22 hj0 hy0 hy1 hy2 rfl (by decide) _ 0 [] rfl (World.ownsRow_nil _ _ _ _) ⟨wc.heap.size, 0, none⟩ 1 1 [.int .i64 m.kind, .int .u32 m.ssrc, .int .u32 m.media, .int .u64 m.clock, .int .u32 m.time, .int .u32 m.packets, .int .u32 m.bytes, .slice hd.rA m.reports.length hd.rc, .slice hd.wA m.who.length hd.wc, .slice hd.pA m.pairs.length hd.pc, .slice hd.aA m.asks.length hd.ac, .int .u8 m.type] rfl rfl ?u1 ?u2 ?u3 ?u4 ?u5 ?_)
      case u1 => exact blk_src (Blk.new wc 59 _)
      case u2 => intro u hu; repeat (first | (rcases List.mem_cons.1 hu with rfl | hu; · rfl) | cases hu)
      case u3 => unfold maxLen; omega
      case u4 => omega
      case u5 => simp; have := HUD.out.size; omega
      intro v4 w4' hown4 hg4 _ hat4
      have hu4 : Upd [] (wc.alloc (.cells ([.int .i64 m.kind, .int .u32 m.ssrc, .int .u32 m.media, .int .u64 m.clock, .int .u32 m.time, .int .u32 m.packets, .int .u32 m.bytes, .slice hd.rA m.reports.length hd.rc, .slice hd.wA m.who.length hd.wc, .slice hd.pA m.pairs.length hd.pc, .slice hd.aA m.asks.length hd.ac, .int .u8 m.type] : List Value).toArray 59)) w4' := (Upd.of_grown hg4).more (by simp [Value.ownBlock])
      have HF := Lib.hid (And.intro (((HCD.out.more ((Upd.refl [] wc).alloc _)).more hu4)) (And.intro hown4 ((HUD.out.alloc _).next hu4)))
      clear hown4 hg4 hat4 hu4 HCD HUD z0 z1 z2 z3 z4 z5 z6 z7 z8 z9 z10 z11
      go_wp2
      go_roundg (gk - 1)
      case rel => exact .inr ⟨rd, HRE.out, HF.out⟩
      case measure => omega
    · obtain ⟨rA, rc, rx⟩ := re
      dsimp only at hre
      subst hre
      have HL := Lib.hid (left_any hce)
      have HH := Lib.hid (And.intro hoe hue)
      clear hoe hue
      dsimp only [List.length_nil] at HL
      have hL0 : ¬ (L : Int) = 0 := by omega
      clear hce HRD HC0
      go_wp2_with fail
      refine HL.out.mono ?_
      rintro e w2 ⟨rfl, rfl⟩
      go_wp2
      exact bodyPost_res (v := .tuple #[u5, .int .i64 0]) (by simp [results, Try.results14, go_sem]) rfl ⟨_, rfl, HH.out⟩
end Go.Proofs.Ytgkejdjdccgjbaa
/- The statements' own example: it answers true, and leaves what was there as it was. No condition. -/
namespace Go.Proofs.Ytgkejdjdccgjbaa
open Go Go.RowKit
set_option maxHeartbeats 400000

def mPli : Mg := ⟨4, 1, 2, 0, 0, 0, 0, [], [], [], [], 0⟩
def hd0 : Hd := ⟨none, 0, none, 0, none, 0, none, 0⟩
def mNack : Mg := ⟨3, 0, 0, 0, 0, 0, 0, [], [], [(4, 0)], [], 0⟩
theorem mPli_ok : mPli.Ok := ⟨by simp [mPli, U32], by simp [mPli, U32], by simp [mPli, U64], by simp [mPli, U32], by simp [mPli, U32], by simp [mPli, U32], by simp [mPli], by simp [mPli], by simp [mPli], by simp [mPli], by simp [mPli, U8], by simp [mPli], by simp [mPli], by simp [mPli], by simp [mPli]⟩
theorem mNack_ok : mNack.Ok := ⟨by simp [mNack, U32], by simp [mNack, U32], by simp [mNack, U64], by simp [mNack, U32], by simp [mNack, U32], by simp [mNack, U32], by simp [mNack], by simp [mNack], by simp [mNack, U16], by simp [mNack], by simp [mNack, U8], by simp [mNack], by simp [mNack], by simp [mNack], by simp [mNack]⟩
theorem mgIn_empty (w : World) (lo : Nat) (m : Mg) (h1 : m.reports = []) (h2 : m.who = []) (h3 : m.pairs = []) (h4 : m.asks = []) : MgIn w lo m hd0 := by
  obtain ⟨k, s, md, c, t, p, b, rs, wh, prs, ask, ty⟩ := m
  dsimp only at h1 h2 h3 h4
  subst h1 h2 h3 h4
  exact ⟨CellsIn.nil _ _ _ _ _, CellsIn.nil _ _ _ _ _, CellsIn.nil _ _ _ _ _, CellsIn.nil _ _ _ _ _⟩
theorem putM_pli : putM [mPli] = ([129, 206, 0, 2, 0, 0, 0, 1, 0, 0, 0, 2], 0) := by decide +kernel
theorem putM_nack : (putM [mNack]).2 = 0 := by decide +kernel
theorem pli_xs : pliM [0, 0, 0, 1, 0, 0, 0, 2] = (mcells mPli hd0, 0) := by
  have h1 : numM [0, 0, 0, 1, 0, 0, 0, 2] 0 4 = (1, [0, 0, 0, 2], 0) := by decide +kernel
  have h2 : numM [0, 0, 0, 2] 0 4 = (2, [], 0) := by decide +kernel
  unfold pliM
  rw [h1]
  dsimp only
  rw [h2]
  rfl
/-- the cells of a block, as a slice that lies there -/
theorem Blk.cells {w : World} {g : Nat} {t : TypeId} {cs : Array Value} {xs : List Value} {size n : Nat} (h : Blk w g t cs) (e : cs.toList = xs) (hl : xs.length = n * size) : CellsIn w 0 w.heap.size size (some ⟨g, 0, none⟩) n xs :=
  ⟨hl, fun _ => ⟨g, 0, rfl, Nat.zero_le _, h.lt, fun j u hu => by
    rw [Nat.zero_add, h.cell j]
    rw [← e, Array.getElem?_toList] at hu
    exact hu⟩⟩
set_option maxRecDepth 100000 in
set_option maxHeartbeats 2000000 in
theorem awake_any (w : World) : Calls Try.prog 9 #[] w fun e w' => e = .returned (.bool true) ∧ Upd [] w w' := by
  obtain ⟨W1, hW1⟩ : ∃ W1, W1 = w.alloc (.cells #[.int .i64 4, .int .u32 1, .int .u32 2, .int .u64 0, .int .u32 0, .int .u32 0, .int .u32 0, .slice none 0 0, .slice none 0 0, .slice none 0 0, .slice none 0 0, .int .u8 0] 59) := ⟨_, rfl⟩
  have hU1 : Upd [] w W1 := by rw [hW1]; exact (Upd.refl [] w).alloc _
  have hB1 : Blk W1 w.heap.size 59 #[.int .i64 4, .int .u32 1, .int .u32 2, .int .u64 0, .int .u32 0, .int .u32 0, .int .u32 0, .slice none 0 0, .slice none 0 0, .slice none 0 0, .slice none 0 0, .int .u8 0] := by rw [hW1]; exact Blk.new _ _ _
  have HP1 := Lib.hid (put_any (w := W1) (lo := 0) (A := some ⟨w.heap.size, 0, none⟩) (cap := 1) (ms := [(mPli, hd0)]) (hB1.cells rfl rfl) (by intro x hx; rw [List.mem_singleton] at hx; subst hx; exact ⟨mgIn_empty _ _ _ rfl rfl rfl rfl, mPli_ok⟩) (by simp))
  simp only [List.map_cons, List.map_nil, List.length_cons, List.length_nil] at HP1
  rw [putM_pli] at HP1
  dsimp only [List.length_cons, List.length_nil] at HP1
  simp only [Nat.zero_add, Nat.reduceAdd] at HP1
  go_enter Try.func9, Try.ntmps9
  go_wp2_with fail
  rw [← hW1]
  refine HP1.out.mono ?_
  rintro e w2 ⟨v2, rfl, hown2, hb2⟩
  obtain ⟨A2, c2, hv2, _⟩ := own_form hown2
  subst hv2
  have hrow2 := RowIn.of_own (xs := [129, 206, 0, 2, 0, 0, 0, 1, 0, 0, 0, 2]) hown2
  have HPA := Lib.hid (parse_one hrow2 129 206 0 2 [0, 0, 0, 1, 0, 0, 0, 2] rfl (by simp) (by intro x hx; simp at hx; omega) (by omega) (by omega) (by simp) mPli hd0 (fun W lo' q hq hqx => by
    have h := read_pli hq (by rw [hqx]; simp) 206 1 (by rw [hqx]; intro x hx; simp at hx; omega) (by decide)
    rw [hqx, pli_xs] at h
    exact h))
  unfold encR at HPA
  dsimp only [List.length_cons, List.length_nil] at HPA
  simp only [Nat.zero_add, Nat.reduceAdd] at HPA
  have HR2 := Lib.hid hrow2
  have HU2 := Lib.hid (hU1.next (Upd.of_below hb2))
  clear hown2 hrow2 hb2 HP1 hU1 hB1 hW1
  go_wp2_with fail
  refine HPA.out.mono ?_
  rintro e w3 ⟨v3, rfl, hown3, hu3⟩
  obtain ⟨A3, c3, hv3, _, ha3, _⟩ := own_form hown3
  subst hv3
  obtain ⟨g3, rfl, hg3, hg3'⟩ := ha3 (by decide)
  have HR3 := Lib.hid (hown3.cells (g := g3) rfl)
  have HU3 := Lib.hid (HU2.out.next hu3)
  have HRR := Lib.hid (HR2.out.upd2 hu3 (by simp))
  clear hown3 hu3 HPA HU2 HR2
  have HPN := Lib.hid (parse_nil w3)
  go_wp2_with fail
  refine HPN.out.mono ?_
  rintro e w4 ⟨rfl, hu4⟩
  have HU4 := Lib.hid (HU3.out.next hu4)
  have HRR4 := Lib.hid (HRR.out.upd2 hu4 (by simp))
  have HC4 := Lib.hid (fun (j : Nat) (u : Value) (hj : (mcells mPli hd0)[j]? = some u) => (hu4.cell (p := (⟨g3, 0, none⟩ : Addr).add j) (by rw [Addr.add]; split <;> exact hg3') (by simp)).trans (HR3.out j u hj))
  have hg4 : g3 < w4.heap.size := Nat.lt_of_lt_of_le hg3' hu4.size
  clear hu4 HU3 HRR HR3 HPN
  obtain ⟨W5, hW5⟩ : ∃ W5, W5 = (w4.alloc (.cells #[.int .u16 4, .int .u16 0] 68)).alloc (.cells #[.int .i64 3, .int .u32 0, .int .u32 0, .int .u64 0, .int .u32 0, .int .u32 0, .int .u32 0, .slice none 0 0, .slice none 0 0, .slice (some ⟨w4.heap.size, 0, none⟩) 1 1, .slice none 0 0, .int .u8 0] 59) := ⟨_, rfl⟩
  have hU5 : Upd [] w4 W5 := by rw [hW5]; exact ((Upd.refl [] w4).alloc _).alloc _
  have hB5 : Blk W5 (w4.heap.size + 1) 59 #[.int .i64 3, .int .u32 0, .int .u32 0, .int .u64 0, .int .u32 0, .int .u32 0, .int .u32 0, .slice none 0 0, .slice none 0 0, .slice (some ⟨w4.heap.size, 0, none⟩) 1 1, .slice none 0 0, .int .u8 0] := by
    have := Blk.new (w4.alloc (.cells #[.int .u16 4, .int .u16 0] 68)) 59 #[.int .i64 3, .int .u32 0, .int .u32 0, .int .u64 0, .int .u32 0, .int .u32 0, .int .u32 0, .slice none 0 0, .slice none 0 0, .slice (some ⟨w4.heap.size, 0, none⟩) 1 1, .slice none 0 0, .int .u8 0]
    rw [World.size_alloc] at this
    rw [hW5]; exact this
  have hB6 : Blk W5 w4.heap.size 68 #[.int .u16 4, .int .u16 0] := by rw [hW5]; exact (Blk.new _ _ _).alloc _
  have HP5 := Lib.hid (put_any (w := W5) (lo := 0) (A := some ⟨w4.heap.size + 1, 0, none⟩) (cap := 1) (ms := [(mNack, ⟨none, 0, none, 0, some ⟨w4.heap.size, 0, none⟩, 1, none, 0⟩)]) (hB5.cells rfl rfl) (by
    intro x hx; rw [List.mem_singleton] at hx; subst hx
    exact ⟨⟨CellsIn.nil _ _ _ _ _, CellsIn.nil _ _ _ _ _, hB6.cells rfl rfl, CellsIn.nil _ _ _ _ _⟩, mNack_ok⟩) (by simp))
  simp only [List.map_cons, List.map_nil, List.length_cons, List.length_nil] at HP5
  rw [putM_nack] at HP5
  simp only [Nat.zero_add, Nat.reduceAdd] at HP5
  go_wp2_with fail
  rw [← hW5]
  refine HP5.out.mono ?_
  rintro e w6 ⟨v6, rfl, _, hb6⟩
  have hu6 : Upd [] w4 w6 := hU5.next (Upd.of_below hb6)
  have m2 : w6.cell? ⟨g3, 2, none⟩ = some (.int .u32 2) := (hu6.cell (p := ⟨g3, 2, none⟩) hg4 (by simp)).trans (HC4.out 2 _ rfl)
  have m0 : w6.cell? ⟨g3, 0, none⟩ = some (.int .i64 4) := (hu6.cell (p := ⟨g3, 0, none⟩) hg4 (by simp)).trans (HC4.out 0 _ rfl)
  have hr6 := HRR4.out.upd2 hu6 (by simp)
  have hst := str_of hr6
  have HIS := Lib.hid (is_any hr6 (by intro x hx; simp at hx; omega))
  rw [show isM [129, 206, 0, 2, 0, 0, 0, 1, 0, 0, 0, 2] = true from by decide] at HIS
  rw [show strOfNums [129, 206, 0, 2, 0, 0, 0, 1, 0, 0, 0, 2] = { data := #[129, 206, 0, 2, 0, 0, 0, 1, 0, 0, 0, 2] } from by decide +kernel] at hst
  unfold encR at hst HIS
  dsimp only [List.length_cons, List.length_nil] at hst HIS
  simp only [Nat.zero_add, Nat.reduceAdd] at hst HIS
  have HU6 := Lib.hid (HU4.out.next hu6)
  clear hb6 hu6 hr6 HP5 hW5 hB5 hB6 hU5 HU4 HRR4 HC4
  go_wp2_with fail
  refine HIS.out.mono ?_
  rintro e w7 ⟨rfl, rfl⟩
  go_wp2
  exact bodyPost_res (v := .bool true) (by simp [results, Try.results9, go_sem]) rfl ⟨rfl, HU6.out⟩
end Go.Proofs.Ytgkejdjdccgjbaa
/- The laws' 'of', and 'Same', of a message of nothing but its type. No condition. (Written by wip/gen/rtcpofo.py.) -/
namespace Go.Proofs.Ytgkejdjdccgjbaa
open Go Go.RowKit
set_option maxHeartbeats 400000

theorem upd12 {S : List Nat} {a w : World} (g : Nat) (v0 v1 v2 v3 v4 v5 v6 v7 v8 v9 v10 v11 : Value) (h : Upd S a w) (hg : g ∈ S ∨ a.heap.size ≤ g) : Upd S a ((((((((((((w.setCell ⟨g, 0, none⟩ v0).setCell ⟨g, 1, none⟩ v1).setCell ⟨g, 2, none⟩ v2).setCell ⟨g, 3, none⟩ v3).setCell ⟨g, 4, none⟩ v4).setCell ⟨g, 5, none⟩ v5).setCell ⟨g, 6, none⟩ v6).setCell ⟨g, 7, none⟩ v7).setCell ⟨g, 8, none⟩ v8).setCell ⟨g, 9, none⟩ v9).setCell ⟨g, 10, none⟩ v10).setCell ⟨g, 11, none⟩ v11) :=
  set12_upd g _ _ _ _ _ _ _ _ _ _ _ _ h hg
set_option maxRecDepth 100000 in
set_option maxHeartbeats 2000000 in
theorem of_other (w : World) (t : Int) : Calls Try.prog 20 #[.agg #[.int .i64 6, .int .u32 0, .int .u32 0, .int .u64 0, .int .u32 0, .int .u32 0, .int .u32 0, .slice none 0 0, .slice none 0 0, .slice none 0 0, .slice none 0 0, .int .u8 t]] w fun e w' => e = .returned (.agg #[.int .i64 6, .int .u32 0, .int .u32 0, .int .u64 0, .int .u32 0, .int .u32 0, .int .u32 0, .slice none 0 0, .slice none 0 0, .slice none 0 0, .slice none 0 0, .int .u8 t]) ∧ Upd [] w w' := by
  obtain ⟨W, hW⟩ : ∃ W, W = ((w.alloc (.cells #[.int .i64 6, .int .u32 0, .int .u32 0, .int .u64 0, .int .u32 0, .int .u32 0, .int .u32 0, .slice none 0 0, .slice none 0 0, .slice none 0 0, .slice none 0 0, .int .u8 t] 59)).alloc (.cells #[.int .i64 0, .int .u32 0, .int .u32 0, .int .u64 0, .int .u32 0, .int .u32 0, .int .u32 0, .slice none 0 0, .slice none 0 0, .slice none 0 0, .slice none 0 0, .int .u8 0] 50)).alloc (.cells #[.int .i64 6, .int .u32 0, .int .u32 0, .int .u64 0, .int .u32 0, .int .u32 0, .int .u32 0, .slice none 0 0, .slice none 0 0, .slice none 0 0, .slice none 0 0, .int .u8 t] 50) := ⟨_, rfl⟩
  have hU : Upd [] w W := by rw [hW]; exact (((Upd.refl [] w).alloc _).alloc _).alloc _
  have hM : Blk W w.heap.size 59 #[.int .i64 6, .int .u32 0, .int .u32 0, .int .u64 0, .int .u32 0, .int .u32 0, .int .u32 0, .slice none 0 0, .slice none 0 0, .slice none 0 0, .slice none 0 0, .int .u8 t] := by rw [hW]; exact ((Blk.new _ _ _).alloc _).alloc _
  have hR : Blk W (w.heap.size + 1) 50 #[.int .i64 0, .int .u32 0, .int .u32 0, .int .u64 0, .int .u32 0, .int .u32 0, .int .u32 0, .slice none 0 0, .slice none 0 0, .slice none 0 0, .slice none 0 0, .int .u8 0] := by
    have := Blk.new (w.alloc (.cells #[.int .i64 6, .int .u32 0, .int .u32 0, .int .u64 0, .int .u32 0, .int .u32 0, .int .u32 0, .slice none 0 0, .slice none 0 0, .slice none 0 0, .slice none 0 0, .int .u8 t] 59)) 50 #[.int .i64 0, .int .u32 0, .int .u32 0, .int .u64 0, .int .u32 0, .int .u32 0, .int .u32 0, .slice none 0 0, .slice none 0 0, .slice none 0 0, .slice none 0 0, .int .u8 0]
    rw [World.size_alloc] at this
    rw [hW]; exact this.alloc _
  have hG : Blk W (w.heap.size + 1 + 1) 50 #[.int .i64 6, .int .u32 0, .int .u32 0, .int .u64 0, .int .u32 0, .int .u32 0, .int .u32 0, .slice none 0 0, .slice none 0 0, .slice none 0 0, .slice none 0 0, .int .u8 t] := by
    have := Blk.new ((w.alloc (.cells #[.int .i64 6, .int .u32 0, .int .u32 0, .int .u64 0, .int .u32 0, .int .u32 0, .int .u32 0, .slice none 0 0, .slice none 0 0, .slice none 0 0, .slice none 0 0, .int .u8 t] 59)).alloc (.cells #[.int .i64 0, .int .u32 0, .int .u32 0, .int .u64 0, .int .u32 0, .int .u32 0, .int .u32 0, .slice none 0 0, .slice none 0 0, .slice none 0 0, .slice none 0 0, .int .u8 0] 50)) 50 #[.int .i64 6, .int .u32 0, .int .u32 0, .int .u64 0, .int .u32 0, .int .u32 0, .int .u32 0, .slice none 0 0, .slice none 0 0, .slice none 0 0, .slice none 0 0, .int .u8 t]
    rw [World.size_alloc, World.size_alloc] at this
    rw [hW]; exact this
  have hle : w.heap.size ≤ w.heap.size + 1 := Nat.le_succ _
  have HU := Lib.hid hU
  have HLE := Lib.hid hle
  go_enter Try.func20, Try.ntmps20
  go_upto_region 2 with fail
  rw [← hW]
  clear hW hU hle
  obtain ⟨G, hGe⟩ : ∃ G, G = w.heap.size + 1 + 1 := ⟨_, rfl⟩
  obtain ⟨R, hRe⟩ : ∃ R, R = w.heap.size + 1 := ⟨_, rfl⟩
  have hRG : R ≠ G := by omega
  rw [← hGe] at hG
  rw [← hRe] at hR
  rw [← hRe] at HLE
  try rw [← hGe]
  try rw [← hRe]
  clear hGe hRe
  obtain ⟨M, hMe⟩ : ∃ M, M = w.heap.size := ⟨_, rfl⟩
  rw [← hMe] at hM
  try rw [← hMe]
  clear hMe
  have m7 : W.cell? ⟨M, 7, none⟩ = some (.slice none 0 0) := hM.cell 7
  have m9 : W.cell? ⟨M, 9, none⟩ = some (.slice none 0 0) := hM.cell 9
  have m10 : W.cell? ⟨M, 10, none⟩ = some (.slice none 0 0) := hM.cell 10
  have g0 : W.cell? ⟨G, 0, none⟩ = some (.int .i64 6) := hG.cell 0
  have r0 : W.cell? ⟨R, 0, none⟩ = some (.int .i64 0) := hR.cell 0
  have f0 := hR.frozen 0
  have g1 : W.cell? ⟨G, 1, none⟩ = some (.int .u32 0) := hG.cell 1
  have r1 : W.cell? ⟨R, 1, none⟩ = some (.int .u32 0) := hR.cell 1
  have f1 := hR.frozen 1
  have g2 : W.cell? ⟨G, 2, none⟩ = some (.int .u32 0) := hG.cell 2
  have r2 : W.cell? ⟨R, 2, none⟩ = some (.int .u32 0) := hR.cell 2
  have f2 := hR.frozen 2
  have g3 : W.cell? ⟨G, 3, none⟩ = some (.int .u64 0) := hG.cell 3
  have r3 : W.cell? ⟨R, 3, none⟩ = some (.int .u64 0) := hR.cell 3
  have f3 := hR.frozen 3
  have g4 : W.cell? ⟨G, 4, none⟩ = some (.int .u32 0) := hG.cell 4
  have r4 : W.cell? ⟨R, 4, none⟩ = some (.int .u32 0) := hR.cell 4
  have f4 := hR.frozen 4
  have g5 : W.cell? ⟨G, 5, none⟩ = some (.int .u32 0) := hG.cell 5
  have r5 : W.cell? ⟨R, 5, none⟩ = some (.int .u32 0) := hR.cell 5
  have f5 := hR.frozen 5
  have g6 : W.cell? ⟨G, 6, none⟩ = some (.int .u32 0) := hG.cell 6
  have r6 : W.cell? ⟨R, 6, none⟩ = some (.int .u32 0) := hR.cell 6
  have f6 := hR.frozen 6
  have g7 : W.cell? ⟨G, 7, none⟩ = some (.slice none 0 0) := hG.cell 7
  have r7 : W.cell? ⟨R, 7, none⟩ = some (.slice none 0 0) := hR.cell 7
  have f7 := hR.frozen 7
  have g8 : W.cell? ⟨G, 8, none⟩ = some (.slice none 0 0) := hG.cell 8
  have r8 : W.cell? ⟨R, 8, none⟩ = some (.slice none 0 0) := hR.cell 8
  have f8 := hR.frozen 8
  have g9 : W.cell? ⟨G, 9, none⟩ = some (.slice none 0 0) := hG.cell 9
  have r9 : W.cell? ⟨R, 9, none⟩ = some (.slice none 0 0) := hR.cell 9
  have f9 := hR.frozen 9
  have g10 : W.cell? ⟨G, 10, none⟩ = some (.slice none 0 0) := hG.cell 10
  have r10 : W.cell? ⟨R, 10, none⟩ = some (.slice none 0 0) := hR.cell 10
  have f10 := hR.frozen 10
  have g11 : W.cell? ⟨G, 11, none⟩ = some (.int .u8 t) := hG.cell 11
  have r11 : W.cell? ⟨R, 11, none⟩ = some (.int .u8 0) := hR.cell 11
  have f11 := hR.frozen 11
  clear hM hR hG
  go_wp2
  go_loopg [4] 1 (fun gk x4 wr => x4 = .int .i64 0 ∧ wr = W)
  case atStart => exact ⟨rfl, rfl⟩
  case round =>
    obtain ⟨rfl, rfl⟩ := hrel
    go_wp2
    go_loopg [6] 1 (fun gk x4 wx => x4 = .int .i64 0 ∧ wx = wr)
    case atStart => exact ⟨rfl, rfl⟩
    case round =>
      obtain ⟨rfl, rfl⟩ := hrel
      go_wp2
      go_loopg [7] 1 (fun gk x4 wy => x4 = .int .i64 0 ∧ wy = wr)
      case atStart => exact ⟨rfl, rfl⟩
      case round =>
        obtain ⟨rfl, rfl⟩ := hrel
        go_wp2
        refine bodyPost_res (v := .agg #[.int .i64 6, .int .u32 0, .int .u32 0, .int .u64 0, .int .u32 0, .int .u32 0, .int .u32 0, .slice none 0 0, .slice none 0 0, .slice none 0 0, .slice none 0 0, .int .u8 t]) (by simp [results, Try.results20, go_sem, r0, f0, r1, f1, r2, f2, r3, f3, r4, f4, r5, f5, r6, f6, r7, f7, r8, f8, r9, f9, r10, f10, r11, f11]) rfl ⟨rfl, ?_⟩
        first
          | exact (upd12 R _ _ _ _ _ _ _ _ _ _ _ _ HU.out (.inr HLE.out))
          | trace_state
end Go.Proofs.Ytgkejdjdccgjbaa
/- rtcp's reader: reports. Conditions: bytes. (Written by wip/gen/rtcprdreps.py.) -/
namespace Go.Proofs.Ytgkejdjdccgjbaa
open Go Go.RowKit
set_option maxHeartbeats 400000

section
variable {w w' : World} {rv rp c lo : Nat} {cnt : Int} {cs : List Value} {r : Rw} {er : Int}
theorem rnum_kept (h : RdIs w rv rp c lo cnt cs r er) (hb : Byt r.xs) : Calls Try.prog 43 #[.pointer (some ⟨rp, 0, none⟩)] w fun e w' => ∃ r', e = .returned (.int .u32 (numM r.xs er 4).1) ∧ r'.xs = (numM r.xs er 4).2.1 ∧ RdIs w' rv rp c lo cnt cs r' (numM r.xs er 4).2.2 ∧ (∀ a, r'.A = some a → ∃ a0, r.A = some a0 ∧ a0.block = a.block) ∧ Upd [c] w w' := by
  have c0 : w.cell? ⟨rp, 0, none⟩ = some (.pointer (some ⟨c, 0, none⟩)) := h.br.cell 0
  have HC := Lib.hid (num_any h.cut 4 (by decide) (by decide) hb)
  have H := Lib.hid h
  have hx := numM_lt r.xs er 4 hb
  generalize numM r.xs er 4 = q at HC hx ⊢
  obtain ⟨x, xs', e'⟩ := q
  dsimp only at HC hx ⊢
  have hx0 := hx.1
  have hx1 : x < 4294967296 := by have := hx.2; omega
  clear h hb hx
  go_enter Try.func43, Try.ntmps43
  go_wp2_with fail
  refine HC.out.mono ?_
  rintro e w1 ⟨r', rfl, h1, h2, h3, h4⟩
  have HH := Lib.hid (And.intro h1 (And.intro (H.out.took h2 h3 h4) (And.intro h3 h4)))
  clear h1 h2 h3 h4 HC
  go_wp2
  go_ret
  exact ⟨r', rfl, HH.out⟩
theorem RdIs.upd (h : RdIs w rv rp c lo cnt cs r er) {S : List Nat} (u : Upd S w w') (h1 : rv ∉ S) (h2 : rp ∉ S) (h3 : c ∉ S) (h4 : ∀ a, r.A = some a → a.block ∉ S) : RdIs w' rv rp c lo cnt cs r er :=
  ⟨h.bv.upd u h1, h.br.upd u h2, ⟨h.cut.bl.upd u h3, h.cut.row.upd2 u (fun s hs a ha e => h4 a ha (by rw [e]; exact hs)), h.cut.ap, h.cut.fm⟩, h.ap⟩
/-- a box of the caller's own is written -/
theorem RdIs.box (h : RdIs w rv rp c lo cnt cs r er) {X N k : Nat} (u : Value) (h1 : rv < N) (h2 : rp < N) (h3 : c < N) (h4 : ∀ a, r.A = some a → a.block < N) (hX : N ≤ X) : RdIs (w.setCell ⟨X, k, none⟩ u) rv rp c lo cnt cs r er :=
  h.upd (S := [X]) ((Upd.refl _ _).setCell (by simp) _) (by simp; omega) (by simp; omega) (by simp; omega) (fun a ha => by have := h4 a ha; simp; omega)
theorem blk7 {X : Nat} {t : TypeId} {a0 a1 a2 a3 a4 a5 a6 : Value} (h : Blk w X t #[a0, a1, a2, a3, a4, a5, a6]) :
    w.cell? ⟨X, 0, none⟩ = some a0 ∧ w.cell? ⟨X, 1, none⟩ = some a1 ∧ w.cell? ⟨X, 2, none⟩ = some a2 ∧ w.cell? ⟨X, 3, none⟩ = some a3 ∧ w.cell? ⟨X, 4, none⟩ = some a4 ∧ w.cell? ⟨X, 5, none⟩ = some a5 ∧ w.cell? ⟨X, 6, none⟩ = some a6 :=
  ⟨h.cell 0, h.cell 1, h.cell 2, h.cell 3, h.cell 4, h.cell 5, h.cell 6⟩
end
theorem app_upd {S : List Nat} {N s n : Nat} {W w1 : World} {e : TypeId} {v : Value} {xs : List Value} {w0 : World} (u : Upd S w0 W) (hown : W.ownsRow N e s v n xs) (hg : W.grownBy w1 v.ownBlock) (hN : w0.heap.size ≤ N) : Upd S w0 w1 :=
  u.trans (Upd.of_grown hg) (fun t ht => .inr (Nat.le_trans hN (own_block_lt hown (by simpa using ht)).1))
/-- what is left, and what went wrong, behind a number of so many bytes -/
def after (s : List Int × Int) (n : Nat) : List Int × Int := (numM s.1 s.2 n).2
def numS (s : List Int × Int) (n : Nat) : Int := (numM s.1 s.2 n).1
theorem after_byt {s : List Int × Int} (n : Nat) (h : Byt s.1) : Byt (after s n).1 := numM_byt s.1 s.2 n h
theorem numS_lt {s : List Int × Int} (n : Nat) (h : Byt s.1) : 0 ≤ numS s n ∧ numS s n < 256 ^ n := numM_lt s.1 s.2 n h
def repS (s : List Int × Int) : Rep := ⟨numS s 4, numS (after s 4) 1, numS (after (after s 4) 1) 3, numS (after (after (after s 4) 1) 3) 4, numS (after (after (after (after s 4) 1) 3) 4) 4, numS (after (after (after (after (after s 4) 1) 3) 4) 4) 4, numS (after (after (after (after (after (after s 4) 1) 3) 4) 4) 4) 4⟩
def repA (s : List Int × Int) : List Int × Int := after (after (after (after (after (after (after s 4) 1) 3) 4) 4) 4) 4
theorem repA_byt {s : List Int × Int} (h : Byt s.1) : Byt (repA s).1 := after_byt _ (after_byt _ (after_byt _ (after_byt _ (after_byt _ (after_byt _ (after_byt _ h))))))
/-- so many reports -/
def repsM : Nat → List Int × Int → List Rep × (List Int × Int)
  | 0, s => ([], s)
  | n + 1, s => ((repsM n s).1 ++ [repS (repsM n s).2], repA (repsM n s).2)
theorem repsM_byt {s : List Int × Int} (h : Byt s.1) : ∀ n, Byt (repsM n s).2.1
  | 0 => h
  | n + 1 => repA_byt (repsM_byt h n)
theorem repsM_len (s : List Int × Int) : ∀ n, (repsM n s).1.length = n
  | 0 => rfl
  | n + 1 => by rw [repsM, List.length_append, repsM_len s n]; rfl
theorem infoR : (Try.prog.info? 87).map (fun i => (i.zero, i.size, i.bytes)) = some (some (.agg #[.int .u32 0, .int .u8 0, .int .u32 0, .int .u32 0, .int .u32 0, .int .u32 0, .int .u32 0]), 7, 28) := by kernel_rfl
set_option maxRecDepth 100000 in
set_option maxHeartbeats 4000000 in
theorem rreports_any {w : World} {rv rp c lo : Nat} {n : Nat} {cs : List Value} {r : Rw} {er : Int} (h : RdIs w rv rp c lo n cs r er) (hcs : cs.length = 12) (h7 : cs[7]? = some (.slice none 0 0)) (hb : Byt r.xs) (hn : n ≤ 31) (hra : ∀ a, r.A = some a → a.block < w.heap.size) :
    Calls Try.prog 45 #[.pointer (some ⟨rp, 0, none⟩)] w fun e w' => ∃ r' A cap, e = .returned (.tuple #[]) ∧ RdIs w' rv rp c lo n (cs.set 7 (.slice A n cap)) r' (repsM n (r.xs, er)).2.2 ∧ r'.xs = (repsM n (r.xs, er)).2.1 ∧
      (∀ a, r'.A = some a → a.block < w.heap.size) ∧ w'.ownsRow w.heap.size 87 7 (.slice A n cap) n ((repsM n (r.xs, er)).1.flatMap encRep) ∧ Upd [c, rp] w w' := by
  obtain ⟨j0, hj0, hy0, hy1, hy2⟩ := info_parts infoR
  have hrv := h.bv.lt
  have hrp := h.br.lt
  have hc := h.cut.bl.lt
  have q1 : w.cell? ⟨rp, 1, none⟩ = some (.int .i64 n) := h.br.cell 1
  have H := Lib.hid h
  have HB := Lib.hid hb
  have HRA := Lib.hid hra
  have h70 : cs.set 7 (.slice none 0 0) = cs := by
    apply List.ext_getElem?
    intro i
    rw [List.getElem?_set]
    split
    · rename_i e; subst e; split
      · exact h7.symm
      · omega
    · rfl
  have H70 := Lib.hid h70
  clear h hb hra h7 h70
  go_enter Try.func45, Try.ntmps45
  go_wp2
  go_loopg [7] n (fun gk x7 wr => ∃ (i : Nat) (ri : Rw) (A : Option Addr) (cap : Nat), i ≤ n ∧ n ≤ i + gk ∧ x7 = .int .i64 i ∧ RdIs wr rv rp c lo n (cs.set 7 (.slice A i cap)) ri (repsM i (r.xs, er)).2.2 ∧ ri.xs = (repsM i (r.xs, er)).2.1 ∧
      (∀ a, ri.A = some a → a.block < w.heap.size) ∧ wr.ownsRow w.heap.size 87 7 (.slice A i cap) i ((repsM i (r.xs, er)).1.flatMap encRep) ∧ Upd [c, rp] w wr)
  case atStart => exact ⟨0, r, none, 0, Nat.zero_le _, by omega, rfl, by rw [H70.out]; exact H.out, rfl, HRA.out, World.ownsRow_nil _ _ _ _, Upd.refl _ _⟩
  case round =>
    obtain ⟨i, ri, A, cap, hi, hgi, rfl, hrd, hxs, hra, hown, hu⟩ := hrel
    have HBY := Lib.hid (repsM_byt (s := (r.xs, er)) HB.out i)
    obtain ⟨s, hs⟩ : ∃ s, s = (repsM i (r.xs, er)).2 := ⟨_, rfl⟩
    rw [← hs] at hrd hxs HBY
    have HS := Lib.hid hs
    have HRI := Lib.hid hra
    have HOW := Lib.hid hown
    have HU := Lib.hid hu
    have HR := Lib.hid hrd
    have HXS := Lib.hid hxs
    clear hs hra hown hu hrd hxs
    by_cases hlt : i < n
    · have hlti : (i : Int) < (n : Int) := by omega
      have hw : IntKind.i64.wrap ((i : Int) + 1) = (i : Int) + 1 := IntWalk.i64_in _ (by omega)
      have HBY0 : Hid (Byt (after s 4).1) := Lib.hid (after_byt 4 HBY.out)
      have HCk := Lib.hid (rnum_kept HR.out (by rw [HXS.out]; exact HBY.out))
      rw [HXS.out] at HCk
      change Hid (Calls _ _ _ _ fun e w' => ∃ r', e = .returned (.int .u32 (numS s 4)) ∧ r'.xs = (after s 4).1 ∧ RdIs w' rv rp c lo n _ r' (after s 4).2 ∧ (∀ a, r'.A = some a → ∃ a0, ri.A = some a0 ∧ a0.block = a.block) ∧ Upd [c] _ w') at HCk
      go_wp2_with fail
      refine HCk.out.mono ?_
      rintro e w1 ⟨r0, rfl, hx, hrd, hkk, hku⟩
      have hri : ∀ a, r0.A = some a → a.block < w.heap.size := (fun a ha => by obtain ⟨a0, h0, e⟩ := hkk a ha; rw [← e]; exact HRI.out a0 h0)
      go_upto_region 3 with fail
      obtain ⟨W0, hW0⟩ : ∃ W0, W0 = w1.alloc (.cells #[.int .u32 (numS s 4), .int .u8 0, .int .u32 0, .int .u32 0, .int .u32 0, .int .u32 0, .int .u32 0] 87) := ⟨_, rfl⟩
      obtain ⟨X, hX⟩ : ∃ X, X = w1.heap.size := ⟨_, rfl⟩
      rw [← hW0, ← hX]
      have HX0 : Hid (Blk W0 X 87 #[.int .u32 (numS s 4), .int .u8 0, .int .u32 0, .int .u32 0, .int .u32 0, .int .u32 0, .int .u32 0]) := by rw [hW0, hX]; exact Lib.hid (Blk.new _ _ _)
      have HR0 : Hid (RdIs W0 rv rp c lo n (cs.set 7 (.slice A i cap)) r0 (after s 4).2) := by rw [hW0]; exact Lib.hid (hrd.more ((Upd.refl [] _).alloc _))
      have HW0 : Hid (Upd [c] wr W0) := by rw [hW0]; exact Lib.hid (hku.alloc _)
      have HU0 : Hid (Upd [c, rp] w W0) := Lib.hid (HU.out.next (HW0.out.more (by simp)))
      have HXW : Hid (wr.heap.size ≤ X) := by rw [hX]; exact Lib.hid hku.size
      have HXN : Hid (w.heap.size ≤ X) := Lib.hid (Nat.le_trans HU.out.size HXW.out)
      have HXS0 := Lib.hid hx
      have HRI0 := Lib.hid hri
      clear hx hrd hku hri HCk hW0 hX hkk
      have HBY1 : Hid (Byt (after (after s 4) 1).1) := Lib.hid (after_byt 1 HBY0.out)
      have HCk := Lib.hid (num_any HR0.out.cut 1 (by decide) (by decide) (by rw [HXS0.out]; exact HBY0.out))
      rw [HXS0.out] at HCk
      change Hid (Calls _ _ _ _ fun e w' => ∃ r', e = .returned (.int .u64 (numS (after s 4) 1)) ∧ r'.xs = (after (after s 4) 1).1 ∧ CutIs w' c lo r' (after (after s 4) 1).2 ∧ (∀ a, r'.A = some a → ∃ a0, r0.A = some a0 ∧ a0.block = a.block) ∧ Upd [c] _ w') at HCk
      have hcv := numS_lt 1 HBY0.out
      have hcv1 : IntKind.u8.wrap (numS (after s 4) 1) = numS (after s 4) 1 := IntWalk.u8_in _ (by have := hcv.2; have := hcv.1; omega)
      have pc : W0.cell? ⟨rp, 0, none⟩ = some (.pointer (some ⟨c, 0, none⟩)) := HR0.out.br.cell 0
      go_wp2_with fail
      refine HCk.out.mono ?_
      rintro e w2 ⟨r1, rfl, hx, hct, hkk, hku⟩
      have hrd := HR0.out.took hct hkk hku
      have hri : ∀ a, r1.A = some a → a.block < w.heap.size := (fun a ha => by obtain ⟨a0, h0, e⟩ := hkk a ha; rw [← e]; exact HRI0.out a0 h0)
      have hX1 := HX0.out.upd hku (by rw [List.mem_singleton]; have := HXN.out; omega)
      have cx : w2.cell? ⟨X, 1, none⟩ = some (.int .u8 0) := hX1.cell 1
      have fx := hX1.frozen 1
      go_upto_region 4 with fail
      obtain ⟨W1, hW1⟩ : ∃ W1, W1 = w2.setCell ⟨X, 1, none⟩ (.int .u8 (numS (after s 4) 1)) := ⟨_, rfl⟩
      rw [← hW1]
      have HX1 : Hid (Blk W1 X 87 #[.int .u32 (numS s 4), .int .u8 (numS (after s 4) 1), .int .u32 0, .int .u32 0, .int .u32 0, .int .u32 0, .int .u32 0]) := by rw [hW1]; exact Lib.hid (hX1.store 1 (.int .u8 (numS (after s 4) 1)))
      have HR1 : Hid (RdIs W1 rv rp c lo n (cs.set 7 (.slice A i cap)) r1 (after (after s 4) 1).2) := by rw [hW1]; exact Lib.hid (hrd.box (N := w.heap.size) _ hrv hrp hc hri HXN.out)
      have HW1 : Hid (Upd [c] wr W1) := by rw [hW1]; exact Lib.hid ((HW0.out.next hku).setCell (.inr HXW.out) _)
      have HU1 : Hid (Upd [c, rp] w W1) := by rw [hW1]; exact Lib.hid ((HU0.out.next (hku.more (by simp))).setCell (.inr HXN.out) _)
      have HXS1 := Lib.hid hx
      have HRI1 := Lib.hid hri
      clear hx hrd hku hri HCk hW1 hX1 cx fx hct hkk hcv hcv1 pc
      have HBY2 : Hid (Byt (after (after (after s 4) 1) 3).1) := Lib.hid (after_byt 3 HBY1.out)
      have HCk := Lib.hid (num_any HR1.out.cut 3 (by decide) (by decide) (by rw [HXS1.out]; exact HBY1.out))
      rw [HXS1.out] at HCk
      change Hid (Calls _ _ _ _ fun e w' => ∃ r', e = .returned (.int .u64 (numS (after (after s 4) 1) 3)) ∧ r'.xs = (after (after (after s 4) 1) 3).1 ∧ CutIs w' c lo r' (after (after (after s 4) 1) 3).2 ∧ (∀ a, r'.A = some a → ∃ a0, r1.A = some a0 ∧ a0.block = a.block) ∧ Upd [c] _ w') at HCk
      have hcv := numS_lt 3 HBY1.out
      have hcv1 : IntKind.u32.wrap (numS (after (after s 4) 1) 3) = numS (after (after s 4) 1) 3 := IntWalk.u32_in _ (by have := hcv.2; have := hcv.1; omega)
      have pc : W1.cell? ⟨rp, 0, none⟩ = some (.pointer (some ⟨c, 0, none⟩)) := HR1.out.br.cell 0
      go_wp2_with fail
      refine HCk.out.mono ?_
      rintro e w3 ⟨r2, rfl, hx, hct, hkk, hku⟩
      have hrd := HR1.out.took hct hkk hku
      have hri : ∀ a, r2.A = some a → a.block < w.heap.size := (fun a ha => by obtain ⟨a0, h0, e⟩ := hkk a ha; rw [← e]; exact HRI1.out a0 h0)
      have hX2 := HX1.out.upd hku (by rw [List.mem_singleton]; have := HXN.out; omega)
      have cx : w3.cell? ⟨X, 2, none⟩ = some (.int .u32 0) := hX2.cell 2
      have fx := hX2.frozen 2
      go_upto_region 5 with fail
      obtain ⟨W2, hW2⟩ : ∃ W2, W2 = w3.setCell ⟨X, 2, none⟩ (.int .u32 (numS (after (after s 4) 1) 3)) := ⟨_, rfl⟩
      rw [← hW2]
      have HX2 : Hid (Blk W2 X 87 #[.int .u32 (numS s 4), .int .u8 (numS (after s 4) 1), .int .u32 (numS (after (after s 4) 1) 3), .int .u32 0, .int .u32 0, .int .u32 0, .int .u32 0]) := by rw [hW2]; exact Lib.hid (hX2.store 2 (.int .u32 (numS (after (after s 4) 1) 3)))
      have HR2 : Hid (RdIs W2 rv rp c lo n (cs.set 7 (.slice A i cap)) r2 (after (after (after s 4) 1) 3).2) := by rw [hW2]; exact Lib.hid (hrd.box (N := w.heap.size) _ hrv hrp hc hri HXN.out)
      have HW2 : Hid (Upd [c] wr W2) := by rw [hW2]; exact Lib.hid ((HW1.out.next hku).setCell (.inr HXW.out) _)
      have HU2 : Hid (Upd [c, rp] w W2) := by rw [hW2]; exact Lib.hid ((HU1.out.next (hku.more (by simp))).setCell (.inr HXN.out) _)
      have HXS2 := Lib.hid hx
      have HRI2 := Lib.hid hri
      clear hx hrd hku hri HCk hW2 hX2 cx fx hct hkk hcv hcv1 pc
      have HBY3 : Hid (Byt (after (after (after (after s 4) 1) 3) 4).1) := Lib.hid (after_byt 4 HBY2.out)
      have HCk := Lib.hid (rnum_kept HR2.out (by rw [HXS2.out]; exact HBY2.out))
      rw [HXS2.out] at HCk
      change Hid (Calls _ _ _ _ fun e w' => ∃ r', e = .returned (.int .u32 (numS (after (after (after s 4) 1) 3) 4)) ∧ r'.xs = (after (after (after (after s 4) 1) 3) 4).1 ∧ RdIs w' rv rp c lo n _ r' (after (after (after (after s 4) 1) 3) 4).2 ∧ (∀ a, r'.A = some a → ∃ a0, r2.A = some a0 ∧ a0.block = a.block) ∧ Upd [c] _ w') at HCk
      go_wp2_with fail
      refine HCk.out.mono ?_
      rintro e w4 ⟨r3, rfl, hx, hrd, hkk, hku⟩
      have hri : ∀ a, r3.A = some a → a.block < w.heap.size := (fun a ha => by obtain ⟨a0, h0, e⟩ := hkk a ha; rw [← e]; exact HRI2.out a0 h0)
      have hX3 := HX2.out.upd hku (by rw [List.mem_singleton]; have := HXN.out; omega)
      have cx : w4.cell? ⟨X, 3, none⟩ = some (.int .u32 0) := hX3.cell 3
      have fx := hX3.frozen 3
      go_upto_region 6 with fail
      obtain ⟨W3, hW3⟩ : ∃ W3, W3 = w4.setCell ⟨X, 3, none⟩ (.int .u32 (numS (after (after (after s 4) 1) 3) 4)) := ⟨_, rfl⟩
      rw [← hW3]
      have HX3 : Hid (Blk W3 X 87 #[.int .u32 (numS s 4), .int .u8 (numS (after s 4) 1), .int .u32 (numS (after (after s 4) 1) 3), .int .u32 (numS (after (after (after s 4) 1) 3) 4), .int .u32 0, .int .u32 0, .int .u32 0]) := by rw [hW3]; exact Lib.hid (hX3.store 3 (.int .u32 (numS (after (after (after s 4) 1) 3) 4)))
      have HR3 : Hid (RdIs W3 rv rp c lo n (cs.set 7 (.slice A i cap)) r3 (after (after (after (after s 4) 1) 3) 4).2) := by rw [hW3]; exact Lib.hid (hrd.box (N := w.heap.size) _ hrv hrp hc hri HXN.out)
      have HW3 : Hid (Upd [c] wr W3) := by rw [hW3]; exact Lib.hid ((HW2.out.next hku).setCell (.inr HXW.out) _)
      have HU3 : Hid (Upd [c, rp] w W3) := by rw [hW3]; exact Lib.hid ((HU2.out.next (hku.more (by simp))).setCell (.inr HXN.out) _)
      have HXS3 := Lib.hid hx
      have HRI3 := Lib.hid hri
      clear hx hrd hku hri HCk hW3 hX3 cx fx hkk
      have HBY4 : Hid (Byt (after (after (after (after (after s 4) 1) 3) 4) 4).1) := Lib.hid (after_byt 4 HBY3.out)
      have HCk := Lib.hid (rnum_kept HR3.out (by rw [HXS3.out]; exact HBY3.out))
      rw [HXS3.out] at HCk
      change Hid (Calls _ _ _ _ fun e w' => ∃ r', e = .returned (.int .u32 (numS (after (after (after (after s 4) 1) 3) 4) 4)) ∧ r'.xs = (after (after (after (after (after s 4) 1) 3) 4) 4).1 ∧ RdIs w' rv rp c lo n _ r' (after (after (after (after (after s 4) 1) 3) 4) 4).2 ∧ (∀ a, r'.A = some a → ∃ a0, r3.A = some a0 ∧ a0.block = a.block) ∧ Upd [c] _ w') at HCk
      go_wp2_with fail
      refine HCk.out.mono ?_
      rintro e w5 ⟨r4, rfl, hx, hrd, hkk, hku⟩
      have hri : ∀ a, r4.A = some a → a.block < w.heap.size := (fun a ha => by obtain ⟨a0, h0, e⟩ := hkk a ha; rw [← e]; exact HRI3.out a0 h0)
      have hX4 := HX3.out.upd hku (by rw [List.mem_singleton]; have := HXN.out; omega)
      have cx : w5.cell? ⟨X, 4, none⟩ = some (.int .u32 0) := hX4.cell 4
      have fx := hX4.frozen 4
      go_upto_region 7 with fail
      obtain ⟨W4, hW4⟩ : ∃ W4, W4 = w5.setCell ⟨X, 4, none⟩ (.int .u32 (numS (after (after (after (after s 4) 1) 3) 4) 4)) := ⟨_, rfl⟩
      rw [← hW4]
      have HX4 : Hid (Blk W4 X 87 #[.int .u32 (numS s 4), .int .u8 (numS (after s 4) 1), .int .u32 (numS (after (after s 4) 1) 3), .int .u32 (numS (after (after (after s 4) 1) 3) 4), .int .u32 (numS (after (after (after (after s 4) 1) 3) 4) 4), .int .u32 0, .int .u32 0]) := by rw [hW4]; exact Lib.hid (hX4.store 4 (.int .u32 (numS (after (after (after (after s 4) 1) 3) 4) 4)))
      have HR4 : Hid (RdIs W4 rv rp c lo n (cs.set 7 (.slice A i cap)) r4 (after (after (after (after (after s 4) 1) 3) 4) 4).2) := by rw [hW4]; exact Lib.hid (hrd.box (N := w.heap.size) _ hrv hrp hc hri HXN.out)
      have HW4 : Hid (Upd [c] wr W4) := by rw [hW4]; exact Lib.hid ((HW3.out.next hku).setCell (.inr HXW.out) _)
      have HU4 : Hid (Upd [c, rp] w W4) := by rw [hW4]; exact Lib.hid ((HU3.out.next (hku.more (by simp))).setCell (.inr HXN.out) _)
      have HXS4 := Lib.hid hx
      have HRI4 := Lib.hid hri
      clear hx hrd hku hri HCk hW4 hX4 cx fx hkk
      have HBY5 : Hid (Byt (after (after (after (after (after (after s 4) 1) 3) 4) 4) 4).1) := Lib.hid (after_byt 4 HBY4.out)
      have HCk := Lib.hid (rnum_kept HR4.out (by rw [HXS4.out]; exact HBY4.out))
      rw [HXS4.out] at HCk
      change Hid (Calls _ _ _ _ fun e w' => ∃ r', e = .returned (.int .u32 (numS (after (after (after (after (after s 4) 1) 3) 4) 4) 4)) ∧ r'.xs = (after (after (after (after (after (after s 4) 1) 3) 4) 4) 4).1 ∧ RdIs w' rv rp c lo n _ r' (after (after (after (after (after (after s 4) 1) 3) 4) 4) 4).2 ∧ (∀ a, r'.A = some a → ∃ a0, r4.A = some a0 ∧ a0.block = a.block) ∧ Upd [c] _ w') at HCk
      go_wp2_with fail
      refine HCk.out.mono ?_
      rintro e w6 ⟨r5, rfl, hx, hrd, hkk, hku⟩
      have hri : ∀ a, r5.A = some a → a.block < w.heap.size := (fun a ha => by obtain ⟨a0, h0, e⟩ := hkk a ha; rw [← e]; exact HRI4.out a0 h0)
      have hX5 := HX4.out.upd hku (by rw [List.mem_singleton]; have := HXN.out; omega)
      have cx : w6.cell? ⟨X, 5, none⟩ = some (.int .u32 0) := hX5.cell 5
      have fx := hX5.frozen 5
      go_upto_region 8 with fail
      obtain ⟨W5, hW5⟩ : ∃ W5, W5 = w6.setCell ⟨X, 5, none⟩ (.int .u32 (numS (after (after (after (after (after s 4) 1) 3) 4) 4) 4)) := ⟨_, rfl⟩
      rw [← hW5]
      have HX5 : Hid (Blk W5 X 87 #[.int .u32 (numS s 4), .int .u8 (numS (after s 4) 1), .int .u32 (numS (after (after s 4) 1) 3), .int .u32 (numS (after (after (after s 4) 1) 3) 4), .int .u32 (numS (after (after (after (after s 4) 1) 3) 4) 4), .int .u32 (numS (after (after (after (after (after s 4) 1) 3) 4) 4) 4), .int .u32 0]) := by rw [hW5]; exact Lib.hid (hX5.store 5 (.int .u32 (numS (after (after (after (after (after s 4) 1) 3) 4) 4) 4)))
      have HR5 : Hid (RdIs W5 rv rp c lo n (cs.set 7 (.slice A i cap)) r5 (after (after (after (after (after (after s 4) 1) 3) 4) 4) 4).2) := by rw [hW5]; exact Lib.hid (hrd.box (N := w.heap.size) _ hrv hrp hc hri HXN.out)
      have HW5 : Hid (Upd [c] wr W5) := by rw [hW5]; exact Lib.hid ((HW4.out.next hku).setCell (.inr HXW.out) _)
      have HU5 : Hid (Upd [c, rp] w W5) := by rw [hW5]; exact Lib.hid ((HU4.out.next (hku.more (by simp))).setCell (.inr HXN.out) _)
      have HXS5 := Lib.hid hx
      have HRI5 := Lib.hid hri
      clear hx hrd hku hri HCk hW5 hX5 cx fx hkk
      have HBY6 : Hid (Byt (after (after (after (after (after (after (after s 4) 1) 3) 4) 4) 4) 4).1) := Lib.hid (after_byt 4 HBY5.out)
      have HCk := Lib.hid (rnum_kept HR5.out (by rw [HXS5.out]; exact HBY5.out))
      rw [HXS5.out] at HCk
      change Hid (Calls _ _ _ _ fun e w' => ∃ r', e = .returned (.int .u32 (numS (after (after (after (after (after (after s 4) 1) 3) 4) 4) 4) 4)) ∧ r'.xs = (after (after (after (after (after (after (after s 4) 1) 3) 4) 4) 4) 4).1 ∧ RdIs w' rv rp c lo n _ r' (after (after (after (after (after (after (after s 4) 1) 3) 4) 4) 4) 4).2 ∧ (∀ a, r'.A = some a → ∃ a0, r5.A = some a0 ∧ a0.block = a.block) ∧ Upd [c] _ w') at HCk
      go_wp2_with fail
      refine HCk.out.mono ?_
      rintro e w7 ⟨r6, rfl, hx, hrd, hkk, hku⟩
      have hri : ∀ a, r6.A = some a → a.block < w.heap.size := (fun a ha => by obtain ⟨a0, h0, e⟩ := hkk a ha; rw [← e]; exact HRI5.out a0 h0)
      have hX6 := HX5.out.upd hku (by rw [List.mem_singleton]; have := HXN.out; omega)
      have cx : w7.cell? ⟨X, 6, none⟩ = some (.int .u32 0) := hX6.cell 6
      have fx := hX6.frozen 6
      go_upto_region 9 with fail
      obtain ⟨W6, hW6⟩ : ∃ W6, W6 = w7.setCell ⟨X, 6, none⟩ (.int .u32 (numS (after (after (after (after (after (after s 4) 1) 3) 4) 4) 4) 4)) := ⟨_, rfl⟩
      rw [← hW6]
      have HX6 : Hid (Blk W6 X 87 #[.int .u32 (numS s 4), .int .u8 (numS (after s 4) 1), .int .u32 (numS (after (after s 4) 1) 3), .int .u32 (numS (after (after (after s 4) 1) 3) 4), .int .u32 (numS (after (after (after (after s 4) 1) 3) 4) 4), .int .u32 (numS (after (after (after (after (after s 4) 1) 3) 4) 4) 4), .int .u32 (numS (after (after (after (after (after (after s 4) 1) 3) 4) 4) 4) 4)]) := by rw [hW6]; exact Lib.hid (hX6.store 6 (.int .u32 (numS (after (after (after (after (after (after s 4) 1) 3) 4) 4) 4) 4)))
      have HR6 : Hid (RdIs W6 rv rp c lo n (cs.set 7 (.slice A i cap)) r6 (after (after (after (after (after (after (after s 4) 1) 3) 4) 4) 4) 4).2) := by rw [hW6]; exact Lib.hid (hrd.box (N := w.heap.size) _ hrv hrp hc hri HXN.out)
      have HW6 : Hid (Upd [c] wr W6) := by rw [hW6]; exact Lib.hid ((HW5.out.next hku).setCell (.inr HXW.out) _)
      have HU6 : Hid (Upd [c, rp] w W6) := by rw [hW6]; exact Lib.hid ((HU5.out.next (hku.more (by simp))).setCell (.inr HXN.out) _)
      have HXS6 := Lib.hid hx
      have HRI6 := Lib.hid hri
      clear hx hrd hku hri HCk hW6 hX6 cx fx hkk
      go_upto_region 9 with fail
      have p9 : W6.cell? ⟨rp, 9, none⟩ = some (.slice A i cap) := HR6.out.cellAt 7 (by rw [List.getElem?_set_self (by omega)])
      have f9 := HR6.out.br.frozen 9
      have HXd : Hid (Blk W6.drew X 87 #[.int .u32 (numS s 4), .int .u8 (numS (after s 4) 1), .int .u32 (numS (after (after s 4) 1) 3), .int .u32 (numS (after (after (after s 4) 1) 3) 4), .int .u32 (numS (after (after (after (after s 4) 1) 3) 4) 4), .int .u32 (numS (after (after (after (after (after s 4) 1) 3) 4) 4) 4), .int .u32 (numS (after (after (after (after (after (after s 4) 1) 3) 4) 4) 4) 4)]) := Lib.hid (HX6.out.drewN 1)
      have hnc : ∀ t', t' ∈ [c] → (Value.slice A i cap).ownBlock ≠ some t' := by
        intro t' ht' e
        rw [List.mem_singleton] at ht'
        subst ht'
        obtain ⟨cur, hcur⟩ := row_type HOW.out t' e
        exact (hcur.ne HR.out.cut.bl (by decide)) rfl
      have HO6 := Lib.hid (ownsRow_upd HOW.out HW6.out hnc)
      have HVX : Hid (X ∉ (Value.slice A i cap).ownBlock.toList) := Lib.hid (by
        intro hm
        have := own_block_lt HOW.out (by simpa using hm)
        have := HXW.out
        omega)
      have hXrp : X ≠ rp := by have := HXN.out; omega
      have HXa : Hid (Blk (W6.alloc (.cells #[.int .u32 (numS s 4), .int .u8 (numS (after s 4) 1), .int .u32 (numS (after (after s 4) 1) 3), .int .u32 (numS (after (after (after s 4) 1) 3) 4), .int .u32 (numS (after (after (after (after s 4) 1) 3) 4) 4), .int .u32 (numS (after (after (after (after (after s 4) 1) 3) 4) 4) 4), .int .u32 (numS (after (after (after (after (after (after s 4) 1) 3) 4) 4) 4) 4)] 87)).drew X 87 #[.int .u32 (numS s 4), .int .u8 (numS (after s 4) 1), .int .u32 (numS (after (after s 4) 1) 3), .int .u32 (numS (after (after (after s 4) 1) 3) 4), .int .u32 (numS (after (after (after (after s 4) 1) 3) 4) 4), .int .u32 (numS (after (after (after (after (after s 4) 1) 3) 4) 4) 4), .int .u32 (numS (after (after (after (after (after (after s 4) 1) 3) 4) 4) 4) 4)]) := Lib.hid ((HX6.out.alloc _).drewN 1)
      have HOA : Hid ((W6.alloc (.cells #[.int .u32 (numS s 4), .int .u8 (numS (after s 4) 1), .int .u32 (numS (after (after s 4) 1) 3), .int .u32 (numS (after (after (after s 4) 1) 3) 4), .int .u32 (numS (after (after (after (after s 4) 1) 3) 4) 4), .int .u32 (numS (after (after (after (after (after s 4) 1) 3) 4) 4) 4), .int .u32 (numS (after (after (after (after (after (after s 4) 1) 3) 4) 4) 4) 4)] 87)).drew.ownsRow w.heap.size 87 7 (.slice A i cap) i ((repsM i (r.xs, er)).1.flatMap encRep)) := Lib.hid ((HO6.out.alloc _).drew)
      have HSZ : Hid (w.heap.size ≤ (W6.alloc (.cells #[.int .u32 (numS s 4), .int .u8 (numS (after s 4) 1), .int .u32 (numS (after (after s 4) 1) 3), .int .u32 (numS (after (after (after s 4) 1) 3) 4), .int .u32 (numS (after (after (after (after s 4) 1) 3) 4) 4), .int .u32 (numS (after (after (after (after (after s 4) 1) 3) 4) 4) 4), .int .u32 (numS (after (after (after (after (after (after s 4) 1) 3) 4) 4) 4) 4)] 87)).drew.heap.size) := Lib.hid (((HU6.out.alloc (.cells #[.int .u32 (numS s 4), .int .u8 (numS (after s 4) 1), .int .u32 (numS (after (after s 4) 1) 3), .int .u32 (numS (after (after (after s 4) 1) 3) 4), .int .u32 (numS (after (after (after (after s 4) 1) 3) 4) 4), .int .u32 (numS (after (after (after (after (after s 4) 1) 3) 4) 4) 4), .int .u32 (numS (after (after (after (after (after (after s 4) 1) 3) 4) 4) 4) 4)] 87)).drewN 1).size)
      obtain ⟨ys, hys⟩ : ∃ ys, ys = (repsM i (r.xs, er)).1.flatMap encRep := ⟨_, rfl⟩
      rw [← hys] at HOA
      have HYS := Lib.hid hys
      have HNEW : Hid (Blk (W6.alloc (.cells #[.int .u32 (numS s 4), .int .u8 (numS (after s 4) 1), .int .u32 (numS (after (after s 4) 1) 3), .int .u32 (numS (after (after (after s 4) 1) 3) 4), .int .u32 (numS (after (after (after (after s 4) 1) 3) 4) 4), .int .u32 (numS (after (after (after (after (after s 4) 1) 3) 4) 4) 4), .int .u32 (numS (after (after (after (after (after (after s 4) 1) 3) 4) 4) 4) 4)] 87)).drew W6.heap.size 87 #[.int .u32 (numS s 4), .int .u8 (numS (after s 4) 1), .int .u32 (numS (after (after s 4) 1) 3), .int .u32 (numS (after (after (after s 4) 1) 3) 4), .int .u32 (numS (after (after (after (after s 4) 1) 3) 4) 4), .int .u32 (numS (after (after (after (after (after s 4) 1) 3) 4) 4) 4), .int .u32 (numS (after (after (after (after (after (after s 4) 1) 3) 4) 4) 4) 4)]) := Lib.hid ((Blk.new W6 87 #[.int .u32 (numS s 4), .int .u8 (numS (after s 4) 1), .int .u32 (numS (after (after s 4) 1) 3), .int .u32 (numS (after (after (after s 4) 1) 3) 4), .int .u32 (numS (after (after (after (after s 4) 1) 3) 4) 4), .int .u32 (numS (after (after (after (after (after s 4) 1) 3) 4) 4) 4), .int .u32 (numS (after (after (after (after (after (after s 4) 1) 3) 4) 4) 4) 4)]).drewN 1)
      have HONE : Hid (∀ u ∈ ([.int .u32 (numS s 4), .int .u8 (numS (after s 4) 1), .int .u32 (numS (after (after s 4) 1) 3), .int .u32 (numS (after (after (after s 4) 1) 3) 4), .int .u32 (numS (after (after (after (after s 4) 1) 3) 4) 4), .int .u32 (numS (after (after (after (after (after s 4) 1) 3) 4) 4) 4), .int .u32 (numS (after (after (after (after (after (after s 4) 1) 3) 4) 4) 4) 4)] : List Value), u.oneCell' = true) := Lib.hid (by intro u hu; repeat (first | (rcases List.mem_cons.1 hu with rfl | hu; · rfl) | cases hu))
      have hi31 : i ≤ 31 := by omega
      have p9a : (W6.alloc (.cells #[.int .u32 (numS s 4), .int .u8 (numS (after s 4) 1), .int .u32 (numS (after (after s 4) 1) 3), .int .u32 (numS (after (after (after s 4) 1) 3) 4), .int .u32 (numS (after (after (after (after s 4) 1) 3) 4) 4), .int .u32 (numS (after (after (after (after (after s 4) 1) 3) 4) 4) 4), .int .u32 (numS (after (after (after (after (after (after s 4) 1) 3) 4) 4) 4) 4)] 87)).cell? ⟨rp, 9, none⟩ = some (.slice A i cap) := (((Upd.refl [] W6).alloc _).cell (p := ⟨rp, 9, none⟩) HR6.out.br.lt (by simp)).trans p9
      have p9b : (W6.alloc (.cells #[.int .u32 (numS s 4), .int .u8 (numS (after s 4) 1), .int .u32 (numS (after (after s 4) 1) 3), .int .u32 (numS (after (after (after s 4) 1) 3) 4), .int .u32 (numS (after (after (after (after s 4) 1) 3) 4) 4), .int .u32 (numS (after (after (after (after (after s 4) 1) 3) 4) 4) 4), .int .u32 (numS (after (after (after (after (after (after s 4) 1) 3) 4) 4) 4) 4)] 87)).drew.cell? ⟨rp, 9, none⟩ = some (.slice A i cap) := p9a
      clear hys hnc HOW HO6 HU
      obtain ⟨y0, y1, y2, y3, y4, y5, y6⟩ := blk7 HX6.out
      go_region_law
        ((refine step_append_src _ (by rfl) (.tmp 43) (.tmp 45) 55 (by rfl) w.heap.size 87 j0 _ 7 28 Try.underlying55 hj0 hy0 hy1 hy2 rfl (by decide) (.slice A i cap) i ys (by rfl) HOA.out (some ⟨W6.heap.size, 0, none⟩) 1 1 [.int .u32 (numS s 4), .int .u8 (numS (after s 4) 1), .int .u32 (numS (after (after s 4) 1) 3), .int .u32 (numS (after (after (after s 4) 1) 3) 4), .int .u32 (numS (after (after (after (after s 4) 1) 3) 4) 4), .int .u32 (numS (after (after (after (after (after s 4) 1) 3) 4) 4) 4), .int .u32 (numS (after (after (after (after (after (after s 4) 1) 3) 4) 4) 4) 4)] (by rfl) (fun e => by cases e) rfl (fun ad had => by cases had; exact blk_src HNEW.out) HONE.out (by unfold maxLen; omega) (by omega) HSZ.out ?_; intro v8 w8 hown8 hg8 hat8; have HX8 := Lib.hid (HXa.out.upd (Upd.of_grown hg8) HVX.out); have HRD8 := Lib.hid ((HR6.out.more (((Upd.refl [] W6).alloc (.cells #[.int .u32 (numS s 4), .int .u8 (numS (after s 4) 1), .int .u32 (numS (after (after s 4) 1) 3), .int .u32 (numS (after (after (after s 4) 1) 3) 4), .int .u32 (numS (after (after (after (after s 4) 1) 3) 4) 4), .int .u32 (numS (after (after (after (after (after s 4) 1) 3) 4) 4) 4), .int .u32 (numS (after (after (after (after (after (after s 4) 1) 3) 4) 4) 4) 4)] 87)).drewN 1)).upd (Upd.of_grown hg8) (fun hm => by obtain ⟨cur, hcur⟩ := row_type HOA.out rv (by simpa using hm); exact (hcur.ne ((HR6.out.bv.alloc _).drewN 1) (by decide)) rfl) (fun hm => by obtain ⟨cur, hcur⟩ := row_type HOA.out rp (by simpa using hm); exact (hcur.ne ((HR6.out.br.alloc _).drewN 1) (by decide)) rfl) (fun hm => by obtain ⟨cur, hcur⟩ := row_type HOA.out c (by simpa using hm); exact (hcur.ne ((HR6.out.cut.bl.alloc _).drewN 1) (by decide)) rfl) (fun a ha hm => by have h1 := HRI6.out a ha; have h2 := (own_block_lt HOA.out (by simpa using hm)).1; omega)); have p8 : w8.cell? ⟨rp, 9, none⟩ = some (.slice A i cap) := HRD8.out.cellAt 7 (by rw [List.getElem?_set_self (by omega)]); have f8 := HRD8.out.br.frozen 9; have HU8 := Lib.hid (app_upd ((HU6.out.alloc (.cells #[.int .u32 (numS s 4), .int .u8 (numS (after s 4) 1), .int .u32 (numS (after (after s 4) 1) 3), .int .u32 (numS (after (after (after s 4) 1) 3) 4), .int .u32 (numS (after (after (after (after s 4) 1) 3) 4) 4), .int .u32 (numS (after (after (after (after (after s 4) 1) 3) 4) 4) 4), .int .u32 (numS (after (after (after (after (after (after s 4) 1) 3) 4) 4) 4) 4)] 87)).drewN 1) HOA.out hg8 (Nat.le_refl _)); obtain ⟨A8, c8, hv8, _⟩ := own_form hown8; subst hv8; have HO8 := Lib.hid hown8; clear hown8 hg8 hat8))
      all_goals
        go_wp2
        go_roundg (gk - 1)
        case measure => omega
        case rel =>
          have hput := HRD8.out.put 7 (.slice A8 (i + 1) c8)
          rw [List.set_set] at hput
          have hrs : repsM (i + 1) (r.xs, er) = ((repsM i (r.xs, er)).1 ++ [repS s], repA s) := by rw [repsM, ← HS.out]
          have hnr : (Value.slice A8 (i + 1) c8).ownBlock ≠ some rp := by
            intro e
            obtain ⟨cur, hcur⟩ := row_type HO8.out rp e
            exact (hcur.ne HRD8.out.br (by decide)) rfl
          have hst := ownsRow_setCell_other HO8.out (a := ⟨rp, 9, none⟩) hnr (.slice A8 (i + 1) c8)
          refine ⟨i + 1, r6, A8, c8, by omega, by omega, by go_num, ?_, ?_, HRI6.out, ?_, HU8.out.setCell (.inl (by simp)) _⟩
          · rw [hrs]; exact hput
          · rw [hrs]; exact HXS6.out
          · rw [hrs, List.flatMap_append, ← HYS.out]; exact hst
    · obtain rfl : i = n := by omega
      go_wp2
      exact bodyPost_end (v := .tuple #[]) (by simp [results, Try.results45, go_sem]) rfl ⟨ri, A, cap, rfl, by rw [← HS.out]; exact HR.out, by rw [← HS.out]; exact HXS.out, HRI.out, HOW.out, HU.out⟩
end Go.Proofs.Ytgkejdjdccgjbaa
