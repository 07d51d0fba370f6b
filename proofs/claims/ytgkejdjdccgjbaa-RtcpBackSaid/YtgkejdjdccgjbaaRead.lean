/- rtcp's read, of Pli and of others. Conditions: bytes, no more than 100000. -/
import Derived.Test.YtgkejdjdccgjbaaMap
namespace Go.Proofs.Ytgkejdjdccgjbaa
open Go Go.RowKit
set_option maxHeartbeats 400000

/-- a message of a kind, and of nothing -/
def zcells (k : Int) : List Value := [.int .i64 k, .int .u32 0, .int .u32 0, .int .u64 0, .int .u32 0, .int .u32 0, .int .u32 0, .slice none 0 0, .slice none 0 0, .slice none 0 0, .slice none 0 0, .int .u8 0]
/-- what a body of Pli is -/
def pliM (xs : List Int) : List Value × Int :=
  if (numM (numM xs 0 4).2.1 (numM xs 0 4).2.2 4).2.2 = 0 then (((zcells 4).set 1 (.int .u32 (numM xs 0 4).1)).set 2 (.int .u32 (numM (numM xs 0 4).2.1 (numM xs 0 4).2.2 4).1), 0)
  else (zcells 0, (numM (numM xs 0 4).2.1 (numM xs 0 4).2.2 4).2.2)
section
variable {w5 : World} {c lo : Nat} {r : Rw} {cnt : Int} {cs : List Value}
theorem rd1 (h : CutIs w5 c lo r 0) (hr : ∀ a, r.A = some a → a.block < c) : RdIs ((w5.alloc (.cells (.pointer (some ⟨c, 0, none⟩) :: .int .i64 cnt :: cs).toArray 108)).alloc (.cells #[.pointer (some ⟨w5.heap.size, 0, none⟩)] 105)) (w5.heap.size + 1) w5.heap.size c lo cnt cs r 0 := by
  have hc := h.bl.lt
  refine ⟨?_, (Blk.new _ _ _).alloc _, h.more (((Upd.refl [] w5).alloc _).alloc _), fun a ha => by have := hr a ha; omega⟩
  have := Blk.new (w5.alloc (.cells (.pointer (some ⟨c, 0, none⟩) :: .int .i64 cnt :: cs).toArray 108)) 105 #[.pointer (some ⟨w5.heap.size, 0, none⟩)]
  rwa [World.size_alloc] at this
theorem rd2 (h : CutIs w5 c lo r 0) (hr : ∀ a, r.A = some a → a.block < c) : RdIs ((w5.alloc (.cells #[.pointer (some ⟨w5.heap.size + 1, 0, none⟩)] 105)).alloc (.cells (.pointer (some ⟨c, 0, none⟩) :: .int .i64 cnt :: cs).toArray 108)) w5.heap.size (w5.heap.size + 1) c lo cnt cs r 0 := by
  have hc := h.bl.lt
  refine ⟨(Blk.new _ _ _).alloc _, ?_, h.more (((Upd.refl [] w5).alloc _).alloc _), fun a ha => by have := hr a ha; omega⟩
  have := Blk.new (w5.alloc (.cells #[.pointer (some ⟨w5.heap.size + 1, 0, none⟩)] 105)) 108 (.pointer (some ⟨c, 0, none⟩) :: .int .i64 cnt :: cs).toArray
  rwa [World.size_alloc] at this
theorem rd4 (h : CutIs w5 c lo r 0) (hr : ∀ a, r.A = some a → a.block < c) {g : Nat} (hg : Blk w5 g 105 #[.pointer none]) (hgr : ∀ a, r.A = some a → a.block ≠ g) : RdIs ((w5.setCell ⟨g, 0, none⟩ (.pointer (some ⟨w5.heap.size, 0, none⟩))).alloc (.cells (.pointer (some ⟨c, 0, none⟩) :: .int .i64 cnt :: cs).toArray 108)) g w5.heap.size c lo cnt cs r 0 := by
  have hc := h.bl.lt
  have hu : Upd [g] w5 (w5.setCell ⟨g, 0, none⟩ (.pointer (some ⟨w5.heap.size, 0, none⟩))) := (Upd.refl _ _).setCell (by simp) _
  have hcg : c ≠ g := (hg.ne h.bl (by decide)).symm
  refine ⟨?_, ?_, CutIs.more ⟨h.bl.other (by show c ≠ g; exact hcg) _, h.row.upd2 hu (fun s hs a ha => by rw [List.mem_singleton] at hs; subst hs; exact hgr a ha), h.ap, h.fm⟩ ((Upd.refl [] _).alloc _), fun a ha => by have := hr a ha; omega⟩
  · have := (hg.store 0 (.pointer (some ⟨w5.heap.size, 0, none⟩))).alloc (.cells (.pointer (some ⟨c, 0, none⟩) :: .int .i64 cnt :: cs).toArray 108)
    simpa using this
  · have := Blk.new (w5.setCell ⟨g, 0, none⟩ (.pointer (some ⟨w5.heap.size, 0, none⟩))) 108 (.pointer (some ⟨c, 0, none⟩) :: .int .i64 cnt :: cs).toArray
    simpa [World.setCell] using this
theorem CutIs.lower {lo' : Nat} {w : World} {er : Int} (h : CutIs w c lo r er) (hl : lo' ≤ lo) : CutIs w c lo' r er := ⟨h.bl, h.row.more hl, h.ap, h.fm⟩
end
set_option maxRecDepth 100000 in
set_option maxHeartbeats 4000000 in
theorem read_pli {w : World} {lo : Nat} {r : Rw} (h : RowIn w lo .u8 r) (hl : r.xs.length ≤ 100000) (t count : Int) (hb : Byt r.xs) (hk : kindM t count = 4) :
    Calls Try.prog 30 #[.int .u8 t, .int .i64 count, encR r] w fun e w' => e = .returned (.tuple #[.agg (pliM r.xs).1.toArray, .int .i64 (pliM r.xs).2]) ∧ Upd [] w w' := by
  obtain ⟨W0, hW0⟩ : ∃ W0, W0 = (w.alloc (.cells #[.int .u8 t] 5)).alloc (.cells (zcells 0).toArray 59) := ⟨_, rfl⟩
  have HK := Lib.hid hk
  clear hk
  have HN := Lib.hid (fun W : World => fun (hW : Upd [] w W) => cut_new (h.upd2 hW (by simp)) hl)
  unfold encR at HN ⊢
  unfold zcells at hW0
  go_enter Try.func30, Try.ntmps30
  go_upto_region 1 with fail
  have hB : Blk W0 w.heap.size 5 #[.int .u8 t] := by rw [hW0]; exact (Blk.new _ _ _).alloc _
  have hM : Blk W0 (w.heap.size + 1) 59 (zcells 0).toArray := by
    have := Blk.new (w.alloc (.cells #[.int .u8 t] 5)) 59 (zcells 0).toArray
    rw [World.size_alloc] at this
    rw [hW0]; exact this
  have hU0 : Upd [] w W0 := by rw [hW0]; exact ((Upd.refl [] w).alloc _).alloc _
  have hsz : W0.heap.size = w.heap.size + 1 + 1 := by rw [hW0]; simp
  rw [← hW0]
  obtain ⟨bx, hbx⟩ : ∃ bx, bx = w.heap.size := ⟨_, rfl⟩
  obtain ⟨mr, hmr⟩ : ∃ mr, mr = w.heap.size + 1 := ⟨_, rfl⟩
  have HMR : Hid (w.heap.size ≤ mr) := by rw [hmr]; exact Lib.hid (Nat.le_succ _)
  rw [← hmr] at hM ⊢
  rw [← hbx] at hB ⊢
  have HB := Lib.hid hB
  have HM := Lib.hid hM
  have HU0 := Lib.hid hU0
  have hbl := hB.lt
  have b0 : W0.cell? ⟨bx, 0, none⟩ = some (.int .u8 t) := hB.cell 0
  clear hW0 hbx hmr hB hM hU0 hsz h
  go_cut [8] (fun s8 wd => ∃ (rv rp c : Nat) (r' : Rw), s8 = .pointer (some ⟨rv, 0, none⟩) ∧ r'.xs = r.xs ∧ RdIs wd rv rp c w.heap.size count (zcells (kindM t count)) r' 0 ∧ (w.heap.size ≤ c ∧ w.heap.size ≤ rp) ∧ Upd [] W0 wd)
  case first =>
    go_region_held3 (fun w' => w'.cell? ⟨bx, 0, none⟩ = some (.int .u8 t)) (first | go_keep | exact b5 | exact ((((Upd.refl [W0.heap.size] w5).setCell (by simp) _).alloc _).cell (p := ⟨bx, 0, none⟩) hb5 (by simpa using nb7)).trans b5 | exact (((Upd.refl [] w5).alloc _).cell (p := ⟨bx, 0, none⟩) hb5 (by simp)).trans b5 | exact ((((Upd.refl [] w5).alloc _).alloc _).cell (p := ⟨bx, 0, none⟩) hb5 (by simp)).trans b5)
      (first
        | (go_at_call 41; refine (kind_any t count _).mono ?_; rintro e w6 ⟨rfl, rfl⟩)
        | (go_at_call 25; refine (HN.out _ (HU0.out.drewN 1)).mono ?_; rintro e w5 ⟨c, r', rfl, hx, hcut, hc0, hra, hu5⟩; have hU1 : Upd [] W0 w5 := ((Upd.refl [] W0).drewN 1).next hu5; have HX := Lib.hid (And.intro hx (And.intro hcut (And.intro hc0 hra))); have b5 : w5.cell? ⟨bx, 0, none⟩ = some (.int .u8 t) := (hU1.cell (p := ⟨bx, 0, none⟩) hbl (by simp)).trans b0; have hb5 : bx < w5.heap.size := Nat.lt_of_lt_of_le hbl hU1.size; have nb5 : bx ≠ w5.heap.size := Nat.ne_of_lt hb5; have nb6 : bx ≠ w5.heap.size + 1 := (by omega); have nb7 : bx ≠ W0.heap.size := Nat.ne_of_lt hbl; clear hx hcut hc0 hra hu5)
        | (go_at_call 25; refine (HN.out _ ((HU0.out.drewN 1).alloc (.cells #[.pointer none] 105))).mono ?_; rintro e w5 ⟨c, r', rfl, hx, hcut, hc0, hra, hu5⟩; have hU1 : Upd [] W0 w5 := (((Upd.refl [] W0).drewN 1).alloc _).next hu5; have hq : Blk w5 W0.heap.size 105 #[.pointer none] := (Blk.new (W0.drewN 1) 105 #[.pointer none]).upd hu5 (by simp); have q0 : w5.cell? ⟨W0.heap.size, 0, none⟩ = some (.pointer none) := hq.cell 0; have qf := hq.frozen 0; have ql := hq.lt; have HQ := Lib.hid hq; have HX := Lib.hid (And.intro hx (And.intro hcut (And.intro hc0 hra))); have b5 : w5.cell? ⟨bx, 0, none⟩ = some (.int .u8 t) := (hU1.cell (p := ⟨bx, 0, none⟩) hbl (by simp)).trans b0; have hb5 : bx < w5.heap.size := Nat.lt_of_lt_of_le hbl hU1.size; have nb5 : bx ≠ w5.heap.size := Nat.ne_of_lt hb5; have nb6 : bx ≠ w5.heap.size + 1 := (by omega); have nb7 : bx ≠ W0.heap.size := Nat.ne_of_lt hbl; clear hx hcut hc0 hra hu5 hq))
    all_goals
      obtain ⟨hx, hcut, hc0, hra⟩ := HX.out
      have hcl := hcut.lower (lo' := w.heap.size) (Nat.le_trans HU0.out.size (by simp))
      have HXX := Lib.hid hx
      have HCL := Lib.hid hcl
      have HRA := Lib.hid hra
      have HC0 := Lib.hid hc0
      have hcc : w.heap.size ≤ c := (by have h1 := hc0; have h2 := HU0.out.size; simp at h1; omega)
      have hrr : w.heap.size ≤ w5.heap.size := Nat.le_trans HU0.out.size hU1.size
      have HCC := Lib.hid (And.intro hcc hrr)
      clear hx hcut hcl hra hc0 HX hcc hrr
      go_wp2
      go_meet
      case rel =>
        first
          | exact ⟨_, _, c, r', rfl, HXX.out, rd1 HCL.out (fun a ha => (HRA.out a ha).2), HCC.out, (hU1.alloc _).alloc _⟩
          | exact ⟨_, _, c, r', rfl, HXX.out, rd2 HCL.out (fun a ha => (HRA.out a ha).2), ⟨HCC.out.1, Nat.le_succ_of_le HCC.out.2⟩, (hU1.alloc _).alloc _⟩
          | exact ⟨_, _, c, r', rfl, HXX.out, rd4 HCL.out (fun a ha => (HRA.out a ha).2) HQ.out (fun a ha => by have := (HRA.out a ha).1; simp at this; omega), HCC.out, (hU1.setCell (.inr (Nat.le_refl _)) _).alloc _⟩
  obtain ⟨rv, rp, c, r', rfl, hx, hrd, hnew, hu⟩ := hcut
  have HNEW := Lib.hid hnew
  clear hnew
  obtain ⟨M1, M2, M3, M4, M5, M6, M7, q1, q2, q3, q4, q5, q6, q7, hb7, hu7⟩ := fill wc bx rv
  have qm := run_makeMap_plain (P := Try.prog) wc 111
  have hrd7 := hrd.more hu7
  rw [HK.out] at hrd7
  have v0 : M7.cell? ⟨rv, 0, none⟩ = some (.pointer (some ⟨rp, 0, none⟩)) := hrd7.bv.cell 0
  have k0 : M7.cell? ⟨rp, 2, none⟩ = some (.int .i64 4) := hrd7.cellAt 0 rfl
  have ql := look hb7 4 4 (fv 49 #[.pointer (some ⟨rv, 0, none⟩)]) rfl
  simp only [fv] at q1 q2 q3 q4 q5 q6 q7 ql
  have HC := Lib.hid (read5_any hrd7 (by rw [hx]; exact hb) rfl)
  rw [hx] at HC
  have HM7 := Lib.hid ((HM.out.upd hu (by simp)).upd hu7 (by simp))
  have NMC : Hid (mr ≠ c ∧ mr ≠ rp) := ⟨HM7.out.ne hrd7.cut.bl (by decide), HM7.out.ne hrd7.br (by decide)⟩
  have HU7 := Lib.hid ((HU0.out.next hu).next hu7)
  clear hx hrd hu hb7 hu7 hrd7 b0 HM HU0 HB hbl HN hl
  obtain ⟨⟨a1, xs1, er1⟩, hn1⟩ : ∃ q, q = numM r.xs 0 4 := ⟨_, rfl⟩
  rw [← hn1] at HC
  dsimp only at HC
  obtain ⟨⟨a2, xs2, er2⟩, hn2⟩ : ∃ q, q = numM xs1 er1 4 := ⟨_, rfl⟩
  rw [← hn2] at HC
  dsimp only at HC
  have HPL : Hid (pliM r.xs = if er2 = 0 then (((zcells 4).set 1 (.int .u32 a1)).set 2 (.int .u32 a2), 0) else (zcells 0, er2)) := by
    unfold pliM
    rw [← hn1]
    dsimp only
    rw [← hn2]
    exact Lib.hid rfl
  clear hn1 hn2
  go_wp2_with fail
  refine HC.out.mono ?_
  rintro e w7 ⟨r7, er7, rfl, hrd, her, hr7, hu7⟩
  obtain rfl : er2 = er7 := her.symm
  have hm7 : Blk w7 mr 59 (zcells 0).toArray := HM7.out.upd hu7 (by
    simp only [List.mem_cons, List.not_mem_nil, or_false, not_or]
    exact ⟨NMC.out.1, NMC.out.2⟩)
  have v7 : w7.cell? ⟨rv, 0, none⟩ = some (.pointer (some ⟨rp, 0, none⟩)) := hrd.bv.cell 0
  have c7 : w7.cell? ⟨rp, 0, none⟩ = some (.pointer (some ⟨c, 0, none⟩)) := hrd.br.cell 0
  have rc0 : w7.cell? ⟨rp, 2, none⟩ = some (.int .i64 4) := hrd.cellAt 0 rfl
  have rc1 : w7.cell? ⟨rp, 3, none⟩ = some (.int .u32 a1) := hrd.cellAt 1 rfl
  have rc2 : w7.cell? ⟨rp, 4, none⟩ = some (.int .u32 a2) := hrd.cellAt 2 rfl
  have rc3 : w7.cell? ⟨rp, 5, none⟩ = some (.int .u64 0) := hrd.cellAt 3 rfl
  have rc4 : w7.cell? ⟨rp, 6, none⟩ = some (.int .u32 0) := hrd.cellAt 4 rfl
  have rc5 : w7.cell? ⟨rp, 7, none⟩ = some (.int .u32 0) := hrd.cellAt 5 rfl
  have rc6 : w7.cell? ⟨rp, 8, none⟩ = some (.int .u32 0) := hrd.cellAt 6 rfl
  have rc7 : w7.cell? ⟨rp, 9, none⟩ = some (.slice none 0 0) := hrd.cellAt 7 rfl
  have rc8 : w7.cell? ⟨rp, 10, none⟩ = some (.slice none 0 0) := hrd.cellAt 8 rfl
  have rc9 : w7.cell? ⟨rp, 11, none⟩ = some (.slice none 0 0) := hrd.cellAt 9 rfl
  have rc10 : w7.cell? ⟨rp, 12, none⟩ = some (.slice none 0 0) := hrd.cellAt 10 rfl
  have rc11 : w7.cell? ⟨rp, 13, none⟩ = some (.int .u8 0) := hrd.cellAt 11 rfl
  have HE := Lib.hid (err_any hrd.cut)
  have mc0 : w7.cell? ⟨mr, 0, none⟩ = some (.int .i64 0) := hm7.cell 0
  have mf0 := hm7.frozen 0
  have mc1 : w7.cell? ⟨mr, 1, none⟩ = some (.int .u32 0) := hm7.cell 1
  have mf1 := hm7.frozen 1
  have mc2 : w7.cell? ⟨mr, 2, none⟩ = some (.int .u32 0) := hm7.cell 2
  have mf2 := hm7.frozen 2
  have mc3 : w7.cell? ⟨mr, 3, none⟩ = some (.int .u64 0) := hm7.cell 3
  have mf3 := hm7.frozen 3
  have mc4 : w7.cell? ⟨mr, 4, none⟩ = some (.int .u32 0) := hm7.cell 4
  have mf4 := hm7.frozen 4
  have mc5 : w7.cell? ⟨mr, 5, none⟩ = some (.int .u32 0) := hm7.cell 5
  have mf5 := hm7.frozen 5
  have mc6 : w7.cell? ⟨mr, 6, none⟩ = some (.int .u32 0) := hm7.cell 6
  have mf6 := hm7.frozen 6
  have mc7 : w7.cell? ⟨mr, 7, none⟩ = some (.slice none 0 0) := hm7.cell 7
  have mf7 := hm7.frozen 7
  have mc8 : w7.cell? ⟨mr, 8, none⟩ = some (.slice none 0 0) := hm7.cell 8
  have mf8 := hm7.frozen 8
  have mc9 : w7.cell? ⟨mr, 9, none⟩ = some (.slice none 0 0) := hm7.cell 9
  have mf9 := hm7.frozen 9
  have mc10 : w7.cell? ⟨mr, 10, none⟩ = some (.slice none 0 0) := hm7.cell 10
  have mf10 := hm7.frozen 10
  have mc11 : w7.cell? ⟨mr, 11, none⟩ = some (.int .u8 0) := hm7.cell 11
  have mf11 := hm7.frozen 11
  have hmrp : mr ≠ rp := NMC.out.2
  have HU := Lib.hid (HU7.out.trans hu7 (fun s hs => .inr (by
    simp only [List.mem_cons, List.not_mem_nil, or_false] at hs
    rcases hs with rfl | rfl
    · exact HNEW.out.1
    · exact HNEW.out.2)))
  clear hrd hm7 hr7 hu7 HC HM7 HU7 v0 k0 q1 q2 q3 q4 q5 q6 q7 ql qm
  go_wp2_with fail
  refine HE.out.mono ?_
  rintro e w8 ⟨rfl, rfl⟩
  by_cases he : er2 = 0
  · subst he
    clear HE
    go_wp2
    refine bodyPost_res (v := .tuple #[.agg #[.int .i64 4, .int .u32 a1, .int .u32 a2, .int .u64 0, .int .u32 0, .int .u32 0, .int .u32 0, .slice none 0 0, .slice none 0 0, .slice none 0 0, .slice none 0 0, .int .u8 0], .int .i64 0]) (by simp [results, Try.results30, go_sem, mc0, mc1, mc2, mc3, mc4, mc5, mc6, mc7, mc8, mc9, mc10, mc11, mf0, mf1, mf2, mf3, mf4, mf5, mf6, mf7, mf8, mf9, mf10, mf11]) rfl ⟨?_, ?_⟩
    · rw [HPL.out]; first | (rw [if_pos rfl]; rfl) | (rw [if_pos trivial]; rfl)
    · exact ((((((((((((HU.out.setCell (.inr HMR.out) _).setCell (.inr HMR.out) _).setCell (.inr HMR.out) _).setCell (.inr HMR.out) _).setCell (.inr HMR.out) _).setCell (.inr HMR.out) _).setCell (.inr HMR.out) _).setCell (.inr HMR.out) _).setCell (.inr HMR.out) _).setCell (.inr HMR.out) _).setCell (.inr HMR.out) _).setCell (.inr HMR.out) _)
  · have hne : ¬ er2 = 0 := he
    go_wp2_with fail
    refine HE.out.mono ?_
    rintro e w8 ⟨rfl, rfl⟩
    clear HE
    go_wp2
    refine bodyPost_res (v := .tuple #[.agg #[.int .i64 0, .int .u32 0, .int .u32 0, .int .u64 0, .int .u32 0, .int .u32 0, .int .u32 0, .slice none 0 0, .slice none 0 0, .slice none 0 0, .slice none 0 0, .int .u8 0], .int .i64 er2]) (by simp [results, Try.results30, go_sem, mc0, mc1, mc2, mc3, mc4, mc5, mc6, mc7, mc8, mc9, mc10, mc11, mf0, mf1, mf2, mf3, mf4, mf5, mf6, mf7, mf8, mf9, mf10, mf11]) rfl ⟨?_, ?_⟩
    · rw [HPL.out, if_neg he]; rfl
    · exact ((((((((((((HU.out.setCell (.inr HMR.out) _).setCell (.inr HMR.out) _).setCell (.inr HMR.out) _).setCell (.inr HMR.out) _).setCell (.inr HMR.out) _).setCell (.inr HMR.out) _).setCell (.inr HMR.out) _).setCell (.inr HMR.out) _).setCell (.inr HMR.out) _).setCell (.inr HMR.out) _).setCell (.inr HMR.out) _).setCell (.inr HMR.out) _)
end Go.Proofs.Ytgkejdjdccgjbaa
