/- rtcp's read, whatever the kind but others: by the kind's closure. Conditions: bytes, no more than 100000. (Written by wip/gen/rtcpreadg.py.) -/
import Derived.Test.YtgkejdjdccgjbaaRdClo3
import Derived.Test.YtgkejdjdccgjbaaParse2
namespace Go.Proofs.Ytgkejdjdccgjbaa
open Go Go.RowKit
set_option maxHeartbeats 400000

def mZ : Mg := ⟨0, 0, 0, 0, 0, 0, 0, [], [], [], [], 0⟩
def hZ : Hd := ⟨none, 0, none, 0, none, 0, none, 0⟩
/-- what read answers, of what the closure made -/
def finM (q : Mg × (List Int × Int)) : Mg × Int :=
  if q.2.2 = 0 then (if (q.1.kind = 3 ∧ q.1.pairs.length = 0) ∨ (q.1.kind = 5 ∧ q.1.asks.length = 0) then (mZ, 11) else (q.1, 0)) else (mZ, q.2.2)
theorem mgIn_z (w : World) (lo : Nat) : MgIn w lo mZ hZ := ⟨CellsIn.nil _ _ _ _ _, CellsIn.nil _ _ _ _ _, CellsIn.nil _ _ _ _ _, CellsIn.nil _ _ _ _ _⟩
theorem MgIn.upd {w w' : World} {lo lo' : Nat} {S : List Nat} {m : Mg} {h : Hd} (k : MgIn w lo m h) (u : Upd S w w') (hS : ∀ s, s ∈ S → 0 < m.reports.length → ∀ a, h.rA = some a → a.block ≠ s) (hS2 : ∀ s, s ∈ S → 0 < m.who.length → ∀ a, h.wA = some a → a.block ≠ s)
    (hS3 : ∀ s, s ∈ S → 0 < m.pairs.length → ∀ a, h.pA = some a → a.block ≠ s) (hS4 : ∀ s, s ∈ S → 0 < m.asks.length → ∀ a, h.aA = some a → a.block ≠ s) (hl : lo' ≤ lo) : MgIn w' lo' m h :=
  ⟨(k.cr.upd2 u (Nat.le_refl _) hS).more hl u.size, (k.cw.upd2 u (Nat.le_refl _) hS2).more hl u.size, (k.cp.upd2 u (Nat.le_refl _) hS3).more hl u.size, (k.ca.upd2 u (Nat.le_refl _) hS4).more hl u.size⟩
/-- rows that lie behind a block are as they were when it is written -/
theorem MgIn.behind {w w' : World} {lo lo' g : Nat} {m : Mg} {h : Hd} (k : MgIn w lo m h) (u : Upd [g] w w') (hg : g < lo) (hl : lo' ≤ lo) : MgIn w' lo' m h :=
  k.upd u (fun s hs hn a ha e => by have := k.cr.fresh hn a ha; rw [List.mem_singleton] at hs; omega) (fun s hs hn a ha e => by have := k.cw.fresh hn a ha; rw [List.mem_singleton] at hs; omega)
    (fun s hs hn a ha e => by have := k.cp.fresh hn a ha; rw [List.mem_singleton] at hs; omega) (fun s hs hn a ha e => by have := k.ca.fresh hn a ha; rw [List.mem_singleton] at hs; omega) hl
set_option maxRecDepth 100000 in
set_option maxHeartbeats 8000000 in
theorem read_gen {w : World} {lo : Nat} {r : Rw} (h : RowIn w lo .u8 r) (hl : r.xs.length ≤ 100000) (t count : Int) (k : Int) (hk : kindM t count = k) (F : FuncId) (q : Mg × (List Int × Int))
    (hF6 : (k = 0 ∧ F = 42) ∨ (k = 1 ∧ F = 46) ∨ (k = 2 ∧ F = 47) ∨ (k = 3 ∧ F = 48) ∨ (k = 4 ∧ F = 49) ∨ (k = 5 ∧ F = 50)) (hqk : q.1.kind = k)
    (HCL : ∀ (W : World) (rv rp c lo' : Nat) (r' : Rw), RdIs W rv rp c lo' count (zcells k) r' 0 → r'.xs = r.xs → (∀ a, r'.A = some a → a.block < W.heap.size) → Calls Try.prog F #[.pointer (some ⟨rv, 0, none⟩)] W fun e w' => ∃ r'' hd, e = .returned (.tuple #[]) ∧ RdIs w' rv rp c lo' count (mcells q.1 hd) r'' q.2.2 ∧ MgIn w' W.heap.size q.1 hd ∧ Upd [c, rp] W w') :
    Calls Try.prog 30 #[.int .u8 t, .int .i64 count, encR r] w fun e w' => ∃ hd, e = .returned (.tuple #[.agg (mcells (finM q).1 hd).toArray, .int .i64 (finM q).2]) ∧ MgIn w' w.heap.size (finM q).1 hd ∧ Upd [] w w' := by
  have HCLO := Lib.hid HCL
  have HF6 := Lib.hid hF6
  clear HCL hF6
  obtain ⟨W0, hW0⟩ : ∃ W0, W0 = (w.alloc (.cells #[.int .u8 t] 5)).alloc (.cells (zcells 0).toArray 59) := ⟨_, rfl⟩
  have HK := Lib.hid hk
  clear hk
  have HN := Lib.hid (fun W : World => fun (hW : Upd [] w W) => cut_new (h.upd2 hW (by simp)) hl)
  unfold encR at HN ⊢
  unfold zcells at hW0
  go_enter Try.func30, Try.ntmps30
  go_upto_region 1 with fail
  have hB : Blk W0 w.heap.size 5 #[.int .u8 t] := by rw [hW0]; exact (Blk.new _ _ _).alloc _
  have hM : Blk W0 (w.heap.size + 1) 59 (zcells 0).toArray := by
    have := Blk.new (w.alloc (.cells #[.int .u8 t] 5)) 59 (zcells 0).toArray
    rw [World.size_alloc] at this
    rw [hW0]; exact this
  have hU0 : Upd [] w W0 := by rw [hW0]; exact ((Upd.refl [] w).alloc _).alloc _
  have hsz : W0.heap.size = w.heap.size + 1 + 1 := by rw [hW0]; simp
  rw [← hW0]
  obtain ⟨bx, hbx⟩ : ∃ bx, bx = w.heap.size := ⟨_, rfl⟩
  obtain ⟨mr, hmr⟩ : ∃ mr, mr = w.heap.size + 1 := ⟨_, rfl⟩
  have HMR : Hid (w.heap.size ≤ mr) := by rw [hmr]; exact Lib.hid (Nat.le_succ _)
  rw [← hmr] at hM ⊢
  rw [← hbx] at hB ⊢
  have HB := Lib.hid hB
  have HM := Lib.hid hM
  have HU0 := Lib.hid hU0
  have hbl := hB.lt
  have b0 : W0.cell? ⟨bx, 0, none⟩ = some (.int .u8 t) := hB.cell 0
  clear hW0 hbx hmr hB hM hU0 hsz h
  go_cut [8] (fun s8 wd => ∃ (rv rp c : Nat) (r' : Rw), s8 = .pointer (some ⟨rv, 0, none⟩) ∧ r'.xs = r.xs ∧ RdIs wd rv rp c w.heap.size count (zcells (kindM t count)) r' 0 ∧ (w.heap.size ≤ c ∧ w.heap.size ≤ rp) ∧ (∀ a, r'.A = some a → a.block < wd.heap.size) ∧ Upd [] W0 wd)
  case first =>
    go_region_held3 (fun w' => w'.cell? ⟨bx, 0, none⟩ = some (.int .u8 t)) (first | go_keep | exact b5 | exact ((((Upd.refl [W0.heap.size] w5).setCell (by simp) _).alloc _).cell (p := ⟨bx, 0, none⟩) hb5 (by simpa using nb7)).trans b5 | exact (((Upd.refl [] w5).alloc _).cell (p := ⟨bx, 0, none⟩) hb5 (by simp)).trans b5 | exact ((((Upd.refl [] w5).alloc _).alloc _).cell (p := ⟨bx, 0, none⟩) hb5 (by simp)).trans b5)
      (first
        | (go_at_call 41; refine (kind_any t count _).mono ?_; rintro e w6 ⟨rfl, rfl⟩)
        | (go_at_call 25; refine (HN.out _ (HU0.out.drewN 1)).mono ?_; rintro e w5 ⟨c, r', rfl, hx, hcut, hc0, hra, hu5⟩; have hU1 : Upd [] W0 w5 := ((Upd.refl [] W0).drewN 1).next hu5; have HX := Lib.hid (And.intro hx (And.intro hcut (And.intro hc0 hra))); have b5 : w5.cell? ⟨bx, 0, none⟩ = some (.int .u8 t) := (hU1.cell (p := ⟨bx, 0, none⟩) hbl (by simp)).trans b0; have hb5 : bx < w5.heap.size := Nat.lt_of_lt_of_le hbl hU1.size; have nb5 : bx ≠ w5.heap.size := Nat.ne_of_lt hb5; have nb6 : bx ≠ w5.heap.size + 1 := (by omega); have nb7 : bx ≠ W0.heap.size := Nat.ne_of_lt hbl; clear hx hcut hc0 hra hu5)
        | (go_at_call 25; refine (HN.out _ ((HU0.out.drewN 1).alloc (.cells #[.pointer none] 105))).mono ?_; rintro e w5 ⟨c, r', rfl, hx, hcut, hc0, hra, hu5⟩; have hU1 : Upd [] W0 w5 := (((Upd.refl [] W0).drewN 1).alloc _).next hu5; have hq : Blk w5 W0.heap.size 105 #[.pointer none] := (Blk.new (W0.drewN 1) 105 #[.pointer none]).upd hu5 (by simp); have q0 : w5.cell? ⟨W0.heap.size, 0, none⟩ = some (.pointer none) := hq.cell 0; have qf := hq.frozen 0; have ql := hq.lt; have HQ := Lib.hid hq; have HX := Lib.hid (And.intro hx (And.intro hcut (And.intro hc0 hra))); have b5 : w5.cell? ⟨bx, 0, none⟩ = some (.int .u8 t) := (hU1.cell (p := ⟨bx, 0, none⟩) hbl (by simp)).trans b0; have hb5 : bx < w5.heap.size := Nat.lt_of_lt_of_le hbl hU1.size; have nb5 : bx ≠ w5.heap.size := Nat.ne_of_lt hb5; have nb6 : bx ≠ w5.heap.size + 1 := (by omega); have nb7 : bx ≠ W0.heap.size := Nat.ne_of_lt hbl; clear hx hcut hc0 hra hu5 hq))
    all_goals
      obtain ⟨hx, hcut, hc0, hra⟩ := HX.out
      have hcl := hcut.lower (lo' := w.heap.size) (Nat.le_trans HU0.out.size (by simp))
      have HXX := Lib.hid hx
      have HCL := Lib.hid hcl
      have HRA := Lib.hid hra
      have HC0 := Lib.hid hc0
      have hcc : w.heap.size ≤ c := (by have h1 := hc0; have h2 := HU0.out.size; simp at h1; omega)
      have hrr : w.heap.size ≤ w5.heap.size := Nat.le_trans HU0.out.size hU1.size
      have HCC := Lib.hid (And.intro hcc hrr)
      clear hx hcut hcl hra hc0 HX hcc hrr
      go_wp2
      go_meet
      case rel =>
        first
          | exact ⟨_, _, c, r', rfl, HXX.out, rd1 HCL.out (fun a ha => (HRA.out a ha).2), HCC.out, (fun a ha => Nat.lt_of_lt_of_le (Nat.lt_trans (HRA.out a ha).2 HCL.out.bl.lt) ((((Upd.refl [] w5).alloc _).alloc _).size)), (hU1.alloc _).alloc _⟩
          | exact ⟨_, _, c, r', rfl, HXX.out, rd2 HCL.out (fun a ha => (HRA.out a ha).2), ⟨HCC.out.1, Nat.le_succ_of_le HCC.out.2⟩, (fun a ha => Nat.lt_of_lt_of_le (Nat.lt_trans (HRA.out a ha).2 HCL.out.bl.lt) ((((Upd.refl [] w5).alloc _).alloc _).size)), (hU1.alloc _).alloc _⟩
          | exact ⟨_, _, c, r', rfl, HXX.out, rd4 HCL.out (fun a ha => (HRA.out a ha).2) HQ.out (fun a ha => by have := (HRA.out a ha).1; simp at this; omega), HCC.out, (fun a ha => Nat.lt_of_lt_of_le (Nat.lt_trans (HRA.out a ha).2 HCL.out.bl.lt) ((((Upd.refl [W0.heap.size] w5).setCell (by simp) _).alloc _).size)), (hU1.setCell (.inr (Nat.le_refl _)) _).alloc _⟩
  obtain ⟨rv, rp, c, r', rfl, hx, hrd, hnew, hrl, hu⟩ := hcut
  have HNEW := Lib.hid hnew
  clear hnew
  obtain ⟨M1, M2, M3, M4, M5, M6, M7, q1, q2, q3, q4, q5, q6, q7, hb7, hu7⟩ := fill wc bx rv
  have qm := run_makeMap_plain (P := Try.prog) wc 111
  have hrd7 := hrd.more hu7
  rw [HK.out] at hrd7
  have v0 : M7.cell? ⟨rv, 0, none⟩ = some (.pointer (some ⟨rp, 0, none⟩)) := hrd7.bv.cell 0
  have k0 : M7.cell? ⟨rp, 2, none⟩ = some (.int .i64 k) := hrd7.cellAt 0 rfl
  have hF : ∃ i, Instr.findNow (.int .i64) (.int .i64 k) (ents bx rv) 0 = some (some (i, fv F #[.pointer (some ⟨rv, 0, none⟩)])) := by
    rcases HF6.out with ⟨rfl, rfl⟩ | ⟨rfl, rfl⟩ | ⟨rfl, rfl⟩ | ⟨rfl, rfl⟩ | ⟨rfl, rfl⟩ | ⟨rfl, rfl⟩
    · exact ⟨0, rfl⟩
    · exact ⟨1, rfl⟩
    · exact ⟨2, rfl⟩
    · exact ⟨3, rfl⟩
    · exact ⟨4, rfl⟩
    · exact ⟨5, rfl⟩
  obtain ⟨j, hj⟩ := hF
  have ql := look hb7 k j (fv F #[.pointer (some ⟨rv, 0, none⟩)]) hj
  simp only [fv] at q1 q2 q3 q4 q5 q6 q7 ql
  have HC := Lib.hid (HCLO.out M7 rv rp c w.heap.size r' hrd7 hx (fun a ha => Nat.lt_of_lt_of_le (hrl a ha) hu7.size))
  have HM7 := Lib.hid ((HM.out.upd hu (by simp)).upd hu7 (by simp))
  have NMC : Hid (mr ≠ c ∧ mr ≠ rp) := ⟨HM7.out.ne hrd7.cut.bl (by decide), HM7.out.ne hrd7.br (by decide)⟩
  have HU7 := Lib.hid ((HU0.out.next hu).next hu7)
  have HML := Lib.hid HM7.out.lt
  clear hx hrd hu hb7 hu7 hrd7 b0 HM HU0 HB hbl HN hl hrl HCLO hj
  obtain ⟨⟨mk, m1, m2, m3, m4, m5, m6, mR, mW, mP, mA, mT⟩, xs', er2⟩ := q
  dsimp only at hqk HC
  subst hqk
  go_upto_region 3 with fail
  go_cut [8] (fun s8 wd => s8 = .pointer (some ⟨rv, 0, none⟩) ∧ ∃ (r7 : Rw) (dR : Option Addr) (cR : Nat) (dW : Option Addr) (cW : Nat) (dP : Option Addr) (cP : Nat) (dA : Option Addr) (cA : Nat), RdIs wd rv rp c w.heap.size count [.int .i64 mk, .int .u32 m1, .int .u32 m2, .int .u64 m3, .int .u32 m4, .int .u32 m5, .int .u32 m6, .slice dR mR.length cR, .slice dW mW.length cW, .slice dP mP.length cP, .slice dA mA.length cA, .int .u8 mT] r7 er2 ∧
    MgIn wd M7.heap.size ⟨mk, m1, m2, m3, m4, m5, m6, mR, mW, mP, mA, mT⟩ ⟨dR, cR, dW, cW, dP, cP, dA, cA⟩ ∧ Upd [c, rp] M7 wd)
  case first =>
    rcases HF6.out with ⟨hk', rfl⟩ | ⟨hk', rfl⟩ | ⟨hk', rfl⟩ | ⟨hk', rfl⟩ | ⟨hk', rfl⟩ | ⟨hk', rfl⟩
    all_goals
      obtain rfl := hk'
      go_wp2_with fail
      refine HC.out.mono ?_
      rintro e w7 ⟨r7, ⟨dR, cR, dW, cW, dP, cP, dA, cA⟩, rfl, hrd, hin, hu7⟩
      have HH := Lib.hid (And.intro hrd (And.intro hin hu7))
      clear hrd hin hu7
      go_wp2
      go_meet
      case rel => exact ⟨rfl, r7, dR, cR, dW, cW, dP, cP, dA, cA, HH.out⟩
  obtain ⟨rfl, r7, dR, cR, dW, cW, dP, cP, dA, cA, hrd, hin, hu7⟩ := hcut
  have hm7 : Blk wc mr 59 (zcells 0).toArray := HM7.out.upd hu7 (by
    simp only [List.mem_cons, List.not_mem_nil, or_false, not_or]
    exact ⟨NMC.out.1, NMC.out.2⟩)
  have v7 : wc.cell? ⟨rv, 0, none⟩ = some (.pointer (some ⟨rp, 0, none⟩)) := hrd.bv.cell 0
  have c7 : wc.cell? ⟨rp, 0, none⟩ = some (.pointer (some ⟨c, 0, none⟩)) := hrd.br.cell 0
  have rc0 : wc.cell? ⟨rp, 2, none⟩ = some (.int .i64 mk) := hrd.cellAt 0 rfl
  have rc1 : wc.cell? ⟨rp, 3, none⟩ = some (.int .u32 m1) := hrd.cellAt 1 rfl
  have rc2 : wc.cell? ⟨rp, 4, none⟩ = some (.int .u32 m2) := hrd.cellAt 2 rfl
  have rc3 : wc.cell? ⟨rp, 5, none⟩ = some (.int .u64 m3) := hrd.cellAt 3 rfl
  have rc4 : wc.cell? ⟨rp, 6, none⟩ = some (.int .u32 m4) := hrd.cellAt 4 rfl
  have rc5 : wc.cell? ⟨rp, 7, none⟩ = some (.int .u32 m5) := hrd.cellAt 5 rfl
  have rc6 : wc.cell? ⟨rp, 8, none⟩ = some (.int .u32 m6) := hrd.cellAt 6 rfl
  have rc7 : wc.cell? ⟨rp, 9, none⟩ = some (.slice dR mR.length cR) := hrd.cellAt 7 rfl
  have rc8 : wc.cell? ⟨rp, 10, none⟩ = some (.slice dW mW.length cW) := hrd.cellAt 8 rfl
  have rc9 : wc.cell? ⟨rp, 11, none⟩ = some (.slice dP mP.length cP) := hrd.cellAt 9 rfl
  have rc10 : wc.cell? ⟨rp, 12, none⟩ = some (.slice dA mA.length cA) := hrd.cellAt 10 rfl
  have rc11 : wc.cell? ⟨rp, 13, none⟩ = some (.int .u8 mT) := hrd.cellAt 11 rfl
  have HE := Lib.hid (err_any hrd.cut)
  have mc0 : wc.cell? ⟨mr, 0, none⟩ = some (.int .i64 0) := hm7.cell 0
  have mf0 := hm7.frozen 0
  have mc1 : wc.cell? ⟨mr, 1, none⟩ = some (.int .u32 0) := hm7.cell 1
  have mf1 := hm7.frozen 1
  have mc2 : wc.cell? ⟨mr, 2, none⟩ = some (.int .u32 0) := hm7.cell 2
  have mf2 := hm7.frozen 2
  have mc3 : wc.cell? ⟨mr, 3, none⟩ = some (.int .u64 0) := hm7.cell 3
  have mf3 := hm7.frozen 3
  have mc4 : wc.cell? ⟨mr, 4, none⟩ = some (.int .u32 0) := hm7.cell 4
  have mf4 := hm7.frozen 4
  have mc5 : wc.cell? ⟨mr, 5, none⟩ = some (.int .u32 0) := hm7.cell 5
  have mf5 := hm7.frozen 5
  have mc6 : wc.cell? ⟨mr, 6, none⟩ = some (.int .u32 0) := hm7.cell 6
  have mf6 := hm7.frozen 6
  have mc7 : wc.cell? ⟨mr, 7, none⟩ = some (.slice none 0 0) := hm7.cell 7
  have mf7 := hm7.frozen 7
  have mc8 : wc.cell? ⟨mr, 8, none⟩ = some (.slice none 0 0) := hm7.cell 8
  have mf8 := hm7.frozen 8
  have mc9 : wc.cell? ⟨mr, 9, none⟩ = some (.slice none 0 0) := hm7.cell 9
  have mf9 := hm7.frozen 9
  have mc10 : wc.cell? ⟨mr, 10, none⟩ = some (.slice none 0 0) := hm7.cell 10
  have mf10 := hm7.frozen 10
  have mc11 : wc.cell? ⟨mr, 11, none⟩ = some (.int .u8 0) := hm7.cell 11
  have mf11 := hm7.frozen 11
  have hmrp : mr ≠ rp := NMC.out.2
  have HIN := Lib.hid hin
  have HMLT : Hid (mr < M7.heap.size) := HML
  have HSZ7 : Hid (w.heap.size ≤ M7.heap.size) := Lib.hid HU7.out.size
  have HU := Lib.hid (HU7.out.trans hu7 (fun s hs => .inr (by
    simp only [List.mem_cons, List.not_mem_nil, or_false] at hs
    rcases hs with rfl | rfl
    · exact HNEW.out.1
    · exact HNEW.out.2)))
  clear hrd hm7 hu7 hin HC HM7 HU7 v0 k0 q1 q2 q3 q4 q5 q6 q7 ql qm
  go_wp2_with fail
  refine HE.out.mono ?_
  rintro e w8 ⟨rfl, rfl⟩
  by_cases he : er2 = 0
  · subst he
    clear HE
    by_cases k3 : mk = 3
    · subst k3
      by_cases hp : mP.length = 0
      · have hpb : ((mP.length : Int) == 0) = true := by rw [hp]; rfl
        have HFIN : Hid (finM (⟨3, m1, m2, m3, m4, m5, m6, mR, mW, mP, mA, mT⟩, (xs', 0)) = (mZ, 11)) := by
          unfold finM; dsimp only; rw [if_pos rfl, if_pos (.inl ⟨rfl, hp⟩)]; exact Lib.hid rfl
        go_wp2
        refine bodyPost_res (v := .tuple #[.agg #[.int .i64 0, .int .u32 0, .int .u32 0, .int .u64 0, .int .u32 0, .int .u32 0, .int .u32 0, .slice none 0 0, .slice none 0 0, .slice none 0 0, .slice none 0 0, .int .u8 0], .int .i64 11]) (by simp [results, Try.results30, go_sem, mc0, mc1, mc2, mc3, mc4, mc5, mc6, mc7, mc8, mc9, mc10, mc11]) rfl ⟨hZ, ?_, ?_, ?_⟩
        · rw [HFIN.out]; rfl
        · rw [HFIN.out]; exact mgIn_z _ _
        · exact set12_upd _ _ _ _ _ _ _ _ _ _ _ _ _ HU.out (.inr HMR.out)
      · have hpb : ((mP.length : Int) == 0) = false := beq_eq_false_iff_ne.2 (by omega)
        have HFIN : Hid (finM (⟨3, m1, m2, m3, m4, m5, m6, mR, mW, mP, mA, mT⟩, (xs', 0)) = (⟨3, m1, m2, m3, m4, m5, m6, mR, mW, mP, mA, mT⟩, 0)) := by
          unfold finM; dsimp only; rw [if_pos rfl, if_neg (by omega)]; exact Lib.hid rfl
        go_wp2
        refine bodyPost_res (v := .tuple #[.agg #[.int .i64 3, .int .u32 m1, .int .u32 m2, .int .u64 m3, .int .u32 m4, .int .u32 m5, .int .u32 m6, .slice dR mR.length cR, .slice dW mW.length cW, .slice dP mP.length cP, .slice dA mA.length cA, .int .u8 mT], .int .i64 0]) (by simp [results, Try.results30, go_sem, mc0, mc1, mc2, mc3, mc4, mc5, mc6, mc7, mc8, mc9, mc10, mc11]) rfl ⟨⟨dR, cR, dW, cW, dP, cP, dA, cA⟩, ?_, ?_, ?_⟩
        · rw [HFIN.out]; rfl
        · rw [HFIN.out]; exact HIN.out.behind (set12_upd (S := [mr]) _ _ _ _ _ _ _ _ _ _ _ _ _ (Upd.refl _ _) (.inl (by simp))) HMLT.out HSZ7.out
        · exact set12_upd _ _ _ _ _ _ _ _ _ _ _ _ _ HU.out (.inr HMR.out)
    · have k3b : (mk == 3) = false := beq_eq_false_iff_ne.2 k3
      by_cases k5 : mk = 5
      · subst k5
        by_cases hp : mA.length = 0
        · have hpb : ((mA.length : Int) == 0) = true := by rw [hp]; rfl
          have HFIN : Hid (finM (⟨5, m1, m2, m3, m4, m5, m6, mR, mW, mP, mA, mT⟩, (xs', 0)) = (mZ, 11)) := by
            unfold finM; dsimp only; rw [if_pos rfl, if_pos (.inr ⟨rfl, hp⟩)]; exact Lib.hid rfl
          go_wp2
          refine bodyPost_res (v := .tuple #[.agg #[.int .i64 0, .int .u32 0, .int .u32 0, .int .u64 0, .int .u32 0, .int .u32 0, .int .u32 0, .slice none 0 0, .slice none 0 0, .slice none 0 0, .slice none 0 0, .int .u8 0], .int .i64 11]) (by simp [results, Try.results30, go_sem, mc0, mc1, mc2, mc3, mc4, mc5, mc6, mc7, mc8, mc9, mc10, mc11]) rfl ⟨hZ, ?_, ?_, ?_⟩
          · rw [HFIN.out]; rfl
          · rw [HFIN.out]; exact mgIn_z _ _
          · exact set12_upd _ _ _ _ _ _ _ _ _ _ _ _ _ HU.out (.inr HMR.out)
        · have hpb : ((mA.length : Int) == 0) = false := beq_eq_false_iff_ne.2 (by omega)
          have HFIN : Hid (finM (⟨5, m1, m2, m3, m4, m5, m6, mR, mW, mP, mA, mT⟩, (xs', 0)) = (⟨5, m1, m2, m3, m4, m5, m6, mR, mW, mP, mA, mT⟩, 0)) := by
            unfold finM; dsimp only; rw [if_pos rfl, if_neg (by omega)]; exact Lib.hid rfl
          go_wp2
          refine bodyPost_res (v := .tuple #[.agg #[.int .i64 5, .int .u32 m1, .int .u32 m2, .int .u64 m3, .int .u32 m4, .int .u32 m5, .int .u32 m6, .slice dR mR.length cR, .slice dW mW.length cW, .slice dP mP.length cP, .slice dA mA.length cA, .int .u8 mT], .int .i64 0]) (by simp [results, Try.results30, go_sem, mc0, mc1, mc2, mc3, mc4, mc5, mc6, mc7, mc8, mc9, mc10, mc11]) rfl ⟨⟨dR, cR, dW, cW, dP, cP, dA, cA⟩, ?_, ?_, ?_⟩
          · rw [HFIN.out]; rfl
          · rw [HFIN.out]; exact HIN.out.behind (set12_upd (S := [mr]) _ _ _ _ _ _ _ _ _ _ _ _ _ (Upd.refl _ _) (.inl (by simp))) HMLT.out HSZ7.out
          · exact set12_upd _ _ _ _ _ _ _ _ _ _ _ _ _ HU.out (.inr HMR.out)
      · have k5b : (mk == 5) = false := beq_eq_false_iff_ne.2 k5
        have HFIN : Hid (finM (⟨mk, m1, m2, m3, m4, m5, m6, mR, mW, mP, mA, mT⟩, (xs', 0)) = (⟨mk, m1, m2, m3, m4, m5, m6, mR, mW, mP, mA, mT⟩, 0)) := by
          unfold finM; dsimp only; rw [if_pos rfl, if_neg (by omega)]; exact Lib.hid rfl
        go_wp2
        refine bodyPost_res (v := .tuple #[.agg #[.int .i64 mk, .int .u32 m1, .int .u32 m2, .int .u64 m3, .int .u32 m4, .int .u32 m5, .int .u32 m6, .slice dR mR.length cR, .slice dW mW.length cW, .slice dP mP.length cP, .slice dA mA.length cA, .int .u8 mT], .int .i64 0]) (by simp [results, Try.results30, go_sem, mc0, mc1, mc2, mc3, mc4, mc5, mc6, mc7, mc8, mc9, mc10, mc11]) rfl ⟨⟨dR, cR, dW, cW, dP, cP, dA, cA⟩, ?_, ?_, ?_⟩
        · rw [HFIN.out]; rfl
        · rw [HFIN.out]; exact HIN.out.behind (set12_upd (S := [mr]) _ _ _ _ _ _ _ _ _ _ _ _ _ (Upd.refl _ _) (.inl (by simp))) HMLT.out HSZ7.out
        · exact set12_upd _ _ _ _ _ _ _ _ _ _ _ _ _ HU.out (.inr HMR.out)
  · have hne : ¬ er2 = 0 := he
    have HFIN : Hid (finM (⟨mk, m1, m2, m3, m4, m5, m6, mR, mW, mP, mA, mT⟩, (xs', er2)) = (mZ, er2)) := by
      unfold finM; dsimp only; rw [if_neg hne]; exact Lib.hid rfl
    go_wp2_with fail
    refine HE.out.mono ?_
    rintro e w8 ⟨rfl, rfl⟩
    clear HE
    go_wp2
    refine bodyPost_res (v := .tuple #[.agg #[.int .i64 0, .int .u32 0, .int .u32 0, .int .u64 0, .int .u32 0, .int .u32 0, .int .u32 0, .slice none 0 0, .slice none 0 0, .slice none 0 0, .slice none 0 0, .int .u8 0], .int .i64 er2]) (by simp [results, Try.results30, go_sem, mc0, mc1, mc2, mc3, mc4, mc5, mc6, mc7, mc8, mc9, mc10, mc11]) rfl ⟨hZ, ?_, ?_, ?_⟩
    · rw [HFIN.out]; rfl
    · rw [HFIN.out]; exact mgIn_z _ _
    · exact set12_upd _ _ _ _ _ _ _ _ _ _ _ _ _ HU.out (.inr HMR.out)
end Go.Proofs.Ytgkejdjdccgjbaa
