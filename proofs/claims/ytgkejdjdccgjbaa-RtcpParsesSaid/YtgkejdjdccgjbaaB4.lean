/- Parts of the proof, one behind the other: RdReps, RdClo, RdClo2. No condition of their own. -/
import Derived.Test.YtgkejdjdccgjbaaB3
/- rtcp's reader: reports. Conditions: bytes. (Written by wip/gen/rtcprdreps.py.) -/
namespace Go.Proofs.Ytgkejdjdccgjbaa
open Go Go.RowKit
set_option maxHeartbeats 400000

section
variable {w w' : World} {rv rp c lo : Nat} {cnt : Int} {cs : List Value} {r : Rw} {er : Int}
theorem rnum_kept (h : RdIs w rv rp c lo cnt cs r er) (hb : Byt r.xs) : Calls Try.prog 43 #[.pointer (some ⟨rp, 0, none⟩)] w fun e w' => ∃ r', e = .returned (.int .u32 (numM r.xs er 4).1) ∧ r'.xs = (numM r.xs er 4).2.1 ∧ RdIs w' rv rp c lo cnt cs r' (numM r.xs er 4).2.2 ∧ (∀ a, r'.A = some a → ∃ a0, r.A = some a0 ∧ a0.block = a.block) ∧ Upd [c] w w' := by
  have c0 : w.cell? ⟨rp, 0, none⟩ = some (.pointer (some ⟨c, 0, none⟩)) := h.br.cell 0
  have HC := Lib.hid (num_any h.cut 4 (by decide) (by decide) hb)
  have H := Lib.hid h
  have hx := numM_lt r.xs er 4 hb
  generalize numM r.xs er 4 = q at HC hx ⊢
  obtain ⟨x, xs', e'⟩ := q
  dsimp only at HC hx ⊢
  have hx0 := hx.1
  have hx1 : x < 4294967296 := by have := hx.2; omega
  clear h hb hx
  go_enter Try.func43, Try.ntmps43
  go_wp2_with fail
  refine HC.out.mono ?_
  rintro e w1 ⟨r', rfl, h1, h2, h3, h4⟩
  have HH := Lib.hid (And.intro h1 (And.intro (H.out.took h2 h3 h4) (And.intro h3 h4)))
  clear h1 h2 h3 h4 HC
  go_wp2
  go_ret
  exact ⟨r', rfl, HH.out⟩
theorem RdIs.upd (h : RdIs w rv rp c lo cnt cs r er) {S : List Nat} (u : Upd S w w') (h1 : rv ∉ S) (h2 : rp ∉ S) (h3 : c ∉ S) (h4 : ∀ a, r.A = some a → a.block ∉ S) : RdIs w' rv rp c lo cnt cs r er :=
  ⟨h.bv.upd u h1, h.br.upd u h2, ⟨h.cut.bl.upd u h3, h.cut.row.upd2 u (fun s hs a ha e => h4 a ha (by rw [e]; exact hs)), h.cut.ap, h.cut.fm⟩, h.ap⟩
/-- a box of the caller's own is written -/
theorem RdIs.box (h : RdIs w rv rp c lo cnt cs r er) {X N k : Nat} (u : Value) (h1 : rv < N) (h2 : rp < N) (h3 : c < N) (h4 : ∀ a, r.A = some a → a.block < N) (hX : N ≤ X) : RdIs (w.setCell ⟨X, k, none⟩ u) rv rp c lo cnt cs r er :=
  h.upd (S := [X]) ((Upd.refl _ _).setCell (by simp) _) (by simp; omega) (by simp; omega) (by simp; omega) (fun a ha => by have := h4 a ha; simp; omega)
theorem blk7 {X : Nat} {t : TypeId} {a0 a1 a2 a3 a4 a5 a6 : Value} (h : Blk w X t #[a0, a1, a2, a3, a4, a5, a6]) :
    w.cell? ⟨X, 0, none⟩ = some a0 ∧ w.cell? ⟨X, 1, none⟩ = some a1 ∧ w.cell? ⟨X, 2, none⟩ = some a2 ∧ w.cell? ⟨X, 3, none⟩ = some a3 ∧ w.cell? ⟨X, 4, none⟩ = some a4 ∧ w.cell? ⟨X, 5, none⟩ = some a5 ∧ w.cell? ⟨X, 6, none⟩ = some a6 :=
  ⟨h.cell 0, h.cell 1, h.cell 2, h.cell 3, h.cell 4, h.cell 5, h.cell 6⟩
end
theorem app_upd {S : List Nat} {N s n : Nat} {W w1 : World} {e : TypeId} {v : Value} {xs : List Value} {w0 : World} (u : Upd S w0 W) (hown : W.ownsRow N e s v n xs) (hg : W.grownBy w1 v.ownBlock) (hN : w0.heap.size ≤ N) : Upd S w0 w1 :=
  u.trans (Upd.of_grown hg) (fun t ht => .inr (Nat.le_trans hN (own_block_lt hown (by simpa using ht)).1))
/-- what is left, and what went wrong, behind a number of so many bytes -/
def after (s : List Int × Int) (n : Nat) : List Int × Int := (numM s.1 s.2 n).2
def numS (s : List Int × Int) (n : Nat) : Int := (numM s.1 s.2 n).1
theorem after_byt {s : List Int × Int} (n : Nat) (h : Byt s.1) : Byt (after s n).1 := numM_byt s.1 s.2 n h
theorem numS_lt {s : List Int × Int} (n : Nat) (h : Byt s.1) : 0 ≤ numS s n ∧ numS s n < 256 ^ n := numM_lt s.1 s.2 n h
def repS (s : List Int × Int) : Rep := ⟨numS s 4, numS (after s 4) 1, numS (after (after s 4) 1) 3, numS (after (after (after s 4) 1) 3) 4, numS (after (after (after (after s 4) 1) 3) 4) 4, numS (after (after (after (after (after s 4) 1) 3) 4) 4) 4, numS (after (after (after (after (after (after s 4) 1) 3) 4) 4) 4) 4⟩
def repA (s : List Int × Int) : List Int × Int := after (after (after (after (after (after (after s 4) 1) 3) 4) 4) 4) 4
theorem repA_byt {s : List Int × Int} (h : Byt s.1) : Byt (repA s).1 := after_byt _ (after_byt _ (after_byt _ (after_byt _ (after_byt _ (after_byt _ (after_byt _ h))))))
/-- so many reports -/
def repsM : Nat → List Int × Int → List Rep × (List Int × Int)
  | 0, s => ([], s)
  | n + 1, s => ((repsM n s).1 ++ [repS (repsM n s).2], repA (repsM n s).2)
theorem repsM_byt {s : List Int × Int} (h : Byt s.1) : ∀ n, Byt (repsM n s).2.1
  | 0 => h
  | n + 1 => repA_byt (repsM_byt h n)
theorem repsM_len (s : List Int × Int) : ∀ n, (repsM n s).1.length = n
  | 0 => rfl
  | n + 1 => by rw [repsM, List.length_append, repsM_len s n]; rfl
theorem infoR : (Try.prog.info? 87).map (fun i => (i.zero, i.size, i.bytes)) = some (some (.agg #[.int .u32 0, .int .u8 0, .int .u32 0, .int .u32 0, .int .u32 0, .int .u32 0, .int .u32 0]), 7, 28) := by kernel_rfl
set_option maxRecDepth 100000 in
set_option maxHeartbeats 4000000 in
theorem rreports_any {w : World} {rv rp c lo : Nat} {n : Nat} {cs : List Value} {r : Rw} {er : Int} (h : RdIs w rv rp c lo n cs r er) (hcs : cs.length = 12) (h7 : cs[7]? = some (.slice none 0 0)) (hb : Byt r.xs) (hn : n ≤ 31) (hra : ∀ a, r.A = some a → a.block < w.heap.size) :
    Calls Try.prog 45 #[.pointer (some ⟨rp, 0, none⟩)] w fun e w' => ∃ r' A cap, e = .returned (.tuple #[]) ∧ RdIs w' rv rp c lo n (cs.set 7 (.slice A n cap)) r' (repsM n (r.xs, er)).2.2 ∧ r'.xs = (repsM n (r.xs, er)).2.1 ∧
      (∀ a, r'.A = some a → a.block < w.heap.size) ∧ w'.ownsRow w.heap.size 87 7 (.slice A n cap) n ((repsM n (r.xs, er)).1.flatMap encRep) ∧ Upd [c, rp] w w' := by
  obtain ⟨j0, hj0, hy0, hy1, hy2⟩ := info_parts infoR
  have hrv := h.bv.lt
  have hrp := h.br.lt
  have hc := h.cut.bl.lt
  have q1 : w.cell? ⟨rp, 1, none⟩ = some (.int .i64 n) := h.br.cell 1
  have H := Lib.hid h
  have HB := Lib.hid hb
  have HRA := Lib.hid hra
  have h70 : cs.set 7 (.slice none 0 0) = cs := by
    apply List.ext_getElem?
    intro i
    rw [List.getElem?_set]
    split
    · rename_i e; subst e; split
      · exact h7.symm
      · omega
    · rfl
  have H70 := Lib.hid h70
  clear h hb hra h7 h70
  go_enter Try.func45, Try.ntmps45
  go_wp2
  go_loopg [7] n (fun gk x7 wr => ∃ (i : Nat) (ri : Rw) (A : Option Addr) (cap : Nat), i ≤ n ∧ n ≤ i + gk ∧ x7 = .int .i64 i ∧ RdIs wr rv rp c lo n (cs.set 7 (.slice A i cap)) ri (repsM i (r.xs, er)).2.2 ∧ ri.xs = (repsM i (r.xs, er)).2.1 ∧
      (∀ a, ri.A = some a → a.block < w.heap.size) ∧ wr.ownsRow w.heap.size 87 7 (.slice A i cap) i ((repsM i (r.xs, er)).1.flatMap encRep) ∧ Upd [c, rp] w wr)
  case atStart => exact ⟨0, r, none, 0, Nat.zero_le _, by omega, rfl, by rw [H70.out]; exact H.out, rfl, HRA.out, World.ownsRow_nil _ _ _ _, Upd.refl _ _⟩
  case round =>
    obtain ⟨i, ri, A, cap, hi, hgi, rfl, hrd, hxs, hra, hown, hu⟩ := hrel
    have HBY := Lib.hid (repsM_byt (s := (r.xs, er)) HB.out i)
    obtain ⟨s, hs⟩ : ∃ s, s = (repsM i (r.xs, er)).2 := ⟨_, rfl⟩
    rw [← hs] at hrd hxs HBY
    have HS := Lib.hid hs
    have HRI := Lib.hid hra
    have HOW := Lib.hid hown
    have HU := Lib.hid hu
    have HR := Lib.hid hrd
    have HXS := Lib.hid hxs
    clear hs hra hown hu hrd hxs
    by_cases hlt : i < n
    · have hlti : (i : Int) < (n : Int) := by omega
      have hw : IntKind.i64.wrap ((i : Int) + 1) = (i : Int) + 1 := IntWalk.i64_in _ (by omega)
      have HBY0 : Hid (Byt (after s 4).1) := Lib.hid (after_byt 4 HBY.out)
      have HCk := Lib.hid (rnum_kept HR.out (by rw [HXS.out]; exact HBY.out))
      rw [HXS.out] at HCk
      change Hid (Calls _ _ _ _ fun e w' => ∃ r', e = .returned (.int .u32 (numS s 4)) ∧ r'.xs = (after s 4).1 ∧ RdIs w' rv rp c lo n _ r' (after s 4).2 ∧ (∀ a, r'.A = some a → ∃ a0, ri.A = some a0 ∧ a0.block = a.block) ∧ Upd [c] _ w') at HCk
      go_wp2_with fail
      refine HCk.out.mono ?_
      rintro e w1 ⟨r0, rfl, hx, hrd, hkk, hku⟩
      have hri : ∀ a, r0.A = some a → a.block < w.heap.size := (fun a ha => by obtain ⟨a0, h0, e⟩ := hkk a ha; rw [← e]; exact HRI.out a0 h0)
      go_upto_region 3 with fail
      obtain ⟨W0, hW0⟩ : ∃ W0, W0 = w1.alloc (.cells #[.int .u32 (numS s 4), .int .u8 0, .int .u32 0, .int .u32 0, .int .u32 0, .int .u32 0, .int .u32 0] 87) := ⟨_, rfl⟩
      obtain ⟨X, hX⟩ : ∃ X, X = w1.heap.size := ⟨_, rfl⟩
      rw [← hW0, ← hX]
      have HX0 : Hid (Blk W0 X 87 #[.int .u32 (numS s 4), .int .u8 0, .int .u32 0, .int .u32 0, .int .u32 0, .int .u32 0, .int .u32 0]) := by rw [hW0, hX]; exact Lib.hid (Blk.new _ _ _)
      have HR0 : Hid (RdIs W0 rv rp c lo n (cs.set 7 (.slice A i cap)) r0 (after s 4).2) := by rw [hW0]; exact Lib.hid (hrd.more ((Upd.refl [] _).alloc _))
      have HW0 : Hid (Upd [c] wr W0) := by rw [hW0]; exact Lib.hid (hku.alloc _)
      have HU0 : Hid (Upd [c, rp] w W0) := Lib.hid (HU.out.next (HW0.out.more (by simp)))
      have HXW : Hid (wr.heap.size ≤ X) := by rw [hX]; exact Lib.hid hku.size
      have HXN : Hid (w.heap.size ≤ X) := Lib.hid (Nat.le_trans HU.out.size HXW.out)
      have HXS0 := Lib.hid hx
      have HRI0 := Lib.hid hri
      clear hx hrd hku hri HCk hW0 hX hkk
      have HBY1 : Hid (Byt (after (after s 4) 1).1) := Lib.hid (after_byt 1 HBY0.out)
      have HCk := Lib.hid (num_any HR0.out.cut 1 (by decide) (by decide) (by rw [HXS0.out]; exact HBY0.out))
      rw [HXS0.out] at HCk
      change Hid (Calls _ _ _ _ fun e w' => ∃ r', e = .returned (.int .u64 (numS (after s 4) 1)) ∧ r'.xs = (after (after s 4) 1).1 ∧ CutIs w' c lo r' (after (after s 4) 1).2 ∧ (∀ a, r'.A = some a → ∃ a0, r0.A = some a0 ∧ a0.block = a.block) ∧ Upd [c] _ w') at HCk
      have hcv := numS_lt 1 HBY0.out
      have hcv1 : IntKind.u8.wrap (numS (after s 4) 1) = numS (after s 4) 1 := IntWalk.u8_in _ (by have := hcv.2; have := hcv.1; omega)
      have pc : W0.cell? ⟨rp, 0, none⟩ = some (.pointer (some ⟨c, 0, none⟩)) := HR0.out.br.cell 0
      go_wp2_with fail
      refine HCk.out.mono ?_
      rintro e w2 ⟨r1, rfl, hx, hct, hkk, hku⟩
      have hrd := HR0.out.took hct hkk hku
      have hri : ∀ a, r1.A = some a → a.block < w.heap.size := (fun a ha => by obtain ⟨a0, h0, e⟩ := hkk a ha; rw [← e]; exact HRI0.out a0 h0)
      have hX1 := HX0.out.upd hku (by rw [List.mem_singleton]; have := HXN.out; omega)
      have cx : w2.cell? ⟨X, 1, none⟩ = some (.int .u8 0) := hX1.cell 1
      have fx := hX1.frozen 1
      go_upto_region 4 with fail
      obtain ⟨W1, hW1⟩ : ∃ W1, W1 = w2.setCell ⟨X, 1, none⟩ (.int .u8 (numS (after s 4) 1)) := ⟨_, rfl⟩
      rw [← hW1]
      have HX1 : Hid (Blk W1 X 87 #[.int .u32 (numS s 4), .int .u8 (numS (after s 4) 1), .int .u32 0, .int .u32 0, .int .u32 0, .int .u32 0, .int .u32 0]) := by rw [hW1]; exact Lib.hid (hX1.store 1 (.int .u8 (numS (after s 4) 1)))
      have HR1 : Hid (RdIs W1 rv rp c lo n (cs.set 7 (.slice A i cap)) r1 (after (after s 4) 1).2) := by rw [hW1]; exact Lib.hid (hrd.box (N := w.heap.size) _ hrv hrp hc hri HXN.out)
      have HW1 : Hid (Upd [c] wr W1) := by rw [hW1]; exact Lib.hid ((HW0.out.next hku).setCell (.inr HXW.out) _)
      have HU1 : Hid (Upd [c, rp] w W1) := by rw [hW1]; exact Lib.hid ((HU0.out.next (hku.more (by simp))).setCell (.inr HXN.out) _)
      have HXS1 := Lib.hid hx
      have HRI1 := Lib.hid hri
      clear hx hrd hku hri HCk hW1 hX1 cx fx hct hkk hcv hcv1 pc
      have HBY2 : Hid (Byt (after (after (after s 4) 1) 3).1) := Lib.hid (after_byt 3 HBY1.out)
      have HCk := Lib.hid (num_any HR1.out.cut 3 (by decide) (by decide) (by rw [HXS1.out]; exact HBY1.out))
      rw [HXS1.out] at HCk
      change Hid (Calls _ _ _ _ fun e w' => ∃ r', e = .returned (.int .u64 (numS (after (after s 4) 1) 3)) ∧ r'.xs = (after (after (after s 4) 1) 3).1 ∧ CutIs w' c lo r' (after (after (after s 4) 1) 3).2 ∧ (∀ a, r'.A = some a → ∃ a0, r1.A = some a0 ∧ a0.block = a.block) ∧ Upd [c] _ w') at HCk
      have hcv := numS_lt 3 HBY1.out
      have hcv1 : IntKind.u32.wrap (numS (after (after s 4) 1) 3) = numS (after (after s 4) 1) 3 := IntWalk.u32_in _ (by have := hcv.2; have := hcv.1; omega)
      have pc : W1.cell? ⟨rp, 0, none⟩ = some (.pointer (some ⟨c, 0, none⟩)) := HR1.out.br.cell 0
      go_wp2_with fail
      refine HCk.out.mono ?_
      rintro e w3 ⟨r2, rfl, hx, hct, hkk, hku⟩
      have hrd := HR1.out.took hct hkk hku
      have hri : ∀ a, r2.A = some a → a.block < w.heap.size := (fun a ha => by obtain ⟨a0, h0, e⟩ := hkk a ha; rw [← e]; exact HRI1.out a0 h0)
      have hX2 := HX1.out.upd hku (by rw [List.mem_singleton]; have := HXN.out; omega)
      have cx : w3.cell? ⟨X, 2, none⟩ = some (.int .u32 0) := hX2.cell 2
      have fx := hX2.frozen 2
      go_upto_region 5 with fail
      obtain ⟨W2, hW2⟩ : ∃ W2, W2 = w3.setCell ⟨X, 2, none⟩ (.int .u32 (numS (after (after s 4) 1) 3)) := ⟨_, rfl⟩
      rw [← hW2]
      have HX2 : Hid (Blk W2 X 87 #[.int .u32 (numS s 4), .int .u8 (numS (after s 4) 1), .int .u32 (numS (after (after s 4) 1) 3), .int .u32 0, .int .u32 0, .int .u32 0, .int .u32 0]) := by rw [hW2]; exact Lib.hid (hX2.store 2 (.int .u32 (numS (after (after s 4) 1) 3)))
      have HR2 : Hid (RdIs W2 rv rp c lo n (cs.set 7 (.slice A i cap)) r2 (after (after (after s 4) 1) 3).2) := by rw [hW2]; exact Lib.hid (hrd.box (N := w.heap.size) _ hrv hrp hc hri HXN.out)
      have HW2 : Hid (Upd [c] wr W2) := by rw [hW2]; exact Lib.hid ((HW1.out.next hku).setCell (.inr HXW.out) _)
      have HU2 : Hid (Upd [c, rp] w W2) := by rw [hW2]; exact Lib.hid ((HU1.out.next (hku.more (by simp))).setCell (.inr HXN.out) _)
      have HXS2 := Lib.hid hx
      have HRI2 := Lib.hid hri
      clear hx hrd hku hri HCk hW2 hX2 cx fx hct hkk hcv hcv1 pc
      have HBY3 : Hid (Byt (after (after (after (after s 4) 1) 3) 4).1) := Lib.hid (after_byt 4 HBY2.out)
      have HCk := Lib.hid (rnum_kept HR2.out (by rw [HXS2.out]; exact HBY2.out))
      rw [HXS2.out] at HCk
      change Hid (Calls _ _ _ _ fun e w' => ∃ r', e = .returned (.int .u32 (numS (after (after (after s 4) 1) 3) 4)) ∧ r'.xs = (after (after (after (after s 4) 1) 3) 4).1 ∧ RdIs w' rv rp c lo n _ r' (after (after (after (after s 4) 1) 3) 4).2 ∧ (∀ a, r'.A = some a → ∃ a0, r2.A = some a0 ∧ a0.block = a.block) ∧ Upd [c] _ w') at HCk
      go_wp2_with fail
      refine HCk.out.mono ?_
      rintro e w4 ⟨r3, rfl, hx, hrd, hkk, hku⟩
      have hri : ∀ a, r3.A = some a → a.block < w.heap.size := (fun a ha => by obtain ⟨a0, h0, e⟩ := hkk a ha; rw [← e]; exact HRI2.out a0 h0)
      have hX3 := HX2.out.upd hku (by rw [List.mem_singleton]; have := HXN.out; omega)
      have cx : w4.cell? ⟨X, 3, none⟩ = some (.int .u32 0) := hX3.cell 3
      have fx := hX3.frozen 3
      go_upto_region 6 with fail
      obtain ⟨W3, hW3⟩ : ∃ W3, W3 = w4.setCell ⟨X, 3, none⟩ (.int .u32 (numS (after (after (after s 4) 1) 3) 4)) := ⟨_, rfl⟩
      rw [← hW3]
      have HX3 : Hid (Blk W3 X 87 #[.int .u32 (numS s 4), .int .u8 (numS (after s 4) 1), .int .u32 (numS (after (after s 4) 1) 3), .int .u32 (numS (after (after (after s 4) 1) 3) 4), .int .u32 0, .int .u32 0, .int .u32 0]) := by rw [hW3]; exact Lib.hid (hX3.store 3 (.int .u32 (numS (after (after (after s 4) 1) 3) 4)))
      have HR3 : Hid (RdIs W3 rv rp c lo n (cs.set 7 (.slice A i cap)) r3 (after (after (after (after s 4) 1) 3) 4).2) := by rw [hW3]; exact Lib.hid (hrd.box (N := w.heap.size) _ hrv hrp hc hri HXN.out)
      have HW3 : Hid (Upd [c] wr W3) := by rw [hW3]; exact Lib.hid ((HW2.out.next hku).setCell (.inr HXW.out) _)
      have HU3 : Hid (Upd [c, rp] w W3) := by rw [hW3]; exact Lib.hid ((HU2.out.next (hku.more (by simp))).setCell (.inr HXN.out) _)
      have HXS3 := Lib.hid hx
      have HRI3 := Lib.hid hri
      clear hx hrd hku hri HCk hW3 hX3 cx fx hkk
      have HBY4 : Hid (Byt (after (after (after (after (after s 4) 1) 3) 4) 4).1) := Lib.hid (after_byt 4 HBY3.out)
      have HCk := Lib.hid (rnum_kept HR3.out (by rw [HXS3.out]; exact HBY3.out))
      rw [HXS3.out] at HCk
      change Hid (Calls _ _ _ _ fun e w' => ∃ r', e = .returned (.int .u32 (numS (after (after (after (after s 4) 1) 3) 4) 4)) ∧ r'.xs = (after (after (after (after (after s 4) 1) 3) 4) 4).1 ∧ RdIs w' rv rp c lo n _ r' (after (after (after (after (after s 4) 1) 3) 4) 4).2 ∧ (∀ a, r'.A = some a → ∃ a0, r3.A = some a0 ∧ a0.block = a.block) ∧ Upd [c] _ w') at HCk
      go_wp2_with fail
      refine HCk.out.mono ?_
      rintro e w5 ⟨r4, rfl, hx, hrd, hkk, hku⟩
      have hri : ∀ a, r4.A = some a → a.block < w.heap.size := (fun a ha => by obtain ⟨a0, h0, e⟩ := hkk a ha; rw [← e]; exact HRI3.out a0 h0)
      have hX4 := HX3.out.upd hku (by rw [List.mem_singleton]; have := HXN.out; omega)
      have cx : w5.cell? ⟨X, 4, none⟩ = some (.int .u32 0) := hX4.cell 4
      have fx := hX4.frozen 4
      go_upto_region 7 with fail
      obtain ⟨W4, hW4⟩ : ∃ W4, W4 = w5.setCell ⟨X, 4, none⟩ (.int .u32 (numS (after (after (after (after s 4) 1) 3) 4) 4)) := ⟨_, rfl⟩
      rw [← hW4]
      have HX4 : Hid (Blk W4 X 87 #[.int .u32 (numS s 4), .int .u8 (numS (after s 4) 1), .int .u32 (numS (after (after s 4) 1) 3), .int .u32 (numS (after (after (after s 4) 1) 3) 4), .int .u32 (numS (after (after (after (after s 4) 1) 3) 4) 4), .int .u32 0, .int .u32 0]) := by rw [hW4]; exact Lib.hid (hX4.store 4 (.int .u32 (numS (after (after (after (after s 4) 1) 3) 4) 4)))
      have HR4 : Hid (RdIs W4 rv rp c lo n (cs.set 7 (.slice A i cap)) r4 (after (after (after (after (after s 4) 1) 3) 4) 4).2) := by rw [hW4]; exact Lib.hid (hrd.box (N := w.heap.size) _ hrv hrp hc hri HXN.out)
      have HW4 : Hid (Upd [c] wr W4) := by rw [hW4]; exact Lib.hid ((HW3.out.next hku).setCell (.inr HXW.out) _)
      have HU4 : Hid (Upd [c, rp] w W4) := by rw [hW4]; exact Lib.hid ((HU3.out.next (hku.more (by simp))).setCell (.inr HXN.out) _)
      have HXS4 := Lib.hid hx
      have HRI4 := Lib.hid hri
      clear hx hrd hku hri HCk hW4 hX4 cx fx hkk
      have HBY5 : Hid (Byt (after (after (after (after (after (after s 4) 1) 3) 4) 4) 4).1) := Lib.hid (after_byt 4 HBY4.out)
      have HCk := Lib.hid (rnum_kept HR4.out (by rw [HXS4.out]; exact HBY4.out))
      rw [HXS4.out] at HCk
      change Hid (Calls _ _ _ _ fun e w' => ∃ r', e = .returned (.int .u32 (numS (after (after (after (after (after s 4) 1) 3) 4) 4) 4)) ∧ r'.xs = (after (after (after (after (after (after s 4) 1) 3) 4) 4) 4).1 ∧ RdIs w' rv rp c lo n _ r' (after (after (after (after (after (after s 4) 1) 3) 4) 4) 4).2 ∧ (∀ a, r'.A = some a → ∃ a0, r4.A = some a0 ∧ a0.block = a.block) ∧ Upd [c] _ w') at HCk
      go_wp2_with fail
      refine HCk.out.mono ?_
      rintro e w6 ⟨r5, rfl, hx, hrd, hkk, hku⟩
      have hri : ∀ a, r5.A = some a → a.block < w.heap.size := (fun a ha => by obtain ⟨a0, h0, e⟩ := hkk a ha; rw [← e]; exact HRI4.out a0 h0)
      have hX5 := HX4.out.upd hku (by rw [List.mem_singleton]; have := HXN.out; omega)
      have cx : w6.cell? ⟨X, 5, none⟩ = some (.int .u32 0) := hX5.cell 5
      have fx := hX5.frozen 5
      go_upto_region 8 with fail
      obtain ⟨W5, hW5⟩ : ∃ W5, W5 = w6.setCell ⟨X, 5, none⟩ (.int .u32 (numS (after (after (after (after (after s 4) 1) 3) 4) 4) 4)) := ⟨_, rfl⟩
      rw [← hW5]
      have HX5 : Hid (Blk W5 X 87 #[.int .u32 (numS s 4), .int .u8 (numS (after s 4) 1), .int .u32 (numS (after (after s 4) 1) 3), .int .u32 (numS (after (after (after s 4) 1) 3) 4), .int .u32 (numS (after (after (after (after s 4) 1) 3) 4) 4), .int .u32 (numS (after (after (after (after (after s 4) 1) 3) 4) 4) 4), .int .u32 0]) := by rw [hW5]; exact Lib.hid (hX5.store 5 (.int .u32 (numS (after (after (after (after (after s 4) 1) 3) 4) 4) 4)))
      have HR5 : Hid (RdIs W5 rv rp c lo n (cs.set 7 (.slice A i cap)) r5 (after (after (after (after (after (after s 4) 1) 3) 4) 4) 4).2) := by rw [hW5]; exact Lib.hid (hrd.box (N := w.heap.size) _ hrv hrp hc hri HXN.out)
      have HW5 : Hid (Upd [c] wr W5) := by rw [hW5]; exact Lib.hid ((HW4.out.next hku).setCell (.inr HXW.out) _)
      have HU5 : Hid (Upd [c, rp] w W5) := by rw [hW5]; exact Lib.hid ((HU4.out.next (hku.more (by simp))).setCell (.inr HXN.out) _)
      have HXS5 := Lib.hid hx
      have HRI5 := Lib.hid hri
      clear hx hrd hku hri HCk hW5 hX5 cx fx hkk
      have HBY6 : Hid (Byt (after (after (after (after (after (after (after s 4) 1) 3) 4) 4) 4) 4).1) := Lib.hid (after_byt 4 HBY5.out)
      have HCk := Lib.hid (rnum_kept HR5.out (by rw [HXS5.out]; exact HBY5.out))
      rw [HXS5.out] at HCk
      change Hid (Calls _ _ _ _ fun e w' => ∃ r', e = .returned (.int .u32 (numS (after (after (after (after (after (after s 4) 1) 3) 4) 4) 4) 4)) ∧ r'.xs = (after (after (after (after (after (after (after s 4) 1) 3) 4) 4) 4) 4).1 ∧ RdIs w' rv rp c lo n _ r' (after (after (after (after (after (after (after s 4) 1) 3) 4) 4) 4) 4).2 ∧ (∀ a, r'.A = some a → ∃ a0, r5.A = some a0 ∧ a0.block = a.block) ∧ Upd [c] _ w') at HCk
      go_wp2_with fail
      refine HCk.out.mono ?_
      rintro e w7 ⟨r6, rfl, hx, hrd, hkk, hku⟩
      have hri : ∀ a, r6.A = some a → a.block < w.heap.size := (fun a ha => by obtain ⟨a0, h0, e⟩ := hkk a ha; rw [← e]; exact HRI5.out a0 h0)
      have hX6 := HX5.out.upd hku (by rw [List.mem_singleton]; have := HXN.out; omega)
      have cx : w7.cell? ⟨X, 6, none⟩ = some (.int .u32 0) := hX6.cell 6
      have fx := hX6.frozen 6
      go_upto_region 9 with fail
      obtain ⟨W6, hW6⟩ : ∃ W6, W6 = w7.setCell ⟨X, 6, none⟩ (.int .u32 (numS (after (after (after (after (after (after s 4) 1) 3) 4) 4) 4) 4)) := ⟨_, rfl⟩
      rw [← hW6]
      have HX6 : Hid (Blk W6 X 87 #[.int .u32 (numS s 4), .int .u8 (numS (after s 4) 1), .int .u32 (numS (after (after s 4) 1) 3), .int .u32 (numS (after (after (after s 4) 1) 3) 4), .int .u32 (numS (after (after (after (after s 4) 1) 3) 4) 4), .int .u32 (numS (after (after (after (after (after s 4) 1) 3) 4) 4) 4), .int .u32 (numS (after (after (after (after (after (after s 4) 1) 3) 4) 4) 4) 4)]) := by rw [hW6]; exact Lib.hid (hX6.store 6 (.int .u32 (numS (after (after (after (after (after (after s 4) 1) 3) 4) 4) 4) 4)))
      have HR6 : Hid (RdIs W6 rv rp c lo n (cs.set 7 (.slice A i cap)) r6 (after (after (after (after (after (after (after s 4) 1) 3) 4) 4) 4) 4).2) := by rw [hW6]; exact Lib.hid (hrd.box (N := w.heap.size) _ hrv hrp hc hri HXN.out)
      have HW6 : Hid (Upd [c] wr W6) := by rw [hW6]; exact Lib.hid ((HW5.out.next hku).setCell (.inr HXW.out) _)
      have HU6 : Hid (Upd [c, rp] w W6) := by rw [hW6]; exact Lib.hid ((HU5.out.next (hku.more (by simp))).setCell (.inr HXN.out) _)
      have HXS6 := Lib.hid hx
      have HRI6 := Lib.hid hri
      clear hx hrd hku hri HCk hW6 hX6 cx fx hkk
      go_upto_region 9 with fail
      have p9 : W6.cell? ⟨rp, 9, none⟩ = some (.slice A i cap) := HR6.out.cellAt 7 (by rw [List.getElem?_set_self (by omega)])
      have f9 := HR6.out.br.frozen 9
      have HXd : Hid (Blk W6.drew X 87 #[.int .u32 (numS s 4), .int .u8 (numS (after s 4) 1), .int .u32 (numS (after (after s 4) 1) 3), .int .u32 (numS (after (after (after s 4) 1) 3) 4), .int .u32 (numS (after (after (after (after s 4) 1) 3) 4) 4), .int .u32 (numS (after (after (after (after (after s 4) 1) 3) 4) 4) 4), .int .u32 (numS (after (after (after (after (after (after s 4) 1) 3) 4) 4) 4) 4)]) := Lib.hid (HX6.out.drewN 1)
      have hnc : ∀ t', t' ∈ [c] → (Value.slice A i cap).ownBlock ≠ some t' := by
        intro t' ht' e
        rw [List.mem_singleton] at ht'
        subst ht'
        obtain ⟨cur, hcur⟩ := row_type HOW.out t' e
        exact (hcur.ne HR.out.cut.bl (by decide)) rfl
      have HO6 := Lib.hid (ownsRow_upd HOW.out HW6.out hnc)
      have HVX : Hid (X ∉ (Value.slice A i cap).ownBlock.toList) := Lib.hid (by
        intro hm
        have := own_block_lt HOW.out (by simpa using hm)
        have := HXW.out
        omega)
      have hXrp : X ≠ rp := by have := HXN.out; omega
      have HXa : Hid (Blk (W6.alloc (.cells #[.int .u32 (numS s 4), .int .u8 (numS (after s 4) 1), .int .u32 (numS (after (after s 4) 1) 3), .int .u32 (numS (after (after (after s 4) 1) 3) 4), .int .u32 (numS (after (after (after (after s 4) 1) 3) 4) 4), .int .u32 (numS (after (after (after (after (after s 4) 1) 3) 4) 4) 4), .int .u32 (numS (after (after (after (after (after (after s 4) 1) 3) 4) 4) 4) 4)] 87)).drew X 87 #[.int .u32 (numS s 4), .int .u8 (numS (after s 4) 1), .int .u32 (numS (after (after s 4) 1) 3), .int .u32 (numS (after (after (after s 4) 1) 3) 4), .int .u32 (numS (after (after (after (after s 4) 1) 3) 4) 4), .int .u32 (numS (after (after (after (after (after s 4) 1) 3) 4) 4) 4), .int .u32 (numS (after (after (after (after (after (after s 4) 1) 3) 4) 4) 4) 4)]) := Lib.hid ((HX6.out.alloc _).drewN 1)
      have HOA : Hid ((W6.alloc (.cells #[.int .u32 (numS s 4), .int .u8 (numS (after s 4) 1), .int .u32 (numS (after (after s 4) 1) 3), .int .u32 (numS (after (after (after s 4) 1) 3) 4), .int .u32 (numS (after (after (after (after s 4) 1) 3) 4) 4), .int .u32 (numS (after (after (after (after (after s 4) 1) 3) 4) 4) 4), .int .u32 (numS (after (after (after (after (after (after s 4) 1) 3) 4) 4) 4) 4)] 87)).drew.ownsRow w.heap.size 87 7 (.slice A i cap) i ((repsM i (r.xs, er)).1.flatMap encRep)) := Lib.hid ((HO6.out.alloc _).drew)
      have HSZ : Hid (w.heap.size ≤ (W6.alloc (.cells #[.int .u32 (numS s 4), .int .u8 (numS (after s 4) 1), .int .u32 (numS (after (after s 4) 1) 3), .int .u32 (numS (after (after (after s 4) 1) 3) 4), .int .u32 (numS (after (after (after (after s 4) 1) 3) 4) 4), .int .u32 (numS (after (after (after (after (after s 4) 1) 3) 4) 4) 4), .int .u32 (numS (after (after (after (after (after (after s 4) 1) 3) 4) 4) 4) 4)] 87)).drew.heap.size) := Lib.hid (((HU6.out.alloc (.cells #[.int .u32 (numS s 4), .int .u8 (numS (after s 4) 1), .int .u32 (numS (after (after s 4) 1) 3), .int .u32 (numS (after (after (after s 4) 1) 3) 4), .int .u32 (numS (after (after (after (after s 4) 1) 3) 4) 4), .int .u32 (numS (after (after (after (after (after s 4) 1) 3) 4) 4) 4), .int .u32 (numS (after (after (after (after (after (after s 4) 1) 3) 4) 4) 4) 4)] 87)).drewN 1).size)
      obtain ⟨ys, hys⟩ : ∃ ys, ys = (repsM i (r.xs, er)).1.flatMap encRep := ⟨_, rfl⟩
      rw [← hys] at HOA
      have HYS := Lib.hid hys
      have HNEW : Hid (Blk (W6.alloc (.cells #[.int .u32 (numS s 4), .int .u8 (numS (after s 4) 1), .int .u32 (numS (after (after s 4) 1) 3), .int .u32 (numS (after (after (after s 4) 1) 3) 4), .int .u32 (numS (after (after (after (after s 4) 1) 3) 4) 4), .int .u32 (numS (after (after (after (after (after s 4) 1) 3) 4) 4) 4), .int .u32 (numS (after (after (after (after (after (after s 4) 1) 3) 4) 4) 4) 4)] 87)).drew W6.heap.size 87 #[.int .u32 (numS s 4), .int .u8 (numS (after s 4) 1), .int .u32 (numS (after (after s 4) 1) 3), .int .u32 (numS (after (after (after s 4) 1) 3) 4), .int .u32 (numS (after (after (after (after s 4) 1) 3) 4) 4), .int .u32 (numS (after (after (after (after (after s 4) 1) 3) 4) 4) 4), .int .u32 (numS (after (after (after (after (after (after s 4) 1) 3) 4) 4) 4) 4)]) := Lib.hid ((Blk.new W6 87 #[.int .u32 (numS s 4), .int .u8 (numS (after s 4) 1), .int .u32 (numS (after (after s 4) 1) 3), .int .u32 (numS (after (after (after s 4) 1) 3) 4), .int .u32 (numS (after (after (after (after s 4) 1) 3) 4) 4), .int .u32 (numS (after (after (after (after (after s 4) 1) 3) 4) 4) 4), .int .u32 (numS (after (after (after (after (after (after s 4) 1) 3) 4) 4) 4) 4)]).drewN 1)
      have HONE : Hid (∀ u ∈ ([.int .u32 (numS s 4), .int .u8 (numS (after s 4) 1), .int .u32 (numS (after (after s 4) 1) 3), .int .u32 (numS (after (after (after s 4) 1) 3) 4), .int .u32 (numS (after (after (after (after s 4) 1) 3) 4) 4), .int .u32 (numS (after (after (after (after (after s 4) 1) 3) 4) 4) 4), .int .u32 (numS (after (after (after (after (after (after s 4) 1) 3) 4) 4) 4) 4)] : List Value), u.oneCell' = true) := Lib.hid (by intro u hu; repeat (first | (rcases List.mem_cons.1 hu with rfl | hu; · rfl) | cases hu))
      have hi31 : i ≤ 31 := by omega
      have p9a : (W6.alloc (.cells #[.int .u32 (numS s 4), .int .u8 (numS (after s 4) 1), .int .u32 (numS (after (after s 4) 1) 3), .int .u32 (numS (after (after (after s 4) 1) 3) 4), .int .u32 (numS (after (after (after (after s 4) 1) 3) 4) 4), .int .u32 (numS (after (after (after (after (after s 4) 1) 3) 4) 4) 4), .int .u32 (numS (after (after (after (after (after (after s 4) 1) 3) 4) 4) 4) 4)] 87)).cell? ⟨rp, 9, none⟩ = some (.slice A i cap) := (((Upd.refl [] W6).alloc _).cell (p := ⟨rp, 9, none⟩) HR6.out.br.lt (by simp)).trans p9
      have p9b : (W6.alloc (.cells #[.int .u32 (numS s 4), .int .u8 (numS (after s 4) 1), .int .u32 (numS (after (after s 4) 1) 3), .int .u32 (numS (after (after (after s 4) 1) 3) 4), .int .u32 (numS (after (after (after (after s 4) 1) 3) 4) 4), .int .u32 (numS (after (after (after (after (after s 4) 1) 3) 4) 4) 4), .int .u32 (numS (after (after (after (after (after (after s 4) 1) 3) 4) 4) 4) 4)] 87)).drew.cell? ⟨rp, 9, none⟩ = some (.slice A i cap) := p9a
      clear hys hnc HOW HO6 HU
      obtain ⟨y0, y1, y2, y3, y4, y5, y6⟩ := blk7 HX6.out
      go_region_law
        ((refine step_append_src _ (by rfl) (.tmp 43) (.tmp 45) 55 (by rfl) w.heap.size 87 j0 _ 7 28 Try.underlying55 hj0 hy0 hy1 hy2 rfl (by decide) (.slice A i cap) i ys (by rfl) HOA.out (some ⟨W6.heap.size, 0, none⟩) 1 1 [.int .u32 (numS s 4), .int .u8 (numS (after s 4) 1), .int .u32 (numS (after (after s 4) 1) 3), .int .u32 (numS (after (after (after s 4) 1) 3) 4), .int .u32 (numS (after (after (after (after s 4) 1) 3) 4) 4), .int .u32 (numS (after (after (after (after (after s 4) 1) 3) 4) 4) 4), .int .u32 (numS (after (after (after (after (after (after s 4) 1) 3) 4) 4) 4) 4)] (by rfl) (fun e => by cases e) rfl (fun ad had => by cases had; exact blk_src HNEW.out) HONE.out (by unfold maxLen; omega) (by omega) HSZ.out ?_; intro v8 w8 hown8 hg8 hat8; have HX8 := Lib.hid (HXa.out.upd (Upd.of_grown hg8) HVX.out); have HRD8 := Lib.hid ((HR6.out.more (((Upd.refl [] W6).alloc (.cells #[.int .u32 (numS s 4), .int .u8 (numS (after s 4) 1), .int .u32 (numS (after (after s 4) 1) 3), .int .u32 (numS (after (after (after s 4) 1) 3) 4), .int .u32 (numS (after (after (after (after s 4) 1) 3) 4) 4), .int .u32 (numS (after (after (after (after (after s 4) 1) 3) 4) 4) 4), .int .u32 (numS (after (after (after (after (after (after s 4) 1) 3) 4) 4) 4) 4)] 87)).drewN 1)).upd (Upd.of_grown hg8) (fun hm => by obtain ⟨cur, hcur⟩ := row_type HOA.out rv (by simpa using hm); exact (hcur.ne ((HR6.out.bv.alloc _).drewN 1) (by decide)) rfl) (fun hm => by obtain ⟨cur, hcur⟩ := row_type HOA.out rp (by simpa using hm); exact (hcur.ne ((HR6.out.br.alloc _).drewN 1) (by decide)) rfl) (fun hm => by obtain ⟨cur, hcur⟩ := row_type HOA.out c (by simpa using hm); exact (hcur.ne ((HR6.out.cut.bl.alloc _).drewN 1) (by decide)) rfl) (fun a ha hm => by have h1 := HRI6.out a ha; have h2 := (own_block_lt HOA.out (by simpa using hm)).1; omega)); have p8 : w8.cell? ⟨rp, 9, none⟩ = some (.slice A i cap) := HRD8.out.cellAt 7 (by rw [List.getElem?_set_self (by omega)]); have f8 := HRD8.out.br.frozen 9; have HU8 := Lib.hid (app_upd ((HU6.out.alloc (.cells #[.int .u32 (numS s 4), .int .u8 (numS (after s 4) 1), .int .u32 (numS (after (after s 4) 1) 3), .int .u32 (numS (after (after (after s 4) 1) 3) 4), .int .u32 (numS (after (after (after (after s 4) 1) 3) 4) 4), .int .u32 (numS (after (after (after (after (after s 4) 1) 3) 4) 4) 4), .int .u32 (numS (after (after (after (after (after (after s 4) 1) 3) 4) 4) 4) 4)] 87)).drewN 1) HOA.out hg8 (Nat.le_refl _)); obtain ⟨A8, c8, hv8, _⟩ := own_form hown8; subst hv8; have HO8 := Lib.hid hown8; clear hown8 hg8 hat8))
      all_goals
        go_wp2
        go_roundg (gk - 1)
        case measure => omega
        case rel =>
          have hput := HRD8.out.put 7 (.slice A8 (i + 1) c8)
          rw [List.set_set] at hput
          have hrs : repsM (i + 1) (r.xs, er) = ((repsM i (r.xs, er)).1 ++ [repS s], repA s) := by rw [repsM, ← HS.out]
          have hnr : (Value.slice A8 (i + 1) c8).ownBlock ≠ some rp := by
            intro e
            obtain ⟨cur, hcur⟩ := row_type HO8.out rp e
            exact (hcur.ne HRD8.out.br (by decide)) rfl
          have hst := ownsRow_setCell_other HO8.out (a := ⟨rp, 9, none⟩) hnr (.slice A8 (i + 1) c8)
          refine ⟨i + 1, r6, A8, c8, by omega, by omega, by go_num, ?_, ?_, HRI6.out, ?_, HU8.out.setCell (.inl (by simp)) _⟩
          · rw [hrs]; exact hput
          · rw [hrs]; exact HXS6.out
          · rw [hrs, List.flatMap_append, ← HYS.out]; exact hst
    · obtain rfl : i = n := by omega
      go_wp2
      exact bodyPost_end (v := .tuple #[]) (by simp [results, Try.results45, go_sem]) rfl ⟨ri, A, cap, rfl, by rw [← HS.out]; exact HR.out, by rw [← HS.out]; exact HXS.out, HRI.out, HOW.out, HU.out⟩
end Go.Proofs.Ytgkejdjdccgjbaa
/- rtcp's reader: the closures of Sender, Receiver, Pli. Conditions: bytes. (Written by wip/gen/rtcpclo1.py.) -/
namespace Go.Proofs.Ytgkejdjdccgjbaa
open Go Go.RowKit
set_option maxHeartbeats 400000

theorem CellsIn.lower {w : World} {lo lo' hi size n : Nat} {A : Option Addr} {xs : List Value} (h : CellsIn w lo hi size A n xs) (hl : lo' ≤ lo) : CellsIn w lo' hi size A n xs := h.more hl (Nat.le_refl _)
def senderM (n : Nat) (s : List Int × Int) : Mg × (List Int × Int) :=
  (⟨0, numS s 4, 0, numS (after s 4) 8, numS (after (after s 4) 8) 4, numS (after (after (after s 4) 8) 4) 4, numS (after (after (after (after s 4) 8) 4) 4) 4, (repsM n (after (after (after (after (after s 4) 8) 4) 4) 4)).1, [], [], [], 0⟩, (repsM n (after (after (after (after (after s 4) 8) 4) 4) 4)).2)
def receiverM (n : Nat) (s : List Int × Int) : Mg × (List Int × Int) :=
  (⟨1, numS s 4, 0, 0, 0, 0, 0, (repsM n (after s 4)).1, [], [], [], 0⟩, (repsM n (after s 4)).2)
def pliG (s : List Int × Int) : Mg × (List Int × Int) :=
  (⟨4, numS s 4, numS (after s 4) 4, 0, 0, 0, 0, [], [], [], [], 0⟩, after (after s 4) 4)
set_option maxRecDepth 100000 in
set_option maxHeartbeats 4000000 in
theorem read1_any {w : World} {rv rp c lo : Nat} {n : Nat} {r : Rw} {er : Int} (h : RdIs w rv rp c lo n (zcells 0) r er) (hb : Byt r.xs) (hn : n ≤ 31) (hra : ∀ a, r.A = some a → a.block < w.heap.size) :
    Calls Try.prog 42 #[.pointer (some ⟨rv, 0, none⟩)] w fun e w' => ∃ r' hd, e = .returned (.tuple #[]) ∧ RdIs w' rv rp c lo n (mcells (senderM n (r.xs, er)).1 hd) r' (senderM n (r.xs, er)).2.2 ∧ MgIn w' w.heap.size (senderM n (r.xs, er)).1 hd ∧ Upd [c, rp] w w' := by
  have hrc : rv ≠ rp := h.bv.ne h.br (by decide)
  have hrc' : rp ≠ rv := hrc.symm
  obtain ⟨s0, hs0⟩ : ∃ s, s = (r.xs, er) := ⟨_, rfl⟩
  rw [← hs0]
  obtain ⟨r0, hr0⟩ : ∃ q, q = r := ⟨_, rfl⟩
  have HXS0 : Hid (r0.xs = s0.1) := by rw [hs0, hr0]; exact Lib.hid rfl
  have HR0 : Hid (RdIs w rv rp c lo n (zcells 0) r0 s0.2) := by rw [hs0, hr0]; exact Lib.hid h
  have HB0 : Hid (Byt s0.1) := by rw [hs0]; exact Lib.hid hb
  have HRI0 : Hid (∀ a, r0.A = some a → a.block < w.heap.size) := by rw [hr0]; exact Lib.hid hra
  have HU0 : Hid (Upd [c, rp] w w) := Lib.hid (Upd.refl _ _)
  unfold zcells at HR0
  clear h hb hra hs0 hr0
  go_enter Try.func42, Try.ntmps42
  have hb1 := after_byt 4 HB0.out
  have HC := Lib.hid (rnum_kept (HR0.out.more ((Upd.refl [] w).drewN 1)) (by rw [HXS0.out]; exact HB0.out))
  rw [HXS0.out] at HC
  change Hid (Calls _ _ _ _ fun e w' => ∃ r', e = .returned (.int .u32 (numS s0 4)) ∧ r'.xs = (after s0 4).1 ∧ RdIs w' rv rp c lo n _ r' (after s0 4).2 ∧ (∀ a, r'.A = some a → ∃ a0, r0.A = some a0 ∧ a0.block = a.block) ∧ Upd [c] _ w') at HC
  have v0 : w.cell? ⟨rv, 0, none⟩ = some (.pointer (some ⟨rp, 0, none⟩)) := HR0.out.bv.cell 0
  obtain ⟨x, hx⟩ : ∃ x, x = numS s0 4 := ⟨_, rfl⟩
  obtain ⟨s1, hs1⟩ : ∃ t, t = after s0 4 := ⟨_, rfl⟩
  rw [← hx, ← hs1] at HC
  rw [← hs1] at hb1
  have HX0 := Lib.hid hx
  have HS1 := Lib.hid hs1
  have HB1 := Lib.hid hb1
  clear hx hs1 hb1
  go_upto_region 0 with fail
  go_region_held3 (fun w' => w'.cell? ⟨rv, 0, none⟩ = some (.pointer (some ⟨rp, 0, none⟩))) (first | go_keep | exact va | exact v0 | simpa [hrc, hrc'] using va)
    ((go_at_call 43; refine HC.out.mono ?_; rintro e w1 ⟨r1, rfl, hx, hrd, hkk, hku⟩; have va : w1.cell? ⟨rv, 0, none⟩ = some (.pointer (some ⟨rp, 0, none⟩)) := hrd.bv.cell 0; have pa : w1.cell? ⟨rp, 3, none⟩ = some (.int .u32 0) := hrd.cellAt 1 rfl; have fa := hrd.br.frozen 3; have HH := Lib.hid (And.intro hx (And.intro (hrd.put 1 (.int .u32 x)) (And.intro hkk hku))); clear hx hrd hkk hku))
  obtain ⟨V1, hV1⟩ : ∃ V, V = w1.setCell ⟨rp, 3, none⟩ (.int .u32 x) := ⟨_, rfl⟩
  obtain ⟨hx, hrd, hkk, hku⟩ := HH.out
  have HU1 : Hid (Upd [c, rp] w V1) := by rw [hV1]; exact Lib.hid (((HU0.out.drewN 1).next (hku.more (by simp))).setCell (.inl (by simp)) _)
  rw [show (1 + 2 : Nat) = 3 from rfl, ← hV1] at hrd
  rw [← hV1]
  have HR1 := Lib.hid hrd
  have HXS1 := Lib.hid hx
  have HRI1 : Hid (∀ a, r1.A = some a → a.block < w.heap.size) := Lib.hid (fun a ha => by obtain ⟨a0, h0, e⟩ := hkk a ha; rw [← e]; exact HRI0.out a0 h0)
  clear hV1 HH HC hx hrd hkk hku va pa fa v0
  have hb2 := after_byt 8 HB1.out
  have HC := Lib.hid (num_any (HR1.out.more ((Upd.refl [] V1).drewN 1)).cut 8 (by decide) (by decide) (by rw [HXS1.out]; exact HB1.out))
  rw [HXS1.out] at HC
  change Hid (Calls _ _ _ _ fun e w' => ∃ r', e = .returned (.int .u64 (numS s1 8)) ∧ r'.xs = (after s1 8).1 ∧ CutIs w' c lo r' (after s1 8).2 ∧ (∀ a, r'.A = some a → ∃ a0, r1.A = some a0 ∧ a0.block = a.block) ∧ Upd [c] _ w') at HC
  have v1 : V1.cell? ⟨rv, 0, none⟩ = some (.pointer (some ⟨rp, 0, none⟩)) := HR1.out.bv.cell 0
  have c1 : V1.cell? ⟨rp, 0, none⟩ = some (.pointer (some ⟨c, 0, none⟩)) := HR1.out.br.cell 0
  obtain ⟨x, hx⟩ : ∃ x, x = numS s1 8 := ⟨_, rfl⟩
  obtain ⟨s2, hs2⟩ : ∃ t, t = after s1 8 := ⟨_, rfl⟩
  rw [← hx, ← hs2] at HC
  rw [← hs2] at hb2
  have HX1 := Lib.hid hx
  have HS2 := Lib.hid hs2
  have HB2 := Lib.hid hb2
  clear hx hs2 hb2
  go_upto_region 1 with fail
  go_region_held3 (fun w' => w'.cell? ⟨rv, 0, none⟩ = some (.pointer (some ⟨rp, 0, none⟩)) ∧ w'.cell? ⟨rp, 0, none⟩ = some (.pointer (some ⟨c, 0, none⟩))) (first | go_keep | exact ⟨va, ca⟩ | exact ⟨zb, za⟩ | exact ⟨v1, c1⟩ | simpa [hrc, hrc'] using And.intro va ca)
    ((go_at_call 44; refine HC.out.mono ?_; rintro e w1 ⟨r2, rfl, hx, hct, hkk, hku⟩; have hrd := (HR1.out.more ((Upd.refl [] V1).drewN 1)).took hct hkk hku; clear hct; have va : w1.cell? ⟨rv, 0, none⟩ = some (.pointer (some ⟨rp, 0, none⟩)) := hrd.bv.cell 0; have za : (w1.setCell ⟨rp, 5, none⟩ (.int .u64 x)).cell? ⟨rp, 0, none⟩ = some (.pointer (some ⟨c, 0, none⟩)) := (hrd.put 3 (.int .u64 x)).br.cell 0; have zb : (w1.setCell ⟨rp, 5, none⟩ (.int .u64 x)).cell? ⟨rv, 0, none⟩ = some (.pointer (some ⟨rp, 0, none⟩)) := (hrd.put 3 (.int .u64 x)).bv.cell 0; have ca : w1.cell? ⟨rp, 0, none⟩ = some (.pointer (some ⟨c, 0, none⟩)) := hrd.br.cell 0; have pa : w1.cell? ⟨rp, 5, none⟩ = some (.int .u64 0) := hrd.cellAt 3 rfl; have fa := hrd.br.frozen 5; have HH := Lib.hid (And.intro hx (And.intro (hrd.put 3 (.int .u64 x)) (And.intro hkk hku))); clear hx hrd hkk hku))
  obtain ⟨V2, hV2⟩ : ∃ V, V = w1.setCell ⟨rp, 5, none⟩ (.int .u64 x) := ⟨_, rfl⟩
  obtain ⟨hx, hrd, hkk, hku⟩ := HH.out
  have HU2 : Hid (Upd [c, rp] w V2) := by rw [hV2]; exact Lib.hid (((HU1.out.drewN 1).next (hku.more (by simp))).setCell (.inl (by simp)) _)
  rw [show (3 + 2 : Nat) = 5 from rfl, ← hV2] at hrd
  rw [← hV2]
  have HR2 := Lib.hid hrd
  have HXS2 := Lib.hid hx
  have HRI2 : Hid (∀ a, r2.A = some a → a.block < w.heap.size) := Lib.hid (fun a ha => by obtain ⟨a0, h0, e⟩ := hkk a ha; rw [← e]; exact HRI1.out a0 h0)
  clear hV2 HH HC hx hrd hkk hku va pa fa v1 ca za zb c1
  have hb3 := after_byt 4 HB2.out
  have HC := Lib.hid (rnum_kept (HR2.out.more ((Upd.refl [] V2).drewN 1)) (by rw [HXS2.out]; exact HB2.out))
  rw [HXS2.out] at HC
  change Hid (Calls _ _ _ _ fun e w' => ∃ r', e = .returned (.int .u32 (numS s2 4)) ∧ r'.xs = (after s2 4).1 ∧ RdIs w' rv rp c lo n _ r' (after s2 4).2 ∧ (∀ a, r'.A = some a → ∃ a0, r2.A = some a0 ∧ a0.block = a.block) ∧ Upd [c] _ w') at HC
  have v2 : V2.cell? ⟨rv, 0, none⟩ = some (.pointer (some ⟨rp, 0, none⟩)) := HR2.out.bv.cell 0
  obtain ⟨x, hx⟩ : ∃ x, x = numS s2 4 := ⟨_, rfl⟩
  obtain ⟨s3, hs3⟩ : ∃ t, t = after s2 4 := ⟨_, rfl⟩
  rw [← hx, ← hs3] at HC
  rw [← hs3] at hb3
  have HX2 := Lib.hid hx
  have HS3 := Lib.hid hs3
  have HB3 := Lib.hid hb3
  clear hx hs3 hb3
  go_upto_region 2 with fail
  go_region_held3 (fun w' => w'.cell? ⟨rv, 0, none⟩ = some (.pointer (some ⟨rp, 0, none⟩))) (first | go_keep | exact va | exact v2 | simpa [hrc, hrc'] using va)
    ((go_at_call 43; refine HC.out.mono ?_; rintro e w1 ⟨r3, rfl, hx, hrd, hkk, hku⟩; have va : w1.cell? ⟨rv, 0, none⟩ = some (.pointer (some ⟨rp, 0, none⟩)) := hrd.bv.cell 0; have pa : w1.cell? ⟨rp, 6, none⟩ = some (.int .u32 0) := hrd.cellAt 4 rfl; have fa := hrd.br.frozen 6; have HH := Lib.hid (And.intro hx (And.intro (hrd.put 4 (.int .u32 x)) (And.intro hkk hku))); clear hx hrd hkk hku))
  obtain ⟨V3, hV3⟩ : ∃ V, V = w1.setCell ⟨rp, 6, none⟩ (.int .u32 x) := ⟨_, rfl⟩
  obtain ⟨hx, hrd, hkk, hku⟩ := HH.out
  have HU3 : Hid (Upd [c, rp] w V3) := by rw [hV3]; exact Lib.hid (((HU2.out.drewN 1).next (hku.more (by simp))).setCell (.inl (by simp)) _)
  rw [show (4 + 2 : Nat) = 6 from rfl, ← hV3] at hrd
  rw [← hV3]
  have HR3 := Lib.hid hrd
  have HXS3 := Lib.hid hx
  have HRI3 : Hid (∀ a, r3.A = some a → a.block < w.heap.size) := Lib.hid (fun a ha => by obtain ⟨a0, h0, e⟩ := hkk a ha; rw [← e]; exact HRI2.out a0 h0)
  clear hV3 HH HC hx hrd hkk hku va pa fa v2
  have hb4 := after_byt 4 HB3.out
  have HC := Lib.hid (rnum_kept (HR3.out.more ((Upd.refl [] V3).drewN 1)) (by rw [HXS3.out]; exact HB3.out))
  rw [HXS3.out] at HC
  change Hid (Calls _ _ _ _ fun e w' => ∃ r', e = .returned (.int .u32 (numS s3 4)) ∧ r'.xs = (after s3 4).1 ∧ RdIs w' rv rp c lo n _ r' (after s3 4).2 ∧ (∀ a, r'.A = some a → ∃ a0, r3.A = some a0 ∧ a0.block = a.block) ∧ Upd [c] _ w') at HC
  have v3 : V3.cell? ⟨rv, 0, none⟩ = some (.pointer (some ⟨rp, 0, none⟩)) := HR3.out.bv.cell 0
  obtain ⟨x, hx⟩ : ∃ x, x = numS s3 4 := ⟨_, rfl⟩
  obtain ⟨s4, hs4⟩ : ∃ t, t = after s3 4 := ⟨_, rfl⟩
  rw [← hx, ← hs4] at HC
  rw [← hs4] at hb4
  have HX3 := Lib.hid hx
  have HS4 := Lib.hid hs4
  have HB4 := Lib.hid hb4
  clear hx hs4 hb4
  go_upto_region 3 with fail
  go_region_held3 (fun w' => w'.cell? ⟨rv, 0, none⟩ = some (.pointer (some ⟨rp, 0, none⟩))) (first | go_keep | exact va | exact v3 | simpa [hrc, hrc'] using va)
    ((go_at_call 43; refine HC.out.mono ?_; rintro e w1 ⟨r4, rfl, hx, hrd, hkk, hku⟩; have va : w1.cell? ⟨rv, 0, none⟩ = some (.pointer (some ⟨rp, 0, none⟩)) := hrd.bv.cell 0; have pa : w1.cell? ⟨rp, 7, none⟩ = some (.int .u32 0) := hrd.cellAt 5 rfl; have fa := hrd.br.frozen 7; have HH := Lib.hid (And.intro hx (And.intro (hrd.put 5 (.int .u32 x)) (And.intro hkk hku))); clear hx hrd hkk hku))
  obtain ⟨V4, hV4⟩ : ∃ V, V = w1.setCell ⟨rp, 7, none⟩ (.int .u32 x) := ⟨_, rfl⟩
  obtain ⟨hx, hrd, hkk, hku⟩ := HH.out
  have HU4 : Hid (Upd [c, rp] w V4) := by rw [hV4]; exact Lib.hid (((HU3.out.drewN 1).next (hku.more (by simp))).setCell (.inl (by simp)) _)
  rw [show (5 + 2 : Nat) = 7 from rfl, ← hV4] at hrd
  rw [← hV4]
  have HR4 := Lib.hid hrd
  have HXS4 := Lib.hid hx
  have HRI4 : Hid (∀ a, r4.A = some a → a.block < w.heap.size) := Lib.hid (fun a ha => by obtain ⟨a0, h0, e⟩ := hkk a ha; rw [← e]; exact HRI3.out a0 h0)
  clear hV4 HH HC hx hrd hkk hku va pa fa v3
  have hb5 := after_byt 4 HB4.out
  have HC := Lib.hid (rnum_kept (HR4.out.more ((Upd.refl [] V4).drewN 1)) (by rw [HXS4.out]; exact HB4.out))
  rw [HXS4.out] at HC
  change Hid (Calls _ _ _ _ fun e w' => ∃ r', e = .returned (.int .u32 (numS s4 4)) ∧ r'.xs = (after s4 4).1 ∧ RdIs w' rv rp c lo n _ r' (after s4 4).2 ∧ (∀ a, r'.A = some a → ∃ a0, r4.A = some a0 ∧ a0.block = a.block) ∧ Upd [c] _ w') at HC
  have v4 : V4.cell? ⟨rv, 0, none⟩ = some (.pointer (some ⟨rp, 0, none⟩)) := HR4.out.bv.cell 0
  obtain ⟨x, hx⟩ : ∃ x, x = numS s4 4 := ⟨_, rfl⟩
  obtain ⟨s5, hs5⟩ : ∃ t, t = after s4 4 := ⟨_, rfl⟩
  rw [← hx, ← hs5] at HC
  rw [← hs5] at hb5
  have HX4 := Lib.hid hx
  have HS5 := Lib.hid hs5
  have HB5 := Lib.hid hb5
  clear hx hs5 hb5
  go_upto_region 4 with fail
  go_region_held3 (fun w' => w'.cell? ⟨rv, 0, none⟩ = some (.pointer (some ⟨rp, 0, none⟩))) (first | go_keep | exact va | exact v4 | simpa [hrc, hrc'] using va)
    ((go_at_call 43; refine HC.out.mono ?_; rintro e w1 ⟨r5, rfl, hx, hrd, hkk, hku⟩; have va : w1.cell? ⟨rv, 0, none⟩ = some (.pointer (some ⟨rp, 0, none⟩)) := hrd.bv.cell 0; have pa : w1.cell? ⟨rp, 8, none⟩ = some (.int .u32 0) := hrd.cellAt 6 rfl; have fa := hrd.br.frozen 8; have HH := Lib.hid (And.intro hx (And.intro (hrd.put 6 (.int .u32 x)) (And.intro hkk hku))); clear hx hrd hkk hku))
  obtain ⟨V5, hV5⟩ : ∃ V, V = w1.setCell ⟨rp, 8, none⟩ (.int .u32 x) := ⟨_, rfl⟩
  obtain ⟨hx, hrd, hkk, hku⟩ := HH.out
  have HU5 : Hid (Upd [c, rp] w V5) := by rw [hV5]; exact Lib.hid (((HU4.out.drewN 1).next (hku.more (by simp))).setCell (.inl (by simp)) _)
  rw [show (6 + 2 : Nat) = 8 from rfl, ← hV5] at hrd
  rw [← hV5]
  have HR5 := Lib.hid hrd
  have HXS5 := Lib.hid hx
  have HRI5 : Hid (∀ a, r5.A = some a → a.block < w.heap.size) := Lib.hid (fun a ha => by obtain ⟨a0, h0, e⟩ := hkk a ha; rw [← e]; exact HRI4.out a0 h0)
  clear hV5 HH HC hx hrd hkk hku va pa fa v4
  have HCR := Lib.hid (rreports_any HR5.out rfl rfl (by rw [HXS5.out]; exact HB5.out) hn (fun a ha => Nat.lt_of_lt_of_le (HRI5.out a ha) HU5.out.size))
  have v5 : V5.cell? ⟨rv, 0, none⟩ = some (.pointer (some ⟨rp, 0, none⟩)) := HR5.out.bv.cell 0
  go_wp2_with fail
  refine HCR.out.mono ?_
  rintro e w9 ⟨r9, A, cap, rfl, hrd, hx, _, hown, hu9⟩
  have hu := HU5.out.next hu9
  rw [HXS5.out] at hrd hown
  have HF := Lib.hid (And.intro hrd (And.intro hown hu))
  clear hrd hown hu hu9 hx HCR
  go_wp2
  obtain ⟨hrd, hown, hu⟩ := HF.out
  refine bodyPost_end (v := .tuple #[]) (by simp [results, Try.results42, go_sem]) rfl ⟨r9, ⟨A, cap, none, 0, none, 0, none, 0⟩, rfl, ?_, ⟨?_, CellsIn.nil _ _ _ _ _, CellsIn.nil _ _ _ _ _, CellsIn.nil _ _ _ _ _⟩, hu⟩
  · simp only [senderM, mcells, repsM_len, ← HS1.out, ← HS2.out, ← HS3.out, ← HS4.out, ← HS5.out]
    simp only [HX0.out, HX1.out, HX2.out, HX3.out, HX4.out] at hrd
    exact hrd
  · simp only [senderM, repsM_len, ← HS1.out, ← HS2.out, ← HS3.out, ← HS4.out, ← HS5.out]
    exact (CellsIn.of_own hown).lower HU5.out.size
set_option maxRecDepth 100000 in
set_option maxHeartbeats 4000000 in
theorem read2_any {w : World} {rv rp c lo : Nat} {n : Nat} {r : Rw} {er : Int} (h : RdIs w rv rp c lo n (zcells 1) r er) (hb : Byt r.xs) (hn : n ≤ 31) (hra : ∀ a, r.A = some a → a.block < w.heap.size) :
    Calls Try.prog 46 #[.pointer (some ⟨rv, 0, none⟩)] w fun e w' => ∃ r' hd, e = .returned (.tuple #[]) ∧ RdIs w' rv rp c lo n (mcells (receiverM n (r.xs, er)).1 hd) r' (receiverM n (r.xs, er)).2.2 ∧ MgIn w' w.heap.size (receiverM n (r.xs, er)).1 hd ∧ Upd [c, rp] w w' := by
  have hrc : rv ≠ rp := h.bv.ne h.br (by decide)
  have hrc' : rp ≠ rv := hrc.symm
  obtain ⟨s0, hs0⟩ : ∃ s, s = (r.xs, er) := ⟨_, rfl⟩
  rw [← hs0]
  obtain ⟨r0, hr0⟩ : ∃ q, q = r := ⟨_, rfl⟩
  have HXS0 : Hid (r0.xs = s0.1) := by rw [hs0, hr0]; exact Lib.hid rfl
  have HR0 : Hid (RdIs w rv rp c lo n (zcells 1) r0 s0.2) := by rw [hs0, hr0]; exact Lib.hid h
  have HB0 : Hid (Byt s0.1) := by rw [hs0]; exact Lib.hid hb
  have HRI0 : Hid (∀ a, r0.A = some a → a.block < w.heap.size) := by rw [hr0]; exact Lib.hid hra
  have HU0 : Hid (Upd [c, rp] w w) := Lib.hid (Upd.refl _ _)
  unfold zcells at HR0
  clear h hb hra hs0 hr0
  go_enter Try.func46, Try.ntmps46
  have hb1 := after_byt 4 HB0.out
  have HC := Lib.hid (rnum_kept (HR0.out.more ((Upd.refl [] w).drewN 1)) (by rw [HXS0.out]; exact HB0.out))
  rw [HXS0.out] at HC
  change Hid (Calls _ _ _ _ fun e w' => ∃ r', e = .returned (.int .u32 (numS s0 4)) ∧ r'.xs = (after s0 4).1 ∧ RdIs w' rv rp c lo n _ r' (after s0 4).2 ∧ (∀ a, r'.A = some a → ∃ a0, r0.A = some a0 ∧ a0.block = a.block) ∧ Upd [c] _ w') at HC
  have v0 : w.cell? ⟨rv, 0, none⟩ = some (.pointer (some ⟨rp, 0, none⟩)) := HR0.out.bv.cell 0
  obtain ⟨x, hx⟩ : ∃ x, x = numS s0 4 := ⟨_, rfl⟩
  obtain ⟨s1, hs1⟩ : ∃ t, t = after s0 4 := ⟨_, rfl⟩
  rw [← hx, ← hs1] at HC
  rw [← hs1] at hb1
  have HX0 := Lib.hid hx
  have HS1 := Lib.hid hs1
  have HB1 := Lib.hid hb1
  clear hx hs1 hb1
  go_upto_region 0 with fail
  go_region_held3 (fun w' => w'.cell? ⟨rv, 0, none⟩ = some (.pointer (some ⟨rp, 0, none⟩))) (first | go_keep | exact va | exact v0 | simpa [hrc, hrc'] using va)
    ((go_at_call 43; refine HC.out.mono ?_; rintro e w1 ⟨r1, rfl, hx, hrd, hkk, hku⟩; have va : w1.cell? ⟨rv, 0, none⟩ = some (.pointer (some ⟨rp, 0, none⟩)) := hrd.bv.cell 0; have pa : w1.cell? ⟨rp, 3, none⟩ = some (.int .u32 0) := hrd.cellAt 1 rfl; have fa := hrd.br.frozen 3; have HH := Lib.hid (And.intro hx (And.intro (hrd.put 1 (.int .u32 x)) (And.intro hkk hku))); clear hx hrd hkk hku))
  obtain ⟨V1, hV1⟩ : ∃ V, V = w1.setCell ⟨rp, 3, none⟩ (.int .u32 x) := ⟨_, rfl⟩
  obtain ⟨hx, hrd, hkk, hku⟩ := HH.out
  have HU1 : Hid (Upd [c, rp] w V1) := by rw [hV1]; exact Lib.hid (((HU0.out.drewN 1).next (hku.more (by simp))).setCell (.inl (by simp)) _)
  rw [show (1 + 2 : Nat) = 3 from rfl, ← hV1] at hrd
  rw [← hV1]
  have HR1 := Lib.hid hrd
  have HXS1 := Lib.hid hx
  have HRI1 : Hid (∀ a, r1.A = some a → a.block < w.heap.size) := Lib.hid (fun a ha => by obtain ⟨a0, h0, e⟩ := hkk a ha; rw [← e]; exact HRI0.out a0 h0)
  clear hV1 HH HC hx hrd hkk hku va pa fa v0
  have HCR := Lib.hid (rreports_any HR1.out rfl rfl (by rw [HXS1.out]; exact HB1.out) hn (fun a ha => Nat.lt_of_lt_of_le (HRI1.out a ha) HU1.out.size))
  have v1 : V1.cell? ⟨rv, 0, none⟩ = some (.pointer (some ⟨rp, 0, none⟩)) := HR1.out.bv.cell 0
  go_wp2_with fail
  refine HCR.out.mono ?_
  rintro e w9 ⟨r9, A, cap, rfl, hrd, hx, _, hown, hu9⟩
  have hu := HU1.out.next hu9
  rw [HXS1.out] at hrd hown
  have HF := Lib.hid (And.intro hrd (And.intro hown hu))
  clear hrd hown hu hu9 hx HCR
  go_wp2
  obtain ⟨hrd, hown, hu⟩ := HF.out
  refine bodyPost_end (v := .tuple #[]) (by simp [results, Try.results46, go_sem]) rfl ⟨r9, ⟨A, cap, none, 0, none, 0, none, 0⟩, rfl, ?_, ⟨?_, CellsIn.nil _ _ _ _ _, CellsIn.nil _ _ _ _ _, CellsIn.nil _ _ _ _ _⟩, hu⟩
  · simp only [receiverM, mcells, repsM_len, ← HS1.out]
    simp only [HX0.out] at hrd
    exact hrd
  · simp only [receiverM, repsM_len, ← HS1.out]
    exact (CellsIn.of_own hown).lower HU1.out.size
end Go.Proofs.Ytgkejdjdccgjbaa
/- rtcp's reader: the closures of Pli, Nack, Fir. Conditions: bytes. (Written by wip/gen/rtcpclo2.py.) -/
namespace Go.Proofs.Ytgkejdjdccgjbaa
open Go Go.RowKit
set_option maxHeartbeats 400000

theorem after_ok {s : List Int × Int} (n : Nat) (h : s.2 = 0) (hn : n ≤ s.1.length) : (after s n).1.length = s.1.length - n ∧ (after s n).2 = 0 := by
  obtain ⟨xs, er⟩ := s
  dsimp only at h hn
  subst h
  have e : numM xs 0 n = (numOf (xs.take n), xs.drop n, 0) := by simp [numM]; omega
  unfold after
  dsimp only
  rw [e]
  exact ⟨by rw [List.length_drop], rfl⟩
theorem after_bad {s : List Int × Int} (n : Nat) (h : s.2 ≠ 0 → s.1.length < n) : (after s n).2 ≠ 0 → (after s n).1.length < n := by
  obtain ⟨xs, er⟩ := s
  dsimp only at h
  unfold after
  dsimp only
  unfold numM
  split
  · intro _; exact h (by assumption)
  split
  · intro _; assumption
  · intro hh; exact absurd rfl hh
def pairS (s : List Int × Int) : Int × Int := (numS s 2, numS (after s 2) 2)
def pairA (s : List Int × Int) : List Int × Int := after (after s 2) 2
def pairsM : Nat → List Int × Int → List (Int × Int) × (List Int × Int)
  | 0, s => ([], s)
  | n + 1, s => ((pairsM n s).1 ++ [pairS (pairsM n s).2], pairA (pairsM n s).2)
theorem pairsM_byt {s : List Int × Int} (h : Byt s.1) : ∀ n, Byt (pairsM n s).2.1
  | 0 => h
  | n + 1 => after_byt _ (after_byt _ (pairsM_byt h n))
theorem pairsM_len (s : List Int × Int) : ∀ n, (pairsM n s).1.length = n
  | 0 => rfl
  | n + 1 => by rw [pairsM, List.length_append, pairsM_len s n]; rfl
theorem pairsM_ok {s : List Int × Int} (h : s.2 = 0) : ∀ n, 4 * n ≤ s.1.length → (pairsM n s).2.1.length = s.1.length - 4 * n ∧ (pairsM n s).2.2 = 0
  | 0, _ => ⟨by simp [pairsM], h⟩
  | n + 1, hn => by
    obtain ⟨h1, h2⟩ := pairsM_ok h n (by omega)
    obtain ⟨h3, h4⟩ := after_ok 2 h2 (by omega)
    obtain ⟨h5, h6⟩ := after_ok 2 h4 (by omega)
    exact ⟨by show (after (after (pairsM n s).2 2) 2).1.length = _; omega, h6⟩
def askS (s : List Int × Int) : Int × Int := (numS s 4, numS (after s 4) 1)
def askA (s : List Int × Int) : List Int × Int := after (after (after s 4) 1) 3
def asksM : Nat → List Int × Int → List (Int × Int) × (List Int × Int)
  | 0, s => ([], s)
  | n + 1, s => ((asksM n s).1 ++ [askS (asksM n s).2], askA (asksM n s).2)
theorem asksM_byt {s : List Int × Int} (h : Byt s.1) : ∀ n, Byt (asksM n s).2.1
  | 0 => h
  | n + 1 => after_byt _ (after_byt _ (after_byt _ (asksM_byt h n)))
theorem asksM_len (s : List Int × Int) : ∀ n, (asksM n s).1.length = n
  | 0 => rfl
  | n + 1 => by rw [asksM, List.length_append, asksM_len s n]; rfl
theorem asksM_ok {s : List Int × Int} (h : s.2 = 0) : ∀ n, 8 * n ≤ s.1.length → (asksM n s).2.1.length = s.1.length - 8 * n ∧ (asksM n s).2.2 = 0
  | 0, _ => ⟨by simp [asksM], h⟩
  | n + 1, hn => by
    obtain ⟨h1, h2⟩ := asksM_ok h n (by omega)
    obtain ⟨h3, h4⟩ := after_ok 4 h2 (by omega)
    obtain ⟨h5, h6⟩ := after_ok 1 h4 (by omega)
    obtain ⟨h7, h8⟩ := after_ok 3 h6 (by omega)
    exact ⟨by show (after (after (after (asksM n s).2 4) 1) 3).1.length = _; omega, h8⟩
def nackM (s : List Int × Int) : Mg × (List Int × Int) :=
  (⟨3, numS s 4, numS (after s 4) 4, 0, 0, 0, 0, [], [], (pairsM ((after (after s 4) 4).1.length / 4) (after (after s 4) 4)).1, [], 0⟩, (pairsM ((after (after s 4) 4).1.length / 4) (after (after s 4) 4)).2)
def firM (s : List Int × Int) : Mg × (List Int × Int) :=
  (⟨5, numS s 4, numS (after s 4) 4, 0, 0, 0, 0, [], [], [], (asksM ((after (after s 4) 4).1.length / 8) (after (after s 4) 4)).1, 0⟩, (asksM ((after (after s 4) 4).1.length / 8) (after (after s 4) 4)).2)
theorem infoPr : (Try.prog.info? 68).map (fun i => (i.zero, i.size, i.bytes)) = some (some (.agg #[.int .u16 0, .int .u16 0]), 2, 4) := by kernel_rfl
theorem infoAs : (Try.prog.info? 91).map (fun i => (i.zero, i.size, i.bytes)) = some (some (.agg #[.int .u32 0, .int .u8 0]), 2, 8) := by kernel_rfl
theorem blk2 {w : World} {X : Nat} {t : TypeId} {a0 a1 p : Value} {g : Addr} (h : Blk w X t #[a0, a1]) (hg : w.cell? g = some p) : w.cell? g = some p ∧ w.cell? ⟨X, 0, none⟩ = some a0 ∧ w.cell? ⟨X, 1, none⟩ = some a1 := ⟨hg, h.cell 0, h.cell 1⟩
set_option maxRecDepth 100000 in
set_option maxHeartbeats 4000000 in
theorem read5g_any {w : World} {rv rp c lo : Nat} {n : Nat} {r : Rw} (h : RdIs w rv rp c lo n (zcells 4) r 0) (hb : Byt r.xs) (hl : r.xs.length ≤ 100000) (hra : ∀ a, r.A = some a → a.block < w.heap.size) :
    Calls Try.prog 49 #[.pointer (some ⟨rv, 0, none⟩)] w fun e w' => ∃ r' hd, e = .returned (.tuple #[]) ∧ RdIs w' rv rp c lo n (mcells (pliG (r.xs, 0)).1 hd) r' (pliG (r.xs, 0)).2.2 ∧ MgIn w' w.heap.size (pliG (r.xs, 0)).1 hd ∧ Upd [c, rp] w w' := by
  have hrc : rv ≠ rp := h.bv.ne h.br (by decide)
  have hrc' : rp ≠ rv := hrc.symm
  have hrv := h.bv.lt
  have hrp := h.br.lt
  have hc := h.cut.bl.lt
  obtain ⟨s0, hs0⟩ : ∃ s : List Int × Int, s = (r.xs, 0) := ⟨_, rfl⟩
  rw [← hs0]
  obtain ⟨r0, hr0⟩ : ∃ q, q = r := ⟨_, rfl⟩
  have HXS0 : Hid (r0.xs = s0.1) := by rw [hs0, hr0]; exact Lib.hid rfl
  have HR0 : Hid (RdIs w rv rp c lo n (zcells 4) r0 s0.2) := by rw [hs0, hr0]; exact Lib.hid h
  have HB0 : Hid (Byt s0.1) := by rw [hs0]; exact Lib.hid hb
  have HRI0 : Hid (∀ a, r0.A = some a → a.block < w.heap.size) := by rw [hr0]; exact Lib.hid hra
  have HU0 : Hid (Upd [c, rp] w w) := Lib.hid (Upd.refl _ _)
  have HE0 : Hid (s0.2 = 0) := by rw [hs0]; exact Lib.hid rfl
  have HL0 : Hid (s0.1.length ≤ 100000) := by rw [hs0]; exact Lib.hid hl
  unfold zcells at HR0
  clear h hb hra hs0 hr0 hl
  go_enter Try.func49, Try.ntmps49
  have hb1 := after_byt 4 HB0.out
  have HC := Lib.hid (rnum_kept (HR0.out.more ((Upd.refl [] w).drewN 1)) (by rw [HXS0.out]; exact HB0.out))
  rw [HXS0.out] at HC
  change Hid (Calls _ _ _ _ fun e w' => ∃ r', e = .returned (.int .u32 (numS s0 4)) ∧ r'.xs = (after s0 4).1 ∧ RdIs w' rv rp c lo n _ r' (after s0 4).2 ∧ (∀ a, r'.A = some a → ∃ a0, r0.A = some a0 ∧ a0.block = a.block) ∧ Upd [c] _ w') at HC
  have v0 : w.cell? ⟨rv, 0, none⟩ = some (.pointer (some ⟨rp, 0, none⟩)) := HR0.out.bv.cell 0
  obtain ⟨x, hx⟩ : ∃ x, x = numS s0 4 := ⟨_, rfl⟩
  obtain ⟨s1, hs1⟩ : ∃ t, t = after s0 4 := ⟨_, rfl⟩
  rw [← hx, ← hs1] at HC
  rw [← hs1] at hb1
  have HX0 := Lib.hid hx
  have HS1 := Lib.hid hs1
  have HB1 := Lib.hid hb1
  clear hx hs1 hb1
  go_upto_region 0 with fail
  go_region_held3 (fun w' => w'.cell? ⟨rv, 0, none⟩ = some (.pointer (some ⟨rp, 0, none⟩))) (first | go_keep | exact va | exact v0 | simpa [hrc, hrc'] using va)
    ((go_at_call 43; refine HC.out.mono ?_; rintro e w1 ⟨r1, rfl, hx, hrd, hkk, hku⟩; have va : w1.cell? ⟨rv, 0, none⟩ = some (.pointer (some ⟨rp, 0, none⟩)) := hrd.bv.cell 0; have pa : w1.cell? ⟨rp, 3, none⟩ = some (.int .u32 0) := hrd.cellAt 1 rfl; have fa := hrd.br.frozen 3; have HH := Lib.hid (And.intro hx (And.intro (hrd.put 1 (.int .u32 x)) (And.intro hkk hku))); clear hx hrd hkk hku))
  obtain ⟨V1, hV1⟩ : ∃ V, V = w1.setCell ⟨rp, 3, none⟩ (.int .u32 x) := ⟨_, rfl⟩
  obtain ⟨hx, hrd, hkk, hku⟩ := HH.out
  have HU1 : Hid (Upd [c, rp] w V1) := by rw [hV1]; exact Lib.hid (((HU0.out.drewN 1).next (hku.more (by simp))).setCell (.inl (by simp)) _)
  rw [show (1 + 2 : Nat) = 3 from rfl, ← hV1] at hrd
  rw [← hV1]
  have HR1 := Lib.hid hrd
  have HXS1 := Lib.hid hx
  have HRI1 : Hid (∀ a, r1.A = some a → a.block < w.heap.size) := Lib.hid (fun a ha => by obtain ⟨a0, h0, e⟩ := hkk a ha; rw [← e]; exact HRI0.out a0 h0)
  clear hV1 HH HC hx hrd hkk hku va pa fa v0
  have hb2 := after_byt 4 HB1.out
  have HC := Lib.hid (rnum_kept (HR1.out.more ((Upd.refl [] V1).drewN 1)) (by rw [HXS1.out]; exact HB1.out))
  rw [HXS1.out] at HC
  change Hid (Calls _ _ _ _ fun e w' => ∃ r', e = .returned (.int .u32 (numS s1 4)) ∧ r'.xs = (after s1 4).1 ∧ RdIs w' rv rp c lo n _ r' (after s1 4).2 ∧ (∀ a, r'.A = some a → ∃ a0, r1.A = some a0 ∧ a0.block = a.block) ∧ Upd [c] _ w') at HC
  have v1 : V1.cell? ⟨rv, 0, none⟩ = some (.pointer (some ⟨rp, 0, none⟩)) := HR1.out.bv.cell 0
  obtain ⟨x, hx⟩ : ∃ x, x = numS s1 4 := ⟨_, rfl⟩
  obtain ⟨s2, hs2⟩ : ∃ t, t = after s1 4 := ⟨_, rfl⟩
  rw [← hx, ← hs2] at HC
  rw [← hs2] at hb2
  have HX1 := Lib.hid hx
  have HS2 := Lib.hid hs2
  have HB2 := Lib.hid hb2
  clear hx hs2 hb2
  go_upto_region 1 with fail
  go_region_held3 (fun w' => w'.cell? ⟨rv, 0, none⟩ = some (.pointer (some ⟨rp, 0, none⟩))) (first | go_keep | exact va | exact v1 | simpa [hrc, hrc'] using va)
    ((go_at_call 43; refine HC.out.mono ?_; rintro e w1 ⟨r2, rfl, hx, hrd, hkk, hku⟩; have va : w1.cell? ⟨rv, 0, none⟩ = some (.pointer (some ⟨rp, 0, none⟩)) := hrd.bv.cell 0; have pa : w1.cell? ⟨rp, 4, none⟩ = some (.int .u32 0) := hrd.cellAt 2 rfl; have fa := hrd.br.frozen 4; have HH := Lib.hid (And.intro hx (And.intro (hrd.put 2 (.int .u32 x)) (And.intro hkk hku))); clear hx hrd hkk hku))
  obtain ⟨V2, hV2⟩ : ∃ V, V = w1.setCell ⟨rp, 4, none⟩ (.int .u32 x) := ⟨_, rfl⟩
  obtain ⟨hx, hrd, hkk, hku⟩ := HH.out
  have HU2 : Hid (Upd [c, rp] w V2) := by rw [hV2]; exact Lib.hid (((HU1.out.drewN 1).next (hku.more (by simp))).setCell (.inl (by simp)) _)
  rw [show (2 + 2 : Nat) = 4 from rfl, ← hV2] at hrd
  rw [← hV2]
  have HR2 := Lib.hid hrd
  have HXS2 := Lib.hid hx
  have HRI2 : Hid (∀ a, r2.A = some a → a.block < w.heap.size) := Lib.hid (fun a ha => by obtain ⟨a0, h0, e⟩ := hkk a ha; rw [← e]; exact HRI1.out a0 h0)
  clear hV2 HH HC hx hrd hkk hku va pa fa v1
  go_wp2
  refine bodyPost_end (v := .tuple #[]) (by simp [results, Try.results49, go_sem]) rfl ⟨r2, ⟨none, 0, none, 0, none, 0, none, 0⟩, rfl, ?_, ⟨CellsIn.nil _ _ _ _ _, CellsIn.nil _ _ _ _ _, CellsIn.nil _ _ _ _ _, CellsIn.nil _ _ _ _ _⟩, HU2.out⟩
  have hrd := HR2.out
  simp only [pliG, mcells, ← HS1.out, ← HS2.out]
  simp only [HX0.out, HX1.out] at hrd
  exact hrd
set_option maxRecDepth 100000 in
set_option maxHeartbeats 4000000 in
theorem read4_any {w : World} {rv rp c lo : Nat} {n : Nat} {r : Rw} (h : RdIs w rv rp c lo n (zcells 3) r 0) (hb : Byt r.xs) (hl : r.xs.length ≤ 100000) (hra : ∀ a, r.A = some a → a.block < w.heap.size) :
    Calls Try.prog 48 #[.pointer (some ⟨rv, 0, none⟩)] w fun e w' => ∃ r' hd, e = .returned (.tuple #[]) ∧ RdIs w' rv rp c lo n (mcells (nackM (r.xs, 0)).1 hd) r' (nackM (r.xs, 0)).2.2 ∧ MgIn w' w.heap.size (nackM (r.xs, 0)).1 hd ∧ Upd [c, rp] w w' := by
  obtain ⟨j0, hj0, hy0, hy1, hy2⟩ := info_parts infoPr
  have hrc : rv ≠ rp := h.bv.ne h.br (by decide)
  have hrc' : rp ≠ rv := hrc.symm
  have hrv := h.bv.lt
  have hrp := h.br.lt
  have hc := h.cut.bl.lt
  obtain ⟨s0, hs0⟩ : ∃ s : List Int × Int, s = (r.xs, 0) := ⟨_, rfl⟩
  rw [← hs0]
  obtain ⟨r0, hr0⟩ : ∃ q, q = r := ⟨_, rfl⟩
  have HXS0 : Hid (r0.xs = s0.1) := by rw [hs0, hr0]; exact Lib.hid rfl
  have HR0 : Hid (RdIs w rv rp c lo n (zcells 3) r0 s0.2) := by rw [hs0, hr0]; exact Lib.hid h
  have HB0 : Hid (Byt s0.1) := by rw [hs0]; exact Lib.hid hb
  have HRI0 : Hid (∀ a, r0.A = some a → a.block < w.heap.size) := by rw [hr0]; exact Lib.hid hra
  have HU0 : Hid (Upd [c, rp] w w) := Lib.hid (Upd.refl _ _)
  have HE0 : Hid (s0.2 = 0) := by rw [hs0]; exact Lib.hid rfl
  have HL0 : Hid (s0.1.length ≤ 100000) := by rw [hs0]; exact Lib.hid hl
  unfold zcells at HR0
  clear h hb hra hs0 hr0 hl
  go_enter Try.func48, Try.ntmps48
  have hb1 := after_byt 4 HB0.out
  have HC := Lib.hid (rnum_kept (HR0.out.more ((Upd.refl [] w).drewN 1)) (by rw [HXS0.out]; exact HB0.out))
  rw [HXS0.out] at HC
  change Hid (Calls _ _ _ _ fun e w' => ∃ r', e = .returned (.int .u32 (numS s0 4)) ∧ r'.xs = (after s0 4).1 ∧ RdIs w' rv rp c lo n _ r' (after s0 4).2 ∧ (∀ a, r'.A = some a → ∃ a0, r0.A = some a0 ∧ a0.block = a.block) ∧ Upd [c] _ w') at HC
  have v0 : w.cell? ⟨rv, 0, none⟩ = some (.pointer (some ⟨rp, 0, none⟩)) := HR0.out.bv.cell 0
  obtain ⟨x, hx⟩ : ∃ x, x = numS s0 4 := ⟨_, rfl⟩
  obtain ⟨s1, hs1⟩ : ∃ t, t = after s0 4 := ⟨_, rfl⟩
  rw [← hx, ← hs1] at HC
  rw [← hs1] at hb1
  have HX0 := Lib.hid hx
  have HS1 := Lib.hid hs1
  have HB1 := Lib.hid hb1
  clear hx hs1 hb1
  go_upto_region 0 with fail
  go_region_held3 (fun w' => w'.cell? ⟨rv, 0, none⟩ = some (.pointer (some ⟨rp, 0, none⟩))) (first | go_keep | exact va | exact v0 | simpa [hrc, hrc'] using va)
    ((go_at_call 43; refine HC.out.mono ?_; rintro e w1 ⟨r1, rfl, hx, hrd, hkk, hku⟩; have va : w1.cell? ⟨rv, 0, none⟩ = some (.pointer (some ⟨rp, 0, none⟩)) := hrd.bv.cell 0; have pa : w1.cell? ⟨rp, 3, none⟩ = some (.int .u32 0) := hrd.cellAt 1 rfl; have fa := hrd.br.frozen 3; have HH := Lib.hid (And.intro hx (And.intro (hrd.put 1 (.int .u32 x)) (And.intro hkk hku))); clear hx hrd hkk hku))
  obtain ⟨V1, hV1⟩ : ∃ V, V = w1.setCell ⟨rp, 3, none⟩ (.int .u32 x) := ⟨_, rfl⟩
  obtain ⟨hx, hrd, hkk, hku⟩ := HH.out
  have HU1 : Hid (Upd [c, rp] w V1) := by rw [hV1]; exact Lib.hid (((HU0.out.drewN 1).next (hku.more (by simp))).setCell (.inl (by simp)) _)
  rw [show (1 + 2 : Nat) = 3 from rfl, ← hV1] at hrd
  rw [← hV1]
  have HR1 := Lib.hid hrd
  have HXS1 := Lib.hid hx
  have HRI1 : Hid (∀ a, r1.A = some a → a.block < w.heap.size) := Lib.hid (fun a ha => by obtain ⟨a0, h0, e⟩ := hkk a ha; rw [← e]; exact HRI0.out a0 h0)
  clear hV1 HH HC hx hrd hkk hku va pa fa v0
  have hb2 := after_byt 4 HB1.out
  have HC := Lib.hid (rnum_kept (HR1.out.more ((Upd.refl [] V1).drewN 1)) (by rw [HXS1.out]; exact HB1.out))
  rw [HXS1.out] at HC
  change Hid (Calls _ _ _ _ fun e w' => ∃ r', e = .returned (.int .u32 (numS s1 4)) ∧ r'.xs = (after s1 4).1 ∧ RdIs w' rv rp c lo n _ r' (after s1 4).2 ∧ (∀ a, r'.A = some a → ∃ a0, r1.A = some a0 ∧ a0.block = a.block) ∧ Upd [c] _ w') at HC
  have v1 : V1.cell? ⟨rv, 0, none⟩ = some (.pointer (some ⟨rp, 0, none⟩)) := HR1.out.bv.cell 0
  obtain ⟨x, hx⟩ : ∃ x, x = numS s1 4 := ⟨_, rfl⟩
  obtain ⟨s2, hs2⟩ : ∃ t, t = after s1 4 := ⟨_, rfl⟩
  rw [← hx, ← hs2] at HC
  rw [← hs2] at hb2
  have HX1 := Lib.hid hx
  have HS2 := Lib.hid hs2
  have HB2 := Lib.hid hb2
  clear hx hs2 hb2
  go_upto_region 1 with fail
  go_region_held3 (fun w' => w'.cell? ⟨rv, 0, none⟩ = some (.pointer (some ⟨rp, 0, none⟩))) (first | go_keep | exact va | exact v1 | simpa [hrc, hrc'] using va)
    ((go_at_call 43; refine HC.out.mono ?_; rintro e w1 ⟨r2, rfl, hx, hrd, hkk, hku⟩; have va : w1.cell? ⟨rv, 0, none⟩ = some (.pointer (some ⟨rp, 0, none⟩)) := hrd.bv.cell 0; have pa : w1.cell? ⟨rp, 4, none⟩ = some (.int .u32 0) := hrd.cellAt 2 rfl; have fa := hrd.br.frozen 4; have HH := Lib.hid (And.intro hx (And.intro (hrd.put 2 (.int .u32 x)) (And.intro hkk hku))); clear hx hrd hkk hku))
  obtain ⟨V2, hV2⟩ : ∃ V, V = w1.setCell ⟨rp, 4, none⟩ (.int .u32 x) := ⟨_, rfl⟩
  obtain ⟨hx, hrd, hkk, hku⟩ := HH.out
  have HU2 : Hid (Upd [c, rp] w V2) := by rw [hV2]; exact Lib.hid (((HU1.out.drewN 1).next (hku.more (by simp))).setCell (.inl (by simp)) _)
  rw [show (2 + 2 : Nat) = 4 from rfl, ← hV2] at hrd
  rw [← hV2]
  have HR2 := Lib.hid hrd
  have HXS2 := Lib.hid hx
  have HRI2 : Hid (∀ a, r2.A = some a → a.block < w.heap.size) := Lib.hid (fun a ha => by obtain ⟨a0, h0, e⟩ := hkk a ha; rw [← e]; exact HRI1.out a0 h0)
  clear hV2 HH HC hx hrd hkk hku va pa fa v1
  obtain ⟨x0, hx0⟩ : ∃ x0, x0 = numS s0 4 := ⟨_, rfl⟩
  obtain ⟨x1, hx1⟩ : ∃ x1, x1 = numS s1 4 := ⟨_, rfl⟩
  have HRV : Hid (RdIs V2 rv rp c lo n [.int .i64 3, .int .u32 x0, .int .u32 x1, .int .u64 0, .int .u32 0, .int .u32 0, .int .u32 0, .slice none 0 0, .slice none 0 0, .slice none 0 0, .slice none 0 0, .int .u8 0] r2 s2.2) := by
    have hrd := HR2.out
    simp only [HX0.out, HX1.out] at hrd
    rw [hx0, hx1]
    exact Lib.hid hrd
  have HM : Hid (nackM s0 = (⟨3, x0, x1, 0, 0, 0, 0, [], [], (pairsM (s2.1.length / 4) s2).1, [], 0⟩, (pairsM (s2.1.length / 4) s2).2)) := by
    rw [nackM, ← HS1.out, ← HS2.out, hx0, hx1]; exact Lib.hid rfl
  have HBAD : Hid (s2.2 ≠ 0 → s2.1.length < 4) := by
    rw [HS2.out]
    refine Lib.hid (after_bad 4 ?_)
    rw [HS1.out]
    exact after_bad 4 (fun hh => absurd HE0.out hh)
  have HL2 : Hid (s2.1.length ≤ 100000) := by
    rw [HS2.out, HS1.out]
    have e : ∀ (s : List Int × Int), (after s 4).1.length ≤ s.1.length := fun s => by
      unfold after numM; (repeat' split) <;> simp
    exact Lib.hid (Nat.le_trans (e _) (Nat.le_trans (e _) HL0.out))
  clear HR2 HX0 HX1 hx0 hx1 HR1 HR0 HXS0 HXS1 HB0 HB1 HRI0 HRI1 HU0 HU1 HS1 HS2 HE0 HL0
  obtain ⟨N, hN⟩ : ∃ N, N = s2.1.length / 4 := ⟨_, rfl⟩
  rw [← hN] at HM
  have hNb : N ≤ 100000 := by have := HL2.out; omega
  have HNN := Lib.hid hN
  clear hN
  go_wp2
  go_loopg [1] N (fun gk x1' wr => ∃ (i : Nat) (ri : Rw) (A : Option Addr) (cap : Nat), i ≤ N ∧ N ≤ i + gk ∧ RdIs wr rv rp c lo n [.int .i64 3, .int .u32 x0, .int .u32 x1, .int .u64 0, .int .u32 0, .int .u32 0, .int .u32 0, .slice none 0 0, .slice none 0 0, .slice A i cap, .slice none 0 0, .int .u8 0] ri (pairsM i s2).2.2 ∧ ri.xs = (pairsM i s2).2.1 ∧
      (∀ a, ri.A = some a → a.block < w.heap.size) ∧ wr.ownsRow w.heap.size 68 2 (.slice A i cap) i ((pairsM i s2).1.flatMap encPair) ∧ Upd [c, rp] w wr)
  case atStart => exact ⟨0, r2, none, 0, Nat.zero_le _, by omega, HRV.out, HXS2.out, HRI2.out, World.ownsRow_nil _ _ _ _, HU2.out⟩
  case round =>
    obtain ⟨i, ri, A, cap, hi, hgi, hrd, hxs, hra, hown, hu⟩ := hrel
    have HBY := Lib.hid (pairsM_byt HB2.out i)
    have hlen : (pairsM i s2).2.1.length = s2.1.length - 4 * i := by
      have hN := HNN.out
      by_cases hz : s2.2 = 0
      · exact (pairsM_ok hz i (by omega)).1
      · have := HBAD.out hz
        obtain rfl : i = 0 := by omega
        show s2.1.length = _; omega
    have hlx : ri.xs.length = s2.1.length - 4 * i := by rw [hxs, hlen]
    obtain ⟨s, hs⟩ : ∃ s, s = (pairsM i s2).2 := ⟨_, rfl⟩
    rw [← hs] at hrd hxs HBY
    have HS := Lib.hid hs
    have HRI := Lib.hid hra
    have HOW := Lib.hid hown
    have HU := Lib.hid hu
    have HR := Lib.hid hrd
    have HXS := Lib.hid hxs
    have HLF := Lib.hid (left_any hrd.cut)
    have pv : wr.cell? ⟨rv, 0, none⟩ = some (.pointer (some ⟨rp, 0, none⟩)) := hrd.bv.cell 0
    have pc : wr.cell? ⟨rp, 0, none⟩ = some (.pointer (some ⟨c, 0, none⟩)) := hrd.br.cell 0
    clear hs hra hown hu hrd hxs hlen
    go_wp2_with fail
    refine HLF.out.mono ?_
    rintro e w1 ⟨rfl, rfl⟩
    clear HLF
    by_cases hlt : i < N
    · have hge : (4 : Int) ≤ (ri.xs.length : Int) := by have hN := HNN.out; rw [hlx]; omega
      have HBQ0 := Lib.hid (after_byt 2 HBY.out)
      have HCk := Lib.hid (num_any HR.out.cut 2 (by decide) (by decide) (by rw [HXS.out]; exact HBY.out))
      rw [HXS.out] at HCk
      change Hid (Calls _ _ _ _ fun e w' => ∃ r', e = .returned (.int .u64 (numS s 2)) ∧ r'.xs = (after s 2).1 ∧ CutIs w' c lo r' (after s 2).2 ∧ (∀ a, r'.A = some a → ∃ a0, ri.A = some a0 ∧ a0.block = a.block) ∧ Upd [c] _ w') at HCk
      have hcv := numS_lt 2 HBY.out
      have hcv1 : IntKind.u16.wrap (numS s 2) = numS s 2 := IntWalk.u16_in _ (by have := hcv.2; have := hcv.1; omega)
      go_wp2_with fail
      refine HCk.out.mono ?_
      rintro e w2 ⟨q0, rfl, hx, hct, hkk, hku⟩
      have hrd := HR.out.took hct hkk hku
      have hri : ∀ a, q0.A = some a → a.block < w.heap.size := (fun a ha => by obtain ⟨a0, h0, e⟩ := hkk a ha; rw [← e]; exact HRI.out a0 h0)
      go_upto_region 4 with fail
      obtain ⟨W0, hW0⟩ : ∃ W0, W0 = w2.alloc (.cells #[.int .u16 (numS s 2), .int .u16 0] 68) := ⟨_, rfl⟩
      obtain ⟨X, hX⟩ : ∃ X, X = w2.heap.size := ⟨_, rfl⟩
      rw [← hW0, ← hX]
      have HX0 : Hid (Blk W0 X 68 #[.int .u16 (numS s 2), .int .u16 0]) := by rw [hW0, hX]; exact Lib.hid (Blk.new _ _ _)
      have HQ0 := Lib.hid (hrd.more (((Upd.refl [] _).alloc (.cells #[.int .u16 (numS s 2), .int .u16 0] 68))))
      rw [← hW0] at HQ0
      have HW0 : Hid (Upd [c] wr W0) := by rw [hW0]; exact Lib.hid (hku.alloc _)
      have HUQ0 : Hid (Upd [c, rp] w W0) := Lib.hid (HU.out.next (HW0.out.more (by simp)))
      have HXW : Hid (wr.heap.size ≤ X) := by rw [hX]; exact Lib.hid hku.size
      have HXN : Hid (w.heap.size ≤ X) := Lib.hid (Nat.le_trans HU.out.size HXW.out)
      have HXQ0 := Lib.hid hx
      have HRQ0 := Lib.hid hri
      clear hx hrd hku hri HCk hW0 hkk hX pv pc hct hcv hcv1
      have HBQ1 := Lib.hid (after_byt 2 HBQ0.out)
      have HCk := Lib.hid (num_any HQ0.out.cut 2 (by decide) (by decide) (by rw [HXQ0.out]; exact HBQ0.out))
      rw [HXQ0.out] at HCk
      change Hid (Calls _ _ _ _ fun e w' => ∃ r', e = .returned (.int .u64 (numS (after s 2) 2)) ∧ r'.xs = (after (after s 2) 2).1 ∧ CutIs w' c lo r' (after (after s 2) 2).2 ∧ (∀ a, r'.A = some a → ∃ a0, q0.A = some a0 ∧ a0.block = a.block) ∧ Upd [c] _ w') at HCk
      have hcv := numS_lt 2 HBQ0.out
      have hcv1 : IntKind.u16.wrap (numS (after s 2) 2) = numS (after s 2) 2 := IntWalk.u16_in _ (by have := hcv.2; have := hcv.1; omega)
      have pv : W0.cell? ⟨rv, 0, none⟩ = some (.pointer (some ⟨rp, 0, none⟩)) := HQ0.out.bv.cell 0
      have pc : W0.cell? ⟨rp, 0, none⟩ = some (.pointer (some ⟨c, 0, none⟩)) := HQ0.out.br.cell 0
      go_wp2_with fail
      refine HCk.out.mono ?_
      rintro e w3 ⟨q1, rfl, hx, hct, hkk, hku⟩
      have hrd := HQ0.out.took hct hkk hku
      have hri : ∀ a, q1.A = some a → a.block < w.heap.size := (fun a ha => by obtain ⟨a0, h0, e⟩ := hkk a ha; rw [← e]; exact HRQ0.out a0 h0)
      have hXq := HX0.out.upd hku (by rw [List.mem_singleton]; have := HXN.out; omega)
      have cx : w3.cell? ⟨X, 1, none⟩ = some (.int .u16 0) := hXq.cell 1
      have fx := hXq.frozen 1
      go_upto_region 5 with fail
      obtain ⟨W1, hW1⟩ : ∃ W1, W1 = w3.setCell ⟨X, 1, none⟩ (.int .u16 (numS (after s 2) 2)) := ⟨_, rfl⟩
      rw [← hW1]
      have HX1 : Hid (Blk W1 X 68 #[.int .u16 (numS s 2), .int .u16 (numS (after s 2) 2)]) := by rw [hW1]; exact Lib.hid (hXq.store 1 (.int .u16 (numS (after s 2) 2)))
      have HQ1 := Lib.hid (hrd.box (X := X) (k := 1) (N := w.heap.size) (.int .u16 (numS (after s 2) 2)) hrv hrp hc hri HXN.out)
      rw [← hW1] at HQ1
      have HW1 : Hid (Upd [c] wr W1) := by rw [hW1]; exact Lib.hid ((HW0.out.next hku).setCell (.inr HXW.out) _)
      have HUQ1 : Hid (Upd [c, rp] w W1) := by rw [hW1]; exact Lib.hid ((HUQ0.out.next (hku.more (by simp))).setCell (.inr HXN.out) _)
      have HXQ1 := Lib.hid hx
      have HRQ1 := Lib.hid hri
      clear hx hrd hku hri HCk hW1 hkk hXq cx fx pv pc hct hcv hcv1
      have p9 : W1.cell? ⟨rp, 11, none⟩ = some (.slice A i cap) := HQ1.out.cellAt 9 rfl
      have pv : W1.cell? ⟨rv, 0, none⟩ = some (.pointer (some ⟨rp, 0, none⟩)) := HQ1.out.bv.cell 0
      have pvd : W1.drew.cell? ⟨rv, 0, none⟩ = some (.pointer (some ⟨rp, 0, none⟩)) := pv
      have f9 := HQ1.out.br.frozen 11
      have HXd : Hid (Blk W1.drew X 68 #[.int .u16 (numS s 2), .int .u16 (numS (after s 2) 2)]) := Lib.hid (HX1.out.drewN 1)
      have HXa : Hid (Blk (W1.alloc (.cells #[.int .u16 (numS s 2), .int .u16 (numS (after s 2) 2)] 68)).drew X 68 #[.int .u16 (numS s 2), .int .u16 (numS (after s 2) 2)]) := Lib.hid ((HX1.out.alloc _).drewN 1)
      have hnc : ∀ t', t' ∈ [c] → (Value.slice A i cap).ownBlock ≠ some t' := by
        intro t' ht' e
        rw [List.mem_singleton] at ht'
        subst ht'
        obtain ⟨cur, hcur⟩ := row_type HOW.out t' e
        exact (hcur.ne HR.out.cut.bl (by decide)) rfl
      have HO6 := Lib.hid (ownsRow_upd HOW.out HW1.out hnc)
      have HVX : Hid (X ∉ (Value.slice A i cap).ownBlock.toList) := Lib.hid (by
        intro hm
        have := own_block_lt HOW.out (by simpa using hm)
        have := HXW.out
        omega)
      have hXrp : X ≠ rp := by have := HXN.out; omega
      have HOA : Hid ((W1.alloc (.cells #[.int .u16 (numS s 2), .int .u16 (numS (after s 2) 2)] 68)).drew.ownsRow w.heap.size 68 2 (.slice A i cap) i ((pairsM i s2).1.flatMap encPair)) := Lib.hid ((HO6.out.alloc _).drew)
      have HSZ : Hid (w.heap.size ≤ (W1.alloc (.cells #[.int .u16 (numS s 2), .int .u16 (numS (after s 2) 2)] 68)).drew.heap.size) := Lib.hid (((HUQ1.out.alloc (.cells #[.int .u16 (numS s 2), .int .u16 (numS (after s 2) 2)] 68)).drewN 1).size)
      obtain ⟨ys, hys⟩ : ∃ ys, ys = (pairsM i s2).1.flatMap encPair := ⟨_, rfl⟩
      rw [← hys] at HOA
      have HYS := Lib.hid hys
      have HNEW : Hid (Blk (W1.alloc (.cells #[.int .u16 (numS s 2), .int .u16 (numS (after s 2) 2)] 68)).drew W1.heap.size 68 #[.int .u16 (numS s 2), .int .u16 (numS (after s 2) 2)]) := Lib.hid ((Blk.new W1 68 #[.int .u16 (numS s 2), .int .u16 (numS (after s 2) 2)]).drewN 1)
      have HONE : Hid (∀ u ∈ ([.int .u16 (numS s 2), .int .u16 (numS (after s 2) 2)] : List Value), u.oneCell' = true) := Lib.hid (by intro u hu; repeat (first | (rcases List.mem_cons.1 hu with rfl | hu; · rfl) | cases hu))
      have p9a : (W1.alloc (.cells #[.int .u16 (numS s 2), .int .u16 (numS (after s 2) 2)] 68)).cell? ⟨rp, 11, none⟩ = some (.slice A i cap) := (((Upd.refl [] W1).alloc _).cell (p := ⟨rp, 11, none⟩) HQ1.out.br.lt (by simp)).trans p9
      have p9b : (W1.alloc (.cells #[.int .u16 (numS s 2), .int .u16 (numS (after s 2) 2)] 68)).drew.cell? ⟨rp, 11, none⟩ = some (.slice A i cap) := p9a
      have pva : (W1.alloc (.cells #[.int .u16 (numS s 2), .int .u16 (numS (after s 2) 2)] 68)).drew.cell? ⟨rv, 0, none⟩ = some (.pointer (some ⟨rp, 0, none⟩)) := (((Upd.refl [] W1).alloc _).cell (p := ⟨rv, 0, none⟩) HQ1.out.bv.lt (by simp)).trans pv
      clear hys hnc HOW HO6 HU
      obtain ⟨_, y0, y1⟩ := blk2 HX1.out pv
      go_region_law
        ((refine step_append_src _ (by rfl) (.tmp 39) (.tmp 41) 56 (by rfl) w.heap.size 68 j0 _ 2 4 Try.underlying56 hj0 hy0 hy1 hy2 rfl (by decide) (.slice A i cap) i ys (by rfl) HOA.out (some ⟨W1.heap.size, 0, none⟩) 1 1 [.int .u16 (numS s 2), .int .u16 (numS (after s 2) 2)] (by rfl) (fun e => by cases e) rfl (fun ad had => by cases had; exact blk_src HNEW.out) HONE.out (by unfold maxLen; omega) (by omega) HSZ.out ?_; intro v8 w8 hown8 hg8 hat8; have HX8 := Lib.hid (HXa.out.upd (Upd.of_grown hg8) HVX.out); have HRD8 := Lib.hid ((HQ1.out.more (((Upd.refl [] W1).alloc (.cells #[.int .u16 (numS s 2), .int .u16 (numS (after s 2) 2)] 68)).drewN 1)).upd (Upd.of_grown hg8) (fun hm => by obtain ⟨cur, hcur⟩ := row_type HOA.out rv (by simpa using hm); exact (hcur.ne ((HQ1.out.bv.alloc _).drewN 1) (by decide)) rfl) (fun hm => by obtain ⟨cur, hcur⟩ := row_type HOA.out rp (by simpa using hm); exact (hcur.ne ((HQ1.out.br.alloc _).drewN 1) (by decide)) rfl) (fun hm => by obtain ⟨cur, hcur⟩ := row_type HOA.out c (by simpa using hm); exact (hcur.ne ((HQ1.out.cut.bl.alloc _).drewN 1) (by decide)) rfl) (fun a ha hm => by have h1 := HRQ1.out a ha; have h2 := (own_block_lt HOA.out (by simpa using hm)).1; omega)); have p8 : w8.cell? ⟨rp, 11, none⟩ = some (.slice A i cap) := HRD8.out.cellAt 9 rfl; have pv8 : w8.cell? ⟨rv, 0, none⟩ = some (.pointer (some ⟨rp, 0, none⟩)) := HRD8.out.bv.cell 0; have f8 := HRD8.out.br.frozen 11; have HU8 := Lib.hid (app_upd ((HUQ1.out.alloc (.cells #[.int .u16 (numS s 2), .int .u16 (numS (after s 2) 2)] 68)).drewN 1) HOA.out hg8 (Nat.le_refl _)); obtain ⟨A8, c8, hv8, _⟩ := own_form hown8; subst hv8; have HO8 := Lib.hid hown8; clear hown8 hg8 hat8))
      all_goals
        go_wp2
        go_roundg (gk - 1)
        case measure => omega
        case rel =>
          have hput := HRD8.out.put 9 (.slice A8 (i + 1) c8)
          have hrs : pairsM (i + 1) s2 = ((pairsM i s2).1 ++ [pairS s], pairA s) := by rw [pairsM, ← HS.out]
          have hnr : (Value.slice A8 (i + 1) c8).ownBlock ≠ some rp := by
            intro e
            obtain ⟨cur, hcur⟩ := row_type HO8.out rp e
            exact (hcur.ne HRD8.out.br (by decide)) rfl
          have hst := ownsRow_setCell_other HO8.out (a := ⟨rp, 11, none⟩) hnr (.slice A8 (i + 1) c8)
          refine ⟨i + 1, q1, A8, c8, by omega, by omega, ?_, ?_, HRQ1.out, ?_, HU8.out.setCell (.inl (by simp)) _⟩
          · rw [hrs]; exact hput
          · rw [hrs]; exact HXQ1.out
          · rw [hrs, List.flatMap_append, ← HYS.out]; exact hst
    · obtain rfl : i = N := by omega
      have hge : ¬ (4 : Int) ≤ (ri.xs.length : Int) := by have hN := HNN.out; rw [hlx]; omega
      go_wp2
      refine bodyPost_end (v := .tuple #[]) (by simp [results, Try.results48, go_sem]) rfl ⟨ri, ⟨none, 0, none, 0, A, cap, none, 0⟩, rfl, ?_, ⟨CellsIn.nil _ _ _ _ _, CellsIn.nil _ _ _ _ _, by rw [HM.out]; dsimp only; rw [pairsM_len]; exact CellsIn.of_own HOW.out, CellsIn.nil _ _ _ _ _⟩, HU.out⟩
      have hrd := HR.out
      rw [HS.out] at hrd
      rw [HM.out]
      simp only [mcells, pairsM_len]
      exact hrd
set_option maxRecDepth 100000 in
set_option maxHeartbeats 4000000 in
theorem read6_any {w : World} {rv rp c lo : Nat} {n : Nat} {r : Rw} (h : RdIs w rv rp c lo n (zcells 5) r 0) (hb : Byt r.xs) (hl : r.xs.length ≤ 100000) (hra : ∀ a, r.A = some a → a.block < w.heap.size) :
    Calls Try.prog 50 #[.pointer (some ⟨rv, 0, none⟩)] w fun e w' => ∃ r' hd, e = .returned (.tuple #[]) ∧ RdIs w' rv rp c lo n (mcells (firM (r.xs, 0)).1 hd) r' (firM (r.xs, 0)).2.2 ∧ MgIn w' w.heap.size (firM (r.xs, 0)).1 hd ∧ Upd [c, rp] w w' := by
  obtain ⟨j0, hj0, hy0, hy1, hy2⟩ := info_parts infoAs
  have hrc : rv ≠ rp := h.bv.ne h.br (by decide)
  have hrc' : rp ≠ rv := hrc.symm
  have hrv := h.bv.lt
  have hrp := h.br.lt
  have hc := h.cut.bl.lt
  obtain ⟨s0, hs0⟩ : ∃ s : List Int × Int, s = (r.xs, 0) := ⟨_, rfl⟩
  rw [← hs0]
  obtain ⟨r0, hr0⟩ : ∃ q, q = r := ⟨_, rfl⟩
  have HXS0 : Hid (r0.xs = s0.1) := by rw [hs0, hr0]; exact Lib.hid rfl
  have HR0 : Hid (RdIs w rv rp c lo n (zcells 5) r0 s0.2) := by rw [hs0, hr0]; exact Lib.hid h
  have HB0 : Hid (Byt s0.1) := by rw [hs0]; exact Lib.hid hb
  have HRI0 : Hid (∀ a, r0.A = some a → a.block < w.heap.size) := by rw [hr0]; exact Lib.hid hra
  have HU0 : Hid (Upd [c, rp] w w) := Lib.hid (Upd.refl _ _)
  have HE0 : Hid (s0.2 = 0) := by rw [hs0]; exact Lib.hid rfl
  have HL0 : Hid (s0.1.length ≤ 100000) := by rw [hs0]; exact Lib.hid hl
  unfold zcells at HR0
  clear h hb hra hs0 hr0 hl
  go_enter Try.func50, Try.ntmps50
  have hb1 := after_byt 4 HB0.out
  have HC := Lib.hid (rnum_kept (HR0.out.more ((Upd.refl [] w).drewN 1)) (by rw [HXS0.out]; exact HB0.out))
  rw [HXS0.out] at HC
  change Hid (Calls _ _ _ _ fun e w' => ∃ r', e = .returned (.int .u32 (numS s0 4)) ∧ r'.xs = (after s0 4).1 ∧ RdIs w' rv rp c lo n _ r' (after s0 4).2 ∧ (∀ a, r'.A = some a → ∃ a0, r0.A = some a0 ∧ a0.block = a.block) ∧ Upd [c] _ w') at HC
  have v0 : w.cell? ⟨rv, 0, none⟩ = some (.pointer (some ⟨rp, 0, none⟩)) := HR0.out.bv.cell 0
  obtain ⟨x, hx⟩ : ∃ x, x = numS s0 4 := ⟨_, rfl⟩
  obtain ⟨s1, hs1⟩ : ∃ t, t = after s0 4 := ⟨_, rfl⟩
  rw [← hx, ← hs1] at HC
  rw [← hs1] at hb1
  have HX0 := Lib.hid hx
  have HS1 := Lib.hid hs1
  have HB1 := Lib.hid hb1
  clear hx hs1 hb1
  go_upto_region 0 with fail
  go_region_held3 (fun w' => w'.cell? ⟨rv, 0, none⟩ = some (.pointer (some ⟨rp, 0, none⟩))) (first | go_keep | exact va | exact v0 | simpa [hrc, hrc'] using va)
    ((go_at_call 43; refine HC.out.mono ?_; rintro e w1 ⟨r1, rfl, hx, hrd, hkk, hku⟩; have va : w1.cell? ⟨rv, 0, none⟩ = some (.pointer (some ⟨rp, 0, none⟩)) := hrd.bv.cell 0; have pa : w1.cell? ⟨rp, 3, none⟩ = some (.int .u32 0) := hrd.cellAt 1 rfl; have fa := hrd.br.frozen 3; have HH := Lib.hid (And.intro hx (And.intro (hrd.put 1 (.int .u32 x)) (And.intro hkk hku))); clear hx hrd hkk hku))
  obtain ⟨V1, hV1⟩ : ∃ V, V = w1.setCell ⟨rp, 3, none⟩ (.int .u32 x) := ⟨_, rfl⟩
  obtain ⟨hx, hrd, hkk, hku⟩ := HH.out
  have HU1 : Hid (Upd [c, rp] w V1) := by rw [hV1]; exact Lib.hid (((HU0.out.drewN 1).next (hku.more (by simp))).setCell (.inl (by simp)) _)
  rw [show (1 + 2 : Nat) = 3 from rfl, ← hV1] at hrd
  rw [← hV1]
  have HR1 := Lib.hid hrd
  have HXS1 := Lib.hid hx
  have HRI1 : Hid (∀ a, r1.A = some a → a.block < w.heap.size) := Lib.hid (fun a ha => by obtain ⟨a0, h0, e⟩ := hkk a ha; rw [← e]; exact HRI0.out a0 h0)
  clear hV1 HH HC hx hrd hkk hku va pa fa v0
  have hb2 := after_byt 4 HB1.out
  have HC := Lib.hid (rnum_kept (HR1.out.more ((Upd.refl [] V1).drewN 1)) (by rw [HXS1.out]; exact HB1.out))
  rw [HXS1.out] at HC
  change Hid (Calls _ _ _ _ fun e w' => ∃ r', e = .returned (.int .u32 (numS s1 4)) ∧ r'.xs = (after s1 4).1 ∧ RdIs w' rv rp c lo n _ r' (after s1 4).2 ∧ (∀ a, r'.A = some a → ∃ a0, r1.A = some a0 ∧ a0.block = a.block) ∧ Upd [c] _ w') at HC
  have v1 : V1.cell? ⟨rv, 0, none⟩ = some (.pointer (some ⟨rp, 0, none⟩)) := HR1.out.bv.cell 0
  obtain ⟨x, hx⟩ : ∃ x, x = numS s1 4 := ⟨_, rfl⟩
  obtain ⟨s2, hs2⟩ : ∃ t, t = after s1 4 := ⟨_, rfl⟩
  rw [← hx, ← hs2] at HC
  rw [← hs2] at hb2
  have HX1 := Lib.hid hx
  have HS2 := Lib.hid hs2
  have HB2 := Lib.hid hb2
  clear hx hs2 hb2
  go_upto_region 1 with fail
  go_region_held3 (fun w' => w'.cell? ⟨rv, 0, none⟩ = some (.pointer (some ⟨rp, 0, none⟩))) (first | go_keep | exact va | exact v1 | simpa [hrc, hrc'] using va)
    ((go_at_call 43; refine HC.out.mono ?_; rintro e w1 ⟨r2, rfl, hx, hrd, hkk, hku⟩; have va : w1.cell? ⟨rv, 0, none⟩ = some (.pointer (some ⟨rp, 0, none⟩)) := hrd.bv.cell 0; have pa : w1.cell? ⟨rp, 4, none⟩ = some (.int .u32 0) := hrd.cellAt 2 rfl; have fa := hrd.br.frozen 4; have HH := Lib.hid (And.intro hx (And.intro (hrd.put 2 (.int .u32 x)) (And.intro hkk hku))); clear hx hrd hkk hku))
  obtain ⟨V2, hV2⟩ : ∃ V, V = w1.setCell ⟨rp, 4, none⟩ (.int .u32 x) := ⟨_, rfl⟩
  obtain ⟨hx, hrd, hkk, hku⟩ := HH.out
  have HU2 : Hid (Upd [c, rp] w V2) := by rw [hV2]; exact Lib.hid (((HU1.out.drewN 1).next (hku.more (by simp))).setCell (.inl (by simp)) _)
  rw [show (2 + 2 : Nat) = 4 from rfl, ← hV2] at hrd
  rw [← hV2]
  have HR2 := Lib.hid hrd
  have HXS2 := Lib.hid hx
  have HRI2 : Hid (∀ a, r2.A = some a → a.block < w.heap.size) := Lib.hid (fun a ha => by obtain ⟨a0, h0, e⟩ := hkk a ha; rw [← e]; exact HRI1.out a0 h0)
  clear hV2 HH HC hx hrd hkk hku va pa fa v1
  obtain ⟨x0, hx0⟩ : ∃ x0, x0 = numS s0 4 := ⟨_, rfl⟩
  obtain ⟨x1, hx1⟩ : ∃ x1, x1 = numS s1 4 := ⟨_, rfl⟩
  have HRV : Hid (RdIs V2 rv rp c lo n [.int .i64 5, .int .u32 x0, .int .u32 x1, .int .u64 0, .int .u32 0, .int .u32 0, .int .u32 0, .slice none 0 0, .slice none 0 0, .slice none 0 0, .slice none 0 0, .int .u8 0] r2 s2.2) := by
    have hrd := HR2.out
    simp only [HX0.out, HX1.out] at hrd
    rw [hx0, hx1]
    exact Lib.hid hrd
  have HM : Hid (firM s0 = (⟨5, x0, x1, 0, 0, 0, 0, [], [], [], (asksM (s2.1.length / 8) s2).1, 0⟩, (asksM (s2.1.length / 8) s2).2)) := by
    rw [firM, ← HS1.out, ← HS2.out, hx0, hx1]; exact Lib.hid rfl
  have HBAD : Hid (s2.2 ≠ 0 → s2.1.length < 4) := by
    rw [HS2.out]
    refine Lib.hid (after_bad 4 ?_)
    rw [HS1.out]
    exact after_bad 4 (fun hh => absurd HE0.out hh)
  have HL2 : Hid (s2.1.length ≤ 100000) := by
    rw [HS2.out, HS1.out]
    have e : ∀ (s : List Int × Int), (after s 4).1.length ≤ s.1.length := fun s => by
      unfold after numM; (repeat' split) <;> simp
    exact Lib.hid (Nat.le_trans (e _) (Nat.le_trans (e _) HL0.out))
  clear HR2 HX0 HX1 hx0 hx1 HR1 HR0 HXS0 HXS1 HB0 HB1 HRI0 HRI1 HU0 HU1 HS1 HS2 HE0 HL0
  obtain ⟨N, hN⟩ : ∃ N, N = s2.1.length / 8 := ⟨_, rfl⟩
  rw [← hN] at HM
  have hNb : N ≤ 100000 := by have := HL2.out; omega
  have HNN := Lib.hid hN
  clear hN
  go_wp2
  go_loopg [1] N (fun gk x1' wr => ∃ (i : Nat) (ri : Rw) (A : Option Addr) (cap : Nat), i ≤ N ∧ N ≤ i + gk ∧ RdIs wr rv rp c lo n [.int .i64 5, .int .u32 x0, .int .u32 x1, .int .u64 0, .int .u32 0, .int .u32 0, .int .u32 0, .slice none 0 0, .slice none 0 0, .slice none 0 0, .slice A i cap, .int .u8 0] ri (asksM i s2).2.2 ∧ ri.xs = (asksM i s2).2.1 ∧
      (∀ a, ri.A = some a → a.block < w.heap.size) ∧ wr.ownsRow w.heap.size 91 2 (.slice A i cap) i ((asksM i s2).1.flatMap encAsk) ∧ Upd [c, rp] w wr)
  case atStart => exact ⟨0, r2, none, 0, Nat.zero_le _, by omega, HRV.out, HXS2.out, HRI2.out, World.ownsRow_nil _ _ _ _, HU2.out⟩
  case round =>
    obtain ⟨i, ri, A, cap, hi, hgi, hrd, hxs, hra, hown, hu⟩ := hrel
    have HBY := Lib.hid (asksM_byt HB2.out i)
    have hlen : (asksM i s2).2.1.length = s2.1.length - 8 * i := by
      have hN := HNN.out
      by_cases hz : s2.2 = 0
      · exact (asksM_ok hz i (by omega)).1
      · have := HBAD.out hz
        obtain rfl : i = 0 := by omega
        show s2.1.length = _; omega
    have hlx : ri.xs.length = s2.1.length - 8 * i := by rw [hxs, hlen]
    obtain ⟨s, hs⟩ : ∃ s, s = (asksM i s2).2 := ⟨_, rfl⟩
    rw [← hs] at hrd hxs HBY
    have HS := Lib.hid hs
    have HRI := Lib.hid hra
    have HOW := Lib.hid hown
    have HU := Lib.hid hu
    have HR := Lib.hid hrd
    have HXS := Lib.hid hxs
    have HLF := Lib.hid (left_any hrd.cut)
    have pv : wr.cell? ⟨rv, 0, none⟩ = some (.pointer (some ⟨rp, 0, none⟩)) := hrd.bv.cell 0
    have pc : wr.cell? ⟨rp, 0, none⟩ = some (.pointer (some ⟨c, 0, none⟩)) := hrd.br.cell 0
    clear hs hra hown hu hrd hxs hlen
    go_wp2_with fail
    refine HLF.out.mono ?_
    rintro e w1 ⟨rfl, rfl⟩
    clear HLF
    by_cases hlt : i < N
    · have hge : (8 : Int) ≤ (ri.xs.length : Int) := by have hN := HNN.out; rw [hlx]; omega
      have HBQ0 := Lib.hid (after_byt 4 HBY.out)
      have HCk := Lib.hid (rnum_kept HR.out (by rw [HXS.out]; exact HBY.out))
      rw [HXS.out] at HCk
      change Hid (Calls _ _ _ _ fun e w' => ∃ r', e = .returned (.int .u32 (numS s 4)) ∧ r'.xs = (after s 4).1 ∧ RdIs w' rv rp c lo n _ r' (after s 4).2 ∧ (∀ a, r'.A = some a → ∃ a0, ri.A = some a0 ∧ a0.block = a.block) ∧ Upd [c] _ w') at HCk
      go_wp2_with fail
      refine HCk.out.mono ?_
      rintro e w2 ⟨q0, rfl, hx, hrd, hkk, hku⟩
      have hri : ∀ a, q0.A = some a → a.block < w.heap.size := (fun a ha => by obtain ⟨a0, h0, e⟩ := hkk a ha; rw [← e]; exact HRI.out a0 h0)
      go_upto_region 4 with fail
      obtain ⟨W0, hW0⟩ : ∃ W0, W0 = w2.alloc (.cells #[.int .u32 (numS s 4), .int .u8 0] 91) := ⟨_, rfl⟩
      obtain ⟨X, hX⟩ : ∃ X, X = w2.heap.size := ⟨_, rfl⟩
      rw [← hW0, ← hX]
      have HX0 : Hid (Blk W0 X 91 #[.int .u32 (numS s 4), .int .u8 0]) := by rw [hW0, hX]; exact Lib.hid (Blk.new _ _ _)
      have HQ0 := Lib.hid (hrd.more (((Upd.refl [] _).alloc (.cells #[.int .u32 (numS s 4), .int .u8 0] 91))))
      rw [← hW0] at HQ0
      have HW0 : Hid (Upd [c] wr W0) := by rw [hW0]; exact Lib.hid (hku.alloc _)
      have HUQ0 : Hid (Upd [c, rp] w W0) := Lib.hid (HU.out.next (HW0.out.more (by simp)))
      have HXW : Hid (wr.heap.size ≤ X) := by rw [hX]; exact Lib.hid hku.size
      have HXN : Hid (w.heap.size ≤ X) := Lib.hid (Nat.le_trans HU.out.size HXW.out)
      have HXQ0 := Lib.hid hx
      have HRQ0 := Lib.hid hri
      clear hx hrd hku hri HCk hW0 hkk hX pv pc
      have HBQ1 := Lib.hid (after_byt 1 HBQ0.out)
      have HCk := Lib.hid (num_any HQ0.out.cut 1 (by decide) (by decide) (by rw [HXQ0.out]; exact HBQ0.out))
      rw [HXQ0.out] at HCk
      change Hid (Calls _ _ _ _ fun e w' => ∃ r', e = .returned (.int .u64 (numS (after s 4) 1)) ∧ r'.xs = (after (after s 4) 1).1 ∧ CutIs w' c lo r' (after (after s 4) 1).2 ∧ (∀ a, r'.A = some a → ∃ a0, q0.A = some a0 ∧ a0.block = a.block) ∧ Upd [c] _ w') at HCk
      have hcv := numS_lt 1 HBQ0.out
      have hcv1 : IntKind.u8.wrap (numS (after s 4) 1) = numS (after s 4) 1 := IntWalk.u8_in _ (by have := hcv.2; have := hcv.1; omega)
      have pv : W0.cell? ⟨rv, 0, none⟩ = some (.pointer (some ⟨rp, 0, none⟩)) := HQ0.out.bv.cell 0
      have pc : W0.cell? ⟨rp, 0, none⟩ = some (.pointer (some ⟨c, 0, none⟩)) := HQ0.out.br.cell 0
      go_wp2_with fail
      refine HCk.out.mono ?_
      rintro e w3 ⟨q1, rfl, hx, hct, hkk, hku⟩
      have hrd := HQ0.out.took hct hkk hku
      have hri : ∀ a, q1.A = some a → a.block < w.heap.size := (fun a ha => by obtain ⟨a0, h0, e⟩ := hkk a ha; rw [← e]; exact HRQ0.out a0 h0)
      have hXq := HX0.out.upd hku (by rw [List.mem_singleton]; have := HXN.out; omega)
      have cx : w3.cell? ⟨X, 1, none⟩ = some (.int .u8 0) := hXq.cell 1
      have fx := hXq.frozen 1
      go_upto_region 5 with fail
      obtain ⟨W1, hW1⟩ : ∃ W1, W1 = w3.setCell ⟨X, 1, none⟩ (.int .u8 (numS (after s 4) 1)) := ⟨_, rfl⟩
      rw [← hW1]
      have HX1 : Hid (Blk W1 X 91 #[.int .u32 (numS s 4), .int .u8 (numS (after s 4) 1)]) := by rw [hW1]; exact Lib.hid (hXq.store 1 (.int .u8 (numS (after s 4) 1)))
      have HQ1 := Lib.hid (hrd.box (X := X) (k := 1) (N := w.heap.size) (.int .u8 (numS (after s 4) 1)) hrv hrp hc hri HXN.out)
      rw [← hW1] at HQ1
      have HW1 : Hid (Upd [c] wr W1) := by rw [hW1]; exact Lib.hid ((HW0.out.next hku).setCell (.inr HXW.out) _)
      have HUQ1 : Hid (Upd [c, rp] w W1) := by rw [hW1]; exact Lib.hid ((HUQ0.out.next (hku.more (by simp))).setCell (.inr HXN.out) _)
      have HXQ1 := Lib.hid hx
      have HRQ1 := Lib.hid hri
      clear hx hrd hku hri HCk hW1 hkk hXq cx fx pv pc hct hcv hcv1
      have HBQ2 := Lib.hid (after_byt 3 HBQ1.out)
      have HCk := Lib.hid (num_any HQ1.out.cut 3 (by decide) (by decide) (by rw [HXQ1.out]; exact HBQ1.out))
      rw [HXQ1.out] at HCk
      change Hid (Calls _ _ _ _ fun e w' => ∃ r', e = .returned (.int .u64 (numS (after (after s 4) 1) 3)) ∧ r'.xs = (after (after (after s 4) 1) 3).1 ∧ CutIs w' c lo r' (after (after (after s 4) 1) 3).2 ∧ (∀ a, r'.A = some a → ∃ a0, q1.A = some a0 ∧ a0.block = a.block) ∧ Upd [c] _ w') at HCk
      have pv : W1.cell? ⟨rv, 0, none⟩ = some (.pointer (some ⟨rp, 0, none⟩)) := HQ1.out.bv.cell 0
      have pc : W1.cell? ⟨rp, 0, none⟩ = some (.pointer (some ⟨c, 0, none⟩)) := HQ1.out.br.cell 0
      go_wp2_with fail
      refine HCk.out.mono ?_
      rintro e w4 ⟨q2, rfl, hx, hct, hkk, hku⟩
      have hrd := HQ1.out.took hct hkk hku
      have hri : ∀ a, q2.A = some a → a.block < w.heap.size := (fun a ha => by obtain ⟨a0, h0, e⟩ := hkk a ha; rw [← e]; exact HRQ1.out a0 h0)
      have hXq := HX1.out.upd hku (by rw [List.mem_singleton]; have := HXN.out; omega)
      go_upto_region 6 with fail
      obtain ⟨W2, hW2⟩ : ∃ W2, W2 = w4 := ⟨_, rfl⟩
      rw [← hW2]
      have HX2 : Hid (Blk W2 X 91 #[.int .u32 (numS s 4), .int .u8 (numS (after s 4) 1)]) := by rw [hW2]; exact Lib.hid hXq
      have HQ2 := Lib.hid hrd
      rw [← hW2] at HQ2
      have HW2 : Hid (Upd [c] wr W2) := by rw [hW2]; exact Lib.hid (HW1.out.next hku)
      have HUQ2 : Hid (Upd [c, rp] w W2) := by rw [hW2]; exact Lib.hid (HUQ1.out.next (hku.more (by simp)))
      have HXQ2 := Lib.hid hx
      have HRQ2 := Lib.hid hri
      clear hx hrd hku hri HCk hW2 hkk hXq pv pc hct
      have p9 : W2.cell? ⟨rp, 12, none⟩ = some (.slice A i cap) := HQ2.out.cellAt 10 rfl
      have pv : W2.cell? ⟨rv, 0, none⟩ = some (.pointer (some ⟨rp, 0, none⟩)) := HQ2.out.bv.cell 0
      have pvd : W2.drew.cell? ⟨rv, 0, none⟩ = some (.pointer (some ⟨rp, 0, none⟩)) := pv
      have f9 := HQ2.out.br.frozen 12
      have HXd : Hid (Blk W2.drew X 91 #[.int .u32 (numS s 4), .int .u8 (numS (after s 4) 1)]) := Lib.hid (HX2.out.drewN 1)
      have HXa : Hid (Blk (W2.alloc (.cells #[.int .u32 (numS s 4), .int .u8 (numS (after s 4) 1)] 91)).drew X 91 #[.int .u32 (numS s 4), .int .u8 (numS (after s 4) 1)]) := Lib.hid ((HX2.out.alloc _).drewN 1)
      have hnc : ∀ t', t' ∈ [c] → (Value.slice A i cap).ownBlock ≠ some t' := by
        intro t' ht' e
        rw [List.mem_singleton] at ht'
        subst ht'
        obtain ⟨cur, hcur⟩ := row_type HOW.out t' e
        exact (hcur.ne HR.out.cut.bl (by decide)) rfl
      have HO6 := Lib.hid (ownsRow_upd HOW.out HW2.out hnc)
      have HVX : Hid (X ∉ (Value.slice A i cap).ownBlock.toList) := Lib.hid (by
        intro hm
        have := own_block_lt HOW.out (by simpa using hm)
        have := HXW.out
        omega)
      have hXrp : X ≠ rp := by have := HXN.out; omega
      have HOA : Hid ((W2.alloc (.cells #[.int .u32 (numS s 4), .int .u8 (numS (after s 4) 1)] 91)).drew.ownsRow w.heap.size 91 2 (.slice A i cap) i ((asksM i s2).1.flatMap encAsk)) := Lib.hid ((HO6.out.alloc _).drew)
      have HSZ : Hid (w.heap.size ≤ (W2.alloc (.cells #[.int .u32 (numS s 4), .int .u8 (numS (after s 4) 1)] 91)).drew.heap.size) := Lib.hid (((HUQ2.out.alloc (.cells #[.int .u32 (numS s 4), .int .u8 (numS (after s 4) 1)] 91)).drewN 1).size)
      obtain ⟨ys, hys⟩ : ∃ ys, ys = (asksM i s2).1.flatMap encAsk := ⟨_, rfl⟩
      rw [← hys] at HOA
      have HYS := Lib.hid hys
      have HNEW : Hid (Blk (W2.alloc (.cells #[.int .u32 (numS s 4), .int .u8 (numS (after s 4) 1)] 91)).drew W2.heap.size 91 #[.int .u32 (numS s 4), .int .u8 (numS (after s 4) 1)]) := Lib.hid ((Blk.new W2 91 #[.int .u32 (numS s 4), .int .u8 (numS (after s 4) 1)]).drewN 1)
      have HONE : Hid (∀ u ∈ ([.int .u32 (numS s 4), .int .u8 (numS (after s 4) 1)] : List Value), u.oneCell' = true) := Lib.hid (by intro u hu; repeat (first | (rcases List.mem_cons.1 hu with rfl | hu; · rfl) | cases hu))
      have p9a : (W2.alloc (.cells #[.int .u32 (numS s 4), .int .u8 (numS (after s 4) 1)] 91)).cell? ⟨rp, 12, none⟩ = some (.slice A i cap) := (((Upd.refl [] W2).alloc _).cell (p := ⟨rp, 12, none⟩) HQ2.out.br.lt (by simp)).trans p9
      have p9b : (W2.alloc (.cells #[.int .u32 (numS s 4), .int .u8 (numS (after s 4) 1)] 91)).drew.cell? ⟨rp, 12, none⟩ = some (.slice A i cap) := p9a
      have pva : (W2.alloc (.cells #[.int .u32 (numS s 4), .int .u8 (numS (after s 4) 1)] 91)).drew.cell? ⟨rv, 0, none⟩ = some (.pointer (some ⟨rp, 0, none⟩)) := (((Upd.refl [] W2).alloc _).cell (p := ⟨rv, 0, none⟩) HQ2.out.bv.lt (by simp)).trans pv
      clear hys hnc HOW HO6 HU
      obtain ⟨_, y0, y1⟩ := blk2 HX2.out pv
      go_region_law
        ((refine step_append_src _ (by rfl) (.tmp 40) (.tmp 42) 57 (by rfl) w.heap.size 91 j0 _ 2 8 Try.underlying57 hj0 hy0 hy1 hy2 rfl (by decide) (.slice A i cap) i ys (by rfl) HOA.out (some ⟨W2.heap.size, 0, none⟩) 1 1 [.int .u32 (numS s 4), .int .u8 (numS (after s 4) 1)] (by rfl) (fun e => by cases e) rfl (fun ad had => by cases had; exact blk_src HNEW.out) HONE.out (by unfold maxLen; omega) (by omega) HSZ.out ?_; intro v8 w8 hown8 hg8 hat8; have HX8 := Lib.hid (HXa.out.upd (Upd.of_grown hg8) HVX.out); have HRD8 := Lib.hid ((HQ2.out.more (((Upd.refl [] W2).alloc (.cells #[.int .u32 (numS s 4), .int .u8 (numS (after s 4) 1)] 91)).drewN 1)).upd (Upd.of_grown hg8) (fun hm => by obtain ⟨cur, hcur⟩ := row_type HOA.out rv (by simpa using hm); exact (hcur.ne ((HQ2.out.bv.alloc _).drewN 1) (by decide)) rfl) (fun hm => by obtain ⟨cur, hcur⟩ := row_type HOA.out rp (by simpa using hm); exact (hcur.ne ((HQ2.out.br.alloc _).drewN 1) (by decide)) rfl) (fun hm => by obtain ⟨cur, hcur⟩ := row_type HOA.out c (by simpa using hm); exact (hcur.ne ((HQ2.out.cut.bl.alloc _).drewN 1) (by decide)) rfl) (fun a ha hm => by have h1 := HRQ2.out a ha; have h2 := (own_block_lt HOA.out (by simpa using hm)).1; omega)); have p8 : w8.cell? ⟨rp, 12, none⟩ = some (.slice A i cap) := HRD8.out.cellAt 10 rfl; have pv8 : w8.cell? ⟨rv, 0, none⟩ = some (.pointer (some ⟨rp, 0, none⟩)) := HRD8.out.bv.cell 0; have f8 := HRD8.out.br.frozen 12; have HU8 := Lib.hid (app_upd ((HUQ2.out.alloc (.cells #[.int .u32 (numS s 4), .int .u8 (numS (after s 4) 1)] 91)).drewN 1) HOA.out hg8 (Nat.le_refl _)); obtain ⟨A8, c8, hv8, _⟩ := own_form hown8; subst hv8; have HO8 := Lib.hid hown8; clear hown8 hg8 hat8))
      all_goals
        go_wp2
        go_roundg (gk - 1)
        case measure => omega
        case rel =>
          have hput := HRD8.out.put 10 (.slice A8 (i + 1) c8)
          have hrs : asksM (i + 1) s2 = ((asksM i s2).1 ++ [askS s], askA s) := by rw [asksM, ← HS.out]
          have hnr : (Value.slice A8 (i + 1) c8).ownBlock ≠ some rp := by
            intro e
            obtain ⟨cur, hcur⟩ := row_type HO8.out rp e
            exact (hcur.ne HRD8.out.br (by decide)) rfl
          have hst := ownsRow_setCell_other HO8.out (a := ⟨rp, 12, none⟩) hnr (.slice A8 (i + 1) c8)
          refine ⟨i + 1, q2, A8, c8, by omega, by omega, ?_, ?_, HRQ2.out, ?_, HU8.out.setCell (.inl (by simp)) _⟩
          · rw [hrs]; exact hput
          · rw [hrs]; exact HXQ2.out
          · rw [hrs, List.flatMap_append, ← HYS.out]; exact hst
    · obtain rfl : i = N := by omega
      have hge : ¬ (8 : Int) ≤ (ri.xs.length : Int) := by have hN := HNN.out; rw [hlx]; omega
      go_wp2
      refine bodyPost_end (v := .tuple #[]) (by simp [results, Try.results50, go_sem]) rfl ⟨ri, ⟨none, 0, none, 0, none, 0, A, cap⟩, rfl, ?_, ⟨CellsIn.nil _ _ _ _ _, CellsIn.nil _ _ _ _ _, CellsIn.nil _ _ _ _ _, by rw [HM.out]; dsimp only; rw [asksM_len]; exact CellsIn.of_own HOW.out⟩, HU.out⟩
      have hrd := HR.out
      rw [HS.out] at hrd
      rw [HM.out]
      simp only [mcells, asksM_len]
      exact hrd
end Go.Proofs.Ytgkejdjdccgjbaa
