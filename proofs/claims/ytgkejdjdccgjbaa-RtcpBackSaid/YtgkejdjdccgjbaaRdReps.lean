/- rtcp's reader: reports. Conditions: bytes. (Written by wip/gen/rtcprdreps.py.) -/
import Derived.Test.YtgkejdjdccgjbaaRead
namespace Go.Proofs.Ytgkejdjdccgjbaa
open Go Go.RowKit
set_option maxHeartbeats 400000

section
variable {w w' : World} {rv rp c lo : Nat} {cnt : Int} {cs : List Value} {r : Rw} {er : Int}
theorem rnum_kept (h : RdIs w rv rp c lo cnt cs r er) (hb : Byt r.xs) : Calls Try.prog 43 #[.pointer (some ⟨rp, 0, none⟩)] w fun e w' => ∃ r', e = .returned (.int .u32 (numM r.xs er 4).1) ∧ r'.xs = (numM r.xs er 4).2.1 ∧ RdIs w' rv rp c lo cnt cs r' (numM r.xs er 4).2.2 ∧ (∀ a, r'.A = some a → ∃ a0, r.A = some a0 ∧ a0.block = a.block) ∧ Upd [c] w w' := by
  have c0 : w.cell? ⟨rp, 0, none⟩ = some (.pointer (some ⟨c, 0, none⟩)) := h.br.cell 0
  have HC := Lib.hid (num_any h.cut 4 (by decide) (by decide) hb)
  have H := Lib.hid h
  have hx := numM_lt r.xs er 4 hb
  generalize numM r.xs er 4 = q at HC hx ⊢
  obtain ⟨x, xs', e'⟩ := q
  dsimp only at HC hx ⊢
  have hx0 := hx.1
  have hx1 : x < 4294967296 := by have := hx.2; omega
  clear h hb hx
  go_enter Try.func43, Try.ntmps43
  go_wp2_with fail
  refine HC.out.mono ?_
  rintro e w1 ⟨r', rfl, h1, h2, h3, h4⟩
  have HH := Lib.hid (And.intro h1 (And.intro (H.out.took h2 h3 h4) (And.intro h3 h4)))
  clear h1 h2 h3 h4 HC
  go_wp2
  go_ret
  exact ⟨r', rfl, HH.out⟩
theorem RdIs.upd (h : RdIs w rv rp c lo cnt cs r er) {S : List Nat} (u : Upd S w w') (h1 : rv ∉ S) (h2 : rp ∉ S) (h3 : c ∉ S) (h4 : ∀ a, r.A = some a → a.block ∉ S) : RdIs w' rv rp c lo cnt cs r er :=
  ⟨h.bv.upd u h1, h.br.upd u h2, ⟨h.cut.bl.upd u h3, h.cut.row.upd2 u (fun s hs a ha e => h4 a ha (by rw [e]; exact hs)), h.cut.ap, h.cut.fm⟩, h.ap⟩
/-- a box of the caller's own is written -/
theorem RdIs.box (h : RdIs w rv rp c lo cnt cs r er) {X N k : Nat} (u : Value) (h1 : rv < N) (h2 : rp < N) (h3 : c < N) (h4 : ∀ a, r.A = some a → a.block < N) (hX : N ≤ X) : RdIs (w.setCell ⟨X, k, none⟩ u) rv rp c lo cnt cs r er :=
  h.upd (S := [X]) ((Upd.refl _ _).setCell (by simp) _) (by simp; omega) (by simp; omega) (by simp; omega) (fun a ha => by have := h4 a ha; simp; omega)
theorem blk7 {X : Nat} {t : TypeId} {a0 a1 a2 a3 a4 a5 a6 : Value} (h : Blk w X t #[a0, a1, a2, a3, a4, a5, a6]) :
    w.cell? ⟨X, 0, none⟩ = some a0 ∧ w.cell? ⟨X, 1, none⟩ = some a1 ∧ w.cell? ⟨X, 2, none⟩ = some a2 ∧ w.cell? ⟨X, 3, none⟩ = some a3 ∧ w.cell? ⟨X, 4, none⟩ = some a4 ∧ w.cell? ⟨X, 5, none⟩ = some a5 ∧ w.cell? ⟨X, 6, none⟩ = some a6 :=
  ⟨h.cell 0, h.cell 1, h.cell 2, h.cell 3, h.cell 4, h.cell 5, h.cell 6⟩
end
theorem app_upd {S : List Nat} {N s n : Nat} {W w1 : World} {e : TypeId} {v : Value} {xs : List Value} {w0 : World} (u : Upd S w0 W) (hown : W.ownsRow N e s v n xs) (hg : W.grownBy w1 v.ownBlock) (hN : w0.heap.size ≤ N) : Upd S w0 w1 :=
  u.trans (Upd.of_grown hg) (fun t ht => .inr (Nat.le_trans hN (own_block_lt hown (by simpa using ht)).1))
/-- what is left, and what went wrong, behind a number of so many bytes -/
def after (s : List Int × Int) (n : Nat) : List Int × Int := (numM s.1 s.2 n).2
def numS (s : List Int × Int) (n : Nat) : Int := (numM s.1 s.2 n).1
theorem after_byt {s : List Int × Int} (n : Nat) (h : Byt s.1) : Byt (after s n).1 := numM_byt s.1 s.2 n h
theorem numS_lt {s : List Int × Int} (n : Nat) (h : Byt s.1) : 0 ≤ numS s n ∧ numS s n < 256 ^ n := numM_lt s.1 s.2 n h
def repS (s : List Int × Int) : Rep := ⟨numS s 4, numS (after s 4) 1, numS (after (after s 4) 1) 3, numS (after (after (after s 4) 1) 3) 4, numS (after (after (after (after s 4) 1) 3) 4) 4, numS (after (after (after (after (after s 4) 1) 3) 4) 4) 4, numS (after (after (after (after (after (after s 4) 1) 3) 4) 4) 4) 4⟩
def repA (s : List Int × Int) : List Int × Int := after (after (after (after (after (after (after s 4) 1) 3) 4) 4) 4) 4
theorem repA_byt {s : List Int × Int} (h : Byt s.1) : Byt (repA s).1 := after_byt _ (after_byt _ (after_byt _ (after_byt _ (after_byt _ (after_byt _ (after_byt _ h))))))
/-- so many reports -/
def repsM : Nat → List Int × Int → List Rep × (List Int × Int)
  | 0, s => ([], s)
  | n + 1, s => ((repsM n s).1 ++ [repS (repsM n s).2], repA (repsM n s).2)
theorem repsM_byt {s : List Int × Int} (h : Byt s.1) : ∀ n, Byt (repsM n s).2.1
  | 0 => h
  | n + 1 => repA_byt (repsM_byt h n)
theorem repsM_len (s : List Int × Int) : ∀ n, (repsM n s).1.length = n
  | 0 => rfl
  | n + 1 => by rw [repsM, List.length_append, repsM_len s n]; rfl
theorem infoR : (Try.prog.info? 87).map (fun i => (i.zero, i.size, i.bytes)) = some (some (.agg #[.int .u32 0, .int .u8 0, .int .u32 0, .int .u32 0, .int .u32 0, .int .u32 0, .int .u32 0]), 7, 28) := by kernel_rfl
set_option maxRecDepth 100000 in
set_option maxHeartbeats 4000000 in
theorem rreports_any {w : World} {rv rp c lo : Nat} {n : Nat} {cs : List Value} {r : Rw} {er : Int} (h : RdIs w rv rp c lo n cs r er) (hcs : cs.length = 12) (h7 : cs[7]? = some (.slice none 0 0)) (hb : Byt r.xs) (hn : n ≤ 31) (hra : ∀ a, r.A = some a → a.block < w.heap.size) :
    Calls Try.prog 45 #[.pointer (some ⟨rp, 0, none⟩)] w fun e w' => ∃ r' A cap, e = .returned (.tuple #[]) ∧ RdIs w' rv rp c lo n (cs.set 7 (.slice A n cap)) r' (repsM n (r.xs, er)).2.2 ∧ r'.xs = (repsM n (r.xs, er)).2.1 ∧
      (∀ a, r'.A = some a → a.block < w.heap.size) ∧ w'.ownsRow w.heap.size 87 7 (.slice A n cap) n ((repsM n (r.xs, er)).1.flatMap encRep) ∧ Upd [c, rp] w w' := by
  obtain ⟨j0, hj0, hy0, hy1, hy2⟩ := info_parts infoR
  have hrv := h.bv.lt
  have hrp := h.br.lt
  have hc := h.cut.bl.lt
  have q1 : w.cell? ⟨rp, 1, none⟩ = some (.int .i64 n) := h.br.cell 1
  have H := Lib.hid h
  have HB := Lib.hid hb
  have HRA := Lib.hid hra
  have h70 : cs.set 7 (.slice none 0 0) = cs := by
    apply List.ext_getElem?
    intro i
    rw [List.getElem?_set]
    split
    · rename_i e; subst e; split
      · exact h7.symm
      · omega
    · rfl
  have H70 := Lib.hid h70
  clear h hb hra h7 h70
  go_enter Try.func45, Try.ntmps45
  go_wp2
  go_loopg [7] n (fun gk x7 wr => ∃ (i : Nat) (ri : Rw) (A : Option Addr) (cap : Nat), i ≤ n ∧ n ≤ i + gk ∧ x7 = .int .i64 i ∧ RdIs wr rv rp c lo n (cs.set 7 (.slice A i cap)) ri (repsM i (r.xs, er)).2.2 ∧ ri.xs = (repsM i (r.xs, er)).2.1 ∧
      (∀ a, ri.A = some a → a.block < w.heap.size) ∧ wr.ownsRow w.heap.size 87 7 (.slice A i cap) i ((repsM i (r.xs, er)).1.flatMap encRep) ∧ Upd [c, rp] w wr)
  case atStart => exact ⟨0, r, none, 0, Nat.zero_le _, by omega, rfl, by rw [H70.out]; exact H.out, rfl, HRA.out, World.ownsRow_nil _ _ _ _, Upd.refl _ _⟩
  case round =>
    obtain ⟨i, ri, A, cap, hi, hgi, rfl, hrd, hxs, hra, hown, hu⟩ := hrel
    have HBY := Lib.hid (repsM_byt (s := (r.xs, er)) HB.out i)
    obtain ⟨s, hs⟩ : ∃ s, s = (repsM i (r.xs, er)).2 := ⟨_, rfl⟩
    rw [← hs] at hrd hxs HBY
    have HS := Lib.hid hs
    have HRI := Lib.hid hra
    have HOW := Lib.hid hown
    have HU := Lib.hid hu
    have HR := Lib.hid hrd
    have HXS := Lib.hid hxs
    clear hs hra hown hu hrd hxs
    by_cases hlt : i < n
    · have hlti : (i : Int) < (n : Int) := by omega
      have hw : IntKind.i64.wrap ((i : Int) + 1) = (i : Int) + 1 := IntWalk.i64_in _ (by omega)
      have HBY0 : Hid (Byt (after s 4).1) := Lib.hid (after_byt 4 HBY.out)
      have HCk := Lib.hid (rnum_kept HR.out (by rw [HXS.out]; exact HBY.out))
      rw [HXS.out] at HCk
      change Hid (Calls _ _ _ _ fun e w' => ∃ r', e = .returned (.int .u32 (numS s 4)) ∧ r'.xs = (after s 4).1 ∧ RdIs w' rv rp c lo n _ r' (after s 4).2 ∧ (∀ a, r'.A = some a → ∃ a0, ri.A = some a0 ∧ a0.block = a.block) ∧ Upd [c] _ w') at HCk
      go_wp2_with fail
      refine HCk.out.mono ?_
      rintro e w1 ⟨r0, rfl, hx, hrd, hkk, hku⟩
      have hri : ∀ a, r0.A = some a → a.block < w.heap.size := (fun a ha => by obtain ⟨a0, h0, e⟩ := hkk a ha; rw [← e]; exact HRI.out a0 h0)
      go_upto_region 3 with fail
      obtain ⟨W0, hW0⟩ : ∃ W0, W0 = w1.alloc (.cells #[.int .u32 (numS s 4), .int .u8 0, .int .u32 0, .int .u32 0, .int .u32 0, .int .u32 0, .int .u32 0] 87) := ⟨_, rfl⟩
      obtain ⟨X, hX⟩ : ∃ X, X = w1.heap.size := ⟨_, rfl⟩
      rw [← hW0, ← hX]
      have HX0 : Hid (Blk W0 X 87 #[.int .u32 (numS s 4), .int .u8 0, .int .u32 0, .int .u32 0, .int .u32 0, .int .u32 0, .int .u32 0]) := by rw [hW0, hX]; exact Lib.hid (Blk.new _ _ _)
      have HR0 : Hid (RdIs W0 rv rp c lo n (cs.set 7 (.slice A i cap)) r0 (after s 4).2) := by rw [hW0]; exact Lib.hid (hrd.more ((Upd.refl [] _).alloc _))
      have HW0 : Hid (Upd [c] wr W0) := by rw [hW0]; exact Lib.hid (hku.alloc _)
      have HU0 : Hid (Upd [c, rp] w W0) := Lib.hid (HU.out.next (HW0.out.more (by simp)))
      have HXW : Hid (wr.heap.size ≤ X) := by rw [hX]; exact Lib.hid hku.size
      have HXN : Hid (w.heap.size ≤ X) := Lib.hid (Nat.le_trans HU.out.size HXW.out)
      have HXS0 := Lib.hid hx
      have HRI0 := Lib.hid hri
      clear hx hrd hku hri HCk hW0 hX hkk
      have HBY1 : Hid (Byt (after (after s 4) 1).1) := Lib.hid (after_byt 1 HBY0.out)
      have HCk := Lib.hid (num_any HR0.out.cut 1 (by decide) (by decide) (by rw [HXS0.out]; exact HBY0.out))
      rw [HXS0.out] at HCk
      change Hid (Calls _ _ _ _ fun e w' => ∃ r', e = .returned (.int .u64 (numS (after s 4) 1)) ∧ r'.xs = (after (after s 4) 1).1 ∧ CutIs w' c lo r' (after (after s 4) 1).2 ∧ (∀ a, r'.A = some a → ∃ a0, r0.A = some a0 ∧ a0.block = a.block) ∧ Upd [c] _ w') at HCk
      have hcv := numS_lt 1 HBY0.out
      have hcv1 : IntKind.u8.wrap (numS (after s 4) 1) = numS (after s 4) 1 := IntWalk.u8_in _ (by have := hcv.2; have := hcv.1; omega)
      have pc : W0.cell? ⟨rp, 0, none⟩ = some (.pointer (some ⟨c, 0, none⟩)) := HR0.out.br.cell 0
      go_wp2_with fail
      refine HCk.out.mono ?_
      rintro e w2 ⟨r1, rfl, hx, hct, hkk, hku⟩
      have hrd := HR0.out.took hct hkk hku
      have hri : ∀ a, r1.A = some a → a.block < w.heap.size := (fun a ha => by obtain ⟨a0, h0, e⟩ := hkk a ha; rw [← e]; exact HRI0.out a0 h0)
      have hX1 := HX0.out.upd hku (by rw [List.mem_singleton]; have := HXN.out; omega)
      have cx : w2.cell? ⟨X, 1, none⟩ = some (.int .u8 0) := hX1.cell 1
      have fx := hX1.frozen 1
      go_upto_region 4 with fail
      obtain ⟨W1, hW1⟩ : ∃ W1, W1 = w2.setCell ⟨X, 1, none⟩ (.int .u8 (numS (after s 4) 1)) := ⟨_, rfl⟩
      rw [← hW1]
      have HX1 : Hid (Blk W1 X 87 #[.int .u32 (numS s 4), .int .u8 (numS (after s 4) 1), .int .u32 0, .int .u32 0, .int .u32 0, .int .u32 0, .int .u32 0]) := by rw [hW1]; exact Lib.hid (hX1.store 1 (.int .u8 (numS (after s 4) 1)))
      have HR1 : Hid (RdIs W1 rv rp c lo n (cs.set 7 (.slice A i cap)) r1 (after (after s 4) 1).2) := by rw [hW1]; exact Lib.hid (hrd.box (N := w.heap.size) _ hrv hrp hc hri HXN.out)
      have HW1 : Hid (Upd [c] wr W1) := by rw [hW1]; exact Lib.hid ((HW0.out.next hku).setCell (.inr HXW.out) _)
      have HU1 : Hid (Upd [c, rp] w W1) := by rw [hW1]; exact Lib.hid ((HU0.out.next (hku.more (by simp))).setCell (.inr HXN.out) _)
      have HXS1 := Lib.hid hx
      have HRI1 := Lib.hid hri
      clear hx hrd hku hri HCk hW1 hX1 cx fx hct hkk hcv hcv1 pc
      have HBY2 : Hid (Byt (after (after (after s 4) 1) 3).1) := Lib.hid (after_byt 3 HBY1.out)
      have HCk := Lib.hid (num_any HR1.out.cut 3 (by decide) (by decide) (by rw [HXS1.out]; exact HBY1.out))
      rw [HXS1.out] at HCk
      change Hid (Calls _ _ _ _ fun e w' => ∃ r', e = .returned (.int .u64 (numS (after (after s 4) 1) 3)) ∧ r'.xs = (after (after (after s 4) 1) 3).1 ∧ CutIs w' c lo r' (after (after (after s 4) 1) 3).2 ∧ (∀ a, r'.A = some a → ∃ a0, r1.A = some a0 ∧ a0.block = a.block) ∧ Upd [c] _ w') at HCk
      have hcv := numS_lt 3 HBY1.out
      have hcv1 : IntKind.u32.wrap (numS (after (after s 4) 1) 3) = numS (after (after s 4) 1) 3 := IntWalk.u32_in _ (by have := hcv.2; have := hcv.1; omega)
      have pc : W1.cell? ⟨rp, 0, none⟩ = some (.pointer (some ⟨c, 0, none⟩)) := HR1.out.br.cell 0
      go_wp2_with fail
      refine HCk.out.mono ?_
      rintro e w3 ⟨r2, rfl, hx, hct, hkk, hku⟩
      have hrd := HR1.out.took hct hkk hku
      have hri : ∀ a, r2.A = some a → a.block < w.heap.size := (fun a ha => by obtain ⟨a0, h0, e⟩ := hkk a ha; rw [← e]; exact HRI1.out a0 h0)
      have hX2 := HX1.out.upd hku (by rw [List.mem_singleton]; have := HXN.out; omega)
      have cx : w3.cell? ⟨X, 2, none⟩ = some (.int .u32 0) := hX2.cell 2
      have fx := hX2.frozen 2
      go_upto_region 5 with fail
      obtain ⟨W2, hW2⟩ : ∃ W2, W2 = w3.setCell ⟨X, 2, none⟩ (.int .u32 (numS (after (after s 4) 1) 3)) := ⟨_, rfl⟩
      rw [← hW2]
      have HX2 : Hid (Blk W2 X 87 #[.int .u32 (numS s 4), .int .u8 (numS (after s 4) 1), .int .u32 (numS (after (after s 4) 1) 3), .int .u32 0, .int .u32 0, .int .u32 0, .int .u32 0]) := by rw [hW2]; exact Lib.hid (hX2.store 2 (.int .u32 (numS (after (after s 4) 1) 3)))
      have HR2 : Hid (RdIs W2 rv rp c lo n (cs.set 7 (.slice A i cap)) r2 (after (after (after s 4) 1) 3).2) := by rw [hW2]; exact Lib.hid (hrd.box (N := w.heap.size) _ hrv hrp hc hri HXN.out)
      have HW2 : Hid (Upd [c] wr W2) := by rw [hW2]; exact Lib.hid ((HW1.out.next hku).setCell (.inr HXW.out) _)
      have HU2 : Hid (Upd [c, rp] w W2) := by rw [hW2]; exact Lib.hid ((HU1.out.next (hku.more (by simp))).setCell (.inr HXN.out) _)
      have HXS2 := Lib.hid hx
      have HRI2 := Lib.hid hri
      clear hx hrd hku hri HCk hW2 hX2 cx fx hct hkk hcv hcv1 pc
      have HBY3 : Hid (Byt (after (after (after (after s 4) 1) 3) 4).1) := Lib.hid (after_byt 4 HBY2.out)
      have HCk := Lib.hid (rnum_kept HR2.out (by rw [HXS2.out]; exact HBY2.out))
      rw [HXS2.out] at HCk
      change Hid (Calls _ _ _ _ fun e w' => ∃ r', e = .returned (.int .u32 (numS (after (after (after s 4) 1) 3) 4)) ∧ r'.xs = (after (after (after (after s 4) 1) 3) 4).1 ∧ RdIs w' rv rp c lo n _ r' (after (after (after (after s 4) 1) 3) 4).2 ∧ (∀ a, r'.A = some a → ∃ a0, r2.A = some a0 ∧ a0.block = a.block) ∧ Upd [c] _ w') at HCk
      go_wp2_with fail
      refine HCk.out.mono ?_
      rintro e w4 ⟨r3, rfl, hx, hrd, hkk, hku⟩
      have hri : ∀ a, r3.A = some a → a.block < w.heap.size := (fun a ha => by obtain ⟨a0, h0, e⟩ := hkk a ha; rw [← e]; exact HRI2.out a0 h0)
      have hX3 := HX2.out.upd hku (by rw [List.mem_singleton]; have := HXN.out; omega)
      have cx : w4.cell? ⟨X, 3, none⟩ = some (.int .u32 0) := hX3.cell 3
      have fx := hX3.frozen 3
      go_upto_region 6 with fail
      obtain ⟨W3, hW3⟩ : ∃ W3, W3 = w4.setCell ⟨X, 3, none⟩ (.int .u32 (numS (after (after (after s 4) 1) 3) 4)) := ⟨_, rfl⟩
      rw [← hW3]
      have HX3 : Hid (Blk W3 X 87 #[.int .u32 (numS s 4), .int .u8 (numS (after s 4) 1), .int .u32 (numS (after (after s 4) 1) 3), .int .u32 (numS (after (after (after s 4) 1) 3) 4), .int .u32 0, .int .u32 0, .int .u32 0]) := by rw [hW3]; exact Lib.hid (hX3.store 3 (.int .u32 (numS (after (after (after s 4) 1) 3) 4)))
      have HR3 : Hid (RdIs W3 rv rp c lo n (cs.set 7 (.slice A i cap)) r3 (after (after (after (after s 4) 1) 3) 4).2) := by rw [hW3]; exact Lib.hid (hrd.box (N := w.heap.size) _ hrv hrp hc hri HXN.out)
      have HW3 : Hid (Upd [c] wr W3) := by rw [hW3]; exact Lib.hid ((HW2.out.next hku).setCell (.inr HXW.out) _)
      have HU3 : Hid (Upd [c, rp] w W3) := by rw [hW3]; exact Lib.hid ((HU2.out.next (hku.more (by simp))).setCell (.inr HXN.out) _)
      have HXS3 := Lib.hid hx
      have HRI3 := Lib.hid hri
      clear hx hrd hku hri HCk hW3 hX3 cx fx hkk
      have HBY4 : Hid (Byt (after (after (after (after (after s 4) 1) 3) 4) 4).1) := Lib.hid (after_byt 4 HBY3.out)
      have HCk := Lib.hid (rnum_kept HR3.out (by rw [HXS3.out]; exact HBY3.out))
      rw [HXS3.out] at HCk
      change Hid (Calls _ _ _ _ fun e w' => ∃ r', e = .returned (.int .u32 (numS (after (after (after (after s 4) 1) 3) 4) 4)) ∧ r'.xs = (after (after (after (after (after s 4) 1) 3) 4) 4).1 ∧ RdIs w' rv rp c lo n _ r' (after (after (after (after (after s 4) 1) 3) 4) 4).2 ∧ (∀ a, r'.A = some a → ∃ a0, r3.A = some a0 ∧ a0.block = a.block) ∧ Upd [c] _ w') at HCk
      go_wp2_with fail
      refine HCk.out.mono ?_
      rintro e w5 ⟨r4, rfl, hx, hrd, hkk, hku⟩
      have hri : ∀ a, r4.A = some a → a.block < w.heap.size := (fun a ha => by obtain ⟨a0, h0, e⟩ := hkk a ha; rw [← e]; exact HRI3.out a0 h0)
      have hX4 := HX3.out.upd hku (by rw [List.mem_singleton]; have := HXN.out; omega)
      have cx : w5.cell? ⟨X, 4, none⟩ = some (.int .u32 0) := hX4.cell 4
      have fx := hX4.frozen 4
      go_upto_region 7 with fail
      obtain ⟨W4, hW4⟩ : ∃ W4, W4 = w5.setCell ⟨X, 4, none⟩ (.int .u32 (numS (after (after (after (after s 4) 1) 3) 4) 4)) := ⟨_, rfl⟩
      rw [← hW4]
      have HX4 : Hid (Blk W4 X 87 #[.int .u32 (numS s 4), .int .u8 (numS (after s 4) 1), .int .u32 (numS (after (after s 4) 1) 3), .int .u32 (numS (after (after (after s 4) 1) 3) 4), .int .u32 (numS (after (after (after (after s 4) 1) 3) 4) 4), .int .u32 0, .int .u32 0]) := by rw [hW4]; exact Lib.hid (hX4.store 4 (.int .u32 (numS (after (after (after (after s 4) 1) 3) 4) 4)))
      have HR4 : Hid (RdIs W4 rv rp c lo n (cs.set 7 (.slice A i cap)) r4 (after (after (after (after (after s 4) 1) 3) 4) 4).2) := by rw [hW4]; exact Lib.hid (hrd.box (N := w.heap.size) _ hrv hrp hc hri HXN.out)
      have HW4 : Hid (Upd [c] wr W4) := by rw [hW4]; exact Lib.hid ((HW3.out.next hku).setCell (.inr HXW.out) _)
      have HU4 : Hid (Upd [c, rp] w W4) := by rw [hW4]; exact Lib.hid ((HU3.out.next (hku.more (by simp))).setCell (.inr HXN.out) _)
      have HXS4 := Lib.hid hx
      have HRI4 := Lib.hid hri
      clear hx hrd hku hri HCk hW4 hX4 cx fx hkk
      have HBY5 : Hid (Byt (after (after (after (after (after (after s 4) 1) 3) 4) 4) 4).1) := Lib.hid (after_byt 4 HBY4.out)
      have HCk := Lib.hid (rnum_kept HR4.out (by rw [HXS4.out]; exact HBY4.out))
      rw [HXS4.out] at HCk
      change Hid (Calls _ _ _ _ fun e w' => ∃ r', e = .returned (.int .u32 (numS (after (after (after (after (after s 4) 1) 3) 4) 4) 4)) ∧ r'.xs = (after (after (after (after (after (after s 4) 1) 3) 4) 4) 4).1 ∧ RdIs w' rv rp c lo n _ r' (after (after (after (after (after (after s 4) 1) 3) 4) 4) 4).2 ∧ (∀ a, r'.A = some a → ∃ a0, r4.A = some a0 ∧ a0.block = a.block) ∧ Upd [c] _ w') at HCk
      go_wp2_with fail
      refine HCk.out.mono ?_
      rintro e w6 ⟨r5, rfl, hx, hrd, hkk, hku⟩
      have hri : ∀ a, r5.A = some a → a.block < w.heap.size := (fun a ha => by obtain ⟨a0, h0, e⟩ := hkk a ha; rw [← e]; exact HRI4.out a0 h0)
      have hX5 := HX4.out.upd hku (by rw [List.mem_singleton]; have := HXN.out; omega)
      have cx : w6.cell? ⟨X, 5, none⟩ = some (.int .u32 0) := hX5.cell 5
      have fx := hX5.frozen 5
      go_upto_region 8 with fail
      obtain ⟨W5, hW5⟩ : ∃ W5, W5 = w6.setCell ⟨X, 5, none⟩ (.int .u32 (numS (after (after (after (after (after s 4) 1) 3) 4) 4) 4)) := ⟨_, rfl⟩
      rw [← hW5]
      have HX5 : Hid (Blk W5 X 87 #[.int .u32 (numS s 4), .int .u8 (numS (after s 4) 1), .int .u32 (numS (after (after s 4) 1) 3), .int .u32 (numS (after (after (after s 4) 1) 3) 4), .int .u32 (numS (after (after (after (after s 4) 1) 3) 4) 4), .int .u32 (numS (after (after (after (after (after s 4) 1) 3) 4) 4) 4), .int .u32 0]) := by rw [hW5]; exact Lib.hid (hX5.store 5 (.int .u32 (numS (after (after (after (after (after s 4) 1) 3) 4) 4) 4)))
      have HR5 : Hid (RdIs W5 rv rp c lo n (cs.set 7 (.slice A i cap)) r5 (after (after (after (after (after (after s 4) 1) 3) 4) 4) 4).2) := by rw [hW5]; exact Lib.hid (hrd.box (N := w.heap.size) _ hrv hrp hc hri HXN.out)
      have HW5 : Hid (Upd [c] wr W5) := by rw [hW5]; exact Lib.hid ((HW4.out.next hku).setCell (.inr HXW.out) _)
      have HU5 : Hid (Upd [c, rp] w W5) := by rw [hW5]; exact Lib.hid ((HU4.out.next (hku.more (by simp))).setCell (.inr HXN.out) _)
      have HXS5 := Lib.hid hx
      have HRI5 := Lib.hid hri
      clear hx hrd hku hri HCk hW5 hX5 cx fx hkk
      have HBY6 : Hid (Byt (after (after (after (after (after (after (after s 4) 1) 3) 4) 4) 4) 4).1) := Lib.hid (after_byt 4 HBY5.out)
      have HCk := Lib.hid (rnum_kept HR5.out (by rw [HXS5.out]; exact HBY5.out))
      rw [HXS5.out] at HCk
      change Hid (Calls _ _ _ _ fun e w' => ∃ r', e = .returned (.int .u32 (numS (after (after (after (after (after (after s 4) 1) 3) 4) 4) 4) 4)) ∧ r'.xs = (after (after (after (after (after (after (after s 4) 1) 3) 4) 4) 4) 4).1 ∧ RdIs w' rv rp c lo n _ r' (after (after (after (after (after (after (after s 4) 1) 3) 4) 4) 4) 4).2 ∧ (∀ a, r'.A = some a → ∃ a0, r5.A = some a0 ∧ a0.block = a.block) ∧ Upd [c] _ w') at HCk
      go_wp2_with fail
      refine HCk.out.mono ?_
      rintro e w7 ⟨r6, rfl, hx, hrd, hkk, hku⟩
      have hri : ∀ a, r6.A = some a → a.block < w.heap.size := (fun a ha => by obtain ⟨a0, h0, e⟩ := hkk a ha; rw [← e]; exact HRI5.out a0 h0)
      have hX6 := HX5.out.upd hku (by rw [List.mem_singleton]; have := HXN.out; omega)
      have cx : w7.cell? ⟨X, 6, none⟩ = some (.int .u32 0) := hX6.cell 6
      have fx := hX6.frozen 6
      go_upto_region 9 with fail
      obtain ⟨W6, hW6⟩ : ∃ W6, W6 = w7.setCell ⟨X, 6, none⟩ (.int .u32 (numS (after (after (after (after (after (after s 4) 1) 3) 4) 4) 4) 4)) := ⟨_, rfl⟩
      rw [← hW6]
      have HX6 : Hid (Blk W6 X 87 #[.int .u32 (numS s 4), .int .u8 (numS (after s 4) 1), .int .u32 (numS (after (after s 4) 1) 3), .int .u32 (numS (after (after (after s 4) 1) 3) 4), .int .u32 (numS (after (after (after (after s 4) 1) 3) 4) 4), .int .u32 (numS (after (after (after (after (after s 4) 1) 3) 4) 4) 4), .int .u32 (numS (after (after (after (after (after (after s 4) 1) 3) 4) 4) 4) 4)]) := by rw [hW6]; exact Lib.hid (hX6.store 6 (.int .u32 (numS (after (after (after (after (after (after s 4) 1) 3) 4) 4) 4) 4)))
      have HR6 : Hid (RdIs W6 rv rp c lo n (cs.set 7 (.slice A i cap)) r6 (after (after (after (after (after (after (after s 4) 1) 3) 4) 4) 4) 4).2) := by rw [hW6]; exact Lib.hid (hrd.box (N := w.heap.size) _ hrv hrp hc hri HXN.out)
      have HW6 : Hid (Upd [c] wr W6) := by rw [hW6]; exact Lib.hid ((HW5.out.next hku).setCell (.inr HXW.out) _)
      have HU6 : Hid (Upd [c, rp] w W6) := by rw [hW6]; exact Lib.hid ((HU5.out.next (hku.more (by simp))).setCell (.inr HXN.out) _)
      have HXS6 := Lib.hid hx
      have HRI6 := Lib.hid hri
      clear hx hrd hku hri HCk hW6 hX6 cx fx hkk
      go_upto_region 9 with fail
      have p9 : W6.cell? ⟨rp, 9, none⟩ = some (.slice A i cap) := HR6.out.cellAt 7 (by rw [List.getElem?_set_self (by omega)])
      have f9 := HR6.out.br.frozen 9
      have HXd : Hid (Blk W6.drew X 87 #[.int .u32 (numS s 4), .int .u8 (numS (after s 4) 1), .int .u32 (numS (after (after s 4) 1) 3), .int .u32 (numS (after (after (after s 4) 1) 3) 4), .int .u32 (numS (after (after (after (after s 4) 1) 3) 4) 4), .int .u32 (numS (after (after (after (after (after s 4) 1) 3) 4) 4) 4), .int .u32 (numS (after (after (after (after (after (after s 4) 1) 3) 4) 4) 4) 4)]) := Lib.hid (HX6.out.drewN 1)
      have hnc : ∀ t', t' ∈ [c] → (Value.slice A i cap).ownBlock ≠ some t' := by
        intro t' ht' e
        rw [List.mem_singleton] at ht'
        subst ht'
        obtain ⟨cur, hcur⟩ := row_type HOW.out t' e
        exact (hcur.ne HR.out.cut.bl (by decide)) rfl
      have HO6 := Lib.hid (ownsRow_upd HOW.out HW6.out hnc)
      have HVX : Hid (X ∉ (Value.slice A i cap).ownBlock.toList) := Lib.hid (by
        intro hm
        have := own_block_lt HOW.out (by simpa using hm)
        have := HXW.out
        omega)
      have hXrp : X ≠ rp := by have := HXN.out; omega
      have HXa : Hid (Blk (W6.alloc (.cells #[.int .u32 (numS s 4), .int .u8 (numS (after s 4) 1), .int .u32 (numS (after (after s 4) 1) 3), .int .u32 (numS (after (after (after s 4) 1) 3) 4), .int .u32 (numS (after (after (after (after s 4) 1) 3) 4) 4), .int .u32 (numS (after (after (after (after (after s 4) 1) 3) 4) 4) 4), .int .u32 (numS (after (after (after (after (after (after s 4) 1) 3) 4) 4) 4) 4)] 87)).drew X 87 #[.int .u32 (numS s 4), .int .u8 (numS (after s 4) 1), .int .u32 (numS (after (after s 4) 1) 3), .int .u32 (numS (after (after (after s 4) 1) 3) 4), .int .u32 (numS (after (after (after (after s 4) 1) 3) 4) 4), .int .u32 (numS (after (after (after (after (after s 4) 1) 3) 4) 4) 4), .int .u32 (numS (after (after (after (after (after (after s 4) 1) 3) 4) 4) 4) 4)]) := Lib.hid ((HX6.out.alloc _).drewN 1)
      have HOA : Hid ((W6.alloc (.cells #[.int .u32 (numS s 4), .int .u8 (numS (after s 4) 1), .int .u32 (numS (after (after s 4) 1) 3), .int .u32 (numS (after (after (after s 4) 1) 3) 4), .int .u32 (numS (after (after (after (after s 4) 1) 3) 4) 4), .int .u32 (numS (after (after (after (after (after s 4) 1) 3) 4) 4) 4), .int .u32 (numS (after (after (after (after (after (after s 4) 1) 3) 4) 4) 4) 4)] 87)).drew.ownsRow w.heap.size 87 7 (.slice A i cap) i ((repsM i (r.xs, er)).1.flatMap encRep)) := Lib.hid ((HO6.out.alloc _).drew)
      have HSZ : Hid (w.heap.size ≤ (W6.alloc (.cells #[.int .u32 (numS s 4), .int .u8 (numS (after s 4) 1), .int .u32 (numS (after (after s 4) 1) 3), .int .u32 (numS (after (after (after s 4) 1) 3) 4), .int .u32 (numS (after (after (after (after s 4) 1) 3) 4) 4), .int .u32 (numS (after (after (after (after (after s 4) 1) 3) 4) 4) 4), .int .u32 (numS (after (after (after (after (after (after s 4) 1) 3) 4) 4) 4) 4)] 87)).drew.heap.size) := Lib.hid (((HU6.out.alloc (.cells #[.int .u32 (numS s 4), .int .u8 (numS (after s 4) 1), .int .u32 (numS (after (after s 4) 1) 3), .int .u32 (numS (after (after (after s 4) 1) 3) 4), .int .u32 (numS (after (after (after (after s 4) 1) 3) 4) 4), .int .u32 (numS (after (after (after (after (after s 4) 1) 3) 4) 4) 4), .int .u32 (numS (after (after (after (after (after (after s 4) 1) 3) 4) 4) 4) 4)] 87)).drewN 1).size)
      obtain ⟨ys, hys⟩ : ∃ ys, ys = (repsM i (r.xs, er)).1.flatMap encRep := ⟨_, rfl⟩
      rw [← hys] at HOA
      have HYS := Lib.hid hys
      have HNEW : Hid (Blk (W6.alloc (.cells #[.int .u32 (numS s 4), .int .u8 (numS (after s 4) 1), .int .u32 (numS (after (after s 4) 1) 3), .int .u32 (numS (after (after (after s 4) 1) 3) 4), .int .u32 (numS (after (after (after (after s 4) 1) 3) 4) 4), .int .u32 (numS (after (after (after (after (after s 4) 1) 3) 4) 4) 4), .int .u32 (numS (after (after (after (after (after (after s 4) 1) 3) 4) 4) 4) 4)] 87)).drew W6.heap.size 87 #[.int .u32 (numS s 4), .int .u8 (numS (after s 4) 1), .int .u32 (numS (after (after s 4) 1) 3), .int .u32 (numS (after (after (after s 4) 1) 3) 4), .int .u32 (numS (after (after (after (after s 4) 1) 3) 4) 4), .int .u32 (numS (after (after (after (after (after s 4) 1) 3) 4) 4) 4), .int .u32 (numS (after (after (after (after (after (after s 4) 1) 3) 4) 4) 4) 4)]) := Lib.hid ((Blk.new W6 87 #[.int .u32 (numS s 4), .int .u8 (numS (after s 4) 1), .int .u32 (numS (after (after s 4) 1) 3), .int .u32 (numS (after (after (after s 4) 1) 3) 4), .int .u32 (numS (after (after (after (after s 4) 1) 3) 4) 4), .int .u32 (numS (after (after (after (after (after s 4) 1) 3) 4) 4) 4), .int .u32 (numS (after (after (after (after (after (after s 4) 1) 3) 4) 4) 4) 4)]).drewN 1)
      have HONE : Hid (∀ u ∈ ([.int .u32 (numS s 4), .int .u8 (numS (after s 4) 1), .int .u32 (numS (after (after s 4) 1) 3), .int .u32 (numS (after (after (after s 4) 1) 3) 4), .int .u32 (numS (after (after (after (after s 4) 1) 3) 4) 4), .int .u32 (numS (after (after (after (after (after s 4) 1) 3) 4) 4) 4), .int .u32 (numS (after (after (after (after (after (after s 4) 1) 3) 4) 4) 4) 4)] : List Value), u.oneCell' = true) := Lib.hid (by intro u hu; repeat (first | (rcases List.mem_cons.1 hu with rfl | hu; · rfl) | cases hu))
      have hi31 : i ≤ 31 := by omega
      have p9a : (W6.alloc (.cells #[.int .u32 (numS s 4), .int .u8 (numS (after s 4) 1), .int .u32 (numS (after (after s 4) 1) 3), .int .u32 (numS (after (after (after s 4) 1) 3) 4), .int .u32 (numS (after (after (after (after s 4) 1) 3) 4) 4), .int .u32 (numS (after (after (after (after (after s 4) 1) 3) 4) 4) 4), .int .u32 (numS (after (after (after (after (after (after s 4) 1) 3) 4) 4) 4) 4)] 87)).cell? ⟨rp, 9, none⟩ = some (.slice A i cap) := (((Upd.refl [] W6).alloc _).cell (p := ⟨rp, 9, none⟩) HR6.out.br.lt (by simp)).trans p9
      have p9b : (W6.alloc (.cells #[.int .u32 (numS s 4), .int .u8 (numS (after s 4) 1), .int .u32 (numS (after (after s 4) 1) 3), .int .u32 (numS (after (after (after s 4) 1) 3) 4), .int .u32 (numS (after (after (after (after s 4) 1) 3) 4) 4), .int .u32 (numS (after (after (after (after (after s 4) 1) 3) 4) 4) 4), .int .u32 (numS (after (after (after (after (after (after s 4) 1) 3) 4) 4) 4) 4)] 87)).drew.cell? ⟨rp, 9, none⟩ = some (.slice A i cap) := p9a
      clear hys hnc HOW HO6 HU
      obtain ⟨y0, y1, y2, y3, y4, y5, y6⟩ := blk7 HX6.out
      go_region_law
        ((refine step_append_src _ (by rfl) (.tmp 43) (.tmp 45) 55 (by rfl) w.heap.size 87 j0 _ 7 28 Try.underlying55 hj0 hy0 hy1 hy2 rfl (by decide) (.slice A i cap) i ys (by rfl) HOA.out (some ⟨W6.heap.size, 0, none⟩) 1 1 [.int .u32 (numS s 4), .int .u8 (numS (after s 4) 1), .int .u32 (numS (after (after s 4) 1) 3), .int .u32 (numS (after (after (after s 4) 1) 3) 4), .int .u32 (numS (after (after (after (after s 4) 1) 3) 4) 4), .int .u32 (numS (after (after (after (after (after s 4) 1) 3) 4) 4) 4), .int .u32 (numS (after (after (after (after (after (after s 4) 1) 3) 4) 4) 4) 4)] (by rfl) (fun e => by cases e) rfl (fun ad had => by cases had; exact blk_src HNEW.out) HONE.out (by unfold maxLen; omega) (by omega) HSZ.out ?_; intro v8 w8 hown8 hg8 hat8; have HX8 := Lib.hid (HXa.out.upd (Upd.of_grown hg8) HVX.out); have HRD8 := Lib.hid ((HR6.out.more (((Upd.refl [] W6).alloc (.cells #[.int .u32 (numS s 4), .int .u8 (numS (after s 4) 1), .int .u32 (numS (after (after s 4) 1) 3), .int .u32 (numS (after (after (after s 4) 1) 3) 4), .int .u32 (numS (after (after (after (after s 4) 1) 3) 4) 4), .int .u32 (numS (after (after (after (after (after s 4) 1) 3) 4) 4) 4), .int .u32 (numS (after (after (after (after (after (after s 4) 1) 3) 4) 4) 4) 4)] 87)).drewN 1)).upd (Upd.of_grown hg8) (fun hm => by obtain ⟨cur, hcur⟩ := row_type HOA.out rv (by simpa using hm); exact (hcur.ne ((HR6.out.bv.alloc _).drewN 1) (by decide)) rfl) (fun hm => by obtain ⟨cur, hcur⟩ := row_type HOA.out rp (by simpa using hm); exact (hcur.ne ((HR6.out.br.alloc _).drewN 1) (by decide)) rfl) (fun hm => by obtain ⟨cur, hcur⟩ := row_type HOA.out c (by simpa using hm); exact (hcur.ne ((HR6.out.cut.bl.alloc _).drewN 1) (by decide)) rfl) (fun a ha hm => by have h1 := HRI6.out a ha; have h2 := (own_block_lt HOA.out (by simpa using hm)).1; omega)); have p8 : w8.cell? ⟨rp, 9, none⟩ = some (.slice A i cap) := HRD8.out.cellAt 7 (by rw [List.getElem?_set_self (by omega)]); have f8 := HRD8.out.br.frozen 9; have HU8 := Lib.hid (app_upd ((HU6.out.alloc (.cells #[.int .u32 (numS s 4), .int .u8 (numS (after s 4) 1), .int .u32 (numS (after (after s 4) 1) 3), .int .u32 (numS (after (after (after s 4) 1) 3) 4), .int .u32 (numS (after (after (after (after s 4) 1) 3) 4) 4), .int .u32 (numS (after (after (after (after (after s 4) 1) 3) 4) 4) 4), .int .u32 (numS (after (after (after (after (after (after s 4) 1) 3) 4) 4) 4) 4)] 87)).drewN 1) HOA.out hg8 (Nat.le_refl _)); obtain ⟨A8, c8, hv8, _⟩ := own_form hown8; subst hv8; have HO8 := Lib.hid hown8; clear hown8 hg8 hat8))
      all_goals
        go_wp2
        go_roundg (gk - 1)
        case measure => omega
        case rel =>
          have hput := HRD8.out.put 7 (.slice A8 (i + 1) c8)
          rw [List.set_set] at hput
          have hrs : repsM (i + 1) (r.xs, er) = ((repsM i (r.xs, er)).1 ++ [repS s], repA s) := by rw [repsM, ← HS.out]
          have hnr : (Value.slice A8 (i + 1) c8).ownBlock ≠ some rp := by
            intro e
            obtain ⟨cur, hcur⟩ := row_type HO8.out rp e
            exact (hcur.ne HRD8.out.br (by decide)) rfl
          have hst := ownsRow_setCell_other HO8.out (a := ⟨rp, 9, none⟩) hnr (.slice A8 (i + 1) c8)
          refine ⟨i + 1, r6, A8, c8, by omega, by omega, by go_num, ?_, ?_, HRI6.out, ?_, HU8.out.setCell (.inl (by simp)) _⟩
          · rw [hrs]; exact hput
          · rw [hrs]; exact HXS6.out
          · rw [hrs, List.flatMap_append, ← HYS.out]; exact hst
    · obtain rfl : i = n := by omega
      go_wp2
      exact bodyPost_end (v := .tuple #[]) (by simp [results, Try.results45, go_sem]) rfl ⟨ri, A, cap, rfl, by rw [← HS.out]; exact HR.out, by rw [← HS.out]; exact HXS.out, HRI.out, HOW.out, HU.out⟩
end Go.Proofs.Ytgkejdjdccgjbaa
