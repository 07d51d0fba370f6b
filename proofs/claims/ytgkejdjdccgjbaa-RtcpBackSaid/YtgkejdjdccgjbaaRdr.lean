/- rtcp's reader: num; the closures of Pli, and of others. Conditions: bytes. -/
import Derived.Test.YtgkejdjdccgjbaaPut
import Derived.Deep.RegionHeld3
namespace Go.Proofs.Ytgkejdjdccgjbaa
open Go Go.RowKit
set_option maxHeartbeats 400000

/-- what a number of so many bytes is, what is left, and what went wrong -/
def numM (xs : List Int) (er : Int) (n : Nat) : Int × List Int × Int :=
  if er ≠ 0 then (0, xs, er) else if xs.length < n then (0, xs, 10) else (numOf (xs.take n), xs.drop n, 0)
theorem numM_lt (xs : List Int) (er : Int) (n : Nat) (h : Byt xs) : 0 ≤ (numM xs er n).1 ∧ (numM xs er n).1 < 256 ^ n := by
  have hp : (0 : Int) < 256 ^ n := Int.pow_pos (by decide)
  unfold numM
  split
  · exact ⟨Int.le_refl _, hp⟩
  split
  · exact ⟨Int.le_refl _, hp⟩
  · have := numOf_lt (xs.take n) (fun b hb => h b (List.mem_of_mem_take hb))
    rwa [List.length_take, Nat.min_eq_left (by omega)] at this
theorem numM_byt (xs : List Int) (er : Int) (n : Nat) (h : Byt xs) : Byt (numM xs er n).2.1 := by
  unfold numM
  split
  · exact h
  split
  · exact h
  · exact fun b hb => h b (List.mem_of_mem_drop hb)
section
variable {w w' : World} {c lo : Nat} {r : Rw} {er : Int}
theorem num_any (h : CutIs w c lo r er) (n : Nat) (h1 : 1 ≤ n) (h8 : n ≤ 8) (hb : Byt r.xs) : Calls Try.prog 44 #[.pointer (some ⟨c, 0, none⟩), .int .i64 n] w fun e w' => ∃ r', e = .returned (.int .u64 (numM r.xs er n).1) ∧ r'.xs = (numM r.xs er n).2.1 ∧ CutIs w' c lo r' (numM r.xs er n).2.2 ∧ (∀ a, r'.A = some a → ∃ a0, r.A = some a0 ∧ a0.block = a.block) ∧ Upd [c] w w' := by
  by_cases he : er = 0
  · subst he
    by_cases hn : r.xs.length < n
    · have e : numM r.xs 0 n = (0, r.xs, 10) := by simp [numM, hn]
      rw [e]
      refine (num_short h n h1 h8 hn).mono ?_
      rintro e w2 ⟨rfl, h2, h3⟩
      exact ⟨r, rfl, rfl, h2, fun a ha => ⟨a, ha, rfl⟩, h3⟩
    · have e : numM r.xs 0 n = (numOf (r.xs.take n), r.xs.drop n, 0) := by simp [numM, hn]
      rw [e]
      refine (num_yes h n h1 h8 (by omega) hb).mono ?_
      rintro e w2 ⟨r', rfl, h2, h3, h4, h5⟩
      exact ⟨r', rfl, h2, h3, h4, h5⟩
  · have e : numM r.xs er n = (0, r.xs, er) := by simp [numM, he]
    rw [e]
    refine (num_err h n h1 h8 he).mono ?_
    rintro e w2 ⟨rfl, rfl⟩
    exact ⟨r, rfl, rfl, h, fun a ha => ⟨a, ha, rfl⟩, Upd.refl _ _⟩
end
/-- a reader in memory -/
structure RdIs (w : World) (rv rp c lo : Nat) (cnt : Int) (cs : List Value) (r : Rw) (er : Int) : Prop where
  bv : Blk w rv 105 #[.pointer (some ⟨rp, 0, none⟩)]
  br : Blk w rp 108 (.pointer (some ⟨c, 0, none⟩) :: .int .i64 cnt :: cs).toArray
  cut : CutIs w c lo r er
  ap : ∀ a, r.A = some a → a.block ≠ rp
section
variable {w w' : World} {rv rp c lo : Nat} {cnt : Int} {cs : List Value} {r : Rw} {er : Int}
theorem RdIs.more (h : RdIs w rv rp c lo cnt cs r er) (u : Upd [] w w') : RdIs w' rv rp c lo cnt cs r er := ⟨h.bv.upd u (by simp), h.br.upd u (by simp), h.cut.more u, h.ap⟩
/-- behind a call that takes of its bytes -/
theorem RdIs.took (h : RdIs w rv rp c lo cnt cs r er) {r' : Rw} {er' : Int} (hc : CutIs w' c lo r' er') (hk : ∀ a, r'.A = some a → ∃ a0, r.A = some a0 ∧ a0.block = a.block) (u : Upd [c] w w') : RdIs w' rv rp c lo cnt cs r' er' :=
  ⟨h.bv.upd u (by rw [List.mem_singleton]; exact h.bv.ne h.cut.bl (by decide)), h.br.upd u (by rw [List.mem_singleton]; exact h.br.ne h.cut.bl (by decide)), hc, fun a ha => by
    obtain ⟨a0, h0, e⟩ := hk a ha
    rw [← e]; exact h.ap a0 h0⟩
/-- a cell of the message is written -/
theorem RdIs.put (h : RdIs w rv rp c lo cnt cs r er) (i : Nat) (v : Value) : RdIs (w.setCell ⟨rp, i + 2, none⟩ v) rv rp c lo cnt (cs.set i v) r er := by
  have hu : Upd [rp] w (w.setCell ⟨rp, i + 2, none⟩ v) := (Upd.refl _ _).setCell (by simp) _
  have nc : c ≠ rp := (h.br.ne h.cut.bl (by decide)).symm
  refine ⟨h.bv.other (by show rv ≠ rp; exact h.bv.ne h.br (by decide)) v, ?_, ⟨h.cut.bl.other (by show c ≠ rp; exact nc) v, h.cut.row.upd2 hu (fun s hs a ha => by rw [List.mem_singleton] at hs; subst hs; exact h.ap a ha), h.cut.ap, h.cut.fm⟩, h.ap⟩
  have := h.br.store (i + 2) v
  simpa using this
theorem rnum_any (h : RdIs w rv rp c lo cnt cs r er) (hb : Byt r.xs) : Calls Try.prog 43 #[.pointer (some ⟨rp, 0, none⟩)] w fun e w' => ∃ r', e = .returned (.int .u32 (numM r.xs er 4).1) ∧ r'.xs = (numM r.xs er 4).2.1 ∧ RdIs w' rv rp c lo cnt cs r' (numM r.xs er 4).2.2 ∧ Upd [c] w w' := by
  have c0 : w.cell? ⟨rp, 0, none⟩ = some (.pointer (some ⟨c, 0, none⟩)) := h.br.cell 0
  have HC := Lib.hid (num_any h.cut 4 (by decide) (by decide) hb)
  have H := Lib.hid h
  have hx := numM_lt r.xs er 4 hb
  generalize numM r.xs er 4 = q at HC hx ⊢
  obtain ⟨x, xs', e'⟩ := q
  dsimp only at HC hx ⊢
  have hx0 := hx.1
  have hx1 : x < 4294967296 := by have := hx.2; omega
  clear h hb hx
  go_enter Try.func43, Try.ntmps43
  go_wp2_with fail
  refine HC.out.mono ?_
  rintro e w1 ⟨r', rfl, h1, h2, h3, h4⟩
  have HH := Lib.hid (And.intro h1 (And.intro (H.out.took h2 h3 h4) h4))
  clear h1 h2 h3 h4 HC
  go_wp2
  go_ret
  exact ⟨r', rfl, HH.out⟩
theorem RdIs.cellAt (h : RdIs w rv rp c lo cnt cs r er) (i : Nat) {u : Value} (hu : cs[i]? = some u) : w.cell? ⟨rp, i + 2, none⟩ = some u := by
  have := h.br.cell (i + 2)
  rw [List.getElem?_toArray] at this
  rw [this]
  simpa using hu
/-- another message: its type alone -/
theorem read7_any (h : RdIs w rv rp c lo cnt cs r er) {bx : Nat} {t : Int} (hbx : Blk w bx 5 #[.int .u8 t]) (hcs : cs.length = 12) :
    Calls Try.prog 51 #[.pointer (some ⟨bx, 0, none⟩), .pointer (some ⟨rv, 0, none⟩)] w fun e w' => e = .returned (.tuple #[]) ∧ RdIs w' rv rp c lo cnt (cs.set 11 (.int .u8 t)) r er ∧ Upd [rp] w w' := by
  have v0 : w.cell? ⟨rv, 0, none⟩ = some (.pointer (some ⟨rp, 0, none⟩)) := h.bv.cell 0
  have b0 : w.cell? ⟨bx, 0, none⟩ = some (.int .u8 t) := hbx.cell 0
  obtain ⟨u, hu⟩ : ∃ u, cs[11]? = some u := ⟨_, List.getElem?_eq_getElem (by omega)⟩
  have r0 : w.cell? ⟨rp, 13, none⟩ = some u := by
    have := h.br.cell 13
    rw [List.getElem?_toArray] at this
    simpa [hu] using this
  have f0 := h.br.frozen 13
  have H := Lib.hid (h.put 11 (.int .u8 t))
  clear h hbx hu hcs
  go_enter Try.func51, Try.ntmps51
  go_wp2
  exact bodyPost_end (v := .tuple #[]) (by simp [results, Try.results51, go_sem]) rfl ⟨rfl, H.out, (Upd.refl _ _).setCell (by simp) _⟩
set_option maxRecDepth 100000 in
/-- a message of Media alone -/
theorem read5_any (h : RdIs w rv rp c lo cnt cs r er) (hb : Byt r.xs) (hcs : cs.length = 12) :
    Calls Try.prog 49 #[.pointer (some ⟨rv, 0, none⟩)] w fun e w' => ∃ r' er', e = .returned (.tuple #[]) ∧
      RdIs w' rv rp c lo cnt ((cs.set 1 (.int .u32 (numM r.xs er 4).1)).set 2 (.int .u32 (numM (numM r.xs er 4).2.1 (numM r.xs er 4).2.2 4).1)) r' er' ∧ er' = (numM (numM r.xs er 4).2.1 (numM r.xs er 4).2.2 4).2.2 ∧
      r'.xs = (numM (numM r.xs er 4).2.1 (numM r.xs er 4).2.2 4).2.1 ∧ Upd [c, rp] w w' := by
  have v0 : w.cell? ⟨rv, 0, none⟩ = some (.pointer (some ⟨rp, 0, none⟩)) := h.bv.cell 0
  have HC := Lib.hid (rnum_any (h.more ((Upd.refl [] w).drewN 1)) hb)
  have hrc : rv ≠ rp := h.bv.ne h.br (by decide)
  have hrc' : rp ≠ rv := hrc.symm
  obtain ⟨u1, hu1⟩ : ∃ u, cs[1]? = some u := ⟨_, List.getElem?_eq_getElem (by omega)⟩
  obtain ⟨u2, hu2⟩ : ∃ u, cs[2]? = some u := ⟨_, List.getElem?_eq_getElem (by omega)⟩
  have HU1 := Lib.hid hu1
  have HU2 := Lib.hid hu2
  have hb1 := numM_byt r.xs er 4 hb
  generalize numM r.xs er 4 = q1 at HC hb1 ⊢
  obtain ⟨a1, xs1, er1⟩ := q1
  dsimp only at HC hb1 ⊢
  have HB1 := Lib.hid hb1
  clear h hb hu1 hu2 hcs hb1
  go_enter Try.func49, Try.ntmps49
  go_wp2_with fail
  go_region_held3 (fun w' => w'.cell? ⟨rv, 0, none⟩ = some (.pointer (some ⟨rp, 0, none⟩))) (first | go_keep | exact v1 | exact v0 | simpa [hrc, hrc'] using v1)
    ((go_at_call 43; refine HC.out.mono ?_; rintro e w1 ⟨r1, rfl, h1, h2, h3⟩; have v1 : w1.cell? ⟨rv, 0, none⟩ = some (.pointer (some ⟨rp, 0, none⟩)) := h2.bv.cell 0; have p1 : w1.cell? ⟨rp, 3, none⟩ = some u1 := h2.cellAt 1 HU1.out; have f1 := h2.br.frozen 3; have HH := Lib.hid (And.intro h1 (And.intro (h2.put 1 (.int .u32 a1)) h3)); clear h1 h2 h3))
  clear HC v0
  obtain ⟨W2, hW2⟩ : ∃ W2, W2 = w1.setCell ⟨rp, 3, none⟩ (.int .u32 a1) := ⟨_, rfl⟩
  obtain ⟨h1, h2, h3⟩ := HH.out
  have hu : Upd [c, rp] w W2 := by rw [hW2]; exact (((Upd.refl [] w).drewN 1).more (by simp)).next (((h3.more (by simp)).next ((Upd.refl [c, rp] w1).setCell (by simp) _)))
  rw [show (1 + 2 : Nat) = 3 from rfl, ← hW2] at h2
  rw [← hW2]
  have v2 : W2.cell? ⟨rv, 0, none⟩ = some (.pointer (some ⟨rp, 0, none⟩)) := h2.bv.cell 0
  have HC := Lib.hid (rnum_any (h2.more ((Upd.refl [] W2).drewN 1)) (by rw [h1]; exact HB1.out))
  rw [h1] at HC
  obtain ⟨⟨a2, xs2, er2⟩, hq2⟩ : ∃ q, q = numM xs1 er1 4 := ⟨_, rfl⟩
  rw [← hq2] at HC
  dsimp only at HC
  have HQ := Lib.hid hq2
  clear hq2
  have HU := Lib.hid hu
  clear hW2 HH h1 h2 h3 hu v1 p1 f1
  go_wp2_with fail
  go_region_held3 (fun w' => w'.cell? ⟨rv, 0, none⟩ = some (.pointer (some ⟨rp, 0, none⟩))) (first | go_keep | exact v3 | exact v2 | simpa [hrc, hrc'] using v3)
    ((go_at_call 43; refine HC.out.mono ?_; rintro e w3 ⟨r3, rfl, h1, h2, h3⟩; have v3 : w3.cell? ⟨rv, 0, none⟩ = some (.pointer (some ⟨rp, 0, none⟩)) := h2.bv.cell 0; have p3 : w3.cell? ⟨rp, 4, none⟩ = some u2 := h2.cellAt 2 (by rw [List.getElem?_set_ne (by decide)]; exact HU2.out); have f3 := h2.br.frozen 4; have HH := Lib.hid (And.intro h1 (And.intro (h2.put 2 (.int .u32 a2)) h3)); clear h1 h2 h3))
  obtain ⟨h1, h2, h3⟩ := HH.out
  exact bodyPost_end (v := .tuple #[]) (by simp [results, Try.results49, go_sem]) rfl ⟨r3, er2, rfl, by rw [← HQ.out]; exact h2, by rw [← HQ.out], by rw [← HQ.out]; exact h1, HU.out.next ((((Upd.refl [] W2).drewN 1).more (by simp)).next ((h3.more (by simp)).next ((Upd.refl [c, rp] w3).setCell (by simp) _)))⟩
end
end Go.Proofs.Ytgkejdjdccgjbaa
