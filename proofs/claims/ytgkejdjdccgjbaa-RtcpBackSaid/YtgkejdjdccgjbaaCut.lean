/- octet's Cut: New, Err, Left, take, Bytes. Conditions: no more than 100000 bytes. -/
import Derived.Test.YtgkejdjdccgjbaaRow
import Derived.Laws.OwnMore
import Derived.Shelf.RegionOpen
import Derived.Shelf.Abstract
import Derived.Deep.DeepCutAuto
import Derived.Deep.DrawnRows
import Derived.BigQuiet
import Derived.Lib.LazyBuf
namespace Go.Proofs.Ytgkejdjdccgjbaa
open Go Go.RowKit
set_option maxHeartbeats 400000

/-- a Cut in memory: what is left, and what went wrong -/
structure CutIs (w : World) (c lo : Nat) (r : Rw) (e : Int) : Prop where
  bl : Blk w c 103 #[encR r, .int .i64 e]
  row : RowIn w lo .u8 r
  ap : ∀ a, r.A = some a → a.block ≠ c
  fm : ∀ a, r.A = some a → ∃ b off, a = ⟨b, off, none⟩
section
variable {w w' : World} {c lo : Nat} {r : Rw} {er : Int}
theorem CutIs.more (h : CutIs w c lo r er) (u : Upd [] w w') : CutIs w' c lo r er := ⟨h.bl.upd u (by simp), h.row.upd2 u (by simp), h.ap, h.fm⟩
theorem CutIs.below (h : CutIs w c lo r er) (u : Below w.heap.size w w') : CutIs w' c lo r er := ⟨h.bl.below u h.bl.lt, h.row.below u, h.ap, h.fm⟩

theorem err_any (h : CutIs w c lo r er) : Calls Try.prog 28 #[.pointer (some ⟨c, 0, none⟩)] w fun e w' => e = .returned (.int .i64 er) ∧ w = w' := by
  have c1 : w.cell? ⟨c, 1, none⟩ = some (.int .i64 er) := h.bl.cell 1
  clear h
  go_enter Try.func28, Try.ntmps28
  go_wp2
  go_ret
  exact ⟨rfl, rfl⟩
theorem left_any (h : CutIs w c lo r er) : Calls Try.prog 26 #[.pointer (some ⟨c, 0, none⟩)] w fun e w' => e = .returned (.int .i64 r.xs.length) ∧ w = w' := by
  have c0 : w.cell? ⟨c, 0, none⟩ = some (.slice r.A r.xs.length r.c) := h.bl.cell 0
  clear h
  go_enter Try.func26, Try.ntmps26
  go_wp2
  go_ret
  exact ⟨rfl, rfl⟩
/-- something went wrong before: nothing is taken -/
theorem take_err (h : CutIs w c lo r er) (n : Int) (he : er ≠ 0) : Calls Try.prog 40 #[.pointer (some ⟨c, 0, none⟩), .int .i64 n, .bool true] w fun e w' => e = .returned (.slice none 0 0) ∧ w = w' := by
  have HE := Lib.hid (err_any h)
  clear h
  go_enter Try.func40, Try.ntmps40
  go_wp2_with fail
  refine HE.out.mono ?_
  rintro e w1 ⟨rfl, rfl⟩
  go_wp2
  go_ret
  exact ⟨rfl, rfl⟩
/-- there is too little: that is noted -/
theorem take_short (h : CutIs w c lo r 0) (n : Nat) (hn : r.xs.length < n) : Calls Try.prog 40 #[.pointer (some ⟨c, 0, none⟩), .int .i64 n, .bool true] w fun e w' => e = .returned (.slice none 0 0) ∧ CutIs w' c lo r 10 ∧ Upd [c] w w' := by
  have HE := Lib.hid (err_any h)
  have H := Lib.hid h
  have c0 : w.cell? ⟨c, 0, none⟩ = some (.slice r.A r.xs.length r.c) := h.bl.cell 0
  have c1 : w.cell? ⟨c, 1, none⟩ = some (.int .i64 0) := h.bl.cell 1
  have f1 := h.bl.frozen 1
  have hd : ¬ (n : Int) ≤ (r.xs.length : Int) := by omega
  have hd' : (r.xs.length : Int) < (n : Int) := by omega
  clear h
  go_enter Try.func40, Try.ntmps40
  go_wp2_with fail
  refine HE.out.mono ?_
  rintro e w1 ⟨rfl, rfl⟩
  go_wp2
  go_ret
  have hu : Upd [c] w (w.setCell ⟨c, 1, none⟩ (.int .i64 10)) := (Upd.refl _ _).setCell (by simp) _
  refine ⟨rfl, ⟨?_, H.out.row.upd2 hu (fun s hs a ha => by rw [List.mem_singleton] at hs; subst hs; exact H.out.ap a ha), H.out.ap, H.out.fm⟩, hu⟩
  have := H.out.bl.store 1 (.int .i64 10)
  simpa using this
/-- so many bytes are taken -/
theorem take_yes (h : CutIs w c lo r 0) (n : Nat) (hn : n ≤ r.xs.length) : Calls Try.prog 40 #[.pointer (some ⟨c, 0, none⟩), .int .i64 n, .bool true] w fun e w' => ∃ q r', e = .returned (encR q) ∧ q.xs = r.xs.take n ∧ q.c = n ∧ r'.xs = r.xs.drop n ∧
    RowIn w' lo .u8 q ∧ (∀ a, q.A = some a → a.block ≠ c ∧ ∃ b off, a = ⟨b, off, none⟩) ∧ CutIs w' c lo r' 0 ∧ (∀ a, r'.A = some a → ∃ a0, r.A = some a0 ∧ a0.block = a.block) ∧ Upd [c] w w' := by
  have HE := Lib.hid (err_any h)
  have H := Lib.hid h
  obtain ⟨A, cp, xs⟩ := r
  have c0 : w.cell? ⟨c, 0, none⟩ = some (.slice A xs.length cp) := h.bl.cell 0
  have c1 : w.cell? ⟨c, 1, none⟩ = some (.int .i64 0) := h.bl.cell 1
  have f0 := h.bl.frozen 0
  have hle := h.row.le
  have hcm := h.row.cm
  have hnl := h.row.nl
  dsimp only at hle hcm hnl hn
  have hd : ¬ (xs.length : Int) < (n : Int) := by omega
  have hd2 : ¬ (cp : Int) < (n : Int) := by omega
  clear h
  cases A with
  | none =>
    obtain ⟨h1, h2⟩ := hnl rfl
    obtain rfl : xs = [] := List.eq_nil_of_length_eq_zero h1
    obtain rfl : n = 0 := by simpa using hn
    subst h2
    clear hnl h1
    go_enter Try.func40, Try.ntmps40
    go_wp2_with fail
    refine HE.out.mono ?_
    rintro e w1 ⟨rfl, rfl⟩
    go_wp2
    go_ret
    have hu : Upd [c] w (w.setCell ⟨c, 0, none⟩ (.slice none 0 0)) := (Upd.refl _ _).setCell (by simp) _
    refine ⟨⟨none, 0, []⟩, ⟨none, 0, []⟩, rfl, rfl, rfl, rfl, RowIn.nil, (fun a ha => by cases ha), ⟨?_, RowIn.nil, (fun a ha => by cases ha), (fun a ha => by cases ha)⟩, (fun a ha => by cases ha), hu⟩
    have := H.out.bl.store 0 (.slice none 0 0)
    simpa [encR] using this
  | some a =>
    obtain ⟨b, off, rfl⟩ := H.out.fm a rfl
    have hbc : b ≠ c := H.out.ap ⟨b, off, none⟩ rfl
    have hncp : n ≤ cp := by omega
    clear hnl
    by_cases hc : n = cp
    · obtain rfl : n = xs.length := by omega
      subst hc
      go_enter Try.func40, Try.ntmps40
      go_wp2_with fail
      refine HE.out.mono ?_
      rintro e w1 ⟨rfl, rfl⟩
      go_wp2
      go_ret
      have hu : Upd [c] w (w.setCell ⟨c, 0, none⟩ (.slice (some ⟨b, off, none⟩) 0 0)) := (Upd.refl _ _).setCell (by simp) _
      have hrow := H.out.row.upd2 hu (fun s hs a ha => by rw [List.mem_singleton] at hs; subst hs; exact H.out.ap a ha)
      refine ⟨⟨some ⟨b, off, none⟩, xs.length, xs⟩, ⟨some ⟨b, off, none⟩, 0, []⟩, rfl, by simp, rfl, by simp, hrow, fun a ha => ?_, ⟨?_, RowIn.nilAt, fun a ha => ?_, fun a ha => ?_⟩, fun a ha => ?_, hu⟩
      · injection ha with ha; subst ha; exact ⟨hbc, _, _, rfl⟩
      · have := H.out.bl.store 0 (.slice (some ⟨b, off, none⟩) 0 0)
        simpa [encR] using this
      · injection ha with ha; subst ha; exact hbc
      · injection ha with ha; subst ha; exact ⟨_, _, rfl⟩
      · injection ha with ha; subst ha; exact ⟨_, rfl, rfl⟩
    · have hlt : n < cp := by omega
      go_enter Try.func40, Try.ntmps40
      go_wp2_with fail
      refine HE.out.mono ?_
      rintro e w1 ⟨rfl, rfl⟩
      go_wp2
      go_ret
      have hu : Upd [c] w (w.setCell ⟨c, 0, none⟩ (.slice (some ⟨b, off + n, none⟩) (xs.length - n) (cp - n))) := (Upd.refl _ _).setCell (by simp) _
      have hrow := H.out.row.upd2 hu (fun s hs a ha => by rw [List.mem_singleton] at hs; subst hs; exact H.out.ap a ha)
      have hl : (xs.take n).length = n := by rw [List.length_take]; omega
      refine ⟨⟨some ⟨b, off, none⟩, n, xs.take n⟩, ⟨some ⟨b, off + n, none⟩, cp - n, xs.drop n⟩, by unfold encR; dsimp only; rw [hl]; rfl, rfl, rfl, rfl, hrow.take n hn, fun a ha => ?_, ⟨?_, hrow.drop n, fun a ha => ?_, fun a ha => ?_⟩, fun a ha => ?_, hu⟩
      · injection ha with ha; subst ha; exact ⟨hbc, _, _, rfl⟩
      · have := H.out.bl.store 0 (.slice (some ⟨b, off + n, none⟩) (xs.length - n) (cp - n))
        simpa [encR] using this
      · injection ha with ha; subst ha; exact hbc
      · injection ha with ha; subst ha; exact ⟨_, _, rfl⟩
      · injection ha with ha; subst ha; exact ⟨_, rfl, rfl⟩
/-- Bytes, of any number of them that there can be -/
theorem bytes_err (h : CutIs w c lo r er) (n : Nat) (he : er ≠ 0) : Calls Try.prog 27 #[.pointer (some ⟨c, 0, none⟩), .int .i64 n] w fun e w' => e = .returned (.slice none 0 0) ∧ w = w' := by
  have HC := Lib.hid (take_err h n he)
  have hd : (0 : Int) ≤ (n : Int) := by omega
  clear h
  go_enter Try.func27, Try.ntmps27
  go_wp2_with fail
  refine HC.out.mono ?_
  rintro e w1 ⟨rfl, rfl⟩
  go_wp2
  go_ret
  exact ⟨rfl, rfl⟩
theorem bytes_short (h : CutIs w c lo r 0) (n : Nat) (hn : r.xs.length < n) : Calls Try.prog 27 #[.pointer (some ⟨c, 0, none⟩), .int .i64 n] w fun e w' => e = .returned (.slice none 0 0) ∧ CutIs w' c lo r 10 ∧ Upd [c] w w' := by
  have HC := Lib.hid (take_short h n hn)
  have hd : (0 : Int) ≤ (n : Int) := by omega
  clear h
  go_enter Try.func27, Try.ntmps27
  go_wp2_with fail
  refine HC.out.mono ?_
  rintro e w1 ⟨rfl, h1, h2⟩
  go_wp2
  go_ret
  exact ⟨rfl, h1, h2⟩
theorem bytes_yes (h : CutIs w c lo r 0) (n : Nat) (hn : n ≤ r.xs.length) : Calls Try.prog 27 #[.pointer (some ⟨c, 0, none⟩), .int .i64 n] w fun e w' => ∃ q r', e = .returned (encR q) ∧ q.xs = r.xs.take n ∧ q.c = n ∧ r'.xs = r.xs.drop n ∧
    RowIn w' lo .u8 q ∧ (∀ a, q.A = some a → a.block ≠ c ∧ ∃ b off, a = ⟨b, off, none⟩) ∧ CutIs w' c lo r' 0 ∧ (∀ a, r'.A = some a → ∃ a0, r.A = some a0 ∧ a0.block = a.block) ∧ Upd [c] w w' := by
  have HC := Lib.hid (take_yes h n hn)
  have hd : (0 : Int) ≤ (n : Int) := by omega
  clear h
  go_enter Try.func27, Try.ntmps27
  go_wp2_with fail
  refine HC.out.mono ?_
  rintro e w1 ⟨q, r', rfl, hh⟩
  have HH := Lib.hid hh
  clear hh
  unfold encR
  go_wp2
  go_ret
  exact ⟨q, r', rfl, HH.out⟩

theorem own_addr {N n c' : Nat} {A : Option Addr} {t : TypeId} {xs : List Value} (h : w.ownsRow N t 1 (.slice A n c') n xs) : ∀ a, A = some a → ∃ b off, a = ⟨b, off, none⟩ := by
  intro a ha
  subst ha
  rcases h.2 with ⟨h1, _⟩ | ⟨g, cap, cur, hv, _⟩
  · injection h1 with h1; cases h1
  · injection hv with h1
    injection h1 with h1
    exact ⟨g, 0, h1⟩
set_option maxRecDepth 100000 in
theorem clone_any (h : RowIn w lo .u8 r) (hl : r.xs.length ≤ 100000) : Calls Try.prog 39 #[encR r] w fun e w' => ∃ A cp, e = .returned (.slice A r.xs.length cp) ∧ w'.ownsRow w.heap.size 5 1 (.slice A r.xs.length cp) r.xs.length (r.xs.map (Value.int .u8)) ∧ Below w.heap.size w w' := by
  obtain ⟨j0, hj0, hy0, hy1, hy2⟩ := info_parts infoB
  obtain ⟨A, cp, xs⟩ := r
  unfold encR
  dsimp only at hl ⊢
  cases A with
  | none =>
    obtain ⟨h1, h2⟩ := h.nl rfl
    obtain rfl : xs = [] := List.eq_nil_of_length_eq_zero h1
    dsimp only at h2
    subst h2
    clear h h1
    have hq : ∀ W : World, (binOp .eql 25 (.slice none 0 0) (.slice none 0 0)).run Try.prog W = .ok (.bool true) W := fun W => Lib.run_eql_slice_nil (P := Try.prog) (w := W) (h := Try.underlying25) ..
    go_enter Try.func39, Try.ntmps39
    go_wp2
    go_ret
    exact ⟨none, 0, rfl, World.ownsRow_nil _ _ _ _, Below.refl _ _⟩
  | some a =>
    have hs := h.l.src
    have hln := h.l.1
    dsimp only at hs hln
    obtain ⟨ys, hys⟩ : ∃ ys, ys = xs.map (Value.int .u8) := ⟨_, rfl⟩
    rw [← hys] at hs hln
    have HS := Lib.hid hs
    have HLN := Lib.hid hln
    have H1 : Hid (∀ u ∈ ys, u.oneCell' = true) := fun u hu => by rw [hys] at hu; obtain ⟨x, _, rfl⟩ := List.mem_map.1 hu; rfl
    have HYS := Lib.hid hys
    have HRI := Lib.hid h.l
    clear h hs hln hys
    have hq : ∀ W : World, (binOp .eql 25 (.slice (some a) xs.length cp) (.slice none 0 0)).run Try.prog W = .ok (.bool false) W := fun W => Lib.run_eql_slice_nil (P := Try.prog) (w := W) (h := Try.underlying25) ..
    go_enter Try.func39, Try.ntmps39
    go_wp2_with (at_builtin; refine wpList_append_src _ rfl (.tmp 5) (.tmp 6) 25 rfl w.heap.size 5 j0 _ 1 1 Try.underlying25 hj0 hy0 hy1 hy2 rfl (by decide) (.slice (some ⟨w.heap.size, 0, none⟩) 0 0) 0 [] rfl (World.ownsRow_lit w #[] 0 (Nat.le_refl _) (by decide) rfl) (some a) xs.length cp ys rfl (fun e => by cases e) HLN.out ?s1 H1.out ?s3 ?s4 ?s5 ?_)
    case s1 =>
      rw [HYS.out]
      exact (HRI.out.below ((Below.refl _ _).alloc (Nat.le_refl _) (.cells #[] 5)) (Nat.le_refl _)).src a rfl
    case s3 => unfold maxLen; omega
    case s4 => omega
    all_goals try (simp; done)
    intro v1 w1 hown1 hg1 hat1
    have hb := grown_upd (World.ownsRow_lit (e := 5) (size := 1) w #[] 0 (Nat.le_refl _) (by decide) rfl) hg1 (by simp)
    have hbb := ((Below.refl w.heap.size w).alloc (Nat.le_refl _) (.cells #[] 5)).trans hb
    obtain ⟨A1, c1, hv1, _⟩ := own_form hown1
    subst hv1
    have HO := Lib.hid hown1
    have HB := Lib.hid hbb
    clear hown1 hg1 hat1 hb hbb
    go_wp2
    go_ret
    exact ⟨A1, c1, rfl, by rw [← HYS.out]; simpa using HO.out, HB.out⟩
set_option maxRecDepth 100000 in
theorem cut_new (h : RowIn w lo .u8 r) (hl : r.xs.length ≤ 100000) : Calls Try.prog 25 #[encR r] w fun e w' => ∃ c r', e = .returned (.pointer (some ⟨c, 0, none⟩)) ∧ r'.xs = r.xs ∧ CutIs w' c w.heap.size r' 0 ∧ w.heap.size ≤ c ∧ (∀ a, r'.A = some a → w.heap.size ≤ a.block ∧ a.block < c) ∧ Upd [] w w' := by
  have HC := Lib.hid (clone_any h hl)
  unfold encR at HC ⊢
  clear h
  go_enter Try.func25, Try.ntmps25
  go_wp2_with fail
  refine HC.out.mono ?_
  rintro e w1 ⟨A, cp, rfl, hown, hb⟩
  have HO := Lib.hid hown
  have HB := Lib.hid hb
  clear hown hb
  go_wp2
  go_ret
  have hrow := RowIn.of_own HO.out
  refine ⟨_, ⟨A, cp, r.xs⟩, rfl, rfl, ⟨Blk.new _ _ _, hrow.upd2 ((Upd.refl [] _).alloc _) (by simp), fun a ha => ?_, own_addr HO.out⟩, HB.out.size, fun a ha => ?_, (Upd.of_below HB.out).alloc _⟩
  rotate_left
  · subst ha
    exact own_block_lt HO.out (g := a.block) rfl
  obtain ⟨b, off, hbo⟩ := own_addr HO.out a ha
  subst ha
  have := own_block_lt HO.out (g := a.block) rfl
  omega
end
end Go.Proofs.Ytgkejdjdccgjbaa
