/- octet: may, Put. Conditions: sizes of 1 to 8; no more than 1000 parts. -/
import Derived.Test.YtgkejdjdccgjbaaRows
import Derived.Test.YtgkejdjdccgjbaaCells
import Derived.Test.YtgkejdjdccgjbaaFlat
import Derived.Deep.LoopGhost
import Derived.Maps.OwnOps
import Derived.Maps.AppendAt
import Derived.Lib.Hide
namespace Go.Proofs.Ytgkejdjdccgjbaa
open Go Go.RowKit
set_option maxHeartbeats 400000

theorem row_type {w : World} {base : Nat} {e : TypeId} {size n : Nat} {v : Value} {xs : List Value} (h : w.ownsRow base e size v n xs) : ∀ g, v.ownBlock = some g → ∃ cur, Blk w g e cur := by
  intro g hg
  rcases h.2 with ⟨hv, _⟩ | ⟨g', cap, cur, hv, _, hh, _⟩
  · rw [hv] at hg; simp [Value.ownBlock] at hg
  · rw [hv] at hg
    have : g' = g := by simpa [Value.ownBlock] using hg
    subst this
    exact ⟨cur, hh⟩
/-- the elements of a literal, out of the block that is made for it -/
theorem blk_src {w : World} {g : Nat} {t : TypeId} {xs : List Value} (h : Blk w g t xs.toArray) : ∀ (j : Nat) (u : Value), xs[j]? = some u → w.cell? ((⟨g, 0, none⟩ : Addr).add j) = some u := by
  intro j u hj
  have := h.cell j
  rw [List.getElem?_toArray, hj] at this
  unfold Addr.add
  by_cases hj0 : j = 0
  · subst hj0; simpa using this
  · simpa [hj0] using this
theorem infoB : (Try.prog.info? 5).map (fun i => (i.zero, i.size, i.bytes)) = some (some (.int .u8 0), 1, 1) := by kernel_rfl
/-- the bytes of a number, the highest first -/
def be (x : Int) (n : Nat) : List Int := (List.range n).map fun i => x / 2 ^ (8 * (n - 1 - i)) % 256
def encP (p : Int × Nat) : List Value := [.int .u64 p.1, .int .i64 p.2]
theorem encP_len (p : Int × Nat) : (encP p).length = 2 := rfl
def bytesOf (ps : List (Int × Nat)) : List Int := ps.flatMap fun p => be p.1 p.2
theorem be_length (x : Int) (n : Nat) : (be x n).length = n := by simp [be]
theorem be_take (x : Int) (n k : Nat) (h : k < n) : (be x n).take (k + 1) = (be x n).take k ++ [x / 2 ^ (8 * (n - 1 - k)) % 256] := by
  rw [List.take_add_one]
  congr 1
  rw [List.getElem?_eq_getElem (by rw [be_length]; exact h)]
  simp [be]

theorem bytesOf_len (ps : List (Int × Nat)) (h : ∀ p, p ∈ ps → p.2 ≤ 8) : (bytesOf ps).length ≤ 8 * ps.length := by
  induction ps with
  | nil => simp [bytesOf]
  | cons p ps ih =>
    unfold bytesOf at ih ⊢
    rw [List.flatMap_cons, List.length_append, be_length, List.length_cons]
    have := ih fun q hq => h q (List.mem_cons_of_mem _ hq)
    have := h p (List.mem_cons_self ..)
    omega

theorem may_any (n : Nat) (w : World) (h1 : 1 ≤ n) (h2 : n ≤ 8) : Calls Try.prog 35 #[.int .i64 n] w fun e w' => e = .returned (.bool true) ∧ w = w' := by
  have d1 : decide ((1 : Int) ≤ (n : Int)) = true := by simp; omega
  have d2 : decide ((n : Int) ≤ 8) = true := by simp; omega
  go_enter Try.func35, Try.ntmps35
  go_wp2
  go_ret
  exact ⟨rfl, rfl⟩

set_option maxRecDepth 100000 in
set_option maxHeartbeats 2000000 in
theorem oput_any {w : World} {lo : Nat} {A : Option Addr} {cap : Nat} {ps : List (Int × Nat)} (hc : CellsIn w lo w.heap.size 2 A ps.length (ps.flatMap encP)) (hp : ∀ p, p ∈ ps → 1 ≤ p.2 ∧ p.2 ≤ 8) (hl : ps.length ≤ 1000) :
    Calls Try.prog 23 #[.slice A ps.length cap] w fun e w' => ∃ v, e = .returned v ∧ w'.ownsRow w.heap.size 5 1 v (bytesOf ps).length ((bytesOf ps).map (Value.int .u8)) ∧ Below w.heap.size w w' := by
  obtain ⟨j0, hj0, hy0, hy1, hy2⟩ := info_parts infoB
  have HC := Lib.hid hc
  have HP := Lib.hid hp
  clear hc hp
  go_enter Try.func23, Try.ntmps23
  go_wp2
  go_loopg [3, 9] ps.length (fun gk x3 x9 wr => ∃ (i : Nat) (bs : List Int), i ≤ ps.length ∧ ps.length ≤ i + gk ∧ x9 = .int .i64 i ∧ bs = bytesOf (ps.take i) ∧ wr.ownsRow w.heap.size 5 1 x3 bs.length (bs.map (Value.int .u8)) ∧ Below w.heap.size w wr)
  case atStart => exact ⟨0, [], Nat.zero_le _, by omega, rfl, rfl, World.ownsRow_nil _ _ _ _, Below.refl _ _⟩
  case round =>
    obtain ⟨i, bs, hi, hgi, rfl, hbs, hown, hbel⟩ := hrel
    obtain ⟨gA, rfl⟩ : ∃ gA : Nat, gA = gk := ⟨gk, rfl⟩
    by_cases hlt : i < ps.length
    · obtain ⟨p, hpi⟩ : ∃ p, ps[i]? = some p := ⟨_, List.getElem?_eq_getElem hlt⟩
      obtain ⟨hp1, hp8⟩ := HP.out p (List.mem_of_getElem? hpi)
      obtain ⟨b, off, rfl, hb1, hb2, hcc⟩ := HC.out.2 (by omega)
      have c0 := (hbel.cell (p := ⟨b, off + i * 2, none⟩) hb2).trans (hcc (i * 2 + 0) _ (flat_get encP_len ps i 0 p hpi (by omega)))
      have c1 := (hbel.cell (p := ⟨b, off + i * 2 + 1, none⟩) hb2).trans (hcc (i * 2 + 1) _ (flat_get encP_len ps i 1 p hpi (by omega)))
      obtain ⟨x, n⟩ := p
      obtain ⟨Av, cv, hve, _⟩ := own_form hown
      subst hve
      dsimp only at hp1 hp8
      dsimp only at c0 c1
      have HOW := Lib.hid hown
      have HB := Lib.hid hbel
      have HBS := Lib.hid hbs
      have HPI := Lib.hid hpi
      clear hcc hown hbel hbs hpi
      go_wp2_with fail
      refine (may_any n _ hp1 hp8).mono ?_
      rintro e w1 ⟨rfl, rfl⟩
      clear c0 c1
      obtain ⟨W1, hW1⟩ : ∃ W1, W1 = wr.alloc (.cells #[.int .u64 x, .int .i64 n] 94) := ⟨_, rfl⟩
      obtain ⟨X, hXe⟩ : ∃ X, X = wr.heap.size := ⟨_, rfl⟩
      rw [← hW1, ← hXe]
      have hX : Blk W1 X 94 #[.int .u64 x, .int .i64 n] := by rw [hW1, hXe]; exact Blk.new wr _ _
      have HOW1 : Hid (W1.ownsRow w.heap.size 5 1 (.slice Av bs.length cv) bs.length (bs.map (Value.int .u8))) := by rw [hW1]; exact Lib.hid (HOW.out.alloc _)
      have HB1 : Hid (Below w.heap.size w W1) := by rw [hW1]; exact Lib.hid (HB.out.alloc HB.out.size _)
      clear hW1 hXe HOW HB
      have x1 : W1.cell? ⟨X, 1, none⟩ = some (.int .i64 n) := hX.cell 1
      have HX := Lib.hid hX
      clear hX
      go_wp2
      clear x1
      go_loopg [3, 19] n (fun gj x3 x19 wx => ∃ (k : Nat) (cs : List Int), k ≤ n ∧ n ≤ k + gj ∧ x19 = .int .i64 k ∧ cs = bs ++ (be x n).take k ∧ wx.ownsRow w.heap.size 5 1 x3 cs.length (cs.map (Value.int .u8)) ∧ Below w.heap.size w wx ∧ Blk wx X 94 #[.int .u64 x, .int .i64 n])
      case atStart => exact ⟨0, bs, Nat.zero_le _, by omega, rfl, by simp, HOW1.out, HB1.out, HX.out⟩
      case round =>
        obtain ⟨k, cs, hk, hgk, rfl, hcs, hown, hbel, hX⟩ := hrel
        obtain ⟨Av, cv, hve, _⟩ := own_form hown
        subst hve
        have x0 : wr.cell? ⟨X, 0, none⟩ = some (.int .u64 x) := hX.cell 0
        have x1 : wr.cell? ⟨X, 1, none⟩ = some (.int .i64 n) := hX.cell 1
        by_cases hkn : k < n
        · obtain ⟨ys, hys⟩ : ∃ ys, ys = cs.map (Value.int .u8) := ⟨_, rfl⟩
          rw [← hys] at hown
          have HOW := Lib.hid hown
          have HB := Lib.hid hbel
          have HX := Lib.hid hX
          have HCS := Lib.hid hcs
          have HYS := Lib.hid hys
          have HLEN : Hid (cs.length ≤ 8000) := by
            show _ ≤ _
            have h1 := bytesOf_len (ps.take i) (fun p hp => (HP.out p (List.mem_of_mem_take hp)).2)
            rw [← HBS.out, List.length_take] at h1
            have h2 := be_length x n
            rw [hcs, List.length_append, List.length_take]
            omega
          clear hown hbel hX hcs hys
          go_wp2_with (at_builtin; refine wpList_append_own_at _ rfl (.tmp 22) (.tmp 33) 25 rfl w.heap.size 5 j0 _ 1 1 Try.underlying25 hj0 hy0 hy1 hy2 rfl (by decide) _ cs.length ys rfl (HOW.out.alloc _) ⟨wr.heap.size, 0, none⟩ 1 1 [.int .u8 (x / 2 ^ (8 * (n - 1 - k)) % 256)] rfl rfl ?u1 ?u2 ?u3 ?u4 ?u5 ?_)
          case u1 =>
            intro j u hj
            match j, hj with
            | 0, hj => simp at hj; subst hj; exact (Blk.new wr 5 #[.int .u8 (x / 2 ^ (8 * (n - 1 - k)) % 256)]).cell 0
          case u2 => intro u hu; simp at hu; subst hu; rfl
          case u3 => unfold maxLen; have := HLEN.out; omega
          case u4 => have := HLEN.out; omega
          case u5 => simp; have := HB.out.size; omega
          intro v1 w1 hown1 hg1 _ hat1
          have hl1 : (cs ++ [x / 2 ^ (8 * (n - 1 - k)) % 256]).length = cs.length + 1 := by simp
          have hown1' : w1.ownsRow w.heap.size 5 1 v1 (cs ++ [x / 2 ^ (8 * (n - 1 - k)) % 256]).length ((cs ++ [x / 2 ^ (8 * (n - 1 - k)) % 256]).map (Value.int .u8)) := by
            rw [hl1, List.map_append, ← HYS.out]; exact hown1
          have hb1 := grown_upd (HOW.out.alloc (.cells #[.int .u8 (x / 2 ^ (8 * (n - 1 - k)) % 256)] 5)) hg1 (Nat.le_trans HB.out.size (by simp))
          have hbel1 := (HB.out.alloc HB.out.size _).trans hb1
          have hX1 : Blk w1 X 94 #[.int .u64 x, .int .i64 n] := (HX.out.alloc (.cells #[.int .u8 (x / 2 ^ (8 * (n - 1 - k)) % 256)] 5)).upd (Upd.of_grown hg1) (fun hm => by
            obtain ⟨cur, hcur⟩ := row_type HOW.out X (by simpa using hm)
            exact hcur.ne HX.out (by decide) rfl)
          obtain ⟨A1, c1, hv1, _⟩ := own_form hown1'
          subst hv1
          have HO := Lib.hid hown1'
          have HBE := Lib.hid hbel1
          have HX1 := Lib.hid hX1
          rw [hl1] at HO ⊢
          clear hown1 hown1' hg1 hat1 hb1 hbel1 hX1 x0 x1
          go_wp2
          go_roundg (gk - 1)
          case measure => omega
          case rel => exact ⟨k + 1, cs ++ [x / 2 ^ (8 * (n - 1 - k)) % 256], by omega, by omega, by go_num, by rw [HCS.out, be_take x n k hkn, List.append_assoc], by rw [hl1]; exact HO.out, HBE.out, HX1.out⟩
        · obtain rfl : k = n := by omega
          have HOW := Lib.hid hown
          have HB := Lib.hid hbel
          have HCS := Lib.hid hcs
          clear hown hbel hX hcs
          go_wp2
          go_roundg (gA - 1)
          case measure => omega
          case rel => exact ⟨i + 1, cs, by omega, by omega, by go_num, by
            rw [HCS.out, HBS.out, List.take_add_one, HPI.out, Option.toList_some]
            unfold bytesOf
            rw [List.flatMap_append, List.flatMap_cons, List.flatMap_nil, List.append_nil]
            congr 1
            exact List.take_of_length_le (by rw [be_length]; exact Nat.le_refl _), HOW.out, HB.out⟩
    · obtain rfl : i = ps.length := by omega
      obtain ⟨Av, cv, hve, _⟩ := own_form hown
      subst hve
      have hbs' : bs = bytesOf ps := by rw [hbs, List.take_of_length_le (Nat.le_refl _)]
      subst hbs'
      have HOW := Lib.hid hown
      have HB := Lib.hid hbel
      clear hown hbel hbs
      go_wp2
      go_ret
      exact ⟨_, rfl, HOW.out, HB.out⟩
end Go.Proofs.Ytgkejdjdccgjbaa
