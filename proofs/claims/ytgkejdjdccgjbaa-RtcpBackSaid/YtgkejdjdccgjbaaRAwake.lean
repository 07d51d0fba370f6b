/- The statements' own example: it answers true, and leaves what was there as it was. No condition. -/
import Derived.Test.YtgkejdjdccgjbaaParse2
import Derived.Test.YtgkejdjdccgjbaaStr
namespace Go.Proofs.Ytgkejdjdccgjbaa
open Go Go.RowKit
set_option maxHeartbeats 400000

def mPli : Mg := ⟨4, 1, 2, 0, 0, 0, 0, [], [], [], [], 0⟩
def hd0 : Hd := ⟨none, 0, none, 0, none, 0, none, 0⟩
def mNack : Mg := ⟨3, 0, 0, 0, 0, 0, 0, [], [], [(4, 0)], [], 0⟩
theorem mPli_ok : mPli.Ok := ⟨by simp [mPli, U32], by simp [mPli, U32], by simp [mPli, U64], by simp [mPli, U32], by simp [mPli, U32], by simp [mPli, U32], by simp [mPli], by simp [mPli], by simp [mPli], by simp [mPli], by simp [mPli, U8], by simp [mPli], by simp [mPli], by simp [mPli], by simp [mPli]⟩
theorem mNack_ok : mNack.Ok := ⟨by simp [mNack, U32], by simp [mNack, U32], by simp [mNack, U64], by simp [mNack, U32], by simp [mNack, U32], by simp [mNack, U32], by simp [mNack], by simp [mNack], by simp [mNack, U16], by simp [mNack], by simp [mNack, U8], by simp [mNack], by simp [mNack], by simp [mNack], by simp [mNack]⟩
theorem mgIn_empty (w : World) (lo : Nat) (m : Mg) (h1 : m.reports = []) (h2 : m.who = []) (h3 : m.pairs = []) (h4 : m.asks = []) : MgIn w lo m hd0 := by
  obtain ⟨k, s, md, c, t, p, b, rs, wh, prs, ask, ty⟩ := m
  dsimp only at h1 h2 h3 h4
  subst h1 h2 h3 h4
  exact ⟨CellsIn.nil _ _ _ _ _, CellsIn.nil _ _ _ _ _, CellsIn.nil _ _ _ _ _, CellsIn.nil _ _ _ _ _⟩
theorem putM_pli : putM [mPli] = ([129, 206, 0, 2, 0, 0, 0, 1, 0, 0, 0, 2], 0) := by decide +kernel
theorem putM_nack : (putM [mNack]).2 = 0 := by decide +kernel
theorem pli_xs : pliM [0, 0, 0, 1, 0, 0, 0, 2] = (mcells mPli hd0, 0) := by
  have h1 : numM [0, 0, 0, 1, 0, 0, 0, 2] 0 4 = (1, [0, 0, 0, 2], 0) := by decide +kernel
  have h2 : numM [0, 0, 0, 2] 0 4 = (2, [], 0) := by decide +kernel
  unfold pliM
  rw [h1]
  dsimp only
  rw [h2]
  rfl
/-- the cells of a block, as a slice that lies there -/
theorem Blk.cells {w : World} {g : Nat} {t : TypeId} {cs : Array Value} {xs : List Value} {size n : Nat} (h : Blk w g t cs) (e : cs.toList = xs) (hl : xs.length = n * size) : CellsIn w 0 w.heap.size size (some ⟨g, 0, none⟩) n xs :=
  ⟨hl, fun _ => ⟨g, 0, rfl, Nat.zero_le _, h.lt, fun j u hu => by
    rw [Nat.zero_add, h.cell j]
    rw [← e, Array.getElem?_toList] at hu
    exact hu⟩⟩
set_option maxRecDepth 100000 in
set_option maxHeartbeats 2000000 in
theorem awake_any (w : World) : Calls Try.prog 9 #[] w fun e w' => e = .returned (.bool true) ∧ Upd [] w w' := by
  obtain ⟨W1, hW1⟩ : ∃ W1, W1 = w.alloc (.cells #[.int .i64 4, .int .u32 1, .int .u32 2, .int .u64 0, .int .u32 0, .int .u32 0, .int .u32 0, .slice none 0 0, .slice none 0 0, .slice none 0 0, .slice none 0 0, .int .u8 0] 59) := ⟨_, rfl⟩
  have hU1 : Upd [] w W1 := by rw [hW1]; exact (Upd.refl [] w).alloc _
  have hB1 : Blk W1 w.heap.size 59 #[.int .i64 4, .int .u32 1, .int .u32 2, .int .u64 0, .int .u32 0, .int .u32 0, .int .u32 0, .slice none 0 0, .slice none 0 0, .slice none 0 0, .slice none 0 0, .int .u8 0] := by rw [hW1]; exact Blk.new _ _ _
  have HP1 := Lib.hid (put_any (w := W1) (lo := 0) (A := some ⟨w.heap.size, 0, none⟩) (cap := 1) (ms := [(mPli, hd0)]) (hB1.cells rfl rfl) (by intro x hx; rw [List.mem_singleton] at hx; subst hx; exact ⟨mgIn_empty _ _ _ rfl rfl rfl rfl, mPli_ok⟩) (by simp))
  simp only [List.map_cons, List.map_nil, List.length_cons, List.length_nil] at HP1
  rw [putM_pli] at HP1
  dsimp only [List.length_cons, List.length_nil] at HP1
  simp only [Nat.zero_add, Nat.reduceAdd] at HP1
  go_enter Try.func9, Try.ntmps9
  go_wp2_with fail
  rw [← hW1]
  refine HP1.out.mono ?_
  rintro e w2 ⟨v2, rfl, hown2, hb2⟩
  obtain ⟨A2, c2, hv2, _⟩ := own_form hown2
  subst hv2
  have hrow2 := RowIn.of_own (xs := [129, 206, 0, 2, 0, 0, 0, 1, 0, 0, 0, 2]) hown2
  have HPA := Lib.hid (parse_one hrow2 129 206 0 2 [0, 0, 0, 1, 0, 0, 0, 2] rfl (by simp) (by intro x hx; simp at hx; omega) (by omega) (by omega) (by simp) mPli hd0 (fun W lo' q hq hqx => by
    have h := read_pli hq (by rw [hqx]; simp) 206 1 (by rw [hqx]; intro x hx; simp at hx; omega) (by decide)
    rw [hqx, pli_xs] at h
    exact h))
  unfold encR at HPA
  dsimp only [List.length_cons, List.length_nil] at HPA
  simp only [Nat.zero_add, Nat.reduceAdd] at HPA
  have HR2 := Lib.hid hrow2
  have HU2 := Lib.hid (hU1.next (Upd.of_below hb2))
  clear hown2 hrow2 hb2 HP1 hU1 hB1 hW1
  go_wp2_with fail
  refine HPA.out.mono ?_
  rintro e w3 ⟨v3, rfl, hown3, hu3⟩
  obtain ⟨A3, c3, hv3, _, ha3, _⟩ := own_form hown3
  subst hv3
  obtain ⟨g3, rfl, hg3, hg3'⟩ := ha3 (by decide)
  have HR3 := Lib.hid (hown3.cells (g := g3) rfl)
  have HU3 := Lib.hid (HU2.out.next hu3)
  have HRR := Lib.hid (HR2.out.upd2 hu3 (by simp))
  clear hown3 hu3 HPA HU2 HR2
  have HPN := Lib.hid (parse_nil w3)
  go_wp2_with fail
  refine HPN.out.mono ?_
  rintro e w4 ⟨rfl, hu4⟩
  have HU4 := Lib.hid (HU3.out.next hu4)
  have HRR4 := Lib.hid (HRR.out.upd2 hu4 (by simp))
  have HC4 := Lib.hid (fun (j : Nat) (u : Value) (hj : (mcells mPli hd0)[j]? = some u) => (hu4.cell (p := (⟨g3, 0, none⟩ : Addr).add j) (by rw [Addr.add]; split <;> exact hg3') (by simp)).trans (HR3.out j u hj))
  have hg4 : g3 < w4.heap.size := Nat.lt_of_lt_of_le hg3' hu4.size
  clear hu4 HU3 HRR HR3 HPN
  obtain ⟨W5, hW5⟩ : ∃ W5, W5 = (w4.alloc (.cells #[.int .u16 4, .int .u16 0] 68)).alloc (.cells #[.int .i64 3, .int .u32 0, .int .u32 0, .int .u64 0, .int .u32 0, .int .u32 0, .int .u32 0, .slice none 0 0, .slice none 0 0, .slice (some ⟨w4.heap.size, 0, none⟩) 1 1, .slice none 0 0, .int .u8 0] 59) := ⟨_, rfl⟩
  have hU5 : Upd [] w4 W5 := by rw [hW5]; exact ((Upd.refl [] w4).alloc _).alloc _
  have hB5 : Blk W5 (w4.heap.size + 1) 59 #[.int .i64 3, .int .u32 0, .int .u32 0, .int .u64 0, .int .u32 0, .int .u32 0, .int .u32 0, .slice none 0 0, .slice none 0 0, .slice (some ⟨w4.heap.size, 0, none⟩) 1 1, .slice none 0 0, .int .u8 0] := by
    have := Blk.new (w4.alloc (.cells #[.int .u16 4, .int .u16 0] 68)) 59 #[.int .i64 3, .int .u32 0, .int .u32 0, .int .u64 0, .int .u32 0, .int .u32 0, .int .u32 0, .slice none 0 0, .slice none 0 0, .slice (some ⟨w4.heap.size, 0, none⟩) 1 1, .slice none 0 0, .int .u8 0]
    rw [World.size_alloc] at this
    rw [hW5]; exact this
  have hB6 : Blk W5 w4.heap.size 68 #[.int .u16 4, .int .u16 0] := by rw [hW5]; exact (Blk.new _ _ _).alloc _
  have HP5 := Lib.hid (put_any (w := W5) (lo := 0) (A := some ⟨w4.heap.size + 1, 0, none⟩) (cap := 1) (ms := [(mNack, ⟨none, 0, none, 0, some ⟨w4.heap.size, 0, none⟩, 1, none, 0⟩)]) (hB5.cells rfl rfl) (by
    intro x hx; rw [List.mem_singleton] at hx; subst hx
    exact ⟨⟨CellsIn.nil _ _ _ _ _, CellsIn.nil _ _ _ _ _, hB6.cells rfl rfl, CellsIn.nil _ _ _ _ _⟩, mNack_ok⟩) (by simp))
  simp only [List.map_cons, List.map_nil, List.length_cons, List.length_nil] at HP5
  rw [putM_nack] at HP5
  simp only [Nat.zero_add, Nat.reduceAdd] at HP5
  go_wp2_with fail
  rw [← hW5]
  refine HP5.out.mono ?_
  rintro e w6 ⟨v6, rfl, _, hb6⟩
  have hu6 : Upd [] w4 w6 := hU5.next (Upd.of_below hb6)
  have m2 : w6.cell? ⟨g3, 2, none⟩ = some (.int .u32 2) := (hu6.cell (p := ⟨g3, 2, none⟩) hg4 (by simp)).trans (HC4.out 2 _ rfl)
  have m0 : w6.cell? ⟨g3, 0, none⟩ = some (.int .i64 4) := (hu6.cell (p := ⟨g3, 0, none⟩) hg4 (by simp)).trans (HC4.out 0 _ rfl)
  have hr6 := HRR4.out.upd2 hu6 (by simp)
  have hst := str_of hr6
  have HIS := Lib.hid (is_any hr6 (by intro x hx; simp at hx; omega))
  rw [show isM [129, 206, 0, 2, 0, 0, 0, 1, 0, 0, 0, 2] = true from by decide] at HIS
  rw [show strOfNums [129, 206, 0, 2, 0, 0, 0, 1, 0, 0, 0, 2] = { data := #[129, 206, 0, 2, 0, 0, 0, 1, 0, 0, 0, 2] } from by decide +kernel] at hst
  unfold encR at hst HIS
  dsimp only [List.length_cons, List.length_nil] at hst HIS
  simp only [Nat.zero_add, Nat.reduceAdd] at hst HIS
  have HU6 := Lib.hid (HU4.out.next hu6)
  clear hb6 hu6 hr6 HP5 hW5 hB5 hB6 hU5 HU4 HRR4 HC4
  go_wp2_with fail
  refine HIS.out.mono ?_
  rintro e w7 ⟨rfl, rfl⟩
  go_wp2
  exact bodyPost_res (v := .bool true) (by simp [results, Try.results9, go_sem]) rfl ⟨rfl, HU6.out⟩
end Go.Proofs.Ytgkejdjdccgjbaa
