/- RtcpOthers: the walk. -/
import Derived.Test.YtgkejdjdccgjbaaSameO
namespace Go.Proofs.Ytgkejdjdccgjbaa
open Go Go.RowKit
set_option maxHeartbeats 400000

theorem CellsIn.of_cells {w w' : World} {size n : Nat} {A : Option Addr} {xs : List Value} (h : Cells w w.heap.size size A n xs) {S : List Nat} (u : Upd S w w') (hS : ∀ s, s ∈ S → w.heap.size ≤ s := by simp) : CellsIn w' 0 w.heap.size size A n xs := by
  refine ⟨h.1, fun hn => ?_⟩
  obtain ⟨b, off, e, hlt, hc⟩ := h.2 hn
  exact ⟨b, off, e, Nat.zero_le _, hlt, fun j v hv => (u.cell (p := ⟨b, off + j, none⟩) hlt (fun hs => by have := hS _ hs; dsimp only at this; omega)).trans (hc j v hv)⟩
set_option maxRecDepth 100000 in
set_option maxHeartbeats 4000000 in
theorem others_any (k cnt : Int) (A : Option Addr) (n cap : Nat) (l : List Int) (w : World) (hk0 : 0 ≤ k) (hk1 : k ≤ 255) (hc0 : 0 ≤ cnt) (hc1 : cnt ≤ 255) (hnc : n ≤ cap) (hcm : cap ≤ 9223372036854775807) (hA : A = none → n = 0 ∧ cap = 0) (hll : l.length = n)
    (hl : Cells w w.heap.size 1 A n (l.map (Value.int .u8))) (hb : Byt l) :
    Calls Try.prog 8 #[.int .u8 k, .int .u8 cnt, .slice A n cap] w fun e w' => e = .returned (.bool true) ∧ Below w.heap.size w w' := by
  obtain ⟨j0, hj0, hy0, hy1, hy2⟩ := info_parts infoB
  have HAW := Lib.hid (awake_any w)
  have HL := Lib.hid hl
  have HB := Lib.hid hb
  have HNL := Lib.hid hA
  clear hl hb hA
  go_enter Try.func8, Try.ntmps8
  go_wp2_with fail
  refine HAW.out.mono ?_
  rintro e w1 ⟨rfl, hu⟩
  have HU := Lib.hid hu
  clear hu HAW
  go_upto_region 4 with fail
  by_cases h1 : (300 : Int) < (n : Int)
  · go_wp2
    exact bodyPost_res (v := .bool true) (by simp [results, Try.results8, go_sem]) rfl ⟨rfl, HU.out.below (Nat.le_refl _) (by simp)⟩
  by_cases h2 : (n : Int).tmod 4 = 0
  · by_cases h3 : k < 192
    · go_wp2
      exact bodyPost_res (v := .bool true) (by simp [results, Try.results8, go_sem]) rfl ⟨rfl, HU.out.below (Nat.le_refl _) (by simp)⟩
    by_cases h4 : 223 < k
    · go_wp2
      exact bodyPost_res (v := .bool true) (by simp [results, Try.results8, go_sem]) rfl ⟨rfl, HU.out.below (Nat.le_refl _) (by simp)⟩
    go_upto_region 8 with fail
    all_goals first
      | exact bodyPost_res (v := .bool true) (by simp [results, Try.results8, go_sem]) rfl ⟨rfl, HU.out.below (Nat.le_refl _) (by simp)⟩
      | skip
    · have hk6 : kindM 205 (cnt % 32) = 6 := (by unfold kindM; simp only [beq_eq_false_iff_ne, ne_eq] at *; (repeat' split) <;> omega)
      have h2' : (n : Int) % 4 = 0 := by rw [Int.tmod_eq_emod_of_nonneg (by omega)] at h2; exact h2
      have hlm : (l.map (Value.int .u8)).length = n * 1 := by rw [List.length_map, hll, Nat.mul_one]
      have HO : Hid ((w1.alloc (.cells #[.int .u8 (128 + cnt % 32), .int .u8 205, .int .u8 ((n : Int) / 4 / 256), .int .u8 ((n : Int) / 4)] 5)).ownsRow w.heap.size 5 1 (.slice (some ⟨w1.heap.size, 0, none⟩) 4 4) 4 [.int .u8 (128 + cnt % 32), .int .u8 205, .int .u8 ((n : Int) / 4 / 256), .int .u8 ((n : Int) / 4)]) :=
        Lib.hid (World.ownsRow_lit w1 #[.int .u8 (128 + cnt % 32), .int .u8 205, .int .u8 ((n : Int) / 4 / 256), .int .u8 ((n : Int) / 4)] 4 HU.out.size (by decide) rfl)
      have HS1 := Lib.hid (CellsIn.of_cells HL.out (HU.out.alloc (.cells #[.int .u8 (128 + cnt % 32), .int .u8 205, .int .u8 ((n : Int) / 4 / 256), .int .u8 ((n : Int) / 4)] 5))).src
      have HS2 : Hid (∀ u ∈ l.map (Value.int .u8), u.oneCell' = true) := Lib.hid (by intro u hu; obtain ⟨x, _, rfl⟩ := List.mem_map.1 hu; rfl)
      have HS3 : Hid (4 + n ≤ maxLen) := Lib.hid (by unfold maxLen; omega)
      have HS4 : Hid ((4 + n) * 1 ≤ 140737488355328) := Lib.hid (by omega)
      have HS5 : Hid (w.heap.size ≤ (w1.alloc (.cells #[.int .u8 (128 + cnt % 32), .int .u8 205, .int .u8 ((n : Int) / 4 / 256), .int .u8 ((n : Int) / 4)] 5)).heap.size) := Lib.hid (by have := HU.out.size; rw [World.size_alloc]; omega)
      go_wp2_with (at_builtin; refine wpList_append_src _ rfl (.tmp 78) (.tmp 79) 25 rfl w.heap.size 5 j0 _ 1 1 Try.underlying25 hj0 hy0 hy1 hy2 rfl (by decide) _ 4 _ rfl HO.out A n cap (l.map (Value.int .u8)) rfl HNL.out hlm HS1.out HS2.out HS3.out HS4.out HS5.out ?_)
      intro v4 w4 hown4 hg4 hat4
      obtain ⟨A4, c4, hv4, _⟩ := own_form hown4
      subst hv4
      have hl4 : 4 + n = ((128 + cnt % 32) :: 205 :: ((n : Int) / 4 / 256) :: ((n : Int) / 4) :: l).length := by simp only [List.length_cons]; omega
      have hb4 := grown_upd HO.out hg4 HS5.out
      have HB4 := Lib.hid (((HU.out.below (B := w.heap.size) (Nat.le_refl _) (by simp)).alloc HU.out.size _).trans hb4)
      rw [hl4] at hown4
      have hrow := RowIn.of_own (xs := (128 + cnt % 32) :: 205 :: ((n : Int) / 4 / 256) :: ((n : Int) / 4) :: l) (c := c4) hown4
      have HPA := Lib.hid (parse_one hrow (128 + cnt % 32) 205 ((n : Int) / 4 / 256) ((n : Int) / 4) l rfl (by omega) (by
          intro x hx
          simp only [List.mem_cons] at hx
          rcases hx with rfl | rfl | rfl | rfl | hx
          · omega
          · omega
          · omega
          · omega
          · exact HB.out x hx) (by omega) (by omega) (by rw [hll]; omega) ⟨6, 0, 0, 0, 0, 0, 0, [], [], [], [], 205⟩ hd0 (fun Wq lo' q hq hqx => by
        have hmod : (128 + cnt % 32) % 32 = cnt % 32 := by omega
        rw [hmod]
        exact read_other hq (by rw [hqx, hll]; omega) 205 (cnt % 32) hk6))
      unfold encR at HPA
      dsimp only [List.length_cons] at HPA
      rw [hll, show n + 1 + 1 + 1 + 1 = 4 + n by omega] at HPA
      clear hown4 hg4 hat4 hb4 hrow HO HL HB HNL hl4
      go_wp2_with fail
      refine HPA.out.mono ?_
      rintro e w5 ⟨v5, rfl, hown5, hu5⟩
      obtain ⟨A5, c5, hv5, _, ha5, _⟩ := own_form hown5
      subst hv5
      obtain ⟨g5, rfl, hg5, hg5'⟩ := ha5 (by decide)
      have HR5 := Lib.hid (hown5.cells (g := g5) rfl)
      have m0 : w5.cell? ⟨g5, 0, none⟩ = some (.int .i64 6) := HR5.out 0 _ rfl
      have m1 : w5.cell? ⟨g5, 1, none⟩ = some (.int .u32 0) := HR5.out 1 _ rfl
      have m2 : w5.cell? ⟨g5, 2, none⟩ = some (.int .u32 0) := HR5.out 2 _ rfl
      have m3 : w5.cell? ⟨g5, 3, none⟩ = some (.int .u64 0) := HR5.out 3 _ rfl
      have m4 : w5.cell? ⟨g5, 4, none⟩ = some (.int .u32 0) := HR5.out 4 _ rfl
      have m5 : w5.cell? ⟨g5, 5, none⟩ = some (.int .u32 0) := HR5.out 5 _ rfl
      have m6 : w5.cell? ⟨g5, 6, none⟩ = some (.int .u32 0) := HR5.out 6 _ rfl
      have m7 : w5.cell? ⟨g5, 7, none⟩ = some (.slice none 0 0) := HR5.out 7 _ rfl
      have m8 : w5.cell? ⟨g5, 8, none⟩ = some (.slice none 0 0) := HR5.out 8 _ rfl
      have m9 : w5.cell? ⟨g5, 9, none⟩ = some (.slice none 0 0) := HR5.out 9 _ rfl
      have m10 : w5.cell? ⟨g5, 10, none⟩ = some (.slice none 0 0) := HR5.out 10 _ rfl
      have m11 : w5.cell? ⟨g5, 11, none⟩ = some (.int .u8 205) := HR5.out 11 _ rfl
      have HB5 := Lib.hid (HB4.out.trans (hu5.below HB4.out.size (by simp)))
      clear hown5 hu5 HPA HB4 HU HR5
      go_wp2_with fail
      refine (of_other w5 205).mono ?_
      rintro e w6 ⟨rfl, hu6⟩
      go_wp2_with fail
      refine (same_other w6 205).mono ?_
      rintro e w7 ⟨rfl, hu7⟩
      have HB7 := Lib.hid (HB5.out.trans ((hu6.next hu7).below HB5.out.size (by simp)))
      clear hu6 hu7
      go_wp2
      exact bodyPost_res (v := .bool true) (by simp [results, Try.results8, go_sem]) rfl ⟨rfl, HB7.out⟩
    · have hk6 : kindM 206 (cnt % 32) = 6 := (by unfold kindM; simp only [beq_eq_false_iff_ne, ne_eq] at *; (repeat' split) <;> omega)
      have h2' : (n : Int) % 4 = 0 := by rw [Int.tmod_eq_emod_of_nonneg (by omega)] at h2; exact h2
      have hlm : (l.map (Value.int .u8)).length = n * 1 := by rw [List.length_map, hll, Nat.mul_one]
      have HO : Hid ((w1.alloc (.cells #[.int .u8 (128 + cnt % 32), .int .u8 206, .int .u8 ((n : Int) / 4 / 256), .int .u8 ((n : Int) / 4)] 5)).ownsRow w.heap.size 5 1 (.slice (some ⟨w1.heap.size, 0, none⟩) 4 4) 4 [.int .u8 (128 + cnt % 32), .int .u8 206, .int .u8 ((n : Int) / 4 / 256), .int .u8 ((n : Int) / 4)]) :=
        Lib.hid (World.ownsRow_lit w1 #[.int .u8 (128 + cnt % 32), .int .u8 206, .int .u8 ((n : Int) / 4 / 256), .int .u8 ((n : Int) / 4)] 4 HU.out.size (by decide) rfl)
      have HS1 := Lib.hid (CellsIn.of_cells HL.out (HU.out.alloc (.cells #[.int .u8 (128 + cnt % 32), .int .u8 206, .int .u8 ((n : Int) / 4 / 256), .int .u8 ((n : Int) / 4)] 5))).src
      have HS2 : Hid (∀ u ∈ l.map (Value.int .u8), u.oneCell' = true) := Lib.hid (by intro u hu; obtain ⟨x, _, rfl⟩ := List.mem_map.1 hu; rfl)
      have HS3 : Hid (4 + n ≤ maxLen) := Lib.hid (by unfold maxLen; omega)
      have HS4 : Hid ((4 + n) * 1 ≤ 140737488355328) := Lib.hid (by omega)
      have HS5 : Hid (w.heap.size ≤ (w1.alloc (.cells #[.int .u8 (128 + cnt % 32), .int .u8 206, .int .u8 ((n : Int) / 4 / 256), .int .u8 ((n : Int) / 4)] 5)).heap.size) := Lib.hid (by have := HU.out.size; rw [World.size_alloc]; omega)
      go_wp2_with (at_builtin; refine wpList_append_src _ rfl (.tmp 78) (.tmp 79) 25 rfl w.heap.size 5 j0 _ 1 1 Try.underlying25 hj0 hy0 hy1 hy2 rfl (by decide) _ 4 _ rfl HO.out A n cap (l.map (Value.int .u8)) rfl HNL.out hlm HS1.out HS2.out HS3.out HS4.out HS5.out ?_)
      intro v4 w4 hown4 hg4 hat4
      obtain ⟨A4, c4, hv4, _⟩ := own_form hown4
      subst hv4
      have hl4 : 4 + n = ((128 + cnt % 32) :: 206 :: ((n : Int) / 4 / 256) :: ((n : Int) / 4) :: l).length := by simp only [List.length_cons]; omega
      have hb4 := grown_upd HO.out hg4 HS5.out
      have HB4 := Lib.hid (((HU.out.below (B := w.heap.size) (Nat.le_refl _) (by simp)).alloc HU.out.size _).trans hb4)
      rw [hl4] at hown4
      have hrow := RowIn.of_own (xs := (128 + cnt % 32) :: 206 :: ((n : Int) / 4 / 256) :: ((n : Int) / 4) :: l) (c := c4) hown4
      have HPA := Lib.hid (parse_one hrow (128 + cnt % 32) 206 ((n : Int) / 4 / 256) ((n : Int) / 4) l rfl (by omega) (by
          intro x hx
          simp only [List.mem_cons] at hx
          rcases hx with rfl | rfl | rfl | rfl | hx
          · omega
          · omega
          · omega
          · omega
          · exact HB.out x hx) (by omega) (by omega) (by rw [hll]; omega) ⟨6, 0, 0, 0, 0, 0, 0, [], [], [], [], 206⟩ hd0 (fun Wq lo' q hq hqx => by
        have hmod : (128 + cnt % 32) % 32 = cnt % 32 := by omega
        rw [hmod]
        exact read_other hq (by rw [hqx, hll]; omega) 206 (cnt % 32) hk6))
      unfold encR at HPA
      dsimp only [List.length_cons] at HPA
      rw [hll, show n + 1 + 1 + 1 + 1 = 4 + n by omega] at HPA
      clear hown4 hg4 hat4 hb4 hrow HO HL HB HNL hl4
      go_wp2_with fail
      refine HPA.out.mono ?_
      rintro e w5 ⟨v5, rfl, hown5, hu5⟩
      obtain ⟨A5, c5, hv5, _, ha5, _⟩ := own_form hown5
      subst hv5
      obtain ⟨g5, rfl, hg5, hg5'⟩ := ha5 (by decide)
      have HR5 := Lib.hid (hown5.cells (g := g5) rfl)
      have m0 : w5.cell? ⟨g5, 0, none⟩ = some (.int .i64 6) := HR5.out 0 _ rfl
      have m1 : w5.cell? ⟨g5, 1, none⟩ = some (.int .u32 0) := HR5.out 1 _ rfl
      have m2 : w5.cell? ⟨g5, 2, none⟩ = some (.int .u32 0) := HR5.out 2 _ rfl
      have m3 : w5.cell? ⟨g5, 3, none⟩ = some (.int .u64 0) := HR5.out 3 _ rfl
      have m4 : w5.cell? ⟨g5, 4, none⟩ = some (.int .u32 0) := HR5.out 4 _ rfl
      have m5 : w5.cell? ⟨g5, 5, none⟩ = some (.int .u32 0) := HR5.out 5 _ rfl
      have m6 : w5.cell? ⟨g5, 6, none⟩ = some (.int .u32 0) := HR5.out 6 _ rfl
      have m7 : w5.cell? ⟨g5, 7, none⟩ = some (.slice none 0 0) := HR5.out 7 _ rfl
      have m8 : w5.cell? ⟨g5, 8, none⟩ = some (.slice none 0 0) := HR5.out 8 _ rfl
      have m9 : w5.cell? ⟨g5, 9, none⟩ = some (.slice none 0 0) := HR5.out 9 _ rfl
      have m10 : w5.cell? ⟨g5, 10, none⟩ = some (.slice none 0 0) := HR5.out 10 _ rfl
      have m11 : w5.cell? ⟨g5, 11, none⟩ = some (.int .u8 206) := HR5.out 11 _ rfl
      have HB5 := Lib.hid (HB4.out.trans (hu5.below HB4.out.size (by simp)))
      clear hown5 hu5 HPA HB4 HU HR5
      go_wp2_with fail
      refine (of_other w5 206).mono ?_
      rintro e w6 ⟨rfl, hu6⟩
      go_wp2_with fail
      refine (same_other w6 206).mono ?_
      rintro e w7 ⟨rfl, hu7⟩
      have HB7 := Lib.hid (HB5.out.trans ((hu6.next hu7).below HB5.out.size (by simp)))
      clear hu6 hu7
      go_wp2
      exact bodyPost_res (v := .bool true) (by simp [results, Try.results8, go_sem]) rfl ⟨rfl, HB7.out⟩
    · have hk6 : kindM k (cnt % 32) = 6 := (by unfold kindM; simp only [beq_eq_false_iff_ne, ne_eq] at *; (repeat' split) <;> omega)
      have h2' : (n : Int) % 4 = 0 := by rw [Int.tmod_eq_emod_of_nonneg (by omega)] at h2; exact h2
      have hlm : (l.map (Value.int .u8)).length = n * 1 := by rw [List.length_map, hll, Nat.mul_one]
      have HO : Hid ((w1.alloc (.cells #[.int .u8 (128 + cnt % 32), .int .u8 k, .int .u8 ((n : Int) / 4 / 256), .int .u8 ((n : Int) / 4)] 5)).ownsRow w.heap.size 5 1 (.slice (some ⟨w1.heap.size, 0, none⟩) 4 4) 4 [.int .u8 (128 + cnt % 32), .int .u8 k, .int .u8 ((n : Int) / 4 / 256), .int .u8 ((n : Int) / 4)]) :=
        Lib.hid (World.ownsRow_lit w1 #[.int .u8 (128 + cnt % 32), .int .u8 k, .int .u8 ((n : Int) / 4 / 256), .int .u8 ((n : Int) / 4)] 4 HU.out.size (by decide) rfl)
      have HS1 := Lib.hid (CellsIn.of_cells HL.out (HU.out.alloc (.cells #[.int .u8 (128 + cnt % 32), .int .u8 k, .int .u8 ((n : Int) / 4 / 256), .int .u8 ((n : Int) / 4)] 5))).src
      have HS2 : Hid (∀ u ∈ l.map (Value.int .u8), u.oneCell' = true) := Lib.hid (by intro u hu; obtain ⟨x, _, rfl⟩ := List.mem_map.1 hu; rfl)
      have HS3 : Hid (4 + n ≤ maxLen) := Lib.hid (by unfold maxLen; omega)
      have HS4 : Hid ((4 + n) * 1 ≤ 140737488355328) := Lib.hid (by omega)
      have HS5 : Hid (w.heap.size ≤ (w1.alloc (.cells #[.int .u8 (128 + cnt % 32), .int .u8 k, .int .u8 ((n : Int) / 4 / 256), .int .u8 ((n : Int) / 4)] 5)).heap.size) := Lib.hid (by have := HU.out.size; rw [World.size_alloc]; omega)
      go_wp2_with (at_builtin; refine wpList_append_src _ rfl (.tmp 78) (.tmp 79) 25 rfl w.heap.size 5 j0 _ 1 1 Try.underlying25 hj0 hy0 hy1 hy2 rfl (by decide) _ 4 _ rfl HO.out A n cap (l.map (Value.int .u8)) rfl HNL.out hlm HS1.out HS2.out HS3.out HS4.out HS5.out ?_)
      intro v4 w4 hown4 hg4 hat4
      obtain ⟨A4, c4, hv4, _⟩ := own_form hown4
      subst hv4
      have hl4 : 4 + n = ((128 + cnt % 32) :: k :: ((n : Int) / 4 / 256) :: ((n : Int) / 4) :: l).length := by simp only [List.length_cons]; omega
      have hb4 := grown_upd HO.out hg4 HS5.out
      have HB4 := Lib.hid (((HU.out.below (B := w.heap.size) (Nat.le_refl _) (by simp)).alloc HU.out.size _).trans hb4)
      rw [hl4] at hown4
      have hrow := RowIn.of_own (xs := (128 + cnt % 32) :: k :: ((n : Int) / 4 / 256) :: ((n : Int) / 4) :: l) (c := c4) hown4
      have HPA := Lib.hid (parse_one hrow (128 + cnt % 32) k ((n : Int) / 4 / 256) ((n : Int) / 4) l rfl (by omega) (by
          intro x hx
          simp only [List.mem_cons] at hx
          rcases hx with rfl | rfl | rfl | rfl | hx
          · omega
          · omega
          · omega
          · omega
          · exact HB.out x hx) (by omega) (by omega) (by rw [hll]; omega) ⟨6, 0, 0, 0, 0, 0, 0, [], [], [], [], k⟩ hd0 (fun Wq lo' q hq hqx => by
        have hmod : (128 + cnt % 32) % 32 = cnt % 32 := by omega
        rw [hmod]
        exact read_other hq (by rw [hqx, hll]; omega) k (cnt % 32) hk6))
      unfold encR at HPA
      dsimp only [List.length_cons] at HPA
      rw [hll, show n + 1 + 1 + 1 + 1 = 4 + n by omega] at HPA
      clear hown4 hg4 hat4 hb4 hrow HO HL HB HNL hl4
      go_wp2_with fail
      refine HPA.out.mono ?_
      rintro e w5 ⟨v5, rfl, hown5, hu5⟩
      obtain ⟨A5, c5, hv5, _, ha5, _⟩ := own_form hown5
      subst hv5
      obtain ⟨g5, rfl, hg5, hg5'⟩ := ha5 (by decide)
      have HR5 := Lib.hid (hown5.cells (g := g5) rfl)
      have m0 : w5.cell? ⟨g5, 0, none⟩ = some (.int .i64 6) := HR5.out 0 _ rfl
      have m1 : w5.cell? ⟨g5, 1, none⟩ = some (.int .u32 0) := HR5.out 1 _ rfl
      have m2 : w5.cell? ⟨g5, 2, none⟩ = some (.int .u32 0) := HR5.out 2 _ rfl
      have m3 : w5.cell? ⟨g5, 3, none⟩ = some (.int .u64 0) := HR5.out 3 _ rfl
      have m4 : w5.cell? ⟨g5, 4, none⟩ = some (.int .u32 0) := HR5.out 4 _ rfl
      have m5 : w5.cell? ⟨g5, 5, none⟩ = some (.int .u32 0) := HR5.out 5 _ rfl
      have m6 : w5.cell? ⟨g5, 6, none⟩ = some (.int .u32 0) := HR5.out 6 _ rfl
      have m7 : w5.cell? ⟨g5, 7, none⟩ = some (.slice none 0 0) := HR5.out 7 _ rfl
      have m8 : w5.cell? ⟨g5, 8, none⟩ = some (.slice none 0 0) := HR5.out 8 _ rfl
      have m9 : w5.cell? ⟨g5, 9, none⟩ = some (.slice none 0 0) := HR5.out 9 _ rfl
      have m10 : w5.cell? ⟨g5, 10, none⟩ = some (.slice none 0 0) := HR5.out 10 _ rfl
      have m11 : w5.cell? ⟨g5, 11, none⟩ = some (.int .u8 k) := HR5.out 11 _ rfl
      have HB5 := Lib.hid (HB4.out.trans (hu5.below HB4.out.size (by simp)))
      clear hown5 hu5 HPA HB4 HU HR5
      go_wp2_with fail
      refine (of_other w5 k).mono ?_
      rintro e w6 ⟨rfl, hu6⟩
      go_wp2_with fail
      refine (same_other w6 k).mono ?_
      rintro e w7 ⟨rfl, hu7⟩
      have HB7 := Lib.hid (HB5.out.trans ((hu6.next hu7).below HB5.out.size (by simp)))
      clear hu6 hu7
      go_wp2
      exact bodyPost_res (v := .bool true) (by simp [results, Try.results8, go_sem]) rfl ⟨rfl, HB7.out⟩
  · go_wp2
    exact bodyPost_res (v := .bool true) (by simp [results, Try.results8, go_sem]) rfl ⟨rfl, HU.out.below (Nat.le_refl _) (by simp)⟩
end Go.Proofs.Ytgkejdjdccgjbaa
