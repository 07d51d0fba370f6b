/- The document's board: Collect. Conditions: as before. -/
import Derived.Test.YtdcekgdihnlbpaaCRef4
namespace Go.Proofs.Ytdcekgdihnlbpaa
open Go Go.RowKit
set_option maxHeartbeats 400000
section
variable {w w' : World} {lo n k tc : Nat} {TA : Option Addr} {rows : List Rw} {S E L : Rw}

set_option maxRecDepth 100000 in
set_option maxHeartbeats 2000000 in
theorem rcollect_no (h : RB w lo n k TA tc rows S E L) (hx : S.xs.length = 0) :
    Calls Try.prog 19 #[.agg (bcells n k TA tc S E L)] w fun e w' => e = .returned (.tuple #[.agg (bcells n k TA tc S E L), .int .i64 0, .int .u64 0, .bool false]) ∧ Upd [] w w' := by
  clear h
  unfold bcells
  rw [hx]
  go_enter Try.func19, Try.ntmps19
  go_wp2
  exact bodyPost_res (v := .tuple #[.agg #[.slice TA n tc, .slice S.A 0 S.c, .slice E.A E.xs.length E.c, .slice L.A L.xs.length L.c, .int .i64 k], .int .i64 0, .int .u64 0, .bool false]) (by simp [results, Try.results19, go_sem]) rfl ⟨rfl, ((Upd.refl _ _).alloc _).alloc _⟩

set_option maxRecDepth 100000 in
set_option maxHeartbeats 4000000 in
theorem rcollect_yes (h : RB w lo n k TA tc rows S E L) (j : Nat) (ss : List Int) (e0 : Int) (es : List Int) (hS : S.xs = (j : Int) :: ss) (hE : E.xs = e0 :: es) (hj : j < n) :
    Calls Try.prog 19 #[.agg (bcells n k TA tc S E L)] w fun e w' => ∃ S' E' L', e = .returned (.tuple #[.agg (bcells n k TA tc S' E' L'), .int .i64 j, .int .u64 e0, .bool true]) ∧ S'.xs = ss ∧ E'.xs = es ∧ L'.xs = L.xs.set j e0 ∧
      RB w' lo n k TA tc rows S' E' L' ∧ Below w.heap.size w w' ∧ Kp S.A S'.A ∧ Kp E.A E'.A ∧ Fr w L'.A := by
  obtain ⟨j0, hj0, hy0, hy1, hy2⟩ := info_parts infoV
  have hn4 := h.n4
  obtain ⟨bs, os, hsA, hs1, hs2, hsc⟩ := h.s.at (by rw [hS]; simp)
  obtain ⟨be, oe, heA, he1, he2, hec⟩ := h.e.at (by rw [hE]; simp)
  have H := Lib.hid h
  obtain ⟨sA, sc, sx⟩ := S
  obtain ⟨eA, ec, ex⟩ := E
  dsimp only at hS hE hsA heA hsc hec
  subst hS
  subst hE
  subst hsA
  subst heA
  have x0 := hsc 0 _ rfl
  have y0 := hec 0 _ rfl
  rw [Nat.add_zero] at x0 y0
  have hll : L.xs.length = n := h.ll
  obtain ⟨ls, hls⟩ : ∃ ls, ls = L.xs.map (Value.int .u64) := ⟨_, rfl⟩
  have HLS := Lib.hid hls
  have CL : Hid (CellsIn w lo w.heap.size 1 L.A L.xs.length ls) := by rw [hls]; exact Lib.hid h.l.l
  have O1 : Hid (∀ u ∈ ls, u.oneCell' = true) := fun u hu => by rw [hls] at hu; obtain ⟨x, _, rfl⟩ := List.mem_map.1 hu; rfl
  have NL := Lib.hid h.l.nl
  have LL : Hid (ls.length = L.xs.length * 1) := CL.out.1
  have hle := h.s.le
  have hlm := h.s.cm
  have hee := h.e.le
  have hem := h.e.cm
  have hll4 : L.xs.length ≤ 4 := by omega
  have hjl : j < L.xs.length := by omega
  dsimp only [List.length_cons] at hle hlm hee hem
  have hjn : (0 : Int) ≤ (j : Int) := by omega
  clear h hsc hec hls hll
  unfold bcells
  go_enter Try.func19, Try.ntmps19
  go_wp2_with (at_builtin; refine wpList_append_src _ rfl (.tmp 22) (.tmp 24) 39 rfl (w.heap.size + 1 + 1) 30 j0 _ 1 8 Try.underlying39 hj0 hy0 hy1 hy2 rfl (by decide) (.slice none 0 0) 0 [] rfl (World.ownsRow_nil _ _ _ _) L.A L.xs.length L.c ls rfl NL.out LL.out ?s1 O1.out ?s3 ?s4 ?s5 ?_)
  case s1 => exact (CL.out.below (((Below.refl _ _).alloc (Nat.le_refl _) _).alloc (by simp) _) (Nat.le_refl _)).src
  case s3 => unfold maxLen; omega
  case s4 => omega
  case s5 => simp
  intro v1 w1 hown1 hg1 hat1
  obtain ⟨D0, D1, hsz0⟩ := two_blk w #[.slice TA n tc, .slice (some ⟨bs, os, none⟩) (ss.length + 1) sc, .slice (some ⟨be, oe, none⟩) (es.length + 1) ec, .slice L.A L.xs.length L.c, .int .i64 k] #[.slice none 0 0, .slice none 0 0, .slice none 0 0, .slice none 0 0, .int .i64 0] 41 41
  have hb1 := grown_upd (World.ownsRow_nil _ _ 30 1) hg1 (N := w.heap.size + 1 + 1) (by rw [hsz0]; exact Nat.le_refl _)
  have B1 := D0.below hb1 (by omega)
  have R1 := D1.below hb1 (by omega)
  have hs1' : w.heap.size + 1 + 1 ≤ w1.heap.size := by have := hb1.size; rw [hsz0] at this; exact this
  have hw1 : Below w.heap.size w w1 := (((Below.refl _ _).alloc (Nat.le_refl _) _).alloc (by simp) _).trans (hb1.mono (by omega))
  obtain ⟨A3, c3, hv3, hcap3, hA3, hnl3⟩ := own_form hown1
  obtain ⟨g, hg, hgN, hgl⟩ := hA3 (by omega)
  subst hg
  subst hv3
  have hcm3 := own_cap hown1
  have r0 := hown1.cellAt j (by omega)
  have rf0 := hown1.frozenAt j
  obtain ⟨z, hz⟩ : ∃ z, ls[j]? = some z := ⟨_, List.getElem?_eq_getElem (by have := LL.out; omega)⟩
  rw [hz] at r0
  have c00 := B1.cell 0
  have c01 := B1.cell 1
  have c02 := B1.cell 2
  have c03 := B1.cell 3
  have c04 := B1.cell 4
  have g01 := B1.frozen 1
  have g02 := B1.frozen 2
  have g03 := B1.frozen 3
  have c10 := R1.cell 0
  have c11 := R1.cell 1
  have c12 := R1.cell 2
  have c13 := R1.cell 3
  have c14 := R1.cell 4
  have g10 := R1.frozen 0
  have g11 := R1.frozen 1
  have g12 := R1.frozen 2
  have g13 := R1.frozen 3
  have g14 := R1.frozen 4
  simp only [List.getElem?_toArray, List.getElem?_cons_zero, List.getElem?_cons_succ] at c00 c01 c02 c03 c04 c10 c11 c12 c13 c14
  have n0 : g ≠ w.heap.size := by omega
  have n1 : g ≠ w.heap.size + 1 := by omega
  have hgl0 : w.heap.size < w1.heap.size := by omega
  have hgl1 : w.heap.size + 1 < w1.heap.size := by omega
  have HO := Lib.hid hown1
  have HB := Lib.hid hw1
  clear hown1 hg1 hat1 hb1 B1 R1 D0 D1 hA3 hnl3 hz x0 y0 hw1 hsz0
  by_cases hc1 : sc = 1 <;> by_cases hc2 : ec = 1
  · obtain rfl : ss = [] := by cases ss with
      | nil => rfl
      | cons a l => simp at hle; omega
    subst hc1
    obtain rfl : es = [] := by cases es with
      | nil => rfl
      | cons a l => simp at hee; omega
    subst hc2
    go_wp2
    have s1 := (HO.out.stored j (.int .u64 e0)).1
    have hu : Upd [w.heap.size, w.heap.size + 1] (w1.setCell ⟨g, j, none⟩ (.int .u64 e0)) (((((((((w1.setCell ⟨g, j, none⟩ (.int .u64 e0)).setCell ⟨w.heap.size, 3, none⟩ (.slice (some ⟨g, 0, none⟩) L.xs.length c3)).setCell ⟨w.heap.size, 1, none⟩ (.slice (some ⟨bs, os, none⟩) 0 0)).setCell ⟨w.heap.size, 2, none⟩ (.slice (some ⟨be, oe, none⟩) 0 0)).setCell ⟨w.heap.size + 1, 0, none⟩ (.slice TA n tc)).setCell ⟨w.heap.size + 1, 1, none⟩ (.slice (some ⟨bs, os, none⟩) 0 0)).setCell ⟨w.heap.size + 1, 2, none⟩ (.slice (some ⟨be, oe, none⟩) 0 0)).setCell ⟨w.heap.size + 1, 3, none⟩ (.slice (some ⟨g, 0, none⟩) L.xs.length c3)).setCell ⟨w.heap.size + 1, 4, none⟩ (.int .i64 k)) :=
      ((((((((Upd.refl _ _).setCell (by simp) _).setCell (by simp) _).setCell (by simp) _).setCell (by simp) _).setCell (by simp) _).setCell (by simp) _).setCell (by simp) _).setCell (by simp) _
    have hbf : Below w.heap.size w (((((((((w1.setCell ⟨g, j, none⟩ (.int .u64 e0)).setCell ⟨w.heap.size, 3, none⟩ (.slice (some ⟨g, 0, none⟩) L.xs.length c3)).setCell ⟨w.heap.size, 1, none⟩ (.slice (some ⟨bs, os, none⟩) 0 0)).setCell ⟨w.heap.size, 2, none⟩ (.slice (some ⟨be, oe, none⟩) 0 0)).setCell ⟨w.heap.size + 1, 0, none⟩ (.slice TA n tc)).setCell ⟨w.heap.size + 1, 1, none⟩ (.slice (some ⟨bs, os, none⟩) 0 0)).setCell ⟨w.heap.size + 1, 2, none⟩ (.slice (some ⟨be, oe, none⟩) 0 0)).setCell ⟨w.heap.size + 1, 3, none⟩ (.slice (some ⟨g, 0, none⟩) L.xs.length c3)).setCell ⟨w.heap.size + 1, 4, none⟩ (.int .i64 k)) :=
      (HB.out.setCell (p := ⟨g, j, none⟩) (by show _ ≤ g; omega) _).trans (hu.below (by have := HB.out.size; simpa [World.setCell] using this) (by simp))
    have hrs : RowIn w lo .i64 ⟨(some ⟨bs, os, none⟩), 0, []⟩ := ⟨CellsIn.nil _ _ _ _ _, (fun e => by cases e), Nat.le_refl _, by simp⟩
    have hre : RowIn w lo .u64 ⟨(some ⟨be, oe, none⟩), 0, []⟩ := ⟨CellsIn.nil _ _ _ _ _, (fun e => by cases e), Nat.le_refl _, by simp⟩
    have hek : (L.xs.set j e0).map (Value.int .u64) = ls.set j (.int .u64 e0) := by rw [HLS.out, List.map_set]
    rw [← hek] at s1
    have hl5 : (L.xs.set j e0).length = L.xs.length := List.length_set
    refine bodyPost_res (v := .tuple #[.agg #[.slice TA n tc, (.slice (some ⟨bs, os, none⟩) 0 0), (.slice (some ⟨be, oe, none⟩) 0 0), (.slice (some ⟨g, 0, none⟩) L.xs.length c3), .int .i64 k], .int .i64 j, .int .u64 e0, .bool true]) (by simp [results, Try.results19, go_sem, c00, c01, c02, c03, c04, c10, c11, c12, c13, c14, n0, n1]) rfl ⟨⟨(some ⟨bs, os, none⟩), 0, []⟩, ⟨(some ⟨be, oe, none⟩), 0, []⟩, ⟨some ⟨g, 0, none⟩, c3, L.xs.set j e0⟩, by simp [bcells, hl5], rfl, rfl, rfl, ?_, hbf, Kp.some, Kp.some, Fr.some (by omega)⟩
    have hR := H.out.below hbf
    have hse := H.out.se
    have hsm := H.out.sm
    dsimp only [List.length_cons] at hse hsm
    refine { hR with s := hrs.below hbf, e := hre.below hbf, l := ⟨?_, (fun e => by cases e), ?_, hcm3⟩, se := ?_, sm := ?_, ll := ?_ }
    · dsimp only; rw [hl5]; exact ((CellsIn.of_own s1).upd hu (Nat.le_refl _) (fun s hs => .inl (by simp at hs; omega))).more (by have := H.out.low; omega) hu.size
    · dsimp only; rw [hl5]; exact hcap3
    · first | rfl | omega | (dsimp only [List.length_nil] at hse ⊢; omega) | (simp at hse ⊢; omega) | (simp at hse ⊢; exact hse)
    · first | omega | (dsimp only [List.length_nil] at hsm ⊢; first | done | omega) | (simp at hsm ⊢; omega)
    · dsimp only; rw [hl5]; exact H.out.ll
  · obtain rfl : ss = [] := by cases ss with
      | nil => rfl
      | cons a l => simp at hle; omega
    subst hc1
    have hc2' : 1 < ec := by omega
    go_wp2
    have s1 := (HO.out.stored j (.int .u64 e0)).1
    have hu : Upd [w.heap.size, w.heap.size + 1] (w1.setCell ⟨g, j, none⟩ (.int .u64 e0)) (((((((((w1.setCell ⟨g, j, none⟩ (.int .u64 e0)).setCell ⟨w.heap.size, 3, none⟩ (.slice (some ⟨g, 0, none⟩) L.xs.length c3)).setCell ⟨w.heap.size, 1, none⟩ (.slice (some ⟨bs, os, none⟩) 0 0)).setCell ⟨w.heap.size, 2, none⟩ (.slice (some ⟨be, oe + 1, none⟩) es.length (ec - 1))).setCell ⟨w.heap.size + 1, 0, none⟩ (.slice TA n tc)).setCell ⟨w.heap.size + 1, 1, none⟩ (.slice (some ⟨bs, os, none⟩) 0 0)).setCell ⟨w.heap.size + 1, 2, none⟩ (.slice (some ⟨be, oe + 1, none⟩) es.length (ec - 1))).setCell ⟨w.heap.size + 1, 3, none⟩ (.slice (some ⟨g, 0, none⟩) L.xs.length c3)).setCell ⟨w.heap.size + 1, 4, none⟩ (.int .i64 k)) :=
      ((((((((Upd.refl _ _).setCell (by simp) _).setCell (by simp) _).setCell (by simp) _).setCell (by simp) _).setCell (by simp) _).setCell (by simp) _).setCell (by simp) _).setCell (by simp) _
    have hbf : Below w.heap.size w (((((((((w1.setCell ⟨g, j, none⟩ (.int .u64 e0)).setCell ⟨w.heap.size, 3, none⟩ (.slice (some ⟨g, 0, none⟩) L.xs.length c3)).setCell ⟨w.heap.size, 1, none⟩ (.slice (some ⟨bs, os, none⟩) 0 0)).setCell ⟨w.heap.size, 2, none⟩ (.slice (some ⟨be, oe + 1, none⟩) es.length (ec - 1))).setCell ⟨w.heap.size + 1, 0, none⟩ (.slice TA n tc)).setCell ⟨w.heap.size + 1, 1, none⟩ (.slice (some ⟨bs, os, none⟩) 0 0)).setCell ⟨w.heap.size + 1, 2, none⟩ (.slice (some ⟨be, oe + 1, none⟩) es.length (ec - 1))).setCell ⟨w.heap.size + 1, 3, none⟩ (.slice (some ⟨g, 0, none⟩) L.xs.length c3)).setCell ⟨w.heap.size + 1, 4, none⟩ (.int .i64 k)) :=
      (HB.out.setCell (p := ⟨g, j, none⟩) (by show _ ≤ g; omega) _).trans (hu.below (by have := HB.out.size; simpa [World.setCell] using this) (by simp))
    have hrs : RowIn w lo .i64 ⟨(some ⟨bs, os, none⟩), 0, []⟩ := ⟨CellsIn.nil _ _ _ _ _, (fun e => by cases e), Nat.le_refl _, by simp⟩
    have hre : RowIn w lo .u64 ⟨(some ⟨be, oe + 1, none⟩), (ec - 1), es⟩ := H.out.e.tail
    have hek : (L.xs.set j e0).map (Value.int .u64) = ls.set j (.int .u64 e0) := by rw [HLS.out, List.map_set]
    rw [← hek] at s1
    have hl5 : (L.xs.set j e0).length = L.xs.length := List.length_set
    refine bodyPost_res (v := .tuple #[.agg #[.slice TA n tc, (.slice (some ⟨bs, os, none⟩) 0 0), (.slice (some ⟨be, oe + 1, none⟩) es.length (ec - 1)), (.slice (some ⟨g, 0, none⟩) L.xs.length c3), .int .i64 k], .int .i64 j, .int .u64 e0, .bool true]) (by simp [results, Try.results19, go_sem, c00, c01, c02, c03, c04, c10, c11, c12, c13, c14, n0, n1]) rfl ⟨⟨(some ⟨bs, os, none⟩), 0, []⟩, ⟨(some ⟨be, oe + 1, none⟩), (ec - 1), es⟩, ⟨some ⟨g, 0, none⟩, c3, L.xs.set j e0⟩, by simp [bcells, hl5], rfl, rfl, rfl, ?_, hbf, Kp.some, Kp.some, Fr.some (by omega)⟩
    have hR := H.out.below hbf
    have hse := H.out.se
    have hsm := H.out.sm
    dsimp only [List.length_cons] at hse hsm
    refine { hR with s := hrs.below hbf, e := hre.below hbf, l := ⟨?_, (fun e => by cases e), ?_, hcm3⟩, se := ?_, sm := ?_, ll := ?_ }
    · dsimp only; rw [hl5]; exact ((CellsIn.of_own s1).upd hu (Nat.le_refl _) (fun s hs => .inl (by simp at hs; omega))).more (by have := H.out.low; omega) hu.size
    · dsimp only; rw [hl5]; exact hcap3
    · first | rfl | omega | (dsimp only [List.length_nil] at hse ⊢; omega) | (simp at hse ⊢; omega) | (simp at hse ⊢; exact hse)
    · first | omega | (dsimp only [List.length_nil] at hsm ⊢; first | done | omega) | (simp at hsm ⊢; omega)
    · dsimp only; rw [hl5]; exact H.out.ll
  · have hc1' : 1 < sc := by omega
    obtain rfl : es = [] := by cases es with
      | nil => rfl
      | cons a l => simp at hee; omega
    subst hc2
    go_wp2
    have s1 := (HO.out.stored j (.int .u64 e0)).1
    have hu : Upd [w.heap.size, w.heap.size + 1] (w1.setCell ⟨g, j, none⟩ (.int .u64 e0)) (((((((((w1.setCell ⟨g, j, none⟩ (.int .u64 e0)).setCell ⟨w.heap.size, 3, none⟩ (.slice (some ⟨g, 0, none⟩) L.xs.length c3)).setCell ⟨w.heap.size, 1, none⟩ (.slice (some ⟨bs, os + 1, none⟩) ss.length (sc - 1))).setCell ⟨w.heap.size, 2, none⟩ (.slice (some ⟨be, oe, none⟩) 0 0)).setCell ⟨w.heap.size + 1, 0, none⟩ (.slice TA n tc)).setCell ⟨w.heap.size + 1, 1, none⟩ (.slice (some ⟨bs, os + 1, none⟩) ss.length (sc - 1))).setCell ⟨w.heap.size + 1, 2, none⟩ (.slice (some ⟨be, oe, none⟩) 0 0)).setCell ⟨w.heap.size + 1, 3, none⟩ (.slice (some ⟨g, 0, none⟩) L.xs.length c3)).setCell ⟨w.heap.size + 1, 4, none⟩ (.int .i64 k)) :=
      ((((((((Upd.refl _ _).setCell (by simp) _).setCell (by simp) _).setCell (by simp) _).setCell (by simp) _).setCell (by simp) _).setCell (by simp) _).setCell (by simp) _).setCell (by simp) _
    have hbf : Below w.heap.size w (((((((((w1.setCell ⟨g, j, none⟩ (.int .u64 e0)).setCell ⟨w.heap.size, 3, none⟩ (.slice (some ⟨g, 0, none⟩) L.xs.length c3)).setCell ⟨w.heap.size, 1, none⟩ (.slice (some ⟨bs, os + 1, none⟩) ss.length (sc - 1))).setCell ⟨w.heap.size, 2, none⟩ (.slice (some ⟨be, oe, none⟩) 0 0)).setCell ⟨w.heap.size + 1, 0, none⟩ (.slice TA n tc)).setCell ⟨w.heap.size + 1, 1, none⟩ (.slice (some ⟨bs, os + 1, none⟩) ss.length (sc - 1))).setCell ⟨w.heap.size + 1, 2, none⟩ (.slice (some ⟨be, oe, none⟩) 0 0)).setCell ⟨w.heap.size + 1, 3, none⟩ (.slice (some ⟨g, 0, none⟩) L.xs.length c3)).setCell ⟨w.heap.size + 1, 4, none⟩ (.int .i64 k)) :=
      (HB.out.setCell (p := ⟨g, j, none⟩) (by show _ ≤ g; omega) _).trans (hu.below (by have := HB.out.size; simpa [World.setCell] using this) (by simp))
    have hrs : RowIn w lo .i64 ⟨(some ⟨bs, os + 1, none⟩), (sc - 1), ss⟩ := H.out.s.tail
    have hre : RowIn w lo .u64 ⟨(some ⟨be, oe, none⟩), 0, []⟩ := ⟨CellsIn.nil _ _ _ _ _, (fun e => by cases e), Nat.le_refl _, by simp⟩
    have hek : (L.xs.set j e0).map (Value.int .u64) = ls.set j (.int .u64 e0) := by rw [HLS.out, List.map_set]
    rw [← hek] at s1
    have hl5 : (L.xs.set j e0).length = L.xs.length := List.length_set
    refine bodyPost_res (v := .tuple #[.agg #[.slice TA n tc, (.slice (some ⟨bs, os + 1, none⟩) ss.length (sc - 1)), (.slice (some ⟨be, oe, none⟩) 0 0), (.slice (some ⟨g, 0, none⟩) L.xs.length c3), .int .i64 k], .int .i64 j, .int .u64 e0, .bool true]) (by simp [results, Try.results19, go_sem, c00, c01, c02, c03, c04, c10, c11, c12, c13, c14, n0, n1]) rfl ⟨⟨(some ⟨bs, os + 1, none⟩), (sc - 1), ss⟩, ⟨(some ⟨be, oe, none⟩), 0, []⟩, ⟨some ⟨g, 0, none⟩, c3, L.xs.set j e0⟩, by simp [bcells, hl5], rfl, rfl, rfl, ?_, hbf, Kp.some, Kp.some, Fr.some (by omega)⟩
    have hR := H.out.below hbf
    have hse := H.out.se
    have hsm := H.out.sm
    dsimp only [List.length_cons] at hse hsm
    refine { hR with s := hrs.below hbf, e := hre.below hbf, l := ⟨?_, (fun e => by cases e), ?_, hcm3⟩, se := ?_, sm := ?_, ll := ?_ }
    · dsimp only; rw [hl5]; exact ((CellsIn.of_own s1).upd hu (Nat.le_refl _) (fun s hs => .inl (by simp at hs; omega))).more (by have := H.out.low; omega) hu.size
    · dsimp only; rw [hl5]; exact hcap3
    · first | rfl | omega | (dsimp only [List.length_nil] at hse ⊢; omega) | (simp at hse ⊢; omega) | (simp at hse ⊢; exact hse)
    · first | omega | (dsimp only [List.length_nil] at hsm ⊢; first | done | omega) | (simp at hsm ⊢; omega)
    · dsimp only; rw [hl5]; exact H.out.ll
  · have hc1' : 1 < sc := by omega
    have hc2' : 1 < ec := by omega
    go_wp2
    have s1 := (HO.out.stored j (.int .u64 e0)).1
    have hu : Upd [w.heap.size, w.heap.size + 1] (w1.setCell ⟨g, j, none⟩ (.int .u64 e0)) (((((((((w1.setCell ⟨g, j, none⟩ (.int .u64 e0)).setCell ⟨w.heap.size, 3, none⟩ (.slice (some ⟨g, 0, none⟩) L.xs.length c3)).setCell ⟨w.heap.size, 1, none⟩ (.slice (some ⟨bs, os + 1, none⟩) ss.length (sc - 1))).setCell ⟨w.heap.size, 2, none⟩ (.slice (some ⟨be, oe + 1, none⟩) es.length (ec - 1))).setCell ⟨w.heap.size + 1, 0, none⟩ (.slice TA n tc)).setCell ⟨w.heap.size + 1, 1, none⟩ (.slice (some ⟨bs, os + 1, none⟩) ss.length (sc - 1))).setCell ⟨w.heap.size + 1, 2, none⟩ (.slice (some ⟨be, oe + 1, none⟩) es.length (ec - 1))).setCell ⟨w.heap.size + 1, 3, none⟩ (.slice (some ⟨g, 0, none⟩) L.xs.length c3)).setCell ⟨w.heap.size + 1, 4, none⟩ (.int .i64 k)) :=
      ((((((((Upd.refl _ _).setCell (by simp) _).setCell (by simp) _).setCell (by simp) _).setCell (by simp) _).setCell (by simp) _).setCell (by simp) _).setCell (by simp) _).setCell (by simp) _
    have hbf : Below w.heap.size w (((((((((w1.setCell ⟨g, j, none⟩ (.int .u64 e0)).setCell ⟨w.heap.size, 3, none⟩ (.slice (some ⟨g, 0, none⟩) L.xs.length c3)).setCell ⟨w.heap.size, 1, none⟩ (.slice (some ⟨bs, os + 1, none⟩) ss.length (sc - 1))).setCell ⟨w.heap.size, 2, none⟩ (.slice (some ⟨be, oe + 1, none⟩) es.length (ec - 1))).setCell ⟨w.heap.size + 1, 0, none⟩ (.slice TA n tc)).setCell ⟨w.heap.size + 1, 1, none⟩ (.slice (some ⟨bs, os + 1, none⟩) ss.length (sc - 1))).setCell ⟨w.heap.size + 1, 2, none⟩ (.slice (some ⟨be, oe + 1, none⟩) es.length (ec - 1))).setCell ⟨w.heap.size + 1, 3, none⟩ (.slice (some ⟨g, 0, none⟩) L.xs.length c3)).setCell ⟨w.heap.size + 1, 4, none⟩ (.int .i64 k)) :=
      (HB.out.setCell (p := ⟨g, j, none⟩) (by show _ ≤ g; omega) _).trans (hu.below (by have := HB.out.size; simpa [World.setCell] using this) (by simp))
    have hrs : RowIn w lo .i64 ⟨(some ⟨bs, os + 1, none⟩), (sc - 1), ss⟩ := H.out.s.tail
    have hre : RowIn w lo .u64 ⟨(some ⟨be, oe + 1, none⟩), (ec - 1), es⟩ := H.out.e.tail
    have hek : (L.xs.set j e0).map (Value.int .u64) = ls.set j (.int .u64 e0) := by rw [HLS.out, List.map_set]
    rw [← hek] at s1
    have hl5 : (L.xs.set j e0).length = L.xs.length := List.length_set
    refine bodyPost_res (v := .tuple #[.agg #[.slice TA n tc, (.slice (some ⟨bs, os + 1, none⟩) ss.length (sc - 1)), (.slice (some ⟨be, oe + 1, none⟩) es.length (ec - 1)), (.slice (some ⟨g, 0, none⟩) L.xs.length c3), .int .i64 k], .int .i64 j, .int .u64 e0, .bool true]) (by simp [results, Try.results19, go_sem, c00, c01, c02, c03, c04, c10, c11, c12, c13, c14, n0, n1]) rfl ⟨⟨(some ⟨bs, os + 1, none⟩), (sc - 1), ss⟩, ⟨(some ⟨be, oe + 1, none⟩), (ec - 1), es⟩, ⟨some ⟨g, 0, none⟩, c3, L.xs.set j e0⟩, by simp [bcells, hl5], rfl, rfl, rfl, ?_, hbf, Kp.some, Kp.some, Fr.some (by omega)⟩
    have hR := H.out.below hbf
    have hse := H.out.se
    have hsm := H.out.sm
    dsimp only [List.length_cons] at hse hsm
    refine { hR with s := hrs.below hbf, e := hre.below hbf, l := ⟨?_, (fun e => by cases e), ?_, hcm3⟩, se := ?_, sm := ?_, ll := ?_ }
    · dsimp only; rw [hl5]; exact ((CellsIn.of_own s1).upd hu (Nat.le_refl _) (fun s hs => .inl (by simp at hs; omega))).more (by have := H.out.low; omega) hu.size
    · dsimp only; rw [hl5]; exact hcap3
    · first | rfl | omega | (dsimp only [List.length_nil] at hse ⊢; omega) | (simp at hse ⊢; omega) | (simp at hse ⊢; exact hse)
    · first | omega | (dsimp only [List.length_nil] at hsm ⊢; first | done | omega) | (simp at hsm ⊢; omega)
    · dsimp only; rw [hl5]; exact H.out.ll
end
end Go.Proofs.Ytdcekgdihnlbpaa
