/- RtcpCuts: the walk. -/
import Derived.Test.YtgkejdjdccgjbaaParseE
import Derived.Test.YtgkejdjdccgjbaaRAwake
import Derived.Test.YtgkejdjdccgjbaaMsg
namespace Go.Proofs.Ytgkejdjdccgjbaa
open Go Go.RowKit
set_option maxHeartbeats 400000

theorem row_stored {w : World} {N g c : Nat} {xs : List Int} {x y : Int} {t : TypeId} (h : w.ownsRow N t 1 (.slice (some ⟨g, 0, none⟩) (x :: xs).length c) (x :: xs).length ((x :: xs).map (Value.int .u8))) :
    (w.setCell ⟨g, 0, none⟩ (.int .u8 y)).ownsRow N t 1 (.slice (some ⟨g, 0, none⟩) (y :: xs).length c) (y :: xs).length ((y :: xs).map (Value.int .u8)) := by
  have := (h.stored 0 (.int .u8 y)).1
  simpa using this
set_option maxRecDepth 100000 in
set_option maxHeartbeats 4000000 in
theorem cuts_any (A : Option Addr) (cap : Nat) (ms : List (Mg × Hd)) (at' : Int) (w : World) (ha0 : 0 ≤ at') (ha1 : at' ≤ 65535) (hlc : ms.length ≤ cap) (hcm : cap ≤ 9223372036854775807)
    (hl : CellsIn w 0 w.heap.size 12 A ms.length (ms.flatMap encM)) (hm : ∀ x, x ∈ ms → MgIn w 0 x.1 x.2 ∧ x.1.Num) :
    Calls Try.prog 6 #[.slice A ms.length cap, .int .u16 at'] w fun e w' => e = .returned (.bool true) ∧ Below w.heap.size w w' := by
  have HAW := Lib.hid (awake_any w)
  have HL := Lib.hid hl
  have HM := Lib.hid hm
  obtain ⟨L, hLe⟩ : ∃ L, L = ms.length := ⟨_, rfl⟩
  have HLE := Lib.hid hLe
  rw [← hLe] at hlc ⊢
  clear hl hm hLe
  go_enter Try.func6, Try.ntmps6
  go_wp2_with fail
  refine HAW.out.mono ?_
  rintro e w1 ⟨rfl, hu⟩
  have HC1 := Lib.hid (HL.out.upd hu (Nat.le_refl _) (by simp))
  have HF := Lib.hid (few_any (cap := cap) (HC1.out.more (Nat.le_refl _) hu.size) (by rw [← HLE.out]; omega))
  rw [← HLE.out] at HF
  have HU := Lib.hid hu
  clear hu HAW
  go_wp2_with fail
  refine HF.out.mono ?_
  rintro e w2 ⟨rfl, rfl⟩
  clear HF
  obtain ⟨fw, hfw⟩ : ∃ fw, fw = fewM (ms.map (·.1)) := ⟨_, rfl⟩
  rw [← hfw]
  have HFW := Lib.hid hfw
  clear hfw
  cases fw with
  | false =>
    go_wp2
    exact bodyPost_res (v := .bool true) (by simp [results, Try.results6, go_sem]) rfl ⟨rfl, HU.out.below (Nat.le_refl _) (by simp)⟩
  | true =>
  by_cases hL0 : L = 0
  · subst hL0
    go_wp2
    exact bodyPost_res (v := .bool true) (by simp [results, Try.results6, go_sem]) rfl ⟨rfl, HU.out.below (Nat.le_refl _) (by simp)⟩
  have hL0' : ¬ (L : Int) = 0 := by omega
  have hLp : (0 : Int) < (L : Int) := by omega
  obtain ⟨hok, h12⟩ := fewM_ok HFW.out.symm (fun x hx => (HM.out x hx).2)
  have HMI := Lib.hid (fun x hx => (⟨((HM.out x hx).1.below (HU.out.below (Nat.le_refl _) (by simp))), hok x hx⟩ : MgIn w2 0 x.1 x.2 ∧ x.1.Ok))
  have hC2 := HC1.out.more (Nat.le_refl _) HU.out.size
  have HPT := Lib.hid (put_any (cap := cap) hC2 HMI.out (by omega))
  obtain ⟨⟨m0, h0⟩, rest, rfl⟩ : ∃ x r, ms = x :: r := by
    cases ms with
    | nil => have := HLE.out; simp at this; omega
    | cons x r => exact ⟨x, r, rfl⟩
  obtain ⟨b, off, rfl, hb1, hb2, hcc⟩ := HC1.out.2 (by simp)
  have hlt2 : b < w2.heap.size := Nat.lt_of_lt_of_le hb2 HU.out.size
  have HCC := Lib.hid (fun (j : Nat) (hj : j < 12) (u : Value) (hu : (encM (m0, h0))[j]? = some u) => (by
    have := hcc (0 * 12 + j) u ((flat_get encM_len ((m0, h0) :: rest) 0 j (m0, h0) rfl hj).trans hu)
    rwa [Nat.zero_mul, Nat.zero_add] at this : w2.cell? ⟨b, off + j, none⟩ = some u))
  have HP := Lib.hid (HMI.out (m0, h0) (by simp))
  have hUL : ((m0, h0) :: rest).length = L := HLE.out.symm
  rw [hUL] at HPT
  simp only [List.map_cons] at HPT
  clear hcc hok hC2 HC1 HL HM hUL
  go_wp2_with fail
  refine HPT.out.mono ?_
  rintro e w3 ⟨vb, rfl, hown, hbel⟩
  have hu3 : Upd [] w2 w3 := Upd.of_below hbel
  have c0 : w3.cell? ⟨b, off, none⟩ = some (.int .i64 m0.kind) := (hu3.cell (p := ⟨b, off, none⟩) hlt2 (by simp)).trans (HCC.out 0 (by omega) _ rfl)
  have c1 : w3.cell? ⟨b, off + 1, none⟩ = some (.int .u32 m0.ssrc) := (hu3.cell (p := ⟨b, off + 1, none⟩) hlt2 (by simp)).trans (HCC.out 1 (by omega) _ rfl)
  have c2 : w3.cell? ⟨b, off + 2, none⟩ = some (.int .u32 m0.media) := (hu3.cell (p := ⟨b, off + 2, none⟩) hlt2 (by simp)).trans (HCC.out 2 (by omega) _ rfl)
  have c3 : w3.cell? ⟨b, off + 3, none⟩ = some (.int .u64 m0.clock) := (hu3.cell (p := ⟨b, off + 3, none⟩) hlt2 (by simp)).trans (HCC.out 3 (by omega) _ rfl)
  have c4 : w3.cell? ⟨b, off + 4, none⟩ = some (.int .u32 m0.time) := (hu3.cell (p := ⟨b, off + 4, none⟩) hlt2 (by simp)).trans (HCC.out 4 (by omega) _ rfl)
  have c5 : w3.cell? ⟨b, off + 5, none⟩ = some (.int .u32 m0.packets) := (hu3.cell (p := ⟨b, off + 5, none⟩) hlt2 (by simp)).trans (HCC.out 5 (by omega) _ rfl)
  have c6 : w3.cell? ⟨b, off + 6, none⟩ = some (.int .u32 m0.bytes) := (hu3.cell (p := ⟨b, off + 6, none⟩) hlt2 (by simp)).trans (HCC.out 6 (by omega) _ rfl)
  have c7 : w3.cell? ⟨b, off + 7, none⟩ = some (.slice h0.rA m0.reports.length h0.rc) := (hu3.cell (p := ⟨b, off + 7, none⟩) hlt2 (by simp)).trans (HCC.out 7 (by omega) _ rfl)
  have c8 : w3.cell? ⟨b, off + 8, none⟩ = some (.slice h0.wA m0.who.length h0.wc) := (hu3.cell (p := ⟨b, off + 8, none⟩) hlt2 (by simp)).trans (HCC.out 8 (by omega) _ rfl)
  have c9 : w3.cell? ⟨b, off + 9, none⟩ = some (.slice h0.pA m0.pairs.length h0.pc) := (hu3.cell (p := ⟨b, off + 9, none⟩) hlt2 (by simp)).trans (HCC.out 9 (by omega) _ rfl)
  have c10 : w3.cell? ⟨b, off + 10, none⟩ = some (.slice h0.aA m0.asks.length h0.ac) := (hu3.cell (p := ⟨b, off + 10, none⟩) hlt2 (by simp)).trans (HCC.out 10 (by omega) _ rfl)
  have c11 : w3.cell? ⟨b, off + 11, none⟩ = some (.int .u8 m0.type) := (hu3.cell (p := ⟨b, off + 11, none⟩) hlt2 (by simp)).trans (HCC.out 11 (by omega) _ rfl)
  obtain ⟨W4, hW4⟩ : ∃ W4, W4 = w3.alloc (.cells #[.int .i64 m0.kind, .int .u32 m0.ssrc, .int .u32 m0.media, .int .u64 m0.clock, .int .u32 m0.time, .int .u32 m0.packets, .int .u32 m0.bytes, .slice h0.rA m0.reports.length h0.rc, .slice h0.wA m0.who.length h0.wc, .slice h0.pA m0.pairs.length h0.pc, .slice h0.aA m0.asks.length h0.ac, .int .u8 m0.type] 59) := ⟨_, rfl⟩
  have hu4 : Upd [] w2 W4 := by rw [hW4]; exact hu3.alloc _
  have hB4 : Blk W4 w3.heap.size 59 #[.int .i64 m0.kind, .int .u32 m0.ssrc, .int .u32 m0.media, .int .u64 m0.clock, .int .u32 m0.time, .int .u32 m0.packets, .int .u32 m0.bytes, .slice h0.rA m0.reports.length h0.rc, .slice h0.wA m0.who.length h0.wc, .slice h0.pA m0.pairs.length h0.pc, .slice h0.aA m0.asks.length h0.ac, .int .u8 m0.type] := by rw [hW4]; exact Blk.new _ _ _
  have HP1 := Lib.hid (put_any (w := W4) (lo := 0) (A := some ⟨w3.heap.size, 0, none⟩) (cap := 1) (ms := [(m0, h0)]) (hB4.cells rfl rfl) (by
    intro x hx; rw [List.mem_singleton] at hx; subst hx
    exact ⟨HP.out.1.below (hu4.below (Nat.le_refl _) (by simp)), HP.out.2⟩) (by simp))
  simp only [List.map_cons, List.map_nil, List.length_cons, List.length_nil, Nat.zero_add] at HP1
  obtain ⟨g3, hg3⟩ : ∃ g3, g3 = w3.heap.size := ⟨_, rfl⟩
  rw [← hg3] at HP1
  have HOWN := Lib.hid (ownsRow_upd hown ((by rw [hW4]; exact (Upd.refl [] w3).alloc _) : Upd [] w3 W4) (by simp))
  have HU4 := Lib.hid (HU.out.next hu4)
  have hsz4 := HU.out.size
  obtain ⟨pe, hpe⟩ : ∃ pe, pe = (putM (m0 :: rest.map (·.1))).2 := ⟨_, rfl⟩
  rw [← hpe]
  have HPE := Lib.hid hpe
  obtain ⟨pf, hpf⟩ : ∃ pf, pf = (putM [m0]).2 := ⟨_, rfl⟩
  rw [← hpf] at HP1
  have HPF := Lib.hid hpf
  obtain ⟨Ab, cb, hvb, _⟩ := own_form hown
  subst hvb
  clear hown hbel hu3 hu4 hB4 hpe hpf HPT HMI
  go_wp2_with fail
  rw [← hg3, ← hW4]
  refine HP1.out.mono ?_
  rintro e w5 ⟨v1, rfl, hown1, hb5⟩
  obtain ⟨A1, cp1, hv1, _⟩ := own_form hown1
  subst hv1
  have HOWN5 := Lib.hid (ownsRow_upd HOWN.out (Upd.of_below (S := []) hb5) (by simp))
  have HU5 := Lib.hid (HU4.out.next (Upd.of_below hb5))
  clear hown1 hb5 HP1 HOWN HU4 hW4 hg3 HCC c0 c1 c2 c3 c4 c5 c6 c7 c8 c9 c10 c11
  by_cases hpe : pe = 0
  rotate_left
  · go_wp2
    exact bodyPost_res (v := .bool true) (by simp [results, Try.results6, go_sem, hpe]) rfl ⟨rfl, HU5.out.below (Nat.le_refl _) (by simp)⟩
  subst hpe
  obtain ⟨hiss, hle, hxs⟩ := putM_ok HPE.out.symm
  obtain ⟨n, ty, bs, hsh, hn31, ht0, ht1, hb4, hbb⟩ := msg_shape (hiss m0 (by simp))
  obtain ⟨tl, htl⟩ : ∃ tl, tl = (rest.map (·.1)).flatMap msgB := ⟨_, rfl⟩
  rw [List.flatMap_cons, ← htl, hsh] at hxs hle
  simp only [List.cons_append, List.length_cons, List.length_append] at hxs hle
  have h1 : putM [m0] = (msgB m0, 0) := by
    have e : [m0].flatMap msgB = msgB m0 := by simp
    have := putM_of (ms := [m0]) (fun m hm => hiss m (by rw [List.mem_singleton] at hm; subst hm; simp)) (by rw [e, hsh]; simp only [List.length_cons]; omega)
    rw [e] at this
    exact this
  have hpf0 : pf = 0 := by rw [HPF.out, h1]
  subst hpf0
  have hbt : Byt tl := by
    rw [htl]
    exact msgsB_byt fun m hm => hiss m (by simp [hm])
  have htl4 : 1 < L → 4 ≤ tl.length := by
    intro h
    have hrl : rest.length = L - 1 := by have := HLE.out; simp at this; omega
    cases rest with
    | nil => simp at hrl; omega
    | cons x r =>
      obtain ⟨n', t', bs', hsh', _⟩ := msg_shape (hiss x.1 (by simp))
      rw [htl, List.map_cons, List.flatMap_cons, hsh']
      simp
  have hrow := HOWN5.out
  rw [hxs] at hrow
  have hone : (putM [m0]).1.length = bs.length + 4 := by rw [h1, hsh]; rfl
  rw [hone]
  have hbl : (putM (m0 :: rest.map (·.1))).1.length = bs.length + tl.length + 4 := by rw [hxs]; simp only [List.length_cons, List.length_append]
  rw [hbl]
  obtain ⟨p, hp⟩ : ∃ p : Int, p = (bs.length : Int) / 4 / 256 % 256 := ⟨_, rfl⟩
  obtain ⟨q, hq⟩ : ∃ q : Int, q = (bs.length : Int) / 4 % 256 := ⟨_, rfl⟩
  rw [← hp, ← hq] at hrow
  have hpq : 4 * (p * 256 + q) = (bs.length : Int) := by omega
  have hp0 : 0 ≤ p ∧ p ≤ 255 := by omega
  have hq0 : 0 ≤ q ∧ q ≤ 255 := by omega
  have hbyt : ∀ x : Int, 0 ≤ x → x ≤ 255 → Byt (x :: ty :: p :: q :: (bs ++ tl)) := by
    intro x hx0 hx1 z hz
    simp only [List.mem_cons, List.mem_append] at hz
    rcases hz with rfl | rfl | rfl | rfl | hz | hz
    · omega
    · omega
    · omega
    · omega
    · exact hbb z hz
    · exact hbt z hz
  have HBYT := Lib.hid hbyt
  have hlen : ∀ x : Int, (x :: ty :: p :: q :: (bs ++ tl)).length = bs.length + tl.length + 4 := fun x => by simp only [List.length_cons, List.length_append]
  have HLEN := Lib.hid hlen
  obtain ⟨_, _, hv, hcap, hA, _⟩ := own_form hrow
  injection hv with e1 _ e3
  subst e1
  subst e3
  rw [hlen] at hcap
  obtain ⟨g, hg, hg1, hg2⟩ := hA (by simp)
  subst hg
  have HROW := Lib.hid hrow
  have HIN := Lib.hid (RowIn.of_own (xs := (128 + (n : Int)) :: ty :: p :: q :: (bs ++ tl)) hrow)
  have hgw : w.heap.size ≤ g := by omega
  have HGW := Lib.hid hgw
  have HTL4 := Lib.hid htl4
  clear hrow hxs hone hbl hsh h1 hbt hbb htl4 hiss HPE HPF HOWN5 hbyt hlen hA htl hg1 hgw
  obtain ⟨k, hk⟩ : ∃ k : Nat, k = at'.toNat % (bs.length + 4) := ⟨_, rfl⟩
  have hkl : k < bs.length + 4 := by rw [hk]; exact Nat.mod_lt _ (by omega)
  have hke : at' % ((bs.length : Int) + 4) = (k : Int) := by
    have e : ((at'.toNat : Nat) : Int) = at' := Int.toNat_of_nonneg ha0
    have := (Int.natCast_emod at'.toNat (bs.length + 4)).symm
    rw [e] at this
    rw [hk]
    exact this
  have hkt : Int.tmod at' ((bs.length : Int) + 4) = (k : Int) := by
    rw [Int.tmod_eq_emod_of_nonneg ha0]; exact hke
  have hne : ¬ ((bs.length : Int) + 4) = 0 := by omega
  have hk0 : (0 : Int) ≤ (k : Int) := by omega
  have hkc : (k : Int) ≤ (cb : Int) := by omega
  have hkc' : k ≤ cb := by omega
  have HPS : Hid (Calls Try.prog 14 #[.slice (some ⟨g, 0, none⟩) k cb] w5 fun e w' => e = .returned (.tuple #[.slice none 0 0, .int .i64 10]) ∧ Upd [] w5 w') := by
    have hs := HIN.out.short k
    have hsl : (((128 + (n : Int)) :: ty :: p :: q :: (bs ++ tl)).take k).length = k := by rw [List.length_take, HLEN.out]; omega
    by_cases hk4 : k < 4
    · have := parse_short hs (by dsimp only; rw [hsl]; exact hk4)
      unfold encR at this
      dsimp only at this
      rw [hsl] at this
      exact Lib.hid this
    · obtain ⟨k', rfl⟩ : ∃ k', k = k' + 4 := ⟨k - 4, by omega⟩
      have := parse_cutoff hs (fun z hz => HBYT.out _ (by omega) (by omega) z (List.mem_of_mem_take hz)) (128 + (n : Int)) ty p q ((bs ++ tl).take k') rfl (by dsimp only; rw [hsl]; omega) (isM_head (by omega) (by omega)) (by rw [List.length_take, List.length_append]; omega)
      unfold encR at this
      dsimp only at this
      rw [hsl] at this
      exact Lib.hid this
  clear hk
  go_wp2_with fail
  refine HPS.out.mono ?_
  rintro e w6 ⟨rfl, hu6⟩
  have hr6 := ownsRow_upd HROW.out hu6 (by simp)
  have x6 : w6.cell? ⟨g, 0, none⟩ = some (.int .u8 (128 + (n : Int))) := hr6.cells (g := g) rfl 0 _ rfl
  have f6 : w6.frozen? ⟨g, 0, none⟩ = false := hr6.frozenAt 0
  have hx := xor64 n hn31
  obtain ⟨W7, hW7⟩ : ∃ W7, W7 = w6.setCell ⟨g, 0, none⟩ (.int .u8 (192 + (n : Int))) := ⟨_, rfl⟩
  have hr7 := row_stored (y := 192 + (n : Int)) hr6
  rw [← hW7] at hr7
  have HU7 : Hid (Upd [] w W7) := by rw [hW7]; exact Lib.hid ((HU5.out.next hu6).setCell (.inr HGW.out) _)
  have HPF7 := Lib.hid (parse_form (RowIn.of_own (xs := (192 + (n : Int)) :: ty :: p :: q :: (bs ++ tl)) hr7) (HBYT.out _ (by omega) (by omega)) (192 + (n : Int)) ty p q (bs ++ tl) rfl (by dsimp only; rw [HLEN.out]; omega) (by simp [isM]; omega))
  unfold encR at HPF7
  dsimp only at HPF7
  rw [HLEN.out] at HPF7
  have HR7 := Lib.hid hr7
  clear hr6 hr7 hu6 HPS HIN HROW HU5
  go_wp2_with fail
  rw [← hW7]
  refine HPF7.out.mono ?_
  rintro e w8 ⟨rfl, hu8⟩
  have hr8 := ownsRow_upd HR7.out hu8 (by simp)
  have x8 : w8.cell? ⟨g, 0, none⟩ = some (.int .u8 (192 + (n : Int))) := hr8.cells (g := g) rfl 0 _ rfl
  have f8 : w8.frozen? ⟨g, 0, none⟩ = false := hr8.frozenAt 0
  have hx' := xor64' n hn31
  obtain ⟨W9, hW9⟩ : ∃ W9, W9 = w8.setCell ⟨g, 0, none⟩ (.int .u8 (128 + (n : Int))) := ⟨_, rfl⟩
  have hr9 := row_stored (y := 128 + (n : Int)) hr8
  rw [← hW9] at hr9
  have HU9 : Hid (Upd [] w W9) := by rw [hW9]; exact Lib.hid ((HU7.out.next hu8).setCell (.inr HGW.out) _)
  have HR9 := Lib.hid hr9
  clear hr8 hr9 hu8 HPF7 HR7 HU7 hW7 x6 f6
  go_upto_region 18 with fail
  rw [← hW9]
  clear hW9 x8 f8
  by_cases h1L : 1 < L
  case neg =>
    have h1L' : ¬ (1 : Int) < (L : Int) := by omega
    go_wp2
    exact bodyPost_res (v := .bool true) (by simp [results, Try.results6, go_sem]) rfl ⟨rfl, HU9.out.below (Nat.le_refl _) (by simp)⟩
  have h1L' : (1 : Int) < (L : Int) := by omega
  have ht4 := HTL4.out h1L
  have x9 : W9.cell? ⟨g, 0, none⟩ = some (.int .u8 (128 + (n : Int))) := HR9.out.cells (g := g) rfl 0 _ rfl
  have f9 : W9.frozen? ⟨g, 0, none⟩ = false := HR9.out.frozenAt 0
  have hx9 := or32 n hn31
  obtain ⟨W10, hW10⟩ : ∃ W10, W10 = W9.setCell ⟨g, 0, none⟩ (.int .u8 (160 + (n : Int))) := ⟨_, rfl⟩
  have hr10 := row_stored (y := 160 + (n : Int)) HR9.out
  rw [← hW10] at hr10
  have HU10 : Hid (Upd [] w W10) := by rw [hW10]; exact Lib.hid (HU9.out.setCell (.inr HGW.out) _)
  have HPF10 := Lib.hid (parse_pad (RowIn.of_own (xs := (160 + (n : Int)) :: ty :: p :: q :: (bs ++ tl)) hr10) (HBYT.out _ (by omega) (by omega)) (160 + (n : Int)) ty p q (bs ++ tl) rfl (by dsimp only; rw [HLEN.out]; omega) (isM_head (by omega) (by omega)) (by rw [List.length_append]; omega) (by omega))
  unfold encR at HPF10
  dsimp only at HPF10
  rw [HLEN.out] at HPF10
  clear hr10 HR9 HU9
  go_wp2_with fail
  rw [← hW10]
  refine HPF10.out.mono ?_
  rintro e w11 ⟨rfl, hu11⟩
  have HU11 := Lib.hid (HU10.out.next hu11)
  clear hu11 HPF10 HU10 hW10
  go_wp2
  exact bodyPost_res (v := .bool true) (by simp [results, Try.results6, go_sem]) rfl ⟨rfl, HU11.out.below (Nat.le_refl _) (by simp)⟩
end Go.Proofs.Ytgkejdjdccgjbaa
