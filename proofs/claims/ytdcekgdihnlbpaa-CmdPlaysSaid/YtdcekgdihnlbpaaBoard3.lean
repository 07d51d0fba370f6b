/- cmd's Acked, Room and Send on a board. Conditions: as before; and of no board. -/
import Derived.Test.YtdcekgdihnlbpaaBoard2
import Derived.Deep.LoopGhost
namespace Go.Proofs.Ytdcekgdihnlbpaa
open Go Go.RowKit Go.Shelf
attribute [local go_sem] Oper.semAt_some
set_option maxHeartbeats 400000

def minL : List Int → Int
  | [] => 0
  | a :: l => l.foldl min a

section
variable {w : World} {B : Bd} {room : Nat} {tabs : List (List (Option Addr))} {acks : List (Int × Int)} {last : List Int}
theorem min_any (w : World) (la : Nat) (a : Int) (l : List Int) (hb : Blk w la 30 ((a :: l).map (Value.int .u64)).toArray) (hl : l.length ≤ 3) :
    Calls Try.prog 36 #[.slice (some ⟨la, 0, none⟩) (l.length + 1) (l.length + 1)] w fun e w' => e = .returned (.int .u64 (minL (a :: l))) ∧ w = w' := by
  have c0 : w.cell? ⟨la, 0, none⟩ = some (.int .u64 a) := hb.cell 0
  have HC : Hid (∀ k x, l[k]? = some x → w.cell? ⟨la, k + 1, none⟩ = some (.int .u64 x)) := fun k x hx => (hb.cell (k + 1)).trans (by simp [hx])
  obtain ⟨n, hn⟩ : ∃ n, n = l.length := ⟨_, rfl⟩
  rw [← hn] at hl ⊢
  have HN := Lib.hid hn
  have h1 : (0 : Int) < (n : Int) + 1 := by omega
  clear hb hn
  go_enter Try.func36, Try.ntmps36
  go_wp2
  go_loopg [3, 4] n (fun gk o i wr => ∃ k : Nat, k ≤ n ∧ n ≤ k + gk ∧ i = .int .i64 ((k : Int) + 1) ∧ o = .int .u64 ((l.take k).foldl min a) ∧ w = wr)
  case atStart => exact ⟨0, Nat.zero_le _, by omega, rfl, rfl, rfl⟩
  case round =>
    obtain ⟨k, hk, hgk, rfl, rfl, rfl⟩ := hrel
    by_cases hlt : k < n
    · obtain ⟨x, hx⟩ : ∃ x, l[k]? = some x := ⟨_, List.getElem?_eq_getElem (by rw [← HN.out]; exact hlt)⟩
      have c1 := HC.out k x hx
      have HT : Hid ((l.take (k + 1)).foldl min a = min ((l.take k).foldl min a) x) := by
        show _ = _
        rw [List.take_add_one, hx]; simp
      obtain ⟨o, ho⟩ : ∃ o, o = (l.take k).foldl min a := ⟨_, rfl⟩
      rw [← ho] at HT ⊢
      have hi0 : (0 : Int) ≤ (k : Int) + 1 := by omega
      have hi1 : (k : Int) + 1 < (n : Int) + 1 := by omega
      have ht : ((k : Int) + 1).toNat = k + 1 := by omega
      clear hx ho
      go_wp2
      all_goals
        go_roundg (gk - 1)
        case measure => omega
        case rel => exact ⟨k + 1, by omega, by omega, by go_num, by rw [HT.out]; simp only [Int.min_def]; first | rw [if_pos (by omega)] | rw [if_neg (by omega)], rfl⟩
    · obtain rfl : k = n := by omega
      go_wp2
      go_ret
      exact ⟨by rw [List.take_of_length_le (by rw [← HN.out]; exact Nat.le_refl _)]; rfl, rfl⟩
theorem acked_nil (w : World) : Calls Try.prog 21 #[.pointer none] w fun e w' => e = .returned (.int .u64 0) ∧ w = w' := by
  go_enter Try.func21, Try.ntmps21
  go_wp2
  go_ret
  exact ⟨rfl, rfl⟩
theorem acked_any (h : IsB w B room tabs acks last) :
    Calls Try.prog 21 #[.pointer (some ⟨B.b, 0, none⟩)] w fun e w' => e = .returned (.int .u64 (minL last)) ∧ w = w' := by
  have c2 := h.cells.2.2
  have hll := h.ll
  have hn1 := h.n1
  have hn4 := h.n4
  cases last with
  | nil => simp at hll; omega
  | cons a l =>
    have hm := min_any w B.la a l h.l (by simp at hll; omega)
    rw [show l.length + 1 = B.prs.length by simpa using hll] at hm
    have HM := Lib.hid hm
    clear h hll hm
    go_enter Try.func21, Try.ntmps21
    go_wp2_with fail
    refine HM.out.mono ?_
    rintro e w' ⟨rfl, rfl⟩
    go_wp2
    go_ret
    exact ⟨rfl, rfl⟩
theorem room_nil (w : World) : Calls Try.prog 24 #[.pointer none] w fun e w' => e = .returned (.bool false) ∧ Upd [] w w' := by
  go_enter Try.func24, Try.ntmps24
  go_wp2
  exact bodyPost_ret (v := .bool false) (by simp [results, Try.results24, go_sem]) rfl ⟨rfl, ((Upd.refl _ _).alloc _)⟩

/-- every shard has fewer tables than may be -/
def hasRoom (room : Nat) (tabs : List (List (Option Addr))) : Bool := tabs.all fun xs => decide (xs.length < room)

theorem hasRoom_yes (h : ∀ (i : Nat) (xs : List (Option Addr)), tabs[i]? = some xs → xs.length < room) : hasRoom room tabs = true := by
  unfold hasRoom
  rw [List.all_eq_true]
  intro xs hx
  obtain ⟨i, hi⟩ := List.getElem?_of_mem hx
  simpa using h i xs hi
theorem hasRoom_no {i : Nat} {xs : List (Option Addr)} (h : tabs[i]? = some xs) (hl : ¬ xs.length < room) : hasRoom room tabs = false := by
  unfold hasRoom
  rw [List.all_eq_false]
  exact ⟨xs, List.mem_of_getElem? h, by simpa using hl⟩
theorem keeps_drewN (W : World) (q : Nat) : KeepsOthers W (W.drewN q) := ⟨Nat.le_refl _, fun _ _ h _ => h⟩

set_option maxRecDepth 100000 in
set_option maxHeartbeats 2000000 in
theorem room_any (h : IsB w B room tabs acks last) :
    Calls Try.prog 24 #[.pointer (some ⟨B.b, 0, none⟩)] w fun e w' => e = .returned (.bool (hasRoom room tabs)) ∧ Upd [] w w' := by
  refine (callsIn_wide (n := 5)).1 ?_
  refine callsIn_of_wp_marks Try.func24 rfl trivial ?_ rfl
  simp only [Try.ntmps24, List.size_toArray, List.length_cons, List.length_nil, Nat.reduceAdd, Nat.reduceSub, Array.replicate_succ, Array.replicate_zero, List.push_toArray, List.append_toArray, List.nil_append, List.cons_append]
  have hlen := h.n4
  gi_wp2_with (refine ⟨trivial, ?_⟩; gi_at_call 29; refine (all_in Fence.wide 4 trivial rfl B.b _).mono ?_; rintro e w' ⟨rfl, rfl⟩)
  have hs := cell_new_b w (.bool false) 4
  have hb := cell_new_b (w.alloc (.cells #[.bool false] 4)) (.pointer (some ⟨B.b, 0, none⟩)) 24
  rw [World.size_alloc] at hb
  have hu : Upd [] w ((w.alloc (.cells #[.bool false] 4)).alloc (.cells #[.pointer (some ⟨B.b, 0, none⟩)] 24)) := ((Upd.refl _ w).alloc _).alloc _
  have hB0 : Below w.heap.size w ((w.alloc (.cells #[.bool false] 4)).alloc (.cells #[.pointer (some ⟨B.b, 0, none⟩)] 24)) := hu.below (Nat.le_refl _) (by simp)
  have h2 := h.more hu
  have hrow : ∀ j : Fin B.prs.length, ((w.alloc (.cells #[.bool false] 4)).alloc (.cells #[.pointer (some ⟨B.b, 0, none⟩)] 24)).cell? ⟨B.tb, j.1, none⟩ = some (.pointer (some ⟨(B.prs[j.1]).1, 0, none⟩)) := fun j => h2.at (List.getElem?_eq_getElem j.2)
  have hqs : ∀ j : Fin B.prs.length, ∃ xs, tabs[j.1]? = some xs ∧ QT.Q w (B.prs[j.1]).1 (B.prs[j.1]).2 room xs := fun j => by
    have hj : j.1 < tabs.length := by rw [h.lt]; exact j.2
    exact ⟨_, List.getElem?_eq_getElem hj, h.q j.1 _ _ (List.getElem?_eq_getElem j.2) (List.getElem?_eq_getElem hj)⟩
  have hlq : ∀ j : Fin B.prs.length, (B.prs[j.1]).1 < w.heap.size ∧ (B.prs[j.1]).2 < w.heap.size := fun j => by
    obtain ⟨xs, _, hq⟩ := hqs j
    exact IsQ.lt hq
  have htl : tabs.length = B.prs.length := h.lt
  refine wpIn_rangeFunc_ownF rfl (by omega : 1 ≤ 5) (gf := 39) (lb := #[.pointer (some ⟨w.heap.size + 1, 0, none⟩)]) rfl trivial (enters_of Try.func39 (by kernel_rfl) rfl)
    (all_stops Fence.wide (5 - 1) trivial rfl (by omega) (w.heap.size + 1) B.b B.tb B.tc B.prs.length (fun j => (B.prs[j.1]).1) (by omega) _ hb.1 h2.cells.1 hrow (by simp) h2.blk.lt h2.tbl.1) kpT_t (kpT_b h2.tbl.1) (Below.refl _ _) (fun _ => rfl)
    (fun pre W => ((∀ j ∈ pre, ∀ xs, tabs[j.1]? = some xs → xs.length < room) ∧ W.cell? ⟨w.heap.size, 0, none⟩ = some (.bool false) ∧ W.frozen? ⟨w.heap.size, 0, none⟩ = false) ∧ Below w.heap.size w W)
    (fun c _ W => (c = .ret ∧ hasRoom room tabs = false ∧ W.cell? ⟨w.heap.size, 0, none⟩ = some (.bool false)) ∧ Below w.heap.size w W)
    (OwnFrom.and (Own.from (fun s A B row hs hg hr => ⟨hs.1, cell_kept hs.2.1 hg hr, (frozen_kept hs.2.1 hg hr).trans hs.2.2⟩) _) (ownFrom_below (Nat.le_refl _) (by simp; omega)))
    (fun c => OwnFrom.and (Own.from (fun s A B row hs hg hr => ⟨hs.1, hs.2.1, cell_kept hs.2.2 hg hr⟩) _) (ownFrom_below (Nat.le_refl _) (by simp; omega)))
    ⟨⟨by simp, cell_alloc_b _ hs.1, frozen_alloc_b _ hs.1 hs.2⟩, hB0⟩
    (fun x => { tmps := #[.pointer (some ⟨B.b, 0, none⟩), undef, .pointer (some ⟨w.heap.size, 0, none⟩), .pointer (some ⟨(B.prs[x.1]).1, 0, none⟩), .pointer (some ⟨B.b, 0, none⟩), .bool false, .pointer (some ⟨B.b, 0, none⟩), .func (.func 39) #[] #[.pointer (some ⟨w.heap.size + 1, 0, none⟩)], .pointer (some ⟨(B.prs[x.1]).1, 0, none⟩), undef, undef, undef], defers := [] }) ?assign ?body ?done ?stop
  case assign =>
    intro l x W K hK
    gi_wp2
    exact hK
  case body =>
    rintro l pre x W ⟨⟨hp, hcw, hfw⟩, hB⟩ _
    obtain ⟨xs, hx, hq⟩ := hqs x
    have hr := QT.room (IsQ.below hq hB (hlq x).1 (hlq x).2)
    have HR := Lib.hid hr
    have HP := Lib.hid hp
    have HX := Lib.hid hx
    have HB := Lib.hid hB
    obtain ⟨p, hpe⟩ : ∃ p, p = (B.prs[x.1]).1 := ⟨_, rfl⟩
    rw [← hpe] at HR ⊢
    have hbd := IsQ.bound hq
    clear hr hp hx hB hpe hqs hlq hrow hq h h2 hu hB0
    by_cases hfull : xs.length < room
    · have hh : ((room : Int) - (xs.length : Int) == 0) = false := by simp; omega
      gi_wp2_with (refine ⟨trivial, ?_⟩; gi_at_call 38; refine (CallsIn.inRound l (callsIn_wide.2 HR.out)).mono ?_; rintro e w' ⟨rfl, q, rfl⟩)
      refine ⟨keeps_drewN _ _, rfl, ⟨fun j hj ys hy => ?_, hcw, hfw⟩, HB.out.trans (((Upd.refl [] W).drewN _).below HB.out.size (by simp))⟩
      rcases List.mem_append.1 hj with h1 | h1
      · exact HP.out j h1 ys hy
      · obtain rfl : j = x := by simpa using h1
        rw [HX.out] at hy
        obtain rfl := Option.some.inj hy
        exact hfull
    · have hh : ((room : Int) - (xs.length : Int) == 0) = true := by simp; omega
      gi_wp2_with (refine ⟨trivial, ?_⟩; gi_at_call 38; refine (CallsIn.inRound l (callsIn_wide.2 HR.out)).mono ?_; rintro e w' ⟨rfl, q, rfl⟩)
      exact ⟨(keeps_drewN _ _).trans (KeepsOthers.setCell _ _ _), ⟨rfl, hasRoom_no HX.out hfull, World.cell?_setCell_same' _ _ _ (by show Option.isSome (W.cell? _) = true; rw [hcw]; rfl)⟩, (HB.out.trans (((Upd.refl [] W).drewN _).below HB.out.size (by simp))).setCell (p := ⟨w.heap.size, 0, none⟩) (Nat.le_refl _) _⟩
  case done =>
    rintro D ys W hD rfl ⟨⟨hp, hc, hf⟩, hB⟩ hK
    gi_wp2
    have hK' := (KeepsOthers.setCell W ⟨w.heap.size, 0, none⟩ (.bool true)).same D _ hK rfl
    refine ⟨by simp, .inl ⟨_, _, rfl, run_takeDeferred hK', ?_⟩⟩
    have hc5 := cell_kept (World.cell?_setCell_same' W ⟨w.heap.size, 0, none⟩ (.bool true) (by rw [hc]; rfl)) (grownBy_putObj' _ D (.deferred none)) (fun r e => by cases e; exact ⟨_, hK', rfl⟩)
    have hR : hasRoom room tabs = true := hasRoom_yes (fun i xs hx => hp ⟨i, by rw [← htl]; exact (List.getElem?_eq_some_iff.1 hx).1⟩ (List.mem_finRange _) xs hx)
    refine ⟨.bool true, ?_, by rw [hR], Upd.of_below ((hB.setCell (p := ⟨w.heap.size, 0, none⟩) (Nat.le_refl _) _).trans (belowK_b (w := w) (Nat.le_refl _) _ D _ _ (by simp at hD; omega) hK' rfl rfl))⟩
    simp [results, Try.f24, go_sem, hc5]
  case stop =>
    rintro D c pre W hD hpre ⟨⟨rfl, hin, hcr⟩, hB⟩ hK
    gi_wp2
    refine ⟨by simp, .inl ⟨_, _, rfl, run_takeDeferred hK, ?_⟩⟩
    have hc5 := cell_kept hcr (grownBy_putObj' _ D (.deferred none)) (fun r e => by cases e; exact ⟨_, hK, rfl⟩)
    refine ⟨.bool false, ?_, rfl, Upd.of_below (hB.trans (belowK_b (w := w) (Nat.le_refl _) W D _ _ (by simp at hD; omega) hK rfl rfl))⟩
    simp [results, Try.f24, go_sem, hc5]
end
end Go.Proofs.Ytdcekgdihnlbpaa
