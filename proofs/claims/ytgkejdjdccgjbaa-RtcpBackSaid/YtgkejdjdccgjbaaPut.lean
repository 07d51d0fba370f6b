/- rtcp: Put. Conditions: no more than 60 messages, their rows no longer than 60. -/
import Derived.Test.YtgkejdjdccgjbaaBody
import Derived.Test.YtgkejdjdccgjbaaIs
namespace Go.Proofs.Ytgkejdjdccgjbaa
open Go Go.RowKit
set_option maxHeartbeats 400000

def encM (x : Mg × Hd) : List Value := mcells x.1 x.2
theorem encM_len (x : Mg × Hd) : (encM x).length = 12 := rfl
/-- a message's bytes -/
def msgB (m : Mg) : List Int :=
  let b := bytesOf (bodyM m).ps
  [128 + ((bodyM m).n : Int), (bodyM m).t, ((b.length : Int) / 4 / 256) % 256, ((b.length : Int) / 4) % 256] ++ b
def putM (ms : List Mg) : List Int × Int :=
  if ms.all fun m => (bodyM m).is then (if 1500 < (ms.flatMap msgB).length then ([], 13) else (ms.flatMap msgB, 0)) else ([], 1)
theorem body_n {m : Mg} (h : (bodyM m).is = true) : (bodyM m).n ≤ 31 := by
  unfold bodyM at h ⊢
  by_cases h0 : m.kind = 0
  · rw [if_pos h0] at h ⊢
    simp at h ⊢; try omega
  rw [if_neg h0] at h ⊢
  by_cases h1 : m.kind = 1
  · rw [if_pos h1] at h ⊢
    simp at h ⊢; try omega
  rw [if_neg h1] at h ⊢
  by_cases h2 : m.kind = 2
  · rw [if_pos h2] at h ⊢
    simp at h ⊢; try omega
  rw [if_neg h2] at h ⊢
  by_cases h3 : m.kind = 3
  · rw [if_pos h3] at h ⊢
    simp at h ⊢; try omega
  rw [if_neg h3] at h ⊢
  by_cases h4 : m.kind = 4
  · rw [if_pos h4] at h ⊢
    simp at h ⊢; try omega
  rw [if_neg h4] at h ⊢
  by_cases h5 : m.kind = 5
  · rw [if_pos h5] at h ⊢
    simp at h ⊢; try omega
  rw [if_neg h5] at h ⊢
  cases h
theorem body_t (m : Mg) : 0 ≤ (bodyM m).t ∧ (bodyM m).t ≤ 255 := by
  unfold bodyM
  by_cases h0 : m.kind = 0
  · rw [if_pos h0]
    simp
  rw [if_neg h0]
  by_cases h1 : m.kind = 1
  · rw [if_pos h1]
    simp
  rw [if_neg h1]
  by_cases h2 : m.kind = 2
  · rw [if_pos h2]
    simp
  rw [if_neg h2]
  by_cases h3 : m.kind = 3
  · rw [if_pos h3]
    simp
  rw [if_neg h3]
  by_cases h4 : m.kind = 4
  · rw [if_pos h4]
    simp
  rw [if_neg h4]
  by_cases h5 : m.kind = 5
  · rw [if_pos h5]
    simp
  rw [if_neg h5]
  simp
theorem rep_sizes (rs : List Rep) : ∀ p, p ∈ rs.flatMap repParts → 1 ≤ p.2 ∧ p.2 ≤ 8 := by
  intro p hp
  obtain ⟨r, _, hr⟩ := List.mem_flatMap.1 hp
  simp only [repParts, List.mem_cons, List.not_mem_nil, or_false] at hr
  rcases hr with rfl | rfl | rfl | rfl | rfl | rfl | rfl <;> exact ⟨by simp, by simp⟩
theorem rep_count (rs : List Rep) : (rs.flatMap repParts).length = 7 * rs.length := by
  induction rs with
  | nil => rfl
  | cons r rs ih => rw [List.flatMap_cons, List.length_append, ih, List.length_cons]; simp [repParts]; omega
theorem body_ps {m : Mg} (h : m.Ok) : (∀ p, p ∈ (bodyM m).ps → 1 ≤ p.2 ∧ p.2 ≤ 8) ∧ (bodyM m).ps.length ≤ 500 := by
  have nr := h.nr
  have nw := h.nw
  have np := h.np
  have na := h.na
  have e1 : ∀ l : List (Int × Int), (l.flatMap pairParts).length = 2 * l.length := fun l => by
    induction l with
    | nil => rfl
    | cons r rs ih => rw [List.flatMap_cons, List.length_append, ih, List.length_cons]; simp [pairParts]; omega
  have e2 : ∀ l : List (Int × Int), (l.flatMap askParts).length = 3 * l.length := fun l => by
    induction l with
    | nil => rfl
    | cons r rs ih => rw [List.flatMap_cons, List.length_append, ih, List.length_cons]; simp [askParts]; omega
  unfold bodyM
  split
  · refine ⟨fun p hp => ?_, ?_⟩
    · rcases List.mem_append.1 hp with hp | hp
      · simp only [List.mem_cons, List.not_mem_nil, or_false] at hp
        rcases hp with rfl | rfl | rfl | rfl | rfl <;> exact ⟨by simp, by simp⟩
      · exact rep_sizes _ p hp
    · dsimp only; rw [List.length_append, rep_count]; simp; omega
  split
  · refine ⟨fun p hp => ?_, ?_⟩
    · rcases List.mem_append.1 hp with hp | hp
      · simp only [List.mem_cons, List.not_mem_nil, or_false] at hp
        subst hp; exact ⟨by simp, by simp⟩
      · exact rep_sizes _ p hp
    · dsimp only; rw [List.length_append, rep_count]; simp; omega
  split
  · refine ⟨fun p hp => ?_, ?_⟩
    · obtain ⟨x, _, rfl⟩ := List.mem_map.1 hp; exact ⟨by simp, by simp⟩
    · dsimp only; rw [List.length_map]; omega
  split
  · refine ⟨fun p hp => ?_, ?_⟩
    · rcases List.mem_append.1 hp with hp | hp
      · simp only [List.mem_cons, List.not_mem_nil, or_false] at hp
        rcases hp with rfl | rfl <;> exact ⟨by simp, by simp⟩
      · obtain ⟨x, _, hx⟩ := List.mem_flatMap.1 hp
        simp only [pairParts, List.mem_cons, List.not_mem_nil, or_false] at hx
        rcases hx with rfl | rfl <;> exact ⟨by simp, by simp⟩
    · dsimp only; rw [List.length_append, e1]; simp; omega
  split
  · refine ⟨fun p hp => ?_, by simp⟩
    simp only [List.mem_cons, List.not_mem_nil, or_false] at hp
    rcases hp with rfl | rfl <;> exact ⟨by simp, by simp⟩
  split
  · refine ⟨fun p hp => ?_, ?_⟩
    · rcases List.mem_append.1 hp with hp | hp
      · simp only [List.mem_cons, List.not_mem_nil, or_false] at hp
        rcases hp with rfl | rfl <;> exact ⟨by simp, by simp⟩
      · obtain ⟨x, _, hx⟩ := List.mem_flatMap.1 hp
        simp only [askParts, List.mem_cons, List.not_mem_nil, or_false] at hx
        rcases hx with rfl | rfl | rfl <;> exact ⟨by simp, by simp⟩
    · dsimp only; rw [List.length_append, e2]; simp; omega
  · exact ⟨fun p hp => (by cases hp), by simp⟩
theorem stopHere {p : Prop} (h : p ∧ True) : p := h.1
theorem or128 (n : Nat) (h : n ≤ 31) : bits .or .u8 128 (n : Int) = 128 + n := u8_or128 _ (by omega) (by omega)

set_option maxRecDepth 100000 in
set_option maxHeartbeats 4000000 in
theorem put_any {w : World} {lo : Nat} {A : Option Addr} {cap : Nat} {ms : List (Mg × Hd)} (hc : CellsIn w lo w.heap.size 12 A ms.length (ms.flatMap encM)) (hm : ∀ x, x ∈ ms → MgIn w lo x.1 x.2 ∧ x.1.Ok) (hl : ms.length ≤ 60) :
    Calls Try.prog 11 #[.slice A ms.length cap] w fun e w' => ∃ v, e = .returned (.tuple #[v, .int .i64 (putM (ms.map (·.1))).2]) ∧
      w'.ownsRow w.heap.size 5 1 v (putM (ms.map (·.1))).1.length ((putM (ms.map (·.1))).1.map (Value.int .u8)) ∧ Below w.heap.size w w' := by
  obtain ⟨j0, hj0, hy0, hy1, hy2⟩ := info_parts infoB
  have HC := Lib.hid hc
  have HM := Lib.hid hm
  clear hc hm
  go_enter Try.func11, Try.ntmps11
  go_wp2
  go_loopg [4, 14] ms.length (fun gk x4 x14 wr => ∃ (i : Nat) (out : List Int), i ≤ ms.length ∧ ms.length ≤ i + gk ∧ x14 = .int .i64 i ∧ (∀ m, m ∈ (ms.take i).map (·.1) → (bodyM m).is = true) ∧ out = ((ms.take i).map (·.1)).flatMap msgB ∧ out.length ≤ 5000 * i ∧ wr.ownsRow w.heap.size 5 1 x4 out.length (out.map (Value.int .u8)) ∧ Below w.heap.size w wr)
  case atStart => exact ⟨0, [], Nat.zero_le _, by omega, rfl, by simp, rfl, Nat.le_refl _, World.ownsRow_nil _ _ _ _, Below.refl _ _⟩
  case round =>
    obtain ⟨i, out, hi, hgi, rfl, his, hout, hol, hown, hbel⟩ := hrel
    obtain ⟨Av, cv, hve, _⟩ := own_form hown
    subst hve
    by_cases hlt : i < ms.length
    · obtain ⟨x, hxi⟩ : ∃ p, ms[i]? = some p := ⟨_, List.getElem?_eq_getElem hlt⟩
      obtain ⟨hin, hok⟩ := HM.out x (List.mem_of_getElem? hxi)
      obtain ⟨b, off, rfl, hb1, hb2, hcc⟩ := HC.out.2 (by omega)
      have c0 := (hbel.cell (p := ⟨b, off + (i * 12 + 0), none⟩) hb2).trans (hcc (i * 12 + 0) _ (flat_get encM_len ms i 0 x hxi (by omega)))
      have c1 := (hbel.cell (p := ⟨b, off + (i * 12 + 1), none⟩) hb2).trans (hcc (i * 12 + 1) _ (flat_get encM_len ms i 1 x hxi (by omega)))
      have c2 := (hbel.cell (p := ⟨b, off + (i * 12 + 2), none⟩) hb2).trans (hcc (i * 12 + 2) _ (flat_get encM_len ms i 2 x hxi (by omega)))
      have c3 := (hbel.cell (p := ⟨b, off + (i * 12 + 3), none⟩) hb2).trans (hcc (i * 12 + 3) _ (flat_get encM_len ms i 3 x hxi (by omega)))
      have c4 := (hbel.cell (p := ⟨b, off + (i * 12 + 4), none⟩) hb2).trans (hcc (i * 12 + 4) _ (flat_get encM_len ms i 4 x hxi (by omega)))
      have c5 := (hbel.cell (p := ⟨b, off + (i * 12 + 5), none⟩) hb2).trans (hcc (i * 12 + 5) _ (flat_get encM_len ms i 5 x hxi (by omega)))
      have c6 := (hbel.cell (p := ⟨b, off + (i * 12 + 6), none⟩) hb2).trans (hcc (i * 12 + 6) _ (flat_get encM_len ms i 6 x hxi (by omega)))
      have c7 := (hbel.cell (p := ⟨b, off + (i * 12 + 7), none⟩) hb2).trans (hcc (i * 12 + 7) _ (flat_get encM_len ms i 7 x hxi (by omega)))
      have c8 := (hbel.cell (p := ⟨b, off + (i * 12 + 8), none⟩) hb2).trans (hcc (i * 12 + 8) _ (flat_get encM_len ms i 8 x hxi (by omega)))
      have c9 := (hbel.cell (p := ⟨b, off + (i * 12 + 9), none⟩) hb2).trans (hcc (i * 12 + 9) _ (flat_get encM_len ms i 9 x hxi (by omega)))
      have c10 := (hbel.cell (p := ⟨b, off + (i * 12 + 10), none⟩) hb2).trans (hcc (i * 12 + 10) _ (flat_get encM_len ms i 10 x hxi (by omega)))
      have c11 := (hbel.cell (p := ⟨b, off + (i * 12 + 11), none⟩) hb2).trans (hcc (i * 12 + 11) _ (flat_get encM_len ms i 11 x hxi (by omega)))
      obtain ⟨m, h⟩ := x
      dsimp only at hin hok
      simp only [encM, mcells, List.getElem?_cons_zero, List.getElem?_cons_succ, List.getElem_cons_zero, List.getElem_cons_succ, ← Nat.add_assoc, Nat.add_zero] at c0 c1 c2 c3 c4 c5 c6 c7 c8 c9 c10 c11
      have HO := Lib.hid hown
      have HB := Lib.hid hbel
      have HIS := Lib.hid his
      have HOUT := Lib.hid hout
      have HXI := Lib.hid hxi
      have HIN := Lib.hid (hin.below hbel)
      have HOK := Lib.hid hok
      clear hcc hown hbel his hout hxi hin hok
      go_upto_region 5 with fail
      obtain ⟨W1, hW1⟩ : ∃ W1, W1 = wr.alloc (.cells (mcells m h).toArray 59) := ⟨_, rfl⟩
      have HW1 := Lib.hid hW1
      simp only [mcells] at hW1
      obtain ⟨X, hXe⟩ : ∃ X, X = wr.heap.size := ⟨_, rfl⟩
      rw [← hW1, ← hXe]
      have hX : Blk W1 X 59 (mcells m h).toArray := by rw [HW1.out, hXe]; exact Blk.new _ _ _
      have HO1 : Hid (W1.ownsRow w.heap.size 5 1 (.slice Av out.length cv) out.length (out.map (Value.int .u8))) := by rw [HW1.out]; exact Lib.hid (HO.out.alloc _)
      have HB1 : Hid (Below w.heap.size w W1) := by rw [HW1.out]; exact Lib.hid (HB.out.alloc HB.out.size _)
      have HIN1 : Hid (MgIn W1 lo m h) := by rw [HW1.out]; exact Lib.hid (HIN.out.below ((Below.refl _ _).alloc (Nat.le_refl _) _))
      have HC1 := Lib.hid (body_any HIN1.out HOK.out)
      simp only [mcells] at HC1
      have x0 : W1.cell? ⟨X, 0, none⟩ = some (.int .i64 m.kind) := hX.cell 0
      have x1 : W1.cell? ⟨X, 1, none⟩ = some (.int .u32 m.ssrc) := hX.cell 1
      have x2 : W1.cell? ⟨X, 2, none⟩ = some (.int .u32 m.media) := hX.cell 2
      have x3 : W1.cell? ⟨X, 3, none⟩ = some (.int .u64 m.clock) := hX.cell 3
      have x4 : W1.cell? ⟨X, 4, none⟩ = some (.int .u32 m.time) := hX.cell 4
      have x5 : W1.cell? ⟨X, 5, none⟩ = some (.int .u32 m.packets) := hX.cell 5
      have x6 : W1.cell? ⟨X, 6, none⟩ = some (.int .u32 m.bytes) := hX.cell 6
      have x7 : W1.cell? ⟨X, 7, none⟩ = some (.slice h.rA m.reports.length h.rc) := hX.cell 7
      have x8 : W1.cell? ⟨X, 8, none⟩ = some (.slice h.wA m.who.length h.wc) := hX.cell 8
      have x9 : W1.cell? ⟨X, 9, none⟩ = some (.slice h.pA m.pairs.length h.pc) := hX.cell 9
      have x10 : W1.cell? ⟨X, 10, none⟩ = some (.slice h.aA m.asks.length h.ac) := hX.cell 10
      have x11 : W1.cell? ⟨X, 11, none⟩ = some (.int .u8 m.type) := hX.cell 11
      clear hW1 HW1 hXe hX HO HB HIN c0 c1 c2 c3 c4 c5 c6 c7 c8 c9 c10 c11
      go_wp2_with fail
      refine HC1.out.mono ?_
      rintro e w2 ⟨vp, rfl, hop, hbp⟩
      obtain ⟨Ap, cq, hvp, _⟩ := own_form hop
      subst hvp
      have hps := body_ps HOK.out
      have ht := body_t m
      have hbn := @body_n m
      obtain ⟨⟨t, n, ps, is⟩, hBd⟩ : ∃ B, B = bodyM m := ⟨_, rfl⟩
      rw [← hBd] at hop hps ht hbn ⊢
      dsimp only at hop hps ht hbn ⊢
      have HBD := Lib.hid hBd
      have HAV : Hid (∀ s, (Value.slice Av out.length cv).ownBlock = some s → s < w2.heap.size) := fun s hs => Nat.lt_of_lt_of_le (own_block_lt HO1.out hs).2 hbp.size
      have HO2 := Lib.hid (ownsRow_upd HO1.out (Upd.of_below (S := []) hbp) (by simp))
      have HB2 := Lib.hid (HB1.out.trans (hbp.mono HB1.out.size))
      have HOP := Lib.hid hop
      have HPS := Lib.hid hps.1
      have hpl := hps.2
      obtain ⟨ht0, ht1⟩ := ht
      clear hop hbp hps hBd HC1 HO1 HB1 HIN1 x0 x1 x2 x3 x4 x5 x6 x7 x8 x9 x10 x11
      cases is
      · have HP : Hid (putM (ms.map (·.1)) = ([], 1)) := by
          unfold putM
          rw [if_neg]
          · exact Lib.hid rfl
          · intro hall
            have := List.all_eq_true.1 hall m (List.mem_map.2 ⟨(m, h), List.mem_of_getElem? HXI.out, rfl⟩)
            rw [← HBD.out] at this
            cases this
        clear hbn
        go_wp2
        exact bodyPost_res (v := .tuple #[.slice none 0 0, .int .i64 1]) (by simp [results, Try.results11, go_sem]) rfl ⟨_, by rw [HP.out], by rw [HP.out]; exact World.ownsRow_nil _ _ _ _, HB2.out⟩
      · have hn31 := hbn rfl
        have ho := or128 n hn31
        have hn0 : (n : Int) ≤ 31 := by omega
        clear hbn
        have HC2 := Lib.hid (oput_any (cap := cq) (CellsIn.of_own HOP.out) HPS.out (by omega))
        go_wp2_with fail
        refine HC2.out.mono ?_
        rintro e w3 ⟨vb, rfl, hob, hbb⟩
        obtain ⟨Ab, cb, hvb, _, _, hbnl⟩ := own_form hob
        subst hvb
        have hbl := bytesOf_len ps (fun p hp => (HPS.out p hp).2)
        obtain ⟨bs, hbs⟩ : ∃ bs, bs = bytesOf ps := ⟨_, rfl⟩
        rw [← hbs] at hob hbnl hbl ⊢
        have HBS := Lib.hid hbs
        have HO3 := Lib.hid (ownsRow_upd HO2.out (Upd.of_below (S := []) hbb) (by simp))
        have HB3 := Lib.hid (HB2.out.trans (hbb.mono HB2.out.size))
        have HOB := Lib.hid hob
        have HNL := Lib.hid hbnl
        clear hob hbb hbnl hbs HC2 HO2 HB2 HOP
        have hob2 : out.length ≤ 300000 := by omega
        go_wp2_with (at_builtin; refine wpList_append_own_at _ rfl (.tmp 29) (.tmp 43) 25 rfl w.heap.size 5 j0 _ 1 1 Try.underlying25 hj0 hy0 hy1 hy2 rfl (by decide) _ out.length (out.map (Value.int .u8)) rfl (HO3.out.alloc _) ⟨w3.heap.size, 0, none⟩ 4 4 [.int .u8 (128 + (n : Int)), .int .u8 t, .int .u8 ((bs.length : Int) / 4 / 256), .int .u8 ((bs.length : Int) / 4 % 256)] rfl rfl ?u1 ?u2 ?u3 ?u4 ?u5 ?_)
        case u1 => exact blk_src (Blk.new w3 5 _)
        case u2 => intro u hu; repeat (first | (rcases List.mem_cons.1 hu with rfl | hu; · rfl) | cases hu)
        case u3 => unfold maxLen; omega
        case u4 => omega
        case u5 => simp; have := HB3.out.size; omega
        intro v4 w4 hown4 hg4 _ hat4
        have hcb := ((((CellsIn.of_own HOB.out).upd ((Upd.refl [] w3).alloc (.cells ([.int .u8 (128 + (n : Int)), .int .u8 t, .int .u8 ((bs.length : Int) / 4 / 256), .int .u8 ((bs.length : Int) / 4 % 256)] : List Value).toArray 5)) (Nat.le_refl _) (by simp)).upd (Upd.of_grown hg4) (by simp) (fun s hs => .inl (HAV.out s (by simpa using hs)))).more (Nat.le_refl _) (Nat.le_trans (by simp) hg4.size))
        have hb4 := grown_upd (HO3.out.alloc (.cells ([.int .u8 (128 + (n : Int)), .int .u8 t, .int .u8 ((bs.length : Int) / 4 / 256), .int .u8 ((bs.length : Int) / 4 % 256)] : List Value).toArray 5)) hg4 (Nat.le_trans HB3.out.size (by simp))
        have hbel4 := (HB3.out.alloc HB3.out.size _).trans hb4
        obtain ⟨A4, c4, hv4, _⟩ := own_form hown4
        subst hv4
        have HO4 := Lib.hid hown4
        have HB4 := Lib.hid hbel4
        have HCB := Lib.hid hcb
        have HS4 := Lib.hid (show w.heap.size ≤ w4.heap.size from hbel4.size)
        clear hown4 hg4 hat4 hcb hb4 hbel4 HO3 HB3 HOB
        have hnl2 := HCB.out.1
        go_wp2_with (at_builtin; refine wpList_append_src _ rfl (.tmp 45) (.tmp 46) 25 rfl w.heap.size 5 j0 _ 1 1 Try.underlying25 hj0 hy0 hy1 hy2 rfl (by decide) (.slice A4 (out.length + 4) c4) (out.length + 4) _ rfl HO4.out Ab bs.length cb (bs.map (Value.int .u8)) rfl HNL.out hnl2 ?s1 ?s2 ?s3 ?s4 HS4.out ?_)
        case s1 => exact HCB.out.src
        case s2 => intro u hu; obtain ⟨x, _, rfl⟩ := List.mem_map.1 hu; rfl
        case s3 => unfold maxLen; omega
        case s4 => omega
        intro v5 w5 hown5 hg5 hat5
        have hb5 := grown_upd HO4.out hg5 HS4.out
        obtain ⟨A5, c5, hv5, _⟩ := own_form hown5
        subst hv5
        have hmb : msgB m = [128 + (n : Int), t, (bs.length : Int) / 4 / 256, (bs.length : Int) / 4 % 256] ++ bs := by
          unfold msgB
          rw [← HBD.out, ← HBS.out]
          dsimp only
          have e3 : ((bs.length : Int) / 4 / 256) % 256 = (bs.length : Int) / 4 / 256 := by omega
          rw [e3]
        have HO5 : Hid (w5.ownsRow w.heap.size 5 1 (.slice A5 (out.length + 4 + bs.length) c5) (out ++ msgB m).length ((out ++ msgB m).map (Value.int .u8))) := by
          have e1 : (out ++ msgB m).length = out.length + 4 + bs.length := by rw [hmb]; simp; omega
          rw [e1]
          refine Lib.hid ?_
          simp only [hmb, List.map_append, List.map_cons, List.map_nil, List.append_assoc, List.cons_append, List.nil_append] at hown5 ⊢
          exact hown5
        have HLE : Hid ((out ++ msgB m).length ≤ 5000 * (i + 1)) := by
          show _ ≤ _
          rw [hmb]; simp; omega
        have HB5 := Lib.hid (HB4.out.trans hb5)
        clear hown5 hg5 hat5 hb5 hmb hnl2
        go_wp2
        go_roundg (gk - 1)
        case measure => omega
        case rel =>
          have et : ((ms.take (i + 1)).map (·.1)) = (ms.take i).map (·.1) ++ [m] := by rw [List.take_add_one, HXI.out, Option.toList_some, List.map_append]; rfl
          refine ⟨i + 1, out ++ msgB m, by omega, by omega, by go_num, ?_, ?_, HLE.out, ?_, HB5.out⟩
          · rw [et]
            intro m' hm'
            rcases List.mem_append.1 hm' with h1 | h1
            · exact HIS.out m' h1
            · rw [List.mem_singleton] at h1; rw [h1, ← HBD.out]
          · rw [et, List.flatMap_append, ← HOUT.out]; simp
          · exact HO5.out
    · obtain rfl : i = ms.length := by omega
      rw [List.take_of_length_le (Nat.le_refl _)] at his hout
      have HO := Lib.hid hown
      have HB := Lib.hid hbel
      have HP : Hid (putM (ms.map (·.1)) = if 1500 < out.length then ([], 13) else (out, 0)) := by
        unfold putM
        rw [if_pos (List.all_eq_true.2 his), ← hout]
        exact Lib.hid rfl
      have hol2 : out.length ≤ 300000 := by omega
      clear hown hbel his hout hlt
      by_cases hbig : 1500 < out.length
      · rw [if_pos hbig] at HP
        have hb2 : (1500 : Int) < (out.length : Int) := by omega
        go_wp2
        exact bodyPost_res (v := .tuple #[.slice none 0 0, .int .i64 13]) (by simp [results, Try.results11, go_sem]) rfl ⟨_, by rw [HP.out], by rw [HP.out]; exact World.ownsRow_nil _ _ _ _, HB.out⟩
      · rw [if_neg hbig] at HP
        have hb2 : ¬ (1500 : Int) < (out.length : Int) := by omega
        go_wp2
        exact bodyPost_res (v := .tuple #[.slice Av out.length cv, .int .i64 0]) (by simp [results, Try.results11, go_sem]) rfl ⟨_, by rw [HP.out], by rw [HP.out]; exact HO.out, HB.out⟩
end Go.Proofs.Ytgkejdjdccgjbaa
