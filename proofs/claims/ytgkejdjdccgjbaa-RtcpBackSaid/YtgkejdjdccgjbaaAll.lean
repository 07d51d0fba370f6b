/- The laws' 'all': messages as the document has them. Conditions: no more than 1000 messages, their rows no longer than 100000; their numbers of their types. -/
import Derived.Test.YtgkejdjdccgjbaaOf
import Derived.Test.YtgkejdjdccgjbaaParseS
namespace Go.Proofs.Ytgkejdjdccgjbaa
open Go Go.RowKit
set_option maxHeartbeats 400000

theorem infoRM : (Try.prog.info? 50).map (fun i => (i.zero, i.size, i.bytes)) = some (some (.agg (zcells 0).toArray), 12, 144) := by kernel_rfl
theorem RfIn.upd {w w' : World} {lo lo' : Nat} {S : List Nat} {m : Mg} {h : Hd} (k : RfIn w lo m h) (u : Upd S w w') (hS : ∀ s, s ∈ S → 0 < m.reports.length → ∀ a, h.rA = some a → a.block ≠ s) (hS2 : ∀ s, s ∈ S → 0 < m.who.length → ∀ a, h.wA = some a → a.block ≠ s)
    (hS3 : ∀ s, s ∈ S → 0 < m.pairs.length → ∀ a, h.pA = some a → a.block ≠ s) (hS4 : ∀ s, s ∈ S → 0 < m.asks.length → ∀ a, h.aA = some a → a.block ≠ s) (hl : lo' ≤ lo) : RfIn w' lo' m h :=
  ⟨(k.cr.upd2 u (Nat.le_refl _) hS).more hl u.size, (k.cw.upd2 u (Nat.le_refl _) hS2).more (Nat.le_refl _) u.size, (k.cp.upd2 u (Nat.le_refl _) hS3).more hl u.size, (k.ca.upd2 u (Nat.le_refl _) hS4).more hl u.size⟩
theorem RfIn.same {w w' : World} {lo lo' : Nat} {m : Mg} {h : Hd} (k : RfIn w lo m h) (u : Upd [] w w') (hl : lo' ≤ lo) : RfIn w' lo' m h :=
  k.upd u (by simp) (by simp) (by simp) (by simp) hl
theorem RfIn.grown {w w' : World} {lo : Nat} {m : Mg} {h : Hd} {v : Value} (k : RfIn w lo m h) (f : Off v m h) (g : w.grownBy w' v.ownBlock) : RfIn w' lo m h :=
  k.upd (Upd.of_grown g) (fun s hs => f.r s (by simpa using hs)) (fun s hs => f.w s (by simpa using hs)) (fun s hs => f.p s (by simpa using hs)) (fun s hs => f.a s (by simpa using hs)) (Nat.le_refl _)
theorem RfIn.off_new {w : World} {lo : Nat} {m : Mg} {h : Hd} (k : RfIn w lo m h) (u : Value) (hu : ∀ s, u.ownBlock = some s → w.heap.size ≤ s) : Off u m h :=
  ⟨fun s hs hn a ha e => by have := k.cr.below_hi hn a ha; have := hu s hs; omega, fun s hs hn a ha e => by have := k.cw.below_hi hn a ha; have := hu s hs; omega,
   fun s hs hn a ha e => by have := k.cp.below_hi hn a ha; have := hu s hs; omega, fun s hs hn a ha e => by have := k.ca.below_hi hn a ha; have := hu s hs; omega⟩
/-- the rows of a message that was made new, but for one that lies below a block -/
theorem RfIn.off_old {w : World} {lo N : Nat} {m : Mg} {h : Hd} (k : RfIn w lo m h) (u : Value) (hu : ∀ s, u.ownBlock = some s → N ≤ s ∧ s < lo) (hw : ∀ a, h.wA = some a → 0 < m.who.length → a.block < N) : Off u m h :=
  ⟨fun s hs hn a ha e => by have := k.cr.fresh hn a ha; have := hu s hs; omega, fun s hs hn a ha e => by have := hw a ha hn; have := hu s hs; omega,
   fun s hs hn a ha e => by have := k.cp.fresh hn a ha; have := hu s hs; omega, fun s hs hn a ha e => by have := k.ca.fresh hn a ha; have := hu s hs; omega⟩
theorem all_rel {w W w8 : World} {Av : Option Addr} {i cv : Nat} {out : List (Mg × Hd)} {v8 : Value} {m : Mg} {hd : Hd} (hu : Upd [] w W) (ho : W.ownsRow w.heap.size 50 12 (.slice Av i cv) i (out.flatMap encM)) (hi : i = out.length)
    (hin : ∀ x, x ∈ out → RfIn W 0 x.1 x.2 ∧ Off (.slice Av i cv) x.1 x.2) (hn : RfIn W 0 m hd ∧ Off (.slice Av i cv) m hd) (hown8 : w8.ownsRow w.heap.size 50 12 v8 (i + 1) (out.flatMap encM ++ encM (m, hd)))
    (hg8 : W.grownBy w8 (Value.slice Av i cv).ownBlock) (hat8 : v8.ownBlock = (Value.slice Av i cv).ownBlock ∨ v8.ownBlock = some W.heap.size) :
    w8.ownsRow w.heap.size 50 12 v8 (out ++ [(m, hd)]).length ((out ++ [(m, hd)]).flatMap encM) ∧ (∀ x, x ∈ out ++ [(m, hd)] → RfIn w8 0 x.1 x.2 ∧ Off v8 x.1 x.2) ∧ Upd [] w w8 := by
  have hfl : (out ++ [(m, hd)]).flatMap encM = out.flatMap encM ++ encM (m, hd) := by simp
  have hlen' : (out ++ [(m, hd)]).length = i + 1 := by rw [List.length_append, hi]; rfl
  refine ⟨by rw [hfl, hlen']; exact hown8, fun x hx => ?_, app_upd hu ho hg8 (Nat.le_refl _)⟩
  have hk : RfIn W 0 x.1 x.2 ∧ Off (.slice Av i cv) x.1 x.2 := by
    rcases List.mem_append.1 hx with hx | hx
    · exact hin x hx
    · rw [List.mem_singleton] at hx
      subst hx
      exact hn
  refine ⟨hk.1.grown hk.2 hg8, ?_⟩
  rcases hat8 with e | e
  · exact ⟨fun s hs => hk.2.r s (by rw [← e]; exact hs), fun s hs => hk.2.w s (by rw [← e]; exact hs), fun s hs => hk.2.p s (by rw [← e]; exact hs), fun s hs => hk.2.a s (by rw [← e]; exact hs)⟩
  · exact hk.1.off_new _ (fun s hs => by rw [e] at hs; exact Nat.le_of_eq (Option.some.inj hs))
set_option maxRecDepth 100000 in
set_option maxHeartbeats 4000000 in
theorem all_any {w : World} {lo : Nat} {A : Option Addr} {cap : Nat} {ms : List (Mg × Hd)} (hc : CellsIn w lo w.heap.size 12 A ms.length (ms.flatMap encM)) (hm : ∀ x, x ∈ ms → MgIn w lo x.1 x.2 ∧ x.1.Num ∧ x.1.reports.length ≤ 100000 ∧ x.1.pairs.length ≤ 100000 ∧ x.1.asks.length ≤ 100000) (hl : ms.length ≤ 1000) :
    Calls Try.prog 13 #[.slice A ms.length cap] w fun e w' => ∃ (v : Value) (out : List (Mg × Hd)), e = .returned v ∧ out.map (·.1) = ms.map (·.1) ∧ w'.ownsRow w.heap.size 50 12 v out.length (out.flatMap encM) ∧
      (∀ x, x ∈ out → RfIn w' 0 x.1 x.2) ∧ Upd [] w w' := by
  obtain ⟨j0, hj0, hy0, hy1, hy2⟩ := info_parts infoRM
  have HC := Lib.hid hc
  have HM := Lib.hid hm
  clear hc hm
  go_enter Try.func13, Try.ntmps13
  go_wp2
  go_loopg [3, 4] ms.length (fun gk x3 x4 wr => ∃ (out : List (Mg × Hd)), out.length ≤ ms.length ∧ ms.length ≤ out.length + gk ∧ x4 = .int .i64 out.length ∧ out.map (·.1) = (ms.take out.length).map (·.1) ∧ wr.ownsRow w.heap.size 50 12 x3 out.length (out.flatMap encM) ∧
      (∀ x, x ∈ out → RfIn wr 0 x.1 x.2 ∧ Off x3 x.1 x.2) ∧ Upd [] w wr)
  case atStart => exact ⟨[], Nat.zero_le _, by simp, rfl, rfl, World.ownsRow_nil _ _ _ _, by simp, Upd.refl _ _⟩
  case round =>
    obtain ⟨out, hi, hgi, rfl, hmap, hown, hin, hu⟩ := hrel
    obtain ⟨Av, cv, hve, _⟩ := own_form hown
    subst hve
    obtain ⟨i, hie⟩ : ∃ i, i = out.length := ⟨_, rfl⟩
    rw [← hie] at hi hgi hmap hown hin ⊢
    have HIE := Lib.hid hie
    clear hie
    by_cases hlt : i < ms.length
    · obtain ⟨x, hxi⟩ : ∃ p, ms[i]? = some p := ⟨_, List.getElem?_eq_getElem hlt⟩
      obtain ⟨hmi, hnum, hl1, hl2, hl3⟩ := HM.out x (List.mem_of_getElem? hxi)
      obtain ⟨b, off, rfl, hb1, hb2, hcc⟩ := HC.out.2 (by omega)
      have c0 := (hu.cell (p := ⟨b, off + (i * 12 + 0), none⟩) hb2 (by simp)).trans (hcc (i * 12 + 0) _ (flat_get encM_len ms i 0 x hxi (by omega)))
      have c1 := (hu.cell (p := ⟨b, off + (i * 12 + 1), none⟩) hb2 (by simp)).trans (hcc (i * 12 + 1) _ (flat_get encM_len ms i 1 x hxi (by omega)))
      have c2 := (hu.cell (p := ⟨b, off + (i * 12 + 2), none⟩) hb2 (by simp)).trans (hcc (i * 12 + 2) _ (flat_get encM_len ms i 2 x hxi (by omega)))
      have c3 := (hu.cell (p := ⟨b, off + (i * 12 + 3), none⟩) hb2 (by simp)).trans (hcc (i * 12 + 3) _ (flat_get encM_len ms i 3 x hxi (by omega)))
      have c4 := (hu.cell (p := ⟨b, off + (i * 12 + 4), none⟩) hb2 (by simp)).trans (hcc (i * 12 + 4) _ (flat_get encM_len ms i 4 x hxi (by omega)))
      have c5 := (hu.cell (p := ⟨b, off + (i * 12 + 5), none⟩) hb2 (by simp)).trans (hcc (i * 12 + 5) _ (flat_get encM_len ms i 5 x hxi (by omega)))
      have c6 := (hu.cell (p := ⟨b, off + (i * 12 + 6), none⟩) hb2 (by simp)).trans (hcc (i * 12 + 6) _ (flat_get encM_len ms i 6 x hxi (by omega)))
      have c7 := (hu.cell (p := ⟨b, off + (i * 12 + 7), none⟩) hb2 (by simp)).trans (hcc (i * 12 + 7) _ (flat_get encM_len ms i 7 x hxi (by omega)))
      have c8 := (hu.cell (p := ⟨b, off + (i * 12 + 8), none⟩) hb2 (by simp)).trans (hcc (i * 12 + 8) _ (flat_get encM_len ms i 8 x hxi (by omega)))
      have c9 := (hu.cell (p := ⟨b, off + (i * 12 + 9), none⟩) hb2 (by simp)).trans (hcc (i * 12 + 9) _ (flat_get encM_len ms i 9 x hxi (by omega)))
      have c10 := (hu.cell (p := ⟨b, off + (i * 12 + 10), none⟩) hb2 (by simp)).trans (hcc (i * 12 + 10) _ (flat_get encM_len ms i 10 x hxi (by omega)))
      have c11 := (hu.cell (p := ⟨b, off + (i * 12 + 11), none⟩) hb2 (by simp)).trans (hcc (i * 12 + 11) _ (flat_get encM_len ms i 11 x hxi (by omega)))
      obtain ⟨⟨kk, m1, m2, m3, m4, m5, m6, rs, wh, ps, qs, ty⟩, ⟨rA, rc, wA, wc, pA, pc, aA, ac⟩⟩ := x
      dsimp only at hl1 hl2 hl3
      simp only [encM, mcells, List.getElem?_cons_zero, List.getElem?_cons_succ, List.getElem_cons_zero, List.getElem_cons_succ, ← Nat.add_assoc, Nat.add_zero] at c0 c1 c2 c3 c4 c5 c6 c7 c8 c9 c10 c11
      have HOF := Lib.hid (of_any (hmi.same hu (Nat.zero_le _)) hnum hl1 hl2 hl3)
      simp only [mcells] at HOF
      have hlti : (i : Int) < (ms.length : Int) := by omega
      have hw : IntKind.i64.wrap ((i : Int) + 1) = (i : Int) + 1 := IntWalk.i64_in _ (by omega)
      have HWL : Hid (∀ a, wA = some a → 0 < wh.length → a.block < w.heap.size) := Lib.hid (fun a ha hn => hmi.cw.below_hi hn a ha)
      have HOW := Lib.hid hown
      have HINR := Lib.hid hin
      have HU := Lib.hid hu
      have HXI := Lib.hid hxi
      have HMAP := Lib.hid hmap
      have HNB : Hid (∀ s, (Value.slice Av i cv).ownBlock = some s → w.heap.size ≤ s ∧ s < wr.heap.size) := Lib.hid (fun s hs => own_block_lt hown hs)
      clear hcc hown hin hu hxi hmap hmi hnum hl1 hl2 hl3
      go_wp2_with fail
      refine HOF.out.mono ?_
      rintro e w2 ⟨⟨dR, cR, dW, cW, dP, cP, dA, cA⟩, rfl, hrf, hwa, hu2⟩
      dsimp only at hwa
      have hoff := hrf.off_old (.slice Av i cv) (N := w.heap.size) HNB.out (fun a ha hn => HWL.out a (by rw [← hwa]; exact ha) hn)
      have HOA := Lib.hid ((ownsRow_upd HOW.out hu2 (by simp)).alloc (.cells #[.int .i64 kk, .int .u32 m1, .int .u32 m2, .int .u64 m3, .int .u32 m4, .int .u32 m5, .int .u32 m6, .slice dR rs.length cR, .slice dW wh.length cW, .slice dP ps.length cP, .slice dA qs.length cA, .int .u8 ty] 50))
      have HRF := Lib.hid (And.intro (hrf.same ((Upd.refl [] w2).alloc (.cells #[.int .i64 kk, .int .u32 m1, .int .u32 m2, .int .u64 m3, .int .u32 m4, .int .u32 m5, .int .u32 m6, .slice dR rs.length cR, .slice dW wh.length cW, .slice dP ps.length cP, .slice dA qs.length cA, .int .u8 ty] 50)) (Nat.zero_le _)) hoff)
      have HI2 := Lib.hid (fun x hx => (⟨(HINR.out x hx).1.same (hu2.alloc (.cells #[.int .i64 kk, .int .u32 m1, .int .u32 m2, .int .u64 m3, .int .u32 m4, .int .u32 m5, .int .u32 m6, .slice dR rs.length cR, .slice dW wh.length cW, .slice dP ps.length cP, .slice dA qs.length cA, .int .u8 ty] 50)) (Nat.le_refl _), (HINR.out x hx).2⟩ : RfIn (w2.alloc (.cells #[.int .i64 kk, .int .u32 m1, .int .u32 m2, .int .u64 m3, .int .u32 m4, .int .u32 m5, .int .u32 m6, .slice dR rs.length cR, .slice dW wh.length cW, .slice dP ps.length cP, .slice dA qs.length cA, .int .u8 ty] 50)) 0 x.1 x.2 ∧ Off (.slice Av i cv) x.1 x.2))
      have HU2 := Lib.hid ((HU.out.next hu2).alloc (.cells #[.int .i64 kk, .int .u32 m1, .int .u32 m2, .int .u64 m3, .int .u32 m4, .int .u32 m5, .int .u32 m6, .slice dR rs.length cR, .slice dW wh.length cW, .slice dP ps.length cP, .slice dA qs.length cA, .int .u8 ty] 50))
      have HNEW := Lib.hid (blk_src (Blk.new w2 50 #[.int .i64 kk, .int .u32 m1, .int .u32 m2, .int .u64 m3, .int .u32 m4, .int .u32 m5, .int .u32 m6, .slice dR rs.length cR, .slice dW wh.length cW, .slice dP ps.length cP, .slice dA qs.length cA, .int .u8 ty]))
      have HONE : Hid (∀ u ∈ ([.int .i64 kk, .int .u32 m1, .int .u32 m2, .int .u64 m3, .int .u32 m4, .int .u32 m5, .int .u32 m6, .slice dR rs.length cR, .slice dW wh.length cW, .slice dP ps.length cP, .slice dA qs.length cA, .int .u8 ty] : List Value), u.oneCell' = true) := Lib.hid (by intro u hu; repeat (first | (rcases List.mem_cons.1 hu with rfl | hu; · rfl) | cases hu))
      clear hrf hwa hu2 hoff HOF HOW HINR HU c0 c1 c2 c3 c4 c5 c6 c7 c8 c9 c10 c11
      go_wp2_with (at_builtin; refine wpList_append_own_at _ rfl (.tmp 11) (.tmp 17) 31 rfl w.heap.size 50 j0 _ 12 144 Try.underlying31 hj0 hy0 hy1 hy2 rfl (by decide) (.slice Av i cv) i (out.flatMap encM) rfl HOA.out ⟨w2.heap.size, 0, none⟩ 1 1 [.int .i64 kk, .int .u32 m1, .int .u32 m2, .int .u64 m3, .int .u32 m4, .int .u32 m5, .int .u32 m6, .slice dR rs.length cR, .slice dW wh.length cW, .slice dP ps.length cP, .slice dA qs.length cA, .int .u8 ty] rfl rfl HNEW.out HONE.out (by unfold maxLen; omega) (by omega) HU2.out.size ?_)
      intro v8 w8 hown8 hg8 _ hat8
      have HREL := Lib.hid (all_rel HU2.out HOA.out HIE.out HI2.out HRF.out hown8 hg8 (by rw [World.size_alloc]; exact hat8))
      obtain ⟨A8, c8, hv8, _⟩ := own_form hown8
      subst hv8
      clear hown8 hg8 hat8 HOA HI2 HRF HNEW HONE HU2
      go_wp2
      go_roundg (gk - 1)
      case measure => omega
      case rel =>
        refine ⟨_, ?_, ?_, ?_, ?_, HREL.out⟩
        · rw [List.length_append, ← HIE.out]; simp; omega
        · rw [List.length_append, ← HIE.out]; simp; omega
        · rw [List.length_append, ← HIE.out]; go_num
        · rw [List.length_append, ← HIE.out, List.map_append, HMAP.out]
          show _ = (ms.take (i + 1)).map (·.1)
          rw [List.take_add_one, HXI.out, List.map_append]
          rfl
    · obtain rfl : i = ms.length := by omega
      rw [List.take_length] at hmap
      have HF := Lib.hid (And.intro hmap (And.intro hown (And.intro (fun x hx => (hin x hx).1) hu)))
      clear hmap hown hin hu hgi hi hlt
      go_wp2
      have HG : Hid (w.heap.size ≤ wr.heap.size ∧ wr.ownsRow w.heap.size 50 12 (.slice Av ms.length cv) out.length (out.flatMap encM)) := by
        rw [← HIE.out]
        exact Lib.hid ⟨HF.out.2.2.2.size, HF.out.2.1⟩
      refine bodyPost_res (v := .slice Av ms.length cv) (by simp [results, Try.results13, go_sem]) rfl ?_
      first
        | exact ⟨_, out, rfl, HF.out.1, HG.out.2, HF.out.2.2⟩
        | exact ⟨_, rfl, out, HF.out.1, HG.out.2, HF.out.2.2⟩
        | exact ⟨_, rfl, out, HF.out.1, HG.out.2, fun a b hab => HF.out.2.2.1 (a, b) hab, HF.out.2.2.2⟩
        | exact ⟨_, out, rfl, HF.out.1, HG.out.2, fun a b hab => HF.out.2.2.1 (a, b) hab, HF.out.2.2.2⟩
end Go.Proofs.Ytgkejdjdccgjbaa
