/- Parts of the proof, one behind the other: ParseS, All, SPuts, Open, Open2, ROpen. No condition of their own. -/
import Derived.Test.YtgkejdjdccgjbaaB7
import Derived.Test.YtgkejdjdccgjbaaB5
import Derived.Test.YtgkejdjdccgjbaaB6
import Derived.Test.YtgkejdjdccgjbaaB4
import Derived.Test.YtgkejdjdccgjbaaB1
import Derived.Deep.Slices
import Derived.Deep.Fields
import Derived.ChangeSame
import Derived.ProofKit
import Derived.OpenShut
import Derived.Test.YtgkejdjdccgjbaaB3
/- rtcp's Parse: its answer as a function of bytes, step by step, and what a round of its loop keeps. Plain laws. (Written by wip/gen/rtcpparseg.py.) -/
namespace Go.Proofs.Ytgkejdjdccgjbaa
open Go Go.RowKit
set_option maxHeartbeats 400000

/-- a message's rows lie in other blocks than a slice of the call's own -/
structure Off (v : Value) (m : Mg) (h : Hd) : Prop where
  r : ∀ s, v.ownBlock = some s → 0 < m.reports.length → ∀ a, h.rA = some a → a.block ≠ s
  w : ∀ s, v.ownBlock = some s → 0 < m.who.length → ∀ a, h.wA = some a → a.block ≠ s
  p : ∀ s, v.ownBlock = some s → 0 < m.pairs.length → ∀ a, h.pA = some a → a.block ≠ s
  a : ∀ s, v.ownBlock = some s → 0 < m.asks.length → ∀ a, h.aA = some a → a.block ≠ s
theorem CellsIn.below_hi {w : World} {lo hi size n : Nat} {A : Option Addr} {xs : List Value} (h : CellsIn w lo hi size A n xs) (hn : 0 < n) : ∀ a, A = some a → a.block < hi := by
  intro a ha
  obtain ⟨b, off, e, _, h2, _⟩ := h.2 hn
  rw [ha] at e
  obtain rfl := Option.some.inj e
  exact h2
theorem MgIn.off_new {w : World} {lo : Nat} {m : Mg} {h : Hd} (k : MgIn w lo m h) (u : Value) (hu : ∀ s, u.ownBlock = some s → w.heap.size ≤ s) : Off u m h :=
  ⟨fun s hs hn a ha e => by have := k.cr.below_hi hn a ha; have := hu s hs; omega, fun s hs hn a ha e => by have := k.cw.below_hi hn a ha; have := hu s hs; omega,
   fun s hs hn a ha e => by have := k.cp.below_hi hn a ha; have := hu s hs; omega, fun s hs hn a ha e => by have := k.ca.below_hi hn a ha; have := hu s hs; omega⟩
theorem MgIn.off_old {w : World} {lo : Nat} {m : Mg} {h : Hd} (k : MgIn w lo m h) (u : Value) (hu : ∀ s, u.ownBlock = some s → s < lo) : Off u m h :=
  ⟨fun s hs hn a ha e => by have := k.cr.fresh hn a ha; have := hu s hs; omega, fun s hs hn a ha e => by have := k.cw.fresh hn a ha; have := hu s hs; omega,
   fun s hs hn a ha e => by have := k.cp.fresh hn a ha; have := hu s hs; omega, fun s hs hn a ha e => by have := k.ca.fresh hn a ha; have := hu s hs; omega⟩
theorem MgIn.grown {w w' : World} {lo : Nat} {m : Mg} {h : Hd} {v : Value} (k : MgIn w lo m h) (f : Off v m h) (g : w.grownBy w' v.ownBlock) : MgIn w' lo m h :=
  k.upd (Upd.of_grown g) (fun s hs => f.r s (by simpa using hs)) (fun s hs => f.w s (by simpa using hs)) (fun s hs => f.p s (by simpa using hs)) (fun s hs => f.a s (by simpa using hs)) (Nat.le_refl _)
theorem MgIn.same {w w' : World} {lo lo' : Nat} {m : Mg} {h : Hd} (k : MgIn w lo m h) (u : Upd [] w w') (hl : lo' ≤ lo) : MgIn w' lo' m h :=
  k.upd u (by simp) (by simp) (by simp) (by simp) hl
theorem ownsRow_lower {w : World} {B B' : Nat} {e : TypeId} {size n : Nat} {v : Value} {xs : List Value} (h : w.ownsRow B e size v n xs) (hB : B' ≤ B) : w.ownsRow B' e size v n xs :=
  ⟨h.1, h.2.imp id fun ⟨g, cap, cur, hv, hg, r⟩ => ⟨g, cap, cur, hv, Nat.le_trans hB hg, r⟩⟩
theorem parseA_err {f : Nat} {out : List Mg} {xs : List Int} {e : Int} (h : stepM xs = .error e) : parseA (f + 1) out xs = ([], e) := by
  show (match stepM xs with | .error e => ([], e) | .ok (m, rest) => if rest.length = 0 then (out ++ [m], 0) else parseA f (out ++ [m]) rest) = _
  rw [h]
theorem parseA_ok {f : Nat} {out : List Mg} {xs rest : List Int} {m : Mg} (h : stepM xs = .ok (m, rest)) : parseA (f + 1) out xs = if rest.length = 0 then (out ++ [m], 0) else parseA f (out ++ [m]) rest := by
  show (match stepM xs with | .error e => ([], e) | .ok (m, rest) => if rest.length = 0 then (out ++ [m], 0) else parseA f (out ++ [m]) rest) = _
  rw [h]
theorem stepM_short {xs : List Int} (h : xs.length < 4) : stepM xs = .error 10 := by
  match xs, h with
  | [], _ => rfl
  | [_], _ => rfl
  | [_, _], _ => rfl
  | [_, _, _], _ => rfl
theorem stepM_form {x0 x1 x2 x3 : Int} {rest : List Int} (h : isM [x0, x1, x2, x3] = false) : stepM (x0 :: x1 :: x2 :: x3 :: rest) = .error 11 := by
  show (if isM [x0, x1, x2, x3] = true then _ else _) = _
  rw [if_neg (by rw [h]; decide)]
theorem stepM_cut {x0 x1 x2 x3 : Int} {rest : List Int} (h : isM [x0, x1, x2, x3] = true) (hn : rest.length < 4 * (x2.toNat * 256 + x3.toNat)) : stepM (x0 :: x1 :: x2 :: x3 :: rest) = .error 10 := by
  show (if isM [x0, x1, x2, x3] = true then _ else _) = _
  rw [if_pos h, if_pos hn]
theorem stepM_pad {x0 x1 x2 x3 : Int} {rest : List Int} (h : isM [x0, x1, x2, x3] = true) (hn : ¬ rest.length < 4 * (x2.toNat * 256 + x3.toNat))
    (hb : bodyOf x0 (rest.take (4 * (x2.toNat * 256 + x3.toNat))) (decide ((rest.drop (4 * (x2.toNat * 256 + x3.toNat))).length = 0)) = none) : stepM (x0 :: x1 :: x2 :: x3 :: rest) = .error 11 := by
  show (if isM [x0, x1, x2, x3] = true then _ else _) = _
  rw [if_pos h, if_neg hn, hb]
theorem stepM_read {x0 x1 x2 x3 : Int} {rest b : List Int} (h : isM [x0, x1, x2, x3] = true) (hn : ¬ rest.length < 4 * (x2.toNat * 256 + x3.toNat))
    (hb : bodyOf x0 (rest.take (4 * (x2.toNat * 256 + x3.toNat))) (decide ((rest.drop (4 * (x2.toNat * 256 + x3.toNat))).length = 0)) = some b) :
    stepM (x0 :: x1 :: x2 :: x3 :: rest) = if (readM x1 (x0 % 32).toNat b).2 = 0 then .ok ((readM x1 (x0 % 32).toNat b).1, rest.drop (4 * (x2.toNat * 256 + x3.toNat))) else .error (readM x1 (x0 % 32).toNat b).2 := by
  show (if isM [x0, x1, x2, x3] = true then _ else _) = _
  rw [if_pos h, if_neg hn, hb]
theorem cutM_sub {xs ys : List Int} {l : Bool} (h : cutM xs l = some ys) : l = true ∧ ∃ k, ys = xs.take k := by
  unfold cutM at h
  split at h
  · cases h
  · rename_i hh
    dsimp only at h
    split at h
    · cases h
    · exact ⟨by cases l <;> simp_all, _, (Option.some.inj h).symm⟩
theorem round_rel {w W w9 : World} {c N1 L gk f n4 lo4 cv : Nat} {R : List Mg × Int} {Av : Option Addr} {out : List (Mg × Hd)} {v9 : Value} {rd : Rw} {m : Mg} {hd : Hd} {body : List Int}
    (HUD : Upd [] w W) (HOWD : W.ownsRow N1 59 12 (.slice Av out.length cv) out.length (out.flatMap encM)) (HCD : CutIs W c w.heap.size rd 0) (HMD : ∀ x, x ∈ out → MgIn W N1 x.1 x.2 ∧ Off (.slice Av out.length cv) x.1 x.2)
    (HIND : MgIn W lo4 m hd) (hN4 : N1 ≤ lo4) (HOLD : ∀ s, (Value.slice Av out.length cv).ownBlock = some s → s < lo4) (HROW : ∀ a, rd.A = some a → a.block < N1) (HSZ : N1 ≤ W.heap.size) (HWN : w.heap.size ≤ N1) (h1 : 4 * out.length + (body.length + 4) ≤ L)
    (h2 : body.length + 4 ≤ gk) (h3 : body.length + 4 < f + 1) (HBD : Byt body) (HRD : rd.xs = body.drop n4) (hpo : R = if (body.drop n4).length = 0 then (out.map (·.1) ++ [m], 0) else parseA f (out.map (·.1) ++ [m]) (body.drop n4))
    (hown9 : w9.ownsRow N1 59 12 v9 (out.length + 1) (out.flatMap encM ++ encM (m, hd))) (hg9 : W.grownBy w9 (Value.slice Av out.length cv).ownBlock) (hat9 : v9.ownBlock = (Value.slice Av out.length cv).ownBlock ∨ v9.ownBlock = some W.heap.size) :
    (∃ (re : Rw) (out : List (Mg × Hd)) (f : Nat), CutIs w9 c w.heap.size re 0 ∧ Byt re.xs ∧ 4 * out.length + re.xs.length ≤ L ∧ re.xs.length ≤ gk - 1 ∧ (re.xs.length = 0 → L = 0) ∧ re.xs.length < f ∧ parseA f (out.map (·.1)) re.xs = R ∧
        w9.ownsRow N1 59 12 v9 out.length (out.flatMap encM) ∧ (∀ x, x ∈ out → MgIn w9 N1 x.1 x.2 ∧ Off v9 x.1 x.2) ∧ (∀ a, re.A = some a → a.block < N1) ∧ N1 ≤ w9.heap.size ∧ Upd [] w w9) ∨
      (∃ (re : Rw) (out : List (Mg × Hd)), CutIs w9 c w.heap.size re 0 ∧ re.xs = [] ∧ 0 < L ∧ R = (out.map (·.1), 0) ∧ w9.ownsRow w.heap.size 59 12 v9 out.length (out.flatMap encM) ∧ (∀ x, x ∈ out → MgIn w9 w.heap.size x.1 x.2) ∧ Upd [] w w9) := by
  have hu9 := app_upd HUD HOWD hg9 HWN
  have hcut9 : CutIs w9 c w.heap.size rd 0 := by
    have hno : c ∉ (Value.slice Av out.length cv).ownBlock.toList := fun hm => by
      obtain ⟨cur, hcur⟩ := row_type HOWD c (by simpa using hm)
      exact (hcur.ne HCD.bl (by decide)) rfl
    exact ⟨HCD.bl.upd (Upd.of_grown hg9) hno, HCD.row.upd2 (Upd.of_grown hg9) (fun s hs a ha e => by
      have h1 := HROW a ha
      have h2 := (own_block_lt HOWD (by simpa using hs)).1
      omega), HCD.ap, HCD.fm⟩
  have hoff : Off (.slice Av out.length cv) m hd := HIND.off_old _ HOLD
  have hmi9 : ∀ x, x ∈ out ++ [(m, hd)] → MgIn w9 N1 x.1 x.2 ∧ Off v9 x.1 x.2 := by
    intro x hx
    have hk : ∃ l, N1 ≤ l ∧ MgIn W l x.1 x.2 ∧ Off (.slice Av out.length cv) x.1 x.2 := by
      rcases List.mem_append.1 hx with hx | hx
      · exact ⟨N1, Nat.le_refl _, HMD x hx⟩
      · rw [List.mem_singleton] at hx
        subst hx
        exact ⟨_, hN4, HIND, hoff⟩
    obtain ⟨l, hNl, hk1, hk2⟩ := hk
    refine ⟨(hk1.grown hk2 hg9).same (Upd.refl _ _) hNl, ?_⟩
    rcases hat9 with e | e
    · exact ⟨fun s hs => hk2.r s (by rw [← e]; exact hs), fun s hs => hk2.w s (by rw [← e]; exact hs), fun s hs => hk2.p s (by rw [← e]; exact hs), fun s hs => hk2.a s (by rw [← e]; exact hs)⟩
    · exact hk1.off_new _ (fun s hs => by rw [e] at hs; exact Nat.le_of_eq (Option.some.inj hs))
  have hfl : (out ++ [(m, hd)]).flatMap encM = out.flatMap encM ++ encM (m, hd) := by simp
  have hlen' : (out ++ [(m, hd)]).length = out.length + 1 := by rw [List.length_append]; rfl
  have hown9' : w9.ownsRow N1 59 12 v9 (out ++ [(m, hd)]).length ((out ++ [(m, hd)]).flatMap encM) := by rw [hfl, hlen']; exact hown9
  rw [← HRD] at hpo
  have hrl : rd.xs.length = body.length - n4 := by rw [HRD, List.length_drop]
  have hbyr : Byt rd.xs := by rw [HRD]; intro z hz; exact HBD z (List.mem_of_mem_drop hz)
  have hmap : (out ++ [(m, hd)]).map (·.1) = out.map (·.1) ++ [m] := by rw [List.map_append]; rfl
  by_cases hz : rd.xs.length = 0
  · rw [if_pos hz] at hpo
    exact .inr ⟨rd, out ++ [(m, hd)], hcut9, List.eq_nil_of_length_eq_zero hz, by omega, by rw [hmap]; exact hpo, ownsRow_lower hown9' HWN, fun x hx => (hmi9 x hx).1.same (Upd.refl _ _) HWN, hu9⟩
  · rw [if_neg hz] at hpo
    exact .inl ⟨rd, out ++ [(m, hd)], f, hcut9, hbyr, by rw [hlen']; omega, by omega, fun hh => absurd hh hz, by omega, by rw [hmap]; exact hpo.symm, hown9', hmi9, HROW, Nat.le_trans HSZ hg9.size, hu9⟩
end Go.Proofs.Ytgkejdjdccgjbaa
/- The laws' 'all': messages as the document has them. Conditions: no more than 1000 messages, their rows no longer than 100000; their numbers of their types. -/
namespace Go.Proofs.Ytgkejdjdccgjbaa
open Go Go.RowKit
set_option maxHeartbeats 400000

theorem infoRM : (Try.prog.info? 50).map (fun i => (i.zero, i.size, i.bytes)) = some (some (.agg (zcells 0).toArray), 12, 144) := by kernel_rfl
theorem RfIn.upd {w w' : World} {lo lo' : Nat} {S : List Nat} {m : Mg} {h : Hd} (k : RfIn w lo m h) (u : Upd S w w') (hS : ∀ s, s ∈ S → 0 < m.reports.length → ∀ a, h.rA = some a → a.block ≠ s) (hS2 : ∀ s, s ∈ S → 0 < m.who.length → ∀ a, h.wA = some a → a.block ≠ s)
    (hS3 : ∀ s, s ∈ S → 0 < m.pairs.length → ∀ a, h.pA = some a → a.block ≠ s) (hS4 : ∀ s, s ∈ S → 0 < m.asks.length → ∀ a, h.aA = some a → a.block ≠ s) (hl : lo' ≤ lo) : RfIn w' lo' m h :=
  ⟨(k.cr.upd2 u (Nat.le_refl _) hS).more hl u.size, (k.cw.upd2 u (Nat.le_refl _) hS2).more (Nat.le_refl _) u.size, (k.cp.upd2 u (Nat.le_refl _) hS3).more hl u.size, (k.ca.upd2 u (Nat.le_refl _) hS4).more hl u.size⟩
theorem RfIn.same {w w' : World} {lo lo' : Nat} {m : Mg} {h : Hd} (k : RfIn w lo m h) (u : Upd [] w w') (hl : lo' ≤ lo) : RfIn w' lo' m h :=
  k.upd u (by simp) (by simp) (by simp) (by simp) hl
theorem RfIn.grown {w w' : World} {lo : Nat} {m : Mg} {h : Hd} {v : Value} (k : RfIn w lo m h) (f : Off v m h) (g : w.grownBy w' v.ownBlock) : RfIn w' lo m h :=
  k.upd (Upd.of_grown g) (fun s hs => f.r s (by simpa using hs)) (fun s hs => f.w s (by simpa using hs)) (fun s hs => f.p s (by simpa using hs)) (fun s hs => f.a s (by simpa using hs)) (Nat.le_refl _)
theorem RfIn.off_new {w : World} {lo : Nat} {m : Mg} {h : Hd} (k : RfIn w lo m h) (u : Value) (hu : ∀ s, u.ownBlock = some s → w.heap.size ≤ s) : Off u m h :=
  ⟨fun s hs hn a ha e => by have := k.cr.below_hi hn a ha; have := hu s hs; omega, fun s hs hn a ha e => by have := k.cw.below_hi hn a ha; have := hu s hs; omega,
   fun s hs hn a ha e => by have := k.cp.below_hi hn a ha; have := hu s hs; omega, fun s hs hn a ha e => by have := k.ca.below_hi hn a ha; have := hu s hs; omega⟩
/-- the rows of a message that was made new, but for one that lies below a block -/
theorem RfIn.off_old {w : World} {lo N : Nat} {m : Mg} {h : Hd} (k : RfIn w lo m h) (u : Value) (hu : ∀ s, u.ownBlock = some s → N ≤ s ∧ s < lo) (hw : ∀ a, h.wA = some a → 0 < m.who.length → a.block < N) : Off u m h :=
  ⟨fun s hs hn a ha e => by have := k.cr.fresh hn a ha; have := hu s hs; omega, fun s hs hn a ha e => by have := hw a ha hn; have := hu s hs; omega,
   fun s hs hn a ha e => by have := k.cp.fresh hn a ha; have := hu s hs; omega, fun s hs hn a ha e => by have := k.ca.fresh hn a ha; have := hu s hs; omega⟩
theorem all_rel {w W w8 : World} {Av : Option Addr} {i cv : Nat} {out : List (Mg × Hd)} {v8 : Value} {m : Mg} {hd : Hd} (hu : Upd [] w W) (ho : W.ownsRow w.heap.size 50 12 (.slice Av i cv) i (out.flatMap encM)) (hi : i = out.length)
    (hin : ∀ x, x ∈ out → RfIn W 0 x.1 x.2 ∧ Off (.slice Av i cv) x.1 x.2) (hn : RfIn W 0 m hd ∧ Off (.slice Av i cv) m hd) (hown8 : w8.ownsRow w.heap.size 50 12 v8 (i + 1) (out.flatMap encM ++ encM (m, hd)))
    (hg8 : W.grownBy w8 (Value.slice Av i cv).ownBlock) (hat8 : v8.ownBlock = (Value.slice Av i cv).ownBlock ∨ v8.ownBlock = some W.heap.size) :
    w8.ownsRow w.heap.size 50 12 v8 (out ++ [(m, hd)]).length ((out ++ [(m, hd)]).flatMap encM) ∧ (∀ x, x ∈ out ++ [(m, hd)] → RfIn w8 0 x.1 x.2 ∧ Off v8 x.1 x.2) ∧ Upd [] w w8 := by
  have hfl : (out ++ [(m, hd)]).flatMap encM = out.flatMap encM ++ encM (m, hd) := by simp
  have hlen' : (out ++ [(m, hd)]).length = i + 1 := by rw [List.length_append, hi]; rfl
  refine ⟨by rw [hfl, hlen']; exact hown8, fun x hx => ?_, app_upd hu ho hg8 (Nat.le_refl _)⟩
  have hk : RfIn W 0 x.1 x.2 ∧ Off (.slice Av i cv) x.1 x.2 := by
    rcases List.mem_append.1 hx with hx | hx
    · exact hin x hx
    · rw [List.mem_singleton] at hx
      subst hx
      exact hn
  refine ⟨hk.1.grown hk.2 hg8, ?_⟩
  rcases hat8 with e | e
  · exact ⟨fun s hs => hk.2.r s (by rw [← e]; exact hs), fun s hs => hk.2.w s (by rw [← e]; exact hs), fun s hs => hk.2.p s (by rw [← e]; exact hs), fun s hs => hk.2.a s (by rw [← e]; exact hs)⟩
  · exact hk.1.off_new _ (fun s hs => by rw [e] at hs; exact Nat.le_of_eq (Option.some.inj hs))
set_option maxRecDepth 100000 in
set_option maxHeartbeats 4000000 in
theorem all_any {w : World} {lo : Nat} {A : Option Addr} {cap : Nat} {ms : List (Mg × Hd)} (hc : CellsIn w lo w.heap.size 12 A ms.length (ms.flatMap encM)) (hm : ∀ x, x ∈ ms → MgIn w lo x.1 x.2 ∧ x.1.Num ∧ x.1.reports.length ≤ 100000 ∧ x.1.pairs.length ≤ 100000 ∧ x.1.asks.length ≤ 100000) (hl : ms.length ≤ 1000) :
    Calls Try.prog 13 #[.slice A ms.length cap] w fun e w' => ∃ (v : Value) (out : List (Mg × Hd)), e = .returned v ∧ out.map (·.1) = ms.map (·.1) ∧ w'.ownsRow w.heap.size 50 12 v out.length (out.flatMap encM) ∧
      (∀ x, x ∈ out → RfIn w' 0 x.1 x.2) ∧ Upd [] w w' := by
  obtain ⟨j0, hj0, hy0, hy1, hy2⟩ := info_parts infoRM
  have HC := Lib.hid hc
  have HM := Lib.hid hm
  clear hc hm
  go_enter Try.func13, Try.ntmps13
  go_wp2
  go_loopg [3, 4] ms.length (fun gk x3 x4 wr => ∃ (out : List (Mg × Hd)), out.length ≤ ms.length ∧ ms.length ≤ out.length + gk ∧ x4 = .int .i64 out.length ∧ out.map (·.1) = (ms.take out.length).map (·.1) ∧ wr.ownsRow w.heap.size 50 12 x3 out.length (out.flatMap encM) ∧
      (∀ x, x ∈ out → RfIn wr 0 x.1 x.2 ∧ Off x3 x.1 x.2) ∧ Upd [] w wr)
  case atStart => exact ⟨[], Nat.zero_le _, by simp, rfl, rfl, World.ownsRow_nil _ _ _ _, by simp, Upd.refl _ _⟩
  case round =>
    obtain ⟨out, hi, hgi, rfl, hmap, hown, hin, hu⟩ := hrel
    obtain ⟨Av, cv, hve, _⟩ := own_form hown
    subst hve
    obtain ⟨i, hie⟩ : ∃ i, i = out.length := ⟨_, rfl⟩
    rw [← hie] at hi hgi hmap hown hin ⊢
    have HIE := Lib.hid hie
    clear hie
    by_cases hlt : i < ms.length
    · obtain ⟨x, hxi⟩ : ∃ p, ms[i]? = some p := ⟨_, List.getElem?_eq_getElem hlt⟩
      obtain ⟨hmi, hnum, hl1, hl2, hl3⟩ := HM.out x (List.mem_of_getElem? hxi)
      obtain ⟨b, off, rfl, hb1, hb2, hcc⟩ := HC.out.2 (by omega)
      have c0 := (hu.cell (p := ⟨b, off + (i * 12 + 0), none⟩) hb2 (by simp)).trans (hcc (i * 12 + 0) _ (flat_get encM_len ms i 0 x hxi (by omega)))
      have c1 := (hu.cell (p := ⟨b, off + (i * 12 + 1), none⟩) hb2 (by simp)).trans (hcc (i * 12 + 1) _ (flat_get encM_len ms i 1 x hxi (by omega)))
      have c2 := (hu.cell (p := ⟨b, off + (i * 12 + 2), none⟩) hb2 (by simp)).trans (hcc (i * 12 + 2) _ (flat_get encM_len ms i 2 x hxi (by omega)))
      have c3 := (hu.cell (p := ⟨b, off + (i * 12 + 3), none⟩) hb2 (by simp)).trans (hcc (i * 12 + 3) _ (flat_get encM_len ms i 3 x hxi (by omega)))
      have c4 := (hu.cell (p := ⟨b, off + (i * 12 + 4), none⟩) hb2 (by simp)).trans (hcc (i * 12 + 4) _ (flat_get encM_len ms i 4 x hxi (by omega)))
      have c5 := (hu.cell (p := ⟨b, off + (i * 12 + 5), none⟩) hb2 (by simp)).trans (hcc (i * 12 + 5) _ (flat_get encM_len ms i 5 x hxi (by omega)))
      have c6 := (hu.cell (p := ⟨b, off + (i * 12 + 6), none⟩) hb2 (by simp)).trans (hcc (i * 12 + 6) _ (flat_get encM_len ms i 6 x hxi (by omega)))
      have c7 := (hu.cell (p := ⟨b, off + (i * 12 + 7), none⟩) hb2 (by simp)).trans (hcc (i * 12 + 7) _ (flat_get encM_len ms i 7 x hxi (by omega)))
      have c8 := (hu.cell (p := ⟨b, off + (i * 12 + 8), none⟩) hb2 (by simp)).trans (hcc (i * 12 + 8) _ (flat_get encM_len ms i 8 x hxi (by omega)))
      have c9 := (hu.cell (p := ⟨b, off + (i * 12 + 9), none⟩) hb2 (by simp)).trans (hcc (i * 12 + 9) _ (flat_get encM_len ms i 9 x hxi (by omega)))
      have c10 := (hu.cell (p := ⟨b, off + (i * 12 + 10), none⟩) hb2 (by simp)).trans (hcc (i * 12 + 10) _ (flat_get encM_len ms i 10 x hxi (by omega)))
      have c11 := (hu.cell (p := ⟨b, off + (i * 12 + 11), none⟩) hb2 (by simp)).trans (hcc (i * 12 + 11) _ (flat_get encM_len ms i 11 x hxi (by omega)))
      obtain ⟨⟨kk, m1, m2, m3, m4, m5, m6, rs, wh, ps, qs, ty⟩, ⟨rA, rc, wA, wc, pA, pc, aA, ac⟩⟩ := x
      dsimp only at hl1 hl2 hl3
      simp only [encM, mcells, List.getElem?_cons_zero, List.getElem?_cons_succ, List.getElem_cons_zero, List.getElem_cons_succ, ← Nat.add_assoc, Nat.add_zero] at c0 c1 c2 c3 c4 c5 c6 c7 c8 c9 c10 c11
      have HOF := Lib.hid (of_any (hmi.same hu (Nat.zero_le _)) hnum hl1 hl2 hl3)
      simp only [mcells] at HOF
      have hlti : (i : Int) < (ms.length : Int) := by omega
      have hw : IntKind.i64.wrap ((i : Int) + 1) = (i : Int) + 1 := IntWalk.i64_in _ (by omega)
      have HWL : Hid (∀ a, wA = some a → 0 < wh.length → a.block < w.heap.size) := Lib.hid (fun a ha hn => hmi.cw.below_hi hn a ha)
      have HOW := Lib.hid hown
      have HINR := Lib.hid hin
      have HU := Lib.hid hu
      have HXI := Lib.hid hxi
      have HMAP := Lib.hid hmap
      have HNB : Hid (∀ s, (Value.slice Av i cv).ownBlock = some s → w.heap.size ≤ s ∧ s < wr.heap.size) := Lib.hid (fun s hs => own_block_lt hown hs)
      clear hcc hown hin hu hxi hmap hmi hnum hl1 hl2 hl3
      go_wp2_with fail
      refine HOF.out.mono ?_
      rintro e w2 ⟨⟨dR, cR, dW, cW, dP, cP, dA, cA⟩, rfl, hrf, hwa, hu2⟩
      dsimp only at hwa
      have hoff := hrf.off_old (.slice Av i cv) (N := w.heap.size) HNB.out (fun a ha hn => HWL.out a (by rw [← hwa]; exact ha) hn)
      have HOA := Lib.hid ((ownsRow_upd HOW.out hu2 (by simp)).alloc (.cells #[.int .i64 kk, .int .u32 m1, .int .u32 m2, .int .u64 m3, .int .u32 m4, .int .u32 m5, .int .u32 m6, .slice dR rs.length cR, .slice dW wh.length cW, .slice dP ps.length cP, .slice dA qs.length cA, .int .u8 ty] 50))
      have HRF := Lib.hid (And.intro (hrf.same ((Upd.refl [] w2).alloc (.cells #[.int .i64 kk, .int .u32 m1, .int .u32 m2, .int .u64 m3, .int .u32 m4, .int .u32 m5, .int .u32 m6, .slice dR rs.length cR, .slice dW wh.length cW, .slice dP ps.length cP, .slice dA qs.length cA, .int .u8 ty] 50)) (Nat.zero_le _)) hoff)
      have HI2 := Lib.hid (fun x hx => (⟨(HINR.out x hx).1.same (hu2.alloc (.cells #[.int .i64 kk, .int .u32 m1, .int .u32 m2, .int .u64 m3, .int .u32 m4, .int .u32 m5, .int .u32 m6, .slice dR rs.length cR, .slice dW wh.length cW, .slice dP ps.length cP, .slice dA qs.length cA, .int .u8 ty] 50)) (Nat.le_refl _), (HINR.out x hx).2⟩ : RfIn (w2.alloc (.cells #[.int .i64 kk, .int .u32 m1, .int .u32 m2, .int .u64 m3, .int .u32 m4, .int .u32 m5, .int .u32 m6, .slice dR rs.length cR, .slice dW wh.length cW, .slice dP ps.length cP, .slice dA qs.length cA, .int .u8 ty] 50)) 0 x.1 x.2 ∧ Off (.slice Av i cv) x.1 x.2))
      have HU2 := Lib.hid ((HU.out.next hu2).alloc (.cells #[.int .i64 kk, .int .u32 m1, .int .u32 m2, .int .u64 m3, .int .u32 m4, .int .u32 m5, .int .u32 m6, .slice dR rs.length cR, .slice dW wh.length cW, .slice dP ps.length cP, .slice dA qs.length cA, .int .u8 ty] 50))
      have HNEW := Lib.hid (blk_src (Blk.new w2 50 #[.int .i64 kk, .int .u32 m1, .int .u32 m2, .int .u64 m3, .int .u32 m4, .int .u32 m5, .int .u32 m6, .slice dR rs.length cR, .slice dW wh.length cW, .slice dP ps.length cP, .slice dA qs.length cA, .int .u8 ty]))
      have HONE : Hid (∀ u ∈ ([.int .i64 kk, .int .u32 m1, .int .u32 m2, .int .u64 m3, .int .u32 m4, .int .u32 m5, .int .u32 m6, .slice dR rs.length cR, .slice dW wh.length cW, .slice dP ps.length cP, .slice dA qs.length cA, .int .u8 ty] : List Value), u.oneCell' = true) := Lib.hid (by intro u hu; repeat (first | (rcases List.mem_cons.1 hu with rfl | hu; · rfl) | cases hu))
      clear hrf hwa hu2 hoff HOF HOW HINR HU c0 c1 c2 c3 c4 c5 c6 c7 c8 c9 c10 c11
      go_wp2_with (at_builtin; refine wpList_append_own_at _ rfl (.tmp 11) (.tmp 17) 31 rfl w.heap.size 50 j0 _ 12 144 Try.underlying31 hj0 hy0 hy1 hy2 rfl (by decide) (.slice Av i cv) i (out.flatMap encM) rfl HOA.out ⟨w2.heap.size, 0, none⟩ 1 1 [.int .i64 kk, .int .u32 m1, .int .u32 m2, .int .u64 m3, .int .u32 m4, .int .u32 m5, .int .u32 m6, .slice dR rs.length cR, .slice dW wh.length cW, .slice dP ps.length cP, .slice dA qs.length cA, .int .u8 ty] rfl rfl HNEW.out HONE.out (by unfold maxLen; omega) (by omega) HU2.out.size ?_)
      intro v8 w8 hown8 hg8 _ hat8
      have HREL := Lib.hid (all_rel HU2.out HOA.out HIE.out HI2.out HRF.out hown8 hg8 (by rw [World.size_alloc]; exact hat8))
      obtain ⟨A8, c8, hv8, _⟩ := own_form hown8
      subst hv8
      clear hown8 hg8 hat8 HOA HI2 HRF HNEW HONE HU2
      go_wp2
      go_roundg (gk - 1)
      case measure => omega
      case rel =>
        refine ⟨_, ?_, ?_, ?_, ?_, HREL.out⟩
        · rw [List.length_append, ← HIE.out]; simp; omega
        · rw [List.length_append, ← HIE.out]; simp; omega
        · rw [List.length_append, ← HIE.out]; go_num
        · rw [List.length_append, ← HIE.out, List.map_append, HMAP.out]
          show _ = (ms.take (i + 1)).map (·.1)
          rw [List.take_add_one, HXI.out, List.map_append]
          rfl
    · obtain rfl : i = ms.length := by omega
      rw [List.take_length] at hmap
      have HF := Lib.hid (And.intro hmap (And.intro hown (And.intro (fun x hx => (hin x hx).1) hu)))
      clear hmap hown hin hu hgi hi hlt
      go_wp2
      have HG : Hid (w.heap.size ≤ wr.heap.size ∧ wr.ownsRow w.heap.size 50 12 (.slice Av ms.length cv) out.length (out.flatMap encM)) := by
        rw [← HIE.out]
        exact Lib.hid ⟨HF.out.2.2.2.size, HF.out.2.1⟩
      refine bodyPost_res (v := .slice Av ms.length cv) (by simp [results, Try.results13, go_sem]) rfl ?_
      first
        | exact ⟨_, out, rfl, HF.out.1, HG.out.2, HF.out.2.2⟩
        | exact ⟨_, rfl, out, HF.out.1, HG.out.2, HF.out.2.2⟩
        | exact ⟨_, rfl, out, HF.out.1, HG.out.2, fun a b hab => HF.out.2.2.1 (a, b) hab, HF.out.2.2.2⟩
        | exact ⟨_, out, rfl, HF.out.1, HG.out.2, fun a b hab => HF.out.2.2.1 (a, b) hab, HF.out.2.2.2⟩
end Go.Proofs.Ytgkejdjdccgjbaa
/- RtcpPuts: the document's Put, and the walk. Conditions: no more than 60 messages, their rows no longer than 60. -/
namespace Go.Proofs.Ytgkejdjdccgjbaa
open Go Go.RowKit
set_option maxHeartbeats 400000
theorem msgB_len {m : Mg} (h : m.Ok) : (msgB m).length ≤ 4004 := by
  have k := body_ps h
  have := bytesOf_len (bodyM m).ps (fun p hp => (k.1 p hp).2)
  unfold msgB
  simp
  omega
theorem msgs_len {ms : List (Mg × Hd)} (h : ∀ x, x ∈ ms → x.1.Ok) : (ms.flatMap fun x => msgB x.1).length ≤ 4004 * ms.length := by
  induction ms with
  | nil => simp
  | cons x l ih =>
    have h1 := msgB_len (h x (by simp))
    have h2 := ih (fun y hy => h y (List.mem_cons_of_mem _ hy))
    rw [List.flatMap_cons, List.length_append, List.length_cons]
    omega
set_option maxRecDepth 100000 in
set_option maxHeartbeats 4000000 in
theorem rPut_any {w : World} {lo : Nat} {v : Value} {A : Option Addr} {cap : Nat} {ms : List (Mg × Hd)} (hv : v = .slice A ms.length cap) (hc : CellsIn w 0 w.heap.size 12 A ms.length (ms.flatMap encM)) (hm : ∀ x, x ∈ ms → RfIn w lo x.1 x.2 ∧ x.1.Ok) (hl : ms.length ≤ 60) :
    Calls Try.prog 12 #[v] w fun e w' => e = .returned (.tuple #[.string (strOfNums (putM (ms.map (·.1))).1), .int .i64 (putM (ms.map (·.1))).2]) ∧ Upd [] w w' := by
  subst hv
  obtain ⟨r, hr⟩ : ∃ r, r = putM (ms.map (·.1)) := ⟨_, rfl⟩
  rw [← hr]
  have HR := Lib.hid hr
  have HC := Lib.hid hc
  have HM := Lib.hid hm
  obtain ⟨n, hn⟩ : ∃ n, n = ms.length := ⟨_, rfl⟩
  rw [← hn] at hl HC ⊢
  have HN := Lib.hid hn
  clear hr hc hm hn
  go_enter Try.func12, Try.ntmps12
  go_wp2
  go_loopg [4, 5] n (fun gk x4 x5 wr => ∃ i : Nat, i ≤ n ∧ n ≤ i + gk ∧ x5 = .int .i64 i ∧ x4 = .string (strOfNums ((ms.take i).flatMap fun x => msgB x.1)) ∧ (∀ x, x ∈ ms.take i → (bodyM x.1).is = true) ∧ Upd [] w wr)
  case atStart => exact ⟨0, Nat.zero_le _, by omega, rfl, rfl, fun x hx => (by simp at hx), Upd.refl _ _⟩
  case round =>
    obtain ⟨i, hi, hgi, rfl, rfl, his, hu⟩ := hrel
    obtain ⟨so, hso⟩ : ∃ l, l = (ms.take i).flatMap fun x => msgB x.1 := ⟨_, rfl⟩
    have lso : so.length ≤ 4004 * 60 := by
      have := msgs_len (ms := ms.take i) (fun x hx => (HM.out x (List.mem_of_mem_take hx)).2)
      rw [hso]
      rw [List.length_take] at this
      omega
    rw [← hso]
    by_cases hlt : i < n
    · obtain ⟨x, hx⟩ : ∃ x, ms[i]? = some x := ⟨_, List.getElem?_eq_getElem (by rw [← HN.out]; exact hlt)⟩
      obtain ⟨b, off, rfl, _, hb, hcc⟩ := HC.out.2 (by omega)
      have hxm := List.mem_of_getElem? hx
      have e0 := (hu.cell (p := ⟨b, off + (i * 12 + 0), none⟩) hb (by simp)).trans (hcc (i * 12 + 0) _ (flat_get encM_len ms i 0 x hx (by omega)))
      have e1 := (hu.cell (p := ⟨b, off + (i * 12 + 1), none⟩) hb (by simp)).trans (hcc (i * 12 + 1) _ (flat_get encM_len ms i 1 x hx (by omega)))
      have e2 := (hu.cell (p := ⟨b, off + (i * 12 + 2), none⟩) hb (by simp)).trans (hcc (i * 12 + 2) _ (flat_get encM_len ms i 2 x hx (by omega)))
      have e3 := (hu.cell (p := ⟨b, off + (i * 12 + 3), none⟩) hb (by simp)).trans (hcc (i * 12 + 3) _ (flat_get encM_len ms i 3 x hx (by omega)))
      have e4 := (hu.cell (p := ⟨b, off + (i * 12 + 4), none⟩) hb (by simp)).trans (hcc (i * 12 + 4) _ (flat_get encM_len ms i 4 x hx (by omega)))
      have e5 := (hu.cell (p := ⟨b, off + (i * 12 + 5), none⟩) hb (by simp)).trans (hcc (i * 12 + 5) _ (flat_get encM_len ms i 5 x hx (by omega)))
      have e6 := (hu.cell (p := ⟨b, off + (i * 12 + 6), none⟩) hb (by simp)).trans (hcc (i * 12 + 6) _ (flat_get encM_len ms i 6 x hx (by omega)))
      have e7 := (hu.cell (p := ⟨b, off + (i * 12 + 7), none⟩) hb (by simp)).trans (hcc (i * 12 + 7) _ (flat_get encM_len ms i 7 x hx (by omega)))
      have e8 := (hu.cell (p := ⟨b, off + (i * 12 + 8), none⟩) hb (by simp)).trans (hcc (i * 12 + 8) _ (flat_get encM_len ms i 8 x hx (by omega)))
      have e9 := (hu.cell (p := ⟨b, off + (i * 12 + 9), none⟩) hb (by simp)).trans (hcc (i * 12 + 9) _ (flat_get encM_len ms i 9 x hx (by omega)))
      have e10 := (hu.cell (p := ⟨b, off + (i * 12 + 10), none⟩) hb (by simp)).trans (hcc (i * 12 + 10) _ (flat_get encM_len ms i 10 x hx (by omega)))
      have e11 := (hu.cell (p := ⟨b, off + (i * 12 + 11), none⟩) hb (by simp)).trans (hcc (i * 12 + 11) _ (flat_get encM_len ms i 11 x hx (by omega)))
      have hok := (HM.out x hxm).2
      have hcall := rput_any (w := wr) (lo := 0) (m := x.1) (h := x.2) (by
        have k := (HM.out x hxm).1
        exact ⟨(k.cr.upd2 hu (Nat.le_refl _) (by simp)).more (Nat.zero_le _) hu.size, (k.cw.upd2 hu (Nat.le_refl _) (by simp)).more (Nat.le_refl _) hu.size, (k.cp.upd2 hu (Nat.le_refl _) (by simp)).more (Nat.zero_le _) hu.size, (k.ca.upd2 hu (Nat.le_refl _) (by simp)).more (Nat.zero_le _) hu.size⟩) hok
      have htk : ms.take (i + 1) = ms.take i ++ [x] := by rw [List.take_add_one, hx]; rfl
      have hlen := msgB_len hok
      obtain ⟨m, h⟩ := x
      simp only [encM, mcells, List.getElem?_cons_zero, List.getElem?_cons_succ, List.getElem_cons_zero, List.getElem_cons_succ, ← Nat.add_assoc, Nat.add_zero] at e0 e1 e2 e3 e4 e5 e6 e7 e8 e9 e10 e11
      dsimp only at hcall hlen hok
      unfold mcells at hcall
      obtain ⟨v0, hv0⟩ : ∃ v, v = m.kind := ⟨_, rfl⟩
      obtain ⟨v1, hv1⟩ : ∃ v, v = m.ssrc := ⟨_, rfl⟩
      obtain ⟨v2, hv2⟩ : ∃ v, v = m.media := ⟨_, rfl⟩
      obtain ⟨v3, hv3⟩ : ∃ v, v = m.clock := ⟨_, rfl⟩
      obtain ⟨v4, hv4⟩ : ∃ v, v = m.time := ⟨_, rfl⟩
      obtain ⟨v5, hv5⟩ : ∃ v, v = m.packets := ⟨_, rfl⟩
      obtain ⟨v6, hv6⟩ : ∃ v, v = m.bytes := ⟨_, rfl⟩
      obtain ⟨v7, hv7⟩ : ∃ v, v = Value.slice h.rA m.reports.length h.rc := ⟨_, rfl⟩
      obtain ⟨v8, hv8⟩ : ∃ v, v = Value.slice h.wA m.who.length h.wc := ⟨_, rfl⟩
      obtain ⟨v9, hv9⟩ : ∃ v, v = Value.slice h.pA m.pairs.length h.pc := ⟨_, rfl⟩
      obtain ⟨v10, hv10⟩ : ∃ v, v = Value.slice h.aA m.asks.length h.ac := ⟨_, rfl⟩
      obtain ⟨v11, hv11⟩ : ∃ v, v = m.type := ⟨_, rfl⟩
      rw [← hv0, ← hv1, ← hv2, ← hv3, ← hv4, ← hv5, ← hv6, ← hv7, ← hv8, ← hv9, ← hv10, ← hv11] at hcall
      rw [← hv0] at e0
      rw [← hv1] at e1
      rw [← hv2] at e2
      rw [← hv3] at e3
      rw [← hv4] at e4
      rw [← hv5] at e5
      rw [← hv6] at e6
      rw [← hv7] at e7
      rw [← hv8] at e8
      rw [← hv9] at e9
      rw [← hv10] at e10
      rw [← hv11] at e11
      clear hv0 hv1 hv2 hv3 hv4 hv5 hv6 hv7 hv8 hv9 hv10 hv11
      obtain ⟨bs, hbs⟩ : ∃ l, l = (putD m).1 := ⟨_, rfl⟩
      obtain ⟨er, her⟩ : ∃ l, l = (putD m).2 := ⟨_, rfl⟩
      rw [← hbs, ← her] at hcall
      have HCALL := Lib.hid hcall
      have hlti : (i : Int) < (n : Int) := by omega
      have hwi : IntKind.i64.wrap ((i : Int) + 1) = (i : Int) + 1 := IntWalk.i64_in _ (by omega)
      have HU := Lib.hid hu
      have HGI := Lib.hid hgi
      have HIS := Lib.hid his
      have HB := Lib.hid hb
      by_cases hmi : (bodyM m).is = true
      · have hp : putD m = (msgB m, 0) := by unfold putD; rw [if_pos hmi]
        rw [hp] at hbs her
        dsimp only at hbs her
        subst her
        obtain ⟨s2, hs2⟩ : ∃ l, l = so ++ bs := ⟨_, rfl⟩
        have hadd : ∀ z : World, (Op.stringOp .add (strOfNums so) (strOfNums bs)).run Try.prog z = .ok (.string (strOfNums s2)) z := fun z => by rw [hs2]; exact str_add _ _ (by rw [← hbs] at hlen; omega) z
        have HS : Hid ((ms.take (i + 1)).flatMap (fun x => msgB x.1) = s2) := Lib.hid (by rw [htk, List.flatMap_append, ← hso, hs2, hbs]; simp)
        have HI2 : Hid (∀ x, x ∈ ms.take (i + 1) → (bodyM x.1).is = true) := Lib.hid (by
          intro x hx
          rw [htk] at hx
          rcases List.mem_append.1 hx with hx | hx
          · exact HIS.out x hx
          · rw [List.mem_singleton] at hx
            subst hx
            exact hmi)
        clear hx hxm hcc hok htk hlen hcall hbs hp hmi hs2 hso lso hu hgi his hb
        go_wp2_with fail
        refine HCALL.out.mono ?_
        rintro _ w1 ⟨rfl, hu1⟩
        clear e0 e1 e2 e3 e4 e5 e6 e7 e8 e9 e10 e11 HCALL
        go_wp2
        go_roundg (gk - 1)
        case measure => have := HGI.out; omega
        case rel => exact ⟨i + 1, by omega, by have := HGI.out; omega, by go_num, by rw [HS.out], HI2.out, HU.out.next hu1⟩
      · have hp : putD m = ([], 1) := by unfold putD; rw [if_neg hmi]
        rw [hp] at hbs her
        dsimp only at hbs her
        subst her
        have HE : Hid (r = ([], 1)) := Lib.hid (by
          rw [HR.out]
          unfold putM
          rw [if_neg (by
            rw [List.all_eq_true]
            intro ha
            exact hmi (ha m (List.mem_map.2 ⟨(m, h), hxm, rfl⟩)))])
        clear hx hxm hcc hok htk hlen hcall hbs hp hmi hso lso hu hgi his hb
        go_wp2_with fail
        refine HCALL.out.mono ?_
        rintro _ w1 ⟨rfl, hu1⟩
        clear e0 e1 e2 e3 e4 e5 e6 e7 e8 e9 e10 e11 HCALL
        go_wp2
        exact bodyPost_res (v := .tuple #[.string { data := #[] }, .int .i64 1]) (by simp [results, Try.results12, go_sem]) rfl ⟨by rw [HE.out]; rfl, HU.out.next hu1⟩
    · have hin : i = n := by omega
      subst hin
      rw [HN.out, List.take_length] at hso his
      have hall : (ms.map (·.1)).all (fun m => (bodyM m).is) = true := by
        rw [List.all_eq_true]
        intro m hm
        obtain ⟨x, hx, rfl⟩ := List.mem_map.1 hm
        exact his x hx
      have hfm : (ms.map (·.1)).flatMap msgB = so := by rw [hso, List.flatMap_map]
      obtain ⟨L, hL⟩ : ∃ n, n = so.length := ⟨_, rfl⟩
      have hsz : (strOfNums so).size = L := by rw [strOfNums_size, hL]
      have HU := Lib.hid hu
      by_cases hbig : 1500 < L
      · have HE : Hid (r = ([], 13)) := Lib.hid (by rw [HR.out]; unfold putM; rw [if_pos hall, hfm, if_pos (by omega)])
        have hbi : (1500 : Int) < (L : Int) := by omega
        clear hall hfm hL hso his hu hgi lso
        go_wp2
        exact bodyPost_res (v := .tuple #[.string { data := #[] }, .int .i64 13]) (by simp [results, Try.results12, go_sem]) rfl ⟨by rw [HE.out]; rfl, HU.out⟩
      · have HE : Hid (r = (so, 0)) := Lib.hid (by rw [HR.out]; unfold putM; rw [if_pos hall, hfm, if_neg (by omega)])
        have hbi : ¬ ((1500 : Int) < (L : Int)) := by omega
        clear hall hfm hL hso his hu hgi lso
        go_wp2
        exact bodyPost_res (v := .tuple #[.string (strOfNums so), .int .i64 0]) (by simp [results, Try.results12, go_sem]) rfl ⟨by rw [HE.out], HU.out⟩
set_option maxRecDepth 100000 in
set_option maxHeartbeats 1500000 in
theorem puts_any (A : Option Addr) (ca : Nat) (la : List (Mg × Hd)) (w : World) (hlca : la.length ≤ ca) (hca : ca ≤ 9223372036854775807)
    (hla : CellsIn w 0 w.heap.size 12 A la.length (la.flatMap encM)) (hma : ∀ x, x ∈ la → MgIn w 0 x.1 x.2 ∧ x.1.Num) :
    Calls Try.prog 3 #[.slice A la.length ca] w fun e w' => e = .returned (.bool true) ∧ Below w.heap.size w w' := by
  have HAW := Lib.hid (awake_any w)
  have HLA := Lib.hid hla
  have HMA := Lib.hid hma
  clear hla hma
  go_enter Try.func3, Try.ntmps3
  go_wp2_with fail
  refine HAW.out.mono ?_
  rintro e w1 ⟨rfl, hu⟩
  have HB1 := Lib.hid (hu.below (Nat.le_refl _) (by simp) : Below w.heap.size w w1)
  have HCA := Lib.hid ((HLA.out.below HB1.out (Nat.le_refl _)).more (Nat.le_refl _) hu.size)
  have HF1 := Lib.hid (few_any (cap := ca) HCA.out (by omega))
  clear hu HAW
  go_wp2_with fail
  refine HF1.out.mono ?_
  rintro e w2 ⟨rfl, rfl⟩
  clear HF1
  obtain ⟨fa, hfa⟩ : ∃ fw, fw = fewM (la.map (·.1)) := ⟨_, rfl⟩
  rw [← hfa]
  have HFA := Lib.hid hfa
  clear hfa
  cases fa with
  | false =>
    go_wp2
    exact bodyPost_res (v := .bool true) (by simp [results, Try.results3, go_sem]) rfl ⟨rfl, HB1.out⟩
  | true =>
  obtain ⟨hoa, h12a⟩ := fewM_ok HFA.out.symm (fun x hx => (HMA.out x hx).2)
  have HOKA := Lib.hid hoa
  have HPA := Lib.hid (put_any (cap := ca) HCA.out (fun x hx => ⟨(HMA.out x hx).1.below HB1.out, HOKA.out x hx⟩) (by omega))
  obtain ⟨pm, hpm⟩ : ∃ pm, pm = putM (la.map (·.1)) := ⟨_, rfl⟩
  rw [← hpm] at HPA
  have HPM := Lib.hid hpm
  clear hoa HFA hpm
  go_wp2_with fail
  refine HPA.out.mono ?_
  rintro e w3 ⟨v, rfl, hown, hb3⟩
  obtain ⟨VA, vc, rfl, _⟩ := own_form hown
  have HB3 := Lib.hid (HB1.out.trans (hb3.mono HB1.out.size))
  have HOWN := Lib.hid hown
  have HALL := Lib.hid (all_any (w := w3) (cap := ca) (ms := la) ((HLA.out.below HB3.out (Nat.le_refl _)).more (Nat.le_refl _) HB3.out.size) (fun x hx => ⟨(HMA.out x hx).1.below HB3.out, (HMA.out x hx).2, by have := (HOKA.out x hx).nr; omega, by have := (HOKA.out x hx).np; omega, by have := (HOKA.out x hx).na; omega⟩) (by omega))
  clear hown hb3 HPA
  go_wp2_with fail
  refine HALL.out.mono ?_
  rintro e w4 ⟨v4, out, rfl, hom, hown4, hrf, hu4⟩
  obtain ⟨OA, oc, rfl, _⟩ := own_form hown4
  have hol : out.length = la.length := by have := congrArg List.length hom; simpa using this
  have hoo : ∀ x, x ∈ out → x.1.Ok := fun x hx => by
    have h1 : x.1 ∈ out.map (·.1) := List.mem_map.2 ⟨x, hx, rfl⟩
    rw [hom] at h1
    obtain ⟨y, hy, he⟩ := List.mem_map.1 h1
    rw [← he]
    exact HOKA.out y hy
  have HPD := Lib.hid (rPut_any (w := w4) (lo := 0) (v := .slice OA out.length oc) rfl ((CellsIn.of_own hown4).more (Nat.zero_le _) (Nat.le_refl _)) (fun x hx => ⟨hrf x hx, hoo x hx⟩) (by omega))
  rw [hom, ← HPM.out] at HPD
  have HU4 := Lib.hid hu4
  clear hom hown4 hrf hu4 hol hoo HALL
  go_wp2_with fail
  refine HPD.out.mono ?_
  rintro e w5 ⟨rfl, hu5⟩
  have HU5 := Lib.hid (HU4.out.next hu5)
  obtain ⟨bs, er⟩ := pm
  dsimp only at HOWN
  have hrow : RowIn w5 0 .u8 ⟨VA, vc, bs⟩ := (RowIn.of_own (ownsRow_upd HOWN.out HU5.out (by simp))).more (Nat.zero_le _)
  have hcv := str_of hrow
  unfold encR at hcv
  dsimp only at hcv
  obtain ⟨L, hL⟩ : ∃ n, n = bs.length := ⟨_, rfl⟩
  rw [← hL] at hcv ⊢
  have he1 : (er == er) = true := by simp
  have HFIN : Hid (Below w.heap.size w w5) := Lib.hid (HB3.out.trans (HU5.out.below HB3.out.size (by simp)))
  clear hu5 hrow hL HPD
  go_wp2
  exact bodyPost_res (v := .bool true) (by simp [results, Try.results3, go_sem]) rfl ⟨rfl, HFIN.out⟩
end Go.Proofs.Ytgkejdjdccgjbaa
/- Arguments opened to cells: integers, slices of elements of so many one-cell parts. Plain laws on readings. -/
namespace Go.Proofs.Ytgkejdjdccgjbaa
open Go Go.RowKit Go.ChangeShapes Go.WideShapes Go.Deep

theorem flat_one {α β : Type} (f : α → β) (l : List α) : l.flatMap (fun a => [f a]) = l.map f := by
  induction l with
  | nil => rfl
  | cons a l ih => rw [List.flatMap_cons, ih]; rfl

theorem cell_lt {w : World} {a : Addr} {v : Value} (h : w.cell? a = some v) : a.block < w.heap.size := by
  rcases Nat.lt_or_ge a.block w.heap.size with h1 | h1
  · exact h1
  · exfalso
    have h2 : w.heap[a.block]? = none := Array.getElem?_eq_none h1
    have h3 := World.cell?_of_block (w := w) (w' := { w with heap := #[] }) (a := a) (by rw [h2]; rfl)
    rw [h] at h3
    have h4 : (({ w with heap := #[] } : World).cell? a) = none := by simp [World.cell?]
    rw [h4] at h3
    cases h3

section
variable {H : Type} {enc : TypeId × Value → H} {P : Program} {w : World} {base : Nat} {spare : Nat → Bool} {held : Bool}

/-- A slice, element by element: whatever of an element's cells the reading tells. -/
theorem rd_slice {α : Type} {t e : TypeId} {size fuel : Nat} {cs : List Value} {x : DataW H × List MemPlace} (R : List Value → α → Prop) (ht : P.underlying t = some (.slice e)) (hC : P.cellsOf e = size) (h0 : 0 < size)
    (hR : ∀ n cs' y, cs'.length = size → DataW.trod enc P w base spare held n e cs' = some y → ∃ z, R cs' z) (hf : DataW.trod enc P w base spare held fuel t cs = some x) :
    ∃ (A : Option Addr) (len cap : Nat) (l : List α), cs = [.slice A len cap] ∧ len ≤ cap ∧ cap ≤ maxLen ∧ l.length = len ∧
      (0 < len → ∃ b off, A = some ⟨b, off, none⟩ ∧ b < w.heap.size ∧ ∀ (i : Nat) (z : α), l[i]? = some z → ∃ ci, R ci z ∧ ci.length = size ∧ ∀ j, j < size → w.cell? ⟨b, off + i * size + j, none⟩ = ci[j]?) := by
  rcases open_slice ht hf with ⟨hcs, _⟩ | ⟨a, len, cap, m, n, D, Pl, hcs, hb, hl, hm, hmm, hx, hi⟩
  · exact ⟨none, 0, 0, [], hcs, Nat.le_refl _, Nat.zero_le _, rfl, fun h => absurd h (Nat.lt_irrefl 0)⟩
  · have hlm : len ≤ m := by rw [hmm]; split <;> omega
    have each : ∀ i, i < len → ∃ z ci, R ci z ∧ ci.length = size ∧ ∀ j, j < size → w.cell? ((a.add (i * size)).add j) = ci[j]? := by
      intro i hil
      obtain ⟨cs', hc, ht'⟩ := hi i (by omega)
      rw [hC] at hc
      obtain ⟨_, hcl, hat⟩ := World.cells?_some hc
      obtain ⟨z, hz⟩ := hR n cs' _ hcl ht'
      exact ⟨z, cs', hz, hcl, hat⟩
    have list : ∀ k, k ≤ len → ∃ l : List α, l.length = k ∧ ∀ (i : Nat) (z : α), l[i]? = some z → ∃ ci, R ci z ∧ ci.length = size ∧ ∀ j, j < size → w.cell? ((a.add (i * size)).add j) = ci[j]? := by
      intro k
      induction k with
      | zero => intro _; exact ⟨[], rfl, fun i z h => by simp at h⟩
      | succ k ih =>
        intro hk
        obtain ⟨l, hll, hla⟩ := ih (by omega)
        obtain ⟨z, hz⟩ := each k (by omega)
        refine ⟨l ++ [z], by simp [hll], fun i y hy => ?_⟩
        rcases Nat.lt_or_ge i l.length with h1 | h1
        · rw [List.getElem?_append_left h1] at hy
          exact hla i y hy
        · rw [List.getElem?_append_right h1] at hy
          have h2 : i - l.length = 0 := by
            rcases Nat.eq_zero_or_pos (i - l.length) with h | h
            · exact h
            · rw [List.getElem?_eq_none (by simp; omega)] at hy; cases hy
          rw [h2] at hy
          obtain rfl : z = y := by simpa using hy
          obtain rfl : i = k := by omega
          exact hz
    obtain ⟨l, hll, hla⟩ := list len (Nat.le_refl _)
    refine ⟨some a, len, cap, l, hcs, hl, hm, hll, fun hpos => ?_⟩
    have hl0 : 0 < l.length := by omega
    obtain ⟨c0, _, hcl, h00⟩ := hla 0 l[0] (List.getElem?_eq_getElem hl0)
    have hcell := h00 0 h0
    rw [List.getElem?_eq_getElem (by omega)] at hcell
    have hadd : (a.add (0 * size)).add 0 = a := by simp [Addr.add]
    rw [hadd] at hcell
    have hspot := World.cell?_spot hcell
    obtain ⟨b, off, spot⟩ := a
    dsimp only at hspot
    subst hspot
    refine ⟨b, off, rfl, cell_lt hcell, fun i z hz => ?_⟩
    obtain ⟨ci, hr, hc1, hc2⟩ := hla i z hz
    refine ⟨ci, hr, hc1, fun j hj => ?_⟩
    have := hc2 j hj
    rw [← this]
    unfold Addr.add
    by_cases e1 : i * size = 0 <;> by_cases e2 : j = 0 <;> simp [e1, e2, Nat.add_assoc]

/-- .. where the cells are a function of what they read as. -/
theorem rd_cells {α : Type} {t e : TypeId} {size fuel : Nat} {cs : List Value} {x : DataW H × List MemPlace} (f : α → List Value) (ht : P.underlying t = some (.slice e)) (hC : P.cellsOf e = size) (h0 : 0 < size)
    (hR : ∀ n cs' y, cs'.length = size → DataW.trod enc P w base spare held n e cs' = some y → ∃ z, cs' = f z) (hlen : ∀ z, (f z).length = size) (hf : DataW.trod enc P w base spare held fuel t cs = some x) :
    ∃ (A : Option Addr) (len cap : Nat) (l : List α), cs = [.slice A len cap] ∧ len ≤ cap ∧ cap ≤ maxLen ∧ l.length = len ∧ Cells w w.heap.size size A len (l.flatMap f) := by
  obtain ⟨A, len, cap, l, h1, h2, h3, h4, h5⟩ := rd_slice (fun c z => c = f z) ht hC h0 hR hf
  have hfl : ∀ l : List α, (l.flatMap f).length = l.length * size := by
    intro l
    induction l with
    | nil => simp
    | cons a l ih => rw [List.flatMap_cons, List.length_append, ih, hlen, List.length_cons, Nat.succ_mul, Nat.add_comm]
  have hget : ∀ (l : List α) (i j : Nat) (z : α), l[i]? = some z → j < size → (l.flatMap f)[i * size + j]? = (f z)[j]? := by
    intro l
    induction l with
    | nil => intro i j z h; simp at h
    | cons a l ih =>
      intro i j z h hj
      rw [List.flatMap_cons]
      cases i with
      | zero =>
        obtain rfl : a = z := by simpa using h
        rw [Nat.zero_mul, Nat.zero_add, List.getElem?_append_left (by rw [hlen]; exact hj)]
      | succ i =>
        rw [List.getElem?_append_right (by rw [hlen, Nat.succ_mul]; omega), hlen, Nat.succ_mul, show i * size + size + j - size = i * size + j by omega]
        exact ih i j z (by simpa using h) hj
  refine ⟨A, len, cap, l, h1, h2, h3, h4, by rw [hfl, h4], fun hpos => ?_⟩
  obtain ⟨b, off, hA, hb, hc⟩ := h5 hpos
  refine ⟨b, off, hA, hb, fun j u hu => ?_⟩
  have hjl : j < l.length * size := by
    rcases Nat.lt_or_ge j (l.length * size) with h | h
    · exact h
    · rw [List.getElem?_eq_none (by rw [hfl]; exact h)] at hu; cases hu
  have hdiv : j / size < l.length := Nat.div_lt_of_lt_mul (by rw [Nat.mul_comm]; exact hjl)
  have hmod : j % size < size := Nat.mod_lt _ h0
  have hj : j = j / size * size + j % size := by rw [Nat.mul_comm]; exact (Nat.div_add_mod j size).symm
  obtain ⟨ci, hci, _, hcj⟩ := hc (j / size) l[j / size] (List.getElem?_eq_getElem hdiv)
  have h6 := hcj (j % size) hmod
  rw [Nat.add_assoc, ← hj] at h6
  rw [h6, hci]
  rw [hj, hget l _ _ _ (List.getElem?_eq_getElem hdiv) hmod] at hu
  exact hu

theorem rd_int {t : TypeId} {n : Nat} {cs : List Value} {y : DataW H × List MemPlace} {k : IntKind} (ht : P.underlying t = some (.int k)) (h : DataW.trod enc P w base spare held n t cs = some y) :
    ∃ z : Int, cs = [.int k z] ∧ (Lit.int k z).wf = true := by
  obtain ⟨z, h1, _, h3⟩ := DataW.trod_int ht h
  exact ⟨z, h1, h3⟩

/-- A struct of one-cell fields: each field's cell, with its own reading. -/
theorem rd_struct {t : TypeId} {fs : Array Field} {n : Nat} {cs : List Value} {y : DataW H × List MemPlace} (ht : P.underlying t = some (.struct fs)) (hone : oneCellFields P fs = true)
    (h : DataW.trod enc P w base spare held n t cs = some y) : ∃ m, ∀ (j : Nat) (f : Field) (v : Value), fs[j]? = some f → cs[j]? = some v → ∃ z, DataW.trod enc P w base spare held m f.type [v] = some z := by
  obtain ⟨ys, n', _, _, _, hyl, hf⟩ := DataW.trod_struct ht h
  refine ⟨n', fun j f v hj hv => ?_⟩
  obtain ⟨ho, hk⟩ := hone_of hone j f hj
  have h1 := hf j f hj
  rw [ho, hk] at h1
  have hjl : j < fs.size := (Array.getElem?_eq_some_iff.1 hj).1
  obtain ⟨hjc, hv'⟩ := List.getElem?_eq_some_iff.1 hv
  have h2 : (cs.drop j).take 1 = [v] := by
    rw [List.drop_eq_getElem_cons hjc, hv']; rfl
  rw [h2, List.getElem?_eq_getElem (by omega)] at h1
  exact ⟨_, h1⟩
end

end Go.Proofs.Ytgkejdjdccgjbaa
/- A struct with fields of several cells, field by field. Plain law on readings. -/
namespace Go.Proofs.Ytgkejdjdccgjbaa
open Go Go.RowKit Go.ChangeShapes Go.WideShapes Go.Deep

section
variable {H : Type} {enc : TypeId × Value → H} {P : Program} {w : World} {base : Nat} {spare : Nat → Bool} {held : Bool}
theorem rd_fields {t : TypeId} {fs : Array Field} {n : Nat} {cs : List Value} {y : DataW H × List MemPlace} (ht : P.underlying t = some (.struct fs))
    (h : DataW.trod enc P w base spare held n t cs = some y) : ∃ m, ∀ (j : Nat) (f : Field) (e : TypeId) (o k : Nat), fs[j]? = some f → f.type = e → f.offset = o → P.cellsOf e = k → ∃ z, DataW.trod enc P w base spare held m e ((cs.drop o).take k) = some z := by
  obtain ⟨ys, n', _, _, _, hyl, hf⟩ := DataW.trod_struct ht h
  refine ⟨n', fun j f e o k hj he ho hk => ?_⟩
  have h1 := hf j f hj
  rw [ho, he, hk] at h1
  have hjl : j < fs.size := (Array.getElem?_eq_some_iff.1 hj).1
  rw [List.getElem?_eq_getElem (by omega)] at h1
  exact ⟨_, h1⟩
end
end Go.Proofs.Ytgkejdjdccgjbaa
/- Messages that came in as an argument: where they and their rows lie. Plain law on readings. -/
namespace Go.Proofs.Ytgkejdjdccgjbaa
open Go Go.RowKit Go.ChangeShapes Go.WideShapes Go.Deep
set_option maxHeartbeats 1000000

theorem wf_u32 {z : Int} (h : (Lit.int .u32 z).wf = true) : U32 z := by
  have := bounds_u32 h
  exact ⟨by omega, by omega⟩
theorem wf_u64 {z : Int} (h : (Lit.int .u64 z).wf = true) : U64 z := by
  have := bounds_u64 h
  exact ⟨by omega, by omega⟩
theorem wf_u16 {z : Int} (h : (Lit.int .u16 z).wf = true) : U16 z := by
  have := bounds_u16 h
  exact ⟨by omega, by omega⟩
theorem wf_u8 {z : Int} (h : (Lit.int .u8 z).wf = true) : U8 z := by
  have := bounds_u8 h
  exact ⟨by omega, by omega⟩
theorem CellsIn.came {w : World} {size n : Nat} {A : Option Addr} {xs : List Value} (h : Cells w w.heap.size size A n xs) : CellsIn w 0 w.heap.size size A n xs :=
  ⟨h.1, fun hn => by
    obtain ⟨b, off, e, hlt, hc⟩ := h.2 hn
    exact ⟨b, off, e, Nat.zero_le _, hlt, hc⟩⟩
section
variable {H : Type} {enc : TypeId × Value → H} {w : World} {base : Nat} {spare : Nat → Bool} {held : Bool}
theorem rd_reports {fuel : Nat} {cs : List Value} {x : DataW H × List MemPlace} (hf : DataW.trod enc Try.prog w base spare held fuel 55 cs = some x) :
    ∃ (A : Option Addr) (c : Nat) (l : List Rep), cs = [.slice A l.length c] ∧ CellsIn w 0 w.heap.size 7 A l.length (l.flatMap encRep) ∧ ∀ r ∈ l, r.Ok := by
  obtain ⟨A, len, cap, l, hcs, _, _, hll, hc⟩ := rd_cells (α := { x : Rep // x.Ok }) (fun a => encRep a.1) (size := 7) Try.underlying55 (by kernel_rfl) (by omega) (fun n cs y hcl hy => by
    obtain ⟨m, hm⟩ := rd_fields (n := n) (fs := _) Try.underlying87 hy
    match cs, hcl with
    | [c0, c1, c2, c3, c4, c5, c6], _ =>
      obtain ⟨y0, hy0⟩ := hm 0 _ 43 0 1 rfl rfl rfl (by kernel_rfl)
      obtain ⟨y1, hy1⟩ := hm 1 _ 5 1 1 rfl rfl rfl (by kernel_rfl)
      obtain ⟨y2, hy2⟩ := hm 2 _ 43 2 1 rfl rfl rfl (by kernel_rfl)
      obtain ⟨y3, hy3⟩ := hm 3 _ 43 3 1 rfl rfl rfl (by kernel_rfl)
      obtain ⟨y4, hy4⟩ := hm 4 _ 43 4 1 rfl rfl rfl (by kernel_rfl)
      obtain ⟨y5, hy5⟩ := hm 5 _ 43 5 1 rfl rfl rfl (by kernel_rfl)
      obtain ⟨y6, hy6⟩ := hm 6 _ 43 6 1 rfl rfl rfl (by kernel_rfl)
      obtain ⟨z0, e0, w0⟩ := rd_int Try.underlying43 hy0
      obtain ⟨z1, e1, w1⟩ := rd_int Try.underlying5 hy1
      obtain ⟨z2, e2, w2⟩ := rd_int Try.underlying43 hy2
      obtain ⟨z3, e3, w3⟩ := rd_int Try.underlying43 hy3
      obtain ⟨z4, e4, w4⟩ := rd_int Try.underlying43 hy4
      obtain ⟨z5, e5, w5⟩ := rd_int Try.underlying43 hy5
      obtain ⟨z6, e6, w6⟩ := rd_int Try.underlying43 hy6
      have f0 : c0 = _ := (List.cons.inj e0).1
      have f1 : c1 = _ := (List.cons.inj e1).1
      have f2 : c2 = _ := (List.cons.inj e2).1
      have f3 : c3 = _ := (List.cons.inj e3).1
      have f4 : c4 = _ := (List.cons.inj e4).1
      have f5 : c5 = _ := (List.cons.inj e5).1
      have f6 : c6 = _ := (List.cons.inj e6).1
      exact ⟨⟨⟨z0, z1, z2, z3, z4, z5, z6⟩, ⟨wf_u32 w0, wf_u8 w1, wf_u32 w2, wf_u32 w3, wf_u32 w4, wf_u32 w5, wf_u32 w6⟩⟩, by rw [f0, f1, f2, f3, f4, f5, f6]; rfl⟩) (fun _ => rfl) hf
  have hl' : (l.map (·.1)).length = len := by rw [List.length_map]; exact hll
  refine ⟨A, cap, l.map (·.1), by rw [hl']; exact hcs, ?_, fun r hr => ?_⟩
  · rw [hl', List.flatMap_map]; exact CellsIn.came hc
  · obtain ⟨a, _, rfl⟩ := List.mem_map.1 hr
    exact a.2
theorem rd_who {fuel : Nat} {cs : List Value} {x : DataW H × List MemPlace} (hf : DataW.trod enc Try.prog w base spare held fuel 46 cs = some x) :
    ∃ (A : Option Addr) (c : Nat) (l : List Int), cs = [.slice A l.length c] ∧ CellsIn w 0 w.heap.size 1 A l.length (l.map (Value.int .u32)) ∧ ∀ r ∈ l, U32 r := by
  obtain ⟨A, len, cap, l, hcs, _, _, hll, hc⟩ := rd_cells (α := { x : Int // U32 x }) (fun a => [.int .u32 a.1]) (size := 1) Try.underlying46 (by kernel_rfl) (by omega) (fun n cs y hcl hy => by
    obtain ⟨z, e, wz⟩ := rd_int Try.underlying43 hy
    exact ⟨⟨z, wf_u32 wz⟩, e⟩) (fun _ => rfl) hf
  have hl' : (l.map (·.1)).length = len := by rw [List.length_map]; exact hll
  refine ⟨A, cap, l.map (·.1), by rw [hl']; exact hcs, ?_, fun r hr => ?_⟩
  · have e : (l.map (·.1)).map (Value.int .u32) = l.flatMap fun a => [.int .u32 a.1] := by
      rw [flat_one (fun a : { x : Int // U32 x } => Value.int .u32 a.1), List.map_map]; rfl
    rw [hl', e]; exact CellsIn.came hc
  · obtain ⟨a, _, rfl⟩ := List.mem_map.1 hr
    exact a.2
theorem rd_pairs {fuel : Nat} {cs : List Value} {x : DataW H × List MemPlace} (hf : DataW.trod enc Try.prog w base spare held fuel 56 cs = some x) :
    ∃ (A : Option Addr) (c : Nat) (l : List (Int × Int)), cs = [.slice A l.length c] ∧ CellsIn w 0 w.heap.size 2 A l.length (l.flatMap encPair) ∧ ∀ p ∈ l, U16 p.1 ∧ U16 p.2 := by
  obtain ⟨A, len, cap, l, hcs, _, _, hll, hc⟩ := rd_cells (α := { x : Int × Int // U16 x.1 ∧ U16 x.2 }) (fun a => encPair a.1) (size := 2) Try.underlying56 (by kernel_rfl) (by omega) (fun n cs y hcl hy => by
    obtain ⟨m, hm⟩ := rd_fields (n := n) (fs := _) Try.underlying68 hy
    match cs, hcl with
    | [c0, c1], _ =>
      obtain ⟨y0, hy0⟩ := hm 0 _ 34 0 1 rfl rfl rfl (by kernel_rfl)
      obtain ⟨y1, hy1⟩ := hm 1 _ 34 1 1 rfl rfl rfl (by kernel_rfl)
      obtain ⟨z0, e0, w0⟩ := rd_int Try.underlying34 hy0
      obtain ⟨z1, e1, w1⟩ := rd_int Try.underlying34 hy1
      have f0 : c0 = _ := (List.cons.inj e0).1
      have f1 : c1 = _ := (List.cons.inj e1).1
      exact ⟨⟨(z0, z1), ⟨wf_u16 w0, wf_u16 w1⟩⟩, by rw [f0, f1]; rfl⟩) (fun _ => rfl) hf
  have hl' : (l.map (·.1)).length = len := by rw [List.length_map]; exact hll
  refine ⟨A, cap, l.map (·.1), by rw [hl']; exact hcs, ?_, fun r hr => ?_⟩
  · rw [hl', List.flatMap_map]; exact CellsIn.came hc
  · obtain ⟨a, _, rfl⟩ := List.mem_map.1 hr
    exact a.2
theorem rd_asks {fuel : Nat} {cs : List Value} {x : DataW H × List MemPlace} (hf : DataW.trod enc Try.prog w base spare held fuel 57 cs = some x) :
    ∃ (A : Option Addr) (c : Nat) (l : List (Int × Int)), cs = [.slice A l.length c] ∧ CellsIn w 0 w.heap.size 2 A l.length (l.flatMap encAsk) ∧ ∀ p ∈ l, U32 p.1 ∧ U8 p.2 := by
  obtain ⟨A, len, cap, l, hcs, _, _, hll, hc⟩ := rd_cells (α := { x : Int × Int // U32 x.1 ∧ U8 x.2 }) (fun a => encAsk a.1) (size := 2) Try.underlying57 (by kernel_rfl) (by omega) (fun n cs y hcl hy => by
    obtain ⟨m, hm⟩ := rd_fields (n := n) (fs := _) Try.underlying91 hy
    match cs, hcl with
    | [c0, c1], _ =>
      obtain ⟨y0, hy0⟩ := hm 0 _ 43 0 1 rfl rfl rfl (by kernel_rfl)
      obtain ⟨y1, hy1⟩ := hm 1 _ 5 1 1 rfl rfl rfl (by kernel_rfl)
      obtain ⟨z0, e0, w0⟩ := rd_int Try.underlying43 hy0
      obtain ⟨z1, e1, w1⟩ := rd_int Try.underlying5 hy1
      have f0 : c0 = _ := (List.cons.inj e0).1
      have f1 : c1 = _ := (List.cons.inj e1).1
      exact ⟨⟨(z0, z1), ⟨wf_u32 w0, wf_u8 w1⟩⟩, by rw [f0, f1]; rfl⟩) (fun _ => rfl) hf
  have hl' : (l.map (·.1)).length = len := by rw [List.length_map]; exact hll
  refine ⟨A, cap, l.map (·.1), by rw [hl']; exact hcs, ?_, fun r hr => ?_⟩
  · rw [hl', List.flatMap_map]; exact CellsIn.came hc
  · obtain ⟨a, _, rfl⟩ := List.mem_map.1 hr
    exact a.2
theorem open_msgs {fuel : Nat} {cs : List Value} {x : DataW H × List MemPlace} (hf : DataW.trod enc Try.prog w base spare held fuel 22 cs = some x) :
    ∃ (A : Option Addr) (c : Nat) (l : List (Mg × Hd)), cs = [.slice A l.length c] ∧ l.length ≤ c ∧ c ≤ maxLen ∧ CellsIn w 0 w.heap.size 12 A l.length (l.flatMap encM) ∧ ∀ x ∈ l, MgIn w 0 x.1 x.2 ∧ x.1.Num := by
  obtain ⟨A, len, cap, l, hcs, hlc, hm, hll, hc⟩ := rd_cells (α := { x : Mg × Hd // MgIn w 0 x.1 x.2 ∧ x.1.Num }) (fun a => encM a.1) (size := 12) Try.underlying22 (by kernel_rfl) (by omega) (fun n cs y hcl hy => by
    obtain ⟨m, hm⟩ := rd_fields (n := n) (fs := _) Try.underlying59 hy
    match cs, hcl with
    | [c0, c1, c2, c3, c4, c5, c6, c7, c8, c9, c10, c11], _ =>
      obtain ⟨y0, hy0⟩ := hm 0 _ 3 0 1 rfl rfl rfl (by kernel_rfl)
      obtain ⟨y1, hy1⟩ := hm 1 _ 43 1 1 rfl rfl rfl (by kernel_rfl)
      obtain ⟨y2, hy2⟩ := hm 2 _ 43 2 1 rfl rfl rfl (by kernel_rfl)
      obtain ⟨y3, hy3⟩ := hm 3 _ 54 3 4 rfl rfl rfl (by kernel_rfl)
      obtain ⟨y7, hy7⟩ := hm 4 _ 55 7 1 rfl rfl rfl (by kernel_rfl)
      obtain ⟨y8, hy8⟩ := hm 5 _ 46 8 1 rfl rfl rfl (by kernel_rfl)
      obtain ⟨y9, hy9⟩ := hm 6 _ 56 9 1 rfl rfl rfl (by kernel_rfl)
      obtain ⟨y10, hy10⟩ := hm 7 _ 57 10 1 rfl rfl rfl (by kernel_rfl)
      obtain ⟨y11, hy11⟩ := hm 8 _ 5 11 1 rfl rfl rfl (by kernel_rfl)
      obtain ⟨z0, e0, w0⟩ := rd_int Try.underlying3 hy0
      obtain ⟨z1, e1, w1⟩ := rd_int Try.underlying43 hy1
      obtain ⟨z2, e2, w2⟩ := rd_int Try.underlying43 hy2
      obtain ⟨m3, hm3⟩ := rd_fields (fs := _) Try.underlying54 hy3
      obtain ⟨y3, hy3⟩ := hm3 0 _ 44 0 1 rfl rfl rfl (by kernel_rfl)
      obtain ⟨y4, hy4⟩ := hm3 1 _ 43 1 1 rfl rfl rfl (by kernel_rfl)
      obtain ⟨y5, hy5⟩ := hm3 2 _ 43 2 1 rfl rfl rfl (by kernel_rfl)
      obtain ⟨y6, hy6⟩ := hm3 3 _ 43 3 1 rfl rfl rfl (by kernel_rfl)
      obtain ⟨z3, e3, w3⟩ := rd_int Try.underlying44 hy3
      obtain ⟨z4, e4, w4⟩ := rd_int Try.underlying43 hy4
      obtain ⟨z5, e5, w5⟩ := rd_int Try.underlying43 hy5
      obtain ⟨z6, e6, w6⟩ := rd_int Try.underlying43 hy6
      obtain ⟨A7, k7, l7, e7, h7, n7⟩ := rd_reports hy7
      obtain ⟨A8, k8, l8, e8, h8, n8⟩ := rd_who hy8
      obtain ⟨A9, k9, l9, e9, h9, n9⟩ := rd_pairs hy9
      obtain ⟨A10, k10, l10, e10, h10, n10⟩ := rd_asks hy10
      obtain ⟨z11, e11, w11⟩ := rd_int Try.underlying5 hy11
      have f0 : c0 = _ := (List.cons.inj e0).1
      have f1 : c1 = _ := (List.cons.inj e1).1
      have f2 : c2 = _ := (List.cons.inj e2).1
      have f3 : c3 = _ := (List.cons.inj e3).1
      have f4 : c4 = _ := (List.cons.inj e4).1
      have f5 : c5 = _ := (List.cons.inj e5).1
      have f6 : c6 = _ := (List.cons.inj e6).1
      have f7 : c7 = _ := (List.cons.inj e7).1
      have f8 : c8 = _ := (List.cons.inj e8).1
      have f9 : c9 = _ := (List.cons.inj e9).1
      have f10 : c10 = _ := (List.cons.inj e10).1
      have f11 : c11 = _ := (List.cons.inj e11).1
      exact ⟨⟨(⟨z0, z1, z2, z3, z4, z5, z6, l7, l8, l9, l10, z11⟩, ⟨A7, k7, A8, k8, A9, k9, A10, k10⟩), ⟨h7, h8, h9, h10⟩, ⟨wf_u32 w1, wf_u32 w2, wf_u64 w3, wf_u32 w4, wf_u32 w5, wf_u32 w6, n7, n8, n9, n10, wf_u8 w11⟩⟩, by rw [f0, f1, f2, f3, f4, f5, f6, f7, f8, f9, f10, f11]; rfl⟩) (fun _ => rfl) hf
  have hl' : (l.map (·.1)).length = len := by rw [List.length_map]; exact hll
  refine ⟨A, cap, l.map (·.1), by rw [hl']; exact hcs, by rw [hl']; exact hlc, hm, ?_, fun r hr => ?_⟩
  · rw [hl', List.flatMap_map]; exact CellsIn.came hc
  · obtain ⟨a, _, rfl⟩ := List.mem_map.1 hr
    exact a.2
end
end Go.Proofs.Ytgkejdjdccgjbaa
