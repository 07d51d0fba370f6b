/- rtcp's Parse: its answer as a function of bytes, step by step, and what a round of its loop keeps. Plain laws. (Written by wip/gen/rtcpparseg.py.) -/
import Derived.Test.YtgkejdjdccgjbaaReadA
import Derived.Test.YtgkejdjdccgjbaaPad
namespace Go.Proofs.Ytgkejdjdccgjbaa
open Go Go.RowKit
set_option maxHeartbeats 400000

/-- a message's rows lie in other blocks than a slice of the call's own -/
structure Off (v : Value) (m : Mg) (h : Hd) : Prop where
  r : ∀ s, v.ownBlock = some s → 0 < m.reports.length → ∀ a, h.rA = some a → a.block ≠ s
  w : ∀ s, v.ownBlock = some s → 0 < m.who.length → ∀ a, h.wA = some a → a.block ≠ s
  p : ∀ s, v.ownBlock = some s → 0 < m.pairs.length → ∀ a, h.pA = some a → a.block ≠ s
  a : ∀ s, v.ownBlock = some s → 0 < m.asks.length → ∀ a, h.aA = some a → a.block ≠ s
theorem CellsIn.below_hi {w : World} {lo hi size n : Nat} {A : Option Addr} {xs : List Value} (h : CellsIn w lo hi size A n xs) (hn : 0 < n) : ∀ a, A = some a → a.block < hi := by
  intro a ha
  obtain ⟨b, off, e, _, h2, _⟩ := h.2 hn
  rw [ha] at e
  obtain rfl := Option.some.inj e
  exact h2
theorem MgIn.off_new {w : World} {lo : Nat} {m : Mg} {h : Hd} (k : MgIn w lo m h) (u : Value) (hu : ∀ s, u.ownBlock = some s → w.heap.size ≤ s) : Off u m h :=
  ⟨fun s hs hn a ha e => by have := k.cr.below_hi hn a ha; have := hu s hs; omega, fun s hs hn a ha e => by have := k.cw.below_hi hn a ha; have := hu s hs; omega,
   fun s hs hn a ha e => by have := k.cp.below_hi hn a ha; have := hu s hs; omega, fun s hs hn a ha e => by have := k.ca.below_hi hn a ha; have := hu s hs; omega⟩
theorem MgIn.off_old {w : World} {lo : Nat} {m : Mg} {h : Hd} (k : MgIn w lo m h) (u : Value) (hu : ∀ s, u.ownBlock = some s → s < lo) : Off u m h :=
  ⟨fun s hs hn a ha e => by have := k.cr.fresh hn a ha; have := hu s hs; omega, fun s hs hn a ha e => by have := k.cw.fresh hn a ha; have := hu s hs; omega,
   fun s hs hn a ha e => by have := k.cp.fresh hn a ha; have := hu s hs; omega, fun s hs hn a ha e => by have := k.ca.fresh hn a ha; have := hu s hs; omega⟩
theorem MgIn.grown {w w' : World} {lo : Nat} {m : Mg} {h : Hd} {v : Value} (k : MgIn w lo m h) (f : Off v m h) (g : w.grownBy w' v.ownBlock) : MgIn w' lo m h :=
  k.upd (Upd.of_grown g) (fun s hs => f.r s (by simpa using hs)) (fun s hs => f.w s (by simpa using hs)) (fun s hs => f.p s (by simpa using hs)) (fun s hs => f.a s (by simpa using hs)) (Nat.le_refl _)
theorem MgIn.same {w w' : World} {lo lo' : Nat} {m : Mg} {h : Hd} (k : MgIn w lo m h) (u : Upd [] w w') (hl : lo' ≤ lo) : MgIn w' lo' m h :=
  k.upd u (by simp) (by simp) (by simp) (by simp) hl
theorem ownsRow_lower {w : World} {B B' : Nat} {e : TypeId} {size n : Nat} {v : Value} {xs : List Value} (h : w.ownsRow B e size v n xs) (hB : B' ≤ B) : w.ownsRow B' e size v n xs :=
  ⟨h.1, h.2.imp id fun ⟨g, cap, cur, hv, hg, r⟩ => ⟨g, cap, cur, hv, Nat.le_trans hB hg, r⟩⟩
theorem parseA_err {f : Nat} {out : List Mg} {xs : List Int} {e : Int} (h : stepM xs = .error e) : parseA (f + 1) out xs = ([], e) := by
  show (match stepM xs with | .error e => ([], e) | .ok (m, rest) => if rest.length = 0 then (out ++ [m], 0) else parseA f (out ++ [m]) rest) = _
  rw [h]
theorem parseA_ok {f : Nat} {out : List Mg} {xs rest : List Int} {m : Mg} (h : stepM xs = .ok (m, rest)) : parseA (f + 1) out xs = if rest.length = 0 then (out ++ [m], 0) else parseA f (out ++ [m]) rest := by
  show (match stepM xs with | .error e => ([], e) | .ok (m, rest) => if rest.length = 0 then (out ++ [m], 0) else parseA f (out ++ [m]) rest) = _
  rw [h]
theorem stepM_short {xs : List Int} (h : xs.length < 4) : stepM xs = .error 10 := by
  match xs, h with
  | [], _ => rfl
  | [_], _ => rfl
  | [_, _], _ => rfl
  | [_, _, _], _ => rfl
theorem stepM_form {x0 x1 x2 x3 : Int} {rest : List Int} (h : isM [x0, x1, x2, x3] = false) : stepM (x0 :: x1 :: x2 :: x3 :: rest) = .error 11 := by
  show (if isM [x0, x1, x2, x3] = true then _ else _) = _
  rw [if_neg (by rw [h]; decide)]
theorem stepM_cut {x0 x1 x2 x3 : Int} {rest : List Int} (h : isM [x0, x1, x2, x3] = true) (hn : rest.length < 4 * (x2.toNat * 256 + x3.toNat)) : stepM (x0 :: x1 :: x2 :: x3 :: rest) = .error 10 := by
  show (if isM [x0, x1, x2, x3] = true then _ else _) = _
  rw [if_pos h, if_pos hn]
theorem stepM_pad {x0 x1 x2 x3 : Int} {rest : List Int} (h : isM [x0, x1, x2, x3] = true) (hn : ¬ rest.length < 4 * (x2.toNat * 256 + x3.toNat))
    (hb : bodyOf x0 (rest.take (4 * (x2.toNat * 256 + x3.toNat))) (decide ((rest.drop (4 * (x2.toNat * 256 + x3.toNat))).length = 0)) = none) : stepM (x0 :: x1 :: x2 :: x3 :: rest) = .error 11 := by
  show (if isM [x0, x1, x2, x3] = true then _ else _) = _
  rw [if_pos h, if_neg hn, hb]
theorem stepM_read {x0 x1 x2 x3 : Int} {rest b : List Int} (h : isM [x0, x1, x2, x3] = true) (hn : ¬ rest.length < 4 * (x2.toNat * 256 + x3.toNat))
    (hb : bodyOf x0 (rest.take (4 * (x2.toNat * 256 + x3.toNat))) (decide ((rest.drop (4 * (x2.toNat * 256 + x3.toNat))).length = 0)) = some b) :
    stepM (x0 :: x1 :: x2 :: x3 :: rest) = if (readM x1 (x0 % 32).toNat b).2 = 0 then .ok ((readM x1 (x0 % 32).toNat b).1, rest.drop (4 * (x2.toNat * 256 + x3.toNat))) else .error (readM x1 (x0 % 32).toNat b).2 := by
  show (if isM [x0, x1, x2, x3] = true then _ else _) = _
  rw [if_pos h, if_neg hn, hb]
theorem cutM_sub {xs ys : List Int} {l : Bool} (h : cutM xs l = some ys) : l = true ∧ ∃ k, ys = xs.take k := by
  unfold cutM at h
  split at h
  · cases h
  · rename_i hh
    dsimp only at h
    split at h
    · cases h
    · exact ⟨by cases l <;> simp_all, _, (Option.some.inj h).symm⟩
theorem round_rel {w W w9 : World} {c N1 L gk f n4 lo4 cv : Nat} {R : List Mg × Int} {Av : Option Addr} {out : List (Mg × Hd)} {v9 : Value} {rd : Rw} {m : Mg} {hd : Hd} {body : List Int}
    (HUD : Upd [] w W) (HOWD : W.ownsRow N1 59 12 (.slice Av out.length cv) out.length (out.flatMap encM)) (HCD : CutIs W c w.heap.size rd 0) (HMD : ∀ x, x ∈ out → MgIn W N1 x.1 x.2 ∧ Off (.slice Av out.length cv) x.1 x.2)
    (HIND : MgIn W lo4 m hd) (hN4 : N1 ≤ lo4) (HOLD : ∀ s, (Value.slice Av out.length cv).ownBlock = some s → s < lo4) (HROW : ∀ a, rd.A = some a → a.block < N1) (HSZ : N1 ≤ W.heap.size) (HWN : w.heap.size ≤ N1) (h1 : 4 * out.length + (body.length + 4) ≤ L)
    (h2 : body.length + 4 ≤ gk) (h3 : body.length + 4 < f + 1) (HBD : Byt body) (HRD : rd.xs = body.drop n4) (hpo : R = if (body.drop n4).length = 0 then (out.map (·.1) ++ [m], 0) else parseA f (out.map (·.1) ++ [m]) (body.drop n4))
    (hown9 : w9.ownsRow N1 59 12 v9 (out.length + 1) (out.flatMap encM ++ encM (m, hd))) (hg9 : W.grownBy w9 (Value.slice Av out.length cv).ownBlock) (hat9 : v9.ownBlock = (Value.slice Av out.length cv).ownBlock ∨ v9.ownBlock = some W.heap.size) :
    (∃ (re : Rw) (out : List (Mg × Hd)) (f : Nat), CutIs w9 c w.heap.size re 0 ∧ Byt re.xs ∧ 4 * out.length + re.xs.length ≤ L ∧ re.xs.length ≤ gk - 1 ∧ (re.xs.length = 0 → L = 0) ∧ re.xs.length < f ∧ parseA f (out.map (·.1)) re.xs = R ∧
        w9.ownsRow N1 59 12 v9 out.length (out.flatMap encM) ∧ (∀ x, x ∈ out → MgIn w9 N1 x.1 x.2 ∧ Off v9 x.1 x.2) ∧ (∀ a, re.A = some a → a.block < N1) ∧ N1 ≤ w9.heap.size ∧ Upd [] w w9) ∨
      (∃ (re : Rw) (out : List (Mg × Hd)), CutIs w9 c w.heap.size re 0 ∧ re.xs = [] ∧ 0 < L ∧ R = (out.map (·.1), 0) ∧ w9.ownsRow w.heap.size 59 12 v9 out.length (out.flatMap encM) ∧ (∀ x, x ∈ out → MgIn w9 w.heap.size x.1 x.2) ∧ Upd [] w w9) := by
  have hu9 := app_upd HUD HOWD hg9 HWN
  have hcut9 : CutIs w9 c w.heap.size rd 0 := by
    have hno : c ∉ (Value.slice Av out.length cv).ownBlock.toList := fun hm => by
      obtain ⟨cur, hcur⟩ := row_type HOWD c (by simpa using hm)
      exact (hcur.ne HCD.bl (by decide)) rfl
    exact ⟨HCD.bl.upd (Upd.of_grown hg9) hno, HCD.row.upd2 (Upd.of_grown hg9) (fun s hs a ha e => by
      have h1 := HROW a ha
      have h2 := (own_block_lt HOWD (by simpa using hs)).1
      omega), HCD.ap, HCD.fm⟩
  have hoff : Off (.slice Av out.length cv) m hd := HIND.off_old _ HOLD
  have hmi9 : ∀ x, x ∈ out ++ [(m, hd)] → MgIn w9 N1 x.1 x.2 ∧ Off v9 x.1 x.2 := by
    intro x hx
    have hk : ∃ l, N1 ≤ l ∧ MgIn W l x.1 x.2 ∧ Off (.slice Av out.length cv) x.1 x.2 := by
      rcases List.mem_append.1 hx with hx | hx
      · exact ⟨N1, Nat.le_refl _, HMD x hx⟩
      · rw [List.mem_singleton] at hx
        subst hx
        exact ⟨_, hN4, HIND, hoff⟩
    obtain ⟨l, hNl, hk1, hk2⟩ := hk
    refine ⟨(hk1.grown hk2 hg9).same (Upd.refl _ _) hNl, ?_⟩
    rcases hat9 with e | e
    · exact ⟨fun s hs => hk2.r s (by rw [← e]; exact hs), fun s hs => hk2.w s (by rw [← e]; exact hs), fun s hs => hk2.p s (by rw [← e]; exact hs), fun s hs => hk2.a s (by rw [← e]; exact hs)⟩
    · exact hk1.off_new _ (fun s hs => by rw [e] at hs; exact Nat.le_of_eq (Option.some.inj hs))
  have hfl : (out ++ [(m, hd)]).flatMap encM = out.flatMap encM ++ encM (m, hd) := by simp
  have hlen' : (out ++ [(m, hd)]).length = out.length + 1 := by rw [List.length_append]; rfl
  have hown9' : w9.ownsRow N1 59 12 v9 (out ++ [(m, hd)]).length ((out ++ [(m, hd)]).flatMap encM) := by rw [hfl, hlen']; exact hown9
  rw [← HRD] at hpo
  have hrl : rd.xs.length = body.length - n4 := by rw [HRD, List.length_drop]
  have hbyr : Byt rd.xs := by rw [HRD]; intro z hz; exact HBD z (List.mem_of_mem_drop hz)
  have hmap : (out ++ [(m, hd)]).map (·.1) = out.map (·.1) ++ [m] := by rw [List.map_append]; rfl
  by_cases hz : rd.xs.length = 0
  · rw [if_pos hz] at hpo
    exact .inr ⟨rd, out ++ [(m, hd)], hcut9, List.eq_nil_of_length_eq_zero hz, by omega, by rw [hmap]; exact hpo, ownsRow_lower hown9' HWN, fun x hx => (hmi9 x hx).1.same (Upd.refl _ _) HWN, hu9⟩
  · rw [if_neg hz] at hpo
    exact .inl ⟨rd, out ++ [(m, hd)], f, hcut9, hbyr, by rw [hlen']; omega, by omega, fun hh => absurd hh hz, by omega, by rw [hmap]; exact hpo.symm, hown9', hmi9, HROW, Nat.le_trans HSZ hg9.size, hu9⟩
end Go.Proofs.Ytgkejdjdccgjbaa
