/- The laws' 'named', in general; what RtcpBack wants back. Condition: a kind that may be put. -/
import Derived.Test.YtgkejdjdccgjbaaAll
import Derived.Test.YtgkejdjdccgjbaaNamed
import Derived.Test.YtgkejdjdccgjbaaBack2
import Derived.Test.YtgkejdjdccgjbaaSame2
namespace Go.Proofs.Ytgkejdjdccgjbaa
open Go Go.RowKit
set_option maxHeartbeats 400000

/-- a message without what its kind does not name -/
def nameM (m : Mg) : Mg :=
  if m.kind = 0 then ⟨0, m.ssrc, 0, m.clock, m.time, m.packets, m.bytes, m.reports, [], [], [], 0⟩
  else if m.kind = 1 then ⟨1, m.ssrc, 0, 0, 0, 0, 0, m.reports, [], [], [], 0⟩
  else if m.kind = 2 then ⟨2, 0, 0, 0, 0, 0, 0, [], m.who, [], [], 0⟩
  else if m.kind = 3 then ⟨3, m.ssrc, m.media, 0, 0, 0, 0, [], [], m.pairs, [], 0⟩
  else if m.kind = 4 then ⟨4, m.ssrc, m.media, 0, 0, 0, 0, [], [], [], [], 0⟩
  else ⟨5, m.ssrc, m.media, 0, 0, 0, 0, [], [], [], m.asks, 0⟩
theorem back_name (m : Mg) : backM m = { nameM m with reports := (nameM m).reports.map lostM } := by
  unfold backM nameM
  repeat' split
  all_goals rfl
theorem is_kind {m : Mg} (h : (bodyM m).is = true) : m.kind = 0 ∨ m.kind = 1 ∨ m.kind = 2 ∨ m.kind = 3 ∨ m.kind = 4 ∨ m.kind = 5 := by
  by_cases h0 : m.kind = 0
  · exact .inl h0
  by_cases h1 : m.kind = 1
  · exact .inr (.inl h1)
  by_cases h2 : m.kind = 2
  · exact .inr (.inr (.inl h2))
  by_cases h3 : m.kind = 3
  · exact .inr (.inr (.inr (.inl h3)))
  by_cases h4 : m.kind = 4
  · exact .inr (.inr (.inr (.inr (.inl h4))))
  by_cases h5 : m.kind = 5
  · exact .inr (.inr (.inr (.inr (.inr h5))))
  unfold bodyM at h
  rw [if_neg h0, if_neg h1, if_neg h2, if_neg h3, if_neg h4, if_neg h5] at h
  simp at h
theorem lost_ok {r : Rep} (h : r.Ok) : (lostM r).Ok :=
  ⟨h.ssrc, h.part, ⟨by show 0 ≤ r.lost % 16777216; omega, by show r.lost % 16777216 ≤ 4294967295; omega⟩, h.high, h.jitter, h.last, h.delay⟩
theorem num_zero : (⟨0, 0, 0, 0, 0, 0, 0, [], [], [], [], 0⟩ : Mg).Num := by
  constructor <;> simp [U32, U64, U8]
theorem back_num {m : Mg} (h : m.Num) : (backM m).Num := by
  have l1 : ∀ r, r ∈ m.reports.map lostM → r.Ok := fun r hr => by
    obtain ⟨q, hq, rfl⟩ := List.mem_map.1 hr
    exact lost_ok (h.reports q hq)
  obtain ⟨a1, a2, a3, a4, a5, a6, a7, a8, a9, a10, a11⟩ := h
  unfold backM
  repeat' split
  all_goals (constructor <;> first | assumption | (dsimp only; unfold U32; omega) | (dsimp only; unfold U64; omega) | (dsimp only; unfold U8; omega) | (intro x hx; cases hx))
theorem name_rep {m : Mg} (h : m.Num) : ∀ r, r ∈ (nameM m).reports → r.Ok := by
  unfold nameM
  repeat' split
  all_goals first | exact h.reports | (intro r hr; cases hr)
theorem back_len (m : Mg) : (backM m).reports.length ≤ m.reports.length ∧ (backM m).who.length ≤ m.who.length ∧ (backM m).pairs.length ≤ m.pairs.length ∧ (backM m).asks.length ≤ m.asks.length := by
  unfold backM
  repeat' split
  all_goals simp
theorem map_flat (l : List Int) : l.map (Value.int .u32) = l.flatMap encW := by
  induction l with
  | nil => rfl
  | cons x l ih => rw [List.map_cons, List.flatMap_cons, ih]; rfl
theorem RfIn.c {w : World} {lo : Nat} {m : Mg} {h : Hd} (k : RfIn w lo m h) (h1 : m.reports.length ≤ 60 ∧ m.who.length ≤ 60 ∧ m.pairs.length ≤ 60 ∧ m.asks.length ≤ 60) : RfC w m h :=
  ⟨k.cr.lower (Nat.zero_le _), by have := k.cw; rwa [show m.who.map (Value.int .u32) = m.who.flatMap encW from map_flat m.who] at this, k.cp.lower (Nat.zero_le _), k.ca.lower (Nat.zero_le _), ⟨by omega, by omega, by omega, by omega⟩⟩
/-- a message's head within a row: what lies there, and one of it changed -/
theorem head_cells {w : World} {N g c LX : Nat} {pre bs : List Int} {z0 ty z2 z3 : Int} {t : TypeId} (h : w.ownsRow N t 1 (.slice (some ⟨g, 0, none⟩) LX c) LX ((pre ++ z0 :: ty :: z2 :: z3 :: bs).map (Value.int .u8))) :
    w.cell? ⟨g, pre.length, none⟩ = some (.int .u8 z0) ∧ w.cell? ⟨g, pre.length + 2, none⟩ = some (.int .u8 z2) ∧ w.cell? ⟨g, pre.length + 3, none⟩ = some (.int .u8 z3) := by
  have hc := fun (k : Nat) (u : Value) (hu : ((pre ++ z0 :: ty :: z2 :: z3 :: bs).map (Value.int .u8))[k]? = some u) => (by
    have := h.cells (g := g) rfl k u hu
    by_cases hk : k = 0
    · subst hk; exact this
    · simpa [Addr.add, hk] using this : w.cell? ⟨g, k, none⟩ = some u)
  refine ⟨hc _ _ ?_, hc _ _ ?_, hc _ _ ?_⟩ <;> simp [List.getElem?_append_right]
theorem head_set {w : World} {N g c LX : Nat} {pre bs : List Int} {z0 ty z2 z3 : Int} {t : TypeId} (h : w.ownsRow N t 1 (.slice (some ⟨g, 0, none⟩) LX c) LX ((pre ++ z0 :: ty :: z2 :: z3 :: bs).map (Value.int .u8))) (y : Int) :
    (w.setCell ⟨g, pre.length, none⟩ (.int .u8 y)).ownsRow N t 1 (.slice (some ⟨g, 0, none⟩) LX c) LX ((pre ++ y :: ty :: z2 :: z3 :: bs).map (Value.int .u8)) ∧
    (w.setCell ⟨g, pre.length + 2, none⟩ (.int .u8 y)).ownsRow N t 1 (.slice (some ⟨g, 0, none⟩) LX c) LX ((pre ++ z0 :: ty :: y :: z3 :: bs).map (Value.int .u8)) ∧
    (w.setCell ⟨g, pre.length + 3, none⟩ (.int .u8 y)).ownsRow N t 1 (.slice (some ⟨g, 0, none⟩) LX c) LX ((pre ++ z0 :: ty :: z2 :: y :: bs).map (Value.int .u8)) := by
  have e : ∀ k, k = pre.length ∨ k = pre.length + 2 ∨ k = pre.length + 3 → ((pre ++ z0 :: ty :: z2 :: z3 :: bs).map (Value.int .u8)).set k (.int .u8 y) = (pre.map (Value.int .u8)) ++ ((z0 :: ty :: z2 :: z3 :: bs).map (Value.int .u8)).set (k - pre.length) (.int .u8 y) := by
    intro k hk
    rw [List.map_append, List.set_append_right _ _ (by rw [List.length_map]; omega), List.length_map]
  refine ⟨?_, ?_, ?_⟩
  · have := (h.stored pre.length (.int .u8 y)).1
    rw [e _ (.inl rfl), Nat.sub_self] at this
    simpa using this
  · have := (h.stored (pre.length + 2) (.int .u8 y)).1
    rw [e _ (.inr (.inl rfl)), Nat.add_sub_cancel_left] at this
    simpa using this
  · have := (h.stored (pre.length + 3) (.int .u8 y)).1
    rw [e _ (.inr (.inr rfl)), Nat.add_sub_cancel_left] at this
    simpa using this
/-- one more message behind those that are there -/
theorem all_rel2 {w W w8 : World} {lo : Nat} {C : Mg × Hd → Prop} {Av : Option Addr} {i cv : Nat} {out : List (Mg × Hd)} {v8 : Value} {m : Mg} {hd : Hd} (hu : Upd [] w W) (ho : W.ownsRow w.heap.size 50 12 (.slice Av i cv) i (out.flatMap encM)) (hi : i = out.length)
    (hin : ∀ x, x ∈ out → RfIn W lo x.1 x.2 ∧ Off (.slice Av i cv) x.1 x.2 ∧ C x) (hn : RfIn W lo m hd ∧ Off (.slice Av i cv) m hd ∧ C (m, hd)) (hown8 : w8.ownsRow w.heap.size 50 12 v8 (i + 1) (out.flatMap encM ++ encM (m, hd)))
    (hg8 : W.grownBy w8 (Value.slice Av i cv).ownBlock) (hat8 : v8.ownBlock = (Value.slice Av i cv).ownBlock ∨ v8.ownBlock = some W.heap.size) :
    w8.ownsRow w.heap.size 50 12 v8 (out ++ [(m, hd)]).length ((out ++ [(m, hd)]).flatMap encM) ∧ (∀ x, x ∈ out ++ [(m, hd)] → RfIn w8 lo x.1 x.2 ∧ Off v8 x.1 x.2 ∧ C x) ∧ Upd [] w w8 := by
  have hfl : (out ++ [(m, hd)]).flatMap encM = out.flatMap encM ++ encM (m, hd) := by simp
  have hlen' : (out ++ [(m, hd)]).length = i + 1 := by rw [List.length_append, hi]; rfl
  refine ⟨by rw [hfl, hlen']; exact hown8, fun x hx => ?_, app_upd hu ho hg8 (Nat.le_refl _)⟩
  have hk : RfIn W lo x.1 x.2 ∧ Off (.slice Av i cv) x.1 x.2 ∧ C x := by
    rcases List.mem_append.1 hx with hx | hx
    · exact hin x hx
    · rw [List.mem_singleton] at hx
      subst hx
      exact hn
  refine ⟨hk.1.grown hk.2.1 hg8, ?_, hk.2.2⟩
  rcases hat8 with e | e
  · exact ⟨fun s hs => hk.2.1.r s (by rw [← e]; exact hs), fun s hs => hk.2.1.w s (by rw [← e]; exact hs), fun s hs => hk.2.1.p s (by rw [← e]; exact hs), fun s hs => hk.2.1.a s (by rw [← e]; exact hs)⟩
  · exact hk.1.off_new _ (fun s hs => by rw [e] at hs; exact Nat.le_of_eq (Option.some.inj hs))
/-- zeros, and a number at the end -/
theorem tail_src (w : World) (N1 : Nat) (y : Int) (t : TypeId) : ∀ (j : Nat) (u : Value), ((List.replicate N1 0 ++ [y]).map (Value.int .u8))[j]? = some u →
    ((w.alloc (.cells (List.replicate (N1 + 1) (Value.int .u8 0)).toArray t)).setCell ⟨w.heap.size, N1, none⟩ (.int .u8 y)).cell? ((⟨w.heap.size, 0, none⟩ : Addr).add j) = some u := by
  have hb := (Blk.new w t (List.replicate (N1 + 1) (Value.int .u8 0)).toArray).store N1 (.int .u8 y)
  have e : (List.replicate (N1 + 1) (Value.int .u8 0)).toArray.setIfInBounds N1 (.int .u8 y) = ((List.replicate N1 0 ++ [y]).map (Value.int .u8)).toArray := by
    apply Array.ext'
    simp [List.replicate_succ']
  rw [e] at hb
  exact blk_src hb
theorem run_mk1 {P : Program} (t e : TypeId) (z : Value) (bytes : Nat) (ht : P.underlying t = some (.slice e)) (hi : (P.info? e).map (fun i => (i.zero, i.size, i.bytes)) = some (some z, 1, bytes))
    (hz : z.cells = #[z]) (n : Nat) (hb : bytes * n ≤ 281474976710656) (hn : n ≤ 65536) (w : World) :
    (Instr.makeSlice t (.int .i64 (n : Int)) (.int .i64 (n : Int))).run P w = .ok (.slice (some ⟨w.heap.size, 0, none⟩) n n) (w.alloc (.cells (List.replicate n z).toArray e)) := by
  obtain ⟨i0, hi0, hz0, hz1, hz2⟩ := info_parts hi
  have hb' : (i0.bytes : Int) * (n : Int) ≤ 281474976710656 := by
    rw [hz2]
    have : ((bytes * n : Nat) : Int) ≤ 281474976710656 := by omega
    rwa [Int.natCast_mul] at this
  have h := run_make (P := P) w t e i0 z ht hi0 hz0 .i64 .i64 (n : Int) (n : Int) (by omega) (by omega) hb' (by omega)
  rw [Int.toNat_natCast, hz1, Nat.mul_one] at h
  rw [h]
  congr 3
  unfold madeCells
  rw [hz]
  apply Array.ext
  · simp
  · intro i h1 h2
    simp [Nat.mod_one]
set_option maxHeartbeats 1000000 in
theorem named_any {w : World} {lo : Nat} {m : Mg} {h : Hd} (hk : m.kind = 0 ∨ m.kind = 1 ∨ m.kind = 2 ∨ m.kind = 3 ∨ m.kind = 4 ∨ m.kind = 5) (hr : RfIn w lo m h) :
    Calls Try.prog 19 #[.agg (mcells m h).toArray] w fun e w' => ∃ h', e = .returned (.agg (mcells (nameM m) h').toArray) ∧ RfIn w' lo (nameM m) h' ∧ (∀ a, h'.wA = some a → 0 < (nameM m).who.length → h.wA = some a ∧ 0 < m.who.length) ∧ Upd [] w w' := by
  obtain ⟨kk, m1, m2, m3, m4, m5, m6, rs, wh, ps, qs, ty⟩ := m
  obtain ⟨rA, rc, wA, wc, pA, pc, aA, ac⟩ := h
  dsimp only at hk
  have nr : ∀ (w' : World) (ms : List Rep), ms = [] → CellsIn w' lo w'.heap.size 7 none ms.length (ms.flatMap encRep) := fun w' ms e => by subst e; exact CellsIn.nil _ _ _ _ _
  have nw : ∀ (w' : World) (ms : List Int), ms = [] → CellsIn w' 0 w'.heap.size 1 none ms.length (ms.map (Value.int .u32)) := fun w' ms e => by subst e; exact CellsIn.nil _ _ _ _ _
  have np : ∀ (w' : World) (ms : List (Int × Int)), ms = [] → CellsIn w' lo w'.heap.size 2 none ms.length (ms.flatMap encP2) := fun w' ms e => by subst e; exact CellsIn.nil _ _ _ _ _
  have na : ∀ (w' : World) (ms : List (Int × Int)), ms = [] → CellsIn w' lo w'.heap.size 2 none ms.length (ms.flatMap encAsk) := fun w' ms e => by subst e; exact CellsIn.nil _ _ _ _ _
  rcases hk with rfl | rfl | rfl | rfl | rfl | rfl
  · refine (named_0 w m1 m2 m3 m4 m5 m6 ty rA wA pA aA rs.length rc wh.length wc ps.length pc qs.length ac).mono ?_
    rintro e w' ⟨rfl, hu⟩
    have hr' := hr.same hu (Nat.le_refl lo)
    exact ⟨⟨rA, rc, none, 0, none, 0, none, 0⟩, rfl, ⟨hr'.cr, nw _ _ rfl, np _ _ rfl, na _ _ rfl⟩, fun a h => (by cases h), hu⟩
  · refine (named_1 w m1 m2 m3 m4 m5 m6 ty rA wA pA aA rs.length rc wh.length wc ps.length pc qs.length ac).mono ?_
    rintro e w' ⟨rfl, hu⟩
    have hr' := hr.same hu (Nat.le_refl lo)
    exact ⟨⟨rA, rc, none, 0, none, 0, none, 0⟩, rfl, ⟨hr'.cr, nw _ _ rfl, np _ _ rfl, na _ _ rfl⟩, fun a h => (by cases h), hu⟩
  · refine (named_2 w m1 m2 m3 m4 m5 m6 ty rA wA pA aA rs.length rc wh.length wc ps.length pc qs.length ac).mono ?_
    rintro e w' ⟨rfl, hu⟩
    have hr' := hr.same hu (Nat.le_refl lo)
    exact ⟨⟨none, 0, wA, wc, none, 0, none, 0⟩, rfl, ⟨nr _ _ rfl, hr'.cw, np _ _ rfl, na _ _ rfl⟩, fun a h hn => ⟨h, hn⟩, hu⟩
  · refine (named_3 w m1 m2 m3 m4 m5 m6 ty rA wA pA aA rs.length rc wh.length wc ps.length pc qs.length ac).mono ?_
    rintro e w' ⟨rfl, hu⟩
    have hr' := hr.same hu (Nat.le_refl lo)
    exact ⟨⟨none, 0, none, 0, pA, pc, none, 0⟩, rfl, ⟨nr _ _ rfl, nw _ _ rfl, hr'.cp, na _ _ rfl⟩, fun a h => (by cases h), hu⟩
  · refine (named_4 w m1 m2 m3 m4 m5 m6 ty rA wA pA aA rs.length rc wh.length wc ps.length pc qs.length ac).mono ?_
    rintro e w' ⟨rfl, hu⟩
    exact ⟨⟨none, 0, none, 0, none, 0, none, 0⟩, rfl, ⟨nr _ _ rfl, nw _ _ rfl, np _ _ rfl, na _ _ rfl⟩, fun a h => (by cases h), hu⟩
  · refine (named_5 w m1 m2 m3 m4 m5 m6 ty rA wA pA aA rs.length rc wh.length wc ps.length pc qs.length ac).mono ?_
    rintro e w' ⟨rfl, hu⟩
    have hr' := hr.same hu (Nat.le_refl lo)
    exact ⟨⟨none, 0, none, 0, none, 0, aA, ac⟩, rfl, ⟨nr _ _ rfl, nw _ _ rfl, np _ _ rfl, hr'.ca⟩, fun a h => (by cases h), hu⟩
end Go.Proofs.Ytgkejdjdccgjbaa
