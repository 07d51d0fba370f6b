/- What is put is parsed: as many messages. Plain laws, no program in sight. -/
import Derived.Test.YtgkejdjdccgjbaaParseS
import Derived.Test.YtgkejdjdccgjbaaMsg
namespace Go.Proofs.Ytgkejdjdccgjbaa
open Go Go.RowKit
set_option maxHeartbeats 1000000

theorem repsM_ok {s : List Int × Int} (h : s.2 = 0) : ∀ n, 24 * n ≤ s.1.length → (repsM n s).2.1.length = s.1.length - 24 * n ∧ (repsM n s).2.2 = 0
  | 0, _ => ⟨by simp [repsM], h⟩
  | n + 1, hn => by
    obtain ⟨h1, h2⟩ := repsM_ok h n (by omega)
    obtain ⟨a1, a2⟩ := after_ok 4 h2 (by omega)
    obtain ⟨b1, b2⟩ := after_ok 1 a2 (by omega)
    obtain ⟨c1, c2⟩ := after_ok 3 b2 (by omega)
    obtain ⟨d1, d2⟩ := after_ok 4 c2 (by omega)
    obtain ⟨e1, e2⟩ := after_ok 4 d2 (by omega)
    obtain ⟨f1, f2⟩ := after_ok 4 e2 (by omega)
    obtain ⟨g1, g2⟩ := after_ok 4 f2 (by omega)
    exact ⟨by show (repA (repsM n s).2).1.length = _; unfold repA; omega, g2⟩
theorem whoM_ok {s : List Int × Int} (h : s.2 = 0) : ∀ n, 4 * n ≤ s.1.length → (whoM n s).2.1.length = s.1.length - 4 * n ∧ (whoM n s).2.2 = 0
  | 0, _ => ⟨by simp [whoM], h⟩
  | n + 1, hn => by
    obtain ⟨h1, h2⟩ := whoM_ok h n (by omega)
    obtain ⟨a1, a2⟩ := after_ok 4 h2 (by omega)
    exact ⟨by show (after (whoM n s).2 4).1.length = _; omega, a2⟩
theorem finM_zero {q : Mg × (List Int × Int)} (h : q.2.2 = 0) (h3 : q.1.kind = 3 → q.1.pairs.length ≠ 0) (h5 : q.1.kind = 5 → q.1.asks.length ≠ 0) : (finM q).2 = 0 := by
  unfold finM
  rw [if_pos h, if_neg]
  rintro (⟨a, b⟩ | ⟨a, b⟩)
  · exact h3 a b
  · exact h5 a b
/-- what a message's body is read back without fault -/
theorem read_back {m : Mg} (h : (bodyM m).is = true) : (readM (bodyM m).t (bodyM m).n (bytesOf (bodyM m).ps)).2 = 0 := by
  have h1 := sz_flat repParts 24 (fun _ => rfl) m.reports
  have h2 := sz_flat pairParts 4 (fun _ => rfl) m.pairs
  have h3 := sz_flat askParts 8 (fun _ => rfl) m.asks
  have h4 := sz_who m.who
  have hlen := bytesOf_sz (bodyM m).ps
  obtain ⟨bs, hbs⟩ : ∃ bs, bs = bytesOf (bodyM m).ps := ⟨_, rfl⟩
  rw [← hbs] at hlen ⊢
  clear hbs
  by_cases k0 : m.kind = 0
  · have eb : bodyM m = ⟨200, m.reports.length, [(m.ssrc, 4), (m.clock, 8), (m.time, 4), (m.packets, 4), (m.bytes, 4)] ++ m.reports.flatMap repParts, decide (m.reports.length ≤ 31)⟩ := by unfold bodyM; rw [if_pos k0]
    rw [eb] at hlen ⊢
    dsimp only at hlen ⊢
    rw [sz_app, h1] at hlen
    have hl : bs.length = 24 + 24 * m.reports.length := by rw [hlen]; simp [sz]
    have er : readM 200 m.reports.length bs = finM (senderM m.reports.length (bs, 0)) := by unfold readM; rw [if_pos (by simp [kindM])]
    rw [er]
    obtain ⟨a1, a2⟩ := after_ok (s := (bs, 0)) 4 rfl (by dsimp only; omega)
    obtain ⟨b1, b2⟩ := after_ok 8 a2 (by dsimp only at a1; omega)
    obtain ⟨c1, c2⟩ := after_ok 4 b2 (by dsimp only at a1; omega)
    obtain ⟨d1, d2⟩ := after_ok 4 c2 (by dsimp only at a1; omega)
    obtain ⟨e1, e2⟩ := after_ok 4 d2 (by dsimp only at a1; omega)
    exact finM_zero (repsM_ok e2 m.reports.length (by dsimp only at a1; omega)).2 (fun hk => absurd hk (by simp [senderM])) (fun hk => absurd hk (by simp [senderM]))
  by_cases k1 : m.kind = 1
  · have eb : bodyM m = ⟨201, m.reports.length, [(m.ssrc, 4)] ++ m.reports.flatMap repParts, decide (m.reports.length ≤ 31)⟩ := by unfold bodyM; rw [if_neg k0, if_pos k1]
    rw [eb] at hlen ⊢
    dsimp only at hlen ⊢
    rw [sz_app, h1] at hlen
    have hl : bs.length = 4 + 24 * m.reports.length := by rw [hlen]; simp [sz]
    have er : readM 201 m.reports.length bs = finM (receiverM m.reports.length (bs, 0)) := by unfold readM; rw [if_neg (by simp [kindM]), if_pos (by simp [kindM])]
    rw [er]
    obtain ⟨a1, a2⟩ := after_ok (s := (bs, 0)) 4 rfl (by dsimp only; omega)
    exact finM_zero (repsM_ok a2 m.reports.length (by dsimp only at a1; omega)).2 (fun hk => absurd hk (by simp [receiverM])) (fun hk => absurd hk (by simp [receiverM]))
  by_cases k2 : m.kind = 2
  · have eb : bodyM m = ⟨203, m.who.length, m.who.map fun x => (x, 4), decide (m.who.length ≤ 31)⟩ := by unfold bodyM; rw [if_neg k0, if_neg k1, if_pos k2]
    rw [eb] at hlen ⊢
    dsimp only at hlen ⊢
    rw [h4] at hlen
    have er : readM 203 m.who.length bs = finM (byeM m.who.length (bs, 0)) := by unfold readM; rw [if_neg (by simp [kindM]), if_neg (by simp [kindM]), if_pos (by simp [kindM])]
    rw [er]
    exact finM_zero (whoM_ok (s := (bs, 0)) rfl m.who.length (by dsimp only; omega)).2 (fun hk => absurd hk (by simp [byeM])) (fun hk => absurd hk (by simp [byeM]))
  by_cases k3 : m.kind = 3
  · have eb : bodyM m = ⟨205, 1, [(m.ssrc, 4), (m.media, 4)] ++ m.pairs.flatMap pairParts, decide (0 < m.pairs.length)⟩ := by unfold bodyM; rw [if_neg k0, if_neg k1, if_neg k2, if_pos k3]
    rw [eb] at hlen h ⊢
    dsimp only at hlen h ⊢
    have hp : 0 < m.pairs.length := by simpa using h
    rw [sz_app, h2] at hlen
    have hl : bs.length = 8 + 4 * m.pairs.length := by rw [hlen]; simp [sz]
    have er : readM 205 (1 : Nat) bs = finM (nackM (bs, 0)) := by unfold readM; rw [if_neg (by simp [kindM]), if_neg (by simp [kindM]), if_neg (by simp [kindM]), if_pos (by simp [kindM])]
    rw [er]
    obtain ⟨a1, a2⟩ := after_ok (s := (bs, 0)) 4 rfl (by dsimp only; omega)
    obtain ⟨b1, b2⟩ := after_ok 4 a2 (by dsimp only at a1; omega)
    have hq : (after (after (bs, 0) 4) 4).1.length = 4 * m.pairs.length := by dsimp only at a1; omega
    refine finM_zero (pairsM_ok b2 _ (by rw [hq]; omega)).2 (fun _ => ?_) (fun hk => absurd hk (by simp [nackM]))
    show (pairsM ((after (after (bs, 0) 4) 4).1.length / 4) (after (after (bs, 0) 4) 4)).1.length ≠ 0
    rw [pairsM_len, hq]
    omega
  by_cases k4 : m.kind = 4
  · have eb : bodyM m = ⟨206, 1, [(m.ssrc, 4), (m.media, 4)], true⟩ := by unfold bodyM; rw [if_neg k0, if_neg k1, if_neg k2, if_neg k3, if_pos k4]
    rw [eb] at hlen ⊢
    dsimp only at hlen ⊢
    have hl : bs.length = 8 := by rw [hlen]; simp [sz]
    have er : readM 206 (1 : Nat) bs = finM (pliG (bs, 0)) := by unfold readM; rw [if_neg (by simp [kindM]), if_neg (by simp [kindM]), if_neg (by simp [kindM]), if_neg (by simp [kindM]), if_pos (by simp [kindM])]
    rw [er]
    obtain ⟨a1, a2⟩ := after_ok (s := (bs, 0)) 4 rfl (by dsimp only; omega)
    obtain ⟨b1, b2⟩ := after_ok 4 a2 (by dsimp only at a1; omega)
    exact finM_zero b2 (fun hk => absurd hk (by simp [pliG])) (fun hk => absurd hk (by simp [pliG]))
  by_cases k5 : m.kind = 5
  · have eb : bodyM m = ⟨206, 4, [(m.ssrc, 4), (m.media, 4)] ++ m.asks.flatMap askParts, decide (0 < m.asks.length)⟩ := by unfold bodyM; rw [if_neg k0, if_neg k1, if_neg k2, if_neg k3, if_neg k4, if_pos k5]
    rw [eb] at hlen h ⊢
    dsimp only at hlen h ⊢
    have hp : 0 < m.asks.length := by simpa using h
    rw [sz_app, h3] at hlen
    have hl : bs.length = 8 + 8 * m.asks.length := by rw [hlen]; simp [sz]
    have er : readM 206 (4 : Nat) bs = finM (firM (bs, 0)) := by unfold readM; rw [if_neg (by simp [kindM]), if_neg (by simp [kindM]), if_neg (by simp [kindM]), if_neg (by simp [kindM]), if_neg (by simp [kindM]), if_pos (by simp [kindM])]
    rw [er]
    obtain ⟨a1, a2⟩ := after_ok (s := (bs, 0)) 4 rfl (by dsimp only; omega)
    obtain ⟨b1, b2⟩ := after_ok 4 a2 (by dsimp only at a1; omega)
    have hq : (after (after (bs, 0) 4) 4).1.length = 8 * m.asks.length := by dsimp only at a1; omega
    refine finM_zero (asksM_ok b2 _ (by rw [hq]; omega)).2 (fun hk => absurd hk (by simp [firM])) (fun _ => ?_)
    show (asksM ((after (after (bs, 0) 4) 4).1.length / 8) (after (after (bs, 0) 4) 4)).1.length ≠ 0
    rw [asksM_len, hq]
    omega
  · exfalso
    unfold bodyM at h
    rw [if_neg k0, if_neg k1, if_neg k2, if_neg k3, if_neg k4, if_neg k5] at h
    cases h
/-- one message of bytes that were put -/
theorem step_put {m : Mg} (h : (bodyM m).is = true) (rest : List Int) (hl : (msgB m).length ≤ 1500) : ∃ m', stepM (msgB m ++ rest) = .ok (m', rest) := by
  have hn := body_n h
  have ht := body_type h
  have h4 := body_four m
  have hr := read_back h
  unfold msgB at hl ⊢
  obtain ⟨bs, hbs⟩ : ∃ bs, bs = bytesOf (bodyM m).ps := ⟨_, rfl⟩
  rw [← hbs] at hl h4 hr ⊢
  simp only [List.cons_append, List.nil_append, List.length_cons] at hl ⊢
  have hx2 : (((bs.length : Int) / 4 / 256) % 256).toNat * 256 + ((bs.length : Int) / 4 % 256).toNat = bs.length / 4 := by omega
  have hmul : 4 * ((((bs.length : Int) / 4 / 256) % 256).toNat * 256 + ((bs.length : Int) / 4 % 256).toNat) = bs.length := by omega
  have hb : bodyOf (128 + ((bodyM m).n : Int)) ((bs ++ rest).take bs.length) (decide (((bs ++ rest).drop bs.length).length = 0)) = some bs := by
    unfold bodyOf
    rw [if_neg (by omega), List.take_left]
  have hs := stepM_read (x0 := 128 + ((bodyM m).n : Int)) (x1 := (bodyM m).t) (x2 := ((bs.length : Int) / 4 / 256) % 256) (x3 := (bs.length : Int) / 4 % 256) (rest := bs ++ rest) (b := bs) (isM_head (by omega) (by omega)) (by rw [hmul, List.length_append]; omega) (by rw [hmul]; exact hb)
  have he : ((128 + ((bodyM m).n : Int)) % 32).toNat = (bodyM m).n := by omega
  rw [he, if_pos hr, hmul, List.drop_left] at hs
  exact ⟨_, hs⟩
theorem parseA_put : ∀ (ms : List Mg), ms ≠ [] → (∀ m, m ∈ ms → (bodyM m).is = true) → ∀ (f : Nat) (out : List Mg), (ms.flatMap msgB).length ≤ 1500 → (ms.flatMap msgB).length < f → ∃ l, parseA f out (ms.flatMap msgB) = (out ++ l, 0) ∧ l.length = ms.length
  | [], hne, _ => absurd rfl hne
  | m :: ms, _, his => by
    intro f out hl hf
    rw [List.flatMap_cons] at hl hf ⊢
    rw [List.length_append] at hl hf
    obtain ⟨m', hs⟩ := step_put (his m (by simp)) (ms.flatMap msgB) (by omega)
    obtain ⟨g, rfl⟩ : ∃ g, f = g + 1 := ⟨f - 1, by omega⟩
    rw [parseA_ok hs]
    obtain ⟨n, t, bs, e, _⟩ := msg_shape (his m (by simp))
    have hml : 4 ≤ (msgB m).length := by rw [e]; simp
    cases ms with
    | nil => rw [if_pos (by rfl)]; exact ⟨[m'], rfl, rfl⟩
    | cons m2 ms2 =>
      obtain ⟨n2, t2, bs2, e2, _⟩ := msg_shape (his m2 (by simp))
      rw [if_neg (by rw [List.flatMap_cons, List.length_append, e2]; simp)]
      obtain ⟨l, hl2, hlen⟩ := parseA_put (m2 :: ms2) (by simp) (fun x hx => his x (by simp [List.mem_cons.1 hx])) g (out ++ [m']) (by omega) (by omega)
      exact ⟨m' :: l, by rw [hl2, List.append_assoc]; rfl, by simp only [List.length_cons] at hlen ⊢; omega⟩
theorem parse_put {ms : List Mg} (hne : ms ≠ []) (his : ∀ m, m ∈ ms → (bodyM m).is = true) (hl : (ms.flatMap msgB).length ≤ 1500) : (parseM (ms.flatMap msgB)).2 = 0 ∧ (parseM (ms.flatMap msgB)).1.length = ms.length := by
  unfold parseM
  rw [if_neg (by omega)]
  obtain ⟨l, h1, h2⟩ := parseA_put ms hne his ((ms.flatMap msgB).length + 1) [] hl (by omega)
  rw [h1]
  exact ⟨rfl, by simpa using h2⟩
theorem parse_none : parseM [] = ([], 10) := rfl
theorem put_four {ms : List Mg} (his : ∀ m, m ∈ ms → (bodyM m).is = true) : (ms.flatMap msgB).length % 4 = 0 := by
  induction ms with
  | nil => rfl
  | cons m ms ih =>
    obtain ⟨n, t, bs, e, _, _, _, h4, _⟩ := msg_shape (his m (by simp))
    have := ih (fun x hx => his x (by simp [hx]))
    rw [List.flatMap_cons, List.length_append, e]
    simp only [List.length_cons]
    omega
theorem put_is {ms : List Mg} (hne : ms ≠ []) (his : ∀ m, m ∈ ms → (bodyM m).is = true) : isM (ms.flatMap msgB) = true := by
  cases ms with
  | nil => exact absurd rfl hne
  | cons m ms =>
    obtain ⟨n, t, bs, e, hn, h1, h2, _⟩ := msg_shape (his m (by simp))
    rw [List.flatMap_cons, e]
    simp [isM]
    omega
end Go.Proofs.Ytgkejdjdccgjbaa
