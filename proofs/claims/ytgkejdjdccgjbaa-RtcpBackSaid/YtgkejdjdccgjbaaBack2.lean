/- What is put is parsed as it was, but for what a kind does not name and for what is lost beyond three bytes. Plain laws, no program in sight. -/
import Derived.Test.YtgkejdjdccgjbaaBack
namespace Go.Proofs.Ytgkejdjdccgjbaa
open Go Go.RowKit
set_option maxHeartbeats 1000000

/-- a message as it comes back -/
def backM (m : Mg) : Mg :=
  if m.kind = 0 then ⟨0, m.ssrc, 0, m.clock, m.time, m.packets, m.bytes, m.reports.map lostM, [], [], [], 0⟩
  else if m.kind = 1 then ⟨1, m.ssrc, 0, 0, 0, 0, 0, m.reports.map lostM, [], [], [], 0⟩
  else if m.kind = 2 then ⟨2, 0, 0, 0, 0, 0, 0, [], m.who, [], [], 0⟩
  else if m.kind = 3 then ⟨3, m.ssrc, m.media, 0, 0, 0, 0, [], [], m.pairs, [], 0⟩
  else if m.kind = 4 then ⟨4, m.ssrc, m.media, 0, 0, 0, 0, [], [], [], [], 0⟩
  else ⟨5, m.ssrc, m.media, 0, 0, 0, 0, [], [], [], m.asks, 0⟩
theorem finM_same {q : Mg × (List Int × Int)} (h : q.2.2 = 0) (h3 : q.1.kind = 3 → q.1.pairs.length ≠ 0) (h5 : q.1.kind = 5 → q.1.asks.length ≠ 0) : finM q = (q.1, 0) := by
  unfold finM
  rw [if_pos h, if_neg]
  rintro (⟨a, b⟩ | ⟨a, b⟩)
  · exact h3 a b
  · exact h5 a b
theorem read_exact {m : Mg} (h : (bodyM m).is = true) (hn : m.Num) : readM (bodyM m).t (bodyM m).n (bytesOf (bodyM m).ps) = (backM m, 0) := by
  by_cases k0 : m.kind = 0
  · have eb : bodyM m = ⟨200, m.reports.length, [(m.ssrc, 4), (m.clock, 8), (m.time, 4), (m.packets, 4), (m.bytes, 4)] ++ m.reports.flatMap repParts, decide (m.reports.length ≤ 31)⟩ := by unfold bodyM; rw [if_pos k0]
    rw [eb]
    dsimp only
    have eM : backM m = ⟨0, m.ssrc, 0, m.clock, m.time, m.packets, m.bytes, m.reports.map lostM, [], [], [], 0⟩ := by unfold backM; rw [if_pos k0]
    have er : ∀ bs, readM 200 m.reports.length bs = finM (senderM m.reports.length (bs, 0)) := fun bs => by unfold readM; rw [if_pos (by simp [kindM])]
    rw [er, eM]
    have e : bytesOf ([(m.ssrc, 4), (m.clock, 8), (m.time, 4), (m.packets, 4), (m.bytes, 4)] ++ m.reports.flatMap repParts) = be m.ssrc 4 ++ (be m.clock 8 ++ (be m.time 4 ++ (be m.packets 4 ++ (be m.bytes 4 ++ (bytesOf (m.reports.flatMap repParts) ++ []))))) := by
      rw [bytesOf_app]; simp [bytesOf]
    rw [e]
    obtain ⟨n0, s0⟩ := numU32 (be m.clock 8 ++ (be m.time 4 ++ (be m.packets 4 ++ (be m.bytes 4 ++ (bytesOf (m.reports.flatMap repParts) ++ []))))) hn.ssrc
    obtain ⟨n1, s1⟩ := numU64 (be m.time 4 ++ (be m.packets 4 ++ (be m.bytes 4 ++ (bytesOf (m.reports.flatMap repParts) ++ [])))) hn.clock
    obtain ⟨n2, s2⟩ := numU32 (be m.packets 4 ++ (be m.bytes 4 ++ (bytesOf (m.reports.flatMap repParts) ++ []))) hn.time
    obtain ⟨n3, s3⟩ := numU32 (be m.bytes 4 ++ (bytesOf (m.reports.flatMap repParts) ++ [])) hn.packets
    obtain ⟨n4, s4⟩ := numU32 (bytesOf (m.reports.flatMap repParts) ++ []) hn.bytes
    have hr := reps_back _ m.reports rfl hn.reports []
    unfold senderM
    simp only [s0, s1, s2, s3, s4, n0, n1, n2, n3, n4, hr]
    exact finM_same rfl (fun hk => absurd hk (by simp)) (fun hk => absurd hk (by simp))
  by_cases k1 : m.kind = 1
  · have eb : bodyM m = ⟨201, m.reports.length, [(m.ssrc, 4)] ++ m.reports.flatMap repParts, decide (m.reports.length ≤ 31)⟩ := by unfold bodyM; rw [if_neg k0, if_pos k1]
    rw [eb]
    dsimp only
    have eM : backM m = ⟨1, m.ssrc, 0, 0, 0, 0, 0, m.reports.map lostM, [], [], [], 0⟩ := by unfold backM; rw [if_neg k0, if_pos k1]
    have er : ∀ bs, readM 201 m.reports.length bs = finM (receiverM m.reports.length (bs, 0)) := fun bs => by unfold readM; rw [if_neg (by simp [kindM]), if_pos (by simp [kindM])]
    rw [er, eM]
    have e : bytesOf ([(m.ssrc, 4)] ++ m.reports.flatMap repParts) = be m.ssrc 4 ++ (bytesOf (m.reports.flatMap repParts) ++ []) := by
      rw [bytesOf_app]; simp [bytesOf]
    rw [e]
    obtain ⟨n0, s0⟩ := numU32 (bytesOf (m.reports.flatMap repParts) ++ []) hn.ssrc
    have hr := reps_back _ m.reports rfl hn.reports []
    unfold receiverM
    simp only [s0, n0, hr]
    exact finM_same rfl (fun hk => absurd hk (by simp)) (fun hk => absurd hk (by simp))
  by_cases k2 : m.kind = 2
  · have eb : bodyM m = ⟨203, m.who.length, m.who.map fun x => (x, 4), decide (m.who.length ≤ 31)⟩ := by unfold bodyM; rw [if_neg k0, if_neg k1, if_pos k2]
    rw [eb]
    dsimp only
    have eM : backM m = ⟨2, 0, 0, 0, 0, 0, 0, [], m.who, [], [], 0⟩ := by unfold backM; rw [if_neg k0, if_neg k1, if_pos k2]
    have er : ∀ bs, readM 203 m.who.length bs = finM (byeM m.who.length (bs, 0)) := fun bs => by unfold readM; rw [if_neg (by simp [kindM]), if_neg (by simp [kindM]), if_pos (by simp [kindM])]
    rw [er, eM]
    have hr := who_back _ m.who rfl hn.who []
    rw [List.append_nil] at hr
    unfold byeM
    simp only [hr]
    exact finM_same rfl (fun hk => absurd hk (by simp)) (fun hk => absurd hk (by simp))
  by_cases k3 : m.kind = 3
  · have eb : bodyM m = ⟨205, 1, [(m.ssrc, 4), (m.media, 4)] ++ m.pairs.flatMap pairParts, decide (0 < m.pairs.length)⟩ := by unfold bodyM; rw [if_neg k0, if_neg k1, if_neg k2, if_pos k3]
    rw [eb] at h ⊢
    dsimp only at h ⊢
    have hp : 0 < m.pairs.length := by simpa using h
    have eM : backM m = ⟨3, m.ssrc, m.media, 0, 0, 0, 0, [], [], m.pairs, [], 0⟩ := by unfold backM; rw [if_neg k0, if_neg k1, if_neg k2, if_pos k3]
    have er : ∀ bs, readM 205 (1 : Nat) bs = finM (nackM (bs, 0)) := fun bs => by unfold readM; rw [if_neg (by simp [kindM]), if_neg (by simp [kindM]), if_neg (by simp [kindM]), if_pos (by simp [kindM])]
    rw [er, eM]
    have e : bytesOf ([(m.ssrc, 4), (m.media, 4)] ++ m.pairs.flatMap pairParts) = be m.ssrc 4 ++ (be m.media 4 ++ (bytesOf (m.pairs.flatMap pairParts) ++ [])) := by
      rw [bytesOf_app]; simp [bytesOf]
    rw [e]
    obtain ⟨n0, s0⟩ := numU32 (be m.media 4 ++ (bytesOf (m.pairs.flatMap pairParts) ++ [])) hn.ssrc
    obtain ⟨n1, s1⟩ := numU32 (bytesOf (m.pairs.flatMap pairParts) ++ []) hn.media
    have hlen : (bytesOf (m.pairs.flatMap pairParts) ++ []).length / 4 = m.pairs.length := by
      rw [List.append_nil, bytesOf_sz, sz_flat pairParts 4 (fun _ => rfl)]; omega
    have hr := pairs_back _ m.pairs rfl hn.pairs []
    unfold nackM
    simp only [s0, s1, n0, n1, hlen, hr]
    exact finM_same rfl (fun _ => by dsimp only; omega) (fun hk => absurd hk (by simp))
  by_cases k4 : m.kind = 4
  · have eb : bodyM m = ⟨206, 1, [(m.ssrc, 4), (m.media, 4)], true⟩ := by unfold bodyM; rw [if_neg k0, if_neg k1, if_neg k2, if_neg k3, if_pos k4]
    rw [eb]
    dsimp only
    have eM : backM m = ⟨4, m.ssrc, m.media, 0, 0, 0, 0, [], [], [], [], 0⟩ := by unfold backM; rw [if_neg k0, if_neg k1, if_neg k2, if_neg k3, if_pos k4]
    have er : ∀ bs, readM 206 (1 : Nat) bs = finM (pliG (bs, 0)) := fun bs => by unfold readM; rw [if_neg (by simp [kindM]), if_neg (by simp [kindM]), if_neg (by simp [kindM]), if_neg (by simp [kindM]), if_pos (by simp [kindM])]
    rw [er, eM]
    have e : bytesOf [(m.ssrc, 4), (m.media, 4)] = be m.ssrc 4 ++ (be m.media 4 ++ []) := by simp [bytesOf]
    rw [e]
    obtain ⟨n0, s0⟩ := numU32 (be m.media 4 ++ []) hn.ssrc
    obtain ⟨n1, s1⟩ := numU32 [] hn.media
    unfold pliG
    simp only [s0, s1, n0, n1]
    exact finM_same rfl (fun hk => absurd hk (by simp)) (fun hk => absurd hk (by simp))
  by_cases k5 : m.kind = 5
  · have eb : bodyM m = ⟨206, 4, [(m.ssrc, 4), (m.media, 4)] ++ m.asks.flatMap askParts, decide (0 < m.asks.length)⟩ := by unfold bodyM; rw [if_neg k0, if_neg k1, if_neg k2, if_neg k3, if_neg k4, if_pos k5]
    rw [eb] at h ⊢
    dsimp only at h ⊢
    have hp : 0 < m.asks.length := by simpa using h
    have eM : backM m = ⟨5, m.ssrc, m.media, 0, 0, 0, 0, [], [], [], m.asks, 0⟩ := by unfold backM; rw [if_neg k0, if_neg k1, if_neg k2, if_neg k3, if_neg k4]
    have er : ∀ bs, readM 206 (4 : Nat) bs = finM (firM (bs, 0)) := fun bs => by unfold readM; rw [if_neg (by simp [kindM]), if_neg (by simp [kindM]), if_neg (by simp [kindM]), if_neg (by simp [kindM]), if_neg (by simp [kindM]), if_pos (by simp [kindM])]
    rw [er, eM]
    have e : bytesOf ([(m.ssrc, 4), (m.media, 4)] ++ m.asks.flatMap askParts) = be m.ssrc 4 ++ (be m.media 4 ++ (bytesOf (m.asks.flatMap askParts) ++ [])) := by
      rw [bytesOf_app]; simp [bytesOf]
    rw [e]
    obtain ⟨n0, s0⟩ := numU32 (be m.media 4 ++ (bytesOf (m.asks.flatMap askParts) ++ [])) hn.ssrc
    obtain ⟨n1, s1⟩ := numU32 (bytesOf (m.asks.flatMap askParts) ++ []) hn.media
    have hlen : (bytesOf (m.asks.flatMap askParts) ++ []).length / 8 = m.asks.length := by
      rw [List.append_nil, bytesOf_sz, sz_flat askParts 8 (fun _ => rfl)]; omega
    have hr := asks_back _ m.asks rfl hn.asks []
    unfold firM
    simp only [s0, s1, n0, n1, hlen, hr]
    exact finM_same rfl (fun hk => absurd hk (by simp)) (fun _ => by dsimp only; omega)
  · exfalso
    unfold bodyM at h
    rw [if_neg k0, if_neg k1, if_neg k2, if_neg k3, if_neg k4, if_neg k5] at h
    cases h
theorem step_exact {m : Mg} (h : (bodyM m).is = true) (hnum : m.Num) (rest : List Int) (hl : (msgB m).length ≤ 1500) : stepM (msgB m ++ rest) = .ok (backM m, rest) := by
  have hn := body_n h
  have ht := body_type h
  have h4 := body_four m
  have hr := read_exact h hnum
  unfold msgB at hl ⊢
  obtain ⟨bs, hbs⟩ : ∃ bs, bs = bytesOf (bodyM m).ps := ⟨_, rfl⟩
  rw [← hbs] at hl h4 hr ⊢
  simp only [List.cons_append, List.nil_append, List.length_cons] at hl ⊢
  have hmul : 4 * ((((bs.length : Int) / 4 / 256) % 256).toNat * 256 + ((bs.length : Int) / 4 % 256).toNat) = bs.length := by omega
  have hb : bodyOf (128 + ((bodyM m).n : Int)) ((bs ++ rest).take bs.length) (decide (((bs ++ rest).drop bs.length).length = 0)) = some bs := by
    unfold bodyOf
    rw [if_neg (by omega), List.take_left]
  have hs := stepM_read (x0 := 128 + ((bodyM m).n : Int)) (x1 := (bodyM m).t) (x2 := ((bs.length : Int) / 4 / 256) % 256) (x3 := (bs.length : Int) / 4 % 256) (rest := bs ++ rest) (b := bs) (isM_head (by omega) (by omega)) (by rw [hmul, List.length_append]; omega) (by rw [hmul]; exact hb)
  have he : ((128 + ((bodyM m).n : Int)) % 32).toNat = (bodyM m).n := by omega
  rw [he, hr, hmul, List.drop_left, if_pos rfl] at hs
  exact hs
theorem parseA_exact : ∀ (ms : List Mg), ms ≠ [] → (∀ m, m ∈ ms → (bodyM m).is = true ∧ m.Num) → ∀ (f : Nat) (out : List Mg), (ms.flatMap msgB).length ≤ 1500 → (ms.flatMap msgB).length < f → parseA f out (ms.flatMap msgB) = (out ++ ms.map backM, 0)
  | [], hne, _ => absurd rfl hne
  | m :: ms, _, his => by
    intro f out hl hf
    rw [List.flatMap_cons] at hl hf ⊢
    rw [List.length_append] at hl hf
    have hs := step_exact (his m (by simp)).1 (his m (by simp)).2 (ms.flatMap msgB) (by omega)
    obtain ⟨g, rfl⟩ : ∃ g, f = g + 1 := ⟨f - 1, by omega⟩
    rw [parseA_ok hs]
    obtain ⟨n, t, bs, e, _⟩ := msg_shape (his m (by simp)).1
    have hml : 4 ≤ (msgB m).length := by rw [e]; simp
    cases ms with
    | nil => rw [if_pos (by rfl)]; rfl
    | cons m2 ms2 =>
      obtain ⟨n2, t2, bs2, e2, _⟩ := msg_shape (his m2 (by simp)).1
      rw [if_neg (by rw [List.flatMap_cons, List.length_append, e2]; simp)]
      rw [parseA_exact (m2 :: ms2) (by simp) (fun x hx => his x (by simp [List.mem_cons.1 hx])) g (out ++ [backM m]) (by omega) (by omega), List.append_assoc]
      rfl
/-- Parse of what Put made -/
theorem parse_exact {ms : List Mg} (hne : ms ≠ []) (his : ∀ m, m ∈ ms → (bodyM m).is = true ∧ m.Num) (hl : (ms.flatMap msgB).length ≤ 1500) : parseM (ms.flatMap msgB) = (ms.map backM, 0) := by
  unfold parseM
  rw [if_neg (by omega), parseA_exact ms hne his _ [] hl (by omega)]
  rfl
end Go.Proofs.Ytgkejdjdccgjbaa
