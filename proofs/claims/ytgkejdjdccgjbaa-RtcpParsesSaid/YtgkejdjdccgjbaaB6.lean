/- Parts of the proof, one behind the other: Back, Back2, ReadD, RAwake, OfO, Of, SRead0. No condition of their own. -/
import Derived.Test.YtgkejdjdccgjbaaB5
import Derived.Test.YtgkejdjdccgjbaaB1
import Derived.Test.YtgkejdjdccgjbaaB4
import Derived.Test.YtgkejdjdccgjbaaB2
/- What is put is read back as it was: the numbers. Plain laws, no program in sight. -/
namespace Go.Proofs.Ytgkejdjdccgjbaa
open Go Go.RowKit
set_option maxHeartbeats 1000000

theorem be_zero (x : Int) : be x 0 = [] := rfl
theorem be_succ (x : Int) (n : Nat) : be x (n + 1) = be (x / 256) n ++ [x % 256] := by
  unfold be
  rw [List.range_succ, List.map_append]
  congr 1
  · apply List.map_congr_left
    intro i hi
    have hi' : i < n := List.mem_range.1 hi
    have e : 8 * (n + 1 - 1 - i) = 8 + 8 * (n - 1 - i) := by omega
    rw [e, Int.pow_add, ← Int.ediv_ediv_of_nonneg (by decide : (0 : Int) ≤ 2 ^ 8)]
    rfl
  · simp
theorem numOf_be (n : Nat) : ∀ x : Int, 0 ≤ x → numOf (be x n) = x % 256 ^ n := by
  induction n with
  | zero => intro x _; rw [be_zero, Int.pow_zero, Int.emod_one]; rfl
  | succ n ih =>
    intro x hx
    rw [be_succ, numOf_snoc, ih (x / 256) (Int.ediv_nonneg hx (by decide)), Int.pow_succ]
    have h1 := Int.emod_add_mul_ediv x (256 ^ n * 256)
    have h2 := Int.emod_add_mul_ediv (x / 256) (256 ^ n)
    have h3 := Int.emod_add_mul_ediv x 256
    have h4 : x / 256 / 256 ^ n = x / (256 ^ n * 256) := by rw [Int.mul_comm, Int.ediv_ediv_of_nonneg (by decide)]
    rw [h4] at h2
    have e : 256 ^ n * 256 * (x / (256 ^ n * 256)) = 256 * (256 ^ n * (x / (256 ^ n * 256))) := by rw [Int.mul_comm (256 ^ n) 256, Int.mul_assoc]
    rw [e] at h1
    omega
theorem numM_be (x : Int) (n : Nat) (rest : List Int) (hx : 0 ≤ x) : numS (be x n ++ rest, 0) n = x % 256 ^ n ∧ after (be x n ++ rest, 0) n = (rest, 0) := by
  have e : numM (be x n ++ rest) 0 n = (x % 256 ^ n, rest, 0) := by
    have hl : ¬ (be x n ++ rest).length < n := by rw [List.length_append, be_length]; omega
    unfold numM
    rw [if_neg (by decide), if_neg hl, List.take_left' (be_length x n), List.drop_left' (be_length x n), numOf_be n x hx]
  unfold numS after
  dsimp only
  rw [e]
  exact ⟨rfl, rfl⟩
theorem numU32 {x : Int} (rest : List Int) (h : U32 x) : numS (be x 4 ++ rest, 0) 4 = x ∧ after (be x 4 ++ rest, 0) 4 = (rest, 0) := by
  obtain ⟨h1, h2⟩ := numM_be x 4 rest h.1
  refine ⟨?_, h2⟩
  rw [h1]
  exact Int.emod_eq_of_lt h.1 (by have := h.2; omega)
theorem numU16 {x : Int} (rest : List Int) (h : U16 x) : numS (be x 2 ++ rest, 0) 2 = x ∧ after (be x 2 ++ rest, 0) 2 = (rest, 0) := by
  obtain ⟨h1, h2⟩ := numM_be x 2 rest h.1
  refine ⟨?_, h2⟩
  rw [h1]
  exact Int.emod_eq_of_lt h.1 (by have := h.2; omega)
theorem numU8 {x : Int} (rest : List Int) (h : U8 x) : numS (be x 1 ++ rest, 0) 1 = x ∧ after (be x 1 ++ rest, 0) 1 = (rest, 0) := by
  obtain ⟨h1, h2⟩ := numM_be x 1 rest h.1
  refine ⟨?_, h2⟩
  rw [h1]
  exact Int.emod_eq_of_lt h.1 (by have := h.2; omega)
theorem numU64 {x : Int} (rest : List Int) (h : U64 x) : numS (be x 8 ++ rest, 0) 8 = x ∧ after (be x 8 ++ rest, 0) 8 = (rest, 0) := by
  obtain ⟨h1, h2⟩ := numM_be x 8 rest h.1
  refine ⟨?_, h2⟩
  rw [h1]
  exact Int.emod_eq_of_lt h.1 (by have := h.2; omega)
/-- a report as it comes back -/
def lostM (r : Rep) : Rep := ⟨r.ssrc, r.part, r.lost % 16777216, r.high, r.jitter, r.last, r.delay⟩
theorem bytesOf_app (a b : List (Int × Nat)) : bytesOf (a ++ b) = bytesOf a ++ bytesOf b := by simp [bytesOf]
theorem bytesOf_cons (p : Int × Nat) (b : List (Int × Nat)) : bytesOf (p :: b) = be p.1 p.2 ++ bytesOf b := rfl
theorem bytesOf_nil : bytesOf [] = [] := rfl
theorem rep_back {r : Rep} (h : r.Ok) (rest : List Int) : repS (bytesOf (repParts r) ++ rest, 0) = lostM r ∧ repA (bytesOf (repParts r) ++ rest, 0) = (rest, 0) := by
  obtain ⟨q0, q1, q2, q3, q4, q5, q6⟩ := r
  obtain ⟨a0, a1, a2, a3, a4, a5, a6⟩ := h
  dsimp only at a0 a1 a2 a3 a4 a5 a6
  have e : bytesOf (repParts ⟨q0, q1, q2, q3, q4, q5, q6⟩) ++ rest = be q0 4 ++ (be q1 1 ++ (be q2 3 ++ (be q3 4 ++ (be q4 4 ++ (be q5 4 ++ (be q6 4 ++ rest)))))) := by
    simp [repParts, bytesOf, List.append_assoc]
  rw [e]
  obtain ⟨n0, s0⟩ := numU32 (be q1 1 ++ (be q2 3 ++ (be q3 4 ++ (be q4 4 ++ (be q5 4 ++ (be q6 4 ++ rest)))))) a0
  obtain ⟨n1, s1⟩ := numU8 (be q2 3 ++ (be q3 4 ++ (be q4 4 ++ (be q5 4 ++ (be q6 4 ++ rest))))) a1
  obtain ⟨n2, s2⟩ := numM_be q2 3 (be q3 4 ++ (be q4 4 ++ (be q5 4 ++ (be q6 4 ++ rest)))) a2.1
  obtain ⟨n3, s3⟩ := numU32 (be q4 4 ++ (be q5 4 ++ (be q6 4 ++ rest))) a3
  obtain ⟨n4, s4⟩ := numU32 (be q5 4 ++ (be q6 4 ++ rest)) a4
  obtain ⟨n5, s5⟩ := numU32 (be q6 4 ++ rest) a5
  obtain ⟨n6, s6⟩ := numU32 rest a6
  unfold repS repA lostM
  simp only [s0, s1, s2, s3, s4, s5, s6, n0, n1, n2, n3, n4, n5, n6]
  exact ⟨rfl, trivial⟩
theorem reps_back : ∀ (n : Nat) (rs : List Rep), rs.length = n → (∀ r, r ∈ rs → r.Ok) → ∀ rest, repsM n (bytesOf (rs.flatMap repParts) ++ rest, 0) = (rs.map lostM, (rest, 0))
  | 0, rs, hl, _, rest => by
    have : rs = [] := List.eq_nil_of_length_eq_zero hl
    subst this
    rfl
  | n + 1, rs, hl, h, rest => by
    obtain ⟨r0, r, rfl⟩ : ∃ r0 r, rs = r0 ++ [r] := by
      rcases List.eq_nil_or_concat rs with e | ⟨a, b, e⟩
      · subst e; simp at hl
      · exact ⟨a, b, by rw [e, List.concat_eq_append]⟩
    have hl0 : r0.length = n := by simpa using hl
    have ih := reps_back n r0 hl0 (fun x hx => h x (by simp [hx])) (bytesOf (repParts r) ++ rest)
    have e : bytesOf ((r0 ++ [r]).flatMap repParts) ++ rest = bytesOf (r0.flatMap repParts) ++ (bytesOf (repParts r) ++ rest) := by
      rw [List.flatMap_append, bytesOf_app, List.append_assoc]
      simp
    obtain ⟨h1, h2⟩ := rep_back (h r (by simp)) rest
    rw [e, repsM, ih]
    dsimp only
    rw [h1, h2, List.map_append]
    rfl
theorem who_back : ∀ (n : Nat) (l : List Int), l.length = n → (∀ x, x ∈ l → U32 x) → ∀ rest, whoM n (bytesOf (l.map fun x => (x, 4)) ++ rest, 0) = (l, (rest, 0))
  | 0, l, hl, _, rest => by
    have : l = [] := List.eq_nil_of_length_eq_zero hl
    subst this
    rfl
  | n + 1, l, hl, h, rest => by
    obtain ⟨r0, r, rfl⟩ : ∃ r0 r, l = r0 ++ [r] := by
      rcases List.eq_nil_or_concat l with e | ⟨a, b, e⟩
      · subst e; simp at hl
      · exact ⟨a, b, by rw [e, List.concat_eq_append]⟩
    have hl0 : r0.length = n := by simpa using hl
    have ih := who_back n r0 hl0 (fun x hx => h x (by simp [hx])) (be r 4 ++ rest)
    have e : bytesOf ((r0 ++ [r]).map fun x => (x, 4)) ++ rest = bytesOf (r0.map fun x => (x, 4)) ++ (be r 4 ++ rest) := by
      rw [List.map_append, bytesOf_app, List.append_assoc]
      simp [bytesOf]
    obtain ⟨h1, h2⟩ := numU32 rest (h r (by simp))
    rw [e, whoM, ih]
    dsimp only
    rw [h1, h2]
theorem pairs_back : ∀ (n : Nat) (l : List (Int × Int)), l.length = n → (∀ p, p ∈ l → U16 p.1 ∧ U16 p.2) → ∀ rest, pairsM n (bytesOf (l.flatMap pairParts) ++ rest, 0) = (l, (rest, 0))
  | 0, l, hl, _, rest => by
    have : l = [] := List.eq_nil_of_length_eq_zero hl
    subst this
    rfl
  | n + 1, l, hl, h, rest => by
    obtain ⟨r0, r, rfl⟩ : ∃ r0 r, l = r0 ++ [r] := by
      rcases List.eq_nil_or_concat l with e | ⟨a, b, e⟩
      · subst e; simp at hl
      · exact ⟨a, b, by rw [e, List.concat_eq_append]⟩
    have hl0 : r0.length = n := by simpa using hl
    have ih := pairs_back n r0 hl0 (fun x hx => h x (by simp [hx])) (be r.1 2 ++ (be r.2 2 ++ rest))
    have e : bytesOf ((r0 ++ [r]).flatMap pairParts) ++ rest = bytesOf (r0.flatMap pairParts) ++ (be r.1 2 ++ (be r.2 2 ++ rest)) := by
      rw [List.flatMap_append, bytesOf_app, List.append_assoc]
      simp [bytesOf, pairParts]
    obtain ⟨a, b⟩ := h r (by simp)
    obtain ⟨h1, h2⟩ := numU16 (be r.2 2 ++ rest) a
    obtain ⟨h3, h4⟩ := numU16 rest b
    rw [e, pairsM, ih]
    dsimp only
    unfold pairS pairA
    rw [h1, h2, h3, h4]
theorem asks_back : ∀ (n : Nat) (l : List (Int × Int)), l.length = n → (∀ p, p ∈ l → U32 p.1 ∧ U8 p.2) → ∀ rest, asksM n (bytesOf (l.flatMap askParts) ++ rest, 0) = (l, (rest, 0))
  | 0, l, hl, _, rest => by
    have : l = [] := List.eq_nil_of_length_eq_zero hl
    subst this
    rfl
  | n + 1, l, hl, h, rest => by
    obtain ⟨r0, r, rfl⟩ : ∃ r0 r, l = r0 ++ [r] := by
      rcases List.eq_nil_or_concat l with e | ⟨a, b, e⟩
      · subst e; simp at hl
      · exact ⟨a, b, by rw [e, List.concat_eq_append]⟩
    have hl0 : r0.length = n := by simpa using hl
    have ih := asks_back n r0 hl0 (fun x hx => h x (by simp [hx])) (be r.1 4 ++ (be r.2 1 ++ (be 0 3 ++ rest)))
    have e : bytesOf ((r0 ++ [r]).flatMap askParts) ++ rest = bytesOf (r0.flatMap askParts) ++ (be r.1 4 ++ (be r.2 1 ++ (be 0 3 ++ rest))) := by
      rw [List.flatMap_append, bytesOf_app, List.append_assoc]
      simp [bytesOf, askParts]
    obtain ⟨a, b⟩ := h r (by simp)
    obtain ⟨h1, h2⟩ := numU32 (be r.2 1 ++ (be 0 3 ++ rest)) a
    obtain ⟨h3, h4⟩ := numU8 (be 0 3 ++ rest) b
    obtain ⟨_, h6⟩ := numM_be 0 3 rest (by decide)
    rw [e, asksM, ih]
    dsimp only
    unfold askS askA
    rw [h1, h2, h3, h4, h6]
end Go.Proofs.Ytgkejdjdccgjbaa
/- What is put is parsed as it was, but for what a kind does not name and for what is lost beyond three bytes. Plain laws, no program in sight. -/
namespace Go.Proofs.Ytgkejdjdccgjbaa
open Go Go.RowKit
set_option maxHeartbeats 1000000

/-- a message as it comes back -/
def backM (m : Mg) : Mg :=
  if m.kind = 0 then ⟨0, m.ssrc, 0, m.clock, m.time, m.packets, m.bytes, m.reports.map lostM, [], [], [], 0⟩
  else if m.kind = 1 then ⟨1, m.ssrc, 0, 0, 0, 0, 0, m.reports.map lostM, [], [], [], 0⟩
  else if m.kind = 2 then ⟨2, 0, 0, 0, 0, 0, 0, [], m.who, [], [], 0⟩
  else if m.kind = 3 then ⟨3, m.ssrc, m.media, 0, 0, 0, 0, [], [], m.pairs, [], 0⟩
  else if m.kind = 4 then ⟨4, m.ssrc, m.media, 0, 0, 0, 0, [], [], [], [], 0⟩
  else ⟨5, m.ssrc, m.media, 0, 0, 0, 0, [], [], [], m.asks, 0⟩
theorem finM_same {q : Mg × (List Int × Int)} (h : q.2.2 = 0) (h3 : q.1.kind = 3 → q.1.pairs.length ≠ 0) (h5 : q.1.kind = 5 → q.1.asks.length ≠ 0) : finM q = (q.1, 0) := by
  unfold finM
  rw [if_pos h, if_neg]
  rintro (⟨a, b⟩ | ⟨a, b⟩)
  · exact h3 a b
  · exact h5 a b
theorem read_exact {m : Mg} (h : (bodyM m).is = true) (hn : m.Num) : readM (bodyM m).t (bodyM m).n (bytesOf (bodyM m).ps) = (backM m, 0) := by
  by_cases k0 : m.kind = 0
  · have eb : bodyM m = ⟨200, m.reports.length, [(m.ssrc, 4), (m.clock, 8), (m.time, 4), (m.packets, 4), (m.bytes, 4)] ++ m.reports.flatMap repParts, decide (m.reports.length ≤ 31)⟩ := by unfold bodyM; rw [if_pos k0]
    rw [eb]
    dsimp only
    have eM : backM m = ⟨0, m.ssrc, 0, m.clock, m.time, m.packets, m.bytes, m.reports.map lostM, [], [], [], 0⟩ := by unfold backM; rw [if_pos k0]
    have er : ∀ bs, readM 200 m.reports.length bs = finM (senderM m.reports.length (bs, 0)) := fun bs => by unfold readM; rw [if_pos (by simp [kindM])]
    rw [er, eM]
    have e : bytesOf ([(m.ssrc, 4), (m.clock, 8), (m.time, 4), (m.packets, 4), (m.bytes, 4)] ++ m.reports.flatMap repParts) = be m.ssrc 4 ++ (be m.clock 8 ++ (be m.time 4 ++ (be m.packets 4 ++ (be m.bytes 4 ++ (bytesOf (m.reports.flatMap repParts) ++ []))))) := by
      rw [bytesOf_app]; simp [bytesOf]
    rw [e]
    obtain ⟨n0, s0⟩ := numU32 (be m.clock 8 ++ (be m.time 4 ++ (be m.packets 4 ++ (be m.bytes 4 ++ (bytesOf (m.reports.flatMap repParts) ++ []))))) hn.ssrc
    obtain ⟨n1, s1⟩ := numU64 (be m.time 4 ++ (be m.packets 4 ++ (be m.bytes 4 ++ (bytesOf (m.reports.flatMap repParts) ++ [])))) hn.clock
    obtain ⟨n2, s2⟩ := numU32 (be m.packets 4 ++ (be m.bytes 4 ++ (bytesOf (m.reports.flatMap repParts) ++ []))) hn.time
    obtain ⟨n3, s3⟩ := numU32 (be m.bytes 4 ++ (bytesOf (m.reports.flatMap repParts) ++ [])) hn.packets
    obtain ⟨n4, s4⟩ := numU32 (bytesOf (m.reports.flatMap repParts) ++ []) hn.bytes
    have hr := reps_back _ m.reports rfl hn.reports []
    unfold senderM
    simp only [s0, s1, s2, s3, s4, n0, n1, n2, n3, n4, hr]
    exact finM_same rfl (fun hk => absurd hk (by simp)) (fun hk => absurd hk (by simp))
  by_cases k1 : m.kind = 1
  · have eb : bodyM m = ⟨201, m.reports.length, [(m.ssrc, 4)] ++ m.reports.flatMap repParts, decide (m.reports.length ≤ 31)⟩ := by unfold bodyM; rw [if_neg k0, if_pos k1]
    rw [eb]
    dsimp only
    have eM : backM m = ⟨1, m.ssrc, 0, 0, 0, 0, 0, m.reports.map lostM, [], [], [], 0⟩ := by unfold backM; rw [if_neg k0, if_pos k1]
    have er : ∀ bs, readM 201 m.reports.length bs = finM (receiverM m.reports.length (bs, 0)) := fun bs => by unfold readM; rw [if_neg (by simp [kindM]), if_pos (by simp [kindM])]
    rw [er, eM]
    have e : bytesOf ([(m.ssrc, 4)] ++ m.reports.flatMap repParts) = be m.ssrc 4 ++ (bytesOf (m.reports.flatMap repParts) ++ []) := by
      rw [bytesOf_app]; simp [bytesOf]
    rw [e]
    obtain ⟨n0, s0⟩ := numU32 (bytesOf (m.reports.flatMap repParts) ++ []) hn.ssrc
    have hr := reps_back _ m.reports rfl hn.reports []
    unfold receiverM
    simp only [s0, n0, hr]
    exact finM_same rfl (fun hk => absurd hk (by simp)) (fun hk => absurd hk (by simp))
  by_cases k2 : m.kind = 2
  · have eb : bodyM m = ⟨203, m.who.length, m.who.map fun x => (x, 4), decide (m.who.length ≤ 31)⟩ := by unfold bodyM; rw [if_neg k0, if_neg k1, if_pos k2]
    rw [eb]
    dsimp only
    have eM : backM m = ⟨2, 0, 0, 0, 0, 0, 0, [], m.who, [], [], 0⟩ := by unfold backM; rw [if_neg k0, if_neg k1, if_pos k2]
    have er : ∀ bs, readM 203 m.who.length bs = finM (byeM m.who.length (bs, 0)) := fun bs => by unfold readM; rw [if_neg (by simp [kindM]), if_neg (by simp [kindM]), if_pos (by simp [kindM])]
    rw [er, eM]
    have hr := who_back _ m.who rfl hn.who []
    rw [List.append_nil] at hr
    unfold byeM
    simp only [hr]
    exact finM_same rfl (fun hk => absurd hk (by simp)) (fun hk => absurd hk (by simp))
  by_cases k3 : m.kind = 3
  · have eb : bodyM m = ⟨205, 1, [(m.ssrc, 4), (m.media, 4)] ++ m.pairs.flatMap pairParts, decide (0 < m.pairs.length)⟩ := by unfold bodyM; rw [if_neg k0, if_neg k1, if_neg k2, if_pos k3]
    rw [eb] at h ⊢
    dsimp only at h ⊢
    have hp : 0 < m.pairs.length := by simpa using h
    have eM : backM m = ⟨3, m.ssrc, m.media, 0, 0, 0, 0, [], [], m.pairs, [], 0⟩ := by unfold backM; rw [if_neg k0, if_neg k1, if_neg k2, if_pos k3]
    have er : ∀ bs, readM 205 (1 : Nat) bs = finM (nackM (bs, 0)) := fun bs => by unfold readM; rw [if_neg (by simp [kindM]), if_neg (by simp [kindM]), if_neg (by simp [kindM]), if_pos (by simp [kindM])]
    rw [er, eM]
    have e : bytesOf ([(m.ssrc, 4), (m.media, 4)] ++ m.pairs.flatMap pairParts) = be m.ssrc 4 ++ (be m.media 4 ++ (bytesOf (m.pairs.flatMap pairParts) ++ [])) := by
      rw [bytesOf_app]; simp [bytesOf]
    rw [e]
    obtain ⟨n0, s0⟩ := numU32 (be m.media 4 ++ (bytesOf (m.pairs.flatMap pairParts) ++ [])) hn.ssrc
    obtain ⟨n1, s1⟩ := numU32 (bytesOf (m.pairs.flatMap pairParts) ++ []) hn.media
    have hlen : (bytesOf (m.pairs.flatMap pairParts) ++ []).length / 4 = m.pairs.length := by
      rw [List.append_nil, bytesOf_sz, sz_flat pairParts 4 (fun _ => rfl)]; omega
    have hr := pairs_back _ m.pairs rfl hn.pairs []
    unfold nackM
    simp only [s0, s1, n0, n1, hlen, hr]
    exact finM_same rfl (fun _ => by dsimp only; omega) (fun hk => absurd hk (by simp))
  by_cases k4 : m.kind = 4
  · have eb : bodyM m = ⟨206, 1, [(m.ssrc, 4), (m.media, 4)], true⟩ := by unfold bodyM; rw [if_neg k0, if_neg k1, if_neg k2, if_neg k3, if_pos k4]
    rw [eb]
    dsimp only
    have eM : backM m = ⟨4, m.ssrc, m.media, 0, 0, 0, 0, [], [], [], [], 0⟩ := by unfold backM; rw [if_neg k0, if_neg k1, if_neg k2, if_neg k3, if_pos k4]
    have er : ∀ bs, readM 206 (1 : Nat) bs = finM (pliG (bs, 0)) := fun bs => by unfold readM; rw [if_neg (by simp [kindM]), if_neg (by simp [kindM]), if_neg (by simp [kindM]), if_neg (by simp [kindM]), if_pos (by simp [kindM])]
    rw [er, eM]
    have e : bytesOf [(m.ssrc, 4), (m.media, 4)] = be m.ssrc 4 ++ (be m.media 4 ++ []) := by simp [bytesOf]
    rw [e]
    obtain ⟨n0, s0⟩ := numU32 (be m.media 4 ++ []) hn.ssrc
    obtain ⟨n1, s1⟩ := numU32 [] hn.media
    unfold pliG
    simp only [s0, s1, n0, n1]
    exact finM_same rfl (fun hk => absurd hk (by simp)) (fun hk => absurd hk (by simp))
  by_cases k5 : m.kind = 5
  · have eb : bodyM m = ⟨206, 4, [(m.ssrc, 4), (m.media, 4)] ++ m.asks.flatMap askParts, decide (0 < m.asks.length)⟩ := by unfold bodyM; rw [if_neg k0, if_neg k1, if_neg k2, if_neg k3, if_neg k4, if_pos k5]
    rw [eb] at h ⊢
    dsimp only at h ⊢
    have hp : 0 < m.asks.length := by simpa using h
    have eM : backM m = ⟨5, m.ssrc, m.media, 0, 0, 0, 0, [], [], [], m.asks, 0⟩ := by unfold backM; rw [if_neg k0, if_neg k1, if_neg k2, if_neg k3, if_neg k4]
    have er : ∀ bs, readM 206 (4 : Nat) bs = finM (firM (bs, 0)) := fun bs => by unfold readM; rw [if_neg (by simp [kindM]), if_neg (by simp [kindM]), if_neg (by simp [kindM]), if_neg (by simp [kindM]), if_neg (by simp [kindM]), if_pos (by simp [kindM])]
    rw [er, eM]
    have e : bytesOf ([(m.ssrc, 4), (m.media, 4)] ++ m.asks.flatMap askParts) = be m.ssrc 4 ++ (be m.media 4 ++ (bytesOf (m.asks.flatMap askParts) ++ [])) := by
      rw [bytesOf_app]; simp [bytesOf]
    rw [e]
    obtain ⟨n0, s0⟩ := numU32 (be m.media 4 ++ (bytesOf (m.asks.flatMap askParts) ++ [])) hn.ssrc
    obtain ⟨n1, s1⟩ := numU32 (bytesOf (m.asks.flatMap askParts) ++ []) hn.media
    have hlen : (bytesOf (m.asks.flatMap askParts) ++ []).length / 8 = m.asks.length := by
      rw [List.append_nil, bytesOf_sz, sz_flat askParts 8 (fun _ => rfl)]; omega
    have hr := asks_back _ m.asks rfl hn.asks []
    unfold firM
    simp only [s0, s1, n0, n1, hlen, hr]
    exact finM_same rfl (fun hk => absurd hk (by simp)) (fun _ => by dsimp only; omega)
  · exfalso
    unfold bodyM at h
    rw [if_neg k0, if_neg k1, if_neg k2, if_neg k3, if_neg k4, if_neg k5] at h
    cases h
theorem step_exact {m : Mg} (h : (bodyM m).is = true) (hnum : m.Num) (rest : List Int) (hl : (msgB m).length ≤ 1500) : stepM (msgB m ++ rest) = .ok (backM m, rest) := by
  have hn := body_n h
  have ht := body_type h
  have h4 := body_four m
  have hr := read_exact h hnum
  unfold msgB at hl ⊢
  obtain ⟨bs, hbs⟩ : ∃ bs, bs = bytesOf (bodyM m).ps := ⟨_, rfl⟩
  rw [← hbs] at hl h4 hr ⊢
  simp only [List.cons_append, List.nil_append, List.length_cons] at hl ⊢
  have hmul : 4 * ((((bs.length : Int) / 4 / 256) % 256).toNat * 256 + ((bs.length : Int) / 4 % 256).toNat) = bs.length := by omega
  have hb : bodyOf (128 + ((bodyM m).n : Int)) ((bs ++ rest).take bs.length) (decide (((bs ++ rest).drop bs.length).length = 0)) = some bs := by
    unfold bodyOf
    rw [if_neg (by omega), List.take_left]
  have hs := stepM_read (x0 := 128 + ((bodyM m).n : Int)) (x1 := (bodyM m).t) (x2 := ((bs.length : Int) / 4 / 256) % 256) (x3 := (bs.length : Int) / 4 % 256) (rest := bs ++ rest) (b := bs) (isM_head (by omega) (by omega)) (by rw [hmul, List.length_append]; omega) (by rw [hmul]; exact hb)
  have he : ((128 + ((bodyM m).n : Int)) % 32).toNat = (bodyM m).n := by omega
  rw [he, hr, hmul, List.drop_left, if_pos rfl] at hs
  exact hs
theorem parseA_exact : ∀ (ms : List Mg), ms ≠ [] → (∀ m, m ∈ ms → (bodyM m).is = true ∧ m.Num) → ∀ (f : Nat) (out : List Mg), (ms.flatMap msgB).length ≤ 1500 → (ms.flatMap msgB).length < f → parseA f out (ms.flatMap msgB) = (out ++ ms.map backM, 0)
  | [], hne, _ => absurd rfl hne
  | m :: ms, _, his => by
    intro f out hl hf
    rw [List.flatMap_cons] at hl hf ⊢
    rw [List.length_append] at hl hf
    have hs := step_exact (his m (by simp)).1 (his m (by simp)).2 (ms.flatMap msgB) (by omega)
    obtain ⟨g, rfl⟩ : ∃ g, f = g + 1 := ⟨f - 1, by omega⟩
    rw [parseA_ok hs]
    obtain ⟨n, t, bs, e, _⟩ := msg_shape (his m (by simp)).1
    have hml : 4 ≤ (msgB m).length := by rw [e]; simp
    cases ms with
    | nil => rw [if_pos (by rfl)]; rfl
    | cons m2 ms2 =>
      obtain ⟨n2, t2, bs2, e2, _⟩ := msg_shape (his m2 (by simp)).1
      rw [if_neg (by rw [List.flatMap_cons, List.length_append, e2]; simp)]
      rw [parseA_exact (m2 :: ms2) (by simp) (fun x hx => his x (by simp [List.mem_cons.1 hx])) g (out ++ [backM m]) (by omega) (by omega), List.append_assoc]
      rfl
/-- Parse of what Put made -/
theorem parse_exact {ms : List Mg} (hne : ms ≠ []) (his : ∀ m, m ∈ ms → (bodyM m).is = true ∧ m.Num) (hl : (ms.flatMap msgB).length ≤ 1500) : parseM (ms.flatMap msgB) = (ms.map backM, 0) := by
  unfold parseM
  rw [if_neg (by omega), parseA_exact ms hne his _ [] hl (by omega)]
  rfl
end Go.Proofs.Ytgkejdjdccgjbaa
/- What read answers, told by direct places in the bytes. Plain laws, no program in sight. -/
namespace Go.Proofs.Ytgkejdjdccgjbaa
open Go
set_option maxHeartbeats 400000
/-- the number at a place, of so many bytes -/
def nAt (xs : List Int) (k n : Nat) : Int := numOf ((xs.drop k).take n)
def repAt (xs : List Int) (k : Nat) : Rep := ⟨nAt xs k 4, nAt xs (k + 4) 1, nAt xs (k + 5) 3, nAt xs (k + 8) 4, nAt xs (k + 12) 4, nAt xs (k + 16) 4, nAt xs (k + 20) 4⟩
/-- numbers of these sizes, one behind the other -/
def afterL : List Nat → List Int × Int → List Int × Int
  | [], s => s
  | n :: l, s => afterL l (after s n)
theorem afterL_app (a b : List Nat) (s : List Int × Int) : afterL (a ++ b) s = afterL b (afterL a s) := by
  induction a generalizing s with
  | nil => rfl
  | cons n a ih => exact ih _
theorem after_err {s : List Int × Int} (h : s.2 ≠ 0) (n : Nat) : after s n = s := by
  unfold after numM
  rw [if_pos h]
theorem afterL_err {s : List Int × Int} (h : s.2 ≠ 0) (l : List Nat) : afterL l s = s := by
  induction l with
  | nil => rfl
  | cons n l ih => rw [afterL, after_err h, ih]
theorem afterD_ok (ys : List Int) (n : Nat) (h : n ≤ ys.length) : after (ys, 0) n = (ys.drop n, 0) := by
  unfold after numM
  dsimp only
  rw [if_neg (by decide), if_neg (by omega)]
theorem numS_ok (ys : List Int) (n : Nat) (h : n ≤ ys.length) : numS (ys, 0) n = numOf (ys.take n) := by
  unfold numS numM
  dsimp only
  rw [if_neg (by decide), if_neg (by omega)]
theorem after_short (ys : List Int) (n : Nat) (h : ys.length < n) : (after (ys, 0) n).2 = 10 := by
  unfold after numM
  dsimp only
  rw [if_neg (by decide), if_pos h]
theorem afterL_ok (l : List Nat) : ∀ ys : List Int, l.sum ≤ ys.length → afterL l (ys, 0) = (ys.drop l.sum, 0) := by
  induction l with
  | nil => intro ys _; simp [afterL]
  | cons n l ih =>
    intro ys h
    rw [List.sum_cons] at h
    rw [afterL, afterD_ok ys n (by omega), ih _ (by rw [List.length_drop]; omega), List.drop_drop, List.sum_cons]
theorem afterL_short (l : List Nat) : ∀ ys : List Int, ys.length < l.sum → (afterL l (ys, 0)).2 = 10 := by
  induction l with
  | nil => intro ys h; simp at h
  | cons n l ih =>
    intro ys h
    rw [List.sum_cons] at h
    rw [afterL]
    by_cases hn : n ≤ ys.length
    · rw [afterD_ok ys n hn]
      exact ih _ (by rw [List.length_drop]; omega)
    · have := after_short ys n (by omega)
      rw [afterL_err (by rw [this]; decide), this]
theorem at_ok {xs : List Int} {k n : Nat} (h : k + n ≤ xs.length) : numS (xs.drop k, 0) n = nAt xs k n ∧ after (xs.drop k, 0) n = (xs.drop (k + n), 0) :=
  ⟨numS_ok _ _ (by rw [List.length_drop]; omega), by rw [afterD_ok _ _ (by rw [List.length_drop]; omega), List.drop_drop]⟩
theorem rep_ok {xs : List Int} {k : Nat} (h : k + 24 ≤ xs.length) : repS (xs.drop k, 0) = repAt xs k ∧ repA (xs.drop k, 0) = (xs.drop (k + 24), 0) := by
  unfold repS repA repAt
  rw [(at_ok (xs := xs) (k := k) (n := 4) (by omega)).1, (at_ok (xs := xs) (k := k) (n := 4) (by omega)).2]
  rw [(at_ok (xs := xs) (k := k + 4) (n := 1) (by omega)).1, (at_ok (xs := xs) (k := k + 4) (n := 1) (by omega)).2]
  rw [(at_ok (xs := xs) (k := k + 4 + 1) (n := 3) (by omega)).1, (at_ok (xs := xs) (k := k + 4 + 1) (n := 3) (by omega)).2]
  rw [(at_ok (xs := xs) (k := k + 4 + 1 + 3) (n := 4) (by omega)).1, (at_ok (xs := xs) (k := k + 4 + 1 + 3) (n := 4) (by omega)).2]
  rw [(at_ok (xs := xs) (k := k + 4 + 1 + 3 + 4) (n := 4) (by omega)).1, (at_ok (xs := xs) (k := k + 4 + 1 + 3 + 4) (n := 4) (by omega)).2]
  rw [(at_ok (xs := xs) (k := k + 4 + 1 + 3 + 4 + 4) (n := 4) (by omega)).1, (at_ok (xs := xs) (k := k + 4 + 1 + 3 + 4 + 4) (n := 4) (by omega)).2]
  rw [(at_ok (xs := xs) (k := k + 4 + 1 + 3 + 4 + 4 + 4) (n := 4) (by omega)).1, (at_ok (xs := xs) (k := k + 4 + 1 + 3 + 4 + 4 + 4) (n := 4) (by omega)).2]
  exact ⟨rfl, rfl⟩
theorem reps_ok {xs : List Int} {k : Nat} : ∀ n, k + 24 * n ≤ xs.length → repsM n (xs.drop k, 0) = ((List.range n).map (fun i => repAt xs (k + 24 * i)), (xs.drop (k + 24 * n), 0))
  | 0, _ => rfl
  | n + 1, h => by
    have ih := reps_ok (xs := xs) (k := k) n (by omega)
    have hr := rep_ok (xs := xs) (k := k + 24 * n) (by omega)
    rw [repsM, ih]
    dsimp only
    rw [hr.1, hr.2, List.range_succ, List.map_append]
    rfl
theorem reps_after (n : Nat) (s : List Int × Int) : (repsM n s).2 = afterL ((List.replicate n [4, 1, 3, 4, 4, 4, 4]).flatten) s := by
  induction n generalizing s with
  | zero => rfl
  | succ n ih =>
    rw [repsM, List.replicate_succ', List.flatten_append, afterL_app, ← ih]
    rfl
theorem sum_reps (n : Nat) : ((List.replicate n [4, 1, 3, 4, 4, 4, 4]).flatten).sum = 24 * n := by
  induction n with
  | zero => rfl
  | succ n ih => rw [List.replicate_succ, List.flatten_cons, List.sum_append, ih]; simp; omega
theorem who_ok {xs : List Int} {k : Nat} : ∀ n, k + 4 * n ≤ xs.length → whoM n (xs.drop k, 0) = ((List.range n).map (fun i => nAt xs (k + 4 * i) 4), (xs.drop (k + 4 * n), 0))
  | 0, _ => rfl
  | n + 1, h => by
    have ih := who_ok (xs := xs) (k := k) n (by omega)
    have hr := at_ok (xs := xs) (k := k + 4 * n) (n := 4) (by omega)
    rw [whoM, ih]
    dsimp only
    rw [hr.1, hr.2, List.range_succ, List.map_append]
    rfl
theorem who_after (n : Nat) (s : List Int × Int) : (whoM n s).2 = afterL (List.replicate n 4) s := by
  induction n generalizing s with
  | zero => rfl
  | succ n ih =>
    rw [whoM, List.replicate_succ', afterL_app, ← ih]
    rfl
def pairAt (xs : List Int) (k : Nat) : Int × Int := (nAt xs k 2, nAt xs (k + 2) 2)
def askAt (xs : List Int) (k : Nat) : Int × Int := (nAt xs k 4, nAt xs (k + 4) 1)
theorem pairs_ok {xs : List Int} {k : Nat} : ∀ n, k + 4 * n ≤ xs.length → pairsM n (xs.drop k, 0) = ((List.range n).map (fun i => pairAt xs (k + 4 * i)), (xs.drop (k + 4 * n), 0))
  | 0, _ => rfl
  | n + 1, h => by
    have ih := pairs_ok (xs := xs) (k := k) n (by omega)
    have h1 := at_ok (xs := xs) (k := k + 4 * n) (n := 2) (by omega)
    have h2 := at_ok (xs := xs) (k := k + 4 * n + 2) (n := 2) (by omega)
    rw [pairsM, ih]
    unfold pairS pairA
    dsimp only
    rw [h1.1, h1.2, h2.1, h2.2, List.range_succ, List.map_append]
    rfl
theorem asks_ok {xs : List Int} {k : Nat} : ∀ n, k + 8 * n ≤ xs.length → asksM n (xs.drop k, 0) = ((List.range n).map (fun i => askAt xs (k + 8 * i)), (xs.drop (k + 8 * n), 0))
  | 0, _ => rfl
  | n + 1, h => by
    have ih := asks_ok (xs := xs) (k := k) n (by omega)
    have h1 := at_ok (xs := xs) (k := k + 8 * n) (n := 4) (by omega)
    have h2 := at_ok (xs := xs) (k := k + 8 * n + 4) (n := 1) (by omega)
    have h3 := at_ok (xs := xs) (k := k + 8 * n + 4 + 1) (n := 3) (by omega)
    rw [asksM, ih]
    unfold askS askA
    dsimp only
    rw [h1.1, h1.2, h2.1, h2.2, h3.2, List.range_succ, List.map_append]
    rfl
theorem pairs_err {s : List Int × Int} (h : s.2 ≠ 0) : ∀ n, (pairsM n s).2 = s
  | 0 => rfl
  | n + 1 => by
    rw [pairsM, pairs_err h n]
    unfold pairA
    dsimp only
    rw [after_err h, after_err h]
theorem asks_err {s : List Int × Int} (h : s.2 ≠ 0) : ∀ n, (asksM n s).2 = s
  | 0 => rfl
  | n + 1 => by
    rw [asksM, asks_err h n]
    unfold askA
    dsimp only
    rw [after_err h, after_err h, after_err h]
theorem finM_err {q : Mg × (List Int × Int)} (h : q.2.2 = 10) : finM q = (mZ, 10) := by
  unfold finM
  rw [if_neg (by rw [h]; decide), h]
def readD (t : Int) (n : Nat) (xs : List Int) : Mg × Int :=
  if kindM t n = 0 then (if xs.length < 24 + 24 * n then (mZ, 10) else (⟨0, nAt xs 0 4, 0, nAt xs 4 8, nAt xs 12 4, nAt xs 16 4, nAt xs 20 4, (List.range n).map (fun i => repAt xs (24 + 24 * i)), [], [], [], 0⟩, 0))
  else if kindM t n = 1 then (if xs.length < 4 + 24 * n then (mZ, 10) else (⟨1, nAt xs 0 4, 0, 0, 0, 0, 0, (List.range n).map (fun i => repAt xs (4 + 24 * i)), [], [], [], 0⟩, 0))
  else if kindM t n = 2 then (if xs.length < 4 * n then (mZ, 10) else (⟨2, 0, 0, 0, 0, 0, 0, [], (List.range n).map (fun i => nAt xs (4 * i) 4), [], [], 0⟩, 0))
  else if kindM t n = 3 then (if xs.length < 8 then (mZ, 10) else if (xs.length - 8) / 4 = 0 then (mZ, 11) else (⟨3, nAt xs 0 4, nAt xs 4 4, 0, 0, 0, 0, [], [], (List.range ((xs.length - 8) / 4)).map (fun i => pairAt xs (8 + 4 * i)), [], 0⟩, 0))
  else if kindM t n = 4 then (if xs.length < 8 then (mZ, 10) else (⟨4, nAt xs 0 4, nAt xs 4 4, 0, 0, 0, 0, [], [], [], [], 0⟩, 0))
  else if kindM t n = 5 then (if xs.length < 8 then (mZ, 10) else if (xs.length - 8) / 8 = 0 then (mZ, 11) else (⟨5, nAt xs 0 4, nAt xs 4 4, 0, 0, 0, 0, [], [], [], (List.range ((xs.length - 8) / 8)).map (fun i => askAt xs (8 + 8 * i)), 0⟩, 0))
  else (⟨6, 0, 0, 0, 0, 0, 0, [], [], [], [], t⟩, 0)
theorem read_direct (t : Int) (n : Nat) (xs : List Int) : readM t n xs = readD t n xs := by
  have hd0 : (xs, (0 : Int)) = (xs.drop 0, 0) := by rw [List.drop_zero]
  unfold readM readD
  by_cases h0 : kindM t n = 0
  · rw [if_pos h0, if_pos h0]
    by_cases hs : xs.length < 24 + 24 * n
    · rw [if_pos hs]
      refine finM_err ?_
      show (repsM n (afterL [4, 8, 4, 4, 4] (xs, 0))).2.2 = 10
      rw [reps_after, ← afterL_app]
      exact afterL_short _ _ (by rw [List.sum_append, sum_reps]; simp; omega)
    · rw [if_neg hs]
      unfold senderM
      rw [hd0, (at_ok (xs := xs) (k := 0) (n := 4) (by omega)).1, (at_ok (xs := xs) (k := 0) (n := 4) (by omega)).2, (at_ok (xs := xs) (k := 0 + 4) (n := 8) (by omega)).1, (at_ok (xs := xs) (k := 0 + 4) (n := 8) (by omega)).2, (at_ok (xs := xs) (k := 0 + 4 + 8) (n := 4) (by omega)).1, (at_ok (xs := xs) (k := 0 + 4 + 8) (n := 4) (by omega)).2, (at_ok (xs := xs) (k := 0 + 4 + 8 + 4) (n := 4) (by omega)).1, (at_ok (xs := xs) (k := 0 + 4 + 8 + 4) (n := 4) (by omega)).2, (at_ok (xs := xs) (k := 0 + 4 + 8 + 4 + 4) (n := 4) (by omega)).1, (at_ok (xs := xs) (k := 0 + 4 + 8 + 4 + 4) (n := 4) (by omega)).2, reps_ok (xs := xs) (k := 0 + 4 + 8 + 4 + 4 + 4) n (by omega)]
      exact finM_same rfl (by simp) (by simp)
  rw [if_neg h0, if_neg h0]
  by_cases h1 : kindM t n = 1
  · rw [if_pos h1, if_pos h1]
    by_cases hs : xs.length < 4 + 24 * n
    · rw [if_pos hs]
      refine finM_err ?_
      show (repsM n (afterL [4] (xs, 0))).2.2 = 10
      rw [reps_after, ← afterL_app]
      exact afterL_short _ _ (by rw [List.sum_append, sum_reps]; simp; omega)
    · rw [if_neg hs]
      unfold receiverM
      rw [hd0, (at_ok (xs := xs) (k := 0) (n := 4) (by omega)).1, (at_ok (xs := xs) (k := 0) (n := 4) (by omega)).2, reps_ok (xs := xs) (k := 0 + 4) n (by omega)]
      simp only [Nat.zero_add]
      exact finM_same rfl (by simp) (by simp)
  rw [if_neg h1, if_neg h1]
  by_cases h2 : kindM t n = 2
  · rw [if_pos h2, if_pos h2]
    by_cases hs : xs.length < 4 * n
    · rw [if_pos hs]
      refine finM_err ?_
      show (whoM n (xs, 0)).2.2 = 10
      rw [who_after]
      exact afterL_short _ _ (by simp; omega)
    · rw [if_neg hs]
      unfold byeM
      rw [hd0, who_ok (xs := xs) (k := 0) n (by omega)]
      simp only [Nat.zero_add]
      exact finM_same rfl (by simp) (by simp)
  rw [if_neg h2, if_neg h2]
  have h8 : xs.length < 8 → (after (after (xs, (0 : Int)) 4) 4).2 = 10 := fun hs => afterL_short [4, 4] xs (by simpa using hs)
  have h8b : ¬ xs.length < 8 → after (after (xs, (0 : Int)) 4) 4 = (xs.drop 8, 0) := fun hs => afterL_ok [4, 4] xs (by simp; omega)
  by_cases h3 : kindM t n = 3
  · rw [if_pos h3, if_pos h3]
    by_cases hs : xs.length < 8
    · rw [if_pos hs]
      refine finM_err ?_
      unfold nackM
      dsimp only
      rw [pairs_err (by rw [h8 hs]; decide), h8 hs]
    · rw [if_neg hs]
      unfold nackM
      rw [h8b hs, pairs_ok (xs := xs) (k := 8) _ (by rw [List.length_drop]; omega), hd0, (at_ok (xs := xs) (k := 0) (n := 4) (by omega)).1, (at_ok (xs := xs) (k := 0) (n := 4) (by omega)).2, (at_ok (xs := xs) (k := 0 + 4) (n := 4) (by omega)).1]
      dsimp only
      rw [List.length_drop]
      by_cases hc : (xs.length - 8) / 4 = 0
      · rw [if_pos hc]
        unfold finM
        dsimp only
        rw [if_pos rfl, if_pos (.inl ⟨rfl, by rw [hc]; rfl⟩)]
      · rw [if_neg hc]
        exact finM_same rfl (by simpa using hc) (by simp)
  rw [if_neg h3, if_neg h3]
  by_cases h4 : kindM t n = 4
  · rw [if_pos h4, if_pos h4]
    by_cases hs : xs.length < 8
    · rw [if_pos hs]
      refine finM_err ?_
      unfold pliG
      dsimp only
      rw [h8 hs]
    · rw [if_neg hs]
      unfold pliG
      rw [h8b hs, hd0, (at_ok (xs := xs) (k := 0) (n := 4) (by omega)).1, (at_ok (xs := xs) (k := 0) (n := 4) (by omega)).2, (at_ok (xs := xs) (k := 0 + 4) (n := 4) (by omega)).1]
      exact finM_same rfl (by simp) (by simp)
  rw [if_neg h4, if_neg h4]
  by_cases h5 : kindM t n = 5
  · rw [if_pos h5, if_pos h5]
    by_cases hs : xs.length < 8
    · rw [if_pos hs]
      refine finM_err ?_
      unfold firM
      dsimp only
      rw [asks_err (by rw [h8 hs]; decide), h8 hs]
    · rw [if_neg hs]
      unfold firM
      rw [h8b hs, asks_ok (xs := xs) (k := 8) _ (by rw [List.length_drop]; omega), hd0, (at_ok (xs := xs) (k := 0) (n := 4) (by omega)).1, (at_ok (xs := xs) (k := 0) (n := 4) (by omega)).2, (at_ok (xs := xs) (k := 0 + 4) (n := 4) (by omega)).1]
      dsimp only
      rw [List.length_drop]
      by_cases hc : (xs.length - 8) / 8 = 0
      · rw [if_pos hc]
        unfold finM
        dsimp only
        rw [if_pos rfl, if_pos (.inr ⟨rfl, by rw [hc]; rfl⟩)]
      · rw [if_neg hc]
        exact finM_same rfl (by simp) (by simpa using hc)
  rw [if_neg h5, if_neg h5]
end Go.Proofs.Ytgkejdjdccgjbaa
/- The statements' own example: it answers true, and leaves what was there as it was. No condition. -/
namespace Go.Proofs.Ytgkejdjdccgjbaa
open Go Go.RowKit
set_option maxHeartbeats 400000

def mPli : Mg := ⟨4, 1, 2, 0, 0, 0, 0, [], [], [], [], 0⟩
def hd0 : Hd := ⟨none, 0, none, 0, none, 0, none, 0⟩
def mNack : Mg := ⟨3, 0, 0, 0, 0, 0, 0, [], [], [(4, 0)], [], 0⟩
theorem mPli_ok : mPli.Ok := ⟨by simp [mPli, U32], by simp [mPli, U32], by simp [mPli, U64], by simp [mPli, U32], by simp [mPli, U32], by simp [mPli, U32], by simp [mPli], by simp [mPli], by simp [mPli], by simp [mPli], by simp [mPli, U8], by simp [mPli], by simp [mPli], by simp [mPli], by simp [mPli]⟩
theorem mNack_ok : mNack.Ok := ⟨by simp [mNack, U32], by simp [mNack, U32], by simp [mNack, U64], by simp [mNack, U32], by simp [mNack, U32], by simp [mNack, U32], by simp [mNack], by simp [mNack], by simp [mNack, U16], by simp [mNack], by simp [mNack, U8], by simp [mNack], by simp [mNack], by simp [mNack], by simp [mNack]⟩
theorem mgIn_empty (w : World) (lo : Nat) (m : Mg) (h1 : m.reports = []) (h2 : m.who = []) (h3 : m.pairs = []) (h4 : m.asks = []) : MgIn w lo m hd0 := by
  obtain ⟨k, s, md, c, t, p, b, rs, wh, prs, ask, ty⟩ := m
  dsimp only at h1 h2 h3 h4
  subst h1 h2 h3 h4
  exact ⟨CellsIn.nil _ _ _ _ _, CellsIn.nil _ _ _ _ _, CellsIn.nil _ _ _ _ _, CellsIn.nil _ _ _ _ _⟩
theorem putM_pli : putM [mPli] = ([129, 206, 0, 2, 0, 0, 0, 1, 0, 0, 0, 2], 0) := by decide +kernel
theorem putM_nack : (putM [mNack]).2 = 0 := by decide +kernel
theorem pli_xs : pliM [0, 0, 0, 1, 0, 0, 0, 2] = (mcells mPli hd0, 0) := by
  have h1 : numM [0, 0, 0, 1, 0, 0, 0, 2] 0 4 = (1, [0, 0, 0, 2], 0) := by decide +kernel
  have h2 : numM [0, 0, 0, 2] 0 4 = (2, [], 0) := by decide +kernel
  unfold pliM
  rw [h1]
  dsimp only
  rw [h2]
  rfl
/-- the cells of a block, as a slice that lies there -/
theorem Blk.cells {w : World} {g : Nat} {t : TypeId} {cs : Array Value} {xs : List Value} {size n : Nat} (h : Blk w g t cs) (e : cs.toList = xs) (hl : xs.length = n * size) : CellsIn w 0 w.heap.size size (some ⟨g, 0, none⟩) n xs :=
  ⟨hl, fun _ => ⟨g, 0, rfl, Nat.zero_le _, h.lt, fun j u hu => by
    rw [Nat.zero_add, h.cell j]
    rw [← e, Array.getElem?_toList] at hu
    exact hu⟩⟩
set_option maxRecDepth 100000 in
set_option maxHeartbeats 2000000 in
theorem awake_any (w : World) : Calls Try.prog 9 #[] w fun e w' => e = .returned (.bool true) ∧ Upd [] w w' := by
  obtain ⟨W1, hW1⟩ : ∃ W1, W1 = w.alloc (.cells #[.int .i64 4, .int .u32 1, .int .u32 2, .int .u64 0, .int .u32 0, .int .u32 0, .int .u32 0, .slice none 0 0, .slice none 0 0, .slice none 0 0, .slice none 0 0, .int .u8 0] 59) := ⟨_, rfl⟩
  have hU1 : Upd [] w W1 := by rw [hW1]; exact (Upd.refl [] w).alloc _
  have hB1 : Blk W1 w.heap.size 59 #[.int .i64 4, .int .u32 1, .int .u32 2, .int .u64 0, .int .u32 0, .int .u32 0, .int .u32 0, .slice none 0 0, .slice none 0 0, .slice none 0 0, .slice none 0 0, .int .u8 0] := by rw [hW1]; exact Blk.new _ _ _
  have HP1 := Lib.hid (put_any (w := W1) (lo := 0) (A := some ⟨w.heap.size, 0, none⟩) (cap := 1) (ms := [(mPli, hd0)]) (hB1.cells rfl rfl) (by intro x hx; rw [List.mem_singleton] at hx; subst hx; exact ⟨mgIn_empty _ _ _ rfl rfl rfl rfl, mPli_ok⟩) (by simp))
  simp only [List.map_cons, List.map_nil, List.length_cons, List.length_nil] at HP1
  rw [putM_pli] at HP1
  dsimp only [List.length_cons, List.length_nil] at HP1
  simp only [Nat.zero_add, Nat.reduceAdd] at HP1
  go_enter Try.func9, Try.ntmps9
  go_wp2_with fail
  rw [← hW1]
  refine HP1.out.mono ?_
  rintro e w2 ⟨v2, rfl, hown2, hb2⟩
  obtain ⟨A2, c2, hv2, _⟩ := own_form hown2
  subst hv2
  have hrow2 := RowIn.of_own (xs := [129, 206, 0, 2, 0, 0, 0, 1, 0, 0, 0, 2]) hown2
  have HPA := Lib.hid (parse_one hrow2 129 206 0 2 [0, 0, 0, 1, 0, 0, 0, 2] rfl (by simp) (by intro x hx; simp at hx; omega) (by omega) (by omega) (by simp) mPli hd0 (fun W lo' q hq hqx => by
    have h := read_pli hq (by rw [hqx]; simp) 206 1 (by rw [hqx]; intro x hx; simp at hx; omega) (by decide)
    rw [hqx, pli_xs] at h
    exact h))
  unfold encR at HPA
  dsimp only [List.length_cons, List.length_nil] at HPA
  simp only [Nat.zero_add, Nat.reduceAdd] at HPA
  have HR2 := Lib.hid hrow2
  have HU2 := Lib.hid (hU1.next (Upd.of_below hb2))
  clear hown2 hrow2 hb2 HP1 hU1 hB1 hW1
  go_wp2_with fail
  refine HPA.out.mono ?_
  rintro e w3 ⟨v3, rfl, hown3, hu3⟩
  obtain ⟨A3, c3, hv3, _, ha3, _⟩ := own_form hown3
  subst hv3
  obtain ⟨g3, rfl, hg3, hg3'⟩ := ha3 (by decide)
  have HR3 := Lib.hid (hown3.cells (g := g3) rfl)
  have HU3 := Lib.hid (HU2.out.next hu3)
  have HRR := Lib.hid (HR2.out.upd2 hu3 (by simp))
  clear hown3 hu3 HPA HU2 HR2
  have HPN := Lib.hid (parse_nil w3)
  go_wp2_with fail
  refine HPN.out.mono ?_
  rintro e w4 ⟨rfl, hu4⟩
  have HU4 := Lib.hid (HU3.out.next hu4)
  have HRR4 := Lib.hid (HRR.out.upd2 hu4 (by simp))
  have HC4 := Lib.hid (fun (j : Nat) (u : Value) (hj : (mcells mPli hd0)[j]? = some u) => (hu4.cell (p := (⟨g3, 0, none⟩ : Addr).add j) (by rw [Addr.add]; split <;> exact hg3') (by simp)).trans (HR3.out j u hj))
  have hg4 : g3 < w4.heap.size := Nat.lt_of_lt_of_le hg3' hu4.size
  clear hu4 HU3 HRR HR3 HPN
  obtain ⟨W5, hW5⟩ : ∃ W5, W5 = (w4.alloc (.cells #[.int .u16 4, .int .u16 0] 68)).alloc (.cells #[.int .i64 3, .int .u32 0, .int .u32 0, .int .u64 0, .int .u32 0, .int .u32 0, .int .u32 0, .slice none 0 0, .slice none 0 0, .slice (some ⟨w4.heap.size, 0, none⟩) 1 1, .slice none 0 0, .int .u8 0] 59) := ⟨_, rfl⟩
  have hU5 : Upd [] w4 W5 := by rw [hW5]; exact ((Upd.refl [] w4).alloc _).alloc _
  have hB5 : Blk W5 (w4.heap.size + 1) 59 #[.int .i64 3, .int .u32 0, .int .u32 0, .int .u64 0, .int .u32 0, .int .u32 0, .int .u32 0, .slice none 0 0, .slice none 0 0, .slice (some ⟨w4.heap.size, 0, none⟩) 1 1, .slice none 0 0, .int .u8 0] := by
    have := Blk.new (w4.alloc (.cells #[.int .u16 4, .int .u16 0] 68)) 59 #[.int .i64 3, .int .u32 0, .int .u32 0, .int .u64 0, .int .u32 0, .int .u32 0, .int .u32 0, .slice none 0 0, .slice none 0 0, .slice (some ⟨w4.heap.size, 0, none⟩) 1 1, .slice none 0 0, .int .u8 0]
    rw [World.size_alloc] at this
    rw [hW5]; exact this
  have hB6 : Blk W5 w4.heap.size 68 #[.int .u16 4, .int .u16 0] := by rw [hW5]; exact (Blk.new _ _ _).alloc _
  have HP5 := Lib.hid (put_any (w := W5) (lo := 0) (A := some ⟨w4.heap.size + 1, 0, none⟩) (cap := 1) (ms := [(mNack, ⟨none, 0, none, 0, some ⟨w4.heap.size, 0, none⟩, 1, none, 0⟩)]) (hB5.cells rfl rfl) (by
    intro x hx; rw [List.mem_singleton] at hx; subst hx
    exact ⟨⟨CellsIn.nil _ _ _ _ _, CellsIn.nil _ _ _ _ _, hB6.cells rfl rfl, CellsIn.nil _ _ _ _ _⟩, mNack_ok⟩) (by simp))
  simp only [List.map_cons, List.map_nil, List.length_cons, List.length_nil] at HP5
  rw [putM_nack] at HP5
  simp only [Nat.zero_add] at HP5
  go_wp2_with fail
  rw [← hW5]
  refine HP5.out.mono ?_
  rintro e w6 ⟨v6, rfl, _, hb6⟩
  have hu6 : Upd [] w4 w6 := hU5.next (Upd.of_below hb6)
  have m2 : w6.cell? ⟨g3, 2, none⟩ = some (.int .u32 2) := (hu6.cell (p := ⟨g3, 2, none⟩) hg4 (by simp)).trans (HC4.out 2 _ rfl)
  have m0 : w6.cell? ⟨g3, 0, none⟩ = some (.int .i64 4) := (hu6.cell (p := ⟨g3, 0, none⟩) hg4 (by simp)).trans (HC4.out 0 _ rfl)
  have hr6 := HRR4.out.upd2 hu6 (by simp)
  have hst := str_of hr6
  have HIS := Lib.hid (is_any hr6 (by intro x hx; simp at hx; omega))
  rw [show isM [129, 206, 0, 2, 0, 0, 0, 1, 0, 0, 0, 2] = true from by decide] at HIS
  rw [show strOfNums [129, 206, 0, 2, 0, 0, 0, 1, 0, 0, 0, 2] = { data := #[129, 206, 0, 2, 0, 0, 0, 1, 0, 0, 0, 2] } from by decide +kernel] at hst
  unfold encR at hst HIS
  dsimp only [List.length_cons, List.length_nil] at hst HIS
  simp only [Nat.zero_add, Nat.reduceAdd] at hst HIS
  have HU6 := Lib.hid (HU4.out.next hu6)
  clear hb6 hu6 hr6 HP5 hW5 hB5 hB6 hU5 HU4 HRR4 HC4
  go_wp2_with fail
  refine HIS.out.mono ?_
  rintro e w7 ⟨rfl, rfl⟩
  go_wp2
  exact bodyPost_res (v := .bool true) (by simp [results, Try.results9, go_sem]) rfl ⟨rfl, HU6.out⟩
end Go.Proofs.Ytgkejdjdccgjbaa
/- The laws' 'of', and 'Same', of a message of nothing but its type. No condition. (Written by wip/gen/rtcpofo.py.) -/
namespace Go.Proofs.Ytgkejdjdccgjbaa
open Go Go.RowKit
set_option maxHeartbeats 400000

theorem upd12 {S : List Nat} {a w : World} (g : Nat) (v0 v1 v2 v3 v4 v5 v6 v7 v8 v9 v10 v11 : Value) (h : Upd S a w) (hg : g ∈ S ∨ a.heap.size ≤ g) : Upd S a ((((((((((((w.setCell ⟨g, 0, none⟩ v0).setCell ⟨g, 1, none⟩ v1).setCell ⟨g, 2, none⟩ v2).setCell ⟨g, 3, none⟩ v3).setCell ⟨g, 4, none⟩ v4).setCell ⟨g, 5, none⟩ v5).setCell ⟨g, 6, none⟩ v6).setCell ⟨g, 7, none⟩ v7).setCell ⟨g, 8, none⟩ v8).setCell ⟨g, 9, none⟩ v9).setCell ⟨g, 10, none⟩ v10).setCell ⟨g, 11, none⟩ v11) :=
  set12_upd g _ _ _ _ _ _ _ _ _ _ _ _ h hg
set_option maxRecDepth 100000 in
set_option maxHeartbeats 2000000 in
theorem of_other (w : World) (t : Int) : Calls Try.prog 20 #[.agg #[.int .i64 6, .int .u32 0, .int .u32 0, .int .u64 0, .int .u32 0, .int .u32 0, .int .u32 0, .slice none 0 0, .slice none 0 0, .slice none 0 0, .slice none 0 0, .int .u8 t]] w fun e w' => e = .returned (.agg #[.int .i64 6, .int .u32 0, .int .u32 0, .int .u64 0, .int .u32 0, .int .u32 0, .int .u32 0, .slice none 0 0, .slice none 0 0, .slice none 0 0, .slice none 0 0, .int .u8 t]) ∧ Upd [] w w' := by
  obtain ⟨W, hW⟩ : ∃ W, W = ((w.alloc (.cells #[.int .i64 6, .int .u32 0, .int .u32 0, .int .u64 0, .int .u32 0, .int .u32 0, .int .u32 0, .slice none 0 0, .slice none 0 0, .slice none 0 0, .slice none 0 0, .int .u8 t] 59)).alloc (.cells #[.int .i64 0, .int .u32 0, .int .u32 0, .int .u64 0, .int .u32 0, .int .u32 0, .int .u32 0, .slice none 0 0, .slice none 0 0, .slice none 0 0, .slice none 0 0, .int .u8 0] 50)).alloc (.cells #[.int .i64 6, .int .u32 0, .int .u32 0, .int .u64 0, .int .u32 0, .int .u32 0, .int .u32 0, .slice none 0 0, .slice none 0 0, .slice none 0 0, .slice none 0 0, .int .u8 t] 50) := ⟨_, rfl⟩
  have hU : Upd [] w W := by rw [hW]; exact (((Upd.refl [] w).alloc _).alloc _).alloc _
  have hM : Blk W w.heap.size 59 #[.int .i64 6, .int .u32 0, .int .u32 0, .int .u64 0, .int .u32 0, .int .u32 0, .int .u32 0, .slice none 0 0, .slice none 0 0, .slice none 0 0, .slice none 0 0, .int .u8 t] := by rw [hW]; exact ((Blk.new _ _ _).alloc _).alloc _
  have hR : Blk W (w.heap.size + 1) 50 #[.int .i64 0, .int .u32 0, .int .u32 0, .int .u64 0, .int .u32 0, .int .u32 0, .int .u32 0, .slice none 0 0, .slice none 0 0, .slice none 0 0, .slice none 0 0, .int .u8 0] := by
    have := Blk.new (w.alloc (.cells #[.int .i64 6, .int .u32 0, .int .u32 0, .int .u64 0, .int .u32 0, .int .u32 0, .int .u32 0, .slice none 0 0, .slice none 0 0, .slice none 0 0, .slice none 0 0, .int .u8 t] 59)) 50 #[.int .i64 0, .int .u32 0, .int .u32 0, .int .u64 0, .int .u32 0, .int .u32 0, .int .u32 0, .slice none 0 0, .slice none 0 0, .slice none 0 0, .slice none 0 0, .int .u8 0]
    rw [World.size_alloc] at this
    rw [hW]; exact this.alloc _
  have hG : Blk W (w.heap.size + 1 + 1) 50 #[.int .i64 6, .int .u32 0, .int .u32 0, .int .u64 0, .int .u32 0, .int .u32 0, .int .u32 0, .slice none 0 0, .slice none 0 0, .slice none 0 0, .slice none 0 0, .int .u8 t] := by
    have := Blk.new ((w.alloc (.cells #[.int .i64 6, .int .u32 0, .int .u32 0, .int .u64 0, .int .u32 0, .int .u32 0, .int .u32 0, .slice none 0 0, .slice none 0 0, .slice none 0 0, .slice none 0 0, .int .u8 t] 59)).alloc (.cells #[.int .i64 0, .int .u32 0, .int .u32 0, .int .u64 0, .int .u32 0, .int .u32 0, .int .u32 0, .slice none 0 0, .slice none 0 0, .slice none 0 0, .slice none 0 0, .int .u8 0] 50)) 50 #[.int .i64 6, .int .u32 0, .int .u32 0, .int .u64 0, .int .u32 0, .int .u32 0, .int .u32 0, .slice none 0 0, .slice none 0 0, .slice none 0 0, .slice none 0 0, .int .u8 t]
    rw [World.size_alloc, World.size_alloc] at this
    rw [hW]; exact this
  have hle : w.heap.size ≤ w.heap.size + 1 := Nat.le_succ _
  have HU := Lib.hid hU
  have HLE := Lib.hid hle
  go_enter Try.func20, Try.ntmps20
  go_upto_region 2 with fail
  rw [← hW]
  clear hW hU hle
  obtain ⟨G, hGe⟩ : ∃ G, G = w.heap.size + 1 + 1 := ⟨_, rfl⟩
  obtain ⟨R, hRe⟩ : ∃ R, R = w.heap.size + 1 := ⟨_, rfl⟩
  have hRG : R ≠ G := by omega
  rw [← hGe] at hG
  rw [← hRe] at hR
  rw [← hRe] at HLE
  try rw [← hGe]
  try rw [← hRe]
  clear hGe hRe
  obtain ⟨M, hMe⟩ : ∃ M, M = w.heap.size := ⟨_, rfl⟩
  rw [← hMe] at hM
  try rw [← hMe]
  clear hMe
  have m7 : W.cell? ⟨M, 7, none⟩ = some (.slice none 0 0) := hM.cell 7
  have m9 : W.cell? ⟨M, 9, none⟩ = some (.slice none 0 0) := hM.cell 9
  have m10 : W.cell? ⟨M, 10, none⟩ = some (.slice none 0 0) := hM.cell 10
  have g0 : W.cell? ⟨G, 0, none⟩ = some (.int .i64 6) := hG.cell 0
  have r0 : W.cell? ⟨R, 0, none⟩ = some (.int .i64 0) := hR.cell 0
  have f0 := hR.frozen 0
  have g1 : W.cell? ⟨G, 1, none⟩ = some (.int .u32 0) := hG.cell 1
  have r1 : W.cell? ⟨R, 1, none⟩ = some (.int .u32 0) := hR.cell 1
  have f1 := hR.frozen 1
  have g2 : W.cell? ⟨G, 2, none⟩ = some (.int .u32 0) := hG.cell 2
  have r2 : W.cell? ⟨R, 2, none⟩ = some (.int .u32 0) := hR.cell 2
  have f2 := hR.frozen 2
  have g3 : W.cell? ⟨G, 3, none⟩ = some (.int .u64 0) := hG.cell 3
  have r3 : W.cell? ⟨R, 3, none⟩ = some (.int .u64 0) := hR.cell 3
  have f3 := hR.frozen 3
  have g4 : W.cell? ⟨G, 4, none⟩ = some (.int .u32 0) := hG.cell 4
  have r4 : W.cell? ⟨R, 4, none⟩ = some (.int .u32 0) := hR.cell 4
  have f4 := hR.frozen 4
  have g5 : W.cell? ⟨G, 5, none⟩ = some (.int .u32 0) := hG.cell 5
  have r5 : W.cell? ⟨R, 5, none⟩ = some (.int .u32 0) := hR.cell 5
  have f5 := hR.frozen 5
  have g6 : W.cell? ⟨G, 6, none⟩ = some (.int .u32 0) := hG.cell 6
  have r6 : W.cell? ⟨R, 6, none⟩ = some (.int .u32 0) := hR.cell 6
  have f6 := hR.frozen 6
  have g7 : W.cell? ⟨G, 7, none⟩ = some (.slice none 0 0) := hG.cell 7
  have r7 : W.cell? ⟨R, 7, none⟩ = some (.slice none 0 0) := hR.cell 7
  have f7 := hR.frozen 7
  have g8 : W.cell? ⟨G, 8, none⟩ = some (.slice none 0 0) := hG.cell 8
  have r8 : W.cell? ⟨R, 8, none⟩ = some (.slice none 0 0) := hR.cell 8
  have f8 := hR.frozen 8
  have g9 : W.cell? ⟨G, 9, none⟩ = some (.slice none 0 0) := hG.cell 9
  have r9 : W.cell? ⟨R, 9, none⟩ = some (.slice none 0 0) := hR.cell 9
  have f9 := hR.frozen 9
  have g10 : W.cell? ⟨G, 10, none⟩ = some (.slice none 0 0) := hG.cell 10
  have r10 : W.cell? ⟨R, 10, none⟩ = some (.slice none 0 0) := hR.cell 10
  have f10 := hR.frozen 10
  have g11 : W.cell? ⟨G, 11, none⟩ = some (.int .u8 t) := hG.cell 11
  have r11 : W.cell? ⟨R, 11, none⟩ = some (.int .u8 0) := hR.cell 11
  have f11 := hR.frozen 11
  clear hM hR hG
  go_wp2
  go_loopg [4] 1 (fun gk x4 wr => x4 = .int .i64 0 ∧ wr = W)
  case atStart => exact ⟨rfl, rfl⟩
  case round =>
    obtain ⟨rfl, rfl⟩ := hrel
    go_wp2
    go_loopg [6] 1 (fun gk x4 wx => x4 = .int .i64 0 ∧ wx = wr)
    case atStart => exact ⟨rfl, rfl⟩
    case round =>
      obtain ⟨rfl, rfl⟩ := hrel
      go_wp2
      go_loopg [7] 1 (fun gk x4 wy => x4 = .int .i64 0 ∧ wy = wr)
      case atStart => exact ⟨rfl, rfl⟩
      case round =>
        obtain ⟨rfl, rfl⟩ := hrel
        go_wp2
        refine bodyPost_res (v := .agg #[.int .i64 6, .int .u32 0, .int .u32 0, .int .u64 0, .int .u32 0, .int .u32 0, .int .u32 0, .slice none 0 0, .slice none 0 0, .slice none 0 0, .slice none 0 0, .int .u8 t]) (by simp [results, Try.results20, go_sem, r0, r1, r2, r3, r4, r5, r6, r7, r8, r9, r10, r11]) rfl ⟨rfl, ?_⟩
        first
          | exact (upd12 R _ _ _ _ _ _ _ _ _ _ _ _ HU.out (.inr HLE.out))
          | trace_state
end Go.Proofs.Ytgkejdjdccgjbaa
/- The laws' 'of': a message as the document has it. Conditions: its rows no longer than 100000; its numbers of their types. (Written by wip/gen/rtcpof.py.) -/
namespace Go.Proofs.Ytgkejdjdccgjbaa
open Go Go.RowKit
set_option maxHeartbeats 400000

def encP2 (p : Int × Int) : List Value := [.int .i64 p.1, .int .i64 p.2]
theorem encP2_len (p : Int × Int) : (encP2 p).length = 2 := rfl
/-- where a message's rows lie, as the document has it -/
structure RfIn (w : World) (lo : Nat) (m : Mg) (h : Hd) : Prop where
  cr : CellsIn w lo w.heap.size 7 h.rA m.reports.length (m.reports.flatMap encRep)
  cw : CellsIn w 0 w.heap.size 1 h.wA m.who.length (m.who.map (Value.int .u32))
  cp : CellsIn w lo w.heap.size 2 h.pA m.pairs.length (m.pairs.flatMap encP2)
  ca : CellsIn w lo w.heap.size 2 h.aA m.asks.length (m.asks.flatMap encAsk)
theorem infoRR : (Try.prog.info? 61).map (fun i => (i.zero, i.size, i.bytes)) = some (some (.agg #[.int .u32 0, .int .u8 0, .int .u32 0, .int .u32 0, .int .u32 0, .int .u32 0, .int .u32 0]), 7, 28) := by kernel_rfl
theorem infoRP : (Try.prog.info? 89).map (fun i => (i.zero, i.size, i.bytes)) = some (some (.agg #[.int .i64 0, .int .i64 0]), 2, 16) := by kernel_rfl
theorem infoRA : (Try.prog.info? 92).map (fun i => (i.zero, i.size, i.bytes)) = some (some (.agg #[.int .u32 0, .int .u8 0]), 2, 8) := by kernel_rfl
theorem of_fin {w wa wb wr we : World} {W : World} {Rb : Nat} {m : Mg} {A A2 A3 wA : Option Addr} {c c2 c3 wc lo : Nat} (hu : Upd [Rb] wr we) (hrl : Rb < W.heap.size) (h1 : W.heap.size ≤ wa.heap.size) (h2 : wa.heap.size ≤ wb.heap.size)
    (o1 : wr.ownsRow W.heap.size 61 7 (.slice A m.reports.length c) m.reports.length (m.reports.flatMap encRep)) (o2 : wr.ownsRow wa.heap.size 89 2 (.slice A2 m.pairs.length c2) m.pairs.length (m.pairs.flatMap encP2))
    (o3 : wr.ownsRow wb.heap.size 92 2 (.slice A3 m.asks.length c3) m.asks.length (m.asks.flatMap encAsk)) (cw : CellsIn wr lo w.heap.size 1 wA m.who.length (m.who.map (Value.int .u32))) (hs : w.heap.size ≤ wr.heap.size) (hw : w.heap.size ≤ Rb) (hW : w.heap.size ≤ W.heap.size) : RfIn we w.heap.size m ⟨A, c, wA, wc, A2, c2, A3, c3⟩ := by
  refine ⟨?_, ?_, ?_, ?_⟩
  · exact (CellsIn.of_own (ownsRow_upd o1 hu (fun s hs' e => by rw [List.mem_singleton] at hs'; subst hs'; have := (own_block_lt o1 e).1; omega))).more (by omega) (Nat.le_refl _)
  · exact (cw.upd hu hs (fun s hs' => by rw [List.mem_singleton] at hs'; subst hs'; exact .inr hw)).more (Nat.zero_le _) (Nat.le_trans hs hu.size)
  · exact (CellsIn.of_own (ownsRow_upd o2 hu (fun s hs' e => by rw [List.mem_singleton] at hs'; subst hs'; have := (own_block_lt o2 e).1; omega))).more (by omega) (Nat.le_refl _)
  · exact (CellsIn.of_own (ownsRow_upd o3 hu (fun s hs' e => by rw [List.mem_singleton] at hs'; subst hs'; have := (own_block_lt o3 e).1; omega))).more (by omega) (Nat.le_refl _)
set_option maxRecDepth 100000 in
set_option maxHeartbeats 6000000 in
theorem of_any {w : World} {lo : Nat} {m : Mg} {h : Hd} (hm : MgIn w lo m h) (hn : m.Num) (hr : m.reports.length ≤ 100000) (hp : m.pairs.length ≤ 100000) (ha : m.asks.length ≤ 100000) :
    Calls Try.prog 20 #[.agg (mcells m h).toArray] w fun e w' => ∃ h', e = .returned (.agg (mcells m h').toArray) ∧ RfIn w' w.heap.size m h' ∧ h'.wA = h.wA ∧ Upd [] w w' := by
  obtain ⟨j0, hj0, hy0, hy1, hy2⟩ := info_parts infoRR
  obtain ⟨j1, hj1, hz0, hz1, hz2⟩ := info_parts infoRP
  obtain ⟨j2, hj2, hx0, hx1, hx2⟩ := info_parts infoRA
  have HIN := Lib.hid hm
  have HPN := Lib.hid hn.pairs
  clear hm hn
  obtain ⟨kk, m1, m2, m3, m4, m5, m6, rs, wh, ps, qs, ty⟩ := m
  obtain ⟨rA, rc, wA, wc, pA, pc, aA, ac⟩ := h
  unfold mcells
  dsimp only at hr hp ha HPN ⊢
  obtain ⟨W, hW⟩ : ∃ W, W = ((w.alloc (.cells #[.int .i64 kk, .int .u32 m1, .int .u32 m2, .int .u64 m3, .int .u32 m4, .int .u32 m5, .int .u32 m6, .slice rA rs.length rc, .slice wA wh.length wc, .slice pA ps.length pc, .slice aA qs.length ac, .int .u8 ty] 59)).alloc (.cells #[.int .i64 0, .int .u32 0, .int .u32 0, .int .u64 0, .int .u32 0, .int .u32 0, .int .u32 0, .slice none 0 0, .slice none 0 0, .slice none 0 0, .slice none 0 0, .int .u8 0] 50)).alloc (.cells #[.int .i64 kk, .int .u32 m1, .int .u32 m2, .int .u64 m3, .int .u32 m4, .int .u32 m5, .int .u32 m6, .slice none 0 0, .slice wA wh.length wc, .slice none 0 0, .slice none 0 0, .int .u8 ty] 50) := ⟨_, rfl⟩
  have hU : Upd [] w W := by rw [hW]; exact (((Upd.refl [] w).alloc _).alloc _).alloc _
  have hM : Blk W w.heap.size 59 #[.int .i64 kk, .int .u32 m1, .int .u32 m2, .int .u64 m3, .int .u32 m4, .int .u32 m5, .int .u32 m6, .slice rA rs.length rc, .slice wA wh.length wc, .slice pA ps.length pc, .slice aA qs.length ac, .int .u8 ty] := by rw [hW]; exact ((Blk.new _ _ _).alloc _).alloc _
  have hR : Blk W (w.heap.size + 1) 50 #[.int .i64 0, .int .u32 0, .int .u32 0, .int .u64 0, .int .u32 0, .int .u32 0, .int .u32 0, .slice none 0 0, .slice none 0 0, .slice none 0 0, .slice none 0 0, .int .u8 0] := by
    have := Blk.new (w.alloc (.cells #[.int .i64 kk, .int .u32 m1, .int .u32 m2, .int .u64 m3, .int .u32 m4, .int .u32 m5, .int .u32 m6, .slice rA rs.length rc, .slice wA wh.length wc, .slice pA ps.length pc, .slice aA qs.length ac, .int .u8 ty] 59)) 50 #[.int .i64 0, .int .u32 0, .int .u32 0, .int .u64 0, .int .u32 0, .int .u32 0, .int .u32 0, .slice none 0 0, .slice none 0 0, .slice none 0 0, .slice none 0 0, .int .u8 0]
    rw [World.size_alloc] at this
    rw [hW]; exact this.alloc _
  have hG : Blk W (w.heap.size + 1 + 1) 50 #[.int .i64 kk, .int .u32 m1, .int .u32 m2, .int .u64 m3, .int .u32 m4, .int .u32 m5, .int .u32 m6, .slice none 0 0, .slice wA wh.length wc, .slice none 0 0, .slice none 0 0, .int .u8 ty] := by
    have := Blk.new ((w.alloc (.cells #[.int .i64 kk, .int .u32 m1, .int .u32 m2, .int .u64 m3, .int .u32 m4, .int .u32 m5, .int .u32 m6, .slice rA rs.length rc, .slice wA wh.length wc, .slice pA ps.length pc, .slice aA qs.length ac, .int .u8 ty] 59)).alloc (.cells #[.int .i64 0, .int .u32 0, .int .u32 0, .int .u64 0, .int .u32 0, .int .u32 0, .int .u32 0, .slice none 0 0, .slice none 0 0, .slice none 0 0, .slice none 0 0, .int .u8 0] 50)) 50 #[.int .i64 kk, .int .u32 m1, .int .u32 m2, .int .u64 m3, .int .u32 m4, .int .u32 m5, .int .u32 m6, .slice none 0 0, .slice wA wh.length wc, .slice none 0 0, .slice none 0 0, .int .u8 ty]
    rw [World.size_alloc, World.size_alloc] at this
    rw [hW]; exact this
  have HU := Lib.hid hU
  have HLE : Hid (w.heap.size ≤ w.heap.size + 1 ∧ w.heap.size ≤ w.heap.size + 1 + 1) := Lib.hid (by omega)
  go_enter Try.func20, Try.ntmps20
  go_upto_region 2 with fail
  rw [← hW]
  clear hW hU
  obtain ⟨Gb, hGe⟩ : ∃ G, G = w.heap.size + 1 + 1 := ⟨_, rfl⟩
  obtain ⟨Rb, hRe⟩ : ∃ R, R = w.heap.size + 1 := ⟨_, rfl⟩
  obtain ⟨Mb, hMe⟩ : ∃ M, M = w.heap.size := ⟨_, rfl⟩
  have hRG : Rb ≠ Gb := by omega
  have hMG : Mb ≠ Gb := by omega
  have hGM : Gb ≠ Mb := hMG.symm
  rw [← hGe] at hG
  rw [← hRe] at hR
  rw [← hMe] at hM
  have HGW : Hid (w.heap.size ≤ Gb) := Lib.hid (by omega)
  have HRW : Hid (w.heap.size ≤ Rb) := Lib.hid (by omega)
  try rw [← hGe]
  try rw [← hRe]
  try rw [← hMe]
  have HGLT := Lib.hid hG.lt
  have HMB := Lib.hid hM
  have HRB := Lib.hid hR
  have HGB := Lib.hid hG
  clear hGe hRe hMe hM hR hG HLE
  have HUW : Hid (Upd [Gb] w W) := Lib.hid (HU.out.more (by simp))
  go_wp2
  go_loopg [4] rs.length (fun gk x4 wr => ∃ (i : Nat) (A : Option Addr) (c : Nat), i ≤ rs.length ∧ rs.length ≤ i + gk ∧ x4 = .int .i64 i ∧ Blk wr Gb 50 #[.int .i64 kk, .int .u32 m1, .int .u32 m2, .int .u64 m3, .int .u32 m4, .int .u32 m5, .int .u32 m6, .slice A i c, .slice wA wh.length wc, .slice none 0 0, .slice none 0 0, .int .u8 ty] ∧ wr.ownsRow W.heap.size 61 7 (.slice A i c) i ((rs.take i).flatMap encRep) ∧ Upd [Gb] W wr)
  case atStart => exact ⟨0, none, 0, Nat.zero_le _, by omega, rfl, HGB.out, World.ownsRow_nil _ _ _ _, Upd.refl _ _⟩
  case round =>
    obtain ⟨i, A, c, hi, hgi, rfl, hbg, hown, hu⟩ := hrel
    have m7 : wr.cell? ⟨Mb, 7, none⟩ = some (.slice rA rs.length rc) := (HMB.out.upd hu (by simp; exact hMG)).cell 7
    by_cases hlt : i < rs.length
    · obtain ⟨q, hqi⟩ : ∃ p, rs[i]? = some p := ⟨_, List.getElem?_eq_getElem hlt⟩
      have huw := HUW.out.next hu
      have hcr := HIN.out.cr.upd huw (Nat.le_refl _) (by intro s hs; rw [List.mem_singleton] at hs; subst hs; exact .inr HGW.out)
      obtain ⟨b, off, rfl, hb1, hb2, hcc⟩ := hcr.2 (by dsimp only; omega)
      have c0 := hcc (i * 7 + 0) _ (flat_get encRep_len rs i 0 q hqi (by omega))
      have c1 := hcc (i * 7 + 1) _ (flat_get encRep_len rs i 1 q hqi (by omega))
      have c2 := hcc (i * 7 + 2) _ (flat_get encRep_len rs i 2 q hqi (by omega))
      have c3 := hcc (i * 7 + 3) _ (flat_get encRep_len rs i 3 q hqi (by omega))
      have c4 := hcc (i * 7 + 4) _ (flat_get encRep_len rs i 4 q hqi (by omega))
      have c5 := hcc (i * 7 + 5) _ (flat_get encRep_len rs i 5 q hqi (by omega))
      have c6 := hcc (i * 7 + 6) _ (flat_get encRep_len rs i 6 q hqi (by omega))
      obtain ⟨q0, q1, q2, q3, q4, q5, q6⟩ := q
      simp only [← Nat.add_assoc, Nat.add_zero] at c0 c1 c2 c3 c4 c5 c6
      have hlti : (i : Int) < (rs.length : Int) := by omega
      have hw : IntKind.i64.wrap ((i : Int) + 1) = (i : Int) + 1 := IntWalk.i64_in _ (by omega)
      have HOW := Lib.hid hown
      have HUR := Lib.hid hu
      have HBG := Lib.hid hbg
      have HQI := Lib.hid hqi
      clear hcc hown hu hbg hqi huw hcr hb1 hb2
      go_upto_region 6 with fail
      obtain ⟨W1, hW1⟩ : ∃ W1, W1 = wr.alloc (.cells #[.int .u32 q0, .int .u8 q1, .int .u32 q2, .int .u32 q3, .int .u32 q4, .int .u32 q5, .int .u32 q6] 87) := ⟨_, rfl⟩
      obtain ⟨X, hX⟩ : ∃ X, X = wr.heap.size := ⟨_, rfl⟩
      rw [← hW1, ← hX]
      have hXB : Blk W1 X 87 #[.int .u32 q0, .int .u8 q1, .int .u32 q2, .int .u32 q3, .int .u32 q4, .int .u32 q5, .int .u32 q6] := by rw [hW1, hX]; exact Blk.new _ _ _
      have HOW1 : Hid (W1.ownsRow W.heap.size 61 7 (.slice A i c) i ((rs.take i).flatMap encRep)) := by rw [hW1]; exact Lib.hid (HOW.out.alloc _)
      have HBG1 : Hid (Blk W1 Gb 50 #[.int .i64 kk, .int .u32 m1, .int .u32 m2, .int .u64 m3, .int .u32 m4, .int .u32 m5, .int .u32 m6, .slice A i c, .slice wA wh.length wc, .slice none 0 0, .slice none 0 0, .int .u8 ty]) := by rw [hW1]; exact Lib.hid (HBG.out.alloc _)
      have HUR1 : Hid (Upd [Gb] W W1) := by rw [hW1]; exact Lib.hid (HUR.out.alloc _)
      have x0 : W1.cell? ⟨X, 0, none⟩ = some (.int .u32 q0) := hXB.cell 0
      have x1 : W1.cell? ⟨X, 1, none⟩ = some (.int .u8 q1) := hXB.cell 1
      have x2 : W1.cell? ⟨X, 2, none⟩ = some (.int .u32 q2) := hXB.cell 2
      have x3 : W1.cell? ⟨X, 3, none⟩ = some (.int .u32 q3) := hXB.cell 3
      have x4 : W1.cell? ⟨X, 4, none⟩ = some (.int .u32 q4) := hXB.cell 4
      have x5 : W1.cell? ⟨X, 5, none⟩ = some (.int .u32 q5) := hXB.cell 5
      have x6 : W1.cell? ⟨X, 6, none⟩ = some (.int .u32 q6) := hXB.cell 6
      have g7 : W1.cell? ⟨Gb, 7, none⟩ = some (.slice A i c) := HBG1.out.cell 7
      obtain ⟨ys, hys⟩ : ∃ ys, ys = (rs.take i).flatMap encRep := ⟨_, rfl⟩
      rw [← hys] at HOW1
      have HYS := Lib.hid hys
      have HOA := Lib.hid (HOW1.out.alloc (.cells #[.int .u32 q0, .int .u8 q1, .int .u32 q2, .int .u32 q3, .int .u32 q4, .int .u32 q5, .int .u32 q6] 61))
      have HNEW := Lib.hid (blk_src (Blk.new W1 61 #[.int .u32 q0, .int .u8 q1, .int .u32 q2, .int .u32 q3, .int .u32 q4, .int .u32 q5, .int .u32 q6]))
      have HONE : Hid (∀ u ∈ ([.int .u32 q0, .int .u8 q1, .int .u32 q2, .int .u32 q3, .int .u32 q4, .int .u32 q5, .int .u32 q6] : List Value), u.oneCell' = true) := Lib.hid (by intro u hu; repeat (first | (rcases List.mem_cons.1 hu with rfl | hu; · rfl) | cases hu))
      have HSZ : Hid (W.heap.size ≤ (W1.alloc (.cells #[.int .u32 q0, .int .u8 q1, .int .u32 q2, .int .u32 q3, .int .u32 q4, .int .u32 q5, .int .u32 q6] 61)).heap.size) := Lib.hid (HUR1.out.alloc (.cells #[.int .u32 q0, .int .u8 q1, .int .u32 q2, .int .u32 q3, .int .u32 q4, .int .u32 q5, .int .u32 q6] 61)).size
      clear hW1 hX hXB hys HOW HBG HUR c0 c1 c2 c3 c4 c5 c6 m7
      go_wp2_with (at_builtin; refine wpList_append_own_at _ rfl (.tmp 44) (.tmp 60) 45 rfl W.heap.size 61 j0 _ 7 28 Try.underlying45 hj0 hy0 hy1 hy2 rfl (by decide) (.slice A i c) i ys rfl HOA.out ⟨W1.heap.size, 0, none⟩ 1 1 [.int .u32 q0, .int .u8 q1, .int .u32 q2, .int .u32 q3, .int .u32 q4, .int .u32 q5, .int .u32 q6] rfl rfl HNEW.out HONE.out (by unfold maxLen; omega) (by omega) HSZ.out ?_)
      intro v8 w8 hown8 hg8 _ hat8
      obtain ⟨A8, c8, hv8, _⟩ := own_form hown8
      subst hv8
      have hbg8 : Blk w8 Gb 50 #[.int .i64 kk, .int .u32 m1, .int .u32 m2, .int .u64 m3, .int .u32 m4, .int .u32 m5, .int .u32 m6, .slice A i c, .slice wA wh.length wc, .slice none 0 0, .slice none 0 0, .int .u8 ty] := (HBG1.out.alloc _).upd (Upd.of_grown hg8) (fun hm => by have := (own_block_lt HOA.out (by simpa using hm)).1; have := HGLT.out; omega)
      have g8 : w8.cell? ⟨Gb, 7, none⟩ = some (.slice A i c) := hbg8.cell 7
      have f8 := hbg8.frozen 7
      have hu8 := app_upd (HUR1.out.alloc (.cells #[.int .u32 q0, .int .u8 q1, .int .u32 q2, .int .u32 q3, .int .u32 q4, .int .u32 q5, .int .u32 q6] 61)) HOA.out hg8 (Nat.le_refl _)
      have hbg9 := hbg8.store 7 (.slice A8 (i + 1) c8)
      have hu9 := hu8.setCell (p := ⟨Gb, 7, none⟩) (.inl (by simp)) (.slice A8 (i + 1) c8)
      have hown9 := ownsRow_setCell_other hown8 (a := ⟨Gb, 7, none⟩) (fun e => by have h1 : W.heap.size ≤ Gb := (own_block_lt hown8 e).1; have h2 := HGLT.out; omega) (.slice A8 (i + 1) c8)
      have hys9 : ys ++ [.int .u32 q0, .int .u8 q1, .int .u32 q2, .int .u32 q3, .int .u32 q4, .int .u32 q5, .int .u32 q6] = (rs.take (i + 1)).flatMap encRep := by
        rw [List.take_add_one, HQI.out, HYS.out]
        simp [encRep]
      rw [hys9] at hown9
      have HF := Lib.hid (And.intro hbg9 (And.intro hown9 hu9))
      clear hown8 hg8 hat8 hbg8 hu8 hbg9 hu9 hown9 hys9 HOA HNEW HBG1 HUR1 HOW1 x0 x1 x2 x3 x4 x5 x6 g7
      go_wp2
      go_roundg (gk - 1)
      case measure => omega
      case rel => exact ⟨i + 1, A8, c8, by omega, by omega, by go_num, HF.out⟩
    · obtain rfl : i = rs.length := by omega
      rw [List.take_length] at hown
      have HOR := Lib.hid hown
      have HBG := Lib.hid hbg
      have HUR := Lib.hid hu
      clear hown hbg hu hgi hi hlt
      obtain ⟨wa, rfl⟩ : ∃ wa : World, wa = wr := ⟨_, rfl⟩
      have HUWR := Lib.hid (HUW.out.next HUR.out)
      have HMR := Lib.hid (HMB.out.upd HUR.out (by simp; exact hMG))
      have HGR : Hid (Gb < wa.heap.size) := Lib.hid HBG.out.lt
      go_wp2
      go_loopg [6] ps.length (fun gk x6 wr => ∃ (i : Nat) (A2 : Option Addr) (c2 : Nat), i ≤ ps.length ∧ ps.length ≤ i + gk ∧ x6 = .int .i64 i ∧ Blk wr Gb 50 #[.int .i64 kk, .int .u32 m1, .int .u32 m2, .int .u64 m3, .int .u32 m4, .int .u32 m5, .int .u32 m6, .slice A rs.length c, .slice wA wh.length wc, .slice A2 i c2, .slice none 0 0, .int .u8 ty] ∧ wr.ownsRow wa.heap.size 89 2 (.slice A2 i c2) i ((ps.take i).flatMap encP2) ∧ Upd [Gb] wa wr)
      case atStart => exact ⟨0, none, 0, Nat.zero_le _, by omega, rfl, HBG.out, World.ownsRow_nil _ _ _ _, Upd.refl _ _⟩
      case round =>
        obtain ⟨i, A2, c2, hi, hgi, rfl, hbg, hown, hu⟩ := hrel
        have m9 : wr.cell? ⟨Mb, 9, none⟩ = some (.slice pA ps.length pc) := (HMR.out.upd hu (by simp; exact hMG)).cell 9
        by_cases hlt : i < ps.length
        · obtain ⟨q, hqi⟩ : ∃ p, ps[i]? = some p := ⟨_, List.getElem?_eq_getElem hlt⟩
          have hqn := HPN.out q (List.mem_of_getElem? hqi)
          have huw := HUWR.out.next hu
          have hcr := HIN.out.cp.upd huw (Nat.le_refl _) (by intro s hs; rw [List.mem_singleton] at hs; subst hs; exact .inr HGW.out)
          obtain ⟨b, off, rfl, hb1, hb2, hcc⟩ := hcr.2 (by dsimp only; omega)
          have c0 := hcc (i * 2 + 0) _ (flat_get encPair_len ps i 0 q hqi (by omega))
          have c1 := hcc (i * 2 + 1) _ (flat_get encPair_len ps i 1 q hqi (by omega))
          obtain ⟨q0, q1⟩ := q
          obtain ⟨⟨a0, b0⟩, ⟨a1, b1⟩⟩ := hqn
          dsimp only at a0 b0 a1 b1
          simp only [← Nat.add_assoc, Nat.add_zero] at c0 c1
          have hlti : (i : Int) < (ps.length : Int) := by omega
          have hw : IntKind.i64.wrap ((i : Int) + 1) = (i : Int) + 1 := IntWalk.i64_in _ (by omega)
          have hw0 : IntKind.i64.wrap q0 = q0 := IntWalk.i64_in _ (by omega)
          have hw1 : IntKind.i64.wrap q1 = q1 := IntWalk.i64_in _ (by omega)
          have g9 : wr.cell? ⟨Gb, 9, none⟩ = some (.slice A2 i c2) := hbg.cell 9
          have g9a : (wr.alloc (.cells #[.int .i64 q0, .int .i64 q1] 89)).cell? ⟨Gb, 9, none⟩ = some (.slice A2 i c2) := (hbg.alloc _).cell 9
          have g9b : (wr.alloc (.cells #[.int .i64 q0, .int .i64 q1] 89)).drew.cell? ⟨Gb, 9, none⟩ = some (.slice A2 i c2) := g9a
          have HBGa : Hid (Blk (wr.alloc (.cells #[.int .i64 q0, .int .i64 q1] 89)).drew Gb 50 #[.int .i64 kk, .int .u32 m1, .int .u32 m2, .int .u64 m3, .int .u32 m4, .int .u32 m5, .int .u32 m6, .slice A rs.length c, .slice wA wh.length wc, .slice A2 i c2, .slice none 0 0, .int .u8 ty]) := Lib.hid ((hbg.alloc _).drewN 1)
          have HURa := Lib.hid ((hu.alloc (.cells #[.int .i64 q0, .int .i64 q1] 89)).drewN 1)
          obtain ⟨ys, hys⟩ : ∃ ys, ys = (ps.take i).flatMap encP2 := ⟨_, rfl⟩
          rw [← hys] at hown
          have HYS := Lib.hid hys
          have HOA := Lib.hid ((hown.alloc (.cells #[.int .i64 q0, .int .i64 q1] 89)).drew)
          have HNEW : Hid (Blk (wr.alloc (.cells #[.int .i64 q0, .int .i64 q1] 89)).drew wr.heap.size 89 #[.int .i64 q0, .int .i64 q1]) := Lib.hid ((Blk.new wr 89 #[.int .i64 q0, .int .i64 q1]).drewN 1)
          have HONE : Hid (∀ u ∈ ([.int .i64 q0, .int .i64 q1] : List Value), u.oneCell' = true) := Lib.hid (by intro u hu; repeat (first | (rcases List.mem_cons.1 hu with rfl | hu; · rfl) | cases hu))
          have HSZ : Hid (wa.heap.size ≤ (wr.alloc (.cells #[.int .i64 q0, .int .i64 q1] 89)).drew.heap.size) := Lib.hid ((hu.alloc (.cells #[.int .i64 q0, .int .i64 q1] 89)).drewN 1).size
          have HQI := Lib.hid hqi
          clear hcc hown hu hbg hqi huw hcr hb1 hb2 hys
          go_upto_region 10 with fail
          go_region_law
            ((refine step_append_src _ (by rfl) (.tmp 71) (.tmp 87) 47 (by rfl) wa.heap.size 89 j1 _ 2 16 Try.underlying47 hj1 hz0 hz1 hz2 rfl (by decide) (.slice A2 i c2) i ys (by rfl) HOA.out (some ⟨wr.heap.size, 0, none⟩) 1 1 [.int .i64 q0, .int .i64 q1] (by rfl) (fun e => by cases e) rfl (fun ad had => by cases had; exact blk_src HNEW.out) HONE.out (by unfold maxLen; omega) (by omega) HSZ.out ?_; intro v8 w8 hown8 hg8 hat8; have hbg8 := HBGa.out.upd (Upd.of_grown hg8) (fun hm => by have h1 := (own_block_lt HOA.out (by simpa using hm)).1; have h2 := HGR.out; omega); have g8 : w8.cell? ⟨Gb, 9, none⟩ = some (.slice A2 i c2) := hbg8.cell 9; have f8 := hbg8.frozen 9; have HU8 := Lib.hid (app_upd HURa.out HOA.out hg8 (Nat.le_refl _)); have HBG8 := Lib.hid hbg8; obtain ⟨A8, c8, hv8, _⟩ := own_form hown8; subst hv8; have HO8 := Lib.hid hown8; clear hown8 hg8 hat8 hbg8))
          all_goals
            go_wp2
            go_roundg (gk - 1)
            case measure => omega
            case rel =>
              have hys9 : ys ++ [.int .i64 q0, .int .i64 q1] = (ps.take (i + 1)).flatMap encP2 := by
                rw [List.take_add_one, HQI.out, HYS.out]
                simp [encP2]
              have hown9 := ownsRow_setCell_other HO8.out (a := ⟨Gb, 9, none⟩) (fun e => by have h1 : wa.heap.size ≤ Gb := (own_block_lt HO8.out e).1; have h2 := HGR.out; omega) (.slice A8 (i + 1) c8)
              rw [hys9] at hown9
              exact ⟨i + 1, A8, c8, by omega, by omega, by go_num, HBG8.out.store 9 (.slice A8 (i + 1) c8), hown9, HU8.out.setCell (p := ⟨Gb, 9, none⟩) (.inl (by simp)) (.slice A8 (i + 1) c8)⟩
        · obtain rfl : i = ps.length := by omega
          rw [List.take_length] at hown
          have HOP := Lib.hid hown
          have HBG2 := Lib.hid hbg
          have HUX := Lib.hid hu
          clear hown hbg hu hgi hi hlt
          obtain ⟨wb, rfl⟩ : ∃ wb : World, wb = wr := ⟨_, rfl⟩
          have HUWQ := Lib.hid (HUWR.out.next HUX.out)
          have HMQ := Lib.hid (HMR.out.upd HUX.out (by simp; exact hMG))
          have HGQ : Hid (Gb < wb.heap.size) := Lib.hid HBG2.out.lt
          go_wp2
          go_loopg [7] qs.length (fun gk x7 wr => ∃ (i : Nat) (A3 : Option Addr) (c3 : Nat), i ≤ qs.length ∧ qs.length ≤ i + gk ∧ x7 = .int .i64 i ∧ Blk wr Gb 50 #[.int .i64 kk, .int .u32 m1, .int .u32 m2, .int .u64 m3, .int .u32 m4, .int .u32 m5, .int .u32 m6, .slice A rs.length c, .slice wA wh.length wc, .slice A2 ps.length c2, .slice A3 i c3, .int .u8 ty] ∧ wr.ownsRow wb.heap.size 92 2 (.slice A3 i c3) i ((qs.take i).flatMap encAsk) ∧ Upd [Gb] wb wr)
          case atStart => exact ⟨0, none, 0, Nat.zero_le _, by omega, rfl, HBG2.out, World.ownsRow_nil _ _ _ _, Upd.refl _ _⟩
          case round =>
            obtain ⟨i, A3, c3, hi, hgi, rfl, hbg, hown, hu⟩ := hrel
            have m9 : wr.cell? ⟨Mb, 10, none⟩ = some (.slice aA qs.length ac) := (HMQ.out.upd hu (by simp; exact hMG)).cell 10
            by_cases hlt : i < qs.length
            · obtain ⟨q, hqi⟩ : ∃ p, qs[i]? = some p := ⟨_, List.getElem?_eq_getElem hlt⟩
              have huw := HUWQ.out.next hu
              have hcr := HIN.out.ca.upd huw (Nat.le_refl _) (by intro s hs; rw [List.mem_singleton] at hs; subst hs; exact .inr HGW.out)
              obtain ⟨b, off, rfl, hb1, hb2, hcc⟩ := hcr.2 (by dsimp only; omega)
              have c0 := hcc (i * 2 + 0) _ (flat_get encAsk_len qs i 0 q hqi (by omega))
              have c1 := hcc (i * 2 + 1) _ (flat_get encAsk_len qs i 1 q hqi (by omega))
              obtain ⟨q0, q1⟩ := q
              simp only [← Nat.add_assoc, Nat.add_zero] at c0 c1
              have hlti : (i : Int) < (qs.length : Int) := by omega
              have hw : IntKind.i64.wrap ((i : Int) + 1) = (i : Int) + 1 := IntWalk.i64_in _ (by omega)
              have g9 : wr.cell? ⟨Gb, 10, none⟩ = some (.slice A3 i c3) := hbg.cell 10
              have g9a : (wr.alloc (.cells #[.int .u32 q0, .int .u8 q1] 92)).cell? ⟨Gb, 10, none⟩ = some (.slice A3 i c3) := (hbg.alloc _).cell 10
              have g9b : (wr.alloc (.cells #[.int .u32 q0, .int .u8 q1] 92)).drew.cell? ⟨Gb, 10, none⟩ = some (.slice A3 i c3) := g9a
              have HBGa : Hid (Blk (wr.alloc (.cells #[.int .u32 q0, .int .u8 q1] 92)).drew Gb 50 #[.int .i64 kk, .int .u32 m1, .int .u32 m2, .int .u64 m3, .int .u32 m4, .int .u32 m5, .int .u32 m6, .slice A rs.length c, .slice wA wh.length wc, .slice A2 ps.length c2, .slice A3 i c3, .int .u8 ty]) := Lib.hid ((hbg.alloc _).drewN 1)
              have HURa := Lib.hid ((hu.alloc (.cells #[.int .u32 q0, .int .u8 q1] 92)).drewN 1)
              obtain ⟨ys, hys⟩ : ∃ ys, ys = (qs.take i).flatMap encAsk := ⟨_, rfl⟩
              rw [← hys] at hown
              have HYS := Lib.hid hys
              have HOA := Lib.hid ((hown.alloc (.cells #[.int .u32 q0, .int .u8 q1] 92)).drew)
              have HNEW : Hid (Blk (wr.alloc (.cells #[.int .u32 q0, .int .u8 q1] 92)).drew wr.heap.size 92 #[.int .u32 q0, .int .u8 q1]) := Lib.hid ((Blk.new wr 92 #[.int .u32 q0, .int .u8 q1]).drewN 1)
              have HONE : Hid (∀ u ∈ ([.int .u32 q0, .int .u8 q1] : List Value), u.oneCell' = true) := Lib.hid (by intro u hu; repeat (first | (rcases List.mem_cons.1 hu with rfl | hu; · rfl) | cases hu))
              have HSZ : Hid (wb.heap.size ≤ (wr.alloc (.cells #[.int .u32 q0, .int .u8 q1] 92)).drew.heap.size) := Lib.hid ((hu.alloc (.cells #[.int .u32 q0, .int .u8 q1] 92)).drewN 1).size
              have HQI := Lib.hid hqi
              clear hcc hown hu hbg hqi huw hcr hb1 hb2 hys
              go_upto_region 14 with fail
              go_region_law
                ((refine step_append_src _ (by rfl) (.tmp 98) (.tmp 112) 48 (by rfl) wb.heap.size 92 j2 _ 2 8 Try.underlying48 hj2 hx0 hx1 hx2 rfl (by decide) (.slice A3 i c3) i ys (by rfl) HOA.out (some ⟨wr.heap.size, 0, none⟩) 1 1 [.int .u32 q0, .int .u8 q1] (by rfl) (fun e => by cases e) rfl (fun ad had => by cases had; exact blk_src HNEW.out) HONE.out (by unfold maxLen; omega) (by omega) HSZ.out ?_; intro v8 w8 hown8 hg8 hat8; have hbg8 := HBGa.out.upd (Upd.of_grown hg8) (fun hm => by have h1 := (own_block_lt HOA.out (by simpa using hm)).1; have h2 := HGQ.out; omega); have g8 : w8.cell? ⟨Gb, 10, none⟩ = some (.slice A3 i c3) := hbg8.cell 10; have f8 := hbg8.frozen 10; have HU8 := Lib.hid (app_upd HURa.out HOA.out hg8 (Nat.le_refl _)); have HBG8 := Lib.hid hbg8; obtain ⟨A8, c8, hv8, _⟩ := own_form hown8; subst hv8; have HO8 := Lib.hid hown8; clear hown8 hg8 hat8 hbg8))
              all_goals
                go_wp2
                go_roundg (gk - 1)
                case measure => omega
                case rel =>
                  have hys9 : ys ++ [.int .u32 q0, .int .u8 q1] = (qs.take (i + 1)).flatMap encAsk := by
                    rw [List.take_add_one, HQI.out, HYS.out]
                    simp [encAsk]
                  have hown9 := ownsRow_setCell_other HO8.out (a := ⟨Gb, 10, none⟩) (fun e => by have h1 : wb.heap.size ≤ Gb := (own_block_lt HO8.out e).1; have h2 := HGQ.out; omega) (.slice A8 (i + 1) c8)
                  rw [hys9] at hown9
                  exact ⟨i + 1, A8, c8, by omega, by omega, by go_num, HBG8.out.store 10 (.slice A8 (i + 1) c8), hown9, HU8.out.setCell (p := ⟨Gb, 10, none⟩) (.inl (by simp)) (.slice A8 (i + 1) c8)⟩
            · obtain rfl : i = qs.length := by omega
              rw [List.take_length] at hown
              have hrr := ((HRB.out.upd HUR.out (by simp; exact hRG)).upd HUX.out (by simp; exact hRG)).upd hu (by simp; exact hRG)
              have v0 : wr.cell? ⟨Gb, 0, none⟩ = some (.int .i64 kk) := hbg.cell 0
              have r0 : wr.cell? ⟨Rb, 0, none⟩ = some (.int .i64 0) := hrr.cell 0
              have f0 := hrr.frozen 0
              have v1 : wr.cell? ⟨Gb, 1, none⟩ = some (.int .u32 m1) := hbg.cell 1
              have r1 : wr.cell? ⟨Rb, 1, none⟩ = some (.int .u32 0) := hrr.cell 1
              have f1 := hrr.frozen 1
              have v2 : wr.cell? ⟨Gb, 2, none⟩ = some (.int .u32 m2) := hbg.cell 2
              have r2 : wr.cell? ⟨Rb, 2, none⟩ = some (.int .u32 0) := hrr.cell 2
              have f2 := hrr.frozen 2
              have v3 : wr.cell? ⟨Gb, 3, none⟩ = some (.int .u64 m3) := hbg.cell 3
              have r3 : wr.cell? ⟨Rb, 3, none⟩ = some (.int .u64 0) := hrr.cell 3
              have f3 := hrr.frozen 3
              have v4 : wr.cell? ⟨Gb, 4, none⟩ = some (.int .u32 m4) := hbg.cell 4
              have r4 : wr.cell? ⟨Rb, 4, none⟩ = some (.int .u32 0) := hrr.cell 4
              have f4 := hrr.frozen 4
              have v5 : wr.cell? ⟨Gb, 5, none⟩ = some (.int .u32 m5) := hbg.cell 5
              have r5 : wr.cell? ⟨Rb, 5, none⟩ = some (.int .u32 0) := hrr.cell 5
              have f5 := hrr.frozen 5
              have v6 : wr.cell? ⟨Gb, 6, none⟩ = some (.int .u32 m6) := hbg.cell 6
              have r6 : wr.cell? ⟨Rb, 6, none⟩ = some (.int .u32 0) := hrr.cell 6
              have f6 := hrr.frozen 6
              have v7 : wr.cell? ⟨Gb, 7, none⟩ = some (.slice A rs.length c) := hbg.cell 7
              have r7 : wr.cell? ⟨Rb, 7, none⟩ = some (.slice none 0 0) := hrr.cell 7
              have f7 := hrr.frozen 7
              have v8 : wr.cell? ⟨Gb, 8, none⟩ = some (.slice wA wh.length wc) := hbg.cell 8
              have r8 : wr.cell? ⟨Rb, 8, none⟩ = some (.slice none 0 0) := hrr.cell 8
              have f8 := hrr.frozen 8
              have v9 : wr.cell? ⟨Gb, 9, none⟩ = some (.slice A2 ps.length c2) := hbg.cell 9
              have r9 : wr.cell? ⟨Rb, 9, none⟩ = some (.slice none 0 0) := hrr.cell 9
              have f9 := hrr.frozen 9
              have v10 : wr.cell? ⟨Gb, 10, none⟩ = some (.slice A3 qs.length c3) := hbg.cell 10
              have r10 : wr.cell? ⟨Rb, 10, none⟩ = some (.slice none 0 0) := hrr.cell 10
              have f10 := hrr.frozen 10
              have v11 : wr.cell? ⟨Gb, 11, none⟩ = some (.int .u8 ty) := hbg.cell 11
              have r11 : wr.cell? ⟨Rb, 11, none⟩ = some (.int .u8 0) := hrr.cell 11
              have f11 := hrr.frozen 11
              have HUE := Lib.hid (HU.out.trans ((HUR.out.next HUX.out).next hu) (fun t ht => .inr (by rw [List.mem_singleton] at ht; subst ht; exact HGW.out)))
              have hgl := HGLT.out
              have hrl := HRB.out.lt
              have HO1 := Lib.hid (ownsRow_upd (ownsRow_upd HOR.out HUX.out (fun s hs e => by rw [List.mem_singleton] at hs; subst hs; have := (own_block_lt HOR.out e).1; omega)) hu (fun s hs e => by rw [List.mem_singleton] at hs; subst hs; have := (own_block_lt HOR.out e).1; omega))
              have HO2 := Lib.hid (ownsRow_upd HOP.out hu (fun s hs e => by rw [List.mem_singleton] at hs; subst hs; have := (own_block_lt HOP.out e).1; have := HUR.out.size; omega))
              have HO3 := Lib.hid hown
              have HRL := Lib.hid (And.intro hrl (And.intro HUR.out.size HUX.out.size))
              clear hown hbg hu hgi hi hlt hrr hgl hrl
              go_wp2
              refine bodyPost_res (v := .agg #[.int .i64 kk, .int .u32 m1, .int .u32 m2, .int .u64 m3, .int .u32 m4, .int .u32 m5, .int .u32 m6, .slice A rs.length c, .slice wA wh.length wc, .slice A2 ps.length c2, .slice A3 qs.length c3, .int .u8 ty]) (by simp [results, Try.results20, go_sem, r0, r1, r2, r3, r4, r5, r6, r7, r8, r9, r10, r11]) rfl ⟨⟨A, c, wA, wc, A2, c2, A3, c3⟩, rfl, ?_, rfl, set12_upd _ _ _ _ _ _ _ _ _ _ _ _ _ HUE.out (.inr HRW.out)⟩
              exact of_fin (set12_upd (S := [Rb]) _ _ _ _ _ _ _ _ _ _ _ _ _ (Upd.refl _ _) (.inl (by simp))) HRL.out.1 HRL.out.2.1 HRL.out.2.2 HO1.out HO2.out HO3.out (HIN.out.cw.below (HUE.out.below (Nat.le_refl _) (by simp)) (Nat.le_refl _)) HUE.out.size HRW.out HU.out.size
end Go.Proofs.Ytgkejdjdccgjbaa
/- A body's message by the document (louverref09.read). Conditions: bytes. -/
namespace Go.Proofs.Ytgkejdjdccgjbaa
open Go Go.RowKit
set_option maxHeartbeats 400000
theorem own_listN (A : Option Addr) (n c : Nat) : (Value.slice A n c).ownBlock.toList = A.toList.map (·.block) := by cases A <;> rfl
theorem dnumatc_any (w : World) (xs : List Int) (k n : Nat) (h1 : 1 ≤ n) (h8 : n ≤ 8) (hn : 4 * k + n ≤ xs.length) (hb : Byt xs) (hl : xs.length ≤ 9223372036854775807) :
    Calls Try.prog 31 #[.string (strOfNums xs), .int .i64 (4 * (k : Int)), .int .i64 n] w fun e w' => e = .returned (.int .u64 (nAt xs (4 * k) n)) ∧ Upd [] w w' := by
  have h := dnumat_any w xs (4 * k) n h1 h8 hn hb hl
  rwa [show ((4 * k : Nat) : Int) = 4 * (k : Int) by omega] at h
theorem nAt_one {xs : List Int} {k : Nat} {x : Int} (h : xs[k]? = some x) : x = nAt xs k 1 := by
  obtain ⟨hi, rfl⟩ := List.getElem?_eq_some_iff.1 h
  unfold nAt
  rw [List.drop_eq_getElem_cons hi, List.take_succ_cons, List.take_zero]
  simp [numOf]
theorem dnumatp_any (w : World) (xs : List Int) (k a n : Nat) (h1 : 1 ≤ n) (h8 : n ≤ 8) (hn : k + a + n ≤ xs.length) (hb : Byt xs) (hl : xs.length ≤ 9223372036854775807) :
    Calls Try.prog 31 #[.string (strOfNums xs), .int .i64 ((k : Int) + a), .int .i64 n] w fun e w' => e = .returned (.int .u64 (nAt xs (k + a) n)) ∧ Upd [] w w' := by
  have h := dnumat_any w xs (k + a) n h1 h8 hn hb hl
  rwa [show ((k + a : Nat) : Int) = (k : Int) + a by omega] at h
/-- the row of numbers of a message is new -/
def WhoNew (N : Nat) (m : Mg) (h : Hd) : Prop := ∀ a, h.wA = some a → 0 < m.who.length → N ≤ a.block
theorem whoNew_nil {N : Nat} {m : Mg} {h : Hd} (e : m.who = []) : WhoNew N m h := fun a _ hn => absurd hn (by rw [e]; exact Nat.lt_irrefl 0)
theorem Upd.box' {w W w' : World} {g : Nat} (u : Upd [] w W) (h : Upd [g] W w') (hg : w.heap.size ≤ g) : Upd [] w w' :=
  Upd.of_below ((u.below (Nat.le_refl _) (by simp)).trans (h.below u.size (fun s hs => by rw [List.mem_singleton] at hs; omega)))
theorem nAt_lt {xs : List Int} (h : Byt xs) (k n : Nat) (b : Int) (hb : (256 : Int) ^ n ≤ b + 1) : 0 ≤ nAt xs k n ∧ nAt xs k n ≤ b := by
  have h1 := numOf_lt ((xs.drop k).take n) (fun y hy => h y (List.mem_of_mem_drop (List.mem_of_mem_take hy)))
  have h2 : (256 : Int) ^ ((xs.drop k).take n).length ≤ 256 ^ n := pow256 (by rw [List.length_take]; omega)
  unfold nAt
  omega
theorem blk12 {w : World} {R : Nat} {e : TypeId} {c0 c1 c2 c3 c4 c5 c6 c7 c8 c9 c10 c11 : Value} (h : Blk w R e #[c0, c1, c2, c3, c4, c5, c6, c7, c8, c9, c10, c11]) (v0 v1 v2 v3 v4 v5 v6 v7 v8 v9 v10 v11 : Value) :
    Blk ((((((((((((w.setCell ⟨R, 0, none⟩ (v0)).setCell ⟨R, 1, none⟩ (v1)).setCell ⟨R, 2, none⟩ (v2)).setCell ⟨R, 3, none⟩ (v3)).setCell ⟨R, 4, none⟩ (v4)).setCell ⟨R, 5, none⟩ (v5)).setCell ⟨R, 6, none⟩ (v6)).setCell ⟨R, 7, none⟩ (v7)).setCell ⟨R, 8, none⟩ (v8)).setCell ⟨R, 9, none⟩ (v9)).setCell ⟨R, 10, none⟩ (v10)).setCell ⟨R, 11, none⟩ (v11)) R e #[v0, v1, v2, v3, v4, v5, v6, v7, v8, v9, v10, v11] ∧ Upd [R] w ((((((((((((w.setCell ⟨R, 0, none⟩ (v0)).setCell ⟨R, 1, none⟩ (v1)).setCell ⟨R, 2, none⟩ (v2)).setCell ⟨R, 3, none⟩ (v3)).setCell ⟨R, 4, none⟩ (v4)).setCell ⟨R, 5, none⟩ (v5)).setCell ⟨R, 6, none⟩ (v6)).setCell ⟨R, 7, none⟩ (v7)).setCell ⟨R, 8, none⟩ (v8)).setCell ⟨R, 9, none⟩ (v9)).setCell ⟨R, 10, none⟩ (v10)).setCell ⟨R, 11, none⟩ (v11)) := by
  have u0 := Upd.refl [R] w
  obtain ⟨w1, hw1⟩ : ∃ x, x = w.setCell ⟨R, 0, none⟩ v0 := ⟨_, rfl⟩
  have h : Blk w1 R e #[v0, c1, c2, c3, c4, c5, c6, c7, c8, c9, c10, c11] := by rw [hw1]; exact h.store 0 v0
  have u0 : Upd [R] w w1 := by rw [hw1]; exact u0.setCell (p := ⟨R, 0, none⟩) (.inl (by simp)) _
  rw [← hw1]
  obtain ⟨w2, hw2⟩ : ∃ x, x = w1.setCell ⟨R, 1, none⟩ v1 := ⟨_, rfl⟩
  have h : Blk w2 R e #[v0, v1, c2, c3, c4, c5, c6, c7, c8, c9, c10, c11] := by rw [hw2]; exact h.store 1 v1
  have u0 : Upd [R] w w2 := by rw [hw2]; exact u0.setCell (p := ⟨R, 1, none⟩) (.inl (by simp)) _
  rw [← hw2]
  obtain ⟨w3, hw3⟩ : ∃ x, x = w2.setCell ⟨R, 2, none⟩ v2 := ⟨_, rfl⟩
  have h : Blk w3 R e #[v0, v1, v2, c3, c4, c5, c6, c7, c8, c9, c10, c11] := by rw [hw3]; exact h.store 2 v2
  have u0 : Upd [R] w w3 := by rw [hw3]; exact u0.setCell (p := ⟨R, 2, none⟩) (.inl (by simp)) _
  rw [← hw3]
  obtain ⟨w4, hw4⟩ : ∃ x, x = w3.setCell ⟨R, 3, none⟩ v3 := ⟨_, rfl⟩
  have h : Blk w4 R e #[v0, v1, v2, v3, c4, c5, c6, c7, c8, c9, c10, c11] := by rw [hw4]; exact h.store 3 v3
  have u0 : Upd [R] w w4 := by rw [hw4]; exact u0.setCell (p := ⟨R, 3, none⟩) (.inl (by simp)) _
  rw [← hw4]
  obtain ⟨w5, hw5⟩ : ∃ x, x = w4.setCell ⟨R, 4, none⟩ v4 := ⟨_, rfl⟩
  have h : Blk w5 R e #[v0, v1, v2, v3, v4, c5, c6, c7, c8, c9, c10, c11] := by rw [hw5]; exact h.store 4 v4
  have u0 : Upd [R] w w5 := by rw [hw5]; exact u0.setCell (p := ⟨R, 4, none⟩) (.inl (by simp)) _
  rw [← hw5]
  obtain ⟨w6, hw6⟩ : ∃ x, x = w5.setCell ⟨R, 5, none⟩ v5 := ⟨_, rfl⟩
  have h : Blk w6 R e #[v0, v1, v2, v3, v4, v5, c6, c7, c8, c9, c10, c11] := by rw [hw6]; exact h.store 5 v5
  have u0 : Upd [R] w w6 := by rw [hw6]; exact u0.setCell (p := ⟨R, 5, none⟩) (.inl (by simp)) _
  rw [← hw6]
  obtain ⟨w7, hw7⟩ : ∃ x, x = w6.setCell ⟨R, 6, none⟩ v6 := ⟨_, rfl⟩
  have h : Blk w7 R e #[v0, v1, v2, v3, v4, v5, v6, c7, c8, c9, c10, c11] := by rw [hw7]; exact h.store 6 v6
  have u0 : Upd [R] w w7 := by rw [hw7]; exact u0.setCell (p := ⟨R, 6, none⟩) (.inl (by simp)) _
  rw [← hw7]
  obtain ⟨w8, hw8⟩ : ∃ x, x = w7.setCell ⟨R, 7, none⟩ v7 := ⟨_, rfl⟩
  have h : Blk w8 R e #[v0, v1, v2, v3, v4, v5, v6, v7, c8, c9, c10, c11] := by rw [hw8]; exact h.store 7 v7
  have u0 : Upd [R] w w8 := by rw [hw8]; exact u0.setCell (p := ⟨R, 7, none⟩) (.inl (by simp)) _
  rw [← hw8]
  obtain ⟨w9, hw9⟩ : ∃ x, x = w8.setCell ⟨R, 8, none⟩ v8 := ⟨_, rfl⟩
  have h : Blk w9 R e #[v0, v1, v2, v3, v4, v5, v6, v7, v8, c9, c10, c11] := by rw [hw9]; exact h.store 8 v8
  have u0 : Upd [R] w w9 := by rw [hw9]; exact u0.setCell (p := ⟨R, 8, none⟩) (.inl (by simp)) _
  rw [← hw9]
  obtain ⟨w10, hw10⟩ : ∃ x, x = w9.setCell ⟨R, 9, none⟩ v9 := ⟨_, rfl⟩
  have h : Blk w10 R e #[v0, v1, v2, v3, v4, v5, v6, v7, v8, v9, c10, c11] := by rw [hw10]; exact h.store 9 v9
  have u0 : Upd [R] w w10 := by rw [hw10]; exact u0.setCell (p := ⟨R, 9, none⟩) (.inl (by simp)) _
  rw [← hw10]
  obtain ⟨w11, hw11⟩ : ∃ x, x = w10.setCell ⟨R, 10, none⟩ v10 := ⟨_, rfl⟩
  have h : Blk w11 R e #[v0, v1, v2, v3, v4, v5, v6, v7, v8, v9, v10, c11] := by rw [hw11]; exact h.store 10 v10
  have u0 : Upd [R] w w11 := by rw [hw11]; exact u0.setCell (p := ⟨R, 10, none⟩) (.inl (by simp)) _
  rw [← hw11]
  obtain ⟨w12, hw12⟩ : ∃ x, x = w11.setCell ⟨R, 11, none⟩ v11 := ⟨_, rfl⟩
  have h : Blk w12 R e #[v0, v1, v2, v3, v4, v5, v6, v7, v8, v9, v10, v11] := by rw [hw12]; exact h.store 11 v11
  have u0 : Upd [R] w w12 := by rw [hw12]; exact u0.setCell (p := ⟨R, 11, none⟩) (.inl (by simp)) _
  rw [← hw12]
  exact ⟨h, u0⟩
theorem blk12g {w : World} {R : Nat} {e : TypeId} {c0 c1 c2 c3 c4 c5 c6 c7 c8 c9 c10 c11 : Value} (h : Blk w R e #[c0, c1, c2, c3, c4, c5, c6, c7, c8, c9, c10, c11]) (v0 v1 v2 v3 v4 v5 v6 v7 v8 v9 v10 v11 : Value) :
    Blk ((((((((((((w.setCell ⟨R, 0, none⟩ (v0)).setCell ⟨R, 1, none⟩ (v1)).setCell ⟨R, 2, none⟩ (v2)).setCell ⟨R, 3, none⟩ (v3)).setCell ⟨R, 4, none⟩ (v4)).setCell ⟨R, 5, none⟩ (v5)).setCell ⟨R, 6, none⟩ (v6)).setCell ⟨R, 7, none⟩ (v7)).setCell ⟨R, 8, none⟩ (v8)).setCell ⟨R, 9, none⟩ (v9)).setCell ⟨R, 10, none⟩ (v10)).setCell ⟨R, 11, none⟩ (v11)) R e #[v0, v1, v2, v3, v4, v5, v6, v7, v8, v9, v10, v11] ∧ Upd [R] w ((((((((((((w.setCell ⟨R, 0, none⟩ (v0)).setCell ⟨R, 1, none⟩ (v1)).setCell ⟨R, 2, none⟩ (v2)).setCell ⟨R, 3, none⟩ (v3)).setCell ⟨R, 4, none⟩ (v4)).setCell ⟨R, 5, none⟩ (v5)).setCell ⟨R, 6, none⟩ (v6)).setCell ⟨R, 7, none⟩ (v7)).setCell ⟨R, 8, none⟩ (v8)).setCell ⟨R, 9, none⟩ (v9)).setCell ⟨R, 10, none⟩ (v10)).setCell ⟨R, 11, none⟩ (v11)) := blk12 h v0 v1 v2 v3 v4 v5 v6 v7 v8 v9 v10 v11
end Go.Proofs.Ytgkejdjdccgjbaa
