/- A message's bytes: their shape. Plain laws, no program in sight. -/
import Derived.Test.YtgkejdjdccgjbaaFew
namespace Go.Proofs.Ytgkejdjdccgjbaa
open Go Go.RowKit
set_option maxHeartbeats 400000

theorem be_byt (x : Int) (n : Nat) : Byt (be x n) := by
  intro b hb
  obtain ⟨i, _, rfl⟩ := List.mem_map.1 hb
  exact ⟨Int.emod_nonneg _ (by decide), by have := Int.emod_lt_of_pos (x / 2 ^ (8 * (n - 1 - i))) (show (0 : Int) < 256 by decide); omega⟩
theorem bytesOf_byt (ps : List (Int × Nat)) : Byt (bytesOf ps) := by
  intro b hb
  obtain ⟨p, _, hp⟩ := List.mem_flatMap.1 hb
  exact be_byt _ _ b hp
def sz (ps : List (Int × Nat)) : Nat := (ps.map (·.2)).sum
theorem bytesOf_sz (ps : List (Int × Nat)) : (bytesOf ps).length = sz ps := by
  induction ps with
  | nil => rfl
  | cons p ps ih =>
    unfold bytesOf sz at ih ⊢
    rw [List.flatMap_cons, List.length_append, be_length, ih, List.map_cons, List.sum_cons]
theorem sz_app (a b : List (Int × Nat)) : sz (a ++ b) = sz a + sz b := by simp [sz]
theorem sz_flat {α : Type} (f : α → List (Int × Nat)) (k : Nat) (hf : ∀ z, sz (f z) = k) (l : List α) : sz (l.flatMap f) = k * l.length := by
  induction l with
  | nil => simp [sz]
  | cons z l ih => rw [List.flatMap_cons, sz_app, hf, ih, List.length_cons, Nat.mul_succ]; omega
theorem sz_who (l : List Int) : sz (l.map fun x => (x, 4)) = 4 * l.length := by
  induction l with
  | nil => rfl
  | cons z l ih =>
    unfold sz at ih ⊢
    simp only [List.map_cons, List.sum_cons, List.length_cons] at ih ⊢
    omega
theorem body_four (m : Mg) : (bytesOf (bodyM m).ps).length % 4 = 0 := by
  have h1 := sz_flat repParts 24 (fun _ => rfl) m.reports
  have h2 := sz_flat pairParts 4 (fun _ => rfl) m.pairs
  have h3 := sz_flat askParts 8 (fun _ => rfl) m.asks
  have h4 := sz_who m.who
  rw [bytesOf_sz]
  unfold bodyM
  split
  · dsimp only; rw [sz_app, h1]; simp [sz]; try omega
  split
  · dsimp only; rw [sz_app, h1]; simp [sz]; try omega
  split
  · dsimp only; rw [h4]; omega
  split
  · dsimp only; rw [sz_app, h2]; simp [sz]; try omega
  split
  · simp [sz]
  split
  · dsimp only; rw [sz_app, h3]; simp [sz]; try omega
  · rfl
theorem body_type {m : Mg} (h : (bodyM m).is = true) : 192 ≤ (bodyM m).t ∧ (bodyM m).t ≤ 223 := by
  unfold bodyM at h ⊢
  split
  · simp
  split
  · simp
  split
  · simp
  split
  · simp
  split
  · simp
  split
  · simp
  · simp_all
theorem msg_shape {m : Mg} (h : (bodyM m).is = true) : ∃ (n : Nat) (t : Int) (bs : List Int), msgB m = (128 + (n : Int)) :: t :: ((bs.length : Int) / 4 / 256 % 256) :: ((bs.length : Int) / 4 % 256) :: bs ∧ n ≤ 31 ∧ 192 ≤ t ∧ t ≤ 223 ∧ bs.length % 4 = 0 ∧ Byt bs :=
  ⟨(bodyM m).n, (bodyM m).t, bytesOf (bodyM m).ps, rfl, body_n h, (body_type h).1, (body_type h).2, body_four m, bytesOf_byt _⟩
theorem msgB_byt {m : Mg} (h : (bodyM m).is = true) : Byt (msgB m) := by
  obtain ⟨n, t, bs, e, hn, h1, h2, _, hb⟩ := msg_shape h
  rw [e]
  intro b hx
  simp only [List.mem_cons] at hx
  rcases hx with rfl | rfl | rfl | rfl | hx
  · omega
  · omega
  · exact ⟨by omega, by omega⟩
  · exact ⟨by omega, by omega⟩
  · exact hb b hx
theorem msgsB_byt {ms : List Mg} (h : ∀ m, m ∈ ms → (bodyM m).is = true) : Byt (ms.flatMap msgB) := by
  intro b hb
  obtain ⟨m, hm, hx⟩ := List.mem_flatMap.1 hb
  exact msgB_byt (h m hm) b hx
theorem isM_head {x0 x1 x2 x3 : Int} (h0 : 128 ≤ x0 ∧ x0 < 192) (h1 : 192 ≤ x1 ∧ x1 ≤ 223) : isM [x0, x1, x2, x3] = true := by simp [isM]; omega
/-- Put went well: each message may be put, and the bytes are theirs -/
theorem putM_ok {ms : List Mg} (h : (putM ms).2 = 0) : (∀ m, m ∈ ms → (bodyM m).is = true) ∧ (ms.flatMap msgB).length ≤ 1500 ∧ (putM ms).1 = ms.flatMap msgB := by
  unfold putM at h ⊢
  by_cases ha : (ms.all fun m => (bodyM m).is) = true
  · rw [if_pos ha] at h ⊢
    by_cases hb : 1500 < (ms.flatMap msgB).length
    · rw [if_pos hb] at h; simp at h
    · rw [if_neg hb]; exact ⟨fun m hm => List.all_eq_true.1 ha m hm, by omega, rfl⟩
  · rw [if_neg ha] at h; simp at h
theorem putM_of {ms : List Mg} (h1 : ∀ m, m ∈ ms → (bodyM m).is = true) (h2 : (ms.flatMap msgB).length ≤ 1500) : putM ms = (ms.flatMap msgB, 0) := by
  unfold putM
  rw [if_pos (List.all_eq_true.2 h1), if_neg (by omega)]
/-- Put went wrong: there are no bytes -/
theorem putM_no {ms : List Mg} (h : (putM ms).2 ≠ 0) : (putM ms).1 = [] := by
  unfold putM at h ⊢
  split at h
  · rename_i ha
    rw [if_pos ha]
    split at h
    · rename_i hb; rw [if_pos hb]
    · simp at h
  · rename_i ha
    rw [if_neg ha]
/-- numbers of their types, however many -/
structure Mg.Num (m : Mg) : Prop where
  ssrc : U32 m.ssrc
  media : U32 m.media
  clock : U64 m.clock
  time : U32 m.time
  packets : U32 m.packets
  bytes : U32 m.bytes
  reports : ∀ r, r ∈ m.reports → r.Ok
  who : ∀ x, x ∈ m.who → U32 x
  pairs : ∀ p, p ∈ m.pairs → U16 p.1 ∧ U16 p.2
  asks : ∀ p, p ∈ m.asks → U32 p.1 ∧ U8 p.2
  type : U8 m.type
theorem Mg.Num.ok {m : Mg} (h : m.Num) (hs : shortM m = true) : m.Ok := by
  simp only [shortM, Bool.and_eq_true, decide_eq_true_eq] at hs
  exact ⟨h.ssrc, h.media, h.clock, h.time, h.packets, h.bytes, h.reports, h.who, h.pairs, h.asks, h.type, by omega, by omega, by omega, by omega⟩
theorem fewM_ok {ms : List (Mg × Hd)} (h : fewM (ms.map (·.1)) = true) (hn : ∀ x, x ∈ ms → x.1.Num) : (∀ x, x ∈ ms → x.1.Ok) ∧ ms.length ≤ 12 := by
  simp only [fewM, Bool.and_eq_true, decide_eq_true_eq, List.length_map] at h
  exact ⟨fun x hx => (hn x hx).ok (List.all_eq_true.1 h.1 x.1 (List.mem_map.2 ⟨x, hx, rfl⟩)), h.2⟩
theorem xor64 (n : Nat) (h : n ≤ 31) : bits .xor .u8 (128 + (n : Int)) 64 = 192 + n := by
  have : ∀ k : Fin 32, bits .xor .u8 (128 + (k.val : Int)) 64 = 192 + k.val := by decide +kernel
  exact this ⟨n, by omega⟩
theorem xor64' (n : Nat) (h : n ≤ 31) : bits .xor .u8 (192 + (n : Int)) 64 = 128 + n := by
  have : ∀ k : Fin 32, bits .xor .u8 (192 + (k.val : Int)) 64 = 128 + k.val := by decide +kernel
  exact this ⟨n, by omega⟩
theorem or32 (n : Nat) (h : n ≤ 31) : bits .or .u8 (128 + (n : Int)) 32 = 160 + n := by
  have : ∀ k : Fin 32, bits .or .u8 (128 + (k.val : Int)) 32 = 160 + k.val := by decide +kernel
  exact this ⟨n, by omega⟩
end Go.Proofs.Ytgkejdjdccgjbaa
