/- rtcp's read, as one function of bytes; and what Parse answers, as a function of bytes. Conditions: bytes, no more than 100000. -/
import Derived.Test.YtgkejdjdccgjbaaReadG
namespace Go.Proofs.Ytgkejdjdccgjbaa
open Go Go.RowKit
set_option maxHeartbeats 1000000

def readM (t : Int) (n : Nat) (xs : List Int) : Mg × Int :=
  if kindM t n = 0 then finM (senderM n (xs, 0)) else if kindM t n = 1 then finM (receiverM n (xs, 0)) else if kindM t n = 2 then finM (byeM n (xs, 0)) else if kindM t n = 3 then finM (nackM (xs, 0))
  else if kindM t n = 4 then finM (pliG (xs, 0)) else if kindM t n = 5 then finM (firM (xs, 0)) else (⟨6, 0, 0, 0, 0, 0, 0, [], [], [], [], t⟩, 0)
theorem kind_lt (t c : Int) : kindM t c = 0 ∨ kindM t c = 1 ∨ kindM t c = 2 ∨ kindM t c = 3 ∨ kindM t c = 4 ∨ kindM t c = 5 ∨ kindM t c = 6 := by
  unfold kindM
  repeat' split
  all_goals simp
theorem read_any {w : World} {lo : Nat} {r : Rw} (h : RowIn w lo .u8 r) (hl : r.xs.length ≤ 100000) (t : Int) (n : Nat) (hn : n ≤ 31) (hb : Byt r.xs) :
    Calls Try.prog 30 #[.int .u8 t, .int .i64 n, encR r] w fun e w' => ∃ hd, e = .returned (.tuple #[.agg (mcells (readM t n r.xs).1 hd).toArray, .int .i64 (readM t n r.xs).2]) ∧ MgIn w' w.heap.size (readM t n r.xs).1 hd ∧ Upd [] w w' := by
  rcases kind_lt t n with hk | hk | hk | hk | hk | hk | hk
  · have e : readM t n r.xs = finM (senderM n (r.xs, 0)) := by unfold readM; rw [if_pos hk]
    rw [e]
    exact read_gen h hl t n 0 hk _ _ (.inl ⟨rfl, rfl⟩) rfl (fun W rv rp c lo' r' hr hx ha => by have := read1_any hr (by rw [hx]; exact hb) hn ha; rwa [hx] at this)
  · have e : readM t n r.xs = finM (receiverM n (r.xs, 0)) := by unfold readM; rw [if_neg (by omega), if_pos hk]
    rw [e]
    exact read_gen h hl t n 1 hk _ _ (.inr (.inl ⟨rfl, rfl⟩)) rfl (fun W rv rp c lo' r' hr hx ha => by have := read2_any hr (by rw [hx]; exact hb) hn ha; rwa [hx] at this)
  · have e : readM t n r.xs = finM (byeM n (r.xs, 0)) := by unfold readM; rw [if_neg (by omega), if_neg (by omega), if_pos hk]
    rw [e]
    exact read_gen h hl t n 2 hk _ _ (.inr (.inr (.inl ⟨rfl, rfl⟩))) rfl (fun W rv rp c lo' r' hr hx ha => by have := read3_any hr (by rw [hx]; exact hb) hn ha; rwa [hx] at this)
  · have e : readM t n r.xs = finM (nackM (r.xs, 0)) := by unfold readM; rw [if_neg (by omega), if_neg (by omega), if_neg (by omega), if_pos hk]
    rw [e]
    exact read_gen h hl t n 3 hk _ _ (.inr (.inr (.inr (.inl ⟨rfl, rfl⟩)))) rfl (fun W rv rp c lo' r' hr hx ha => by have := read4_any hr (by rw [hx]; exact hb) (by rw [hx]; exact hl) ha; rwa [hx] at this)
  · have e : readM t n r.xs = finM (pliG (r.xs, 0)) := by unfold readM; rw [if_neg (by omega), if_neg (by omega), if_neg (by omega), if_neg (by omega), if_pos hk]
    rw [e]
    exact read_gen h hl t n 4 hk _ _ (.inr (.inr (.inr (.inr (.inl ⟨rfl, rfl⟩))))) rfl (fun W rv rp c lo' r' hr hx ha => by have := read5g_any hr (by rw [hx]; exact hb) (by rw [hx]; exact hl) ha; rwa [hx] at this)
  · have e : readM t n r.xs = finM (firM (r.xs, 0)) := by unfold readM; rw [if_neg (by omega), if_neg (by omega), if_neg (by omega), if_neg (by omega), if_neg (by omega), if_pos hk]
    rw [e]
    exact read_gen h hl t n 5 hk _ _ (.inr (.inr (.inr (.inr (.inr ⟨rfl, rfl⟩))))) rfl (fun W rv rp c lo' r' hr hx ha => by have := read6_any hr (by rw [hx]; exact hb) (by rw [hx]; exact hl) ha; rwa [hx] at this)
  · have e : readM t n r.xs = (⟨6, 0, 0, 0, 0, 0, 0, [], [], [], [], t⟩, 0) := by unfold readM; rw [if_neg (by omega), if_neg (by omega), if_neg (by omega), if_neg (by omega), if_neg (by omega), if_neg (by omega)]
    rw [e]
    refine (read_other h hl t n hk).mono ?_
    rintro e w' ⟨rfl, hu⟩
    exact ⟨hZ, rfl, ⟨CellsIn.nil _ _ _ _ _, CellsIn.nil _ _ _ _ _, CellsIn.nil _ _ _ _ _, CellsIn.nil _ _ _ _ _⟩, hu⟩
/-- a message's body, its padding cut off where it says so -/
def bodyOf (x0 : Int) (body : List Int) (last : Bool) : Option (List Int) := if x0 / 32 % 2 = 1 then cutM body last else some body
/-- one message of bytes, and what is left; or what went wrong -/
def stepM (xs : List Int) : Except Int (Mg × List Int) :=
  match xs with
  | x0 :: x1 :: x2 :: x3 :: rest =>
    if isM [x0, x1, x2, x3] = true then
      (if rest.length < 4 * (x2.toNat * 256 + x3.toNat) then .error 10
       else match bodyOf x0 (rest.take (4 * (x2.toNat * 256 + x3.toNat))) (decide ((rest.drop (4 * (x2.toNat * 256 + x3.toNat))).length = 0)) with
        | none => .error 11
        | some b => if (readM x1 (x0 % 32).toNat b).2 = 0 then .ok ((readM x1 (x0 % 32).toNat b).1, rest.drop (4 * (x2.toNat * 256 + x3.toNat))) else .error (readM x1 (x0 % 32).toNat b).2)
    else .error 11
  | _ => .error 10
/-- messages of bytes, behind those that were read before -/
def parseA : Nat → List Mg → List Int → List Mg × Int
  | 0, _, _ => ([], 99)
  | f + 1, out, xs => match stepM xs with
    | .error e => ([], e)
    | .ok (m, rest) => if rest.length = 0 then (out ++ [m], 0) else parseA f (out ++ [m]) rest
def parseM (xs : List Int) : List Mg × Int := if 1500 < xs.length then ([], 13) else parseA (xs.length + 1) [] xs
end Go.Proofs.Ytgkejdjdccgjbaa
