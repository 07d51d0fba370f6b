/- The laws' 'few': are messages few, and short? Condition: no more messages than an int counts. -/
import Derived.Test.YtgkejdjdccgjbaaPut
namespace Go.Proofs.Ytgkejdjdccgjbaa
open Go Go.RowKit
set_option maxHeartbeats 400000

def shortM (m : Mg) : Bool := decide (m.reports.length ≤ 40) && decide (m.who.length ≤ 40) && decide (m.pairs.length ≤ 60) && decide (m.asks.length ≤ 40)
def fewM (ms : List Mg) : Bool := ms.all shortM && decide (ms.length ≤ 12)
set_option maxRecDepth 100000 in
set_option maxHeartbeats 2000000 in
theorem few_any {w : World} {lo : Nat} {A : Option Addr} {cap : Nat} {ms : List (Mg × Hd)} (hc : CellsIn w lo w.heap.size 12 A ms.length (ms.flatMap encM)) (hl : ms.length ≤ 9223372036854775807) :
    Calls Try.prog 10 #[.slice A ms.length cap] w fun e w' => e = .returned (.bool (fewM (ms.map (·.1)))) ∧ w' = w := by
  have HC := Lib.hid hc
  obtain ⟨L, hL⟩ : ∃ L, L = ms.length := ⟨_, rfl⟩
  have HL := Lib.hid hL
  rw [← hL] at hl ⊢
  clear hc hL
  go_enter Try.func10, Try.ntmps10
  go_wp2
  go_loopg [3] L (fun gk x3 wr => ∃ (i : Nat), i ≤ L ∧ L ≤ i + gk ∧ x3 = .int .i64 i ∧ (∀ m, m ∈ (ms.take i).map (·.1) → shortM m = true) ∧ wr = w)
  case atStart => exact ⟨0, Nat.zero_le _, by omega, rfl, by simp, rfl⟩
  case round =>
    obtain ⟨i, hi, hgi, rfl, his, rfl⟩ := hrel
    by_cases hlt : i < L
    · obtain ⟨x, hxi⟩ : ∃ p, ms[i]? = some p := ⟨_, List.getElem?_eq_getElem (by rw [← HL.out]; exact hlt)⟩
      obtain ⟨b, off, rfl, hb1, hb2, hcc⟩ := HC.out.2 (by rw [← HL.out]; omega)
      have c7 := hcc (i * 12 + 7) _ (flat_get encM_len ms i 7 x hxi (by omega))
      have c8 := hcc (i * 12 + 8) _ (flat_get encM_len ms i 8 x hxi (by omega))
      have c9 := hcc (i * 12 + 9) _ (flat_get encM_len ms i 9 x hxi (by omega))
      have c10 := hcc (i * 12 + 10) _ (flat_get encM_len ms i 10 x hxi (by omega))
      obtain ⟨m, h⟩ := x
      simp only [encM, mcells, List.getElem?_cons_zero, List.getElem?_cons_succ, List.getElem_cons_zero, List.getElem_cons_succ, ← Nat.add_assoc, Nat.add_zero] at c7 c8 c9 c10
      have HIS := Lib.hid his
      have HXI := Lib.hid hxi
      have HLT := Lib.hid hlt
      have HGI := Lib.hid hgi
      clear hcc his hxi hgi
      have hlti : (i : Int) < (L : Int) := by omega
      have hw : IntKind.i64.wrap ((i : Int) + 1) = (i : Int) + 1 := IntWalk.i64_in _ (by omega)
      have hno : ∀ {B : Prop}, shortM m = false → (Value.bool false = Value.bool (fewM (ms.map (·.1)))) := fun hs => by
        have hmem : m ∈ ms.map (·.1) := List.mem_map.2 ⟨_, List.mem_of_getElem? HXI.out, rfl⟩
        rw [fewM, List.all_eq_false.2 ⟨m, hmem, by rw [hs]; decide⟩]
        rfl
      have HNO := Lib.hid (hno (B := True))
      clear hno
      by_cases k1 : m.reports.length ≤ 40
      · have n1 : ¬ (40 : Int) < (m.reports.length : Int) := by omega
        by_cases k2 : m.who.length ≤ 40
        · have n2 : ¬ (40 : Int) < (m.who.length : Int) := by omega
          by_cases k3 : m.pairs.length ≤ 60
          · have n3 : ¬ (60 : Int) < (m.pairs.length : Int) := by omega
            by_cases k4 : m.asks.length ≤ 40
            · have n4 : ¬ (40 : Int) < (m.asks.length : Int) := by omega
              go_wp2
              go_roundg (gk - 1)
              case measure => have := HGI.out; omega
              case rel =>
              refine ⟨i + 1, by omega, by have := HGI.out; omega, by go_num, fun m' hm' => ?_, rfl⟩
              rw [List.take_add_one, HXI.out] at hm'
              simp only [Option.toList_some, List.map_append, List.map_cons, List.map_nil, List.mem_append, List.mem_singleton] at hm'
              rcases hm' with hm' | rfl
              · exact HIS.out m' hm'
              · simp [shortM, k1, k2, k3, k4]
            · have n4 : (40 : Int) < (m.asks.length : Int) := by omega
              go_wp2
              exact bodyPost_res (v := .bool false) (by simp [results, Try.results10, go_sem]) rfl ⟨congrArg Ending.returned (HNO.out (by simp [shortM, k4])), rfl⟩
          · have n3 : (60 : Int) < (m.pairs.length : Int) := by omega
            go_wp2
            exact bodyPost_res (v := .bool false) (by simp [results, Try.results10, go_sem]) rfl ⟨congrArg Ending.returned (HNO.out (by simp [shortM, k3])), rfl⟩
        · have n2 : (40 : Int) < (m.who.length : Int) := by omega
          go_wp2
          exact bodyPost_res (v := .bool false) (by simp [results, Try.results10, go_sem]) rfl ⟨congrArg Ending.returned (HNO.out (by simp [shortM, k2])), rfl⟩
      · have n1 : (40 : Int) < (m.reports.length : Int) := by omega
        go_wp2
        exact bodyPost_res (v := .bool false) (by simp [results, Try.results10, go_sem]) rfl ⟨congrArg Ending.returned (HNO.out (by simp [shortM, k1])), rfl⟩
    · obtain rfl : i = L := by omega
      have hall : (ms.map (·.1)).all shortM = true := List.all_eq_true.2 (fun m hm => his m (by rw [HL.out, List.take_length]; exact hm))
      have hf : fewM (ms.map (·.1)) = decide ((i : Int) ≤ 12) := by
        rw [fewM, hall, Bool.true_and, List.length_map, ← HL.out]
        exact decide_eq_decide.2 (by omega)
      clear his hgi hlt
      go_wp2
      exact bodyPost_res (v := .bool (decide ((i : Int) ≤ 12))) (by simp [results, Try.results10, go_sem]) rfl ⟨by rw [hf], rfl⟩
end Go.Proofs.Ytgkejdjdccgjbaa
