/- Parts of the proof, one behind the other: DSame, DFew, DAwake, Open, Open2, DOpen, Tail6. No condition of their own. -/
import Derived.Test.YtjcbaelefacolaaB7
import Derived.Test.YtjcbaelefacolaaB6
import Derived.ChangeKeysEq
import Derived.Test.YtjcbaelefacolaaB2
import Derived.Test.YtjcbaelefacolaaB1
import Derived.Deep.Slices
import Derived.Deep.Fields
import Derived.ChangeSame
import Derived.ProofKit
import Derived.OpenShut
/- The layer delta: the document's 'Same' of one state that lies in two places answers true. Conditions: the state in memory; no more than 1000. -/
namespace Go.Proofs.Ytjcbaelefacolaa
open Go Go.RowKit
set_option maxHeartbeats 400000

theorem infoInt : (Try.prog.info? 3).map (fun i => (i.zero, i.size, i.bytes)) = some (some (.int .i64 0), 1, 8) := by kernel_rfl
theorem eq_four (a b c d : Int) (W : World) : (Op.equalIn 10000 32 (.agg #[.int .i64 a, .int .i64 b, .int .i64 c, .int .i64 d]) (.agg #[.int .i64 a, .int .i64 b, .int .i64 c, .int .i64 d])).run Try.prog W = .ok true W := by
  obtain ⟨j0, hj0, hy0, hy1, hy2⟩ := info_parts infoInt
  rw [show (10000 : Nat) = 9999 + 1 from rfl, run_equalIn_array W 9999 _ _ Try.underlying32 hj0]
  have hc : Try.prog.cellsOf 3 = 1 := by kernel_rfl
  rw [hc]
  have hr : List.range 4 = [0, 1, 2, 3] := rfl
  rw [hr]
  have hi : ∀ (x : Int) (W : World), (Op.equalIn 9999 3 (.int .i64 x) (.int .i64 x)).run Try.prog W = .ok true W := fun x W => by
    unfold Op.equalIn
    simp [Try.underlying3, go_sem]
  simp [Op.eqItems, hi, go_sem, part]
set_option maxRecDepth 100000 in
set_option maxHeartbeats 4000000 in
theorem same_any {w : World} {s : St} {ha hb : SHd} (hA : StIn w s ha) (hB : StIn w s hb) (hl1 : s.ps.length ≤ 1000) (hl2 : s.ts.length ≤ 1000) (hl3 : s.bs.length ≤ 1000) :
    Calls Try.prog 15 #[.agg (scells s ha).toArray, .agg (scells s hb).toArray] w fun e w' => e = .returned (.bool true) ∧ Upd [] w w' := by
  obtain ⟨T, hT⟩ : ∃ T, T = w.heap.size := ⟨_, rfl⟩
  obtain ⟨W1, hW1⟩ : ∃ W, W = w.alloc (.cells (scells s ha).toArray 37) := ⟨_, rfl⟩
  obtain ⟨W, hW⟩ : ∃ W, W = W1.alloc (.cells (scells s hb).toArray 37) := ⟨_, rfl⟩
  have u1 : Upd [] w W1 := by rw [hW1]; exact (Upd.refl [] w).alloc _
  have u2 : Upd [] W1 W := by rw [hW]; exact (Upd.refl [] W1).alloc _
  have s1 : W1.heap.size = T + 1 := by rw [hW1, World.size_alloc, hT]
  have hbA : Blk W T 37 (scells s ha).toArray := by
    have : Blk W1 T 37 (scells s ha).toArray := by rw [hW1, hT]; exact Blk.new _ _ _
    exact this.upd u2 (by simp)
  have hbB : Blk W (T + 1) 37 (scells s hb).toArray := by rw [hW, ← s1]; exact Blk.new _ _ _
  have hA' := hA.upd (u1.next u2)
  have hB' := hB.upd (u1.next u2)
  have HPA := Lib.hid (rowP hA'.p rfl)
  have HPB := Lib.hid (rowP hB'.p rfl)
  have HBA := Lib.hid (rowB hA'.b rfl)
  have HBB := Lib.hid (rowB hB'.b rfl)
  have HTA := Lib.hid (rowT hA')
  have HTB := Lib.hid (rowT hB')
  have HU := Lib.hid (u1.next u2)
  obtain ⟨n1, hn1⟩ : ∃ n, n = s.ps.length := ⟨_, rfl⟩
  obtain ⟨n2, hn2⟩ : ∃ n, n = s.ts.length := ⟨_, rfl⟩
  obtain ⟨n3, hn3⟩ : ∃ n, n = s.bs.length := ⟨_, rfl⟩
  have hsc : ∀ h', scells s h' = [.int .i64 s.c.people, .int .i64 s.c.tracks, .int .i64 s.c.subs, .int .i64 s.c.slots, .slice h'.pA n1 h'.pc, .slice h'.tA n2 h'.tc, .slice h'.bA n3 h'.bc] := fun h' => by unfold scells; rw [← hn1, ← hn2, ← hn3]
  rw [hsc ha] at hbA hW1 ⊢
  rw [hsc hb] at hbB hW ⊢
  have HN := Lib.hid (And.intro hn1 (And.intro hn2 hn3))
  rw [← hn1] at hl1
  rw [← hn2] at hl2
  rw [← hn3] at hl3
  obtain ⟨ap, apc, atx, at', atc, ab, abc⟩ := ha
  obtain ⟨bp, bpc, btx, bt, btc, bb, bbc⟩ := hb
  obtain ⟨⟨c1, c2, c3, c4⟩, hc⟩ : ∃ c, c = s.c := ⟨_, rfl⟩
  dsimp only at hbA hbB hW hW1 HPA HPB HBA HBB HTA HTB ⊢
  rw [← hc] at hbA hbB hW hW1 ⊢
  dsimp only at hbA hbB hW hW1 ⊢
  have a0 : W.cell? ⟨T, 0, none⟩ = some (.int .i64 c1) := hbA.cell 0
  have a1 : W.cell? ⟨T, 1, none⟩ = some (.int .i64 c2) := hbA.cell 1
  have a2 : W.cell? ⟨T, 2, none⟩ = some (.int .i64 c3) := hbA.cell 2
  have a3 : W.cell? ⟨T, 3, none⟩ = some (.int .i64 c4) := hbA.cell 3
  have a4 : W.cell? ⟨T, 4, none⟩ = some (.slice ap n1 apc) := hbA.cell 4
  have a5 : W.cell? ⟨T, 5, none⟩ = some (.slice at' n2 atc) := hbA.cell 5
  have a6 : W.cell? ⟨T, 6, none⟩ = some (.slice ab n3 abc) := hbA.cell 6
  have b0 : W.cell? ⟨T + 1, 0, none⟩ = some (.int .i64 c1) := hbB.cell 0
  have b1 : W.cell? ⟨T + 1, 1, none⟩ = some (.int .i64 c2) := hbB.cell 1
  have b2 : W.cell? ⟨T + 1, 2, none⟩ = some (.int .i64 c3) := hbB.cell 2
  have b3 : W.cell? ⟨T + 1, 3, none⟩ = some (.int .i64 c4) := hbB.cell 3
  have b4 : W.cell? ⟨T + 1, 4, none⟩ = some (.slice bp n1 bpc) := hbB.cell 4
  have b5 : W.cell? ⟨T + 1, 5, none⟩ = some (.slice bt n2 btc) := hbB.cell 5
  have b6 : W.cell? ⟨T + 1, 6, none⟩ = some (.slice bb n3 bbc) := hbB.cell 6
  have hTl := hbA.lt
  have hTl2 := hbB.lt
  clear hsc hn1 hn2 hn3 hc hbA hbB u1 u2 s1 hA hB hA' hB'
  go_enter Try.func15, Try.ntmps15
  go_upto_region 1 with fail
  rw [← hW1, ← hW, ← hT]
  have HT := Lib.hid hT
  clear hW hW1 hT
  have hq : ∀ W : World, (Op.equalIn 10000 32 (.agg #[.int .i64 c1, .int .i64 c2, .int .i64 c3, .int .i64 c4]) (.agg #[.int .i64 c1, .int .i64 c2, .int .i64 c3, .int .i64 c4])).run Try.prog W = .ok true W := fun W => eq_four c1 c2 c3 c4 W
  go_upto_region 3 with fail
  clear hq
  go_wp2
  go_loopg [5] n1 (fun gk x wr => ∃ i : Nat, i ≤ n1 ∧ n1 ≤ i + gk ∧ x = .int .i64 i ∧ ∃ q, wr = W.drewN q)
  case atStart => exact ⟨0, Nat.zero_le _, by omega, rfl, 0, rfl⟩
  case round =>
    obtain ⟨i, hi, hgi, rfl, q, rfl⟩ := hrel
    by_cases hlt : i < n1
    · obtain ⟨x, hxi⟩ : ∃ x, s.ps[i]? = some x := ⟨_, List.getElem?_eq_getElem (by rw [← HN.out.1]; exact hlt)⟩
      obtain ⟨b1, o1, e, p0, p1, p2⟩ := HPA.out i x hxi
      cases e
      obtain ⟨b2, o2, e, q0, q1, q2⟩ := HPB.out i x hxi
      cases e
      have HGI := Lib.hid hgi
      have hlti : (i : Int) < (n1 : Int) := by omega
      have hwi : IntKind.i64.wrap ((i : Int) + 1) = (i : Int) + 1 := IntWalk.i64_in _ (by omega)
      clear hxi hgi
      go_wp2_with fail
      go_quiet (fail)
      go_wp2
      go_roundg (gk - 1)
      case measure => have := HGI.out; omega
      case rel => exact ⟨i + 1, by omega, by have := HGI.out; omega, by go_num, by first | exact ⟨_, rfl⟩ | exact ⟨_, drew_two _ _ _⟩⟩
    · obtain rfl : n1 = i := by omega
      clear hgi hi hlt
      obtain ⟨qa, rfl⟩ : ∃ qn : Nat, qn = q := ⟨_, rfl⟩
      go_wp2
      go_loopg [6] n3 (fun gk x wr => ∃ i : Nat, i ≤ n3 ∧ n3 ≤ i + gk ∧ x = .int .i64 i ∧ ∃ q, wr = W.drewN q)
      case atStart => exact ⟨0, Nat.zero_le _, by omega, rfl, qa, rfl⟩
      case round =>
        obtain ⟨i, hi, hgi, rfl, q, rfl⟩ := hrel
        by_cases hlt : i < n3
        · obtain ⟨x, hxi⟩ : ∃ x, s.bs[i]? = some x := ⟨_, List.getElem?_eq_getElem (by rw [← HN.out.2.2]; exact hlt)⟩
          obtain ⟨b1, o1, e, p0, p1, p2, p3, p4⟩ := HBA.out i x hxi
          cases e
          obtain ⟨b2, o2, e, q0, q1, q2, q3, q4⟩ := HBB.out i x hxi
          cases e
          have HGI := Lib.hid hgi
          have hlti : (i : Int) < (n3 : Int) := by omega
          have hwi : IntKind.i64.wrap ((i : Int) + 1) = (i : Int) + 1 := IntWalk.i64_in _ (by omega)
          clear hxi hgi
          go_wp2_with fail
          go_quiet (fail)
          go_wp2
          go_roundg (gk - 1)
          case measure => have := HGI.out; omega
          case rel => exact ⟨i + 1, by omega, by have := HGI.out; omega, by go_num, by first | exact ⟨_, rfl⟩ | exact ⟨_, drew_two _ _ _⟩⟩
        · obtain rfl : n3 = i := by omega
          clear hgi hi hlt
          obtain ⟨qb, rfl⟩ : ∃ qn : Nat, qn = q := ⟨_, rfl⟩
          go_wp2
          go_loopg [7] n2 (fun gk x wr => ∃ i : Nat, i ≤ n2 ∧ n2 ≤ i + gk ∧ x = .int .i64 i ∧ Upd [] W wr)
          case atStart => exact ⟨0, Nat.zero_le _, by omega, rfl, (Upd.refl [] W).drewN _⟩
          case round =>
            obtain ⟨i, hi, hgi, rfl, hur⟩ := hrel
            have za := (hur.cell (p := ⟨T, 5, none⟩) hTl (by simp)).trans a5
            have zb := (hur.cell (p := ⟨T + 1, 5, none⟩) hTl2 (by simp)).trans b5
            by_cases hlt : i < n2
            · obtain ⟨x, hxi⟩ : ∃ x, s.ts[i]? = some x := ⟨_, List.getElem?_eq_getElem (by rw [← HN.out.2.1]; exact hlt)⟩
              obtain ⟨b1, o1, A, d, e, p0, p1, p2, p3, hra⟩ := HTA.out i x hxi
              cases e
              obtain ⟨b2, o2, B, f, e, q0, q1, q2, q3, hrb⟩ := HTB.out i x hxi
              cases e
              have hlp := cellD_lt p0
              have hlq := cellD_lt q0
              replace p0 := (hur.cell (p := ⟨b1, o1 + i * 4, none⟩) hlp (by simp)).trans p0
              replace p1 := (hur.cell (p := ⟨b1, o1 + i * 4 + 1, none⟩) hlp (by simp)).trans p1
              replace p2 := (hur.cell (p := ⟨b1, o1 + i * 4 + 2, none⟩) hlp (by simp)).trans p2
              replace p3 := (hur.cell (p := ⟨b1, o1 + i * 4 + 3, none⟩) hlp (by simp)).trans p3
              replace q0 := (hur.cell (p := ⟨b2, o2 + i * 4, none⟩) hlq (by simp)).trans q0
              replace q1 := (hur.cell (p := ⟨b2, o2 + i * 4 + 1, none⟩) hlq (by simp)).trans q1
              replace q2 := (hur.cell (p := ⟨b2, o2 + i * 4 + 2, none⟩) hlq (by simp)).trans q2
              replace q3 := (hur.cell (p := ⟨b2, o2 + i * 4 + 3, none⟩) hlq (by simp)).trans q3
              obtain ⟨sl, hsl⟩ : ∃ n, n = x.ss.length := ⟨_, rfl⟩
              have hsm : sl ≤ 9223372036854775807 := by rw [hsl]; exact Nat.le_trans hra.le hra.cm
              rw [← hsl] at p3 q3
              have HGI := Lib.hid hgi
              have HRA := Lib.hid (rowU hra rfl)
              have HRB := Lib.hid (rowU hrb rfl)
              have HUR := Lib.hid hur
              have HSL := Lib.hid hsl
              have hlti : (i : Int) < (n2 : Int) := by omega
              have hwi : IntKind.i64.wrap ((i : Int) + 1) = (i : Int) + 1 := IntWalk.i64_in _ (by omega)
              obtain ⟨x0, x1, x2, xs⟩ := x
              dsimp only at p0 p1 p2 q0 q1 q2 HRA HRB HSL
              clear hxi hgi hra hrb hlp hlq hur hsl
              go_upto_region 17 with fail
              obtain ⟨V, hV⟩ : ∃ V, V = wr.heap.size := ⟨_, rfl⟩
              obtain ⟨W3, hW3⟩ : ∃ W3, W3 = wr.alloc (.cells #[.int .i64 x0, .int .i64 x1, .int .i64 x2, .slice A sl d] 60) := ⟨_, rfl⟩
              rw [← hV, ← hW3]
              have u3 : Upd [] wr W3 := by rw [hW3]; exact (Upd.refl [] wr).alloc _
              have z3 : W3.heap.size = V + 1 := by rw [hW3, World.size_alloc, hV]
              have hV3 : Blk W3 V 60 #[.int .i64 x0, .int .i64 x1, .int .i64 x2, .slice A sl d] := by rw [hW3, hV]; exact Blk.new _ _ _
              replace q0 := (u3.cell (p := ⟨b2, o2 + i * 4, none⟩) (cellD_lt q0) (by simp)).trans q0
              replace q1 := (u3.cell (p := ⟨b2, o2 + i * 4 + 1, none⟩) (cellD_lt q1) (by simp)).trans q1
              replace q2 := (u3.cell (p := ⟨b2, o2 + i * 4 + 2, none⟩) (cellD_lt q2) (by simp)).trans q2
              replace q3 := (u3.cell (p := ⟨b2, o2 + i * 4 + 3, none⟩) (cellD_lt q3) (by simp)).trans q3
              replace zb := (u3.cell (p := ⟨T + 1, 5, none⟩) (cellD_lt zb) (by simp)).trans zb
              have U3 := Lib.hid u3
              have Z3 := Lib.hid z3
              have HV3 := Lib.hid hV3
              clear hV hW3 u3 z3 hV3 p0 p1 p2 p3 za
              go_upto_region 18 with fail
              obtain ⟨W4, hW4⟩ : ∃ W4, W4 = W3.alloc (.cells #[.int .i64 x0, .int .i64 x1, .int .i64 x2, .slice B sl f] 60) := ⟨_, rfl⟩
              rw [← hW4, Z3.out]
              have u4 : Upd [] W3 W4 := by rw [hW4]; exact (Upd.refl [] W3).alloc _
              have hV1 := HV3.out.upd u4 (by simp)
              have hV2 : Blk W4 (V + 1) 60 #[.int .i64 x0, .int .i64 x1, .int .i64 x2, .slice B sl f] := by rw [hW4, ← Z3.out]; exact Blk.new _ _ _
              have u3 := U3.out
              have HU4 := Lib.hid ((HUR.out.next u3).next u4)
              have g0 := hV1.cell 0
              have g1 := hV1.cell 1
              have g2 := hV1.cell 2
              have g3 := hV1.cell 3
              have k0 := hV2.cell 0
              have k1 := hV2.cell 1
              have k2 := hV2.cell 2
              have k3 := hV2.cell 3
              simp only [List.getElem?_toArray, List.getElem?_cons_zero, List.getElem?_cons_succ] at g0 g1 g2 g3 k0 k1 k2 k3
              clear hW4 u3 u4 hV1 hV2 q0 q1 q2 q3 zb
              go_wp2
              obtain ⟨gA, rfl⟩ : ∃ gA : Nat, gA = gk := ⟨gk, rfl⟩
              go_loopg [10] sl (fun gj x wx => ∃ j : Nat, j ≤ sl ∧ sl ≤ j + gj ∧ x = .int .i64 j ∧ ∃ q, wx = W4.drewN q)
              case atStart => exact ⟨0, Nat.zero_le _, by omega, rfl, 0, rfl⟩
              case round =>
                obtain ⟨j, hj, hgj, rfl, q, rfl⟩ := hrel
                by_cases hltj : j < sl
                · obtain ⟨y, hyj⟩ : ∃ y, xs[j]? = some y := ⟨_, List.getElem?_eq_getElem (by rw [← HSL.out]; exact hltj)⟩
                  obtain ⟨b3, o3, e, y0⟩ := HRA.out j y hyj
                  cases e
                  obtain ⟨b4, o4, e, y1⟩ := HRB.out j y hyj
                  cases e
                  replace y0 := (HU4.out.cell (p := ⟨b3, o3 + j, none⟩) (cellD_lt y0) (by simp)).trans y0
                  replace y1 := (HU4.out.cell (p := ⟨b4, o4 + j, none⟩) (cellD_lt y1) (by simp)).trans y1
                  have HGJ := Lib.hid hgj
                  have hltji : (j : Int) < (sl : Int) := by omega
                  have hwj : IntKind.i64.wrap ((j : Int) + 1) = (j : Int) + 1 := IntWalk.i64_in _ (by omega)
                  clear hyj hgj
                  go_wp2_with fail
                  go_quiet (fail)
                  go_wp2
                  go_roundg (gk - 1)
                  case measure => have := HGJ.out; omega
                  case rel => exact ⟨j + 1, by omega, by have := HGJ.out; omega, by go_num, by first | exact ⟨_, rfl⟩ | exact ⟨_, drew_two _ _ _⟩⟩
                · obtain rfl : sl = j := by omega
                  clear hgj hj hltj
                  go_wp2
                  go_roundg (gA - 1)
                  case measure => have := HGI.out; omega
                  case rel => exact ⟨i + 1, by omega, by have := HGI.out; omega, by go_num, HU4.out.drewN _⟩
            · obtain rfl : n2 = i := by omega
              have HUR := Lib.hid hur
              clear hgi hi hlt hur
              go_wp2
              go_ret
              exact ⟨rfl, HU.out.next HUR.out⟩
end Go.Proofs.Ytjcbaelefacolaa
/- The laws' 'few' and 'begun' of the layer delta. Condition: no more requests than an int counts. -/
namespace Go.Proofs.Ytjcbaelefacolaa
open Go Go.RowKit
set_option maxHeartbeats 400000

def encQ (x : Rq × SH) : List Value := qcells x.1 x.2
theorem encQ_len (x : Rq × SH) : (encQ x).length = 8 := rfl
def fewQ (l : List Rq) : Bool := l.all (fun q => decide (q.ss.length ≤ 6)) && decide (l.length ≤ 150)
set_option maxRecDepth 100000 in
set_option maxHeartbeats 2000000 in
theorem few_any {w : World} {lo : Nat} {A : Option Addr} {cap : Nat} {l : List (Rq × SH)} (hc : CellsIn w lo w.heap.size 8 A l.length (l.flatMap encQ)) (hl : l.length ≤ 9223372036854775807) :
    Calls Try.prog 10 #[.slice A l.length cap] w fun e w' => e = .returned (.bool (fewQ (l.map (·.1)))) ∧ w' = w := by
  have HC := Lib.hid hc
  obtain ⟨L, hL⟩ : ∃ L, L = l.length := ⟨_, rfl⟩
  have HL := Lib.hid hL
  rw [← hL] at hl ⊢
  clear hc hL
  go_enter Try.func10, Try.ntmps10
  go_wp2
  go_loopg [3] L (fun gk x3 wr => ∃ (i : Nat), i ≤ L ∧ L ≤ i + gk ∧ x3 = .int .i64 i ∧ (∀ q, q ∈ (l.take i).map (·.1) → q.ss.length ≤ 6) ∧ wr = w)
  case atStart => exact ⟨0, Nat.zero_le _, by omega, rfl, by simp, rfl⟩
  case round =>
    obtain ⟨i, hi, hgi, rfl, his, rfl⟩ := hrel
    by_cases hlt : i < L
    · obtain ⟨x, hxi⟩ : ∃ p, l[i]? = some p := ⟨_, List.getElem?_eq_getElem (by rw [← HL.out]; exact hlt)⟩
      obtain ⟨b, off, rfl, hb1, hb2, hcc⟩ := HC.out.2 (by rw [← HL.out]; omega)
      have c5 := hcc (i * 8 + 5) _ (flat_get encQ_len l i 5 x hxi (by omega))
      obtain ⟨⟨kd, who, room, rights, track, ss, layer, tid⟩, ⟨qA, qc⟩⟩ := x
      simp only [encQ, qcells, List.getElem?_cons_zero, List.getElem?_cons_succ, List.getElem_cons_zero, List.getElem_cons_succ, ← Nat.add_assoc, Nat.add_zero] at c5
      have HIS := Lib.hid his
      have HXI := Lib.hid hxi
      have HLT := Lib.hid hlt
      have HGI := Lib.hid hgi
      clear hcc his hxi hgi
      have hlti : (i : Int) < (L : Int) := by omega
      have hw : IntKind.i64.wrap ((i : Int) + 1) = (i : Int) + 1 := IntWalk.i64_in _ (by omega)
      by_cases k1 : ss.length ≤ 6
      · have n1 : ¬ (6 : Int) < (ss.length : Int) := by omega
        go_wp2
        go_roundg (gk - 1)
        case measure => have := HGI.out; omega
        case rel =>
        refine ⟨i + 1, by omega, by have := HGI.out; omega, by go_num, fun m' hm' => ?_, rfl⟩
        rw [List.take_add_one, HXI.out] at hm'
        simp only [Option.toList_some, List.map_append, List.map_cons, List.map_nil, List.mem_append, List.mem_singleton] at hm'
        rcases hm' with hm' | rfl
        · exact HIS.out m' hm'
        · exact k1
      · have n1 : (6 : Int) < (ss.length : Int) := by omega
        have hno : fewQ (l.map (·.1)) = false := by
          have hmem : (⟨kd, who, room, rights, track, ss, layer, tid⟩ : Rq) ∈ l.map (·.1) := List.mem_map.2 ⟨_, List.mem_of_getElem? HXI.out, rfl⟩
          rw [fewQ, List.all_eq_false.2 ⟨_, hmem, by simp [k1]⟩]
          rfl
        have HNO := Lib.hid hno
        clear hno
        go_wp2
        exact bodyPost_res (v := .bool false) (by simp [results, Try.results10, go_sem]) rfl ⟨by rw [HNO.out], rfl⟩
    · obtain rfl : i = L := by omega
      have hall : (l.map (·.1)).all (fun q => decide (q.ss.length ≤ 6)) = true := List.all_eq_true.2 (fun m hm => by simpa using his m (by rw [HL.out, List.take_length]; exact hm))
      have hf : fewQ (l.map (·.1)) = decide ((i : Int) ≤ 150) := by
        rw [fewQ, hall, Bool.true_and, List.length_map, ← HL.out]
        exact decide_eq_decide.2 (by omega)
      clear his hgi hlt
      go_wp2
      exact bodyPost_res (v := .bool (decide ((i : Int) ≤ 150))) (by simp [results, Try.results10, go_sem]) rfl ⟨by rw [hf], rfl⟩
set_option maxRecDepth 100000 in
set_option maxHeartbeats 2000000 in
theorem begun_any (w : World) (c : Cf) :
    Calls Try.prog 11 #[.agg #[.int .i64 c.people, .int .i64 c.tracks, .int .i64 c.subs, .int .i64 c.slots]] w fun e w' =>
      e = .returned (.tuple #[.agg (scells (newM (confM c)) newHd).toArray, .agg #[.int .i64 c.people, .int .i64 c.tracks, .int .i64 c.subs, .int .i64 c.slots, .slice none 0 0, .slice none 0 0, .slice none 0 0], .bool (confOk c)]) ∧ Upd [] w w' := by
  have HN := Lib.hid (fun w => new_any w c)
  have hm : scells (newM (confM c)) newHd = [.int .i64 (confM c).people, .int .i64 (confM c).tracks, .int .i64 (confM c).subs, .int .i64 (confM c).slots, .slice none 0 0, .slice none 0 0, .slice none 0 0] := rfl
  rw [hm] at HN ⊢
  obtain ⟨⟨m1, m2, m3, m4⟩, hmm⟩ : ∃ m, m = confM c := ⟨_, rfl⟩
  obtain ⟨er, her⟩ : ∃ er, er = (if confOk c then (0 : Int) else 1) := ⟨_, rfl⟩
  have hok : confOk c = (er == 0) := by rw [her]; cases confOk c <;> rfl
  rw [← hmm, ← her] at HN
  rw [← hmm, hok]
  obtain ⟨a, b, d, e⟩ := c
  dsimp only at HN ⊢
  clear hm hmm her hok
  obtain ⟨g, hg⟩ : ∃ g, g = w.heap.size := ⟨_, rfl⟩
  obtain ⟨W0, hW0⟩ : ∃ W, W = w.alloc (.cells #[.int .i64 a, .int .i64 b, .int .i64 d, .int .i64 e] 23) := ⟨_, rfl⟩
  obtain ⟨W1, hW1⟩ : ∃ W, W = W0.alloc (.cells #[.int .i64 0, .int .i64 0, .int .i64 0, .int .i64 0, .slice none 0 0, .slice none 0 0, .slice none 0 0] 31) := ⟨_, rfl⟩
  obtain ⟨W2, hW2⟩ : ∃ W, W = W1.alloc (.cells #[.int .i64 0, .int .i64 0, .int .i64 0, .int .i64 0, .slice none 0 0, .slice none 0 0, .slice none 0 0] 37) := ⟨_, rfl⟩
  have u0 : Upd [] w W0 := by rw [hW0]; exact (Upd.refl [] w).alloc _
  have u1 : Upd [] W0 W1 := by rw [hW1]; exact (Upd.refl [] W0).alloc _
  have u2 : Upd [] W1 W2 := by rw [hW2]; exact (Upd.refl [] W1).alloc _
  have z0 : W0.heap.size = g + 1 := by rw [hW0, World.size_alloc, hg]
  have z1 : W1.heap.size = g + 1 + 1 := by rw [hW1, World.size_alloc, z0]
  have k0 : Blk W2 g 23 #[.int .i64 a, .int .i64 b, .int .i64 d, .int .i64 e] := by
    have : Blk W0 g 23 #[.int .i64 a, .int .i64 b, .int .i64 d, .int .i64 e] := by rw [hW0, hg]; exact Blk.new _ _ _
    exact (this.upd u1 (by simp)).upd u2 (by simp)
  have k1 : Blk W2 (g + 1) 31 #[.int .i64 0, .int .i64 0, .int .i64 0, .int .i64 0, .slice none 0 0, .slice none 0 0, .slice none 0 0] := by
    have : Blk W1 (g + 1) 31 #[.int .i64 0, .int .i64 0, .int .i64 0, .int .i64 0, .slice none 0 0, .slice none 0 0, .slice none 0 0] := by rw [hW1, ← z0]; exact Blk.new _ _ _
    exact this.upd u2 (by simp)
  have k2 : Blk W2 (g + 1 + 1) 37 #[.int .i64 0, .int .i64 0, .int .i64 0, .int .i64 0, .slice none 0 0, .slice none 0 0, .slice none 0 0] := by rw [hW2, ← z1]; exact Blk.new _ _ _
  have HU0 := Lib.hid ((u0.next u1).next u2)
  have HG := Lib.hid hg
  have HK0 := Lib.hid k0
  have HK1 := Lib.hid k1
  have HK2 := Lib.hid k2
  have p0 : W2.cell? ⟨g, 0, none⟩ = some (.int .i64 a) := k0.cell 0
  have p1 : W2.cell? ⟨g, 1, none⟩ = some (.int .i64 b) := k0.cell 1
  have p2 : W2.cell? ⟨g, 2, none⟩ = some (.int .i64 d) := k0.cell 2
  have p3 : W2.cell? ⟨g, 3, none⟩ = some (.int .i64 e) := k0.cell 3
  clear u0 u1 u2 z0 z1 k0 k1 k2
  go_enter Try.func11, Try.ntmps11
  go_upto_region 1 with fail
  rw [← hW0, ← hW1, ← hW2, ← hg]
  clear hW0 hW1 hW2 hg
  go_wp2_with fail
  refine (HN.out _).mono ?_
  rintro _ w3 ⟨rfl, hu3⟩
  have HU3 := Lib.hid hu3
  have HB0 := Lib.hid (HK0.out.upd hu3 (by simp))
  have HB1 := Lib.hid (HK1.out.upd hu3 (by simp))
  have HB2 := Lib.hid (HK2.out.upd hu3 (by simp))
  clear hu3 p0 p1 p2 p3 HK0 HK1 HK2 HN
  go_upto_region 2 with fail
  obtain ⟨s, hs⟩ : ∃ s, s = w3.heap.size := ⟨_, rfl⟩
  obtain ⟨w4, hw4⟩ : ∃ W, W = w3.alloc (.cells #[.int .i64 m1, .int .i64 m2, .int .i64 m3, .int .i64 m4, .slice none 0 0, .slice none 0 0, .slice none 0 0] 31) := ⟨_, rfl⟩
  rw [← hw4, ← hs]
  have u4 : Upd [] w3 w4 := by rw [hw4]; exact (Upd.refl [] w3).alloc _
  have k3 : Blk w4 s 31 #[.int .i64 m1, .int .i64 m2, .int .i64 m3, .int .i64 m4, .slice none 0 0, .slice none 0 0, .slice none 0 0] := by rw [hw4, hs]; exact Blk.new _ _ _
  have k0 := HB0.out.upd u4 (by simp)
  have k1 := HB1.out.upd u4 (by simp)
  have k2 := HB2.out.upd u4 (by simp)
  have HU4 := Lib.hid ((HU0.out.next HU3.out).next u4)
  have hlg := k0.lt
  have hls := k3.lt
  have hgs : ¬ (s = g + 1) ∧ ¬ (s = g + 1 + 1) := ⟨fun e => by have := HB1.out.lt; omega, fun e => by have := HB2.out.lt; omega⟩
  have p0 : ∀ z : Cls (Upd [g + 1, g + 1 + 1] w4), z.w.cell? ⟨g, 0, none⟩ = some (.int .i64 a) := fun z => (z.h.cell (p := ⟨g, 0, none⟩) hlg (by simp; omega)).trans (k0.cell 0)
  have p1 : ∀ z : Cls (Upd [g + 1, g + 1 + 1] w4), z.w.cell? ⟨g, 1, none⟩ = some (.int .i64 b) := fun z => (z.h.cell (p := ⟨g, 1, none⟩) hlg (by simp; omega)).trans (k0.cell 1)
  have p2 : ∀ z : Cls (Upd [g + 1, g + 1 + 1] w4), z.w.cell? ⟨g, 2, none⟩ = some (.int .i64 d) := fun z => (z.h.cell (p := ⟨g, 2, none⟩) hlg (by simp; omega)).trans (k0.cell 2)
  have p3 : ∀ z : Cls (Upd [g + 1, g + 1 + 1] w4), z.w.cell? ⟨g, 3, none⟩ = some (.int .i64 e) := fun z => (z.h.cell (p := ⟨g, 3, none⟩) hlg (by simp; omega)).trans (k0.cell 3)
  have q0 : ∀ z : Cls (Upd [g + 1, g + 1 + 1] w4), z.w.cell? ⟨s, 0, none⟩ = some (.int .i64 m1) := fun z => (z.h.cell (p := ⟨s, 0, none⟩) hls (by simp; exact hgs)).trans (k3.cell 0)
  have q1 : ∀ z : Cls (Upd [g + 1, g + 1 + 1] w4), z.w.cell? ⟨s, 1, none⟩ = some (.int .i64 m2) := fun z => (z.h.cell (p := ⟨s, 1, none⟩) hls (by simp; exact hgs)).trans (k3.cell 1)
  have q2 : ∀ z : Cls (Upd [g + 1, g + 1 + 1] w4), z.w.cell? ⟨s, 2, none⟩ = some (.int .i64 m3) := fun z => (z.h.cell (p := ⟨s, 2, none⟩) hls (by simp; exact hgs)).trans (k3.cell 2)
  have q3 : ∀ z : Cls (Upd [g + 1, g + 1 + 1] w4), z.w.cell? ⟨s, 3, none⟩ = some (.int .i64 m4) := fun z => (z.h.cell (p := ⟨s, 3, none⟩) hls (by simp; exact hgs)).trans (k3.cell 3)
  have q4 : ∀ z : Cls (Upd [g + 1, g + 1 + 1] w4), z.w.cell? ⟨s, 4, none⟩ = some (.slice none 0 0) := fun z => (z.h.cell (p := ⟨s, 4, none⟩) hls (by simp; exact hgs)).trans (k3.cell 4)
  have q5 : ∀ z : Cls (Upd [g + 1, g + 1 + 1] w4), z.w.cell? ⟨s, 5, none⟩ = some (.slice none 0 0) := fun z => (z.h.cell (p := ⟨s, 5, none⟩) hls (by simp; exact hgs)).trans (k3.cell 5)
  have q6 : ∀ z : Cls (Upd [g + 1, g + 1 + 1] w4), z.w.cell? ⟨s, 6, none⟩ = some (.slice none 0 0) := fun z => (z.h.cell (p := ⟨s, 6, none⟩) hls (by simp; exact hgs)).trans (k3.cell 6)
  have HK1 := Lib.hid k1
  have HK2 := Lib.hid k2
  clear hs hw4 u4 k0 k1 k2 k3 HB0 HB1 HB2 HU0 HU3 hlg hls hgs
  refine wp_held_tail (Upd [g + 1, g + 1 + 1] w4) ((Upd.refl _ _).drewN 1) [0, 1, 2, 3, 4, 5, 6, 7, 8, 9, 10, 11, 12] [13, 14, 15] (by kernel_rfl) (by kernel_rfl) (fun _ _ _ _ h => h) ?_
  intro hne
  simp only [pick3, List.map_cons, List.map_nil, List.getElem?_cons_zero, List.getElem?_cons_succ, Option.getD_some]
  repeat (go_big_quiet_step (fail))
  refine wpQuiet_nil ?_
  obtain ⟨w5, hw5⟩ : ∃ W, W = w4.drewN 1 := ⟨_, rfl⟩
  have h1 := HK1.out.drewN 1
  have h2 := HK2.out.drewN 1
  have hu5 := HU4.out.drewN 1
  have hC5 : Upd [g + 1, g + 1 + 1] w4 w5 := by rw [hw5]; exact (Upd.refl _ _).drewN 1
  rw [← hw5] at h1 h2 hu5 ⊢
  clear hw5 p0 p1 p2 p3 q0 q1 q2 q3 q4 q5 q6 HU4 HK1 HK2
  obtain ⟨kx, ux⟩ := blk7 h1 (.int .i64 m1) (.int .i64 m2) (.int .i64 m3) (.int .i64 m4) (.slice none 0 0) (.slice none 0 0) (.slice none 0 0)
  obtain ⟨w6, hw6⟩ : ∃ w6, w6 = (((((((w5.setCell ⟨g + 1, 0, none⟩ (.int .i64 m1)).setCell ⟨g + 1, 1, none⟩ (.int .i64 m2)).setCell ⟨g + 1, 2, none⟩ (.int .i64 m3)).setCell ⟨g + 1, 3, none⟩ (.int .i64 m4)).setCell ⟨g + 1, 4, none⟩ (.slice none 0 0)).setCell ⟨g + 1, 5, none⟩ (.slice none 0 0)).setCell ⟨g + 1, 6, none⟩ (.slice none 0 0)) := ⟨_, rfl⟩
  rw [← hw6] at kx ux
  have h26 := h2.upd ux (by simp)
  obtain ⟨ky, uy⟩ := blk7 h26 (.int .i64 a) (.int .i64 b) (.int .i64 d) (.int .i64 e) (.slice none 0 0) (.slice none 0 0) (.slice none 0 0)
  obtain ⟨w7, hw7⟩ : ∃ w7, w7 = (((((((w6.setCell ⟨g + 1 + 1, 0, none⟩ (.int .i64 a)).setCell ⟨g + 1 + 1, 1, none⟩ (.int .i64 b)).setCell ⟨g + 1 + 1, 2, none⟩ (.int .i64 d)).setCell ⟨g + 1 + 1, 3, none⟩ (.int .i64 e)).setCell ⟨g + 1 + 1, 4, none⟩ (.slice none 0 0)).setCell ⟨g + 1 + 1, 5, none⟩ (.slice none 0 0)).setCell ⟨g + 1 + 1, 6, none⟩ (.slice none 0 0)) := ⟨_, rfl⟩
  rw [← hw7] at ky uy
  have kx7 := kx.upd uy (by simp)
  have hfin : Upd [] w w7 := Upd.of_below ((hu5.below (B := w.heap.size) (Nat.le_refl _) (by simp)).trans ((ux.below (B := w.heap.size) hu5.size (fun t ht => by rw [List.mem_singleton] at ht; subst ht; rw [← HG.out]; omega)).trans (uy.below (B := w.heap.size) (Nat.le_trans hu5.size ux.size) (fun t ht => by rw [List.mem_singleton] at ht; subst ht; rw [← HG.out]; omega))))
  have HFIN := Lib.hid hfin
  have HX := Lib.hid kx7
  have HY := Lib.hid ky
  have HW6 := Lib.hid hw6
  have HW7 := Lib.hid hw7
  have c0 := h1.cell 0
  have c1 := h1.cell 1
  have c2 := h1.cell 2
  have c3 := h1.cell 3
  have c4 := h1.cell 4
  have c5 := h1.cell 5
  have c6 := h1.cell 6
  have f0 := h1.frozen 0
  have f1 := h1.frozen 1
  have f2 := h1.frozen 2
  have f3 := h1.frozen 3
  have f4 := h1.frozen 4
  have f5 := h1.frozen 5
  have f6 := h1.frozen 6
  have d0 := h26.cell 0
  have d1 := h26.cell 1
  have d2 := h26.cell 2
  have d3 := h26.cell 3
  have d4 := h26.cell 4
  have d5 := h26.cell 5
  have d6 := h26.cell 6
  have e0 := h26.frozen 0
  have e1 := h26.frozen 1
  have e2 := h26.frozen 2
  have e3 := h26.frozen 3
  have e4 := h26.frozen 4
  have e5 := h26.frozen 5
  have e6 := h26.frozen 6
  simp only [List.getElem?_toArray, List.getElem?_cons_zero, List.getElem?_cons_succ] at c0 c1 c2 c3 c4 c5 c6 d0 d1 d2 d3 d4 d5 d6
  have hC6 : Upd [g + 1, g + 1 + 1] w4 w6 := hC5.next (ux.more (by simp))
  have HC6 := Lib.hid hC6
  have HC7 := Lib.hid (hC6.next (uy.more (by simp)))
  clear h1 h2 h26 hu5 kx ux ky uy kx7 hfin hw6 hw7 hC5 hC6
  refine wpHeld_step rfl fun K hK => ?_
  go_simp
  rw [← HW6.out]
  refine hK.out _ _ (.inr ⟨⟨w6, HC6.out⟩, rfl⟩) ?_
  clear hK K c0 c1 c2 c3 c4 c5 c6 f0 f1 f2 f3 f4 f5 f6
  refine wpHeld_step rfl fun K hK => ?_
  go_simp
  rw [← HW7.out]
  refine hK.out _ _ (.inr ⟨⟨w7, HC7.out⟩, rfl⟩) ?_
  clear hK K
  refine wpHeld_last ?_
  go_wp2
  have r0 := HX.out.cell 0
  have r1 := HX.out.cell 1
  have r2 := HX.out.cell 2
  have r3 := HX.out.cell 3
  have r4 := HX.out.cell 4
  have r5 := HX.out.cell 5
  have r6 := HX.out.cell 6
  have s0 := HY.out.cell 0
  have s1 := HY.out.cell 1
  have s2 := HY.out.cell 2
  have s3 := HY.out.cell 3
  have s4 := HY.out.cell 4
  have s5 := HY.out.cell 5
  have s6 := HY.out.cell 6
  simp only [List.getElem?_toArray, List.getElem?_cons_zero, List.getElem?_cons_succ] at r0 r1 r2 r3 r4 r5 r6 s0 s1 s2 s3 s4 s5 s6
  exact bodyPost_res (v := .tuple #[.agg #[.int .i64 m1, .int .i64 m2, .int .i64 m3, .int .i64 m4, .slice none 0 0, .slice none 0 0, .slice none 0 0], .agg #[.int .i64 a, .int .i64 b, .int .i64 d, .int .i64 e, .slice none 0 0, .slice none 0 0, .slice none 0 0], .bool (er == 0)]) (by simp [results, Try.results11, go_sem, Addr.add, r0, r1, r2, r3, r4, r5, r6, s0, s1, s2, s3, s4, s5, s6]) rfl ⟨rfl, HFIN.out⟩
end Go.Proofs.Ytjcbaelefacolaa
/- The layer delta: the laws' awake answers true. No condition. -/
namespace Go.Proofs.Ytjcbaelefacolaa
open Go Go.RowKit
set_option maxHeartbeats 400000

theorem do_av {w : World} {g : Nat} {s s' : St} {h : SHd} {q : Rq} {qh : SH} {er : Int} (hd : doM s q = (s', er)) (hs : StAv w g s h) (hl : g < w.heap.size) (hi : Inv s) (hQ : QIn w w.heap.size q qh) :
    Calls Try.prog 12 #[.agg (scells s h).toArray, .agg (qcells q qh).toArray] w fun e w' => ∃ h', e = .returned (.tuple #[.agg (scells s' h').toArray, .int .i64 er]) ∧ StAv w' g s' h' ∧ Upd [] w w' := by
  have := do_any hs.st hi hQ
  rw [hd] at this
  exact this.mono fun e w' ⟨h', he, hk, ha, hu⟩ => ⟨h', he, ⟨hk, ha g hl hs.av⟩, hu⟩
theorem inv_is {s s' : St} {q : Rq} {er : Int} (hd : doM s q = (s', er)) (hi : Inv s) : Inv s' := by
  have := inv_do hi q
  rw [hd] at this
  exact this
/-- the state stored into its box, another one's seven cells -/
theorem box7 {w : World} {S : Nat} {s s' : St} {h h' : SHd} (hb : Blk w S 31 (scells s h).toArray) :
    Blk (((((((w.setCell ⟨S, 0, none⟩ (.int .i64 s'.c.people)).setCell ⟨S, 1, none⟩ (.int .i64 s'.c.tracks)).setCell ⟨S, 2, none⟩ (.int .i64 s'.c.subs)).setCell ⟨S, 3, none⟩ (.int .i64 s'.c.slots)).setCell ⟨S, 4, none⟩ (.slice h'.pA s'.ps.length h'.pc)).setCell ⟨S, 5, none⟩ (.slice h'.tA s'.ts.length h'.tc)).setCell ⟨S, 6, none⟩ (.slice h'.bA s'.bs.length h'.bc)) S 31 (scells s' h').toArray
    ∧ Upd [S] w (((((((w.setCell ⟨S, 0, none⟩ (.int .i64 s'.c.people)).setCell ⟨S, 1, none⟩ (.int .i64 s'.c.tracks)).setCell ⟨S, 2, none⟩ (.int .i64 s'.c.subs)).setCell ⟨S, 3, none⟩ (.int .i64 s'.c.slots)).setCell ⟨S, 4, none⟩ (.slice h'.pA s'.ps.length h'.pc)).setCell ⟨S, 5, none⟩ (.slice h'.tA s'.ts.length h'.tc)).setCell ⟨S, 6, none⟩ (.slice h'.bA s'.bs.length h'.bc)) :=
  blk7 (c0 := .int .i64 s.c.people) (c1 := .int .i64 s.c.tracks) (c2 := .int .i64 s.c.subs) (c3 := .int .i64 s.c.slots) (c4 := .slice h.pA s.ps.length h.pc) (c5 := .slice h.tA s.ts.length h.tc) (c6 := .slice h.bA s.bs.length h.bc) hb _ _ _ _ _ _ _
theorem qin_nil (w : World) (B : Nat) (kd who room rights track layer tid : Int) : QIn w B ⟨kd, who, room, rights, track, [], layer, tid⟩ ⟨none, 0⟩ :=
  ⟨CellsIn.nil _ _ _ _ _, fun _ => ⟨rfl, rfl⟩, Nat.le_refl _, by dsimp only; omega, fun x hx => (by cases hx), by simp⟩
theorem qin_one {w : World} {g : Nat} {x : Int} (hx : 0 ≤ x) (h : Blk w g 64 #[.int .u32 x]) (kd who room rights track layer tid : Int) : QIn w w.heap.size ⟨kd, who, room, rights, track, [x], layer, tid⟩ ⟨some ⟨g, 0, none⟩, 1⟩ :=
  ⟨⟨rfl, fun _ => ⟨g, 0, rfl, Nat.zero_le _, h.lt, fun j u hj => by rw [Nat.zero_add, h.cell j]; simpa using hj⟩⟩, fun e => (by cases e), Nat.le_refl _, by dsimp only; omega, fun y hy => by rw [List.mem_singleton] at hy; omega, by simp⟩
def aw0 : St := newM ⟨3, 3, 3, 3⟩
def aw1 : St := ⟨⟨3, 3, 3, 3⟩, [⟨1, 2, 1⟩], [], []⟩
def aw2 : St := ⟨⟨3, 3, 3, 3⟩, [⟨1, 2, 1⟩, ⟨5, 2, 2⟩], [], []⟩
def aw3 : St := ⟨⟨3, 3, 3, 3⟩, [⟨1, 2, 1⟩, ⟨5, 2, 2⟩], [⟨7, 1, 0, [4]⟩], []⟩
def aw4 : St := ⟨⟨3, 3, 3, 3⟩, [⟨1, 2, 1⟩, ⟨5, 2, 2⟩], [⟨7, 1, 0, [4]⟩], [⟨5, 7, 0, 0, false⟩]⟩
def aw5 : St := ⟨⟨3, 3, 3, 3⟩, [⟨5, 2, 2⟩], [], []⟩
theorem aw1_do : doM aw0 ⟨0, 1, 2, 1, 0, [], 0, 0⟩ = (aw1, 0) := by rfl
theorem aw2_do : doM aw1 ⟨0, 5, 2, 2, 0, [], 0, 0⟩ = (aw2, 0) := by rfl
theorem aw3_do : doM aw2 ⟨2, 1, 0, 0, 7, [4], 0, 0⟩ = (aw3, 0) := by rfl
theorem aw4_do : doM aw3 ⟨5, 5, 0, 0, 7, [], 0, 0⟩ = (aw4, 0) := by rfl
theorem aw5_do : doM aw4 ⟨1, 1, 0, 0, 0, [], 0, 0⟩ = (aw5, 0) := by rfl
theorem aw6_do : doM aw4 ⟨2, 5, 0, 0, 8, [5], 0, 0⟩ = (aw4, 24) := by rfl
theorem aw_gone : goneM aw4 aw5 = [⟨5, 7, 0, 0, false⟩] := by rfl
theorem aw0_inv : Inv aw0 := inv_new _ ⟨by decide, by decide⟩ ⟨by decide, by decide⟩ ⟨by decide, by decide⟩ ⟨by decide, by decide⟩
theorem aw1_inv : Inv aw1 := inv_is aw1_do aw0_inv
theorem aw2_inv : Inv aw2 := inv_is aw2_do aw1_inv
theorem aw3_inv : Inv aw3 := inv_is aw3_do aw2_inv
theorem aw4_inv : Inv aw4 := inv_is aw4_do aw3_inv
theorem aw5_inv : Inv aw5 := inv_is aw5_do aw4_inv
theorem confOk3 : confOk ⟨3, 3, 3, 3⟩ = true := by rfl
set_option maxRecDepth 100000 in
set_option maxHeartbeats 4000000 in
theorem awake_any (w : World) : Calls Try.prog 9 #[] w fun e w' => e = .returned (.bool true) ∧ Upd [] w w' := by
  have hn := new_any w ⟨3, 3, 3, 3⟩
  rw [show confM ⟨3, 3, 3, 3⟩ = ⟨3, 3, 3, 3⟩ from rfl, confOk3] at hn
  have HN := Lib.hid hn
  clear hn
  go_enter Try.func9, Try.ntmps9
  go_wp2_with fail
  refine HN.out.mono ?_
  rintro e v0 ⟨rfl, hu0⟩
  have HU0 := Lib.hid hu0
  clear HN hu0
  rw [show scells (newM ⟨3, 3, 3, 3⟩) newHd = [.int .i64 3, .int .i64 3, .int .i64 3, .int .i64 3, .slice none 0 0, .slice none 0 0, .slice none 0 0] from rfl]
  go_upto_region 2 with fail
  obtain ⟨S, hS⟩ : ∃ S, S = v0.heap.size := ⟨_, rfl⟩
  obtain ⟨w0, hw0⟩ : ∃ W, W = v0.alloc (.cells #[.int .i64 3, .int .i64 3, .int .i64 3, .int .i64 3, .slice none 0 0, .slice none 0 0, .slice none 0 0] 31) := ⟨_, rfl⟩
  rw [← hS, ← hw0]
  have hx0 : Upd [] w w0 := HU0.out.next (by rw [hw0]; exact (Upd.refl [] v0).alloc _)
  have HX0 : Hid (Below w.heap.size w w0) := Lib.hid (hx0.below (Nat.le_refl _) (by simp))
  have HWS : Hid (w.heap.size ≤ S) := Lib.hid (by rw [hS]; exact HU0.out.size)
  obtain ⟨h0, hh0⟩ : ∃ h : SHd, h = newHd := ⟨_, rfl⟩
  have HB0 : Hid (Blk w0 S 31 (scells aw0 h0).toArray) := Lib.hid (by rw [hw0, hS, hh0]; exact Blk.new _ _ _)
  have HS0 : Hid (StAv w0 S aw0 h0) := Lib.hid (by rw [hh0]; exact ⟨⟨⟨CellsIn.nil _ _ _ _ _, fun _ => ⟨rfl, rfl⟩, Nat.le_refl _, by unfold newHd; dsimp only; omega⟩, ⟨CellsIn.nil _ _ _ _ _, fun _ => ⟨rfl, rfl⟩, Nat.le_refl _, by unfold newHd; dsimp only; omega⟩, ⟨CellsIn.nil _ _ _ _ _, fun _ => ⟨rfl, rfl⟩, Nat.le_refl _, by unfold newHd; dsimp only; omega⟩, rfl, fun x hx => (by cases hx)⟩, ⟨fun hn => absurd hn (by decide), fun hn => absurd hn (by decide), fun hn => absurd hn (by decide), fun x hx => (by cases hx)⟩⟩)
  clear hS hw0 hx0 hh0 HU0
  have p0 : w0.cell? ⟨S, 0, none⟩ = some (.int .i64 3) := HB0.out.cell 0
  have p1 : w0.cell? ⟨S, 1, none⟩ = some (.int .i64 3) := HB0.out.cell 1
  have p2 : w0.cell? ⟨S, 2, none⟩ = some (.int .i64 3) := HB0.out.cell 2
  have p3 : w0.cell? ⟨S, 3, none⟩ = some (.int .i64 3) := HB0.out.cell 3
  have p4 : w0.cell? ⟨S, 4, none⟩ = some (.slice h0.pA 0 h0.pc) := HB0.out.cell 4
  have p5 : w0.cell? ⟨S, 5, none⟩ = some (.slice h0.tA 0 h0.tc) := HB0.out.cell 5
  have p6 : w0.cell? ⟨S, 6, none⟩ = some (.slice h0.bA 0 h0.bc) := HB0.out.cell 6
  have HD : Hid _ := Lib.hid (do_av aw1_do HS0.out HB0.out.lt aw0_inv (qin_nil w0 w0.heap.size _ _ _ _ _ _ _))
  unfold qcells at HD
  dsimp only [List.length_nil, List.length_cons] at HD
  rw [show scells aw0 h0 = [.int .i64 3, .int .i64 3, .int .i64 3, .int .i64 3, .slice h0.pA 0 h0.pc, .slice h0.tA 0 h0.tc, .slice h0.bA 0 h0.bc] from rfl] at HD
  go_wp2_with fail
  refine HD.out.mono ?_
  rintro e v1 ⟨h1, rfl, hst, hu⟩
  rw [show scells aw1 h1 = [.int .i64 3, .int .i64 3, .int .i64 3, .int .i64 3, .slice h1.pA 1 h1.pc, .slice h1.tA 0 h1.tc, .slice h1.bA 0 h1.bc] from rfl]
  have HST := Lib.hid hst
  have HU : Hid (Upd [] w0 v1) := Lib.hid (hu)
  clear hst hu HD p0 p1 p2 p3 p4 p5 p6
  have hbk := HB0.out.upd HU.out (by simp)
  have c0 : v1.cell? ⟨S, 0, none⟩ = some (.int .i64 3) := hbk.cell 0
  have c1 : v1.cell? ⟨S, 1, none⟩ = some (.int .i64 3) := hbk.cell 1
  have c2 : v1.cell? ⟨S, 2, none⟩ = some (.int .i64 3) := hbk.cell 2
  have c3 : v1.cell? ⟨S, 3, none⟩ = some (.int .i64 3) := hbk.cell 3
  have c4 : v1.cell? ⟨S, 4, none⟩ = some (.slice h0.pA 0 h0.pc) := hbk.cell 4
  have c5 : v1.cell? ⟨S, 5, none⟩ = some (.slice h0.tA 0 h0.tc) := hbk.cell 5
  have c6 : v1.cell? ⟨S, 6, none⟩ = some (.slice h0.bA 0 h0.bc) := hbk.cell 6
  have f0 := hbk.frozen 0
  have f1 := hbk.frozen 1
  have f2 := hbk.frozen 2
  have f3 := hbk.frozen 3
  have f4 := hbk.frozen 4
  have f5 := hbk.frozen 5
  have f6 := hbk.frozen 6
  have hb7 := box7 (s' := aw1) (h' := h1) hbk
  obtain ⟨w1, hw1⟩ : ∃ W, W = (((((((v1.setCell ⟨S, 0, none⟩ (.int .i64 3)).setCell ⟨S, 1, none⟩ (.int .i64 3)).setCell ⟨S, 2, none⟩ (.int .i64 3)).setCell ⟨S, 3, none⟩ (.int .i64 3)).setCell ⟨S, 4, none⟩ (.slice h1.pA 1 h1.pc)).setCell ⟨S, 5, none⟩ (.slice h1.tA 0 h1.tc)).setCell ⟨S, 6, none⟩ (.slice h1.bA 0 h1.bc)) := ⟨_, rfl⟩
  replace hb7 : Blk w1 S 31 (scells aw1 h1).toArray ∧ Upd [S] v1 w1 := by rw [hw1]; exact hb7
  have HW := Lib.hid hw1
  have HB1 := Lib.hid hb7.1
  have HX1 : Hid (Below w.heap.size w w1) := Lib.hid ((HX0.out.trans (HU.out.below HX0.out.size (by simp))).trans (hb7.2.below (Nat.le_trans HX0.out.size HU.out.size) (fun t ht => by rw [List.mem_singleton] at ht; subst ht; exact HWS.out)))
  have HS1 : Hid (StAv w1 S aw1 h1) := Lib.hid (HST.out.past hb7.2)
  clear hbk hb7 hw1 HST HU HB0 HS0 HX0
  go_upto_region 3 with fail
  rw [← HW.out]
  clear HW c0 c1 c2 c3 c4 c5 c6 f0 f1 f2 f3 f4 f5 f6
  have p0 : w1.cell? ⟨S, 0, none⟩ = some (.int .i64 3) := HB1.out.cell 0
  have p1 : w1.cell? ⟨S, 1, none⟩ = some (.int .i64 3) := HB1.out.cell 1
  have p2 : w1.cell? ⟨S, 2, none⟩ = some (.int .i64 3) := HB1.out.cell 2
  have p3 : w1.cell? ⟨S, 3, none⟩ = some (.int .i64 3) := HB1.out.cell 3
  have p4 : w1.cell? ⟨S, 4, none⟩ = some (.slice h1.pA 1 h1.pc) := HB1.out.cell 4
  have p5 : w1.cell? ⟨S, 5, none⟩ = some (.slice h1.tA 0 h1.tc) := HB1.out.cell 5
  have p6 : w1.cell? ⟨S, 6, none⟩ = some (.slice h1.bA 0 h1.bc) := HB1.out.cell 6
  have HD : Hid _ := Lib.hid (do_av aw2_do HS1.out HB1.out.lt aw1_inv (qin_nil w1 w1.heap.size _ _ _ _ _ _ _))
  unfold qcells at HD
  dsimp only [List.length_nil, List.length_cons] at HD
  rw [show scells aw1 h1 = [.int .i64 3, .int .i64 3, .int .i64 3, .int .i64 3, .slice h1.pA 1 h1.pc, .slice h1.tA 0 h1.tc, .slice h1.bA 0 h1.bc] from rfl] at HD
  go_wp2_with fail
  refine HD.out.mono ?_
  rintro e v2 ⟨h2, rfl, hst, hu⟩
  rw [show scells aw2 h2 = [.int .i64 3, .int .i64 3, .int .i64 3, .int .i64 3, .slice h2.pA 2 h2.pc, .slice h2.tA 0 h2.tc, .slice h2.bA 0 h2.bc] from rfl]
  have HST := Lib.hid hst
  have HU : Hid (Upd [] w1 v2) := Lib.hid (hu)
  clear hst hu HD p0 p1 p2 p3 p4 p5 p6
  have hbk := HB1.out.upd HU.out (by simp)
  have c0 : v2.cell? ⟨S, 0, none⟩ = some (.int .i64 3) := hbk.cell 0
  have c1 : v2.cell? ⟨S, 1, none⟩ = some (.int .i64 3) := hbk.cell 1
  have c2 : v2.cell? ⟨S, 2, none⟩ = some (.int .i64 3) := hbk.cell 2
  have c3 : v2.cell? ⟨S, 3, none⟩ = some (.int .i64 3) := hbk.cell 3
  have c4 : v2.cell? ⟨S, 4, none⟩ = some (.slice h1.pA 1 h1.pc) := hbk.cell 4
  have c5 : v2.cell? ⟨S, 5, none⟩ = some (.slice h1.tA 0 h1.tc) := hbk.cell 5
  have c6 : v2.cell? ⟨S, 6, none⟩ = some (.slice h1.bA 0 h1.bc) := hbk.cell 6
  have f0 := hbk.frozen 0
  have f1 := hbk.frozen 1
  have f2 := hbk.frozen 2
  have f3 := hbk.frozen 3
  have f4 := hbk.frozen 4
  have f5 := hbk.frozen 5
  have f6 := hbk.frozen 6
  have hb7 := box7 (s' := aw2) (h' := h2) hbk
  obtain ⟨w2, hw2⟩ : ∃ W, W = (((((((v2.setCell ⟨S, 0, none⟩ (.int .i64 3)).setCell ⟨S, 1, none⟩ (.int .i64 3)).setCell ⟨S, 2, none⟩ (.int .i64 3)).setCell ⟨S, 3, none⟩ (.int .i64 3)).setCell ⟨S, 4, none⟩ (.slice h2.pA 2 h2.pc)).setCell ⟨S, 5, none⟩ (.slice h2.tA 0 h2.tc)).setCell ⟨S, 6, none⟩ (.slice h2.bA 0 h2.bc)) := ⟨_, rfl⟩
  replace hb7 : Blk w2 S 31 (scells aw2 h2).toArray ∧ Upd [S] v2 w2 := by rw [hw2]; exact hb7
  have HW := Lib.hid hw2
  have HB2 := Lib.hid hb7.1
  have HX2 : Hid (Below w.heap.size w w2) := Lib.hid ((HX1.out.trans (HU.out.below HX1.out.size (by simp))).trans (hb7.2.below (Nat.le_trans HX1.out.size HU.out.size) (fun t ht => by rw [List.mem_singleton] at ht; subst ht; exact HWS.out)))
  have HS2 : Hid (StAv w2 S aw2 h2) := Lib.hid (HST.out.past hb7.2)
  clear hbk hb7 hw2 HST HU HB1 HS1 HX1
  go_upto_region 4 with fail
  rw [← HW.out]
  clear HW c0 c1 c2 c3 c4 c5 c6 f0 f1 f2 f3 f4 f5 f6
  have p0 : w2.cell? ⟨S, 0, none⟩ = some (.int .i64 3) := HB2.out.cell 0
  have p1 : w2.cell? ⟨S, 1, none⟩ = some (.int .i64 3) := HB2.out.cell 1
  have p2 : w2.cell? ⟨S, 2, none⟩ = some (.int .i64 3) := HB2.out.cell 2
  have p3 : w2.cell? ⟨S, 3, none⟩ = some (.int .i64 3) := HB2.out.cell 3
  have p4 : w2.cell? ⟨S, 4, none⟩ = some (.slice h2.pA 2 h2.pc) := HB2.out.cell 4
  have p5 : w2.cell? ⟨S, 5, none⟩ = some (.slice h2.tA 0 h2.tc) := HB2.out.cell 5
  have p6 : w2.cell? ⟨S, 6, none⟩ = some (.slice h2.bA 0 h2.bc) := HB2.out.cell 6
  obtain ⟨y3, hy3⟩ : ∃ W, W = w2.alloc (.cells #[.int .u32 4] 64) := ⟨_, rfl⟩
  obtain ⟨gy, hgy⟩ : ∃ g, g = w2.heap.size := ⟨_, rfl⟩
  have hyu : Upd [] w2 y3 := by rw [hy3]; exact (Upd.refl [] w2).alloc _
  have hyb : Blk y3 gy 64 #[.int .u32 4] := by rw [hy3, hgy]; exact Blk.new _ _ _
  have HD : Hid _ := Lib.hid (do_av aw3_do (HS2.out.upd hyu) (Nat.le_trans HB2.out.lt hyu.size) aw2_inv (qin_one (by decide) hyb _ _ _ _ _ _ _))
  have HYU := Lib.hid hyu
  unfold qcells at HD
  dsimp only [List.length_nil, List.length_cons] at HD
  rw [show scells aw2 h2 = [.int .i64 3, .int .i64 3, .int .i64 3, .int .i64 3, .slice h2.pA 2 h2.pc, .slice h2.tA 0 h2.tc, .slice h2.bA 0 h2.bc] from rfl] at HD
  have HYE := Lib.hid hy3
  have HGE := Lib.hid hgy
  clear hyu hyb hy3 hgy
  go_wp2_with fail
  rw [← HYE.out, ← HGE.out]
  refine HD.out.mono ?_
  rintro e v3 ⟨h3, rfl, hst, hu⟩
  rw [show scells aw3 h3 = [.int .i64 3, .int .i64 3, .int .i64 3, .int .i64 3, .slice h3.pA 2 h3.pc, .slice h3.tA 1 h3.tc, .slice h3.bA 0 h3.bc] from rfl]
  have HST := Lib.hid hst
  have HU : Hid (Upd [] w2 v3) := Lib.hid (HYU.out.next hu)
  clear hst hu HD p0 p1 p2 p3 p4 p5 p6
  have hbk := HB2.out.upd HU.out (by simp)
  have c0 : v3.cell? ⟨S, 0, none⟩ = some (.int .i64 3) := hbk.cell 0
  have c1 : v3.cell? ⟨S, 1, none⟩ = some (.int .i64 3) := hbk.cell 1
  have c2 : v3.cell? ⟨S, 2, none⟩ = some (.int .i64 3) := hbk.cell 2
  have c3 : v3.cell? ⟨S, 3, none⟩ = some (.int .i64 3) := hbk.cell 3
  have c4 : v3.cell? ⟨S, 4, none⟩ = some (.slice h2.pA 2 h2.pc) := hbk.cell 4
  have c5 : v3.cell? ⟨S, 5, none⟩ = some (.slice h2.tA 0 h2.tc) := hbk.cell 5
  have c6 : v3.cell? ⟨S, 6, none⟩ = some (.slice h2.bA 0 h2.bc) := hbk.cell 6
  have f0 := hbk.frozen 0
  have f1 := hbk.frozen 1
  have f2 := hbk.frozen 2
  have f3 := hbk.frozen 3
  have f4 := hbk.frozen 4
  have f5 := hbk.frozen 5
  have f6 := hbk.frozen 6
  have hb7 := box7 (s' := aw3) (h' := h3) hbk
  obtain ⟨w3, hw3⟩ : ∃ W, W = (((((((v3.setCell ⟨S, 0, none⟩ (.int .i64 3)).setCell ⟨S, 1, none⟩ (.int .i64 3)).setCell ⟨S, 2, none⟩ (.int .i64 3)).setCell ⟨S, 3, none⟩ (.int .i64 3)).setCell ⟨S, 4, none⟩ (.slice h3.pA 2 h3.pc)).setCell ⟨S, 5, none⟩ (.slice h3.tA 1 h3.tc)).setCell ⟨S, 6, none⟩ (.slice h3.bA 0 h3.bc)) := ⟨_, rfl⟩
  replace hb7 : Blk w3 S 31 (scells aw3 h3).toArray ∧ Upd [S] v3 w3 := by rw [hw3]; exact hb7
  have HW := Lib.hid hw3
  have HB3 := Lib.hid hb7.1
  have HX3 : Hid (Below w.heap.size w w3) := Lib.hid ((HX2.out.trans (HU.out.below HX2.out.size (by simp))).trans (hb7.2.below (Nat.le_trans HX2.out.size HU.out.size) (fun t ht => by rw [List.mem_singleton] at ht; subst ht; exact HWS.out)))
  have HS3 : Hid (StAv w3 S aw3 h3) := Lib.hid (HST.out.past hb7.2)
  clear hbk hb7 hw3 HST HU HB2 HS2 HX2
  go_upto_region 5 with fail
  rw [← HW.out]
  clear HW c0 c1 c2 c3 c4 c5 c6 f0 f1 f2 f3 f4 f5 f6
  clear HYE HGE HYU
  have p0 : w3.cell? ⟨S, 0, none⟩ = some (.int .i64 3) := HB3.out.cell 0
  have p1 : w3.cell? ⟨S, 1, none⟩ = some (.int .i64 3) := HB3.out.cell 1
  have p2 : w3.cell? ⟨S, 2, none⟩ = some (.int .i64 3) := HB3.out.cell 2
  have p3 : w3.cell? ⟨S, 3, none⟩ = some (.int .i64 3) := HB3.out.cell 3
  have p4 : w3.cell? ⟨S, 4, none⟩ = some (.slice h3.pA 2 h3.pc) := HB3.out.cell 4
  have p5 : w3.cell? ⟨S, 5, none⟩ = some (.slice h3.tA 1 h3.tc) := HB3.out.cell 5
  have p6 : w3.cell? ⟨S, 6, none⟩ = some (.slice h3.bA 0 h3.bc) := HB3.out.cell 6
  have HD : Hid _ := Lib.hid (do_av aw4_do HS3.out HB3.out.lt aw3_inv (qin_nil w3 w3.heap.size _ _ _ _ _ _ _))
  unfold qcells at HD
  dsimp only [List.length_nil, List.length_cons] at HD
  rw [show scells aw3 h3 = [.int .i64 3, .int .i64 3, .int .i64 3, .int .i64 3, .slice h3.pA 2 h3.pc, .slice h3.tA 1 h3.tc, .slice h3.bA 0 h3.bc] from rfl] at HD
  go_wp2_with fail
  refine HD.out.mono ?_
  rintro e v4 ⟨h4, rfl, hst, hu⟩
  rw [show scells aw4 h4 = [.int .i64 3, .int .i64 3, .int .i64 3, .int .i64 3, .slice h4.pA 2 h4.pc, .slice h4.tA 1 h4.tc, .slice h4.bA 1 h4.bc] from rfl]
  have HST := Lib.hid hst
  have HU : Hid (Upd [] w3 v4) := Lib.hid (hu)
  clear hst hu HD p0 p1 p2 p3 p4 p5 p6
  have hbk := HB3.out.upd HU.out (by simp)
  have c0 : v4.cell? ⟨S, 0, none⟩ = some (.int .i64 3) := hbk.cell 0
  have c1 : v4.cell? ⟨S, 1, none⟩ = some (.int .i64 3) := hbk.cell 1
  have c2 : v4.cell? ⟨S, 2, none⟩ = some (.int .i64 3) := hbk.cell 2
  have c3 : v4.cell? ⟨S, 3, none⟩ = some (.int .i64 3) := hbk.cell 3
  have c4 : v4.cell? ⟨S, 4, none⟩ = some (.slice h3.pA 2 h3.pc) := hbk.cell 4
  have c5 : v4.cell? ⟨S, 5, none⟩ = some (.slice h3.tA 1 h3.tc) := hbk.cell 5
  have c6 : v4.cell? ⟨S, 6, none⟩ = some (.slice h3.bA 0 h3.bc) := hbk.cell 6
  have f0 := hbk.frozen 0
  have f1 := hbk.frozen 1
  have f2 := hbk.frozen 2
  have f3 := hbk.frozen 3
  have f4 := hbk.frozen 4
  have f5 := hbk.frozen 5
  have f6 := hbk.frozen 6
  have hb7 := box7 (s' := aw4) (h' := h4) hbk
  obtain ⟨w4, hw4⟩ : ∃ W, W = (((((((v4.setCell ⟨S, 0, none⟩ (.int .i64 3)).setCell ⟨S, 1, none⟩ (.int .i64 3)).setCell ⟨S, 2, none⟩ (.int .i64 3)).setCell ⟨S, 3, none⟩ (.int .i64 3)).setCell ⟨S, 4, none⟩ (.slice h4.pA 2 h4.pc)).setCell ⟨S, 5, none⟩ (.slice h4.tA 1 h4.tc)).setCell ⟨S, 6, none⟩ (.slice h4.bA 1 h4.bc)) := ⟨_, rfl⟩
  replace hb7 : Blk w4 S 31 (scells aw4 h4).toArray ∧ Upd [S] v4 w4 := by rw [hw4]; exact hb7
  have HW := Lib.hid hw4
  have HB4 := Lib.hid hb7.1
  have HX4 : Hid (Below w.heap.size w w4) := Lib.hid ((HX3.out.trans (HU.out.below HX3.out.size (by simp))).trans (hb7.2.below (Nat.le_trans HX3.out.size HU.out.size) (fun t ht => by rw [List.mem_singleton] at ht; subst ht; exact HWS.out)))
  have HS4 : Hid (StAv w4 S aw4 h4) := Lib.hid (HST.out.past hb7.2)
  clear hbk hb7 hw4 HST HU HB3 HS3 HX3
  go_upto_region 6 with fail
  rw [← HW.out]
  clear HW c0 c1 c2 c3 c4 c5 c6 f0 f1 f2 f3 f4 f5 f6
  have p0 : w4.cell? ⟨S, 0, none⟩ = some (.int .i64 3) := HB4.out.cell 0
  have p1 : w4.cell? ⟨S, 1, none⟩ = some (.int .i64 3) := HB4.out.cell 1
  have p2 : w4.cell? ⟨S, 2, none⟩ = some (.int .i64 3) := HB4.out.cell 2
  have p3 : w4.cell? ⟨S, 3, none⟩ = some (.int .i64 3) := HB4.out.cell 3
  have p4 : w4.cell? ⟨S, 4, none⟩ = some (.slice h4.pA 2 h4.pc) := HB4.out.cell 4
  have p5 : w4.cell? ⟨S, 5, none⟩ = some (.slice h4.tA 1 h4.tc) := HB4.out.cell 5
  have p6 : w4.cell? ⟨S, 6, none⟩ = some (.slice h4.bA 1 h4.bc) := HB4.out.cell 6
  have HD : Hid _ := Lib.hid (do_av aw5_do HS4.out HB4.out.lt aw4_inv (qin_nil w4 w4.heap.size _ _ _ _ _ _ _))
  unfold qcells at HD
  dsimp only [List.length_nil, List.length_cons] at HD
  rw [show scells aw4 h4 = [.int .i64 3, .int .i64 3, .int .i64 3, .int .i64 3, .slice h4.pA 2 h4.pc, .slice h4.tA 1 h4.tc, .slice h4.bA 1 h4.bc] from rfl] at HD
  go_wp2_with fail
  refine HD.out.mono ?_
  rintro e v5 ⟨h5, rfl, hst, hu⟩
  rw [show scells aw5 h5 = [.int .i64 3, .int .i64 3, .int .i64 3, .int .i64 3, .slice h5.pA 1 h5.pc, .slice h5.tA 0 h5.tc, .slice h5.bA 0 h5.bc] from rfl]
  have HST := Lib.hid hst
  have HU : Hid (Upd [] w4 v5) := Lib.hid (hu)
  clear hst hu HD p0 p1 p2 p3 p4 p5 p6
  go_upto_region 7 with fail
  obtain ⟨V, hV⟩ : ∃ V, V = v5.heap.size := ⟨_, rfl⟩
  obtain ⟨w5, hw5⟩ : ∃ W, W = v5.alloc (.cells #[.int .i64 3, .int .i64 3, .int .i64 3, .int .i64 3, .slice h5.pA 1 h5.pc, .slice h5.tA 0 h5.tc, .slice h5.bA 0 h5.bc] 31) := ⟨_, rfl⟩
  rw [← hV, ← hw5]
  have u5 : Upd [] v5 w5 := by rw [hw5]; exact (Upd.refl [] v5).alloc _
  have u45 := HU.out.next u5
  have HB5 : Hid (Blk w5 S 31 (scells aw4 h4).toArray) := Lib.hid (HB4.out.upd u45 (by simp))
  have HV5 : Hid (Blk w5 V 31 (scells aw5 h5).toArray) := Lib.hid (by rw [hw5, hV]; exact Blk.new _ _ _)
  have HS5 : Hid (StAv w5 S aw4 h4) := Lib.hid (HS4.out.upd u45)
  have HT5 : Hid (StAv w5 S aw5 h5) := Lib.hid (HST.out.upd u5)
  have HX5 : Hid (Below w.heap.size w w5) := Lib.hid (HX4.out.trans (u45.below HX4.out.size (by simp)))
  clear hV hw5 u5 u45 HU HST HB4 HS4 HX4
  have p0 : w5.cell? ⟨S, 0, none⟩ = some (.int .i64 3) := HB5.out.cell 0
  have p1 : w5.cell? ⟨S, 1, none⟩ = some (.int .i64 3) := HB5.out.cell 1
  have p2 : w5.cell? ⟨S, 2, none⟩ = some (.int .i64 3) := HB5.out.cell 2
  have p3 : w5.cell? ⟨S, 3, none⟩ = some (.int .i64 3) := HB5.out.cell 3
  have p4 : w5.cell? ⟨S, 4, none⟩ = some (.slice h4.pA 2 h4.pc) := HB5.out.cell 4
  have p5 : w5.cell? ⟨S, 5, none⟩ = some (.slice h4.tA 1 h4.tc) := HB5.out.cell 5
  have p6 : w5.cell? ⟨S, 6, none⟩ = some (.slice h4.bA 1 h4.bc) := HB5.out.cell 6
  have q0 : w5.cell? ⟨V, 0, none⟩ = some (.int .i64 3) := HV5.out.cell 0
  have q1 : w5.cell? ⟨V, 1, none⟩ = some (.int .i64 3) := HV5.out.cell 1
  have q2 : w5.cell? ⟨V, 2, none⟩ = some (.int .i64 3) := HV5.out.cell 2
  have q3 : w5.cell? ⟨V, 3, none⟩ = some (.int .i64 3) := HV5.out.cell 3
  have q4 : w5.cell? ⟨V, 4, none⟩ = some (.slice h5.pA 1 h5.pc) := HV5.out.cell 4
  have q5 : w5.cell? ⟨V, 5, none⟩ = some (.slice h5.tA 0 h5.tc) := HV5.out.cell 5
  have q6 : w5.cell? ⟨V, 6, none⟩ = some (.slice h5.bA 0 h5.bc) := HV5.out.cell 6
  have HD := Lib.hid (gone_any HS5.out.st HT5.out.st (by decide) (by decide) aw5_inv.ub)
  rw [show scells aw4 h4 = [.int .i64 3, .int .i64 3, .int .i64 3, .int .i64 3, .slice h4.pA 2 h4.pc, .slice h4.tA 1 h4.tc, .slice h4.bA 1 h4.bc] from rfl, show scells aw5 h5 = [.int .i64 3, .int .i64 3, .int .i64 3, .int .i64 3, .slice h5.pA 1 h5.pc, .slice h5.tA 0 h5.tc, .slice h5.bA 0 h5.bc] from rfl, aw_gone] at HD
  dsimp only [List.length_nil, List.length_cons] at HD
  go_wp2_with fail
  refine HD.out.mono ?_
  rintro e v6 ⟨GA, gc, rfl, hgr, hu6⟩
  have HB6 := Lib.hid (HB5.out.upd hu6 (by simp))
  have HV6 := Lib.hid (HV5.out.upd hu6 (by simp))
  have HS6 := Lib.hid (HS5.out.upd hu6)
  have HX6 : Hid (Below w.heap.size w v6) := Lib.hid (HX5.out.trans (hu6.below HX5.out.size (by simp)))
  have HG6 := Lib.hid hgr
  clear hgr hu6 HD HB5 HV5 HS5 HX5 HT5 p0 p1 p2 p3 p4 p5 p6 q0 q1 q2 q3 q4 q5 q6
  go_upto_region 8 with fail
  have p0 : v6.cell? ⟨S, 0, none⟩ = some (.int .i64 3) := HB6.out.cell 0
  have p1 : v6.cell? ⟨S, 1, none⟩ = some (.int .i64 3) := HB6.out.cell 1
  have p2 : v6.cell? ⟨S, 2, none⟩ = some (.int .i64 3) := HB6.out.cell 2
  have p3 : v6.cell? ⟨S, 3, none⟩ = some (.int .i64 3) := HB6.out.cell 3
  have p4 : v6.cell? ⟨S, 4, none⟩ = some (.slice h4.pA 2 h4.pc) := HB6.out.cell 4
  have p5 : v6.cell? ⟨S, 5, none⟩ = some (.slice h4.tA 1 h4.tc) := HB6.out.cell 5
  have p6 : v6.cell? ⟨S, 6, none⟩ = some (.slice h4.bA 1 h4.bc) := HB6.out.cell 6
  obtain ⟨y7, hy7⟩ : ∃ W, W = v6.alloc (.cells #[.int .u32 5] 64) := ⟨_, rfl⟩
  obtain ⟨gy, hgy⟩ : ∃ g, g = v6.heap.size := ⟨_, rfl⟩
  have hyu : Upd [] v6 y7 := by rw [hy7]; exact (Upd.refl [] v6).alloc _
  have hyb : Blk y7 gy 64 #[.int .u32 5] := by rw [hy7, hgy]; exact Blk.new _ _ _
  have HD : Hid _ := Lib.hid (do_av aw6_do (HS6.out.upd hyu) (Nat.le_trans HB6.out.lt hyu.size) aw4_inv (qin_one (by decide) hyb _ _ _ _ _ _ _))
  have HYU := Lib.hid hyu
  unfold qcells at HD
  dsimp only [List.length_nil, List.length_cons] at HD
  rw [show scells aw4 h4 = [.int .i64 3, .int .i64 3, .int .i64 3, .int .i64 3, .slice h4.pA 2 h4.pc, .slice h4.tA 1 h4.tc, .slice h4.bA 1 h4.bc] from rfl] at HD
  have HYE := Lib.hid hy7
  have HGE := Lib.hid hgy
  clear hyu hyb hy7 hgy
  go_wp2_with fail
  rw [← HYE.out, ← HGE.out]
  refine HD.out.mono ?_
  rintro e v7 ⟨h7, rfl, hst, hu⟩
  rw [show scells aw4 h7 = [.int .i64 3, .int .i64 3, .int .i64 3, .int .i64 3, .slice h7.pA 2 h7.pc, .slice h7.tA 1 h7.tc, .slice h7.bA 1 h7.bc] from rfl]
  have HST := Lib.hid hst
  have HU : Hid (Upd [] v6 v7) := Lib.hid (HYU.out.next hu)
  clear hst hu HD p0 p1 p2 p3 p4 p5 p6
  clear HYE HGE HYU
  go_upto_region 9 with fail
  obtain ⟨w7, hw7⟩ : ∃ W, W = v7.alloc (.cells #[.int .i64 3, .int .i64 3, .int .i64 3, .int .i64 3, .slice h7.pA 2 h7.pc, .slice h7.tA 1 h7.tc, .slice h7.bA 1 h7.bc] 31) := ⟨_, rfl⟩
  rw [← hw7]
  have u7 : Upd [] v7 w7 := by rw [hw7]; exact (Upd.refl [] v7).alloc _
  have u67 := HU.out.next u7
  have HX7 : Hid (Below w.heap.size w w7) := Lib.hid (HX6.out.trans (u67.below HX6.out.size (by simp)))
  have hb7 := HB6.out.upd u67 (by simp)
  have hv7 := HV6.out.upd u67 (by simp)
  have hg7 := HG6.out.upd u67
  have p6 : w7.cell? ⟨S, 6, none⟩ = some (.slice h4.bA 1 h4.bc) := hb7.cell 6
  have q4 : w7.cell? ⟨V, 4, none⟩ = some (.slice h5.pA 1 h5.pc) := hv7.cell 4
  have q5 : w7.cell? ⟨V, 5, none⟩ = some (.slice h5.tA 0 h5.tc) := hv7.cell 5
  have q6 : w7.cell? ⟨V, 6, none⟩ = some (.slice h5.bA 0 h5.bc) := hv7.cell 6
  obtain ⟨gb, go, rfl, _, _, hcc⟩ := hg7.l.2 (by omega)
  have g0 : w7.cell? ⟨gb, go, none⟩ = some (.int .i64 5) := hcc 0 _ rfl
  clear hb7 hv7 hg7 hcc hw7 u7 u67 HB6 HV6 HS6 HX6 HG6 HU HST
  go_wp2
  go_ret
  exact ⟨rfl, Upd.of_below HX7.out⟩
end Go.Proofs.Ytjcbaelefacolaa
/- Arguments opened to cells: integers, slices of elements of so many one-cell parts. Plain laws on readings. -/
namespace Go.Proofs.Ytjcbaelefacolaa
open Go Go.RowKit Go.ChangeShapes Go.WideShapes Go.Deep

theorem flat_one {α β : Type} (f : α → β) (l : List α) : l.flatMap (fun a => [f a]) = l.map f := by
  induction l with
  | nil => rfl
  | cons a l ih => rw [List.flatMap_cons, ih]; rfl

theorem cell_lt {w : World} {a : Addr} {v : Value} (h : w.cell? a = some v) : a.block < w.heap.size := by
  rcases Nat.lt_or_ge a.block w.heap.size with h1 | h1
  · exact h1
  · exfalso
    have h2 : w.heap[a.block]? = none := Array.getElem?_eq_none h1
    have h3 := World.cell?_of_block (w := w) (w' := { w with heap := #[] }) (a := a) (by rw [h2]; rfl)
    rw [h] at h3
    have h4 : (({ w with heap := #[] } : World).cell? a) = none := by simp [World.cell?]
    rw [h4] at h3
    cases h3

section
variable {H : Type} {enc : TypeId × Value → H} {P : Program} {w : World} {base : Nat} {spare : Nat → Bool} {held : Bool}

/-- A slice, element by element: whatever of an element's cells the reading tells. -/
theorem rd_slice {α : Type} {t e : TypeId} {size fuel : Nat} {cs : List Value} {x : DataW H × List MemPlace} (R : List Value → α → Prop) (ht : P.underlying t = some (.slice e)) (hC : P.cellsOf e = size) (h0 : 0 < size)
    (hR : ∀ n cs' y, cs'.length = size → DataW.trod enc P w base spare held n e cs' = some y → ∃ z, R cs' z) (hf : DataW.trod enc P w base spare held fuel t cs = some x) :
    ∃ (A : Option Addr) (len cap : Nat) (l : List α), cs = [.slice A len cap] ∧ len ≤ cap ∧ cap ≤ maxLen ∧ l.length = len ∧
      (0 < len → ∃ b off, A = some ⟨b, off, none⟩ ∧ b < w.heap.size ∧ ∀ (i : Nat) (z : α), l[i]? = some z → ∃ ci, R ci z ∧ ci.length = size ∧ ∀ j, j < size → w.cell? ⟨b, off + i * size + j, none⟩ = ci[j]?) := by
  rcases open_slice ht hf with ⟨hcs, _⟩ | ⟨a, len, cap, m, n, D, Pl, hcs, hb, hl, hm, hmm, hx, hi⟩
  · exact ⟨none, 0, 0, [], hcs, Nat.le_refl _, Nat.zero_le _, rfl, fun h => absurd h (Nat.lt_irrefl 0)⟩
  · have hlm : len ≤ m := by rw [hmm]; split <;> omega
    have each : ∀ i, i < len → ∃ z ci, R ci z ∧ ci.length = size ∧ ∀ j, j < size → w.cell? ((a.add (i * size)).add j) = ci[j]? := by
      intro i hil
      obtain ⟨cs', hc, ht'⟩ := hi i (by omega)
      rw [hC] at hc
      obtain ⟨_, hcl, hat⟩ := World.cells?_some hc
      obtain ⟨z, hz⟩ := hR n cs' _ hcl ht'
      exact ⟨z, cs', hz, hcl, hat⟩
    have list : ∀ k, k ≤ len → ∃ l : List α, l.length = k ∧ ∀ (i : Nat) (z : α), l[i]? = some z → ∃ ci, R ci z ∧ ci.length = size ∧ ∀ j, j < size → w.cell? ((a.add (i * size)).add j) = ci[j]? := by
      intro k
      induction k with
      | zero => intro _; exact ⟨[], rfl, fun i z h => by simp at h⟩
      | succ k ih =>
        intro hk
        obtain ⟨l, hll, hla⟩ := ih (by omega)
        obtain ⟨z, hz⟩ := each k (by omega)
        refine ⟨l ++ [z], by simp [hll], fun i y hy => ?_⟩
        rcases Nat.lt_or_ge i l.length with h1 | h1
        · rw [List.getElem?_append_left h1] at hy
          exact hla i y hy
        · rw [List.getElem?_append_right h1] at hy
          have h2 : i - l.length = 0 := by
            rcases Nat.eq_zero_or_pos (i - l.length) with h | h
            · exact h
            · rw [List.getElem?_eq_none (by simp; omega)] at hy; cases hy
          rw [h2] at hy
          obtain rfl : z = y := by simpa using hy
          obtain rfl : i = k := by omega
          exact hz
    obtain ⟨l, hll, hla⟩ := list len (Nat.le_refl _)
    refine ⟨some a, len, cap, l, hcs, hl, hm, hll, fun hpos => ?_⟩
    have hl0 : 0 < l.length := by omega
    obtain ⟨c0, _, hcl, h00⟩ := hla 0 l[0] (List.getElem?_eq_getElem hl0)
    have hcell := h00 0 h0
    rw [List.getElem?_eq_getElem (by omega)] at hcell
    have hadd : (a.add (0 * size)).add 0 = a := by simp [Addr.add]
    rw [hadd] at hcell
    have hspot := World.cell?_spot hcell
    obtain ⟨b, off, spot⟩ := a
    dsimp only at hspot
    subst hspot
    refine ⟨b, off, rfl, cell_lt hcell, fun i z hz => ?_⟩
    obtain ⟨ci, hr, hc1, hc2⟩ := hla i z hz
    refine ⟨ci, hr, hc1, fun j hj => ?_⟩
    have := hc2 j hj
    rw [← this]
    unfold Addr.add
    by_cases e1 : i * size = 0 <;> by_cases e2 : j = 0 <;> simp [e1, e2, Nat.add_assoc]

/-- .. where the cells are a function of what they read as. -/
theorem rd_cells {α : Type} {t e : TypeId} {size fuel : Nat} {cs : List Value} {x : DataW H × List MemPlace} (f : α → List Value) (ht : P.underlying t = some (.slice e)) (hC : P.cellsOf e = size) (h0 : 0 < size)
    (hR : ∀ n cs' y, cs'.length = size → DataW.trod enc P w base spare held n e cs' = some y → ∃ z, cs' = f z) (hlen : ∀ z, (f z).length = size) (hf : DataW.trod enc P w base spare held fuel t cs = some x) :
    ∃ (A : Option Addr) (len cap : Nat) (l : List α), cs = [.slice A len cap] ∧ len ≤ cap ∧ cap ≤ maxLen ∧ l.length = len ∧ Cells w w.heap.size size A len (l.flatMap f) := by
  obtain ⟨A, len, cap, l, h1, h2, h3, h4, h5⟩ := rd_slice (fun c z => c = f z) ht hC h0 hR hf
  have hfl : ∀ l : List α, (l.flatMap f).length = l.length * size := by
    intro l
    induction l with
    | nil => simp
    | cons a l ih => rw [List.flatMap_cons, List.length_append, ih, hlen, List.length_cons, Nat.succ_mul, Nat.add_comm]
  have hget : ∀ (l : List α) (i j : Nat) (z : α), l[i]? = some z → j < size → (l.flatMap f)[i * size + j]? = (f z)[j]? := by
    intro l
    induction l with
    | nil => intro i j z h; simp at h
    | cons a l ih =>
      intro i j z h hj
      rw [List.flatMap_cons]
      cases i with
      | zero =>
        obtain rfl : a = z := by simpa using h
        rw [Nat.zero_mul, Nat.zero_add, List.getElem?_append_left (by rw [hlen]; exact hj)]
      | succ i =>
        rw [List.getElem?_append_right (by rw [hlen, Nat.succ_mul]; omega), hlen, Nat.succ_mul, show i * size + size + j - size = i * size + j by omega]
        exact ih i j z (by simpa using h) hj
  refine ⟨A, len, cap, l, h1, h2, h3, h4, by rw [hfl, h4], fun hpos => ?_⟩
  obtain ⟨b, off, hA, hb, hc⟩ := h5 hpos
  refine ⟨b, off, hA, hb, fun j u hu => ?_⟩
  have hjl : j < l.length * size := by
    rcases Nat.lt_or_ge j (l.length * size) with h | h
    · exact h
    · rw [List.getElem?_eq_none (by rw [hfl]; exact h)] at hu; cases hu
  have hdiv : j / size < l.length := Nat.div_lt_of_lt_mul (by rw [Nat.mul_comm]; exact hjl)
  have hmod : j % size < size := Nat.mod_lt _ h0
  have hj : j = j / size * size + j % size := by rw [Nat.mul_comm]; exact (Nat.div_add_mod j size).symm
  obtain ⟨ci, hci, _, hcj⟩ := hc (j / size) l[j / size] (List.getElem?_eq_getElem hdiv)
  have h6 := hcj (j % size) hmod
  rw [Nat.add_assoc, ← hj] at h6
  rw [h6, hci]
  rw [hj, hget l _ _ _ (List.getElem?_eq_getElem hdiv) hmod] at hu
  exact hu

theorem rd_int {t : TypeId} {n : Nat} {cs : List Value} {y : DataW H × List MemPlace} {k : IntKind} (ht : P.underlying t = some (.int k)) (h : DataW.trod enc P w base spare held n t cs = some y) :
    ∃ z : Int, cs = [.int k z] ∧ (Lit.int k z).wf = true := by
  obtain ⟨z, h1, _, h3⟩ := DataW.trod_int ht h
  exact ⟨z, h1, h3⟩

/-- A struct of one-cell fields: each field's cell, with its own reading. -/
theorem rd_struct {t : TypeId} {fs : Array Field} {n : Nat} {cs : List Value} {y : DataW H × List MemPlace} (ht : P.underlying t = some (.struct fs)) (hone : oneCellFields P fs = true)
    (h : DataW.trod enc P w base spare held n t cs = some y) : ∃ m, ∀ (j : Nat) (f : Field) (v : Value), fs[j]? = some f → cs[j]? = some v → ∃ z, DataW.trod enc P w base spare held m f.type [v] = some z := by
  obtain ⟨ys, n', _, _, _, hyl, hf⟩ := DataW.trod_struct ht h
  refine ⟨n', fun j f v hj hv => ?_⟩
  obtain ⟨ho, hk⟩ := hone_of hone j f hj
  have h1 := hf j f hj
  rw [ho, hk] at h1
  have hjl : j < fs.size := (Array.getElem?_eq_some_iff.1 hj).1
  obtain ⟨hjc, hv'⟩ := List.getElem?_eq_some_iff.1 hv
  have h2 : (cs.drop j).take 1 = [v] := by
    rw [List.drop_eq_getElem_cons hjc, hv']; rfl
  rw [h2, List.getElem?_eq_getElem (by omega)] at h1
  exact ⟨_, h1⟩
end

end Go.Proofs.Ytjcbaelefacolaa
/- A struct with fields of several cells, field by field. Plain law on readings. -/
namespace Go.Proofs.Ytjcbaelefacolaa
open Go Go.RowKit Go.ChangeShapes Go.WideShapes Go.Deep

section
variable {H : Type} {enc : TypeId × Value → H} {P : Program} {w : World} {base : Nat} {spare : Nat → Bool} {held : Bool}
theorem rd_fields {t : TypeId} {fs : Array Field} {n : Nat} {cs : List Value} {y : DataW H × List MemPlace} (ht : P.underlying t = some (.struct fs))
    (h : DataW.trod enc P w base spare held n t cs = some y) : ∃ m, ∀ (j : Nat) (f : Field) (e : TypeId) (o k : Nat), fs[j]? = some f → f.type = e → f.offset = o → P.cellsOf e = k → ∃ z, DataW.trod enc P w base spare held m e ((cs.drop o).take k) = some z := by
  obtain ⟨ys, n', _, _, _, hyl, hf⟩ := DataW.trod_struct ht h
  refine ⟨n', fun j f e o k hj he ho hk => ?_⟩
  have h1 := hf j f hj
  rw [ho, he, hk] at h1
  have hjl : j < fs.size := (Array.getElem?_eq_some_iff.1 hj).1
  rw [List.getElem?_eq_getElem (by omega)] at h1
  exact ⟨_, h1⟩
end
end Go.Proofs.Ytjcbaelefacolaa
/- Requests, and how many there may be, that came in as arguments: where they and their rows lie. Plain law on readings. -/
namespace Go.Proofs.Ytjcbaelefacolaa
open Go Go.RowKit Go.ChangeShapes Go.WideShapes Go.Deep
set_option maxHeartbeats 1000000

theorem CellsIn.came {w : World} {size n : Nat} {A : Option Addr} {xs : List Value} (h : Cells w w.heap.size size A n xs) : CellsIn w 0 w.heap.size size A n xs :=
  ⟨h.1, fun hn => by
    obtain ⟨b, off, e, hlt, hc⟩ := h.2 hn
    exact ⟨b, off, e, Nat.zero_le _, hlt, hc⟩⟩
theorem wf_u32n {z : Int} (h : (Lit.int .u32 z).wf = true) : 0 ≤ z := by
  have := bounds_u32 h
  omega
/-- a request that came in: its SSRCs lie in memory -/
structure RqIn (w : World) (q : Rq) (h : SH) : Prop where
  row : RwIn w 0 1 h.A q.ss.length h.c (q.ss.map (Value.int .u32))
  pos : ∀ x, x ∈ q.ss → 0 ≤ x
theorem RqIn.below {w w' : World} {q : Rq} {h : SH} (k : RqIn w q h) (u : Below w.heap.size w w') : RqIn w' q h := ⟨k.row.below u, k.pos⟩
theorem RqIn.q {w : World} {q : Rq} {h : SH} (k : RqIn w q h) (hf : q.ss.length ≤ 6) : QIn w w.heap.size q h := ⟨k.row.l, k.row.nl, k.row.le, k.row.cm, k.pos, hf⟩
section
variable {H : Type} {enc : TypeId × Value → H} {w : World} {base : Nat} {spare : Nat → Bool} {held : Bool}
theorem rd_nil {P : Program} {t e : TypeId} {fuel : Nat} {A : Option Addr} {n c : Nat} {x : DataW H × List MemPlace} (ht : P.underlying t = some (.slice e)) (hf : DataW.trod enc P w base spare held fuel t [.slice A n c] = some x) : A = none → n = 0 ∧ c = 0 := by
  rintro rfl
  rcases open_slice ht hf with ⟨hcs, _⟩ | ⟨a, len, cap, m, n', D, Pl, hcs, _⟩
  · simp at hcs; exact hcs
  · simp at hcs
theorem rd_ss {fuel : Nat} {cs : List Value} {x : DataW H × List MemPlace} (hf : DataW.trod enc Try.prog w base spare held fuel 43 cs = some x) :
    ∃ (h : SH) (l : List Int), cs = [.slice h.A l.length h.c] ∧ RwIn w 0 1 h.A l.length h.c (l.map (Value.int .u32)) ∧ ∀ x ∈ l, 0 ≤ x := by
  obtain ⟨A, len, cap, l, hcs, hlc, hm, hll, hc⟩ := rd_cells (α := { x : Int // 0 ≤ x }) (fun a => [.int .u32 a.1]) (size := 1) Try.underlying43 (by kernel_rfl) (by omega) (fun n cs y hcl hy => by
    obtain ⟨z, e, wz⟩ := rd_int Try.underlying64 hy
    exact ⟨⟨z, wf_u32n wz⟩, e⟩) (fun _ => rfl) hf
  have hl' : (l.map (·.1)).length = len := by rw [List.length_map]; exact hll
  subst hcs
  have hnl := rd_nil Try.underlying43 hf
  refine ⟨⟨A, cap⟩, l.map (·.1), by rw [hl'], ⟨?_, ?_, by rw [hl']; exact hlc, by unfold maxLen at hm; dsimp only; omega⟩, fun r hr => ?_⟩
  · have e : (l.map (·.1)).map (Value.int .u32) = l.flatMap fun a => [.int .u32 a.1] := by
      rw [flat_one (fun a : { x : Int // 0 ≤ x } => Value.int .u32 a.1), List.map_map]; rfl
    rw [hl', e]; exact CellsIn.came hc
  · rw [hl']; exact hnl
  · obtain ⟨a, _, rfl⟩ := List.mem_map.1 hr
    exact a.2
theorem rd_req {n : Nat} {cs : List Value} {y : DataW H × List MemPlace} (hcl : cs.length = 8) (hy : DataW.trod enc Try.prog w base spare held n 45 cs = some y) : ∃ z : { x : Rq × SH // RqIn w x.1 x.2 }, cs = encQ z.1 := by
  obtain ⟨m, hm⟩ := rd_fields (n := n) (fs := _) Try.underlying45 hy
  match cs, hcl with
  | [c0, c1, c2, c3, c4, c5, c6, c7], _ =>
    obtain ⟨y0, hy0⟩ := hm 0 _ 3 0 1 rfl rfl rfl (by kernel_rfl)
    obtain ⟨y1, hy1⟩ := hm 1 _ 3 1 1 rfl rfl rfl (by kernel_rfl)
    obtain ⟨y2, hy2⟩ := hm 2 _ 3 2 1 rfl rfl rfl (by kernel_rfl)
    obtain ⟨y3, hy3⟩ := hm 3 _ 3 3 1 rfl rfl rfl (by kernel_rfl)
    obtain ⟨y4, hy4⟩ := hm 4 _ 3 4 1 rfl rfl rfl (by kernel_rfl)
    obtain ⟨y5, hy5⟩ := hm 5 _ 43 5 1 rfl rfl rfl (by kernel_rfl)
    obtain ⟨y6, hy6⟩ := hm 6 _ 3 6 1 rfl rfl rfl (by kernel_rfl)
    obtain ⟨y7, hy7⟩ := hm 7 _ 3 7 1 rfl rfl rfl (by kernel_rfl)
    obtain ⟨z0, e0, _⟩ := rd_int Try.underlying3 hy0
    obtain ⟨z1, e1, _⟩ := rd_int Try.underlying3 hy1
    obtain ⟨z2, e2, _⟩ := rd_int Try.underlying3 hy2
    obtain ⟨z3, e3, _⟩ := rd_int Try.underlying3 hy3
    obtain ⟨z4, e4, _⟩ := rd_int Try.underlying3 hy4
    obtain ⟨h5, l5, e5, r5, n5⟩ := rd_ss hy5
    obtain ⟨z6, e6, _⟩ := rd_int Try.underlying3 hy6
    obtain ⟨z7, e7, _⟩ := rd_int Try.underlying3 hy7
    have f0 : c0 = _ := (List.cons.inj e0).1
    have f1 : c1 = _ := (List.cons.inj e1).1
    have f2 : c2 = _ := (List.cons.inj e2).1
    have f3 : c3 = _ := (List.cons.inj e3).1
    have f4 : c4 = _ := (List.cons.inj e4).1
    have f5 : c5 = _ := (List.cons.inj e5).1
    have f6 : c6 = _ := (List.cons.inj e6).1
    have f7 : c7 = _ := (List.cons.inj e7).1
    exact ⟨⟨(⟨z0, z1, z2, z3, z4, l5, z6, z7⟩, h5), ⟨r5, n5⟩⟩, by rw [f0, f1, f2, f3, f4, f5, f6, f7]; rfl⟩
theorem open_reqs {fuel : Nat} {cs : List Value} {x : DataW H × List MemPlace} (hf : DataW.trod enc Try.prog w base spare held fuel 24 cs = some x) :
    ∃ (A : Option Addr) (c : Nat) (l : List (Rq × SH)), cs = [.slice A l.length c] ∧ l.length ≤ c ∧ c ≤ maxLen ∧ CellsIn w 0 w.heap.size 8 A l.length (l.flatMap encQ) ∧ ∀ x ∈ l, RqIn w x.1 x.2 := by
  obtain ⟨A, len, cap, l, hcs, hlc, hm, hll, hc⟩ := rd_cells (α := { x : Rq × SH // RqIn w x.1 x.2 }) (fun a => encQ a.1) (size := 8) Try.underlying24 (by kernel_rfl) (by omega) (fun n cs y hcl hy => rd_req hcl hy) (fun _ => rfl) hf
  have hl' : (l.map (·.1)).length = len := by rw [List.length_map]; exact hll
  refine ⟨A, cap, l.map (·.1), by rw [hl']; exact hcs, by rw [hl']; exact hlc, hm, ?_, fun r hr => ?_⟩
  · rw [hl', List.flatMap_map]; exact CellsIn.came hc
  · obtain ⟨a, _, rfl⟩ := List.mem_map.1 hr
    exact a.2
theorem open_conf {fuel : Nat} {cs : List Value} {x : DataW H × List MemPlace} (hcl : cs.length = 4) (hf : DataW.trod enc Try.prog w base spare held fuel 23 cs = some x) :
    ∃ c : Cf, cs = [.int .i64 c.people, .int .i64 c.tracks, .int .i64 c.subs, .int .i64 c.slots] := by
  obtain ⟨m, hm⟩ := rd_fields (n := fuel) (fs := _) Try.underlying23 hf
  match cs, hcl with
  | [c0, c1, c2, c3], _ =>
    obtain ⟨y0, hy0⟩ := hm 0 _ 3 0 1 rfl rfl rfl (by kernel_rfl)
    obtain ⟨y1, hy1⟩ := hm 1 _ 3 1 1 rfl rfl rfl (by kernel_rfl)
    obtain ⟨y2, hy2⟩ := hm 2 _ 3 2 1 rfl rfl rfl (by kernel_rfl)
    obtain ⟨y3, hy3⟩ := hm 3 _ 3 3 1 rfl rfl rfl (by kernel_rfl)
    obtain ⟨z0, e0, _⟩ := rd_int Try.underlying3 hy0
    obtain ⟨z1, e1, _⟩ := rd_int Try.underlying3 hy1
    obtain ⟨z2, e2, _⟩ := rd_int Try.underlying3 hy2
    obtain ⟨z3, e3, _⟩ := rd_int Try.underlying3 hy3
    have f0 : c0 = _ := (List.cons.inj e0).1
    have f1 : c1 = _ := (List.cons.inj e1).1
    have f2 : c2 = _ := (List.cons.inj e2).1
    have f3 : c3 = _ := (List.cons.inj e3).1
    exact ⟨⟨z0, z1, z2, z3⟩, by rw [f0, f1, f2, f3]⟩
end
end Go.Proofs.Ytjcbaelefacolaa
/- A law: a drawn region with reads, two calls one behind the other, an alloc that floats beside them, and a forced tail. Conditions: the marks that the kernel decides. -/
namespace Go.Proofs.Ytjcbaelefacolaa
open Go Go.RowKit
set_option maxHeartbeats 400000
section
variable {P : Program} {Q : Exit → Act → World → Prop}
def new6 (md : Region.Mode) (ops : Array Oper) (F : List Nat) (k k2 al : Nat) (P2 T2 : List Nat) : Bool :=
  Region.noSelect ops && decide (F.length + (P2.length + T2.length + 3) = ops.size) && pre5 md ops F (Array.replicate ops.size false) && decide (k < ops.size) && decide (k2 < ops.size) && decide (al < ops.size) &&
  decide (Region.ready md ops (markAll F (Array.replicate ops.size false)) = [k, al]) &&
  decide (Region.ready md ops ((markAll F (Array.replicate ops.size false)).setIfInBounds al true) = [k]) &&
  decide (Region.ready md ops ((markAll F (Array.replicate ops.size false)).setIfInBounds k true) = [k2, al]) &&
  decide (Region.ready md ops (((markAll F (Array.replicate ops.size false)).setIfInBounds al true).setIfInBounds k true) = [k2]) &&
  decide (Region.ready md ops (((markAll F (Array.replicate ops.size false)).setIfInBounds k true).setIfInBounds al true) = [k2]) &&
  pre4 md ops T2 P2 ((((markAll F (Array.replicate ops.size false)).setIfInBounds al true).setIfInBounds k true).setIfInBounds k2 true) &&
  pre4 md ops T2 P2 ((((markAll F (Array.replicate ops.size false)).setIfInBounds k true).setIfInBounds al true).setIfInBounds k2 true) &&
  pre4 md ops (al :: T2) P2 (((markAll F (Array.replicate ops.size false)).setIfInBounds k true).setIfInBounds k2 true)

/-- THE REGION: F is taken first; then the calls, and the alloc anywhere beside them; then P2 and T2. -/
theorem wp_new_calls {id : Nat} {a : Act} {w : World} {l : List Oper} (C : World → Prop) (hC : C (w.drewN 1)) (F : List Nat) (k k2 al : Nat) (P2 T2 : List Nat) (hm : P.follows .mixedOrders = true) (hB : new6 .any l.toArray F k k2 al P2 T2 = true)
    (hQ : ∀ c tmps a w, Q (.panic c) { a with tmps := tmps } w → Q (.panic c) a w)
    (h : Nonempty (Cls C) → wpQuiet P l.toArray (fun w' => ∃ x : Cls C, w' = x.w) (fun a' =>
      wpHeldK P l.toArray Q (fun w' => ∃ x : Cls C, w' = x.w) (fun a2 w2 => wpQuiet P l.toArray (fun w' => ∃ x : Cls C, w' = x.w) (fun a3 => wpHeld P l.toArray Q (fun w' => ∃ x : Cls C, w' = x.w) (pick3 l T2) a3 w2) (pick3 l P2) a2) (pick3 l [al, k, k2]) a' (w.drewN 1) ∧
      wpHeldK P l.toArray Q (fun w' => ∃ x : Cls C, w' = x.w) (fun a1 w1 =>
        wpHeldK P l.toArray Q (fun w' => ∃ x : Cls C, w' = x.w) (fun a2 w2 => wpQuiet P l.toArray (fun w' => ∃ x : Cls C, w' = x.w) (fun a3 => wpHeld P l.toArray Q (fun w' => ∃ x : Cls C, w' = x.w) (pick3 l T2) a3 w2) (pick3 l P2) a2) (pick3 l [al, k2]) a1 w1 ∧
        wpHeldK P l.toArray Q (fun w' => ∃ x : Cls C, w' = x.w) (fun a2 w2 => wpQuiet P l.toArray (fun w' => ∃ x : Cls C, w' = x.w) (fun a3 => wpHeld P l.toArray Q (fun w' => ∃ x : Cls C, w' = x.w) (pick3 l (al :: T2)) a3 w2) (pick3 l P2) a2) (pick3 l [k2]) a1 w1) (pick3 l [k]) a' (w.drewN 1)) (pick3 l F) a) :
    (Code.region id l.toArray true).wp P Q a w := by
  have h := h ⟨⟨_, hC⟩⟩
  simp only [new6, Bool.and_eq_true, decide_eq_true_eq] at hB
  obtain ⟨⟨⟨⟨⟨⟨⟨⟨⟨⟨⟨⟨⟨hsel, hlen⟩, hpre⟩, hk⟩, hk2⟩, hal⟩, hr0⟩, hr1⟩, hr2⟩, hr3⟩, hr4⟩, hp1⟩, hp2⟩, hp3⟩ := hB
  have inv0 : Marks4 .any l.toArray (Array.replicate l.toArray.size false) :=
    ⟨by simp, fun j oj _ hl => by rw [getD_replicate_false] at hl; exact absurd hl (by decide)⟩
  have inv1 := marks_all F _ inv0 hpre
  obtain ⟨ok, h0⟩ : ∃ o, l[k]? = some o := ⟨_, List.getElem?_eq_getElem (by simpa using hk)⟩
  have h0' : l.toArray[k]? = some ok := by simpa using h0
  obtain ⟨o2, e0⟩ : ∃ o, l[k2]? = some o := ⟨_, List.getElem?_eq_getElem (by simpa using hk2)⟩
  have e0' : l.toArray[k2]? = some o2 := by simpa using e0
  obtain ⟨oa, g0⟩ : ∃ o, l[al]? = some o := ⟨_, List.getElem?_eq_getElem (by simpa using hal)⟩
  have g0' : l.toArray[al]? = some oa := by simpa using g0
  have mk : k ∈ Region.ready .any l.toArray (markAll F (Array.replicate l.toArray.size false)) := by rw [hr0]; simp
  have ma : al ∈ Region.ready .any l.toArray (markAll F (Array.replicate l.toArray.size false)) := by rw [hr0]; simp
  have mk1 : k ∈ Region.ready .any l.toArray ((markAll F (Array.replicate l.toArray.size false)).setIfInBounds al true) := by rw [hr1]; simp
  have ma2 : al ∈ Region.ready .any l.toArray ((markAll F (Array.replicate l.toArray.size false)).setIfInBounds k true) := by rw [hr2]; simp
  have mc2 : k2 ∈ Region.ready .any l.toArray ((markAll F (Array.replicate l.toArray.size false)).setIfInBounds k true) := by rw [hr2]; simp
  have mc3 : k2 ∈ Region.ready .any l.toArray (((markAll F (Array.replicate l.toArray.size false)).setIfInBounds al true).setIfInBounds k true) := by rw [hr3]; simp
  have mc4 : k2 ∈ Region.ready .any l.toArray (((markAll F (Array.replicate l.toArray.size false)).setIfInBounds k true).setIfInBounds al true) := by rw [hr4]; simp
  refine wp_region_any hm ?_
  have key := pre_anyD2 (P := P) (md := .any) (Q := Q) (m := P2.length + T2.length + 3) (w := { w with drawn := w.drawn + 1 }) (S := fun w' => ∃ x : Cls C, w' = x.w) hsel hQ ⟨⟨_, hC⟩, rfl⟩ F _ a inv0 hpre (wpQuiet_imp (fun a' ha' => ?_) _ _ h)
  · rw [hlen] at key
    exact wpAny_of_D _ _ _ _ key
  obtain ⟨G1, G2⟩ := ha'
  rw [pick3_cons g0, pick3_cons h0, pick3_cons e0] at G1
  rw [pick3_cons h0] at G2
  refine ⟨fun hn => (by rw [hr0] at hn; cases hn), fun i hi => ?_⟩
  rw [hr0] at hi
  rcases List.mem_cons.1 hi with rfl | hi
  · -- the first call first
    refine wpOp_mono (fun a2 w2 h2 => ⟨.inr h2.1, ?_⟩) (op_of_heldK h0' G2)
    obtain ⟨hS2, h2, h3⟩ := h2
    rw [pick3_cons g0, pick3_cons e0] at h2
    rw [pick3_cons e0] at h3
    refine ⟨fun hn => (by rw [hr2] at hn; cases hn), fun j hj => ?_⟩
    rw [hr2] at hj
    rcases List.mem_cons.1 hj with rfl | hj
    · refine wpOp_mono (fun a3 w3 h4 => ⟨.inr h4.1, ?_⟩) (op_of_heldK e0' h3)
      have h5 : wpQuiet P l.toArray (fun w' => ∃ x : Cls C, w' = x.w) (fun a3 => wpHeld P l.toArray Q (fun w' => ∃ x : Cls C, w' = x.w) (pick3 l (al :: T2)) a3 w3) (pick3 l P2) a3 := h4.2
      have := pre_anyD (P := P) (md := .any) (Q := Q) (T := al :: T2) (w := w3) hsel hQ h4.1 P2 _ a3 ((inv1.set mk).set mc2) hp3 h5
      rw [show P2.length + (al :: T2).length = P2.length + T2.length + 1 by simp; omega] at this
      exact this
    · obtain rfl : j = al := by simpa using hj
      refine wpOp_mono (fun a3 w3 h4 => ⟨.inr h4.1, ?_⟩) (op_of_heldK g0' h2)
      refine ⟨fun hn => (by rw [hr4] at hn; cases hn), fun j2 hj2 => ?_⟩
      rw [hr4] at hj2
      obtain rfl : j2 = k2 := by simpa using hj2
      refine wpOp_mono (fun a4 w4 h5 => ⟨.inr h5.1, ?_⟩) (op_of_heldK e0' h4.2)
      have h6 : wpQuiet P l.toArray (fun w' => ∃ x : Cls C, w' = x.w) (fun a3 => wpHeld P l.toArray Q (fun w' => ∃ x : Cls C, w' = x.w) (pick3 l T2) a3 w4) (pick3 l P2) a4 := h5.2
      exact pre_anyD (P := P) (md := .any) (Q := Q) (T := T2) (w := w4) hsel hQ h5.1 P2 _ a4 (((inv1.set mk).set ma2).set mc4) hp2 h6
  · obtain rfl : i = al := by simpa using hi
    refine wpOp_mono (fun a2 w2 h2 => ⟨.inr h2.1, ?_⟩) (op_of_heldK g0' G1)
    refine ⟨fun hn => (by rw [hr1] at hn; cases hn), fun j hj => ?_⟩
    rw [hr1] at hj
    obtain rfl : j = k := by simpa using hj
    refine wpOp_mono (fun a3 w3 h3 => ⟨.inr h3.1, ?_⟩) (op_of_heldK h0' h2.2)
    refine ⟨fun hn => (by rw [hr3] at hn; cases hn), fun j2 hj2 => ?_⟩
    rw [hr3] at hj2
    obtain rfl : j2 = k2 := by simpa using hj2
    refine wpOp_mono (fun a4 w4 h5 => ⟨.inr h5.1, ?_⟩) (op_of_heldK e0' h3.2)
    have h6 : wpQuiet P l.toArray (fun w' => ∃ x : Cls C, w' = x.w) (fun a3 => wpHeld P l.toArray Q (fun w' => ∃ x : Cls C, w' = x.w) (pick3 l T2) a3 w4) (pick3 l P2) a4 := h5.2
    exact pre_anyD (P := P) (md := .any) (Q := Q) (T := T2) (w := w4) hsel hQ h5.1 P2 _ a4 (((inv1.set ma).set mk1).set mc3) hp1 h6
end
end Go.Proofs.Ytjcbaelefacolaa
