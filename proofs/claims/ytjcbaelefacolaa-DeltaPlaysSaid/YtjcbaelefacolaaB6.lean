/- Parts of the proof, one behind the other: DDelP1, DLeave, DDelete, DUnsub, DSelects, DOps, DDo, DHoldsRows, Tail5, DIdxS4. No condition of their own. -/
import Derived.Test.YtjcbaelefacolaaB5
import Derived.Test.YtjcbaelefacolaaB1
import Derived.Test.YtjcbaelefacolaaB2
import Derived.Test.YtjcbaelefacolaaB4
import Derived.Laws.EntriesVeiled
/- slices.DeleteFunc at louver/delta.Person, by the function value (*louver/delta.State).leave$1: what stays, in place. Conditions: what the function value answers; no more than 100000. -/
namespace Go.Proofs.Ytjcbaelefacolaa
open Go Go.RowKit
set_option maxHeartbeats 400000

/-- one element stored -/
def delP1_set (w : World) (b i : Nat) (x : Per) : World := (((w.setCell ⟨b, i * 3, none⟩ (.int .i64 x.who)).setCell ⟨b, i * 3 + 1, none⟩ (.int .i64 x.room)).setCell ⟨b, i * 3 + 2, none⟩ (.int .i64 x.rights))
theorem delP1_row {w : World} {N b n c i : Nat} {X : List Per} (h : w.ownsRow N 75 3 (.slice (some ⟨b, 0, none⟩) n c) n (X.flatMap encP)) (hi : i < X.length) (x : Per) :
    (delP1_set w b i x).ownsRow N 75 3 (.slice (some ⟨b, 0, none⟩) n c) n ((X.set i x).flatMap encP) ∧ Upd [b] w (delP1_set w b i x) := by
  have hy : X[i]? = some X[i] := List.getElem?_eq_getElem hi
  have h1 := (h.stored (i * 3 + 0) (.int .i64 x.who)).1
  rw [flat_set encP_len X i 0 X[i] (⟨x.who, X[i].room, X[i].rights⟩ : Per) _ hy (by omega) rfl] at h1
  have h2 := (h1.stored (i * 3 + 1) (.int .i64 x.room)).1
  rw [flat_set encP_len _ i 1 (⟨x.who, X[i].room, X[i].rights⟩ : Per) (⟨x.who, x.room, X[i].rights⟩ : Per) _ (by rw [List.getElem?_set_self hi]) (by omega) rfl, List.set_set] at h2
  have h3 := (h2.stored (i * 3 + 2) (.int .i64 x.rights)).1
  rw [flat_set encP_len _ i 2 (⟨x.who, x.room, X[i].rights⟩ : Per) x _ (by rw [List.getElem?_set_self hi]) (by omega) rfl, List.set_set] at h3
  exact ⟨h3, (((Upd.refl [b] w).setCell (p := ⟨b, i * 3, none⟩) (.inl (List.mem_singleton.2 rfl)) _).setCell (p := ⟨b, i * 3 + 1, none⟩) (.inl (List.mem_singleton.2 rfl)) _).setCell (p := ⟨b, i * 3 + 2, none⟩) (.inl (List.mem_singleton.2 rfl)) _⟩
set_option maxRecDepth 100000 in
theorem delP1_any {w : World} {N : Nat} {A : Option Addr} {n c : Nat} {R : List Per} (p : Per → Bool) (z : Option Addr) (h : w.ownsRow N 75 3 (.slice A n c) n (R.flatMap encP)) (hn : R.length = n) (hl : n ≤ 100000)
    (hp : ∀ W, Upd (A.toList.map (·.block)) w W → ∀ x, x ∈ R → Calls Try.prog 51 #[.agg (encP x).toArray, .pointer z] W fun e W' => e = .returned (.bool (p x)) ∧ Upd [] W W') :
    Calls Try.prog 50 #[.slice A n c, .func (.func 51) #[] #[.pointer z]] w fun e w' =>
      e = .returned (.slice A (R.filter (fun x => !p x)).length c) ∧ w'.ownsRow N 75 3 (.slice A (R.filter (fun x => !p x)).length c) (R.filter (fun x => !p x)).length ((R.filter (fun x => !p x)).flatMap encP) ∧ Upd (A.toList.map (·.block)) w w' := by
  have HO := Lib.hid h
  have HN := Lib.hid hn
  have HP := Lib.hid hp
  have HI := Lib.hid (idxP1_any p z ((CellsIn.of_own h).more (Nat.zero_le _) (Nat.le_refl _)) hn hl (c := c) (fun W u x hx => hp W (u.more (by simp)) x hx))
  obtain ⟨F, hF⟩ : ∃ F, F = R.filter (fun x => !p x) := ⟨_, rfl⟩
  rw [← hF]
  have HF := Lib.hid hF
  clear h hn hp hF
  go_enter Try.func50, Try.ntmps50
  go_wp2_with fail
  refine HI.out.mono ?_
  rintro e w1 ⟨rfl, hu1⟩
  have HU1 := Lib.hid hu1
  clear hu1 HI
  rcases idxM_or p R with ⟨hr, hall⟩ | ⟨i, x, hr, hi, hx, hpx, hall⟩
  · rw [hr]
    have HE : Hid (F = R) := Lib.hid (by rw [HF.out]; exact List.filter_eq_self.2 (fun y hy => by rw [hall y hy]; rfl))
    clear hr hall
    have HG : Hid (F.length = n ∧ w1.ownsRow N 75 3 (.slice A n c) n (F.flatMap encP) ∧ Upd (A.toList.map (·.block)) w w1) :=
      Lib.hid ⟨by rw [HE.out, HN.out], by rw [HE.out]; exact ownsRow_upd HO.out HU1.out (by simp), HU1.out.more (by simp)⟩
    go_wp2
    go_ret
    rw [HG.out.1]
    exact ⟨rfl, HG.out.2⟩
  · rw [hr]
    have hib : i < n := by rw [← HN.out]; exact (List.getElem?_eq_some_iff.1 hx).1
    obtain ⟨A', c', hve, hnc, hA, _⟩ := own_form HO.out
    injection hve with e1 _ e3
    subst e1
    subst e3
    obtain ⟨b, hb, hb1, hb2⟩ := hA (by omega)
    subst hb
    have hwi : IntKind.i64.wrap ((i : Int) + 1) = (i : Int) + 1 := IntWalk.i64_in _ (by omega)
    have hne1 : ¬ (i : Int) = -1 := by omega
    have HM : Hid (∃ X : List Per, X.length = n ∧ X.take i = (R.take (i + 1)).filter (fun x => !p x) ∧ X.drop (i + 1) = R.drop (i + 1) ∧ w1.ownsRow N 75 3 (.slice (some ⟨b, 0, none⟩) n c) n (X.flatMap encP)) := by
      refine Lib.hid ⟨R, HN.out, ?_, rfl, ownsRow_upd HO.out HU1.out (by simp)⟩
      rw [List.take_add_one, hx, List.filter_append, List.filter_eq_self.2 (fun y hy => by rw [hall y hy]; rfl)]
      simp [hpx]
    clear hr hall hpx hx hA
    go_wp2
    go_loopg [5, 6] n (fun gk x5 x6 wr => ∃ i j : Nat, x5 = .int .i64 i ∧ x6 = .int .i64 j ∧ i < j ∧ j ≤ n ∧ n ≤ j + gk ∧
      (∃ X : List Per, X.length = n ∧ X.take i = (R.take j).filter (fun x => !p x) ∧ X.drop j = R.drop j ∧ wr.ownsRow N 75 3 (.slice (some ⟨b, 0, none⟩) n c) n (X.flatMap encP)) ∧ Upd [b] w wr)
    case atStart => exact ⟨i, i + 1, rfl, by go_num, by omega, by omega, by omega, HM.out, HU1.out.more (by simp)⟩
    case round =>
      obtain ⟨i, j, rfl, rfl, hij, hjn, hgj, ⟨X, hXl, hXt, hXd, hXr⟩, hu⟩ := hrel
      by_cases hlt : j < n
      · have hltj : (j : Int) < (n : Int) := by omega
        have hin : (i : Int) < (n : Int) := by omega
        have hwj : IntKind.i64.wrap ((j : Int) + 1) = (j : Int) + 1 := IntWalk.i64_in _ (by omega)
        have hwi2 : IntKind.i64.wrap ((i : Int) + 1) = (i : Int) + 1 := IntWalk.i64_in _ (by omega)
        obtain ⟨x, hx⟩ : ∃ x, X[j]? = some x := ⟨_, List.getElem?_eq_getElem (by rw [hXl]; exact hlt)⟩
        have hRx : R[j]? = some x := by
          have := congrArg (fun l => l[0]?) hXd
          simp only [List.getElem?_drop] at this
          rw [← hx]; simpa using this.symm
        have hcell := fun (k : Nat) (u : Value) (hu : (X.flatMap encP)[k]? = some u) => (by
          have := hXr.cells (g := b) rfl k u hu
          by_cases hk : k = 0
          · subst hk; exact this
          · simpa [Addr.add, hk] using this : wr.cell? ⟨b, k, none⟩ = some u)
        have hbw : b < wr.heap.size := (own_block_lt hXr (g := b) rfl).2
        obtain ⟨y, hy⟩ : ∃ y, y = p x := ⟨_, rfl⟩
        have hcl := fun (o : Obj) => HP.out (wr.alloc o) (hu.alloc o) x (List.mem_of_getElem? hRx)
        rw [← hy] at hcl
        have HCL := Lib.hid hcl
        have HXX := Lib.hid (And.intro hXl (And.intro hXt (And.intro hXd hXr)))
        have HSK : Hid (y = true → X.take i = (R.take (j + 1)).filter (fun x => !p x) ∧ X.drop (j + 1) = R.drop (j + 1)) := Lib.hid (fun h => by
          refine ⟨?_, ?_⟩
          · rw [List.take_add_one, hRx, List.filter_append, hXt]
            simp [← hy, h]
          · have := congrArg (List.drop 1) hXd
            simpa [List.drop_drop] using this)
        have HST : Hid (y = false → (X.set i x).take (i + 1) = (R.take (j + 1)).filter (fun x => !p x) ∧ (X.set i x).drop (j + 1) = R.drop (j + 1) ∧ (X.set i x).length = n) := Lib.hid (fun h => by
          refine ⟨?_, ?_, by rw [List.length_set, hXl]⟩
          · have hl : (X.set i x).take (i + 1) = X.take i ++ [x] := by
              rw [List.take_add_one, List.getElem?_set_self (by omega), List.take_set_of_le (Nat.le_refl _)]
              rfl
            rw [hl, List.take_add_one (l := R), hRx, List.filter_append, ← hXt]
            simp [← hy, h]
          · rw [List.drop_set_of_lt (by omega)]
            have := congrArg (List.drop 1) hXd
            simpa [List.drop_drop] using this)
        have HXX2 := Lib.hid hx
        have HU := Lib.hid hu
        have HFILL := Lib.hid (fun (w2 : World) (u : Upd [] wr w2) => delP1_row (ownsRow_upd hXr u (by simp)) (i := i) (by rw [hXl]; omega) x)
        unfold delP1_set at HFILL
        have c0 := hcell (j * 3 + 0) _ (flat_get encP_len X j 0 x hx (by omega))
        have c1 := hcell (j * 3 + 1) _ (flat_get encP_len X j 1 x hx (by omega))
        have c2 := hcell (j * 3 + 2) _ (flat_get encP_len X j 2 x hx (by omega))
        obtain ⟨x0, x1, x2⟩ := x
        simp only [encP, List.getElem?_cons_zero, List.getElem?_cons_succ, List.getElem_cons_zero, List.getElem_cons_succ, ← Nat.add_assoc, Nat.add_zero] at c0 c1 c2
        simp only [encP] at HCL
        have HCELL := Lib.hid hcell
        have HBN := Lib.hid hbw
        clear hcell hcl hx hRx hXl hXt hXd hXr hu hy
        go_upto_region 8 with fail
        obtain ⟨w2, hw2⟩ : ∃ w2, w2 = wr.alloc (.cells #[.int .i64 x0, .int .i64 x1, .int .i64 x2] 75) := ⟨_, rfl⟩
        obtain ⟨V, hV⟩ : ∃ V, V = wr.heap.size := ⟨_, rfl⟩
        have hBv : Blk w2 V 75 #[.int .i64 x0, .int .i64 x1, .int .i64 x2] := by rw [hw2, hV]; exact Blk.new _ _ _
        have hu2 : Upd [] wr w2 := by rw [hw2]; exact (Upd.refl [] wr).alloc _
        have hcl2 := HCL.out (.cells #[.int .i64 x0, .int .i64 x1, .int .i64 x2] 75)
        rw [← hw2] at hcl2
        rw [← hw2, ← hV]
        have HCL2 := Lib.hid hcl2
        have HBV := Lib.hid hBv
        have HU2 := Lib.hid hu2
        have HVN : Hid (b ≠ V) := Lib.hid (by rw [hV]; have := HBN.out; omega)
        clear hw2 hV hcl2 hu2 HCL c0 c1 c2
        have v0 := hBv.cell 0
        have v1 := hBv.cell 1
        have v2 := hBv.cell 2
        simp only [List.getElem?_toArray, List.getElem?_cons_zero, List.getElem?_cons_succ] at v0 v1 v2
        clear hBv
        go_wp2_with fail
        refine HCL2.out.mono ?_
        rintro e w3 ⟨rfl, hu3⟩
        have HU3 := Lib.hid (HU2.out.next hu3)
        have HU3' := Lib.hid hu3
        clear hu3 HCL2 v0 v1 v2
        cases y with
        | true =>
          have HS := HSK.out (by trivial)
          have HREL : Hid (∃ X : List Per, X.length = n ∧ X.take i = (R.take (j + 1)).filter (fun x => !p x) ∧ X.drop (j + 1) = R.drop (j + 1) ∧ w3.ownsRow N 75 3 (.slice (some ⟨b, 0, none⟩) n c) n (X.flatMap encP)) :=
            Lib.hid ⟨X, HXX.out.1, HS.1, HS.2, ownsRow_upd HXX.out.2.2.2 HU3.out (by simp)⟩
          clear HS
          go_wp2
          go_roundg (gk - 1)
          case measure => omega
          case rel => exact ⟨i, j + 1, rfl, by go_num, by omega, by omega, by omega, HREL.out, HU.out.next (HU3.out.more (by simp))⟩
        | false =>
          have HS := HST.out (by trivial)
          have hf3 := HFILL.out w3 HU3.out
          obtain ⟨y, hy⟩ : ∃ y, X[i]? = some y := ⟨_, List.getElem?_eq_getElem (by rw [HXX.out.1]; omega)⟩
          have hX3 := ownsRow_upd HXX.out.2.2.2 HU3.out (by simp)
          have hcell2 := fun (k : Nat) (u : Value) (hu : (X.flatMap encP)[k]? = some u) => (by
            have := hX3.cells (g := b) rfl k u hu
            by_cases hk : k = 0
            · subst hk; exact this
            · simpa [Addr.add, hk] using this : w3.cell? ⟨b, k, none⟩ = some u)
          have hfz2 := fun (k : Nat) => (by
            have := hX3.frozenAt k
            by_cases hk : k = 0
            · subst hk; exact this
            · simpa [Addr.add, hk] using this : w3.frozen? ⟨b, k, none⟩ = false)
          have hBx := HBV.out.upd HU3'.out (by simp)
          have e0 := hcell2 (i * 3 + 0) _ (flat_get encP_len X i 0 y hy (by omega))
          have f0 := hfz2 (i * 3 + 0)
          have b0 := hBx.cell 0
          have e1 := hcell2 (i * 3 + 1) _ (flat_get encP_len X i 1 y hy (by omega))
          have f1 := hfz2 (i * 3 + 1)
          have b1 := hBx.cell 1
          have e2 := hcell2 (i * 3 + 2) _ (flat_get encP_len X i 2 y hy (by omega))
          have f2 := hfz2 (i * 3 + 2)
          have b2 := hBx.cell 2
          simp only [List.getElem?_toArray, List.getElem?_cons_zero, List.getElem?_cons_succ] at b0 b1 b2
          simp only [encP, List.getElem?_cons_zero, List.getElem?_cons_succ, List.getElem_cons_zero, List.getElem_cons_succ, ← Nat.add_assoc, Nat.add_zero] at e0 e1 e2
          simp only [← Nat.add_assoc, Nat.add_zero] at f0 f1 f2
          have hbne := HVN.out
          obtain ⟨w4, hw4⟩ : ∃ w4, w4 = delP1_set w3 b i (⟨x0, x1, x2⟩ : Per) := ⟨_, rfl⟩
          unfold delP1_set at hw4
          dsimp only at hw4 hf3
          rw [← hw4] at hf3
          have HREL : Hid ((∃ X : List Per, X.length = n ∧ X.take (i + 1) = (R.take (j + 1)).filter (fun x => !p x) ∧ X.drop (j + 1) = R.drop (j + 1) ∧ w4.ownsRow N 75 3 (.slice (some ⟨b, 0, none⟩) n c) n (X.flatMap encP)) ∧ Upd [b] w w4) :=
            Lib.hid ⟨⟨X.set i (⟨x0, x1, x2⟩ : Per), HS.2.2, HS.1, HS.2.1, hf3.1⟩, (HU.out.next (HU3.out.more (by simp))).next hf3.2⟩
          clear HS hf3 hX3 hcell2 hfz2 hBx hy HFILL HCELL
          go_upto_region 10 with fail
          rw [← hw4]
          clear hw4 e0 f0 b0 e1 f1 b1 e2 f2 b2
          go_wp2
          go_roundg (gk - 1)
          case measure => omega
          case rel => exact ⟨i + 1, j + 1, by go_num, by go_num, by omega, by omega, by omega, HREL.out.1, HREL.out.2⟩
      · obtain rfl : j = n := by omega
        rw [← HN.out, List.take_length] at hXt
        have hif : i = F.length := by rw [HF.out, ← hXt, List.length_take, hXl]; omega
        obtain ⟨w3, hclr, hrow, hu3⟩ := run_clear_tail (i := i) (size := 3) (P := Try.prog) (t := 27) (ty := 0) (zc := [.int .i64 0, .int .i64 0, .int .i64 0]) Try.underlying27 (fun w => by kernel_rfl) rfl (by decide) hXr (by omega) (c - i)
        rw [flat_take encP_len, hXt, ← HF.out] at hrow
        have HG := Lib.hid (And.intro hif (And.intro hrow (hu.next hu3)))
        have hcn := hnc
        have hini : (i : Int) < (j : Int) := by omega
        clear hXl hXt hXd hXr hu hrow hu3 hif
        go_wp2
        go_ret
        rw [← HG.out.1]
        exact ⟨rfl, HG.out.2.1, HG.out.2.2⟩
end Go.Proofs.Ytjcbaelefacolaa
/- The layer delta: Leave. Conditions: what always holds of a state; the state in a box. -/
namespace Go.Proofs.Ytjcbaelefacolaa
open Go Go.RowKit
set_option maxHeartbeats 400000

set_option maxRecDepth 100000 in
set_option maxHeartbeats 2000000 in
theorem leave_any {w : World} {B T : Nat} {s : St} {h : SHd} {q : Rq} {qh : SH} (k : TIn w B T s h) (hi : Inv s) (hB : B ≤ w.heap.size) :
    Calls Try.prog 23 #[.pointer (some ⟨T, 0, none⟩), .agg (qcells q qh).toArray] w fun e w' => e = .returned (.int .i64 (leaveM s q).2) ∧ ((leaveM s q).2 = 0 → ∃ h', TIn w' B T (leaveM s q).1 h') ∧ Below B w w' := by
  have hnp : s.ps.length ≤ 16 := by have := hi.np; have := hi.cp; omega
  have hnt : s.ts.length ≤ 16 := by have := hi.nt; have := hi.ct; omega
  have hnb : s.bs.length ≤ 64 := by have := hi.nb; have := hi.cl; omega
  obtain ⟨sf, hsf⟩ : ∃ sf, sf = (leaveM s q).1 := ⟨_, rfl⟩
  have hs0 : (leaveM s q).2 = 0 := rfl
  rw [hs0, ← hsf]
  have hsf' : sf = dropM { s with ps := s.ps.filter (fun p => !decide (p.who = q.who)), bs := s.bs.filter (fun b => !decide (b.who = q.who)) } (fun t => decide (t.owner = q.who)) := hsf
  obtain ⟨kd, who, room, rights, track, ss, layer, tid⟩ := q
  obtain ⟨qA, qc⟩ := qh
  unfold qcells
  dsimp only at hsf' ⊢
  obtain ⟨ql, hql⟩ : ∃ ql, ql = ss.length := ⟨_, rfl⟩
  rw [← hql]
  obtain ⟨W, hW⟩ : ∃ W, W = w.alloc (.cells #[.int .i64 kd, .int .i64 who, .int .i64 room, .int .i64 rights, .int .i64 track, .slice qA ql qc, .int .i64 layer, .int .i64 tid] 45) := ⟨_, rfl⟩
  obtain ⟨Z, hZ⟩ : ∃ Z, Z = w.heap.size := ⟨_, rfl⟩
  have hZB : Blk W Z 45 #[.int .i64 kd, .int .i64 who, .int .i64 room, .int .i64 rights, .int .i64 track, .slice qA ql qc, .int .i64 layer, .int .i64 tid] := by rw [hW, hZ]; exact Blk.new _ _ _
  have hu0 : Upd [] w W := by rw [hW]; exact (Upd.refl [] w).alloc _
  have kW := k.upd hu0
  have hBW : B ≤ W.heap.size := Nat.le_trans hB hu0.size
  have hc1 := delP1_any (w := W) (fun p => decide (p.who = who)) (some ⟨Z, 0, none⟩) kW.r.p rfl (by omega) (fun W2 u x _ => leave1_any ((hZB.upd u (fun hm => own_box kW.r.p hZB (by decide) (own_in kW.r.p Z hm).1)).cell 1) x)
  obtain ⟨z0, z1, z2, z3, z4, z5, z6⟩ := box_cells kW.box
  have HC1 := Lib.hid hc1
  have HKW := Lib.hid kW
  have HZB := Lib.hid hZB
  have HU0 := Lib.hid hu0
  have HB := Lib.hid (And.intro hB hBW)
  have HI := Lib.hid hi
  have HN := Lib.hid (And.intro hnp (And.intro hnt hnb))
  have HSF := Lib.hid hsf'
  clear hc1 kW hZB hu0 hBW hi hnp hnt hnb hsf' hsf k hB hql z0 z1 z2 z3 z5 z6 hs0
  go_enter Try.func23, Try.ntmps23
  go_upto_region 1 with fail
  rw [← hW, ← hZ]
  clear hW hZ
  go_wp2_with fail
  refine HC1.out.mono ?_
  rintro e w1 ⟨rfl, ho, hu1⟩
  have hput := HKW.out.putP hu1 (ps' := s.ps.filter (fun p => !decide (p.who = who))) (A' := h.pA) (c' := h.pc) ho
  obtain ⟨m1, hm1⟩ : ∃ m1, m1 = (s.ps.filter (fun p => !decide (p.who = who))).length := ⟨_, rfl⟩
  rw [← hm1] at hput
  rw [← hm1]
  have hb1 := HKW.out.box.upd hu1 (fun hm => own_box HKW.out.r.p HKW.out.box (by decide) (own_in HKW.out.r.p T hm).1)
  have f4 := hb1.frozen 4
  have c4 : w1.cell? ⟨T, 4, none⟩ = some (.slice h.pA s.ps.length h.pc) := hb1.cell 4
  have HPUT := Lib.hid hput
  clear hput ho hu1 hb1 hm1 HC1 z4
  go_upto_region 2 with fail
  obtain ⟨w2, hw2⟩ : ∃ w2, w2 = w1.setCell ⟨T, 4, none⟩ (.slice h.pA m1 h.pc) := ⟨_, rfl⟩
  rw [← hw2] at HPUT ⊢
  have k2 := HPUT.out.1
  have hZ2 := HZB.out.upd HPUT.out.2 (fun hm => by
    rcases List.mem_cons.1 hm with e | hm
    · exact (HZB.out.ne HKW.out.box (by decide)) e
    · exact own_box HKW.out.r.p HZB.out (by decide) (own_in HKW.out.r.p Z hm).1)
  have HB2 : Hid (Below B w w2) := Lib.hid ((HU0.out.below HB.out.1 (by simp)).trans (below_of HPUT.out.2 HKW.out.BT HB.out.2 (fun s hs => (own_in HKW.out.r.p s hs).2)))
  have hc2 := delS2_any (w := w2) (fun b => decide (b.who = who)) (some ⟨Z, 0, none⟩) k2.r.b rfl (by dsimp only; have := HN.out.2.2; omega) (fun W2 u x _ => leave2_any ((hZ2.upd u (fun hm => own_box k2.r.b hZ2 (by decide) (own_in k2.r.b Z hm).1)).cell 1) x)
  have z6 : w2.cell? ⟨T, 6, none⟩ = some (.slice h.bA s.bs.length h.bc) := k2.box.cell 6
  have HC2 := Lib.hid hc2
  have HK2 := Lib.hid k2
  have HZ2 := Lib.hid hZ2
  clear hw2 k2 hZ2 hc2 f4 c4 HPUT HKW HZB HU0
  go_wp2_with fail
  refine HC2.out.mono ?_
  rintro e w3 ⟨rfl, ho, hu3⟩
  have hput := HK2.out.putB hu3 (bs' := s.bs.filter (fun b => !decide (b.who = who))) (A' := h.bA) (c' := h.bc) ho
  dsimp only
  obtain ⟨m3, hm3⟩ : ∃ m3, m3 = (s.bs.filter (fun b => !decide (b.who = who))).length := ⟨_, rfl⟩
  rw [← hm3] at hput
  rw [← hm3]
  have hb3 := HK2.out.box.upd hu3 (fun hm => own_box HK2.out.r.b HK2.out.box (by decide) (own_in HK2.out.r.b T hm).1)
  have f6 := hb3.frozen 6
  have c6 : w3.cell? ⟨T, 6, none⟩ = some (.slice h.bA s.bs.length h.bc) := hb3.cell 6
  have HPUT := Lib.hid hput
  clear hput ho hu3 hb3 hm3 HC2 z6
  go_upto_region 3 with fail
  obtain ⟨w4, hw4⟩ : ∃ w4, w4 = w3.setCell ⟨T, 6, none⟩ (.slice h.bA m3 h.bc) := ⟨_, rfl⟩
  rw [← hw4] at HPUT ⊢
  have k4 := HPUT.out.1
  have hZ4 := HZ2.out.upd HPUT.out.2 (fun hm => by
    rcases List.mem_cons.1 hm with e | hm
    · exact (HZ2.out.ne HK2.out.box (by decide)) e
    · exact own_box HK2.out.r.b HZ2.out (by decide) (own_in HK2.out.r.b Z hm).1)
  have hB2s := Nat.le_trans HB.out.1 HB2.out.size
  have HB4 : Hid (Below B w w4) := Lib.hid (HB2.out.trans (below_of HPUT.out.2 HK2.out.BT hB2s (fun s hs => (own_in HK2.out.r.b s hs).2)))
  have hc3 := dropT3_any k4 HI.out.ut (by dsimp only; have := HN.out.2.1; omega) (by dsimp only; have := List.length_filter_le (fun b : Sb => !decide (b.who = who)) s.bs; have := HN.out.2.2; omega) (Nat.le_trans HB.out.1 HB4.out.size) (fun t => decide (t.owner = who)) (some ⟨Z, 0, none⟩)
    (fun W2 u x => leave3_any ((hZ4.upd u (fun hm => own_box k4.r.t hZ4 (by decide) (own_in k4.r.t Z hm).1)).cell 1) x)
  have HC3 := Lib.hid hc3
  clear hw4 k4 hZ4 hc3 f6 c6 HPUT HK2 HZ2 hB2s
  go_wp2_with fail
  refine HC3.out.mono ?_
  rintro e w5 ⟨rfl, ⟨h', ht'⟩, hb5⟩
  have HFIN : Hid ((∃ h', TIn w5 B T sf h') ∧ Below B w w5) := Lib.hid ⟨⟨h', by rw [HSF.out]; exact ht'⟩, HB4.out.trans hb5⟩
  clear ht' hb5 HC3
  go_wp2
  go_ret
  exact ⟨rfl, fun _ => HFIN.out.1, HFIN.out.2⟩
end Go.Proofs.Ytjcbaelefacolaa
/- slices.Delete of one sub. Conditions: it is there; a row of the call's own; no more than 1000. -/
namespace Go.Proofs.Ytjcbaelefacolaa
open Go Go.RowKit
set_option maxHeartbeats 400000

theorem del_cells {C xs : List Value} {a k L m : Nat} (hx : xs = C.take L) (ha : a + k ≤ L) (hm : (xs.drop (a + k)).length = m) (hc : L ≤ C.length) :
    (C.take a ++ xs.drop (a + k) ++ C.drop (a + (xs.drop (a + k)).length)).take (L - k) = xs.take a ++ xs.drop (a + k) := by
  have hxl : xs.length = L := by rw [hx, List.length_take]; omega
  have h1 : C.take a = xs.take a := by rw [hx, List.take_take]; congr 1; omega
  rw [h1, List.take_left' (by simp [hxl]; omega)]
set_option maxRecDepth 100000 in
set_option maxHeartbeats 1000000 in
theorem delete_any {w : World} {N : Nat} {A : Option Addr} {n c i : Nat} {xs : List Value} (h : w.ownsRow N 55 5 (.slice A n c) n xs) (hi : i < n) (hl : n ≤ 1000) (h1 : ∀ u ∈ xs, u.oneCell' = true) :
    Calls Try.prog 65 #[.slice A n c, .int .i64 i, .int .i64 ((i : Int) + 1)] w fun e w' =>
      e = .returned (.slice A (n - 1) c) ∧ w'.ownsRow N 55 5 (.slice A (n - 1) c) (n - 1) (xs.take (i * 5) ++ xs.drop ((i + 1) * 5)) ∧ Upd (A.toList.map (·.block)) w w' := by
  obtain ⟨j0, hj0, hy0, hy1, hy2⟩ := info_parts infoS
  have hxl := h.1
  have hcm := own_cap h
  rcases h.2 with ⟨_, hn⟩ | ⟨g, cap', cur, hve, hNg, hg, hncx, hcmx, hcs, htk⟩
  · omega
  injection hve with e1 _ e3
  subst e1
  subst e3
  have hdl : (xs.drop ((i + 1) * 5)).length = (n - (i + 1)) * 5 := by rw [List.length_drop, hxl, ← Nat.sub_mul]
  obtain ⟨C1, hC1⟩ : ∃ C1, C1 = cur.toList.take (i * 5) ++ xs.drop ((i + 1) * 5) ++ cur.toList.drop (i * 5 + (xs.drop ((i + 1) * 5)).length) := ⟨_, rfl⟩
  have hcl : cur.toList.length = c * 5 := by simpa using hcs
  have hc1l : C1.length = c * 5 := by rw [hC1, seg_length (by rw [hdl, hcl]; omega), hcl]
  obtain ⟨w1, hw1⟩ : ∃ w1, w1 = (w.drewN 1).setRow g C1.toArray := ⟨_, rfl⟩
  have hap : ∀ ty sc (a : Addr), (n = i + 1 ∨ a = ⟨g, (i + 1) * 5, none⟩) → (Builtin.append_ #[29, 29] ty #[.slice (some ⟨g, 0, none⟩) i c, .slice (some a) (n - (i + 1)) sc]).run Try.prog (w.drewN 1) = .ok (.slice (some ⟨g, 0, none⟩) (n - 1) c) w1 := fun ty sc a ha => by
    have hr := run_append_room (P := Try.prog) (w.drewN 1) 29 ty 55 j0 Try.underlying29 hj0 g i c cur hg a (n - (i + 1)) sc (xs.drop ((i + 1) * 5)) (by rw [hy1]; exact hdl) (fun j v hj => by
      rcases ha with ha | ha
      · rw [List.drop_eq_nil_of_le (by rw [hxl, ha]; exact Nat.le_refl _)] at hj; cases hj
      · subst ha
        rw [List.getElem?_drop, ← htk, List.getElem?_take] at hj
        split at hj
        · rw [show ((⟨g, (i + 1) * 5, none⟩ : Addr).add j) = ⟨g, (i + 1) * 5 + j, none⟩ by unfold Addr.add; split <;> simp_all, cell_of_row (w.drewN 1) g ((i + 1) * 5 + j) cur _ _ hg]
          simpa using hj
        · cases hj) (fun v hv => h1 v (List.mem_of_mem_drop hv)) (by omega) (by rw [hy1, hdl, hcs]; omega)
    rw [hr, hw1, hC1, hy1, show i + (n - (i + 1)) = n - 1 by omega]
  have hown1 : w1.ownsRow N 55 5 (.slice (some ⟨g, 0, none⟩) n c) n (C1.take (n * 5)) := by
    refine ⟨by rw [List.length_take, hc1l]; omega, .inr ⟨g, c, _, rfl, hNg, by rw [hw1]; exact setRow_heap _ g cur _ _ _ hg, hncx, hcmx, by rw [List.size_toArray, hc1l], rfl⟩⟩
  obtain ⟨w2, hclr, hrow, hu2⟩ := run_clear_tail (i := n - 1) (size := 5) (P := Try.prog) (t := 29) (ty := 0) (zc := [.int .i64 0, .int .i64 0, .int .i64 0, .int .i64 0, .bool false]) Try.underlying29 (fun w => by kernel_rfl) rfl (by decide) hown1 (by omega) (c - (n - 1))
  have HFIN : Hid (w2.ownsRow N 55 5 (.slice (some ⟨g, 0, none⟩) (n - 1) c) (n - 1) (xs.take (i * 5) ++ xs.drop ((i + 1) * 5)) ∧ Upd [g] w w2) := by
    refine Lib.hid ⟨?_, ?_⟩
    · have hd := del_cells (C := cur.toList) (xs := xs) (a := i * 5) (k := 5) (L := n * 5) (m := (n - (i + 1)) * 5) htk.symm (by omega) (by rw [← hdl]; congr 2; omega) (by rw [hcl]; omega)
      rw [show i * 5 + 5 = (i + 1) * 5 by omega, ← hC1] at hd
      rw [List.take_take, show min ((n - 1) * 5) (n * 5) = n * 5 - 5 by omega, hd] at hrow
      exact hrow
    · have u1 : Upd [g] w w1 := by rw [hw1]; exact ((Upd.refl [g] w).drewN 1).next upd_setRow
      exact u1.next hu2
  have hin : (i : Int) ≤ (n : Int) := by omega
  have hb1 : (i : Int) + 1 ≤ (n : Int) := by omega
  have hb2 : ¬ (i : Int) = (i : Int) + 1 := by omega
  have hb3 : ¬ (c = i) := by omega
  have hq2 : IntKind.i64.wrap ((i : Int) + 1) = (i : Int) + 1 := IntWalk.i64_in _ (by omega)
  have HAP := Lib.hid hap
  have HCLR := Lib.hid hclr
  clear hw1 hC1 hc1l hap hown1 hclr hrow hu2 h1 h hg hcs htk hcl hdl hxl
  go_enter Try.func65, Try.ntmps65
  by_cases hce : c = i + 1
  · obtain rfl : n = i + 1 := by omega
    subst hce
    have HA1 : Hid (∀ ty, (Builtin.append_ #[29, 29] ty #[.slice (some ⟨g, 0, none⟩) i (i + 1), .slice (some ⟨g, 0, none⟩) 0 0]).run Try.prog (w.drewN 1) = .ok (.slice (some ⟨g, 0, none⟩) i (i + 1)) w1) := Lib.hid (fun ty => by
      have := HAP.out ty 0 ⟨g, 0, none⟩ (.inl rfl)
      rw [Nat.sub_self, Nat.add_sub_cancel] at this
      exact this)
    have HC1 : Hid ((Builtin.clear_ #[29] 0 #[.slice (some ⟨g, i * 5, none⟩) 1 1]).run Try.prog w1 = .ok (.tuple #[]) w2) := by
      have := HCLR.out
      rw [Nat.add_sub_cancel, show i + 1 - i = 1 by omega] at this
      exact this
    rw [Nat.add_sub_cancel] at HFIN ⊢
    go_wp2
    refine wp_held_tail (fun _ => True) trivial [0, 1, 2, 3, 4, 5] [6, 7] (by kernel_rfl) (by kernel_rfl) (fun _ _ _ _ h => h) ?_
    intro hne
    simp only [pick3, List.map_cons, List.map_nil, List.getElem?_cons_zero, List.getElem?_cons_succ, Option.getD_some]
    repeat (go_big_quiet_step (fail))
    refine wpQuiet_nil ?_
    refine wpHeld_step rfl fun K hK => ?_
    refine Lib.wp_append_run _ (.tmp 22) (.tmp 25) 29 29 rfl _ _ rfl rfl _ _ (HA1.out _) ?_
    refine hK.out _ _ (.inr ⟨⟨w1, trivial⟩, rfl⟩) ?_
    clear hK K
    refine wpHeld_last ?_
    have hclr := HC1.out
    go_wp2
    go_ret
    exact ⟨rfl, HFIN.out.1, HFIN.out.2⟩
  · have hce2 : ¬ c = i + 1 := hce
    go_wp2
    refine wp_held_tail (fun _ => True) trivial [0, 1, 2, 3, 4, 5] [6, 7] (by kernel_rfl) (by kernel_rfl) (fun _ _ _ _ h => h) ?_
    intro hne
    simp only [pick3, List.map_cons, List.map_nil, List.getElem?_cons_zero, List.getElem?_cons_succ, Option.getD_some]
    repeat (go_big_quiet_step (fail))
    refine wpQuiet_nil ?_
    refine wpHeld_step rfl fun K hK => ?_
    refine Lib.wp_append_run _ (.tmp 22) (.tmp 25) 29 29 rfl _ _ rfl rfl _ _ (HAP.out _ _ _ (.inr rfl)) ?_
    refine hK.out _ _ (.inr ⟨⟨w1, trivial⟩, rfl⟩) ?_
    clear hK K
    refine wpHeld_last ?_
    have hclr := HCLR.out
    go_wp2
    go_ret
    exact ⟨rfl, HFIN.out.1, HFIN.out.2⟩
end Go.Proofs.Ytjcbaelefacolaa
/- The layer delta: Unsubscribe. Conditions: what always holds of a state; the state in a box. -/
namespace Go.Proofs.Ytjcbaelefacolaa
open Go Go.RowKit
set_option maxHeartbeats 400000

set_option maxRecDepth 100000 in
set_option maxHeartbeats 2000000 in
theorem unsub_any {w : World} {B T : Nat} {s : St} {h : SHd} {q : Rq} {qh : SH} (k : TIn w B T s h) (hi : Inv s) (hB : B ≤ w.heap.size) :
    Calls Try.prog 28 #[.pointer (some ⟨T, 0, none⟩), .agg (qcells q qh).toArray] w fun e w' => e = .returned (.int .i64 (unsubscribeM s q).2) ∧ ((unsubscribeM s q).2 = 0 → ∃ h', TIn w' B T (unsubscribeM s q).1 h') ∧ Below B w w' := by
  have hnb : s.bs.length ≤ 64 := by have := hi.nb; have := hi.cl; omega
  have HP := Lib.hid (fun (W : World) (u : Upd [] w W) => sub_any (w := W) (s := s) (h := h) (k.upd u).r.st.b (by omega) hi.ub q.who q.track)
  obtain ⟨r, hr⟩ : ∃ r, r = unsubscribeM s q := ⟨_, rfl⟩
  rw [← hr]
  have HR := Lib.hid hr
  clear hr
  obtain ⟨kd, who, room, rights, track, ss, layer, tid⟩ := q
  obtain ⟨qA, qc⟩ := qh
  unfold qcells
  dsimp only at HP ⊢
  obtain ⟨ql, hql⟩ : ∃ ql, ql = ss.length := ⟨_, rfl⟩
  rw [← hql]
  have HQL := Lib.hid hql
  obtain ⟨W, hW⟩ : ∃ W, W = w.alloc (.cells #[.int .i64 kd, .int .i64 who, .int .i64 room, .int .i64 rights, .int .i64 track, .slice qA ql qc, .int .i64 layer, .int .i64 tid] 45) := ⟨_, rfl⟩
  obtain ⟨Z, hZ⟩ : ∃ Z, Z = w.heap.size := ⟨_, rfl⟩
  have hZB : Blk W Z 45 #[.int .i64 kd, .int .i64 who, .int .i64 room, .int .i64 rights, .int .i64 track, .slice qA ql qc, .int .i64 layer, .int .i64 tid] := by rw [hW, hZ]; exact Blk.new _ _ _
  have hu0 : Upd [] w W := by rw [hW]; exact (Upd.refl [] w).alloc _
  obtain ⟨lo, hlo⟩ : ∃ lo, lo = low (cB who track) s.bs := ⟨_, rfl⟩
  obtain ⟨ha, hha⟩ : ∃ ha, ha = has (cB who track) s.bs := ⟨_, rfl⟩
  rw [← hlo, ← hha] at HP
  have HLO := Lib.hid hlo
  have HHA := Lib.hid hha
  have hkW := k.upd hu0
  have HK := Lib.hid hkW
  have HB := Lib.hid (And.intro hB (Nat.le_trans hB hu0.size))
  have HU0 := Lib.hid hu0
  have HI := Lib.hid hi
  have HZB := Lib.hid hZB
  obtain ⟨z0, z1, z2, z3, z4, z5, z6⟩ := box_cells hkW.box
  obtain ⟨n, hn⟩ : ∃ n, n = s.ps.length := ⟨_, rfl⟩
  obtain ⟨n2, hn2⟩ : ∃ n2, n2 = s.ts.length := ⟨_, rfl⟩
  obtain ⟨n3, hn3⟩ : ∃ n3, n3 = s.bs.length := ⟨_, rfl⟩
  unfold scells at HP
  rw [← hn, ← hn2, ← hn3] at HP
  rw [← hn] at z4
  rw [← hn2] at z5
  rw [← hn3] at z6 hnb
  have HN := Lib.hid (And.intro hn (And.intro hn2 hn3))
  have hTl := hkW.box.lt
  have hZl := hZB.lt
  have y0 : ∀ z : Cls (Upd [] W), z.w.cell? ⟨T, 0, none⟩ = _ := fun z => (z.h.cell (p := ⟨T, 0, none⟩) hTl (by simp)).trans z0
  have y1 : ∀ z : Cls (Upd [] W), z.w.cell? ⟨T, 1, none⟩ = _ := fun z => (z.h.cell (p := ⟨T, 1, none⟩) hTl (by simp)).trans z1
  have y2 : ∀ z : Cls (Upd [] W), z.w.cell? ⟨T, 2, none⟩ = _ := fun z => (z.h.cell (p := ⟨T, 2, none⟩) hTl (by simp)).trans z2
  have y3 : ∀ z : Cls (Upd [] W), z.w.cell? ⟨T, 3, none⟩ = _ := fun z => (z.h.cell (p := ⟨T, 3, none⟩) hTl (by simp)).trans z3
  have y4 : ∀ z : Cls (Upd [] W), z.w.cell? ⟨T, 4, none⟩ = _ := fun z => (z.h.cell (p := ⟨T, 4, none⟩) hTl (by simp)).trans z4
  have y5 : ∀ z : Cls (Upd [] W), z.w.cell? ⟨T, 5, none⟩ = _ := fun z => (z.h.cell (p := ⟨T, 5, none⟩) hTl (by simp)).trans z5
  have y6 : ∀ z : Cls (Upd [] W), z.w.cell? ⟨T, 6, none⟩ = _ := fun z => (z.h.cell (p := ⟨T, 6, none⟩) hTl (by simp)).trans z6
  have q1 : ∀ z : Cls (Upd [] W), z.w.cell? ⟨Z, 1, none⟩ = some (.int .i64 who) := fun z => (z.h.cell (p := ⟨Z, 1, none⟩) hZl (by simp)).trans (hZB.cell 1)
  have q4 : ∀ z : Cls (Upd [] W), z.w.cell? ⟨Z, 4, none⟩ = some (.int .i64 track) := fun z => (z.h.cell (p := ⟨Z, 4, none⟩) hZl (by simp)).trans (hZB.cell 4)
  have HPC := Lib.hid (fun (z : Cls (Upd [] W)) => quiet_cls (C := Upd [] W) (x := z) ((HP.out z.w (hu0.next z.h)).mono fun e w' h => ⟨h.1, z.h.next h.2⟩))
  clear hlo hha hkW hn hn2 hn3 z0 z1 z2 z3 z4 z5 z6 hu0 hi k hB hZB HP hql
  go_enter Try.func28, Try.ntmps28
  go_upto_region 1 with fail
  rw [← hW, ← hZ]
  clear hW hZ
  refine wp_class_tail (Upd [] W) ((Upd.refl _ _).drewN 1) 12 (by kernel_rfl) (by kernel_rfl) (fun _ _ _ _ h => h) ?_
  intro hne
  simp only [List.take_succ_cons, List.take_zero, List.drop_succ_cons, List.drop_zero]
  repeat (go_big_quiet_step ((go_at_call 44; with_reducible exact HPC.out _)))
  refine wpQuiet_nil ?_
  rintro _ ⟨xe, rfl⟩
  have hux := xe.h
  obtain ⟨w1, hw1⟩ : ∃ W2, W2 = xe.w := ⟨_, rfl⟩
  rw [← hw1] at hux ⊢
  have HU1 := Lib.hid (HU0.out.next hux)
  have HK1 := Lib.hid (HK.out.upd hux)
  have HZ1 := Lib.hid (HZB.out.upd hux (by simp))
  have hB1 : B ≤ w1.heap.size := Nat.le_trans HB.out.2 hux.size
  have HB1 := Lib.hid hB1
  clear hw1 hux y0 y1 y2 y3 y4 y5 y6 q1 q4 HPC HK HZB hB1
  cases ha with
  | false =>
    have HX : Hid (r = (s, 21)) := Lib.hid (by
      rw [HR.out]
      unfold unsubscribeM
      dsimp only
      rw [if_pos HHA.out.symm])
    go_wp2
    go_ret
    exact ⟨ret_int (by rw [HX.out]), fun h0 => absurd h0 (by rw [HX.out]; simp), HU1.out.below HB.out.1 (by simp)⟩
  | true =>
  have hlon : lo < n3 := by
    obtain ⟨x, hx, _⟩ := (rise_has (HI.out.ub.rise who track)).1 HHA.out.symm
    have := (List.getElem?_eq_some_iff.1 hx).1
    rw [HLO.out, HN.out.2.2]; exact this
  have HX : Hid (r = ({ s with bs := s.bs.eraseIdx lo }, 0)) := Lib.hid (by
    rw [HR.out]
    unfold unsubscribeM
    dsimp only
    rw [if_neg (by rw [← HHA.out]; decide), ← HLO.out])
  have hcall := delete_any (i := lo) HK1.out.r.b (by rw [← HN.out.2.2]; exact hlon) (by rw [← HN.out.2.2]; omega) (flat_ones encB_one s.bs)
  have hfl : (s.bs.flatMap encB).take (lo * 5) ++ (s.bs.flatMap encB).drop ((lo + 1) * 5) = (s.bs.eraseIdx lo).flatMap encB := erase_flat encB_len s.bs lo
  have hel : (s.bs.eraseIdx lo).length = n3 - 1 := by rw [List.length_eraseIdx, if_pos (by rw [← HN.out.2.2]; exact hlon), ← HN.out.2.2]
  rw [hfl, ← HN.out.2.2] at hcall
  have HCALL := Lib.hid hcall
  have HEL := Lib.hid hel
  obtain ⟨z0, z1, z2, z3, z4, z5, z6⟩ := box_cells HK1.out.box
  rw [← HN.out.2.2] at z6
  have hw : IntKind.i64.wrap ((lo : Int) + 1) = (lo : Int) + 1 := IntWalk.i64_in _ (by omega)
  clear z0 z1 z2 z3 z4 z5 hcall hfl hel
  go_wp2_with fail
  refine HCALL.out.mono ?_
  rintro e w2 ⟨rfl, ho, hu2⟩
  have hput := HK1.out.putB hu2 (bs' := s.bs.eraseIdx lo) (A' := h.bA) (c' := h.bc) (by rw [HEL.out]; exact ho)
  rw [HEL.out] at hput
  have hb2 := HK1.out.box.upd hu2 (fun hm => own_box HK1.out.r.b HK1.out.box (by decide) (own_in HK1.out.r.b T hm).1)
  have f6 := hb2.frozen 6
  have c6 : w2.cell? ⟨T, 6, none⟩ = some (.slice h.bA n3 h.bc) := by have := hb2.cell 6; rw [HN.out.2.2]; exact this
  have HPUT := Lib.hid hput
  clear hput ho hu2 hb2 HCALL z6
  go_upto_region 5 with fail
  obtain ⟨w3, hw3⟩ : ∃ w3, w3 = w2.setCell ⟨T, 6, none⟩ (.slice h.bA (n3 - 1) h.bc) := ⟨_, rfl⟩
  rw [← hw3] at HPUT ⊢
  have HFIN : Hid (Below B w w3) := Lib.hid ((HU1.out.below HB.out.1 (by simp)).trans (below_of HPUT.out.2 HK1.out.BT HB1.out (fun s hs => (own_in HK1.out.r.b s hs).2)))
  clear hw3 f6 c6
  go_wp2
  go_ret
  exact ⟨ret_int (by rw [HX.out]), fun _ => ⟨_, by rw [HX.out]; exact HPUT.out.1⟩, HFIN.out⟩
end Go.Proofs.Ytjcbaelefacolaa
/- The layer delta: Select. Conditions: what always holds of a state; the state in a box. -/
namespace Go.Proofs.Ytjcbaelefacolaa
open Go Go.RowKit
set_option maxHeartbeats 400000

set_option maxRecDepth 100000 in
set_option maxHeartbeats 2000000 in
theorem selects_any {w : World} {B T : Nat} {s : St} {h : SHd} {q : Rq} {qh : SH} (k : TIn w B T s h) (hi : Inv s) (hB : B ≤ w.heap.size) :
    Calls Try.prog 31 #[.pointer (some ⟨T, 0, none⟩), .agg (qcells q qh).toArray] w fun e w' => e = .returned (.int .i64 (selectsM s q).2) ∧ ((selectsM s q).2 = 0 → ∃ h', TIn w' B T (selectsM s q).1 h') ∧ Below B w w' := by
  have hnb : s.bs.length ≤ 64 := by have := hi.nb; have := hi.cl; omega
  have HP := Lib.hid (fun (W : World) (u : Upd [] w W) => sub_any (w := W) (s := s) (h := h) (k.upd u).r.st.b (by omega) hi.ub q.who q.track)
  obtain ⟨r, hr⟩ : ∃ r, r = selectsM s q := ⟨_, rfl⟩
  rw [← hr]
  have HR := Lib.hid hr
  clear hr
  obtain ⟨kd, who, room, rights, track, ss, layer, tid⟩ := q
  obtain ⟨qA, qc⟩ := qh
  unfold qcells
  dsimp only at HP ⊢
  obtain ⟨ql, hql⟩ : ∃ ql, ql = ss.length := ⟨_, rfl⟩
  rw [← hql]
  have HQL := Lib.hid hql
  obtain ⟨W, hW⟩ : ∃ W, W = w.alloc (.cells #[.int .i64 kd, .int .i64 who, .int .i64 room, .int .i64 rights, .int .i64 track, .slice qA ql qc, .int .i64 layer, .int .i64 tid] 45) := ⟨_, rfl⟩
  obtain ⟨Z, hZ⟩ : ∃ Z, Z = w.heap.size := ⟨_, rfl⟩
  have hZB : Blk W Z 45 #[.int .i64 kd, .int .i64 who, .int .i64 room, .int .i64 rights, .int .i64 track, .slice qA ql qc, .int .i64 layer, .int .i64 tid] := by rw [hW, hZ]; exact Blk.new _ _ _
  have hu0 : Upd [] w W := by rw [hW]; exact (Upd.refl [] w).alloc _
  obtain ⟨lo, hlo⟩ : ∃ lo, lo = low (cB who track) s.bs := ⟨_, rfl⟩
  obtain ⟨ha, hha⟩ : ∃ ha, ha = has (cB who track) s.bs := ⟨_, rfl⟩
  rw [← hlo, ← hha] at HP
  have HLO := Lib.hid hlo
  have HHA := Lib.hid hha
  have hkW := k.upd hu0
  have HK := Lib.hid hkW
  have HB := Lib.hid (And.intro hB (Nat.le_trans hB hu0.size))
  have HU0 := Lib.hid hu0
  have HI := Lib.hid hi
  have HZB := Lib.hid hZB
  obtain ⟨z0, z1, z2, z3, z4, z5, z6⟩ := box_cells hkW.box
  obtain ⟨n, hn⟩ : ∃ n, n = s.ps.length := ⟨_, rfl⟩
  obtain ⟨n2, hn2⟩ : ∃ n2, n2 = s.ts.length := ⟨_, rfl⟩
  obtain ⟨n3, hn3⟩ : ∃ n3, n3 = s.bs.length := ⟨_, rfl⟩
  unfold scells at HP
  rw [← hn, ← hn2, ← hn3] at HP
  rw [← hn] at z4
  rw [← hn2] at z5
  rw [← hn3] at z6 hnb
  have HN := Lib.hid (And.intro hn (And.intro hn2 hn3))
  have hTl := hkW.box.lt
  have hZl := hZB.lt
  have y0 : ∀ z : Cls (Upd [] W), z.w.cell? ⟨T, 0, none⟩ = _ := fun z => (z.h.cell (p := ⟨T, 0, none⟩) hTl (by simp)).trans z0
  have y1 : ∀ z : Cls (Upd [] W), z.w.cell? ⟨T, 1, none⟩ = _ := fun z => (z.h.cell (p := ⟨T, 1, none⟩) hTl (by simp)).trans z1
  have y2 : ∀ z : Cls (Upd [] W), z.w.cell? ⟨T, 2, none⟩ = _ := fun z => (z.h.cell (p := ⟨T, 2, none⟩) hTl (by simp)).trans z2
  have y3 : ∀ z : Cls (Upd [] W), z.w.cell? ⟨T, 3, none⟩ = _ := fun z => (z.h.cell (p := ⟨T, 3, none⟩) hTl (by simp)).trans z3
  have y4 : ∀ z : Cls (Upd [] W), z.w.cell? ⟨T, 4, none⟩ = _ := fun z => (z.h.cell (p := ⟨T, 4, none⟩) hTl (by simp)).trans z4
  have y5 : ∀ z : Cls (Upd [] W), z.w.cell? ⟨T, 5, none⟩ = _ := fun z => (z.h.cell (p := ⟨T, 5, none⟩) hTl (by simp)).trans z5
  have y6 : ∀ z : Cls (Upd [] W), z.w.cell? ⟨T, 6, none⟩ = _ := fun z => (z.h.cell (p := ⟨T, 6, none⟩) hTl (by simp)).trans z6
  have q1 : ∀ z : Cls (Upd [] W), z.w.cell? ⟨Z, 1, none⟩ = some (.int .i64 who) := fun z => (z.h.cell (p := ⟨Z, 1, none⟩) hZl (by simp)).trans (hZB.cell 1)
  have q4 : ∀ z : Cls (Upd [] W), z.w.cell? ⟨Z, 4, none⟩ = some (.int .i64 track) := fun z => (z.h.cell (p := ⟨Z, 4, none⟩) hZl (by simp)).trans (hZB.cell 4)
  have HPC := Lib.hid (fun (z : Cls (Upd [] W)) => quiet_cls (C := Upd [] W) (x := z) ((HP.out z.w (hu0.next z.h)).mono fun e w' h => ⟨h.1, z.h.next h.2⟩))
  clear hlo hha hkW hn hn2 hn3 z0 z1 z2 z3 z4 z5 z6 hu0 hi k hB hZB HP hql
  go_enter Try.func31, Try.ntmps31
  go_upto_region 1 with fail
  rw [← hW, ← hZ]
  clear hW hZ
  refine wp_class_tail (Upd [] W) ((Upd.refl _ _).drewN 1) 12 (by kernel_rfl) (by kernel_rfl) (fun _ _ _ _ h => h) ?_
  intro hne
  simp only [List.take_succ_cons, List.take_zero, List.drop_succ_cons, List.drop_zero]
  repeat (go_big_quiet_step ((go_at_call 44; with_reducible exact HPC.out _)))
  refine wpQuiet_nil ?_
  rintro _ ⟨xe, rfl⟩
  have hux := xe.h
  obtain ⟨w1, hw1⟩ : ∃ W2, W2 = xe.w := ⟨_, rfl⟩
  rw [← hw1] at hux ⊢
  have HU1 := Lib.hid (HU0.out.next hux)
  have HK1 := Lib.hid (HK.out.upd hux)
  have HZ1 := Lib.hid (HZB.out.upd hux (by simp))
  have hB1 : B ≤ w1.heap.size := Nat.le_trans HB.out.2 hux.size
  have HB1 := Lib.hid hB1
  clear hw1 hux y0 y1 y2 y3 y4 y5 y6 q1 q4 HPC HK HZB hB1
  cases ha with
  | false =>
    have HX : Hid (r = (s, 21)) := Lib.hid (by
      rw [HR.out]
      unfold selectsM
      dsimp only
      rw [if_pos HHA.out.symm])
    go_wp2
    go_ret
    exact ⟨ret_int (by rw [HX.out]), fun h0 => absurd h0 (by rw [HX.out]; simp), HU1.out.below HB.out.1 (by simp)⟩
  | true =>
  have hlon : lo < n3 := by
    obtain ⟨x, hx, _⟩ := (rise_has (HI.out.ub.rise who track)).1 HHA.out.symm
    have := (List.getElem?_eq_some_iff.1 hx).1
    rw [HLO.out, HN.out.2.2]; exact this
  have hly := layers_any w1 kd who room rights track layer tid qA ql qc
  obtain ⟨y, hy⟩ : ∃ y, y = (decide (0 ≤ layer) && decide (layer ≤ 2) && decide (0 ≤ tid) && decide (tid ≤ 3)) := ⟨_, rfl⟩
  rw [← hy] at hly
  have HLY := Lib.hid hly
  have HY : Hid (layersM ⟨kd, who, room, rights, track, ss, layer, tid⟩ = y) := Lib.hid (by rw [hy]; rfl)
  have t0 := HZ1.out.cell 0
  have t1 := HZ1.out.cell 1
  have t2 := HZ1.out.cell 2
  have t3 := HZ1.out.cell 3
  have t4 := HZ1.out.cell 4
  have t5 := HZ1.out.cell 5
  have t6 := HZ1.out.cell 6
  have t7 := HZ1.out.cell 7
  simp only [List.getElem?_toArray, List.getElem?_cons_zero, List.getElem?_cons_succ] at t0 t1 t2 t3 t4 t5 t6 t7
  clear hly hy
  go_wp2_with fail
  refine HLY.out.mono ?_
  rintro e w2 ⟨rfl, hu2⟩
  have HU2 := Lib.hid (HU1.out.next hu2)
  have HK2 := Lib.hid (HK1.out.upd hu2)
  have HZ2 := Lib.hid (HZ1.out.upd hu2 (by simp))
  have HB2 := Lib.hid (Nat.le_trans HB1.out hu2.size)
  clear hu2 HLY t0 t1 t2 t3 t4 t5 t6 t7 HK1 HZ1 HB1
  cases y with
  | false =>
    have HX : Hid (r = (s, 1)) := Lib.hid (by
      rw [HR.out]
      unfold selectsM
      dsimp only
      rw [if_neg (by rw [← HHA.out]; decide), if_pos HY.out])
    go_wp2
    go_ret
    exact ⟨ret_int (by rw [HX.out]), fun h0 => absurd h0 (by rw [HX.out]; simp), HU2.out.below HB.out.1 (by simp)⟩
  | true =>
  obtain ⟨x, hx⟩ : ∃ x, s.bs[lo]? = some x := ⟨_, List.getElem?_eq_getElem (by rw [← HN.out.2.2]; exact hlon)⟩
  have hsa : subAt s who track = x := by unfold subAt; rw [← HLO.out, hx]; rfl
  have HX : Hid (r = ({ s with bs := s.bs.set lo { x with layer := layer, tid := tid } }, 0)) := Lib.hid (by
    rw [HR.out]
    unfold selectsM
    dsimp only
    rw [if_neg (by rw [← HHA.out]; decide), if_neg (by rw [HY.out]; decide), hsa, ← HLO.out])
  obtain ⟨A0, c0, hve, hnc, hA, _⟩ := own_form HK2.out.r.b
  injection hve with e1 _ e3
  obtain ⟨g, hg, hg1, hg2⟩ := hA (by rw [← HN.out.2.2]; omega)
  rw [← e1] at hg
  have hrow := HK2.out.r.b
  rw [hg] at hrow
  have hTg : T ≠ g := fun e => own_box HK2.out.r.b HK2.out.box (by decide) (by rw [e, hg]; rfl)
  have hZg : Z ≠ g := fun e => own_box HK2.out.r.b HZ2.out (by decide) (by rw [e, hg]; rfl)
  obtain ⟨z0, z1, z2, z3, z4, z5, z6⟩ := box_cells HK2.out.box
  rw [← HN.out.2.2, hg] at z6
  have hTl := HK2.out.box.lt
  have y6 : ∀ z : Cls (Upd [g] w2), z.w.cell? ⟨T, 6, none⟩ = _ := fun z => (z.h.cell (p := ⟨T, 6, none⟩) hTl (by simpa using hTg)).trans z6
  have q6 : ∀ z : Cls (Upd [g] w2), z.w.cell? ⟨Z, 6, none⟩ = some (.int .i64 layer) := fun z => (z.h.cell (p := ⟨Z, 6, none⟩) HZ2.out.lt (by simpa using hZg)).trans (HZ2.out.cell 6)
  have q7 : ∀ z : Cls (Upd [g] w2), z.w.cell? ⟨Z, 7, none⟩ = some (.int .i64 tid) := fun z => (z.h.cell (p := ⟨Z, 7, none⟩) HZ2.out.lt (by simpa using hZg)).trans (HZ2.out.cell 7)
  have hrow' := ownsRow_upd hrow ((Upd.refl [] w2).drewN 1) (by simp)
  have hset := (hrow'.stored (lo * 5 + 2) (.int .i64 layer)).1
  rw [flat_set encB_len s.bs lo 2 x { x with layer := layer } _ hx (by omega) rfl] at hset
  obtain ⟨w3, hw3⟩ : ∃ w3, w3 = (w2.drewN 1).setCell ⟨g, lo * 5 + 2, none⟩ (.int .i64 layer) := ⟨_, rfl⟩
  rw [← hw3] at hset
  have hset' := ownsRow_upd hset ((Upd.refl [] w3).drewN 1) (by simp)
  have hset2 := (hset'.stored (lo * 5 + 3) (.int .i64 tid)).1
  rw [flat_set encB_len _ lo 3 { x with layer := layer } { x with layer := layer, tid := tid } _ (by rw [List.getElem?_set_self (by rw [← HN.out.2.2]; exact hlon)]) (by omega) rfl, List.set_set] at hset2
  have hcellg := fun (W : World) (X : List Value) (hr : W.ownsRow B 55 5 (.slice (some ⟨g, 0, none⟩) s.bs.length h.bc) s.bs.length X) (k : Nat) (u : Value) (hu : X[k]? = some u) => (by
    have := hr.cells (g := g) rfl k u hu
    by_cases hk : k = 0
    · subst hk; exact this
    · simpa [Addr.add, hk] using this : W.cell? ⟨g, k, none⟩ = some u)
  have hfz := fun (W : World) (X : List Value) (hr : W.ownsRow B 55 5 (.slice (some ⟨g, 0, none⟩) s.bs.length h.bc) s.bs.length X) (k : Nat) => (by
    have := hr.frozenAt k
    by_cases hk : k = 0
    · subst hk; exact this
    · simpa [Addr.add, hk] using this : W.frozen? ⟨g, k, none⟩ = false)
  obtain ⟨w4, hw4⟩ : ∃ w4, w4 = (w3.drewN 1).setCell ⟨g, lo * 5 + 3, none⟩ (.int .i64 tid) := ⟨_, rfl⟩
  rw [← hw4] at hset2
  have u3 : Upd [g] w2 w3 := by rw [hw3]; exact ((Upd.refl [g] w2).drewN 1).setCell (.inl (by simp)) _
  have u4 : Upd [g] w3 w4 := by rw [hw4]; exact ((Upd.refl [g] w3).drewN 1).setCell (.inl (by simp)) _
  have hput := HK2.out.setB hg (u3.next u4) (bs' := s.bs.set lo { x with layer := layer, tid := tid }) (by rw [List.length_set]) hset2
  have HPUT := Lib.hid hput
  have HFIN : Hid (Below B w w4) := Lib.hid ((HU2.out.below HB.out.1 (by simp)).trans ((u3.next u4).below HB2.out (fun t ht => by rw [List.mem_singleton] at ht; subst ht; exact hg1)))
  have x2 := hcellg (w2.drewN 1) _ hrow' (lo * 5 + 2) _ (flat_get encB_len s.bs lo 2 x hx (by omega))
  have f2 := hfz (w2.drewN 1) _ hrow' (lo * 5 + 2)
  have hx3 : (s.bs.set lo { x with layer := layer })[lo]? = some { x with layer := layer } := List.getElem?_set_self (by rw [← HN.out.2.2]; exact hlon)
  have x3 := hcellg (w3.drewN 1) _ hset' (lo * 5 + 3) _ (flat_get encB_len _ lo 3 _ hx3 (by omega))
  have f3 := hfz (w3.drewN 1) _ hset' (lo * 5 + 3)
  have y6' : ∀ z : Cls (Upd [g] w3), z.w.cell? ⟨T, 6, none⟩ = _ := fun z => y6 ⟨z.w, u3.next z.h⟩
  have q7' : ∀ z : Cls (Upd [g] w3), z.w.cell? ⟨Z, 7, none⟩ = some (.int .i64 tid) := fun z => q7 ⟨z.w, u3.next z.h⟩
  have X3 := Lib.hid (And.intro x3 f3)
  have Y6 := Lib.hid y6'
  have Q7 := Lib.hid q7'
  have hloi : (lo : Int) < (n3 : Int) := by omega
  clear hx hsa hg hrow hrow' hTg hZg hset hset' hset2 hcellg hfz hA e1 e3 hnc hg1 hg2 z0 z1 z2 z3 z4 z5 z6 hput hx3 u3 u4 x3 f3 y6' q7'
  go_wp2
  refine wp_held_tail (Upd [g] w2) ((Upd.refl _ _).drewN 1) [0, 1, 2, 3, 4, 5, 6, 7, 8] [9] (by kernel_rfl) (by kernel_rfl) (fun _ _ _ _ h => h) ?_
  intro hne
  simp only [pick3, List.map_cons, List.map_nil, List.getElem?_cons_zero, List.getElem?_cons_succ, Option.getD_some]
  repeat (go_big_quiet_step (fail))
  refine wpQuiet_nil ?_
  refine wpHeld_last ?_
  go_wp2
  rw [← hw3]
  clear hw3 y6 q6 q7 x2 f2
  obtain ⟨x3, f3⟩ := X3.out
  have y6 := Y6.out
  have q7 := Q7.out
  try go_wp2
  refine wp_held_tail (Upd [g] w3) ((Upd.refl _ _).drewN 1) [0, 1, 2, 3, 4, 5, 6, 7, 8] [9] (by kernel_rfl) (by kernel_rfl) (fun _ _ _ _ h => h) ?_
  intro hne
  simp only [pick3, List.map_cons, List.map_nil, List.getElem?_cons_zero, List.getElem?_cons_succ, Option.getD_some]
  repeat (go_big_quiet_step (fail))
  refine wpQuiet_nil ?_
  refine wpHeld_last ?_
  go_wp2
  rw [← hw4]
  clear hw4
  go_ret
  exact ⟨ret_int (by rw [HX.out]), fun _ => ⟨_, by rw [HX.out]; exact HPUT.out⟩, HFIN.out⟩
end Go.Proofs.Ytjcbaelefacolaa
/- The layer delta: the ten operations, as one law. Conditions: what always holds of a state; the state in a box. -/
namespace Go.Proofs.Ytjcbaelefacolaa
open Go Go.RowKit
set_option maxHeartbeats 400000

/-- an error, or no change -/
theorem err_ite {s : St} {c : Prop} [Decidable c] {a b : St × Int} (h1 : a.2 ≠ 0 → a.1 = s) (h2 : b.2 ≠ 0 → b.1 = s) : (if c then a else b).2 ≠ 0 → (if c then a else b).1 = s := by
  by_cases hc : c
  · rw [if_pos hc]; exact h1
  · rw [if_neg hc]; exact h2
theorem err_no {s s' : St} : ((s', (0 : Int)) : St × Int).2 ≠ 0 → ((s', (0 : Int)) : St × Int).1 = s := fun h => absurd rfl h
theorem err_yes {s : St} {e : Int} : ((s, e) : St × Int).2 ≠ 0 → ((s, e) : St × Int).1 = s := fun _ => rfl
theorem err_join (s : St) (q : Rq) : (joinM s q).2 ≠ 0 → (joinM s q).1 = s := by
  unfold joinM
  repeat' first | exact err_yes | exact err_no | apply err_ite
theorem err_leave (s : St) (q : Rq) : (leaveM s q).2 ≠ 0 → (leaveM s q).1 = s := by
  unfold leaveM
  repeat' first | exact err_yes | exact err_no | apply err_ite
theorem err_publish (s : St) (q : Rq) : (publishM s q).2 ≠ 0 → (publishM s q).1 = s := by
  unfold publishM
  repeat' first | exact err_yes | exact err_no | apply err_ite
theorem err_unpublish (s : St) (q : Rq) : (unpublishM s q).2 ≠ 0 → (unpublishM s q).1 = s := by
  unfold unpublishM
  repeat' first | exact err_yes | exact err_no | apply err_ite
theorem err_replace (s : St) (q : Rq) : (replaceM s q).2 ≠ 0 → (replaceM s q).1 = s := by
  unfold replaceM
  repeat' first | exact err_yes | exact err_no | apply err_ite
theorem err_subscribe (s : St) (q : Rq) : (subscribeM s q).2 ≠ 0 → (subscribeM s q).1 = s := by
  unfold subscribeM
  repeat' first | exact err_yes | exact err_no | apply err_ite
theorem err_unsubscribe (s : St) (q : Rq) : (unsubscribeM s q).2 ≠ 0 → (unsubscribeM s q).1 = s := by
  unfold unsubscribeM
  repeat' first | exact err_yes | exact err_no | apply err_ite
theorem err_mutes (s : St) (q : Rq) (m : Bool) : (mutesM s q m).2 ≠ 0 → (mutesM s q m).1 = s := by
  unfold mutesM
  repeat' first | exact err_yes | exact err_no | apply err_ite
theorem err_selects (s : St) (q : Rq) : (selectsM s q).2 ≠ 0 → (selectsM s q).1 = s := by
  unfold selectsM
  repeat' first | exact err_yes | exact err_no | apply err_ite
theorem err_same (s : St) (q : Rq) : (doM s q).2 ≠ 0 → (doM s q).1 = s := by
  unfold doM
  repeat' first | exact err_yes | exact err_no | exact err_join s q | exact err_leave s q | exact err_publish s q | exact err_unpublish s q | exact err_replace s q | exact err_subscribe s q | exact err_unsubscribe s q | exact err_mutes s q _ | exact err_selects s q | apply err_ite
theorem op_any {w : World} {B T f : Nat} {s : St} {h : SHd} {q : Rq} {qh : SH} (k : TIn w B T s h) (hi : Inv s) (hB : B ≤ w.heap.size) (hQ : QIn w B q qh) (h0 : 0 ≤ q.kind) (h9 : q.kind ≤ 9) (hh : q.kind ≠ 0 → has (cP q.who) s.ps = true)
    (hf : f = 22 + q.kind.toNat) :
    Calls Try.prog f #[.pointer (some ⟨T, 0, none⟩), .agg (qcells q qh).toArray] w fun e w' => e = .returned (.int .i64 (doM s q).2) ∧ ((doM s q).2 = 0 → ∃ h', TIn w' B T (doM s q).1 h') ∧ Below B w w' := by
  have hd : doM s q = if q.kind = 0 then joinM s q
      else if q.kind = 1 then leaveM s q
      else if q.kind = 2 then publishM s q
      else if q.kind = 3 then unpublishM s q
      else if q.kind = 4 then replaceM s q
      else if q.kind = 5 then subscribeM s q
      else if q.kind = 6 then unsubscribeM s q
      else if q.kind = 7 then mutesM s q true
      else if q.kind = 8 then mutesM s q false
      else selectsM s q := by
    unfold doM
    rw [if_neg (by omega), if_neg (by rintro ⟨a, b⟩; rw [hh a] at b; exact absurd b (by decide))]
  have hk : q.kind = 0 ∨ q.kind = 1 ∨ q.kind = 2 ∨ q.kind = 3 ∨ q.kind = 4 ∨ q.kind = 5 ∨ q.kind = 6 ∨ q.kind = 7 ∨ q.kind = 8 ∨ q.kind = 9 := by omega
  rcases hk with e | e | e | e | e | e | e | e | e | e
  all_goals
    rw [e] at hd hf
    subst hf
  · rw [if_pos rfl] at hd
    rw [hd]; exact join_any k hi hB
  · rw [if_neg (by decide), if_pos rfl] at hd
    rw [hd]; exact leave_any k hi hB
  · rw [if_neg (by decide), if_neg (by decide), if_pos rfl] at hd
    rw [hd]; exact publish_any k hi hB hQ (hh (by omega))
  · iterate 3 rw [if_neg (by decide)] at hd
    rw [if_pos rfl] at hd
    rw [hd]; exact unpub_any k hi hB
  · iterate 4 rw [if_neg (by decide)] at hd
    rw [if_pos rfl] at hd
    rw [hd]; exact replace_any k hi hB hQ
  · iterate 5 rw [if_neg (by decide)] at hd
    rw [if_pos rfl] at hd
    rw [hd]; exact subscribe_any k hi hB hQ (hh (by omega))
  · iterate 6 rw [if_neg (by decide)] at hd
    rw [if_pos rfl] at hd
    rw [hd]; exact unsub_any k hi hB
  · iterate 7 rw [if_neg (by decide)] at hd
    rw [if_pos rfl] at hd
    rw [hd]; exact mute_any k hi hB
  · iterate 8 rw [if_neg (by decide)] at hd
    rw [if_pos rfl] at hd
    rw [hd]; exact unmute_any k hi hB
  · iterate 9 rw [if_neg (by decide)] at hd
    rw [hd]; exact selects_any k hi hB
end Go.Proofs.Ytjcbaelefacolaa
/- The layer delta: Do. Conditions: what always holds of a state; the state in a box. -/
namespace Go.Proofs.Ytjcbaelefacolaa
open Go Go.RowKit
set_option maxHeartbeats 400000

/-- no row of a state lies in block g -/
structure Av (g : Nat) (s : St) (h : SHd) : Prop where
  p : 0 < s.ps.length → ∀ a, h.pA = some a → a.block ≠ g
  t : 0 < s.ts.length → ∀ a, h.tA = some a → a.block ≠ g
  b : 0 < s.bs.length → ∀ a, h.bA = some a → a.block ≠ g
  ss : ∀ x, x ∈ h.tx → 0 < x.1.ss.length → ∀ a, x.2.A = some a → a.block ≠ g
theorem RwIn.av {w : World} {lo size n c g : Nat} {A : Option Addr} {xs : List Value} (h : RwIn w lo size A n c xs) (hg : w.heap.size ≤ g) : 0 < n → ∀ a, A = some a → a.block ≠ g := fun hn a ha => by
  obtain ⟨b, off, hA, _, hb, _⟩ := h.l.2 hn
  rw [hA] at ha
  obtain rfl := Option.some.inj ha
  dsimp only
  omega
theorem Av.fresh {w : World} {s : St} {h : SHd} {g : Nat} (k : StIn w s h) (hg : w.heap.size ≤ g) : Av g s h := ⟨k.p.av hg, k.t.av hg, k.b.av hg, fun x hx => (k.ss x hx).av hg⟩
theorem RwIn.past {w w' : World} {size n c g : Nat} {A : Option Addr} {xs : List Value} (h : RwIn w 0 size A n c xs) (u : Upd [g] w w') (hS : 0 < n → ∀ a, A = some a → a.block ≠ g) : RwIn w' 0 size A n c xs :=
  ⟨(h.l.upd2 u (Nat.le_refl _) (fun s hs hn a ha => by rw [List.mem_singleton] at hs; subst hs; exact hS hn a ha)).more (Nat.le_refl _) u.size, h.nl, h.le, h.cm⟩
/-- a state in memory, its rows elsewhere than in block g -/
structure StAv (w : World) (g : Nat) (s : St) (h : SHd) : Prop where
  st : StIn w s h
  av : Av g s h
theorem StIn.past {w w' : World} {s : St} {h : SHd} {g : Nat} (k : StIn w s h) (u : Upd [g] w w') (a : Av g s h) : StIn w' s h :=
  ⟨k.p.past u a.p, k.t.past u a.t, k.b.past u a.b, k.tx, fun x hx => (k.ss x hx).past u (a.ss x hx)⟩
theorem StAv.upd {w w' : World} {g : Nat} {s : St} {h : SHd} (k : StAv w g s h) (u : Upd [] w w') : StAv w' g s h := ⟨k.st.upd u, k.av⟩
theorem StAv.past {w w' : World} {g : Nat} {s : St} {h : SHd} (k : StAv w g s h) (u : Upd [g] w w') : StAv w' g s h := ⟨k.st.past u k.av, k.av⟩
theorem own_av {w : World} {B size n c g : Nat} {e : TypeId} {A : Option Addr} {xs : List Value} (h : w.ownsRow B e size (.slice A n c) n xs) (hg : g < B) : 0 < n → ∀ a, A = some a → a.block ≠ g := fun _ a ha => by
  subst ha
  have := (own_block_lt h (g := a.block) rfl).1
  omega
theorem TR.av {w : World} {B g : Nat} {s : St} {h : SHd} (k : TR w B s h) (hl : g < B) : Av g s h := ⟨own_av k.p hl, own_av k.t hl, own_av k.b hl, fun x hx => own_av (k.ss x hx) hl⟩
theorem callFunc_go {P : Program} {f : FuncId} {fn : Func} (hf : P.funcs[f]? = some fn) (hn : (fn.name == "runtime.NumGoroutine") = false) (hb : fn.body.isNone = false) (args : Array Value) (w : World) :
    (callFunc f args).run P w = .ok (.enter f args) w := by
  have hb' : fn.body ≠ none := by intro h; rw [h] at hb; cases hb
  have hn' : fn.name ≠ "runtime.NumGoroutine" := by intro h; rw [h] at hn; revert hn; decide
  simp [callFunc, hf, hn', hb', go_sem]
theorem call_op {kn : Nat} (hk : kn ≤ 9) (args : Array Value) (w : World) : (callFunc (22 + kn) args).run Try.prog w = .ok (.enter (22 + kn) args) w := by
  have hc : kn = 0 ∨ kn = 1 ∨ kn = 2 ∨ kn = 3 ∨ kn = 4 ∨ kn = 5 ∨ kn = 6 ∨ kn = 7 ∨ kn = 8 ∨ kn = 9 := by omega
  rcases hc with rfl | rfl | rfl | rfl | rfl | rfl | rfl | rfl | rfl | rfl
  · exact callFunc_go Try.func22 (by kernel_rfl) (by kernel_rfl) _ _
  · exact callFunc_go Try.func23 (by kernel_rfl) (by kernel_rfl) _ _
  · exact callFunc_go Try.func24 (by kernel_rfl) (by kernel_rfl) _ _
  · exact callFunc_go Try.func25 (by kernel_rfl) (by kernel_rfl) _ _
  · exact callFunc_go Try.func26 (by kernel_rfl) (by kernel_rfl) _ _
  · exact callFunc_go Try.func27 (by kernel_rfl) (by kernel_rfl) _ _
  · exact callFunc_go Try.func28 (by kernel_rfl) (by kernel_rfl) _ _
  · exact callFunc_go Try.func29 (by kernel_rfl) (by kernel_rfl) _ _
  · exact callFunc_go Try.func30 (by kernel_rfl) (by kernel_rfl) _ _
  · exact callFunc_go Try.func31 (by kernel_rfl) (by kernel_rfl) _ _
theorem TR.upd_low {w w' : World} {B : Nat} {s : St} {h : SHd} {S : List Nat} (k : TR w B s h) (u : Upd S w w') (hS : ∀ t, t ∈ S → t < B) : TR w' B s h :=
  have f : ∀ {size n : Nat} {e : TypeId} {v : Value} {xs : List Value}, w.ownsRow B e size v n xs → w'.ownsRow B e size v n xs := fun h => ownsRow_upd h u (fun s hs hg => by have := (own_block_lt h hg).1; have := hS s hs; omega)
  ⟨f k.p, f k.t, f k.b, k.tx, fun x hx => f (k.ss x hx)⟩
theorem blk7 {w : World} {R : Nat} {e : TypeId} {c0 c1 c2 c3 c4 c5 c6 : Value} (h : Blk w R e #[c0, c1, c2, c3, c4, c5, c6]) (v0 v1 v2 v3 v4 v5 v6 : Value) :
    Blk (((((((w.setCell ⟨R, 0, none⟩ v0).setCell ⟨R, 1, none⟩ v1).setCell ⟨R, 2, none⟩ v2).setCell ⟨R, 3, none⟩ v3).setCell ⟨R, 4, none⟩ v4).setCell ⟨R, 5, none⟩ v5).setCell ⟨R, 6, none⟩ v6) R e #[v0, v1, v2, v3, v4, v5, v6]
    ∧ Upd [R] w (((((((w.setCell ⟨R, 0, none⟩ v0).setCell ⟨R, 1, none⟩ v1).setCell ⟨R, 2, none⟩ v2).setCell ⟨R, 3, none⟩ v3).setCell ⟨R, 4, none⟩ v4).setCell ⟨R, 5, none⟩ v5).setCell ⟨R, 6, none⟩ v6) := by
  refine ⟨((((((h.store 0 v0).store 1 v1).store 2 v2).store 3 v3).store 4 v4).store 5 v5).store 6 v6, ?_⟩
  exact (((((((Upd.refl [R] w).setCell (p := ⟨R, 0, none⟩) (.inl (by simp)) _).setCell (p := ⟨R, 1, none⟩) (.inl (by simp)) _).setCell (p := ⟨R, 2, none⟩) (.inl (by simp)) _).setCell (p := ⟨R, 3, none⟩) (.inl (by simp)) _).setCell (p := ⟨R, 4, none⟩) (.inl (by simp)) _).setCell (p := ⟨R, 5, none⟩) (.inl (by simp)) _).setCell (p := ⟨R, 6, none⟩) (.inl (by simp)) _
set_option maxRecDepth 100000 in
set_option maxHeartbeats 4000000 in
theorem do_any {w : World} {s : St} {h : SHd} {q : Rq} {qh : SH} (hs : StIn w s h) (hi : Inv s) (hQ : QIn w w.heap.size q qh) :
    Calls Try.prog 12 #[.agg (scells s h).toArray, .agg (qcells q qh).toArray] w fun e w' => ∃ h', e = .returned (.tuple #[.agg (scells (doM s q).1 h').toArray, .int .i64 (doM s q).2]) ∧ StIn w' (doM s q).1 h' ∧ (∀ g, g < w.heap.size → Av g s h → Av g (doM s q).1 h') ∧ Upd [] w w' := by
  have HS := Lib.hid hs
  have HI := Lib.hid hi
  have HQ := Lib.hid hQ
  obtain ⟨r, hr⟩ : ∃ r, r = doM s q := ⟨_, rfl⟩
  rw [← hr]
  have HR := Lib.hid hr
  clear hr
  obtain ⟨kd, who, room, rights, track, ss, layer, tid⟩ := q
  obtain ⟨qA, qc⟩ := qh
  obtain ⟨ql, hql⟩ : ∃ ql, ql = ss.length := ⟨_, rfl⟩
  obtain ⟨n, hn⟩ : ∃ n, n = s.ps.length := ⟨_, rfl⟩
  obtain ⟨n2, hn2⟩ : ∃ n2, n2 = s.ts.length := ⟨_, rfl⟩
  obtain ⟨n3, hn3⟩ : ∃ n3, n3 = s.bs.length := ⟨_, rfl⟩
  have HN := Lib.hid (And.intro hn (And.intro hn2 hn3))
  have HQL := Lib.hid hql
  unfold qcells
  rw [show scells s h = [.int .i64 s.c.people, .int .i64 s.c.tracks, .int .i64 s.c.subs, .int .i64 s.c.slots, .slice h.pA n h.pc, .slice h.tA n2 h.tc, .slice h.bA n3 h.bc] by unfold scells; rw [← hn, ← hn2, ← hn3]]
  dsimp only
  rw [← hql]
  have hnp : s.ps.length ≤ 1000 := by have := hi.np; have := hi.cp; omega
  have hnt : s.ts.length ≤ 1000 := by have := hi.nt; have := hi.ct; omega
  have hnb : s.bs.length ≤ 1000 := by have := hi.nb; have := hi.cl; omega
  have hss : ∀ t, t ∈ s.ts → t.ss.length ≤ 1000 := fun t ht => by
    have := (hi.trk t ht).2.2
    unfold maySS at this
    simp only [Bool.and_eq_true, decide_eq_true_eq] at this
    omega
  obtain ⟨W0, hW0⟩ : ∃ W0, W0 = w.alloc (.cells #[.int .i64 s.c.people, .int .i64 s.c.tracks, .int .i64 s.c.subs, .int .i64 s.c.slots, .slice h.pA n h.pc, .slice h.tA n2 h.tc, .slice h.bA n3 h.bc] 31) := ⟨_, rfl⟩
  obtain ⟨W1, hW1⟩ : ∃ W1, W1 = W0.alloc (.cells #[.int .i64 kd, .int .i64 who, .int .i64 room, .int .i64 rights, .int .i64 track, .slice qA ql qc, .int .i64 layer, .int .i64 tid] 45) := ⟨_, rfl⟩
  obtain ⟨W, hW⟩ : ∃ W, W = W1.alloc (.cells #[.int .i64 0, .int .i64 0, .int .i64 0, .int .i64 0, .slice none 0 0, .slice none 0 0, .slice none 0 0] 31) := ⟨_, rfl⟩
  obtain ⟨b, hb⟩ : ∃ b, b = w.heap.size := ⟨_, rfl⟩
  have u0 : Upd [] w W0 := by rw [hW0]; exact (Upd.refl [] w).alloc _
  have u1 : Upd [] W0 W1 := by rw [hW1]; exact (Upd.refl [] W0).alloc _
  have u2 : Upd [] W1 W := by rw [hW]; exact (Upd.refl [] W1).alloc _
  have z0 : W0.heap.size = b + 1 := by rw [hW0, World.size_alloc, hb]
  have z1 : W1.heap.size = b + 1 + 1 := by rw [hW1, World.size_alloc, z0]
  have z2 : W.heap.size = b + 1 + 1 + 1 := by rw [hW, World.size_alloc, z1]
  have hSB : Blk W b 31 (#[.int .i64 s.c.people, .int .i64 s.c.tracks, .int .i64 s.c.subs, .int .i64 s.c.slots, .slice h.pA n h.pc, .slice h.tA n2 h.tc, .slice h.bA n3 h.bc]) := by
    have : Blk W0 b 31 (#[.int .i64 s.c.people, .int .i64 s.c.tracks, .int .i64 s.c.subs, .int .i64 s.c.slots, .slice h.pA n h.pc, .slice h.tA n2 h.tc, .slice h.bA n3 h.bc]) := by rw [hW0, hb]; exact Blk.new _ _ _
    exact (this.upd u1 (by simp)).upd u2 (by simp)
  have hZB : Blk W (b + 1) 45 #[.int .i64 kd, .int .i64 who, .int .i64 room, .int .i64 rights, .int .i64 track, .slice qA ql qc, .int .i64 layer, .int .i64 tid] := by
    have : Blk W1 (b + 1) 45 #[.int .i64 kd, .int .i64 who, .int .i64 room, .int .i64 rights, .int .i64 track, .slice qA ql qc, .int .i64 layer, .int .i64 tid] := by rw [hW1, ← z0]; exact Blk.new _ _ _
    exact this.upd u2 (by simp)
  have hRB : Blk W (b + 1 + 1) 31 #[.int .i64 0, .int .i64 0, .int .i64 0, .int .i64 0, .slice none 0 0, .slice none 0 0, .slice none 0 0] := by rw [hW, ← z1]; exact Blk.new _ _ _
  have hu0 : Upd [] w W := (u0.next u1).next u2
  have HU0 := Lib.hid hu0
  have HSZ := Lib.hid z2
  have HBB := Lib.hid hb
  have HSB := Lib.hid hSB
  have HZB := Lib.hid hZB
  have HRB := Lib.hid hRB
  have hcl := sclone_any (hs.upd hu0) hnp hnt hnb hss
  rw [show scells s h = [.int .i64 s.c.people, .int .i64 s.c.tracks, .int .i64 s.c.subs, .int .i64 s.c.slots, .slice h.pA n h.pc, .slice h.tA n2 h.tc, .slice h.bA n3 h.bc] by unfold scells; rw [← hn, ← hn2, ← hn3]] at hcl
  have HCL := Lib.hid hcl
  clear hcl hSB hZB hRB u0 u1 u2 z0 z1 hu0 hnp hnt hnb hss hs hi hQ hql hn hn2 hn3
  go_enter Try.func12, Try.ntmps12
  go_upto_region 1 with fail
  rw [← hW0, ← hW1, ← hW, ← hb]
  clear hW0 hW1 hW hb
  have p0 := HSB.out.cell 0
  have p1 := HSB.out.cell 1
  have p2 := HSB.out.cell 2
  have p3 := HSB.out.cell 3
  have p4 := HSB.out.cell 4
  have p5 := HSB.out.cell 5
  have p6 := HSB.out.cell 6
  simp only [List.getElem?_toArray, List.getElem?_cons_zero, List.getElem?_cons_succ] at p0 p1 p2 p3 p4 p5 p6
  go_wp2_with fail
  refine HCL.out.mono ?_
  rintro e w1 ⟨h1, rfl, htr, hu1⟩
  clear HCL p0 p1 p2 p3 p4 p5 p6
  have HTR := Lib.hid htr
  have HU1 := Lib.hid hu1
  clear htr hu1
  unfold scells
  go_upto_region 3 with fail
  rw [← HN.out.1, ← HN.out.2.1, ← HN.out.2.2]
  obtain ⟨TB, hTB⟩ : ∃ TB, TB = w1.heap.size := ⟨_, rfl⟩
  obtain ⟨w2, hw2⟩ : ∃ w2, w2 = w1.alloc (.cells #[.int .i64 s.c.people, .int .i64 s.c.tracks, .int .i64 s.c.subs, .int .i64 s.c.slots, .slice h1.pA n h1.pc, .slice h1.tA n2 h1.tc, .slice h1.bA n3 h1.bc] 31) := ⟨_, rfl⟩
  rw [← hTB, ← hw2]
  obtain ⟨fs, hfs⟩ : ∃ fs : Array Value, fs = #[.func (.func 22) #[.pointer (some ⟨TB, 0, none⟩)] #[], .func (.func 23) #[.pointer (some ⟨TB, 0, none⟩)] #[], .func (.func 24) #[.pointer (some ⟨TB, 0, none⟩)] #[], .func (.func 25) #[.pointer (some ⟨TB, 0, none⟩)] #[], .func (.func 26) #[.pointer (some ⟨TB, 0, none⟩)] #[], .func (.func 27) #[.pointer (some ⟨TB, 0, none⟩)] #[], .func (.func 28) #[.pointer (some ⟨TB, 0, none⟩)] #[], .func (.func 29) #[.pointer (some ⟨TB, 0, none⟩)] #[], .func (.func 30) #[.pointer (some ⟨TB, 0, none⟩)] #[], .func (.func 31) #[.pointer (some ⟨TB, 0, none⟩)] #[]] := ⟨_, rfl⟩
  rw [← hfs]
  obtain ⟨w3, hw3⟩ : ∃ w3, w3 = w2.alloc (.cells fs 67) := ⟨_, rfl⟩
  rw [← hw3]
  have u12 : Upd [] w1 w2 := by rw [hw2]; exact (Upd.refl [] w1).alloc _
  have u23 : Upd [] w2 w3 := by rw [hw3]; exact (Upd.refl [] w2).alloc _
  have zs2 : w2.heap.size = TB + 1 := by rw [hw2, World.size_alloc, hTB]
  have hTBk : Blk w3 TB 31 (scells s h1).toArray := by
    have : Blk w2 TB 31 (scells s h1).toArray := by rw [hw2, hTB, show (scells s h1).toArray = #[.int .i64 s.c.people, .int .i64 s.c.tracks, .int .i64 s.c.subs, .int .i64 s.c.slots, .slice h1.pA n h1.pc, .slice h1.tA n2 h1.tc, .slice h1.bA n3 h1.bc] by unfold scells; rw [← HN.out.1, ← HN.out.2.1, ← HN.out.2.2]]; exact Blk.new _ _ _
    exact this.upd u23 (by simp)
  have hFB : Blk w3 (TB + 1) 67 fs := by rw [hw3, ← zs2]; exact Blk.new _ _ _
  have u13 : Upd [] W w3 := (HU1.out.next u12).next u23
  have hbW : b ≤ W.heap.size := by have := HSZ.out; omega
  have HTIN : Hid (TIn w3 W.heap.size TB s h1) := Lib.hid ⟨hTBk, by have := HU1.out.size; rw [hTB]; omega, ⟨own_lower (ownsRow_upd (ownsRow_upd HTR.out.p u12 (by simp)) u23 (by simp)) (Nat.le_refl _), own_lower (ownsRow_upd (ownsRow_upd HTR.out.t u12 (by simp)) u23 (by simp)) (Nat.le_refl _), own_lower (ownsRow_upd (ownsRow_upd HTR.out.b u12 (by simp)) u23 (by simp)) (Nat.le_refl _), HTR.out.tx, fun x hx => own_lower (ownsRow_upd (ownsRow_upd (HTR.out.ss x hx) u12 (by simp)) u23 (by simp)) (Nat.le_refl _)⟩⟩
  have HU3 : Hid (Upd [] w w3) := Lib.hid (HU0.out.next u13)
  have HS3 := Lib.hid (HSB.out.upd u13 (by simp))
  have HZ3 := Lib.hid (HZB.out.upd u13 (by simp))
  have HR3 := Lib.hid (HRB.out.upd u13 (by simp))
  have HF3 := Lib.hid hFB
  have hQb := HQ.out.below (HU3.out.below (Nat.le_refl _) (by simp))
  have HQ3 : Hid (QIn w3 W.heap.size _ _) := Lib.hid ⟨hQb.l.more (Nat.le_refl _) (by rw [← HBB.out]; exact hbW), hQb.nl, hQb.le, hQb.cm, hQb.pos, hQb.few⟩
  have HW3 : Hid (W.heap.size ≤ w3.heap.size) := Lib.hid u13.size
  have HFS := Lib.hid hfs
  clear hQb hTBk hFB u12 u23 zs2 hw2 hw3 hfs hTB u13 hbW HTR HU1 HSB HZB HRB HU0
  obtain ⟨b1, hb1⟩ : ∃ x, x = (decide ((0 : Int) ≤ kd) && decide (kd ≤ 9)) := ⟨_, rfl⟩
  have H1 : Hid (Calls Try.prog 32 #[.int .i64 kd, .int .i64 0, .int .i64 9] w3 fun e w' => e = .returned (.bool b1) ∧ w3 = w') := Lib.hid (by rw [hb1]; exact in_any w3 kd 0 9)
  have HB1 := Lib.hid hb1
  have t0 := HZ3.out.cell 0
  simp only [List.getElem?_toArray, List.getElem?_cons_zero, List.getElem?_cons_succ] at t0
  clear hb1
  go_wp2_with fail
  refine H1.out.mono ?_
  rintro _ _ ⟨rfl, rfl⟩
  clear t0 H1
  cases b1 with
  | false =>
    have HX : Hid (r = (s, 1)) := Lib.hid (by
      rw [HR.out]
      unfold doM
      rw [if_pos]
      have := HB1.out.symm
      simp only [Bool.and_eq_false_iff, decide_eq_false_iff_not] at this
      dsimp only
      omega)
    have p0 := HS3.out.cell 0
    have p1 := HS3.out.cell 1
    have p2 := HS3.out.cell 2
    have p3 := HS3.out.cell 3
    have p4 := HS3.out.cell 4
    have p5 := HS3.out.cell 5
    have p6 := HS3.out.cell 6
    have c0 := HR3.out.cell 0
    have c1 := HR3.out.cell 1
    have c2 := HR3.out.cell 2
    have c3 := HR3.out.cell 3
    have c4 := HR3.out.cell 4
    have c5 := HR3.out.cell 5
    have c6 := HR3.out.cell 6
    have f0 := HR3.out.frozen 0
    have f1 := HR3.out.frozen 1
    have f2 := HR3.out.frozen 2
    have f3 := HR3.out.frozen 3
    have f4 := HR3.out.frozen 4
    have f5 := HR3.out.frozen 5
    have f6 := HR3.out.frozen 6
    simp only [List.getElem?_toArray, List.getElem?_cons_zero, List.getElem?_cons_succ] at p0 p1 p2 p3 p4 p5 p6 c0 c1 c2 c3 c4 c5 c6
    obtain ⟨k4, u4⟩ := blk7 HR3.out (.int .i64 s.c.people) (.int .i64 s.c.tracks) (.int .i64 s.c.subs) (.int .i64 s.c.slots) (.slice h.pA n h.pc) (.slice h.tA n2 h.tc) (.slice h.bA n3 h.bc)
    go_wp2
    obtain ⟨w4, hw4⟩ : ∃ w4, w4 = (((((((w3.setCell ⟨b + 1 + 1, 0, none⟩ (.int .i64 s.c.people)).setCell ⟨b + 1 + 1, 1, none⟩ (.int .i64 s.c.tracks)).setCell ⟨b + 1 + 1, 2, none⟩ (.int .i64 s.c.subs)).setCell ⟨b + 1 + 1, 3, none⟩ (.int .i64 s.c.slots)).setCell ⟨b + 1 + 1, 4, none⟩ (.slice h.pA n h.pc)).setCell ⟨b + 1 + 1, 5, none⟩ (.slice h.tA n2 h.tc)).setCell ⟨b + 1 + 1, 6, none⟩ (.slice h.bA n3 h.bc)) := ⟨_, rfl⟩
    rw [← hw4] at k4 u4 ⊢
    clear hw4 p0 p1 p2 p3 p4 p5 p6 c0 c1 c2 c3 c4 c5 c6 f0 f1 f2 f3 f4 f5 f6
    have hu4 : Upd [] w w4 := Upd.of_below ((HU3.out.below (B := w.heap.size) (Nat.le_refl _) (by simp)).trans (u4.below (Nat.le_trans (Nat.le_refl _) HU3.out.size) (fun t ht => by rw [List.mem_singleton] at ht; subst ht; rw [← HBB.out]; omega)))
    have r0 := k4.cell 0
    have r1 := k4.cell 1
    have r2 := k4.cell 2
    have r3 := k4.cell 3
    have r4 := k4.cell 4
    have r5 := k4.cell 5
    have r6 := k4.cell 6
    simp only [List.getElem?_toArray, List.getElem?_cons_zero, List.getElem?_cons_succ] at r0 r1 r2 r3 r4 r5 r6
    refine bodyPost_res (v := .tuple #[.agg (scells s h).toArray, .int .i64 1]) (by unfold scells; rw [← HN.out.1, ← HN.out.2.1, ← HN.out.2.2]; simp [results, Try.results12, go_sem, Addr.add, r0, r1, r2, r3, r4, r5, r6]) rfl ?_
    exact ⟨h, by rw [HX.out], by rw [HX.out]; exact HS.out.upd hu4, by rw [HX.out]; exact fun _ _ k => k, hu4⟩
  | true =>
  have HKD : Hid (0 ≤ kd ∧ kd ≤ 9) := Lib.hid (by
    have := HB1.out.symm
    simp only [Bool.and_eq_true, decide_eq_true_eq] at this
    exact this)
  have p0 := HS3.out.cell 0
  have p1 := HS3.out.cell 1
  have p2 := HS3.out.cell 2
  have p3 := HS3.out.cell 3
  have p4 := HS3.out.cell 4
  have p5 := HS3.out.cell 5
  have p6 := HS3.out.cell 6
  have t0 := HZ3.out.cell 0
  have t1 := HZ3.out.cell 1
  simp only [List.getElem?_toArray, List.getElem?_cons_zero, List.getElem?_cons_succ] at p0 p1 p2 p3 p4 p5 p6 t0 t1
  obtain ⟨lo, hlo⟩ : ∃ lo, lo = low (cP who) s.ps := ⟨_, rfl⟩
  obtain ⟨ha, hha⟩ : ∃ ha, ha = has (cP who) s.ps := ⟨_, rfl⟩
  have HHA := Lib.hid hha
  have hpc := person_any (h := h) (HS.out.upd HU3.out).p (by have := HI.out.np; have := HI.out.cp; omega) HI.out.up who
  rw [← hlo, ← hha, show scells s h = [.int .i64 s.c.people, .int .i64 s.c.tracks, .int .i64 s.c.subs, .int .i64 s.c.slots, .slice h.pA n h.pc, .slice h.tA n2 h.tc, .slice h.bA n3 h.bc] by unfold scells; rw [← HN.out.1, ← HN.out.2.1, ← HN.out.2.2]] at hpc
  have HPC := Lib.hid hpc
  clear hlo hha hpc
  go_wp2_with fail
  refine HPC.out.mono ?_
  rintro e w4 ⟨rfl, hu4⟩
  have HS4 := Lib.hid (HS3.out.upd hu4 (by simp))
  have HZ4 := Lib.hid (HZ3.out.upd hu4 (by simp))
  have HR4 := Lib.hid (HR3.out.upd hu4 (by simp))
  have HF4 := Lib.hid (HF3.out.upd hu4 (by simp))
  have HU4 := Lib.hid (HU3.out.next hu4)
  have HT4 := Lib.hid (HTIN.out.upd hu4)
  have HW4 := Lib.hid (Nat.le_trans HW3.out hu4.size)
  have HQ4 := Lib.hid (HQ3.out.below (hu4.below HW3.out (by simp)))
  clear hu4 HPC p0 p1 p2 p3 p4 p5 p6 t0 t1
  have t0 := HZ4.out.cell 0
  simp only [List.getElem?_toArray, List.getElem?_cons_zero, List.getElem?_cons_succ] at t0
  by_cases hbad : kd ≠ 0 ∧ ha = false
  · obtain ⟨hk0, hha0⟩ := hbad
    have HX : Hid (r = (s, 21)) := Lib.hid (by
      rw [HR.out]
      unfold doM
      dsimp only
      rw [if_neg (by have := HKD.out; omega), if_pos ⟨hk0, by rw [← HHA.out]; exact hha0⟩])
    have hkb : (kd != 0) = true := by simpa using hk0
    subst hha0
    clear hk0
    have p0 := HS4.out.cell 0
    have p1 := HS4.out.cell 1
    have p2 := HS4.out.cell 2
    have p3 := HS4.out.cell 3
    have p4 := HS4.out.cell 4
    have p5 := HS4.out.cell 5
    have p6 := HS4.out.cell 6
    have c0 := HR4.out.cell 0
    have c1 := HR4.out.cell 1
    have c2 := HR4.out.cell 2
    have c3 := HR4.out.cell 3
    have c4 := HR4.out.cell 4
    have c5 := HR4.out.cell 5
    have c6 := HR4.out.cell 6
    have f0 := HR4.out.frozen 0
    have f1 := HR4.out.frozen 1
    have f2 := HR4.out.frozen 2
    have f3 := HR4.out.frozen 3
    have f4 := HR4.out.frozen 4
    have f5 := HR4.out.frozen 5
    have f6 := HR4.out.frozen 6
    simp only [List.getElem?_toArray, List.getElem?_cons_zero, List.getElem?_cons_succ] at p0 p1 p2 p3 p4 p5 p6 c0 c1 c2 c3 c4 c5 c6
    obtain ⟨kx, ux⟩ := blk7 HR4.out (.int .i64 s.c.people) (.int .i64 s.c.tracks) (.int .i64 s.c.subs) (.int .i64 s.c.slots) (.slice h.pA n h.pc) (.slice h.tA n2 h.tc) (.slice h.bA n3 h.bc)
    go_wp2
    obtain ⟨w5, hw5⟩ : ∃ w5, w5 = (((((((w4.setCell ⟨b + 1 + 1, 0, none⟩ (.int .i64 s.c.people)).setCell ⟨b + 1 + 1, 1, none⟩ (.int .i64 s.c.tracks)).setCell ⟨b + 1 + 1, 2, none⟩ (.int .i64 s.c.subs)).setCell ⟨b + 1 + 1, 3, none⟩ (.int .i64 s.c.slots)).setCell ⟨b + 1 + 1, 4, none⟩ (.slice h.pA n h.pc)).setCell ⟨b + 1 + 1, 5, none⟩ (.slice h.tA n2 h.tc)).setCell ⟨b + 1 + 1, 6, none⟩ (.slice h.bA n3 h.bc)) := ⟨_, rfl⟩
    rw [← hw5] at kx ux ⊢
    clear hw5 p0 p1 p2 p3 p4 p5 p6 c0 c1 c2 c3 c4 c5 c6 f0 f1 f2 f3 f4 f5 f6
    have hux : Upd [] w w5 := Upd.of_below ((HU4.out.below (B := w.heap.size) (Nat.le_refl _) (by simp)).trans (ux.below (Nat.le_trans (Nat.le_refl _) HU4.out.size) (fun t ht => by rw [List.mem_singleton] at ht; subst ht; rw [← HBB.out]; omega)))
    have r0 := kx.cell 0
    have r1 := kx.cell 1
    have r2 := kx.cell 2
    have r3 := kx.cell 3
    have r4 := kx.cell 4
    have r5 := kx.cell 5
    have r6 := kx.cell 6
    simp only [List.getElem?_toArray, List.getElem?_cons_zero, List.getElem?_cons_succ] at r0 r1 r2 r3 r4 r5 r6
    refine bodyPost_res (v := .tuple #[.agg (scells s h).toArray, .int .i64 21]) (by unfold scells; rw [← HN.out.1, ← HN.out.2.1, ← HN.out.2.2]; simp [results, Try.results12, go_sem, Addr.add, r0, r1, r2, r3, r4, r5, r6]) rfl ?_
    exact ⟨h, by rw [HX.out], by rw [HX.out]; exact HS.out.upd hux, by rw [HX.out]; exact fun _ _ k => k, hux⟩
  have HGOOD : Hid (kd ≠ 0 → ha = true) := Lib.hid (fun hk => by
    cases ha with
    | true => rfl
    | false => exact absurd ⟨hk, rfl⟩ hbad)
  have HOP := Lib.hid (fun (W' : World) (u : Upd [] w4 W') => op_any (f := 22 + kd.toNat) (q := ⟨kd, who, room, rights, track, ss, layer, tid⟩) (HT4.out.upd u) HI.out (Nat.le_trans HW4.out u.size) (HQ4.out.below (u.below HW4.out (by simp))) HKD.out.1 HKD.out.2 (fun hk => by rw [← HHA.out]; exact HGOOD.out hk) rfl)
  obtain ⟨kn, hkn⟩ : ∃ kn : Nat, kd = (kn : Int) := ⟨kd.toNat, by have := HKD.out; omega⟩
  have HKN : Hid (kn ≤ 9) := Lib.hid (by have := HKD.out; omega)
  have HKK := Lib.hid hkn
  clear hbad hkn
  obtain ⟨d, hd⟩ : ∃ d, d = (kd != 0) := ⟨_, rfl⟩
  have hd' := hd.symm
  have HD : Hid (d = true → ha = true) := Lib.hid (fun h => HGOOD.out (by rw [hd] at h; simpa using h))
  clear hd
  cases d
  case' true => obtain rfl : ha = true := HD.out rfl
  all_goals
    go_upto_region 8 with fail
    clear hd' t0
    have hkk := HKK.out
    subst hkk
    have HOP2 : Hid _ := Lib.hid HOP.out
    have hZl := HZ4.out.lt
    have hFl := HF4.out.lt
    have q0 : ∀ z : Cls (Upd [] w4), z.w.cell? ⟨b + 1, 0, none⟩ = some (.int .i64 (kn : Int)) := fun z => (z.h.cell (p := ⟨b + 1, 0, none⟩) hZl (by simp)).trans (HZ4.out.cell 0)
    have q1 : ∀ z : Cls (Upd [] w4), z.w.cell? ⟨b + 1, 1, none⟩ = some (.int .i64 who) := fun z => (z.h.cell (p := ⟨b + 1, 1, none⟩) hZl (by simp)).trans (HZ4.out.cell 1)
    have q2 : ∀ z : Cls (Upd [] w4), z.w.cell? ⟨b + 1, 2, none⟩ = some (.int .i64 room) := fun z => (z.h.cell (p := ⟨b + 1, 2, none⟩) hZl (by simp)).trans (HZ4.out.cell 2)
    have q3 : ∀ z : Cls (Upd [] w4), z.w.cell? ⟨b + 1, 3, none⟩ = some (.int .i64 rights) := fun z => (z.h.cell (p := ⟨b + 1, 3, none⟩) hZl (by simp)).trans (HZ4.out.cell 3)
    have q4 : ∀ z : Cls (Upd [] w4), z.w.cell? ⟨b + 1, 4, none⟩ = some (.int .i64 track) := fun z => (z.h.cell (p := ⟨b + 1, 4, none⟩) hZl (by simp)).trans (HZ4.out.cell 4)
    have q5 : ∀ z : Cls (Upd [] w4), z.w.cell? ⟨b + 1, 5, none⟩ = some (.slice qA ql qc) := fun z => (z.h.cell (p := ⟨b + 1, 5, none⟩) hZl (by simp)).trans (HZ4.out.cell 5)
    have q6 : ∀ z : Cls (Upd [] w4), z.w.cell? ⟨b + 1, 6, none⟩ = some (.int .i64 layer) := fun z => (z.h.cell (p := ⟨b + 1, 6, none⟩) hZl (by simp)).trans (HZ4.out.cell 6)
    have q7 : ∀ z : Cls (Upd [] w4), z.w.cell? ⟨b + 1, 7, none⟩ = some (.int .i64 tid) := fun z => (z.h.cell (p := ⟨b + 1, 7, none⟩) hZl (by simp)).trans (HZ4.out.cell 7)
    have hfk : fs[kn]? = some (.func (.func (22 + kn)) #[.pointer (some ⟨TB, 0, none⟩)] #[]) := by
      rw [HFS.out]
      have := HKN.out
      have hc : kn = 0 ∨ kn = 1 ∨ kn = 2 ∨ kn = 3 ∨ kn = 4 ∨ kn = 5 ∨ kn = 6 ∨ kn = 7 ∨ kn = 8 ∨ kn = 9 := by omega
      rcases hc with rfl | rfl | rfl | rfl | rfl | rfl | rfl | rfl | rfl | rfl <;> rfl
    have yf : ∀ z : Cls (Upd [] w4), z.w.cell? ⟨TB + 1, kn, none⟩ = some (.func (.func (22 + kn)) #[.pointer (some ⟨TB, 0, none⟩)] #[]) := fun z => (z.h.cell (p := ⟨TB + 1, kn, none⟩) hFl (by simp)).trans ((HF4.out.cell kn).trans hfk)
    have hkl : (kn : Int) < 10 := by have := HKN.out; omega
    clear hfk
    refine wp_class_tail (Upd [] w4) ((Upd.refl _ _).drewN 1) 5 (by kernel_rfl) (by kernel_rfl) (fun _ _ _ _ h => h) ?_
    intro hne
    simp only [List.take_succ_cons, List.take_zero, List.drop_succ_cons, List.drop_zero]
    repeat (go_big_quiet_step (fail))
    refine wpQuiet_nil ?_
    rintro _ ⟨xe, rfl⟩
    have hop := HOP.out xe.w xe.h
    have hbx := HW4.out
    rw [Int.toNat_natCast, ← HR.out] at hop
    unfold qcells at hop
    dsimp only at hop
    rw [← HQL.out] at hop
    obtain ⟨ec, hec⟩ : ∃ ec, ec = r.2 := ⟨_, rfl⟩
    rw [← hec] at hop
    have HOPX := Lib.hid hop
    have HEC := Lib.hid hec
    have HSX := Lib.hid (HS4.out.upd xe.h (by simp))
    have HRX := Lib.hid (HR4.out.upd xe.h (by simp))
    have HUX := Lib.hid (HU4.out.next xe.h)
    clear hop hec hbx HOP HOP2 q0 q1 q2 q3 q4 q5 q6 q7 yf hZl hFl hkl
    go_wp2_with fail
    rw [call_op HKN.out, Oper.upon_enter]
    refine HOPX.out.mono ?_
    rintro e w5 ⟨rfl, hti, hbl⟩
    have hlb : b + 1 + 1 < W.heap.size := by have := HSZ.out; omega
    have HS5 := Lib.hid (HSX.out.below hbl (by omega))
    have HR5 := Lib.hid (HRX.out.below hbl hlb)
    have HBL := Lib.hid hbl
    have HTI := Lib.hid hti
    have HU5 : Hid (Upd [] w w5) := Lib.hid (Upd.of_below ((HUX.out.below (B := w.heap.size) (Nat.le_refl _) (by simp)).trans (hbl.mono (by have := HSZ.out; rw [← HBB.out]; omega))))
    clear hti hbl hlb HOPX
    by_cases h0 : ec = 0
    case' neg =>
      have HX : Hid (r = (s, ec)) := Lib.hid (by
        have h2 := err_same s ⟨(kn : Int), who, room, rights, track, ss, layer, tid⟩ (by rw [← HR.out, ← HEC.out]; exact h0)
        rw [← HR.out] at h2
        rw [HEC.out, ← h2])
      have hkb : (ec != 0) = true := by simpa using h0
      clear h0
      have p0 := HS5.out.cell 0
      have p1 := HS5.out.cell 1
      have p2 := HS5.out.cell 2
      have p3 := HS5.out.cell 3
      have p4 := HS5.out.cell 4
      have p5 := HS5.out.cell 5
      have p6 := HS5.out.cell 6
      have c0 := HR5.out.cell 0
      have c1 := HR5.out.cell 1
      have c2 := HR5.out.cell 2
      have c3 := HR5.out.cell 3
      have c4 := HR5.out.cell 4
      have c5 := HR5.out.cell 5
      have c6 := HR5.out.cell 6
      have f0 := HR5.out.frozen 0
      have f1 := HR5.out.frozen 1
      have f2 := HR5.out.frozen 2
      have f3 := HR5.out.frozen 3
      have f4 := HR5.out.frozen 4
      have f5 := HR5.out.frozen 5
      have f6 := HR5.out.frozen 6
      simp only [List.getElem?_toArray, List.getElem?_cons_zero, List.getElem?_cons_succ] at p0 p1 p2 p3 p4 p5 p6 c0 c1 c2 c3 c4 c5 c6
      obtain ⟨kx, ux⟩ := blk7 HR5.out (.int .i64 s.c.people) (.int .i64 s.c.tracks) (.int .i64 s.c.subs) (.int .i64 s.c.slots) (.slice h.pA n h.pc) (.slice h.tA n2 h.tc) (.slice h.bA n3 h.bc)
      go_wp2
      obtain ⟨w6, hw6⟩ : ∃ w6, w6 = (((((((w5.setCell ⟨b + 1 + 1, 0, none⟩ (.int .i64 s.c.people)).setCell ⟨b + 1 + 1, 1, none⟩ (.int .i64 s.c.tracks)).setCell ⟨b + 1 + 1, 2, none⟩ (.int .i64 s.c.subs)).setCell ⟨b + 1 + 1, 3, none⟩ (.int .i64 s.c.slots)).setCell ⟨b + 1 + 1, 4, none⟩ (.slice h.pA n h.pc)).setCell ⟨b + 1 + 1, 5, none⟩ (.slice h.tA n2 h.tc)).setCell ⟨b + 1 + 1, 6, none⟩ (.slice h.bA n3 h.bc)) := ⟨_, rfl⟩
      rw [← hw6] at kx ux ⊢
      clear hw6 p0 p1 p2 p3 p4 p5 p6 c0 c1 c2 c3 c4 c5 c6 f0 f1 f2 f3 f4 f5 f6
      have hux : Upd [] w w6 := Upd.of_below ((HU5.out.below (B := w.heap.size) (Nat.le_refl _) (by simp)).trans (ux.below (Nat.le_trans (Nat.le_refl _) HU5.out.size) (fun t ht => by rw [List.mem_singleton] at ht; subst ht; rw [← HBB.out]; omega)))
      have r0 := kx.cell 0
      have r1 := kx.cell 1
      have r2 := kx.cell 2
      have r3 := kx.cell 3
      have r4 := kx.cell 4
      have r5 := kx.cell 5
      have r6 := kx.cell 6
      simp only [List.getElem?_toArray, List.getElem?_cons_zero, List.getElem?_cons_succ] at r0 r1 r2 r3 r4 r5 r6
      refine bodyPost_res (v := .tuple #[.agg (scells s h).toArray, .int .i64 ec]) (by unfold scells; rw [← HN.out.1, ← HN.out.2.1, ← HN.out.2.2]; simp [results, Try.results12, go_sem, Addr.add, r0, r1, r2, r3, r4, r5, r6]) rfl ?_
      exact ⟨h, by rw [HX.out], by rw [HX.out]; exact HS.out.upd hux, by rw [HX.out]; exact fun _ _ k => k, hux⟩
    subst h0
    obtain ⟨h2, hti⟩ := HTI.out rfl
    obtain ⟨s2, hs2⟩ : ∃ s2, s2 = r.1 := ⟨_, rfl⟩
    rw [← hs2] at hti
    have HRS : Hid (r = (s2, 0)) := Lib.hid (by rw [hs2, HEC.out])
    obtain ⟨m, hm⟩ : ∃ m, m = s2.ps.length := ⟨_, rfl⟩
    obtain ⟨m2, hm2⟩ : ∃ m, m = s2.ts.length := ⟨_, rfl⟩
    obtain ⟨m3, hm3⟩ : ∃ m, m = s2.bs.length := ⟨_, rfl⟩
    have HM := Lib.hid (And.intro hm (And.intro hm2 hm3))
    have HST := Lib.hid hti.r
    have htb := hti.box
    rw [show scells s2 h2 = [.int .i64 s2.c.people, .int .i64 s2.c.tracks, .int .i64 s2.c.subs, .int .i64 s2.c.slots, .slice h2.pA m h2.pc, .slice h2.tA m2 h2.tc, .slice h2.bA m3 h2.bc] by unfold scells; rw [← hm, ← hm2, ← hm3]] at htb
    have HTB := Lib.hid htb
    clear hs2 hm hm2 hm3 hti htb HTI
    have p0 := HTB.out.cell 0
    have p1 := HTB.out.cell 1
    have p2 := HTB.out.cell 2
    have p3 := HTB.out.cell 3
    have p4 := HTB.out.cell 4
    have p5 := HTB.out.cell 5
    have p6 := HTB.out.cell 6
    have c0 := HR5.out.cell 0
    have c1 := HR5.out.cell 1
    have c2 := HR5.out.cell 2
    have c3 := HR5.out.cell 3
    have c4 := HR5.out.cell 4
    have c5 := HR5.out.cell 5
    have c6 := HR5.out.cell 6
    have f0 := HR5.out.frozen 0
    have f1 := HR5.out.frozen 1
    have f2 := HR5.out.frozen 2
    have f3 := HR5.out.frozen 3
    have f4 := HR5.out.frozen 4
    have f5 := HR5.out.frozen 5
    have f6 := HR5.out.frozen 6
    simp only [List.getElem?_toArray, List.getElem?_cons_zero, List.getElem?_cons_succ] at p0 p1 p2 p3 p4 p5 p6 c0 c1 c2 c3 c4 c5 c6
    obtain ⟨kx, ux⟩ := blk7 HR5.out (.int .i64 s2.c.people) (.int .i64 s2.c.tracks) (.int .i64 s2.c.subs) (.int .i64 s2.c.slots) (.slice h2.pA m h2.pc) (.slice h2.tA m2 h2.tc) (.slice h2.bA m3 h2.bc)
    go_wp2
    obtain ⟨w6, hw6⟩ : ∃ w6, w6 = (((((((w5.setCell ⟨b + 1 + 1, 0, none⟩ (.int .i64 s2.c.people)).setCell ⟨b + 1 + 1, 1, none⟩ (.int .i64 s2.c.tracks)).setCell ⟨b + 1 + 1, 2, none⟩ (.int .i64 s2.c.subs)).setCell ⟨b + 1 + 1, 3, none⟩ (.int .i64 s2.c.slots)).setCell ⟨b + 1 + 1, 4, none⟩ (.slice h2.pA m h2.pc)).setCell ⟨b + 1 + 1, 5, none⟩ (.slice h2.tA m2 h2.tc)).setCell ⟨b + 1 + 1, 6, none⟩ (.slice h2.bA m3 h2.bc)) := ⟨_, rfl⟩
    rw [← hw6] at kx ux ⊢
    clear hw6 p0 p1 p2 p3 p4 p5 p6 c0 c1 c2 c3 c4 c5 c6 f0 f1 f2 f3 f4 f5 f6
    have hux : Upd [] w w6 := Upd.of_below ((HU5.out.below (B := w.heap.size) (Nat.le_refl _) (by simp)).trans (ux.below (Nat.le_trans (Nat.le_refl _) HU5.out.size) (fun t ht => by rw [List.mem_singleton] at ht; subst ht; rw [← HBB.out]; omega)))
    have r0 := kx.cell 0
    have r1 := kx.cell 1
    have r2 := kx.cell 2
    have r3 := kx.cell 3
    have r4 := kx.cell 4
    have r5 := kx.cell 5
    have r6 := kx.cell 6
    simp only [List.getElem?_toArray, List.getElem?_cons_zero, List.getElem?_cons_succ] at r0 r1 r2 r3 r4 r5 r6
    refine bodyPost_res (v := .tuple #[.agg (scells s2 h2).toArray, .int .i64 0]) (by unfold scells; rw [← HM.out.1, ← HM.out.2.1, ← HM.out.2.2]; simp [results, Try.results12, go_sem, Addr.add, r0, r1, r2, r3, r4, r5, r6]) rfl ?_
    exact ⟨h2, by rw [HRS.out], by rw [HRS.out]; exact (HST.out.upd_low ux (fun t ht => by rw [List.mem_singleton] at ht; subst ht; have := HSZ.out; omega)).st, by rw [HRS.out]; exact fun g hg _ => HST.out.av (by have := HSZ.out; have := HBB.out; omega), hux⟩
end Go.Proofs.Ytjcbaelefacolaa
/- The layer delta: the cells of a state's rows. Conditions: the rows lie in memory. -/
namespace Go.Proofs.Ytjcbaelefacolaa
open Go Go.RowKit
set_option maxHeartbeats 400000

theorem drew_two (w : World) (a b : Nat) : (w.drewN a).drewN b = w.drewN (a + b) := by unfold World.drewN; simp [Nat.add_assoc]
theorem rowP {w : World} {A : Option Addr} {n c : Nat} {l : List Per} (h : RwIn w 0 3 A n c (l.flatMap encP)) (hn : l.length = n) : ∀ k p, l[k]? = some p → ∃ b off, A = some ⟨b, off, none⟩ ∧ w.cell? ⟨b, off + k * 3, none⟩ = some (.int .i64 p.who) ∧ w.cell? ⟨b, off + k * 3 + 1, none⟩ = some (.int .i64 p.room) ∧ w.cell? ⟨b, off + k * 3 + 2, none⟩ = some (.int .i64 p.rights) := by
  intro k p hk
  have hlt := (List.getElem?_eq_some_iff.1 hk).1
  obtain ⟨b, off, e, _, _, hcc⟩ := h.l.2 (by omega)
  exact ⟨b, off, e, hcc (k * 3 + 0) _ (flat_get encP_len l k 0 p hk (by omega)), hcc (k * 3 + 1) _ (flat_get encP_len l k 1 p hk (by omega)), hcc (k * 3 + 2) _ (flat_get encP_len l k 2 p hk (by omega))⟩
theorem rowB {w : World} {A : Option Addr} {n c : Nat} {l : List Sb} (h : RwIn w 0 5 A n c (l.flatMap encB)) (hn : l.length = n) : ∀ k p, l[k]? = some p → ∃ b off, A = some ⟨b, off, none⟩ ∧ w.cell? ⟨b, off + k * 5, none⟩ = some (.int .i64 p.who) ∧ w.cell? ⟨b, off + k * 5 + 1, none⟩ = some (.int .i64 p.track) ∧ w.cell? ⟨b, off + k * 5 + 2, none⟩ = some (.int .i64 p.layer) ∧ w.cell? ⟨b, off + k * 5 + 3, none⟩ = some (.int .i64 p.tid) ∧ w.cell? ⟨b, off + k * 5 + 4, none⟩ = some (.bool p.muted) := by
  intro k p hk
  have hlt := (List.getElem?_eq_some_iff.1 hk).1
  obtain ⟨b, off, e, _, _, hcc⟩ := h.l.2 (by omega)
  exact ⟨b, off, e, hcc (k * 5 + 0) _ (flat_get encB_len l k 0 p hk (by omega)), hcc (k * 5 + 1) _ (flat_get encB_len l k 1 p hk (by omega)), hcc (k * 5 + 2) _ (flat_get encB_len l k 2 p hk (by omega)), hcc (k * 5 + 3) _ (flat_get encB_len l k 3 p hk (by omega)), hcc (k * 5 + 4) _ (flat_get encB_len l k 4 p hk (by omega))⟩
theorem rowT {w : World} {s : St} {h : SHd} (hs : StIn w s h) : ∀ k t, s.ts[k]? = some t → ∃ b off B d, h.tA = some ⟨b, off, none⟩ ∧ w.cell? ⟨b, off + k * 4, none⟩ = some (.int .i64 t.id) ∧ w.cell? ⟨b, off + k * 4 + 1, none⟩ = some (.int .i64 t.owner) ∧ w.cell? ⟨b, off + k * 4 + 2, none⟩ = some (.int .i64 t.frm) ∧ w.cell? ⟨b, off + k * 4 + 3, none⟩ = some (.slice B t.ss.length d) ∧
    RwIn w 0 1 B t.ss.length d (t.ss.map (Value.int .u32)) := by
  intro k t hk
  have hlt := (List.getElem?_eq_some_iff.1 hk).1
  obtain ⟨b, off, e, _, _, hcc⟩ := hs.t.l.2 (by omega)
  rw [← hs.tx, List.getElem?_map] at hk
  obtain ⟨x, hx, hxe⟩ : ∃ x, h.tx[k]? = some x ∧ x.1 = t := by
    cases hx : h.tx[k]? with
    | none => rw [hx] at hk; cases hk
    | some x => rw [hx] at hk; exact ⟨x, rfl, by simpa using hk⟩
  subst hxe
  exact ⟨b, off, x.2.A, x.2.c, e, hcc (k * 4 + 0) _ (flat_get encT_len h.tx k 0 x hx (by omega)), hcc (k * 4 + 1) _ (flat_get encT_len h.tx k 1 x hx (by omega)), hcc (k * 4 + 2) _ (flat_get encT_len h.tx k 2 x hx (by omega)), hcc (k * 4 + 3) _ (flat_get encT_len h.tx k 3 x hx (by omega)), hs.ss x (List.mem_of_getElem? hx)⟩
theorem rowU {w : World} {A : Option Addr} {n c : Nat} {l : List Int} (h : RwIn w 0 1 A n c (l.map (Value.int .u32))) (hn : l.length = n) : ∀ k x, l[k]? = some x → ∃ b off, A = some ⟨b, off, none⟩ ∧ w.cell? ⟨b, off + k, none⟩ = some (.int .u32 x) := by
  intro k x hk
  have hlt := (List.getElem?_eq_some_iff.1 hk).1
  obtain ⟨b, off, e, _, _, hcc⟩ := h.l.2 (by omega)
  exact ⟨b, off, e, hcc k _ (by rw [List.getElem?_map, hk]; rfl)⟩
end Go.Proofs.Ytjcbaelefacolaa
/- A region that draws its order: reads first, wherever they stand; then a call, beside which an alloc floats; then copies; then a tail in one forced order. Two walks serve every order: the alloc ahead of the call, and behind it.
   Conditions: the Bool over the region holds; each read is quiet in the class; the class holds behind each operation but the last. -/
namespace Go.Proofs.Ytjcbaelefacolaa
open Go

section
variable {P : Program} {ops : Array Oper} {md : Region.Mode} {S : World → Prop} {Q : Exit → Act → World → Prop}

/-- some operations in a row, the class behind each; then K -/
def wpHeldK (P : Program) (ops : Array Oper) (Q : Exit → Act → World → Prop) (S : World → Prop) (K : Act → World → Prop) : List Oper → Act → World → Prop
  | [], a, w => K a w
  | o :: rest, a, w =>
    if Region.wanted o (yielded ops a.tmps) then o.wp P a w (fun a' w' => S w' ∧ wpHeldK P ops Q S K rest a' w') Q ∨ (o.asks P a w ∧ LetsOut Q) else S w ∧ wpHeldK P ops Q S K rest (a.put o.dst undef) w
theorem wpHeldK_step {K : Act → World → Prop} {a : Act} {w : World} {o : Oper} {rest : List Oper} (hg : o.guard = none)
    (h : ∀ J : Act → World → Prop, RowKit.Hid (∀ a w, S w → wpHeldK P ops Q S K rest a w → J a w) → Oper.wp P o a w J Q) : wpHeldK P ops Q S K (o :: rest) a w := by
  unfold wpHeldK
  rw [if_pos (by simp [Region.wanted, hg])]
  exact .inl (h _ (Lib.hid (fun a w h1 h2 => ⟨h1, h2⟩)))
/-- one operation of a held tail by a law on lists -/
theorem wpHeld_list {o : Oper} {rest : List Oper} {a : Act} {w : World} (h : ∀ Q1 : Exit → Act → World → Prop, RowKit.Hid (∀ a w, (rest = [] ∨ S w) → wpHeld P ops Q S rest a w → Q1 .normal a w) → wpList P ops Q1 [o] a w) : wpHeld P ops Q S (o :: rest) a w := by
  have h1 := h (fun e a w => match e with | .normal => (rest = [] ∨ S w) ∧ wpHeld P ops Q S rest a w | e => Q e a w) (Lib.hid (fun a w k1 k2 => ⟨k1, k2⟩))
  unfold wpHeld
  unfold wpList at h1
  split
  · rename_i hw
    rw [if_pos hw] at h1
    exact h1
  · rename_i hw
    rw [if_neg hw] at h1
    exact h1
theorem wpQuiet_then {K : Act → World → Prop} {a : Act} {w : World} (h : K a w) : wpHeldK P ops Q S K [] a w := h
theorem op_of_heldK {K : Act → World → Prop} {a : Act} {w : World} {i : Nat} {o : Oper} {rest : List Oper} (h0 : ops[i]? = some o) (h : wpHeldK P ops Q S K (o :: rest) a w) : wpOp P ops Q i (fun a' w' => S w' ∧ wpHeldK P ops Q S K rest a' w') a w := by
  unfold wpOp
  simp only [h0]
  unfold wpHeldK at h
  exact h
theorem wpQuiet_imp {R R' : Act → Prop} (h : ∀ a, R a → R' a) : ∀ (l : List Oper) (a : Act), wpQuiet P ops S R l a → wpQuiet P ops S R' l a := by
  intro l
  induction l with
  | nil => intro a ha; exact h a ha
  | cons o rest ih =>
    intro a ha
    unfold wpQuiet at ha ⊢
    split
    · rename_i hw
      rw [if_pos hw] at ha
      obtain ⟨v, h1, h2⟩ := ha
      exact ⟨v, h1, ih _ h2⟩
    · rename_i hw
      rw [if_neg hw] at ha
      exact ih _ ha
/-- marked, one behind the other -/
def markAll : List Nat → Array Bool → Array Bool
  | [], done => done
  | k :: is, done => markAll is (done.setIfInBounds k true)
def pre5 (md : Region.Mode) (ops : Array Oper) : List Nat → Array Bool → Bool
  | [], _ => true
  | k :: is, done => valB ops k && decide (k < ops.size) && awaited md ops k && (Region.ready md ops done).contains k && Region.free md ops done k && pre5 md ops is (done.setIfInBounds k true)
theorem marks_all : ∀ (is : List Nat) (done : Array Bool), Marks4 md ops done → pre5 md ops is done = true → Marks4 md ops (markAll is done) := by
  intro is
  induction is with
  | nil => intro done h _; exact h
  | cons k is ih =>
    intro done h hB
    simp only [pre5, Bool.and_eq_true, decide_eq_true_eq] at hB
    exact ih _ (h.set (by simpa using hB.1.1.2)) hB.2
theorem pre_anyD2 {l : List Oper} {w : World} {m : Nat} (hsel : Region.noSelect l.toArray = true) (hQ : ∀ c tmps a w, Q (.panic c) { a with tmps := tmps } w → Q (.panic c) a w) (hS : S w) :
    ∀ (is : List Nat) (done : Array Bool) (a : Act), Marks4 md l.toArray done →
      pre5 md l.toArray is done = true → wpQuiet P l.toArray S (fun a' => wpAnyD P md l.toArray Q S m (markAll is done) a' w) (pick3 l is) a → wpAnyD P md l.toArray Q S (is.length + m) done a w := by
  intro is
  induction is with
  | nil =>
    intro done a _ _ hq
    rw [List.length_nil, Nat.zero_add]
    exact hq
  | cons k is ih =>
    intro done a hM hB hq
    simp only [pre5, Bool.and_eq_true, decide_eq_true_eq] at hB
    obtain ⟨⟨⟨⟨⟨hmv, hks⟩, haw⟩, hr⟩, hf⟩, hB'⟩ := hB
    obtain ⟨o, h0⟩ : ∃ o, l[k]? = some o := ⟨_, List.getElem?_eq_getElem (by simpa using hks)⟩
    have h0' : l.toArray[k]? = some o := by simpa using h0
    rw [pick3_cons h0] at hq
    have hr' : k ∈ Region.ready md l.toArray done := by simpa using hr
    have hq' : qOp P l.toArray S k (wpQuiet P l.toArray S (fun a' => wpAnyD P md l.toArray Q S m (markAll (k :: is) done) a' w) (pick3 l is)) a := by unfold qOp; simp only [h0']; exact hq
    obtain ⟨v, hy, hK⟩ := yieldsIn_of_qOp h0' hq'
    rw [show (k :: is).length + m = (is.length + m) + 1 by simp; omega]
    exact wpAnyD_first h0' (Region.noSelect_spec hsel) haw (fun c a' w' h' => hQ c (a'.put o.dst v).tmps a' w' (by rw [put_tmps]; exact h')) (is.length + m) done a w hM (Region.free_spec h0' hf) hr' (yieldsIf_of_val h0' hmv hy) hS
      (ih _ _ (hM.set hr') hB' hK)

def new5 (md : Region.Mode) (ops : Array Oper) (F : List Nat) (k al : Nat) (P2 T2 : List Nat) : Bool :=
  Region.noSelect ops && decide (F.length + (P2.length + T2.length + 2) = ops.size) && pre5 md ops F (Array.replicate ops.size false) && decide (k < ops.size) && decide (al < ops.size) &&
  decide (Region.ready md ops (markAll F (Array.replicate ops.size false)) = [k, al]) &&
  decide (Region.ready md ops ((markAll F (Array.replicate ops.size false)).setIfInBounds al true) = [k]) &&
  pre4 md ops T2 P2 (((markAll F (Array.replicate ops.size false)).setIfInBounds al true).setIfInBounds k true) &&
  pre4 md ops (al :: T2) P2 ((markAll F (Array.replicate ops.size false)).setIfInBounds k true)

/-- THE REGION: F is taken first; then the call and the alloc, in either order; then P2 and T2. -/
theorem wp_new_call {id : Nat} {a : Act} {w : World} {l : List Oper} (C : World → Prop) (hC : C (w.drewN 1)) (F : List Nat) (k al : Nat) (P2 T2 : List Nat) (hm : P.follows .mixedOrders = true) (hB : new5 .any l.toArray F k al P2 T2 = true)
    (hQ : ∀ c tmps a w, Q (.panic c) { a with tmps := tmps } w → Q (.panic c) a w)
    (h : Nonempty (Cls C) → wpQuiet P l.toArray (fun w' => ∃ x : Cls C, w' = x.w) (fun a' =>
      wpHeldK P l.toArray Q (fun w' => ∃ x : Cls C, w' = x.w) (fun a2 w2 => wpQuiet P l.toArray (fun w' => ∃ x : Cls C, w' = x.w) (fun a3 => wpHeld P l.toArray Q (fun w' => ∃ x : Cls C, w' = x.w) (pick3 l T2) a3 w2) (pick3 l P2) a2) (pick3 l [al, k]) a' (w.drewN 1) ∧
      wpHeldK P l.toArray Q (fun w' => ∃ x : Cls C, w' = x.w) (fun a2 w2 => wpQuiet P l.toArray (fun w' => ∃ x : Cls C, w' = x.w) (fun a3 => wpHeld P l.toArray Q (fun w' => ∃ x : Cls C, w' = x.w) (pick3 l (al :: T2)) a3 w2) (pick3 l P2) a2) (pick3 l [k]) a' (w.drewN 1)) (pick3 l F) a) :
    (Code.region id l.toArray true).wp P Q a w := by
  have h := h ⟨⟨_, hC⟩⟩
  simp only [new5, Bool.and_eq_true, decide_eq_true_eq] at hB
  obtain ⟨⟨⟨⟨⟨⟨⟨⟨hsel, hlen⟩, hpre⟩, hk⟩, hal⟩, hr0⟩, hr1⟩, hp1⟩, hp2⟩ := hB
  have inv0 : Marks4 .any l.toArray (Array.replicate l.toArray.size false) :=
    ⟨by simp, fun j oj _ hl => by rw [getD_replicate_false] at hl; exact absurd hl (by decide)⟩
  have inv1 := marks_all F _ inv0 hpre
  obtain ⟨ok, h0⟩ : ∃ o, l[k]? = some o := ⟨_, List.getElem?_eq_getElem (by simpa using hk)⟩
  have h0' : l.toArray[k]? = some ok := by simpa using h0
  obtain ⟨oa, g0⟩ : ∃ o, l[al]? = some o := ⟨_, List.getElem?_eq_getElem (by simpa using hal)⟩
  have g0' : l.toArray[al]? = some oa := by simpa using g0
  have mk : k ∈ Region.ready .any l.toArray (markAll F (Array.replicate l.toArray.size false)) := by rw [hr0]; simp
  have ma : al ∈ Region.ready .any l.toArray (markAll F (Array.replicate l.toArray.size false)) := by rw [hr0]; simp
  have mk2 : k ∈ Region.ready .any l.toArray ((markAll F (Array.replicate l.toArray.size false)).setIfInBounds al true) := by rw [hr1]; simp
  refine wp_region_any hm ?_
  have key := pre_anyD2 (P := P) (md := .any) (Q := Q) (m := P2.length + T2.length + 2) (w := { w with drawn := w.drawn + 1 }) (S := fun w' => ∃ x : Cls C, w' = x.w) hsel hQ ⟨⟨_, hC⟩, rfl⟩ F _ a inv0 hpre (wpQuiet_imp (fun a' ha' => ?_) _ _ h)
  · rw [hlen] at key
    exact wpAny_of_D _ _ _ _ key
  obtain ⟨G1, G2⟩ := ha'
  rw [pick3_cons g0, pick3_cons h0] at G1
  rw [pick3_cons h0] at G2
  refine ⟨fun hn => (by rw [hr0] at hn; cases hn), fun i hi => ?_⟩
  rw [hr0] at hi
  rcases List.mem_cons.1 hi with rfl | hi
  · refine wpOp_mono (fun a2 w2 h2 => ⟨.inr h2.1, ?_⟩) (op_of_heldK h0' G2)
    have h3 : wpQuiet P l.toArray (fun w' => ∃ x : Cls C, w' = x.w) (fun a3 => wpHeld P l.toArray Q (fun w' => ∃ x : Cls C, w' = x.w) (pick3 l (al :: T2)) a3 w2) (pick3 l P2) a2 := h2.2
    have := pre_anyD (P := P) (md := .any) (Q := Q) (T := al :: T2) (w := w2) hsel hQ h2.1 P2 _ a2 (inv1.set mk) hp2 h3
    rw [show P2.length + (al :: T2).length = P2.length + T2.length + 1 by simp; omega] at this
    exact this
  · obtain rfl : i = al := by simpa using hi
    refine wpOp_mono (fun a2 w2 h2 => ⟨.inr h2.1, ?_⟩) (op_of_heldK g0' G1)
    refine ⟨fun hn => (by rw [hr1] at hn; cases hn), fun j hj => ?_⟩
    rw [hr1] at hj
    obtain rfl : j = k := by simpa using hj
    refine wpOp_mono (fun a3 w3 h3 => ⟨.inr h3.1, ?_⟩) (op_of_heldK h0' h2.2)
    have h4 : wpQuiet P l.toArray (fun w' => ∃ x : Cls C, w' = x.w) (fun a3 => wpHeld P l.toArray Q (fun w' => ∃ x : Cls C, w' = x.w) (pick3 l T2) a3 w3) (pick3 l P2) a3 := h3.2
    exact pre_anyD (P := P) (md := .any) (Q := Q) (T := T2) (w := w3) hsel hQ h3.1 P2 _ a3 ((inv1.set ma).set mk2) hp1 h4
end
end Go.Proofs.Ytjcbaelefacolaa
/- slices.IndexFunc at louver/delta.Sub, by the function value louver/delta.Gone$1: the first place. Conditions: what the function value answers; no more than 100000. -/
namespace Go.Proofs.Ytjcbaelefacolaa
open Go Go.RowKit
set_option maxHeartbeats 400000

set_option maxRecDepth 100000 in
theorem idxS4_any {w : World} {A : Option Addr} {n c : Nat} {R : List Sb} (p : Sb → Bool) (z : Option Addr) (h : CellsIn w 0 w.heap.size 5 A n (R.flatMap encB)) (hn : R.length = n) (hl : n ≤ 100000)
    (hp : ∀ W, Upd [] w W → ∀ x, x ∈ R → Calls Try.prog 43 #[.agg (encB x).toArray, .pointer z] W fun e W' => e = .returned (.bool (p x)) ∧ Upd [] W W') :
    Calls Try.prog 73 #[.slice A n c, .func (.func 43) #[] #[.pointer z]] w fun e w' => e = .returned (.int .i64 (idxM p R)) ∧ Upd [] w w' := by
  have HC := Lib.hid h
  have HN := Lib.hid hn
  have HP := Lib.hid hp
  obtain ⟨r, hr⟩ : ∃ r, r = idxM p R := ⟨_, rfl⟩
  rw [← hr]
  have HR := Lib.hid hr
  clear h hn hp hr
  go_enter Try.func73, Try.ntmps73
  go_wp2
  go_loopg [8] n (fun gk x8 wr => ∃ k : Nat, k ≤ n ∧ n ≤ k + gk ∧ x8 = .int .i64 k ∧ (∀ x, x ∈ R.take k → p x = false) ∧ Upd [] w wr)
  case atStart => exact ⟨0, Nat.zero_le _, by omega, rfl, by simp, Upd.refl _ _⟩
  case round =>
    obtain ⟨k, hk, hgk, rfl, hall, hu⟩ := hrel
    by_cases hlt : k < n
    · have hlti : (k : Int) < (n : Int) := by omega
      have hw : IntKind.i64.wrap ((k : Int) + 1) = (k : Int) + 1 := IntWalk.i64_in _ (by omega)
      obtain ⟨x, hx⟩ : ∃ x, R[k]? = some x := ⟨_, List.getElem?_eq_getElem (by rw [HN.out]; exact hlt)⟩
      obtain ⟨b, off, rfl, _, hb, hcc⟩ := HC.out.2 (by omega)
      have HCL := Lib.hid (HP.out wr hu x (List.mem_of_getElem? hx))
      obtain ⟨y, hy⟩ : ∃ y, y = p x := ⟨_, rfl⟩
      rw [← hy] at HCL
      have HX : Hid (y = true → r = (k : Int)) := Lib.hid (fun h => by
        rw [HR.out]
        exact idxM_at hx (by rw [← hy]; exact h) hall)
      have HALL : Hid (y = false → ∀ x, x ∈ R.take (k + 1) → p x = false) := Lib.hid (fun h a ha => by
        rw [List.take_add_one, hx, List.mem_append] at ha
        rcases ha with ha | ha
        · exact hall a ha
        · simp at ha
          rw [ha, ← hy]; exact h)
      have c0 := (hu.cell (p := ⟨b, off + (k * 5 + 0), none⟩) hb (by simp)).trans (hcc (k * 5 + 0) _ (flat_get encB_len R k 0 x hx (by omega)))
      have c1 := (hu.cell (p := ⟨b, off + (k * 5 + 1), none⟩) hb (by simp)).trans (hcc (k * 5 + 1) _ (flat_get encB_len R k 1 x hx (by omega)))
      have c2 := (hu.cell (p := ⟨b, off + (k * 5 + 2), none⟩) hb (by simp)).trans (hcc (k * 5 + 2) _ (flat_get encB_len R k 2 x hx (by omega)))
      have c3 := (hu.cell (p := ⟨b, off + (k * 5 + 3), none⟩) hb (by simp)).trans (hcc (k * 5 + 3) _ (flat_get encB_len R k 3 x hx (by omega)))
      have c4 := (hu.cell (p := ⟨b, off + (k * 5 + 4), none⟩) hb (by simp)).trans (hcc (k * 5 + 4) _ (flat_get encB_len R k 4 x hx (by omega)))
      obtain ⟨x0, x1, x2, x3, x4⟩ := x
      simp only [encB, List.getElem?_cons_zero, List.getElem?_cons_succ, List.getElem_cons_zero, List.getElem_cons_succ, ← Nat.add_assoc, Nat.add_zero] at c0 c1 c2 c3 c4
      simp only [encB] at HCL
      have HU := Lib.hid hu
      clear hall hu hx hb hcc hy
      go_wp2_with fail
      refine HCL.out.mono ?_
      rintro e w1 ⟨rfl, hu1⟩
      have HU1 := Lib.hid (HU.out.next hu1)
      clear hu1 HCL c0 c1 c2 c3 c4
      cases y with
      | true =>
        go_wp2
        go_ret
        exact ⟨ret_int (HX.out (by trivial)).symm, HU1.out⟩
      | false =>
        go_wp2
        go_roundg (gk - 1)
        case measure => omega
        case rel => exact ⟨k + 1, by omega, by omega, by go_num, HALL.out (by trivial), HU1.out⟩
    · obtain rfl : k = n := by omega
      have HU := Lib.hid hu
      have HX : Hid (r = -1) := Lib.hid (by
        rw [HR.out]
        refine idxM_no ?_
        rw [← HN.out, List.take_length] at hall
        exact hall)
      clear hall hu
      go_wp2
      go_ret
      exact ⟨ret_int HX.out.symm, HU.out⟩
end Go.Proofs.Ytjcbaelefacolaa
