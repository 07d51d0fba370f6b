/- Parts of the proof, one behind the other: DDelS4, DGone, DOf, DRFind. No condition of their own. -/
import Derived.Test.YtjcbaelefacolaaB6
import Derived.Test.YtjcbaelefacolaaB1
import Derived.Test.YtjcbaelefacolaaB4
import Derived.Test.YtjcbaelefacolaaB2
/- slices.DeleteFunc at louver/delta.Sub, by the function value louver/delta.Gone$1: what stays, in place. Conditions: what the function value answers; no more than 100000. -/
namespace Go.Proofs.Ytjcbaelefacolaa
open Go Go.RowKit
set_option maxHeartbeats 400000

/-- one element stored -/
def delS4_set (w : World) (b i : Nat) (x : Sb) : World := (((((w.setCell ⟨b, i * 5, none⟩ (.int .i64 x.who)).setCell ⟨b, i * 5 + 1, none⟩ (.int .i64 x.track)).setCell ⟨b, i * 5 + 2, none⟩ (.int .i64 x.layer)).setCell ⟨b, i * 5 + 3, none⟩ (.int .i64 x.tid)).setCell ⟨b, i * 5 + 4, none⟩ (.bool x.muted))
theorem delS4_row {w : World} {N b n c i : Nat} {X : List Sb} (h : w.ownsRow N 55 5 (.slice (some ⟨b, 0, none⟩) n c) n (X.flatMap encB)) (hi : i < X.length) (x : Sb) :
    (delS4_set w b i x).ownsRow N 55 5 (.slice (some ⟨b, 0, none⟩) n c) n ((X.set i x).flatMap encB) ∧ Upd [b] w (delS4_set w b i x) := by
  have hy : X[i]? = some X[i] := List.getElem?_eq_getElem hi
  have h1 := (h.stored (i * 5 + 0) (.int .i64 x.who)).1
  rw [flat_set encB_len X i 0 X[i] (⟨x.who, X[i].track, X[i].layer, X[i].tid, X[i].muted⟩ : Sb) _ hy (by omega) rfl] at h1
  have h2 := (h1.stored (i * 5 + 1) (.int .i64 x.track)).1
  rw [flat_set encB_len _ i 1 (⟨x.who, X[i].track, X[i].layer, X[i].tid, X[i].muted⟩ : Sb) (⟨x.who, x.track, X[i].layer, X[i].tid, X[i].muted⟩ : Sb) _ (by rw [List.getElem?_set_self hi]) (by omega) rfl, List.set_set] at h2
  have h3 := (h2.stored (i * 5 + 2) (.int .i64 x.layer)).1
  rw [flat_set encB_len _ i 2 (⟨x.who, x.track, X[i].layer, X[i].tid, X[i].muted⟩ : Sb) (⟨x.who, x.track, x.layer, X[i].tid, X[i].muted⟩ : Sb) _ (by rw [List.getElem?_set_self hi]) (by omega) rfl, List.set_set] at h3
  have h4 := (h3.stored (i * 5 + 3) (.int .i64 x.tid)).1
  rw [flat_set encB_len _ i 3 (⟨x.who, x.track, x.layer, X[i].tid, X[i].muted⟩ : Sb) (⟨x.who, x.track, x.layer, x.tid, X[i].muted⟩ : Sb) _ (by rw [List.getElem?_set_self hi]) (by omega) rfl, List.set_set] at h4
  have h5 := (h4.stored (i * 5 + 4) (.bool x.muted)).1
  rw [flat_set encB_len _ i 4 (⟨x.who, x.track, x.layer, x.tid, X[i].muted⟩ : Sb) x _ (by rw [List.getElem?_set_self hi]) (by omega) rfl, List.set_set] at h5
  exact ⟨h5, (((((Upd.refl [b] w).setCell (p := ⟨b, i * 5, none⟩) (.inl (List.mem_singleton.2 rfl)) _).setCell (p := ⟨b, i * 5 + 1, none⟩) (.inl (List.mem_singleton.2 rfl)) _).setCell (p := ⟨b, i * 5 + 2, none⟩) (.inl (List.mem_singleton.2 rfl)) _).setCell (p := ⟨b, i * 5 + 3, none⟩) (.inl (List.mem_singleton.2 rfl)) _).setCell (p := ⟨b, i * 5 + 4, none⟩) (.inl (List.mem_singleton.2 rfl)) _⟩
set_option maxRecDepth 100000 in
theorem delS4_any {w : World} {N : Nat} {A : Option Addr} {n c : Nat} {R : List Sb} (p : Sb → Bool) (z : Option Addr) (h : w.ownsRow N 55 5 (.slice A n c) n (R.flatMap encB)) (hn : R.length = n) (hl : n ≤ 100000)
    (hp : ∀ W, Upd (A.toList.map (·.block)) w W → ∀ x, x ∈ R → Calls Try.prog 43 #[.agg (encB x).toArray, .pointer z] W fun e W' => e = .returned (.bool (p x)) ∧ Upd [] W W') :
    Calls Try.prog 41 #[.slice A n c, .func (.func 43) #[] #[.pointer z]] w fun e w' =>
      e = .returned (.slice A (R.filter (fun x => !p x)).length c) ∧ w'.ownsRow N 55 5 (.slice A (R.filter (fun x => !p x)).length c) (R.filter (fun x => !p x)).length ((R.filter (fun x => !p x)).flatMap encB) ∧ Upd (A.toList.map (·.block)) w w' := by
  have HO := Lib.hid h
  have HN := Lib.hid hn
  have HP := Lib.hid hp
  have HI := Lib.hid (idxS4_any p z ((CellsIn.of_own h).more (Nat.zero_le _) (Nat.le_refl _)) hn hl (c := c) (fun W u x hx => hp W (u.more (by simp)) x hx))
  obtain ⟨F, hF⟩ : ∃ F, F = R.filter (fun x => !p x) := ⟨_, rfl⟩
  rw [← hF]
  have HF := Lib.hid hF
  clear h hn hp hF
  go_enter Try.func41, Try.ntmps41
  go_wp2_with fail
  refine HI.out.mono ?_
  rintro e w1 ⟨rfl, hu1⟩
  have HU1 := Lib.hid hu1
  clear hu1 HI
  rcases idxM_or p R with ⟨hr, hall⟩ | ⟨i, x, hr, hi, hx, hpx, hall⟩
  · rw [hr]
    have HE : Hid (F = R) := Lib.hid (by rw [HF.out]; exact List.filter_eq_self.2 (fun y hy => by rw [hall y hy]; rfl))
    clear hr hall
    have HG : Hid (F.length = n ∧ w1.ownsRow N 55 5 (.slice A n c) n (F.flatMap encB) ∧ Upd (A.toList.map (·.block)) w w1) :=
      Lib.hid ⟨by rw [HE.out, HN.out], by rw [HE.out]; exact ownsRow_upd HO.out HU1.out (by simp), HU1.out.more (by simp)⟩
    go_wp2
    go_ret
    rw [HG.out.1]
    exact ⟨rfl, HG.out.2⟩
  · rw [hr]
    have hib : i < n := by rw [← HN.out]; exact (List.getElem?_eq_some_iff.1 hx).1
    obtain ⟨A', c', hve, hnc, hA, _⟩ := own_form HO.out
    injection hve with e1 _ e3
    subst e1
    subst e3
    obtain ⟨b, hb, hb1, hb2⟩ := hA (by omega)
    subst hb
    have hwi : IntKind.i64.wrap ((i : Int) + 1) = (i : Int) + 1 := IntWalk.i64_in _ (by omega)
    have hne1 : ¬ (i : Int) = -1 := by omega
    have HM : Hid (∃ X : List Sb, X.length = n ∧ X.take i = (R.take (i + 1)).filter (fun x => !p x) ∧ X.drop (i + 1) = R.drop (i + 1) ∧ w1.ownsRow N 55 5 (.slice (some ⟨b, 0, none⟩) n c) n (X.flatMap encB)) := by
      refine Lib.hid ⟨R, HN.out, ?_, rfl, ownsRow_upd HO.out HU1.out (by simp)⟩
      rw [List.take_add_one, hx, List.filter_append, List.filter_eq_self.2 (fun y hy => by rw [hall y hy]; rfl)]
      simp [hpx]
    clear hr hall hpx hx hA
    go_wp2
    go_loopg [5, 6] n (fun gk x5 x6 wr => ∃ i j : Nat, x5 = .int .i64 i ∧ x6 = .int .i64 j ∧ i < j ∧ j ≤ n ∧ n ≤ j + gk ∧
      (∃ X : List Sb, X.length = n ∧ X.take i = (R.take j).filter (fun x => !p x) ∧ X.drop j = R.drop j ∧ wr.ownsRow N 55 5 (.slice (some ⟨b, 0, none⟩) n c) n (X.flatMap encB)) ∧ Upd [b] w wr)
    case atStart => exact ⟨i, i + 1, rfl, by go_num, by omega, by omega, by omega, HM.out, HU1.out.more (by simp)⟩
    case round =>
      obtain ⟨i, j, rfl, rfl, hij, hjn, hgj, ⟨X, hXl, hXt, hXd, hXr⟩, hu⟩ := hrel
      by_cases hlt : j < n
      · have hltj : (j : Int) < (n : Int) := by omega
        have hin : (i : Int) < (n : Int) := by omega
        have hwj : IntKind.i64.wrap ((j : Int) + 1) = (j : Int) + 1 := IntWalk.i64_in _ (by omega)
        have hwi2 : IntKind.i64.wrap ((i : Int) + 1) = (i : Int) + 1 := IntWalk.i64_in _ (by omega)
        obtain ⟨x, hx⟩ : ∃ x, X[j]? = some x := ⟨_, List.getElem?_eq_getElem (by rw [hXl]; exact hlt)⟩
        have hRx : R[j]? = some x := by
          have := congrArg (fun l => l[0]?) hXd
          simp only [List.getElem?_drop] at this
          rw [← hx]; simpa using this.symm
        have hcell := fun (k : Nat) (u : Value) (hu : (X.flatMap encB)[k]? = some u) => (by
          have := hXr.cells (g := b) rfl k u hu
          by_cases hk : k = 0
          · subst hk; exact this
          · simpa [Addr.add, hk] using this : wr.cell? ⟨b, k, none⟩ = some u)
        have hbw : b < wr.heap.size := (own_block_lt hXr (g := b) rfl).2
        obtain ⟨y, hy⟩ : ∃ y, y = p x := ⟨_, rfl⟩
        have hcl := fun (o : Obj) => HP.out (wr.alloc o) (hu.alloc o) x (List.mem_of_getElem? hRx)
        rw [← hy] at hcl
        have HCL := Lib.hid hcl
        have HXX := Lib.hid (And.intro hXl (And.intro hXt (And.intro hXd hXr)))
        have HSK : Hid (y = true → X.take i = (R.take (j + 1)).filter (fun x => !p x) ∧ X.drop (j + 1) = R.drop (j + 1)) := Lib.hid (fun h => by
          refine ⟨?_, ?_⟩
          · rw [List.take_add_one, hRx, List.filter_append, hXt]
            simp [← hy, h]
          · have := congrArg (List.drop 1) hXd
            simpa [List.drop_drop] using this)
        have HST : Hid (y = false → (X.set i x).take (i + 1) = (R.take (j + 1)).filter (fun x => !p x) ∧ (X.set i x).drop (j + 1) = R.drop (j + 1) ∧ (X.set i x).length = n) := Lib.hid (fun h => by
          refine ⟨?_, ?_, by rw [List.length_set, hXl]⟩
          · have hl : (X.set i x).take (i + 1) = X.take i ++ [x] := by
              rw [List.take_add_one, List.getElem?_set_self (by omega), List.take_set_of_le (Nat.le_refl _)]
              rfl
            rw [hl, List.take_add_one (l := R), hRx, List.filter_append, ← hXt]
            simp [← hy, h]
          · rw [List.drop_set_of_lt (by omega)]
            have := congrArg (List.drop 1) hXd
            simpa [List.drop_drop] using this)
        have HXX2 := Lib.hid hx
        have HU := Lib.hid hu
        have HFILL := Lib.hid (fun (w2 : World) (u : Upd [] wr w2) => delS4_row (ownsRow_upd hXr u (by simp)) (i := i) (by rw [hXl]; omega) x)
        unfold delS4_set at HFILL
        have c0 := hcell (j * 5 + 0) _ (flat_get encB_len X j 0 x hx (by omega))
        have c1 := hcell (j * 5 + 1) _ (flat_get encB_len X j 1 x hx (by omega))
        have c2 := hcell (j * 5 + 2) _ (flat_get encB_len X j 2 x hx (by omega))
        have c3 := hcell (j * 5 + 3) _ (flat_get encB_len X j 3 x hx (by omega))
        have c4 := hcell (j * 5 + 4) _ (flat_get encB_len X j 4 x hx (by omega))
        obtain ⟨x0, x1, x2, x3, x4⟩ := x
        simp only [encB, List.getElem?_cons_zero, List.getElem?_cons_succ, List.getElem_cons_zero, List.getElem_cons_succ, ← Nat.add_assoc, Nat.add_zero] at c0 c1 c2 c3 c4
        simp only [encB] at HCL
        have HCELL := Lib.hid hcell
        have HBN := Lib.hid hbw
        clear hcell hcl hx hRx hXl hXt hXd hXr hu hy
        go_upto_region 8 with fail
        obtain ⟨w2, hw2⟩ : ∃ w2, w2 = wr.alloc (.cells #[.int .i64 x0, .int .i64 x1, .int .i64 x2, .int .i64 x3, .bool x4] 55) := ⟨_, rfl⟩
        obtain ⟨V, hV⟩ : ∃ V, V = wr.heap.size := ⟨_, rfl⟩
        have hBv : Blk w2 V 55 #[.int .i64 x0, .int .i64 x1, .int .i64 x2, .int .i64 x3, .bool x4] := by rw [hw2, hV]; exact Blk.new _ _ _
        have hu2 : Upd [] wr w2 := by rw [hw2]; exact (Upd.refl [] wr).alloc _
        have hcl2 := HCL.out (.cells #[.int .i64 x0, .int .i64 x1, .int .i64 x2, .int .i64 x3, .bool x4] 55)
        rw [← hw2] at hcl2
        rw [← hw2, ← hV]
        have HCL2 := Lib.hid hcl2
        have HBV := Lib.hid hBv
        have HU2 := Lib.hid hu2
        have HVN : Hid (b ≠ V) := Lib.hid (by rw [hV]; have := HBN.out; omega)
        clear hw2 hV hcl2 hu2 HCL c0 c1 c2 c3 c4
        have v0 := hBv.cell 0
        have v1 := hBv.cell 1
        have v2 := hBv.cell 2
        have v3 := hBv.cell 3
        have v4 := hBv.cell 4
        simp only [List.getElem?_toArray, List.getElem?_cons_zero, List.getElem?_cons_succ] at v0 v1 v2 v3 v4
        clear hBv
        go_wp2_with fail
        refine HCL2.out.mono ?_
        rintro e w3 ⟨rfl, hu3⟩
        have HU3 := Lib.hid (HU2.out.next hu3)
        have HU3' := Lib.hid hu3
        clear hu3 HCL2 v0 v1 v2 v3 v4
        cases y with
        | true =>
          have HS := HSK.out (by trivial)
          have HREL : Hid (∃ X : List Sb, X.length = n ∧ X.take i = (R.take (j + 1)).filter (fun x => !p x) ∧ X.drop (j + 1) = R.drop (j + 1) ∧ w3.ownsRow N 55 5 (.slice (some ⟨b, 0, none⟩) n c) n (X.flatMap encB)) :=
            Lib.hid ⟨X, HXX.out.1, HS.1, HS.2, ownsRow_upd HXX.out.2.2.2 HU3.out (by simp)⟩
          clear HS
          go_wp2
          go_roundg (gk - 1)
          case measure => omega
          case rel => exact ⟨i, j + 1, rfl, by go_num, by omega, by omega, by omega, HREL.out, HU.out.next (HU3.out.more (by simp))⟩
        | false =>
          have HS := HST.out (by trivial)
          have hf3 := HFILL.out w3 HU3.out
          obtain ⟨y, hy⟩ : ∃ y, X[i]? = some y := ⟨_, List.getElem?_eq_getElem (by rw [HXX.out.1]; omega)⟩
          have hX3 := ownsRow_upd HXX.out.2.2.2 HU3.out (by simp)
          have hcell2 := fun (k : Nat) (u : Value) (hu : (X.flatMap encB)[k]? = some u) => (by
            have := hX3.cells (g := b) rfl k u hu
            by_cases hk : k = 0
            · subst hk; exact this
            · simpa [Addr.add, hk] using this : w3.cell? ⟨b, k, none⟩ = some u)
          have hfz2 := fun (k : Nat) => (by
            have := hX3.frozenAt k
            by_cases hk : k = 0
            · subst hk; exact this
            · simpa [Addr.add, hk] using this : w3.frozen? ⟨b, k, none⟩ = false)
          have hBx := HBV.out.upd HU3'.out (by simp)
          have e0 := hcell2 (i * 5 + 0) _ (flat_get encB_len X i 0 y hy (by omega))
          have f0 := hfz2 (i * 5 + 0)
          have b0 := hBx.cell 0
          have e1 := hcell2 (i * 5 + 1) _ (flat_get encB_len X i 1 y hy (by omega))
          have f1 := hfz2 (i * 5 + 1)
          have b1 := hBx.cell 1
          have e2 := hcell2 (i * 5 + 2) _ (flat_get encB_len X i 2 y hy (by omega))
          have f2 := hfz2 (i * 5 + 2)
          have b2 := hBx.cell 2
          have e3 := hcell2 (i * 5 + 3) _ (flat_get encB_len X i 3 y hy (by omega))
          have f3 := hfz2 (i * 5 + 3)
          have b3 := hBx.cell 3
          have e4 := hcell2 (i * 5 + 4) _ (flat_get encB_len X i 4 y hy (by omega))
          have f4 := hfz2 (i * 5 + 4)
          have b4 := hBx.cell 4
          simp only [List.getElem?_toArray, List.getElem?_cons_zero, List.getElem?_cons_succ] at b0 b1 b2 b3 b4
          simp only [encB, List.getElem?_cons_zero, List.getElem?_cons_succ, List.getElem_cons_zero, List.getElem_cons_succ, ← Nat.add_assoc, Nat.add_zero] at e0 e1 e2 e3 e4
          simp only [← Nat.add_assoc, Nat.add_zero] at f0 f1 f2 f3 f4
          have hbne := HVN.out
          obtain ⟨w4, hw4⟩ : ∃ w4, w4 = delS4_set w3 b i (⟨x0, x1, x2, x3, x4⟩ : Sb) := ⟨_, rfl⟩
          unfold delS4_set at hw4
          dsimp only at hw4 hf3
          rw [← hw4] at hf3
          have HREL : Hid ((∃ X : List Sb, X.length = n ∧ X.take (i + 1) = (R.take (j + 1)).filter (fun x => !p x) ∧ X.drop (j + 1) = R.drop (j + 1) ∧ w4.ownsRow N 55 5 (.slice (some ⟨b, 0, none⟩) n c) n (X.flatMap encB)) ∧ Upd [b] w w4) :=
            Lib.hid ⟨⟨X.set i (⟨x0, x1, x2, x3, x4⟩ : Sb), HS.2.2, HS.1, HS.2.1, hf3.1⟩, (HU.out.next (HU3.out.more (by simp))).next hf3.2⟩
          clear HS hf3 hX3 hcell2 hfz2 hBx hy HFILL HCELL
          go_upto_region 10 with fail
          rw [← hw4]
          clear hw4 e0 f0 b0 e1 f1 b1 e2 f2 b2 e3 f3 b3 e4 f4 b4
          go_wp2
          go_roundg (gk - 1)
          case measure => omega
          case rel => exact ⟨i + 1, j + 1, by go_num, by go_num, by omega, by omega, by omega, HREL.out.1, HREL.out.2⟩
      · obtain rfl : j = n := by omega
        rw [← HN.out, List.take_length] at hXt
        have hif : i = F.length := by rw [HF.out, ← hXt, List.length_take, hXl]; omega
        obtain ⟨w3, hclr, hrow, hu3⟩ := run_clear_tail (i := i) (size := 5) (P := Try.prog) (t := 29) (ty := 0) (zc := [.int .i64 0, .int .i64 0, .int .i64 0, .int .i64 0, .bool false]) Try.underlying29 (fun w => by kernel_rfl) rfl (by decide) hXr (by omega) (c - i)
        rw [flat_take encB_len, hXt, ← HF.out] at hrow
        have HG := Lib.hid (And.intro hif (And.intro hrow (hu.next hu3)))
        have hcn := hnc
        have hini : (i : Int) < (j : Int) := by omega
        clear hXl hXt hXd hXr hu hrow hu3 hif
        go_wp2
        go_ret
        rw [← HG.out.1]
        exact ⟨rfl, HG.out.2.1, HG.out.2.2⟩
end Go.Proofs.Ytjcbaelefacolaa
/- The layer delta: Gone. Conditions: two states in memory; the second one's subs rise. -/
namespace Go.Proofs.Ytjcbaelefacolaa
open Go Go.RowKit
set_option maxHeartbeats 400000

def goneM (a b : St) : List Sb := a.bs.filter (fun x => !has (cB x.who x.track) b.bs)
theorem RwIn.below {w w' : World} {size n c : Nat} {A : Option Addr} {xs : List Value} (h : RwIn w 0 size A n c xs) (u : Below w.heap.size w w') : RwIn w' 0 size A n c xs :=
  ⟨(h.l.below u (Nat.le_refl _)).more (Nat.le_refl _) u.size, h.nl, h.le, h.cm⟩
theorem StIn.below {w w' : World} {s : St} {h : SHd} (k : StIn w s h) (u : Below w.heap.size w w') : StIn w' s h :=
  ⟨k.p.below u, k.t.below u, k.b.below u, k.tx, fun x hx => (k.ss x hx).below u⟩
set_option maxRecDepth 100000 in
set_option maxHeartbeats 2000000 in
theorem gone_any {w : World} {a b : St} {ha hb : SHd} (hA : StIn w a ha) (hB : StIn w b hb) (hla : a.bs.length ≤ 100000) (hlb : b.bs.length ≤ 100000) (hu : UpB b.bs) :
    Calls Try.prog 17 #[.agg (scells a ha).toArray, .agg (scells b hb).toArray] w fun e w' => ∃ A c, e = .returned (.slice A (goneM a b).length c) ∧ RwIn w' 0 5 A (goneM a b).length c ((goneM a b).flatMap encB) ∧ Upd [] w w' := by
  obtain ⟨W0, hW0⟩ : ∃ W, W = w.alloc (.cells (scells a ha).toArray 31) := ⟨_, rfl⟩
  obtain ⟨W1, hW1⟩ : ∃ W, W = W0.alloc (.cells (scells b hb).toArray 31) := ⟨_, rfl⟩
  obtain ⟨g, hg⟩ : ∃ g, g = w.heap.size := ⟨_, rfl⟩
  have u0 : Upd [] w W0 := by rw [hW0]; exact (Upd.refl [] w).alloc _
  have u1 : Upd [] W0 W1 := by rw [hW1]; exact (Upd.refl [] W0).alloc _
  have z0 : W0.heap.size = g + 1 := by rw [hW0, World.size_alloc, hg]
  have k0 : Blk W1 g 31 (scells a ha).toArray := by
    have : Blk W0 g 31 (scells a ha).toArray := by rw [hW0, hg]; exact Blk.new _ _ _
    exact this.upd u1 (by simp)
  have k1 : Blk W1 (g + 1) 31 (scells b hb).toArray := by rw [hW1, ← z0]; exact Blk.new _ _ _
  have u01 := u0.next u1
  have hc1 := cloneS_any (hA.b.upd u01) hla (flat_ones encB_one a.bs)
  have HF : Hid (∀ (w1 : World) (A' : Option Addr) (c' : Nat), w1.ownsRow W1.heap.size 55 5 (.slice A' a.bs.length c') a.bs.length (a.bs.flatMap encB) → Upd [] W1 w1 →
      Calls Try.prog 41 #[.slice A' a.bs.length c', .func (.func 43) #[] #[.pointer (some ⟨g + 1, 0, none⟩)]] w1 fun e w' =>
        ∃ A c, e = .returned (.slice A (goneM a b).length c) ∧ RwIn w' 0 5 A (goneM a b).length c ((goneM a b).flatMap encB) ∧ Upd [] w w') := Lib.hid (by
    intro w1 A' c' ho hu1
    have u2 := u01.next hu1
    have hlt := k1.lt
    refine (delS4_any (w := w1) (fun x => has (cB x.who x.track) b.bs) (some ⟨g + 1, 0, none⟩) ho rfl hla (fun W2 u x _ => ?_)).mono ?_
    · have hbel : Below w.heap.size w1 W2 := u.below u2.size (fun s hs => by have := (own_in ho s hs).2; have := u01.size; omega)
      exact gone1_any ((k1.upd hu1 (by simp)).upd u (fun hm => by have := (own_in ho _ hm).2; omega)) (hB.b.below ((u2.below (Nat.le_refl _) (by simp)).trans hbel)) hlb hu x
    · rintro e w' ⟨rfl, ho', hu'⟩
      exact ⟨A', c', rfl, (RwIn.of_own ho').more (Nat.zero_le _), Upd.of_below ((u2.below (Nat.le_refl _) (by simp)).trans (hu'.below u2.size (fun s hs => by have := (own_in ho s hs).2; have := u01.size; omega)))⟩)
  have z3 : W1.cell? ⟨g, 6, none⟩ = some (.slice ha.bA a.bs.length ha.bc) := k0.cell 6
  have HC1 := Lib.hid hc1
  obtain ⟨r, hr⟩ : ∃ r, r = goneM a b := ⟨_, rfl⟩
  rw [← hr] at HF ⊢
  clear hc1 k0 k1 u01 u0 u1 z0 hA hB hla hlb hu hr
  unfold scells at hW0 hW1 ⊢
  obtain ⟨n1, hn1⟩ : ∃ n, n = a.ps.length := ⟨_, rfl⟩
  obtain ⟨n2, hn2⟩ : ∃ n, n = a.ts.length := ⟨_, rfl⟩
  obtain ⟨n3, hn3⟩ : ∃ n, n = a.bs.length := ⟨_, rfl⟩
  obtain ⟨m1, hm1⟩ : ∃ n, n = b.ps.length := ⟨_, rfl⟩
  obtain ⟨m2, hm2⟩ : ∃ n, n = b.ts.length := ⟨_, rfl⟩
  obtain ⟨m3, hm3⟩ : ∃ n, n = b.bs.length := ⟨_, rfl⟩
  rw [← hn1, ← hn2, ← hn3] at hW0 ⊢
  rw [← hm1, ← hm2, ← hm3] at hW1 ⊢
  rw [← hn3] at HF HC1 z3
  clear hn1 hn2 hn3 hm1 hm2 hm3
  go_enter Try.func17, Try.ntmps17
  go_upto_region 1 with fail
  rw [← hW0, ← hW1, ← hg]
  clear hW0 hW1 hg
  go_wp2_with fail
  refine HC1.out.mono ?_
  rintro e w1 ⟨A', c', rfl, ho, hu1⟩
  have HD := Lib.hid (HF.out w1 A' c' ho hu1)
  clear ho hu1 HC1 HF z3
  go_wp2_with fail
  refine HD.out.mono ?_
  rintro e w2 ⟨A2, c2, rfl, hr2, hu2⟩
  have HR := Lib.hid hr2
  have HU := Lib.hid hu2
  clear hr2 hu2 HD
  go_wp2
  go_ret
  exact ⟨_, _, rfl, HR.out, HU.out⟩
end Go.Proofs.Ytjcbaelefacolaa
/- The layer delta: the laws' 'of': a state as the document has it. Condition: the state in memory, no more than may be. -/
namespace Go.Proofs.Ytjcbaelefacolaa
open Go Go.RowKit
set_option maxHeartbeats 400000

theorem infoRP : (Try.prog.info? 74).map (fun i => (i.zero, i.size, i.bytes)) = some (some (.agg #[.int .i64 0, .int .i64 0, .int .i64 0]), 3, 24) := by kernel_rfl
theorem infoRT : (Try.prog.info? 60).map (fun i => (i.zero, i.size, i.bytes)) = some (some (.agg #[.int .i64 0, .int .i64 0, .int .i64 0, .slice none 0 0]), 4, 48) := by kernel_rfl
theorem infoRB : (Try.prog.info? 56).map (fun i => (i.zero, i.size, i.bytes)) = some (some (.agg #[.int .i64 0, .int .i64 0, .int .i64 0, .int .i64 0, .bool false]), 5, 40) := by kernel_rfl
theorem flat_take1 {α : Type} {f : α → List Value} {l : List α} {k : Nat} {x : α} (h : l[k]? = some x) : (l.take (k + 1)).flatMap f = (l.take k).flatMap f ++ f x := by
  rw [List.take_add_one, h, List.flatMap_append]
  simp
theorem row_lit {w : World} {g : Nat} {t : TypeId} {cs : List Value} (h : Blk w g t cs.toArray) : ∀ ad, (some (⟨g, 0, none⟩ : Addr)) = some ad → ∀ (j : Nat) (u : Value), cs[j]? = some u → w.cell? (ad.add j) = some u := by
  intro ad ha j u hj
  obtain rfl := Option.some.inj ha
  rw [show (⟨g, 0, none⟩ : Addr).add j = ⟨g, j, none⟩ by unfold Addr.add; by_cases hj : j = 0 <;> simp [hj], h.cell j]
  simpa using hj
theorem rowX {w : World} {s : St} {h : SHd} (hs : StIn w s h) : ∀ k x, h.tx[k]? = some x → ∃ b off, h.tA = some ⟨b, off, none⟩ ∧ w.cell? ⟨b, off + k * 4, none⟩ = some (.int .i64 x.1.id) ∧ w.cell? ⟨b, off + k * 4 + 1, none⟩ = some (.int .i64 x.1.owner) ∧ w.cell? ⟨b, off + k * 4 + 2, none⟩ = some (.int .i64 x.1.frm) ∧ w.cell? ⟨b, off + k * 4 + 3, none⟩ = some (.slice x.2.A x.1.ss.length x.2.c) := by
  intro k x hx
  have hlt := (List.getElem?_eq_some_iff.1 hx).1
  have hl : h.tx.length = s.ts.length := by rw [← hs.tx, List.length_map]
  obtain ⟨b, off, e, _, _, hcc⟩ := hs.t.l.2 (by omega)
  exact ⟨b, off, e, hcc (k * 4 + 0) _ (flat_get encT_len h.tx k 0 x hx (by omega)), hcc (k * 4 + 1) _ (flat_get encT_len h.tx k 1 x hx (by omega)), hcc (k * 4 + 2) _ (flat_get encT_len h.tx k 2 x hx (by omega)), hcc (k * 4 + 3) _ (flat_get encT_len h.tx k 3 x hx (by omega))⟩
theorem own_list (A : Option Addr) (n c : Nat) : (Value.slice A n c).ownBlock.toList = A.toList.map (·.block) := by cases A <;> rfl
/-- between two rounds: the document's state in the making (M), the result's place (R), the state's box (T) -/
structure OfAt (w wr : World) (M R T : Nat) (cells box zero : Array Value) : Prop where
  u : Below w.heap.size w wr
  m : Blk wr M 37 cells
  r : Blk wr R 37 zero
  t : Blk wr T 31 box
  wM : w.heap.size ≤ M
  wR : w.heap.size ≤ R
  wT : w.heap.size ≤ T
  mr : M ≠ R
  mt : M ≠ T
theorem OfAt.grow {w wr w1 : World} {M R T : Nat} {cells box zero : Array Value} {S : List Nat} (h : OfAt w wr M R T cells box zero) (u : Upd S wr w1) (hS : ∀ s, s ∈ S → w.heap.size ≤ s ∧ s ≠ M ∧ s ≠ R ∧ s ≠ T) : OfAt w w1 M R T cells box zero :=
  { h with u := h.u.trans (u.below h.u.size (fun s hs => (hS s hs).1)), m := h.m.upd u (fun hm => (hS M hm).2.1 rfl), r := h.r.upd u (fun hm => (hS R hm).2.2.1 rfl), t := h.t.upd u (fun hm => (hS T hm).2.2.2 rfl) }
theorem OfAt.upd {w wr w1 : World} {M R T : Nat} {cells box zero : Array Value} (h : OfAt w wr M R T cells box zero) (u : Upd [] wr w1) : OfAt w w1 M R T cells box zero := h.grow u (by simp)
theorem OfAt.stored {w wr : World} {M R T : Nat} {cells box zero : Array Value} (h : OfAt w wr M R T cells box zero) (k : Nat) (v : Value) : OfAt w (wr.setCell ⟨M, k, none⟩ v) M R T (cells.setIfInBounds k v) box zero :=
  { h with u := h.u.trans (((Upd.refl [M] wr).setCell (.inl (by simp)) v).below h.u.size (fun s hs => by rw [List.mem_singleton] at hs; subst hs; exact h.wM)), m := h.m.store k v, r := h.r.other h.mr.symm v, t := h.t.other h.mt.symm v }
theorem OfAt.row {w wr : World} {M R T B size n : Nat} {e : TypeId} {A : Option Addr} {c : Nat} {xs : List Value} {cells box zero : Array Value} (h : OfAt w wr M R T cells box zero) (ho : wr.ownsRow w.heap.size e size (.slice A n c) B xs) (h1 : e ≠ 37) (h2 : e ≠ 31) : ∀ s, s ∈ A.toList.map (·.block) → w.heap.size ≤ s ∧ s ≠ M ∧ s ≠ R ∧ s ≠ T := by
  intro s hs
  have hob : (Value.slice A n c).ownBlock = some s := by
    cases A with
    | none => simp at hs
    | some a => have e1 : s = a.block := by simpa using hs
                subst e1; rfl
  refine ⟨(own_block_lt ho hob).1, ?_, ?_, ?_⟩
  · rintro rfl; exact own_box ho h.m h1 hob
  · rintro rfl; exact own_box ho h.r h1 hob
  · rintro rfl; exact own_box ho h.t h2 hob
set_option maxRecDepth 100000 in
set_option maxHeartbeats 4000000 in
theorem of_av {w : World} {s : St} {h : SHd} (hs : StIn w s h) (hl1 : s.ps.length ≤ 1000) (hl2 : s.ts.length ≤ 1000) (hl3 : s.bs.length ≤ 1000) :
    Calls Try.prog 16 #[.agg (scells s h).toArray] w fun e w' => ∃ h', e = .returned (.agg (scells s h').toArray) ∧ h'.tx = h.tx ∧ StIn w' s h' ∧ (∀ g, g < w.heap.size → Av g s h → Av g s h') ∧ Upd [] w w' := by
  obtain ⟨T, hT⟩ : ∃ T, T = w.heap.size := ⟨_, rfl⟩
  obtain ⟨W1, hW1⟩ : ∃ W, W = w.alloc (.cells (scells s h).toArray 31) := ⟨_, rfl⟩
  obtain ⟨W2, hW2⟩ : ∃ W, W = W1.alloc (.cells #[.int .i64 0, .int .i64 0, .int .i64 0, .int .i64 0, .slice none 0 0, .slice none 0 0, .slice none 0 0] 37) := ⟨_, rfl⟩
  have u1 : Upd [] w W1 := by rw [hW1]; exact (Upd.refl [] w).alloc _
  have u2 : Upd [] W1 W2 := by rw [hW2]; exact (Upd.refl [] W1).alloc _
  have s1 : W1.heap.size = T + 1 := by rw [hW1, World.size_alloc, hT]
  have s2 : W2.heap.size = T + 1 + 1 := by rw [hW2, World.size_alloc, s1]
  have hbT : Blk W2 T 31 (scells s h).toArray := by
    have : Blk W1 T 31 (scells s h).toArray := by rw [hW1, hT]; exact Blk.new _ _ _
    exact this.upd u2 (by simp)
  have hbR : Blk W2 (T + 1) 37 #[.int .i64 0, .int .i64 0, .int .i64 0, .int .i64 0, .slice none 0 0, .slice none 0 0, .slice none 0 0] := by rw [hW2, ← s1]; exact Blk.new _ _ _
  have HRP := Lib.hid (rowP hs.p rfl)
  have HRB := Lib.hid (rowB hs.b rfl)
  have HRT := Lib.hid (rowX hs)
  have HS := Lib.hid hs
  have HL := Lib.hid (And.intro hl1 (And.intro hl2 hl3))
  obtain ⟨n1, hn1⟩ : ∃ n, n = s.ps.length := ⟨_, rfl⟩
  obtain ⟨n2, hn2⟩ : ∃ n, n = s.ts.length := ⟨_, rfl⟩
  obtain ⟨n3, hn3⟩ : ∃ n, n = s.bs.length := ⟨_, rfl⟩
  have hsc : ∀ h', scells s h' = [.int .i64 s.c.people, .int .i64 s.c.tracks, .int .i64 s.c.subs, .int .i64 s.c.slots, .slice h'.pA n1 h'.pc, .slice h'.tA n2 h'.tc, .slice h'.bA n3 h'.bc] := fun h' => by unfold scells; rw [← hn1, ← hn2, ← hn3]
  rw [hsc h] at hbT hW1 ⊢
  have HN := Lib.hid (And.intro hn1 (And.intro hn2 hn3))
  rw [← hn1] at hl1
  rw [← hn2] at hl2
  rw [← hn3] at hl3
  have HSC := Lib.hid hsc
  obtain ⟨pA, pc, tx, tA, tc, bA, bc⟩ := h
  have hnx : tx.length = n2 := by rw [hn2, ← HS.out.tx, List.length_map]
  have HNX := Lib.hid hnx
  obtain ⟨⟨c1, c2, c3, c4⟩, hc⟩ : ∃ c, c = s.c := ⟨_, rfl⟩
  dsimp only at hbT hW1 HRP HRB HRT ⊢
  rw [← hc] at hbT hW1 HSC ⊢
  dsimp only at hbT hW1 HSC ⊢
  have z0 := hbT.cell 0
  have z1 := hbT.cell 1
  have z2 := hbT.cell 2
  have z3 := hbT.cell 3
  simp only [List.getElem?_toArray, List.getElem?_cons_zero, List.getElem?_cons_succ] at z0 z1 z2 z3
  have HU2 := Lib.hid (u1.next u2)
  have HBT := Lib.hid hbT
  have HBR := Lib.hid hbR
  have HT := Lib.hid hT
  have HS2 := Lib.hid s2
  clear hsc hn1 hn2 hn3 hc hbT hbR u1 u2 s1 s2 hs hnx
  go_enter Try.func16, Try.ntmps16
  go_upto_region 1 with fail
  rw [← hW1, ← hW2, ← hT]
  clear hW1 hW2 hT
  go_upto_region 2 with fail
  obtain ⟨M, hM⟩ : ∃ M, M = W2.heap.size := ⟨_, rfl⟩
  obtain ⟨W, hW⟩ : ∃ W, W = W2.alloc (.cells #[.int .i64 c1, .int .i64 c2, .int .i64 c3, .int .i64 c4, .slice none 0 0, .slice none 0 0, .slice none 0 0] 37) := ⟨_, rfl⟩
  rw [← hW, ← hM]
  have HAT : Hid (OfAt w W M (T + 1) T #[.int .i64 c1, .int .i64 c2, .int .i64 c3, .int .i64 c4, .slice none 0 0, .slice none 0 0, .slice none 0 0] #[.int .i64 c1, .int .i64 c2, .int .i64 c3, .int .i64 c4, .slice pA n1 pc, .slice tA n2 tc, .slice bA n3 bc] #[.int .i64 0, .int .i64 0, .int .i64 0, .int .i64 0, .slice none 0 0, .slice none 0 0, .slice none 0 0]) := Lib.hid (by
    have u3 : Upd [] W2 W := by rw [hW]; exact (Upd.refl [] W2).alloc _
    have := HS2.out
    have := HT.out
    exact ⟨(HU2.out.next u3).below (Nat.le_refl _) (by simp), by rw [hW, hM]; exact Blk.new _ _ _, HBR.out.upd u3 (by simp), HBT.out.upd u3 (by simp), by omega, by omega, by omega, by omega, by omega⟩)
  clear hM hW z0 z1 z2 z3 HU2 HBT HBR HS2
  go_wp2
  go_loopg [4] n1 (fun gk x wr => ∃ i : Nat, i ≤ n1 ∧ n1 ≤ i + gk ∧ x = .int .i64 i ∧ ∃ A c, wr.ownsRow w.heap.size 74 3 (.slice A i c) i (((s.ps).take i).flatMap encP) ∧ OfAt w wr M (T + 1) T #[.int .i64 c1, .int .i64 c2, .int .i64 c3, .int .i64 c4, .slice A i c, .slice none 0 0, .slice none 0 0] #[.int .i64 c1, .int .i64 c2, .int .i64 c3, .int .i64 c4, .slice pA n1 pc, .slice tA n2 tc, .slice bA n3 bc] #[.int .i64 0, .int .i64 0, .int .i64 0, .int .i64 0, .slice none 0 0, .slice none 0 0, .slice none 0 0])
  case atStart => exact ⟨0, Nat.zero_le _, by omega, rfl, none, 0, World.ownsRow_nil _ _ _ _, HAT.out⟩
  case round =>
    obtain ⟨i, hi, hgi, rfl, A, c, hown, hof⟩ := hrel
    by_cases hlt : i < n1
    · obtain ⟨x, hxi⟩ : ∃ x, (s.ps)[i]? = some x := ⟨_, List.getElem?_eq_getElem (by rw [← HN.out.1]; exact hlt)⟩
      obtain ⟨b, off, e, e0, e1, e2⟩ := HRP.out i x hxi
      cases e
      have hbl := cellD_lt e0
      have hrw := hof.row hown (by decide) (by decide)
      obtain ⟨PB, hPB⟩ : ∃ PB, PB = A.toList.map (·.block) := ⟨_, rfl⟩
      rw [← hPB] at hrw
      have hz : ∀ (z : Cls (Upd PB wr)) (q o : Nat) (v : Value), q < wr.heap.size → ¬ q ∈ PB → wr.cell? ⟨q, o, none⟩ = some v → z.w.cell? ⟨q, o, none⟩ = some v := fun z q o v hq hn hv => (z.h.cell (p := ⟨q, o, none⟩) hq hn).trans hv
      have hbn : ¬ b ∈ PB := fun hm => by have := (hrw b hm).1; omega
      have hTn : ¬ T ∈ PB := fun hm => (hrw T hm).2.2.2 rfl
      have hMn : ¬ M ∈ PB := fun hm => (hrw M hm).2.1 rfl
      have hbw := Nat.lt_of_lt_of_le hbl hof.u.size
      have yT : ∀ z : Cls (Upd PB wr), z.w.cell? ⟨T, 4, none⟩ = some (.slice (some ⟨b, off, none⟩) n1 pc) := fun z => hz z _ _ _ hof.t.lt hTn (hof.t.cell 4)
      have zT : wr.cell? ⟨T, 4, none⟩ = some (.slice (some ⟨b, off, none⟩) n1 pc) := hof.t.cell 4
      have yM : ∀ z : Cls (Upd PB wr), z.w.cell? ⟨M, 4, none⟩ = some (.slice A i c) := fun z => hz z _ _ _ hof.m.lt hMn (hof.m.cell 4)
      have y0 : ∀ z : Cls (Upd PB wr), z.w.cell? ⟨b, off + i * 3, none⟩ = some (.int .i64 x.who) := fun z => hz z _ _ _ hbw hbn ((hof.u.cell (p := ⟨b, off + i * 3, none⟩) hbl).trans e0)
      have y1 : ∀ z : Cls (Upd PB wr), z.w.cell? ⟨b, off + i * 3 + 1, none⟩ = some (.int .i64 x.room) := fun z => hz z _ _ _ hbw hbn ((hof.u.cell (p := ⟨b, off + i * 3 + 1, none⟩) hbl).trans e1)
      have y2 : ∀ z : Cls (Upd PB wr), z.w.cell? ⟨b, off + i * 3 + 2, none⟩ = some (.int .i64 x.rights) := fun z => hz z _ _ _ hbw hbn ((hof.u.cell (p := ⟨b, off + i * 3 + 2, none⟩) hbl).trans e2)
      have hlti : (i : Int) < (n1 : Int) := by omega
      have hwi : IntKind.i64.wrap ((i : Int) + 1) = (i : Int) + 1 := IntWalk.i64_in _ (by omega)
      obtain ⟨j0, hj0, hy0, hy1, hy2⟩ := info_parts infoRP
      have HXI := Lib.hid hxi
      have HGI := Lib.hid hgi
      have HOWN := Lib.hid hown
      have HOF := Lib.hid hof
      have HRW := Lib.hid hrw
      have HPB := Lib.hid hPB
      clear hxi hgi hown hof hrw hPB hz hbn hTn hMn hbw hbl e0 e1 e2
      go_wp2
      refine wp_held_tail (Upd PB wr) ((Upd.refl _ _).drewN 1) [0, 1, 2, 3, 4, 5, 6, 7, 8, 9, 10, 11, 12, 13, 14, 15, 16, 17, 18, 19, 20] [21, 22, 23, 24] (by kernel_rfl) (by kernel_rfl) (fun _ _ _ _ h => h) ?_
      intro hne
      simp only [pick3, List.map_cons, List.map_nil, List.getElem?_cons_zero, List.getElem?_cons_succ, Option.getD_some]
      repeat (go_big_quiet_step (fail))
      refine wpQuiet_nil ?_
      clear zT yT yM y0 y1 y2
      refine wpHeld_step rfl fun K hK => ?_
      go_simp
      obtain ⟨V, hV⟩ : ∃ V, V = wr.heap.size := ⟨_, rfl⟩
      obtain ⟨W3, hW3⟩ : ∃ W3, W3 = (wr.drewN 1).alloc (.cells #[.int .i64 x.who, .int .i64 x.room, .int .i64 x.rights] 74) := ⟨_, rfl⟩
      have u3 : Upd [] wr W3 := by rw [hW3]; exact ((Upd.refl [] wr).drewN 1).alloc _
      have hVB : Blk W3 V 74 (encP x).toArray := by rw [hW3, hV]; exact Blk.new _ _ _
      rw [← hW3, ← hV]
      have HU3 := Lib.hid u3
      have HVB := Lib.hid hVB
      clear hV hW3 u3 hVB
      refine hK.out _ _ (.inr ⟨⟨W3, HU3.out.more (by simp)⟩, rfl⟩) ?_
      clear hK K
      refine wpHeld_list (fun Q1 hq => ?_)
      refine wpList_append_src W3 rfl (.tmp 29) (.tmp 49) 33 rfl w.heap.size 74 j0 _ 3 24 Try.underlying33 hj0 hy0 hy1 hy2 rfl (by decide) (.slice A i c) i (((s.ps).take i).flatMap encP) rfl (ownsRow_upd HOWN.out HU3.out (by simp)) (some ⟨V, 0, none⟩) 1 1 (encP x) rfl (fun e => by cases e) rfl (row_lit HVB.out) (encP_one x) (by unfold maxLen; omega) (by omega) (Nat.le_trans HOF.out.u.size HU3.out.size) ?_
      intro v1 w4 hown4 hg4 _
      obtain ⟨A', c', hv, _⟩ := own_form hown4
      subst hv
      rw [← flat_take1 HXI.out] at hown4
      have hu4 : Upd PB W3 w4 := by rw [HPB.out, ← own_list A i c]; exact Upd.of_grown hg4
      have HU4 := Lib.hid hu4
      have HOWN4 := Lib.hid hown4
      refine hq.out _ _ (.inr ⟨⟨w4, (HU3.out.more (by simp)).next HU4.out⟩, rfl⟩) ?_
      refine wpHeld_step rfl fun K hK => ?_
      go_simp
      refine hK.out _ _ (.inr ⟨⟨w4, (HU3.out.more (by simp)).next HU4.out⟩, rfl⟩) ?_
      clear hK K
      have hof4 := (HOF.out.upd HU3.out).grow HU4.out HRW.out
      clear hq Q1 hg4 hown4 hu4
      have f4 := hof4.m.frozen 4
      have m4 : w4.cell? ⟨M, 4, none⟩ = some (.slice A i c) := hof4.m.cell 4
      obtain ⟨w5, hw5⟩ : ∃ w5, w5 = w4.setCell ⟨M, 4, none⟩ (.slice A' (i + 1) c') := ⟨_, rfl⟩
      have hof5 := hof4.stored 4 (.slice A' (i + 1) c')
      rw [← hw5] at hof5
      have us5 : Upd [M] w4 w5 := by rw [hw5]; exact (Upd.refl [M] w4).setCell (.inl (by simp)) _
      have HMO : Hid (∀ {B' size' n' : Nat} {e' : TypeId} {v' : Value} {xs' : List Value}, w4.ownsRow B' e' size' v' n' xs' → e' ≠ 37 → w5.ownsRow B' e' size' v' n' xs') := Lib.hid (fun ho hne => ownsRow_upd ho us5 (fun s hs hg => by rw [List.mem_singleton] at hs; subst hs; exact own_box ho hof4.m hne hg))
      have HOF5 := Lib.hid hof5
      have HW5 := Lib.hid hw5
      clear hof4 hof5 us5 hw5
      refine wpHeld_last ?_
      go_wp2
      rw [← HW5.out]
      go_roundg (gk - 1)
      case measure => have := HGI.out; omega
      case rel => exact ⟨i + 1, by omega, by have := HGI.out; omega, by go_num, A', c', HMO.out HOWN4.out (by decide), HOF5.out⟩
    · obtain rfl : n1 = i := by omega
      have hfull : (s.ps).take n1 = s.ps := by rw [HN.out.1]; exact List.take_length
      rw [hfull] at hown
      have zT := hof.t.cell 4
      simp only [List.getElem?_toArray, List.getElem?_cons_zero, List.getElem?_cons_succ] at zT
      obtain ⟨A0, hA0⟩ : ∃ A', A' = A := ⟨_, rfl⟩
      obtain ⟨d0, hd0⟩ : ∃ c', c' = c := ⟨_, rfl⟩
      rw [← hA0, ← hd0] at hown hof
      have HR0 := Lib.hid hown
      have HAT := Lib.hid hof
      clear hA0 hd0 hown hof hfull hgi hi hlt
      obtain ⟨wn0, rfl⟩ : ∃ W : World, W = wr := ⟨_, rfl⟩
      go_wp2
      go_loopg [5] n2 (fun gk x wr => ∃ i : Nat, i ≤ n2 ∧ n2 ≤ i + gk ∧ x = .int .i64 i ∧ ∃ A c, wr.ownsRow w.heap.size 60 4 (.slice A i c) i (((tx).take i).flatMap encT) ∧ OfAt w wr M (T + 1) T #[.int .i64 c1, .int .i64 c2, .int .i64 c3, .int .i64 c4, .slice A0 n1 d0, .slice A i c, .slice none 0 0] #[.int .i64 c1, .int .i64 c2, .int .i64 c3, .int .i64 c4, .slice pA n1 pc, .slice tA n2 tc, .slice bA n3 bc] #[.int .i64 0, .int .i64 0, .int .i64 0, .int .i64 0, .slice none 0 0, .slice none 0 0, .slice none 0 0] ∧ wr.ownsRow w.heap.size 74 3 (.slice A0 n1 d0) n1 ((s.ps).flatMap encP))
      case atStart => exact ⟨0, Nat.zero_le _, by omega, rfl, none, 0, World.ownsRow_nil _ _ _ _, HAT.out, HR0.out⟩
      case round =>
        obtain ⟨i, hi, hgi, rfl, A, c, hown, hof, hr0⟩ := hrel
        by_cases hlt : i < n2
        · obtain ⟨x, hxi⟩ : ∃ x, (tx)[i]? = some x := ⟨_, List.getElem?_eq_getElem (by rw [← HNX.out.symm]; exact hlt)⟩
          obtain ⟨b, off, e, e0, e1, e2, e3⟩ := HRT.out i x hxi
          cases e
          have hbl := cellD_lt e0
          have hrw := hof.row hown (by decide) (by decide)
          obtain ⟨PB, hPB⟩ : ∃ PB, PB = A.toList.map (·.block) := ⟨_, rfl⟩
          rw [← hPB] at hrw
          have hz : ∀ (z : Cls (Upd PB wr)) (q o : Nat) (v : Value), q < wr.heap.size → ¬ q ∈ PB → wr.cell? ⟨q, o, none⟩ = some v → z.w.cell? ⟨q, o, none⟩ = some v := fun z q o v hq hn hv => (z.h.cell (p := ⟨q, o, none⟩) hq hn).trans hv
          have hbn : ¬ b ∈ PB := fun hm => by have := (hrw b hm).1; omega
          have hTn : ¬ T ∈ PB := fun hm => (hrw T hm).2.2.2 rfl
          have hMn : ¬ M ∈ PB := fun hm => (hrw M hm).2.1 rfl
          have hbw := Nat.lt_of_lt_of_le hbl hof.u.size
          have yT : ∀ z : Cls (Upd PB wr), z.w.cell? ⟨T, 5, none⟩ = some (.slice (some ⟨b, off, none⟩) n2 tc) := fun z => hz z _ _ _ hof.t.lt hTn (hof.t.cell 5)
          have zT : wr.cell? ⟨T, 5, none⟩ = some (.slice (some ⟨b, off, none⟩) n2 tc) := hof.t.cell 5
          have yM : ∀ z : Cls (Upd PB wr), z.w.cell? ⟨M, 5, none⟩ = some (.slice A i c) := fun z => hz z _ _ _ hof.m.lt hMn (hof.m.cell 5)
          have y0 : ∀ z : Cls (Upd PB wr), z.w.cell? ⟨b, off + i * 4, none⟩ = some (.int .i64 x.1.id) := fun z => hz z _ _ _ hbw hbn ((hof.u.cell (p := ⟨b, off + i * 4, none⟩) hbl).trans e0)
          have y1 : ∀ z : Cls (Upd PB wr), z.w.cell? ⟨b, off + i * 4 + 1, none⟩ = some (.int .i64 x.1.owner) := fun z => hz z _ _ _ hbw hbn ((hof.u.cell (p := ⟨b, off + i * 4 + 1, none⟩) hbl).trans e1)
          have y2 : ∀ z : Cls (Upd PB wr), z.w.cell? ⟨b, off + i * 4 + 2, none⟩ = some (.int .i64 x.1.frm) := fun z => hz z _ _ _ hbw hbn ((hof.u.cell (p := ⟨b, off + i * 4 + 2, none⟩) hbl).trans e2)
          have y3 : ∀ z : Cls (Upd PB wr), z.w.cell? ⟨b, off + i * 4 + 3, none⟩ = some (.slice x.2.A x.1.ss.length x.2.c) := fun z => hz z _ _ _ hbw hbn ((hof.u.cell (p := ⟨b, off + i * 4 + 3, none⟩) hbl).trans e3)
          have hlti : (i : Int) < (n2 : Int) := by omega
          have hwi : IntKind.i64.wrap ((i : Int) + 1) = (i : Int) + 1 := IntWalk.i64_in _ (by omega)
          obtain ⟨j0, hj0, hy0, hy1, hy2⟩ := info_parts infoRT
          have HXI := Lib.hid hxi
          have HGI := Lib.hid hgi
          have HOWN := Lib.hid hown
          have HOF := Lib.hid hof
          have HRW := Lib.hid hrw
          have HPB := Lib.hid hPB
          have HQ0 := Lib.hid hr0
          clear hxi hgi hown hof hrw hPB hz hbn hTn hMn hbw hbl e0 e1 e2 e3 hr0
          go_wp2
          refine wp_held_tail (Upd PB wr) ((Upd.refl _ _).drewN 1) [0, 1, 2, 3, 4, 5, 6, 7, 8, 9, 10, 11, 12, 13, 14, 15, 16, 17, 18, 19, 20, 21, 22, 23, 24, 25, 26] [27, 28, 29, 30] (by kernel_rfl) (by kernel_rfl) (fun _ _ _ _ h => h) ?_
          intro hne
          simp only [pick3, List.map_cons, List.map_nil, List.getElem?_cons_zero, List.getElem?_cons_succ, Option.getD_some]
          repeat (go_big_quiet_step (fail))
          refine wpQuiet_nil ?_
          clear zT yT yM y0 y1 y2 y3
          refine wpHeld_step rfl fun K hK => ?_
          go_simp
          obtain ⟨V, hV⟩ : ∃ V, V = wr.heap.size := ⟨_, rfl⟩
          obtain ⟨W3, hW3⟩ : ∃ W3, W3 = (wr.drewN 1).alloc (.cells #[.int .i64 x.1.id, .int .i64 x.1.owner, .int .i64 x.1.frm, .slice x.2.A x.1.ss.length x.2.c] 60) := ⟨_, rfl⟩
          have u3 : Upd [] wr W3 := by rw [hW3]; exact ((Upd.refl [] wr).drewN 1).alloc _
          have hVB : Blk W3 V 60 (encT x).toArray := by rw [hW3, hV]; exact Blk.new _ _ _
          rw [← hW3, ← hV]
          have HU3 := Lib.hid u3
          have HVB := Lib.hid hVB
          clear hV hW3 u3 hVB
          refine hK.out _ _ (.inr ⟨⟨W3, HU3.out.more (by simp)⟩, rfl⟩) ?_
          clear hK K
          refine wpHeld_list (fun Q1 hq => ?_)
          refine wpList_append_src W3 rfl (.tmp 60) (.tmp 86) 34 rfl w.heap.size 60 j0 _ 4 48 Try.underlying34 hj0 hy0 hy1 hy2 rfl (by decide) (.slice A i c) i (((tx).take i).flatMap encT) rfl (ownsRow_upd HOWN.out HU3.out (by simp)) (some ⟨V, 0, none⟩) 1 1 (encT x) rfl (fun e => by cases e) rfl (row_lit HVB.out) (encT_one x) (by unfold maxLen; omega) (by omega) (Nat.le_trans HOF.out.u.size HU3.out.size) ?_
          intro v1 w4 hown4 hg4 _
          obtain ⟨A', c', hv, _⟩ := own_form hown4
          subst hv
          rw [← flat_take1 HXI.out] at hown4
          have hu4 : Upd PB W3 w4 := by rw [HPB.out, ← own_list A i c]; exact Upd.of_grown hg4
          have HU4 := Lib.hid hu4
          have HOWN4 := Lib.hid hown4
          refine hq.out _ _ (.inr ⟨⟨w4, (HU3.out.more (by simp)).next HU4.out⟩, rfl⟩) ?_
          refine wpHeld_step rfl fun K hK => ?_
          go_simp
          refine hK.out _ _ (.inr ⟨⟨w4, (HU3.out.more (by simp)).next HU4.out⟩, rfl⟩) ?_
          clear hK K
          have hof4 := (HOF.out.upd HU3.out).grow HU4.out HRW.out
          clear hq Q1 hg4 hown4 hu4
          have f4 := hof4.m.frozen 5
          have m4 : w4.cell? ⟨M, 5, none⟩ = some (.slice A i c) := hof4.m.cell 5
          obtain ⟨w5, hw5⟩ : ∃ w5, w5 = w4.setCell ⟨M, 5, none⟩ (.slice A' (i + 1) c') := ⟨_, rfl⟩
          have hof5 := hof4.stored 5 (.slice A' (i + 1) c')
          rw [← hw5] at hof5
          have us5 : Upd [M] w4 w5 := by rw [hw5]; exact (Upd.refl [M] w4).setCell (.inl (by simp)) _
          have HMO : Hid (∀ {B' size' n' : Nat} {e' : TypeId} {v' : Value} {xs' : List Value}, w4.ownsRow B' e' size' v' n' xs' → e' ≠ 37 → w5.ownsRow B' e' size' v' n' xs') := Lib.hid (fun ho hne => ownsRow_upd ho us5 (fun s hs hg => by rw [List.mem_singleton] at hs; subst hs; exact own_box ho hof4.m hne hg))
          have HK0 := Lib.hid (HMO.out (ownsRow_upd (ownsRow_upd HQ0.out HU3.out (by simp)) HU4.out (fun s hs => own_apart HOWN.out HQ0.out (by decide) (by rw [HPB.out] at hs; exact (own_in HOWN.out s hs).1))) (by decide))
          have HOF5 := Lib.hid hof5
          have HW5 := Lib.hid hw5
          clear hof4 hof5 us5 hw5
          refine wpHeld_last ?_
          go_wp2
          rw [← HW5.out]
          go_roundg (gk - 1)
          case measure => have := HGI.out; omega
          case rel => exact ⟨i + 1, by omega, by have := HGI.out; omega, by go_num, A', c', HMO.out HOWN4.out (by decide), HOF5.out, HK0.out⟩
        · obtain rfl : n2 = i := by omega
          have hfull : (tx).take n2 = tx := by rw [HNX.out.symm]; exact List.take_length
          rw [hfull] at hown
          have zT := hof.t.cell 5
          simp only [List.getElem?_toArray, List.getElem?_cons_zero, List.getElem?_cons_succ] at zT
          obtain ⟨A1, hA1⟩ : ∃ A', A' = A := ⟨_, rfl⟩
          obtain ⟨d1, hd1⟩ : ∃ c', c' = c := ⟨_, rfl⟩
          rw [← hA1, ← hd1] at hown hof
          have HR1 := Lib.hid hown
          have HR0 := Lib.hid hr0
          have HAT := Lib.hid hof
          clear hA1 hd1 hown hof hfull hgi hi hlt hr0
          obtain ⟨wn1, rfl⟩ : ∃ W : World, W = wr := ⟨_, rfl⟩
          go_wp2
          go_loopg [6] n3 (fun gk x wr => ∃ i : Nat, i ≤ n3 ∧ n3 ≤ i + gk ∧ x = .int .i64 i ∧ ∃ A c, wr.ownsRow w.heap.size 56 5 (.slice A i c) i (((s.bs).take i).flatMap encB) ∧ OfAt w wr M (T + 1) T #[.int .i64 c1, .int .i64 c2, .int .i64 c3, .int .i64 c4, .slice A0 n1 d0, .slice A1 n2 d1, .slice A i c] #[.int .i64 c1, .int .i64 c2, .int .i64 c3, .int .i64 c4, .slice pA n1 pc, .slice tA n2 tc, .slice bA n3 bc] #[.int .i64 0, .int .i64 0, .int .i64 0, .int .i64 0, .slice none 0 0, .slice none 0 0, .slice none 0 0] ∧ wr.ownsRow w.heap.size 74 3 (.slice A0 n1 d0) n1 ((s.ps).flatMap encP) ∧ wr.ownsRow w.heap.size 60 4 (.slice A1 n2 d1) n2 ((tx).flatMap encT))
          case atStart => exact ⟨0, Nat.zero_le _, by omega, rfl, none, 0, World.ownsRow_nil _ _ _ _, HAT.out, HR0.out, HR1.out⟩
          case round =>
            obtain ⟨i, hi, hgi, rfl, A, c, hown, hof, hr0, hr1⟩ := hrel
            by_cases hlt : i < n3
            · obtain ⟨x, hxi⟩ : ∃ x, (s.bs)[i]? = some x := ⟨_, List.getElem?_eq_getElem (by rw [← HN.out.2.2]; exact hlt)⟩
              obtain ⟨b, off, e, e0, e1, e2, e3, e4⟩ := HRB.out i x hxi
              cases e
              have hbl := cellD_lt e0
              have hrw := hof.row hown (by decide) (by decide)
              obtain ⟨PB, hPB⟩ : ∃ PB, PB = A.toList.map (·.block) := ⟨_, rfl⟩
              rw [← hPB] at hrw
              have hz : ∀ (z : Cls (Upd PB wr)) (q o : Nat) (v : Value), q < wr.heap.size → ¬ q ∈ PB → wr.cell? ⟨q, o, none⟩ = some v → z.w.cell? ⟨q, o, none⟩ = some v := fun z q o v hq hn hv => (z.h.cell (p := ⟨q, o, none⟩) hq hn).trans hv
              have hbn : ¬ b ∈ PB := fun hm => by have := (hrw b hm).1; omega
              have hTn : ¬ T ∈ PB := fun hm => (hrw T hm).2.2.2 rfl
              have hMn : ¬ M ∈ PB := fun hm => (hrw M hm).2.1 rfl
              have hbw := Nat.lt_of_lt_of_le hbl hof.u.size
              have yT : ∀ z : Cls (Upd PB wr), z.w.cell? ⟨T, 6, none⟩ = some (.slice (some ⟨b, off, none⟩) n3 bc) := fun z => hz z _ _ _ hof.t.lt hTn (hof.t.cell 6)
              have zT : wr.cell? ⟨T, 6, none⟩ = some (.slice (some ⟨b, off, none⟩) n3 bc) := hof.t.cell 6
              have yM : ∀ z : Cls (Upd PB wr), z.w.cell? ⟨M, 6, none⟩ = some (.slice A i c) := fun z => hz z _ _ _ hof.m.lt hMn (hof.m.cell 6)
              have y0 : ∀ z : Cls (Upd PB wr), z.w.cell? ⟨b, off + i * 5, none⟩ = some (.int .i64 x.who) := fun z => hz z _ _ _ hbw hbn ((hof.u.cell (p := ⟨b, off + i * 5, none⟩) hbl).trans e0)
              have y1 : ∀ z : Cls (Upd PB wr), z.w.cell? ⟨b, off + i * 5 + 1, none⟩ = some (.int .i64 x.track) := fun z => hz z _ _ _ hbw hbn ((hof.u.cell (p := ⟨b, off + i * 5 + 1, none⟩) hbl).trans e1)
              have y2 : ∀ z : Cls (Upd PB wr), z.w.cell? ⟨b, off + i * 5 + 2, none⟩ = some (.int .i64 x.layer) := fun z => hz z _ _ _ hbw hbn ((hof.u.cell (p := ⟨b, off + i * 5 + 2, none⟩) hbl).trans e2)
              have y3 : ∀ z : Cls (Upd PB wr), z.w.cell? ⟨b, off + i * 5 + 3, none⟩ = some (.int .i64 x.tid) := fun z => hz z _ _ _ hbw hbn ((hof.u.cell (p := ⟨b, off + i * 5 + 3, none⟩) hbl).trans e3)
              have y4 : ∀ z : Cls (Upd PB wr), z.w.cell? ⟨b, off + i * 5 + 4, none⟩ = some (.bool x.muted) := fun z => hz z _ _ _ hbw hbn ((hof.u.cell (p := ⟨b, off + i * 5 + 4, none⟩) hbl).trans e4)
              have hlti : (i : Int) < (n3 : Int) := by omega
              have hwi : IntKind.i64.wrap ((i : Int) + 1) = (i : Int) + 1 := IntWalk.i64_in _ (by omega)
              obtain ⟨j0, hj0, hy0, hy1, hy2⟩ := info_parts infoRB
              have HXI := Lib.hid hxi
              have HGI := Lib.hid hgi
              have HOWN := Lib.hid hown
              have HOF := Lib.hid hof
              have HRW := Lib.hid hrw
              have HPB := Lib.hid hPB
              have HQ0 := Lib.hid hr0
              have HQ1 := Lib.hid hr1
              clear hxi hgi hown hof hrw hPB hz hbn hTn hMn hbw hbl e0 e1 e2 e3 e4 hr0 hr1
              go_wp2
              refine wp_held_tail (Upd PB wr) ((Upd.refl _ _).drewN 1) [0, 1, 2, 3, 4, 5, 6, 7, 8, 9, 10, 11, 12, 13, 14, 15, 16, 17, 18, 19, 20, 21, 22, 23, 24, 25, 26, 27, 28, 29, 30, 31, 32] [33, 34, 35, 36] (by kernel_rfl) (by kernel_rfl) (fun _ _ _ _ h => h) ?_
              intro hne
              simp only [pick3, List.map_cons, List.map_nil, List.getElem?_cons_zero, List.getElem?_cons_succ, Option.getD_some]
              repeat (go_big_quiet_step (fail))
              refine wpQuiet_nil ?_
              clear zT yT yM y0 y1 y2 y3 y4
              refine wpHeld_step rfl fun K hK => ?_
              go_simp
              obtain ⟨V, hV⟩ : ∃ V, V = wr.heap.size := ⟨_, rfl⟩
              obtain ⟨W3, hW3⟩ : ∃ W3, W3 = (wr.drewN 1).alloc (.cells #[.int .i64 x.who, .int .i64 x.track, .int .i64 x.layer, .int .i64 x.tid, .bool x.muted] 56) := ⟨_, rfl⟩
              have u3 : Upd [] wr W3 := by rw [hW3]; exact ((Upd.refl [] wr).drewN 1).alloc _
              have hVB : Blk W3 V 56 (encB x).toArray := by rw [hW3, hV]; exact Blk.new _ _ _
              rw [← hW3, ← hV]
              have HU3 := Lib.hid u3
              have HVB := Lib.hid hVB
              clear hV hW3 u3 hVB
              refine hK.out _ _ (.inr ⟨⟨W3, HU3.out.more (by simp)⟩, rfl⟩) ?_
              clear hK K
              refine wpHeld_list (fun Q1 hq => ?_)
              refine wpList_append_src W3 rfl (.tmp 97) (.tmp 129) 35 rfl w.heap.size 56 j0 _ 5 40 Try.underlying35 hj0 hy0 hy1 hy2 rfl (by decide) (.slice A i c) i (((s.bs).take i).flatMap encB) rfl (ownsRow_upd HOWN.out HU3.out (by simp)) (some ⟨V, 0, none⟩) 1 1 (encB x) rfl (fun e => by cases e) rfl (row_lit HVB.out) (encB_one x) (by unfold maxLen; omega) (by omega) (Nat.le_trans HOF.out.u.size HU3.out.size) ?_
              intro v1 w4 hown4 hg4 _
              obtain ⟨A', c', hv, _⟩ := own_form hown4
              subst hv
              rw [← flat_take1 HXI.out] at hown4
              have hu4 : Upd PB W3 w4 := by rw [HPB.out, ← own_list A i c]; exact Upd.of_grown hg4
              have HU4 := Lib.hid hu4
              have HOWN4 := Lib.hid hown4
              refine hq.out _ _ (.inr ⟨⟨w4, (HU3.out.more (by simp)).next HU4.out⟩, rfl⟩) ?_
              refine wpHeld_step rfl fun K hK => ?_
              go_simp
              refine hK.out _ _ (.inr ⟨⟨w4, (HU3.out.more (by simp)).next HU4.out⟩, rfl⟩) ?_
              clear hK K
              have hof4 := (HOF.out.upd HU3.out).grow HU4.out HRW.out
              clear hq Q1 hg4 hown4 hu4
              have f4 := hof4.m.frozen 6
              have m4 : w4.cell? ⟨M, 6, none⟩ = some (.slice A i c) := hof4.m.cell 6
              obtain ⟨w5, hw5⟩ : ∃ w5, w5 = w4.setCell ⟨M, 6, none⟩ (.slice A' (i + 1) c') := ⟨_, rfl⟩
              have hof5 := hof4.stored 6 (.slice A' (i + 1) c')
              rw [← hw5] at hof5
              have us5 : Upd [M] w4 w5 := by rw [hw5]; exact (Upd.refl [M] w4).setCell (.inl (by simp)) _
              have HMO : Hid (∀ {B' size' n' : Nat} {e' : TypeId} {v' : Value} {xs' : List Value}, w4.ownsRow B' e' size' v' n' xs' → e' ≠ 37 → w5.ownsRow B' e' size' v' n' xs') := Lib.hid (fun ho hne => ownsRow_upd ho us5 (fun s hs hg => by rw [List.mem_singleton] at hs; subst hs; exact own_box ho hof4.m hne hg))
              have HK0 := Lib.hid (HMO.out (ownsRow_upd (ownsRow_upd HQ0.out HU3.out (by simp)) HU4.out (fun s hs => own_apart HOWN.out HQ0.out (by decide) (by rw [HPB.out] at hs; exact (own_in HOWN.out s hs).1))) (by decide))
              have HK1 := Lib.hid (HMO.out (ownsRow_upd (ownsRow_upd HQ1.out HU3.out (by simp)) HU4.out (fun s hs => own_apart HOWN.out HQ1.out (by decide) (by rw [HPB.out] at hs; exact (own_in HOWN.out s hs).1))) (by decide))
              have HOF5 := Lib.hid hof5
              have HW5 := Lib.hid hw5
              clear hof4 hof5 us5 hw5
              refine wpHeld_last ?_
              go_wp2
              rw [← HW5.out]
              go_roundg (gk - 1)
              case measure => have := HGI.out; omega
              case rel => exact ⟨i + 1, by omega, by have := HGI.out; omega, by go_num, A', c', HMO.out HOWN4.out (by decide), HOF5.out, HK0.out, HK1.out⟩
            · obtain rfl : n3 = i := by omega
              have hfull : (s.bs).take n3 = s.bs := by rw [HN.out.2.2]; exact List.take_length
              rw [hfull] at hown
              have zT := hof.t.cell 6
              simp only [List.getElem?_toArray, List.getElem?_cons_zero, List.getElem?_cons_succ] at zT
              obtain ⟨A2, hA2⟩ : ∃ A', A' = A := ⟨_, rfl⟩
              obtain ⟨d2, hd2⟩ : ∃ c', c' = c := ⟨_, rfl⟩
              rw [← hA2, ← hd2] at hown hof
              have HR2 := Lib.hid hown
              have HR0 := Lib.hid hr0
              have HR1 := Lib.hid hr1
              have HAT := Lib.hid hof
              clear hA2 hd2 hown hof hfull hgi hi hlt hr0 hr1
              obtain ⟨wn2, rfl⟩ : ∃ W : World, W = wr := ⟨_, rfl⟩
              have m0 : wn2.cell? ⟨M, 0, none⟩ = some (.int .i64 c1) := HAT.out.m.cell 0
              have m1 : wn2.cell? ⟨M, 1, none⟩ = some (.int .i64 c2) := HAT.out.m.cell 1
              have m2 : wn2.cell? ⟨M, 2, none⟩ = some (.int .i64 c3) := HAT.out.m.cell 2
              have m3 : wn2.cell? ⟨M, 3, none⟩ = some (.int .i64 c4) := HAT.out.m.cell 3
              have m4 : wn2.cell? ⟨M, 4, none⟩ = some (.slice A0 n1 d0) := HAT.out.m.cell 4
              have m5 : wn2.cell? ⟨M, 5, none⟩ = some (.slice A1 n2 d1) := HAT.out.m.cell 5
              have m6 : wn2.cell? ⟨M, 6, none⟩ = some (.slice A2 n3 d2) := HAT.out.m.cell 6
              have f0 := HAT.out.r.frozen 0
              have f1 := HAT.out.r.frozen 1
              have f2 := HAT.out.r.frozen 2
              have f3 := HAT.out.r.frozen 3
              have f4 := HAT.out.r.frozen 4
              have f5 := HAT.out.r.frozen 5
              have f6 := HAT.out.r.frozen 6
              have r0 := HAT.out.r.cell 0
              have r1 := HAT.out.r.cell 1
              have r2 := HAT.out.r.cell 2
              have r3 := HAT.out.r.cell 3
              have r4 := HAT.out.r.cell 4
              have r5 := HAT.out.r.cell 5
              have r6 := HAT.out.r.cell 6
              simp only [List.getElem?_toArray, List.getElem?_cons_zero, List.getElem?_cons_succ] at r0 r1 r2 r3 r4 r5 r6
              obtain ⟨kx, ux⟩ := blk7 HAT.out.r (.int .i64 c1) (.int .i64 c2) (.int .i64 c3) (.int .i64 c4) (.slice A0 n1 d0) (.slice A1 n2 d1) (.slice A2 n3 d2)
              obtain ⟨w6, hw6⟩ : ∃ W, W = (((((((wn2.setCell ⟨T + 1, 0, none⟩ (.int .i64 c1)).setCell ⟨T + 1, 1, none⟩ (.int .i64 c2)).setCell ⟨T + 1, 2, none⟩ (.int .i64 c3)).setCell ⟨T + 1, 3, none⟩ (.int .i64 c4)).setCell ⟨T + 1, 4, none⟩ (.slice A0 n1 d0)).setCell ⟨T + 1, 5, none⟩ (.slice A1 n2 d1)).setCell ⟨T + 1, 6, none⟩ (.slice A2 n3 d2)) := ⟨_, rfl⟩
              rw [← hw6] at kx ux
              have HKX := Lib.hid kx
              have HUX := Lib.hid ux
              have HW6 := Lib.hid hw6
              clear hw6 kx ux
              go_wp2
              rw [← HW6.out]
              have g0 := HKX.out.cell 0
              have g1 := HKX.out.cell 1
              have g2 := HKX.out.cell 2
              have g3 := HKX.out.cell 3
              have g4 := HKX.out.cell 4
              have g5 := HKX.out.cell 5
              have g6 := HKX.out.cell 6
              simp only [List.getElem?_toArray, List.getElem?_cons_zero, List.getElem?_cons_succ] at g0 g1 g2 g3 g4 g5 g6
              refine bodyPost_res (v := .agg #[.int .i64 c1, .int .i64 c2, .int .i64 c3, .int .i64 c4, .slice A0 n1 d0, .slice A1 n2 d1, .slice A2 n3 d2]) (by simp [results, Try.results16, go_sem, Addr.add, g0, g1, g2, g3, g4, g5, g6]) rfl ?_
              have hkeep : ∀ {B' size' n' : Nat} {e' : TypeId} {v' : Value} {xs' : List Value}, wn2.ownsRow B' e' size' v' n' xs' → e' ≠ 37 → w6.ownsRow B' e' size' v' n' xs' := fun ho hne => ownsRow_upd ho HUX.out (fun s hs hg => by rw [List.mem_singleton] at hs; subst hs; exact own_box ho HAT.out.r hne hg)
              have hbel : Below w.heap.size w w6 := HAT.out.u.trans (HUX.out.below HAT.out.u.size (fun s hs => by rw [List.mem_singleton] at hs; subst hs; exact HAT.out.wR))
              have k0 := RwIn.of_own (hkeep HR0.out (by decide))
              have k1 := RwIn.of_own (hkeep HR1.out (by decide))
              have k2 := RwIn.of_own (hkeep HR2.out (by decide))
              have hn1 := HN.out.1
              have hn2 := HN.out.2.1
              have hn3 := HN.out.2.2
              subst hn1 hn2 hn3
              exact ⟨⟨A0, d0, tx, A1, d1, A2, d2⟩, by rw [HSC.out], rfl, ⟨k0.more (Nat.zero_le _), k1.more (Nat.zero_le _), k2.more (Nat.zero_le _), HS.out.tx, fun x hx => (HS.out.ss x hx).below hbel⟩, fun g hg a => ⟨own_av HR0.out hg, own_av HR1.out hg, own_av HR2.out hg, a.ss⟩, Upd.of_below hbel⟩
theorem of_any {w : World} {s : St} {h : SHd} (hs : StIn w s h) (hl1 : s.ps.length ≤ 1000) (hl2 : s.ts.length ≤ 1000) (hl3 : s.bs.length ≤ 1000) :
    Calls Try.prog 16 #[.agg (scells s h).toArray] w fun e w' => ∃ h', e = .returned (.agg (scells s h').toArray) ∧ h'.tx = h.tx ∧ StIn w' s h' ∧ Upd [] w w' :=
  (of_av hs hl1 hl2 hl3).mono fun e w' ⟨h', a, b, c, _, d⟩ => ⟨h', a, b, c, d⟩
end Go.Proofs.Ytjcbaelefacolaa
/- The layer delta, the document's side: where somebody, a track, a sub stands. Conditions: the state in memory; the row rises; no more than 1000. -/
namespace Go.Proofs.Ytjcbaelefacolaa
open Go Go.RowKit
set_option maxHeartbeats 400000

def ridxM {α : Type} (c : α → Int) (l : List α) : Int := if has c l = true then (low c l : Int) else -1
theorem ridx_at {α : Type} {c : α → Int} {l : List α} (h : Rise c l) {i : Nat} {x : α} (hx : l[i]? = some x) (hc : c x = 0) : ridxM c l = (i : Int) := by
  have h1 := rise_low h i x hx
  have h2 : has c l = true := by unfold has; rw [List.any_eq_true]; exact ⟨x, List.mem_of_getElem? hx, by simpa using hc⟩
  unfold ridxM
  rw [if_pos h2]
  have : i = low c l := by omega
  omega
theorem ridx_no {α : Type} {c : α → Int} {l : List α} (h : ∀ k x, l[k]? = some x → k < l.length → c x ≠ 0) : ridxM c l = -1 := by
  unfold ridxM
  rw [if_neg]
  unfold has
  rw [List.any_eq_true]
  rintro ⟨x, hx, hc⟩
  obtain ⟨k, hk⟩ := List.getElem?_of_mem hx
  exact h k x hk (List.getElem?_eq_some_iff.1 hk).1 (by simpa using hc)
theorem ridx_succ {α : Type} {c : α → Int} {l : List α} {i : Nat} {x : α} (hx : l[i]? = some x) (h : ∀ k y, l[k]? = some y → k < i → c y ≠ 0) (hc : c x ≠ 0) : ∀ k y, l[k]? = some y → k < i + 1 → c y ≠ 0 := by
  intro k y hy hk
  by_cases hki : k = i
  · subst hki; rw [hx] at hy; obtain rfl := Option.some.inj hy; exact hc
  · exact h k y hy (by omega)
set_option maxRecDepth 100000 in
set_option maxHeartbeats 2000000 in
theorem rperson_any {w : World} {s : St} {h : SHd} (hs : StIn w s h) (hu : UpP s.ps) (hl : (s.ps).length ≤ 1000) (who : Int) :
    Calls Try.prog 35 #[.agg (scells s h).toArray, .int .i64 who] w fun e w' => e = .returned (.int .i64 (ridxM (cP who) s.ps)) ∧ Upd [] w w' := by
  obtain ⟨T, hT⟩ : ∃ T, T = w.heap.size := ⟨_, rfl⟩
  obtain ⟨W, hW⟩ : ∃ W, W = w.alloc (.cells (scells s h).toArray 37) := ⟨_, rfl⟩
  have u : Upd [] w W := by rw [hW]; exact (Upd.refl [] w).alloc _
  have hb : Blk W T 37 (scells s h).toArray := by rw [hW, hT]; exact Blk.new _ _ _
  have HRW := Lib.hid (rowP (hs.upd u).p rfl)
  have HU := Lib.hid u
  have HR := Lib.hid (hu.rise who)
  obtain ⟨n1, hn1⟩ : ∃ n, n = s.ps.length := ⟨_, rfl⟩
  obtain ⟨n2, hn2⟩ : ∃ n, n = s.ts.length := ⟨_, rfl⟩
  obtain ⟨n3, hn3⟩ : ∃ n, n = s.bs.length := ⟨_, rfl⟩
  have hsc : scells s h = [.int .i64 s.c.people, .int .i64 s.c.tracks, .int .i64 s.c.subs, .int .i64 s.c.slots, .slice h.pA n1 h.pc, .slice h.tA n2 h.tc, .slice h.bA n3 h.bc] := by unfold scells; rw [← hn1, ← hn2, ← hn3]
  rw [hsc] at hb hW ⊢
  have HN := Lib.hid (And.intro hn1 (And.intro hn2 hn3))
  have hln : n1 ≤ 1000 := by omega
  obtain ⟨pA, pc, tx, tA, tc, bA, bc⟩ := h
  dsimp only at hb hW HRW ⊢
  obtain ⟨c, hc⟩ : ∃ c, c = s.c := ⟨_, rfl⟩
  rw [← hc] at hb hW ⊢
  have zT := hb.cell 4
  simp only [List.getElem?_toArray, List.getElem?_cons_zero, List.getElem?_cons_succ] at zT
  have HT := Lib.hid hT
  clear hsc hn1 hn2 hn3 hc hb hs hu u
  go_enter Try.func35, Try.ntmps35
  go_upto_region 1 with fail
  rw [← hW, ← hT]
  clear hW hT
  go_wp2
  go_loopg [5] n1 (fun gk x wr => ∃ i : Nat, i ≤ n1 ∧ n1 ≤ i + gk ∧ x = .int .i64 i ∧ (∀ k y, (s.ps)[k]? = some y → k < i → (cP who) y ≠ 0) ∧ wr = W)
  case atStart => exact ⟨0, Nat.zero_le _, by omega, rfl, fun _ _ _ hk => absurd hk (Nat.not_lt_zero _), rfl⟩
  case round =>
    obtain ⟨i, hi, hgi, rfl, hno, hwr⟩ := hrel
    subst hwr
    by_cases hlt : i < n1
    · obtain ⟨x, hxi⟩ : ∃ x, (s.ps)[i]? = some x := ⟨_, List.getElem?_eq_getElem (by have := HN.out; omega)⟩
      obtain ⟨b1, o1, e, e0, _, _⟩ := HRW.out i x hxi
      cases e
      have hlti : (i : Int) < (n1 : Int) := by omega
      have hwi : IntKind.i64.wrap ((i : Int) + 1) = (i : Int) + 1 := IntWalk.i64_in _ (by omega)
      have HGI := Lib.hid hgi
      have HXI := Lib.hid hxi
      have HNO := Lib.hid hno
      clear hxi hgi hno
      by_cases hk : x.who = who
      · rw [hk] at e0
        have hr := ridx_at HR.out HXI.out (cmpI_zero.2 hk)
        have HIX := Lib.hid hr
        clear hr
        go_wp2
        exact bodyPost_res (v := .int .i64 (i : Int)) (by simp [results, Try.results35, go_sem]) rfl ⟨by rw [HIX.out], HU.out⟩
      · have hkb : (x.who == who) = false := by simpa using hk
        go_wp2
        go_roundg (gk - 1)
        case measure => have := HGI.out; omega
        case rel => exact ⟨i + 1, by omega, by have := HGI.out; omega, by go_num, ridx_succ HXI.out HNO.out (fun hc => hk (cmpI_zero.1 hc)), rfl⟩
    · obtain rfl : n1 = i := by omega
      have hr : ridxM (cP who) s.ps = -1 := ridx_no (fun k y hy hk => hno k y hy (by have := HN.out; omega))
      have HIX := Lib.hid hr
      clear hno hgi hi hlt hr
      go_wp2
      exact bodyPost_res (v := .int .i64 (-1)) (by simp [results, Try.results35, go_sem]) rfl ⟨by rw [HIX.out], HU.out⟩
set_option maxRecDepth 100000 in
set_option maxHeartbeats 2000000 in
theorem rtrack_any {w : World} {s : St} {h : SHd} (hs : StIn w s h) (hu : UpT s.ts) (hl : (s.ts).length ≤ 1000) (id : Int) :
    Calls Try.prog 70 #[.agg (scells s h).toArray, .int .i64 id] w fun e w' => e = .returned (.int .i64 (ridxM (cT id) s.ts)) ∧ Upd [] w w' := by
  obtain ⟨T, hT⟩ : ∃ T, T = w.heap.size := ⟨_, rfl⟩
  obtain ⟨W, hW⟩ : ∃ W, W = w.alloc (.cells (scells s h).toArray 37) := ⟨_, rfl⟩
  have u : Upd [] w W := by rw [hW]; exact (Upd.refl [] w).alloc _
  have hb : Blk W T 37 (scells s h).toArray := by rw [hW, hT]; exact Blk.new _ _ _
  have HRW := Lib.hid (rowT (hs.upd u))
  have HU := Lib.hid u
  have HR := Lib.hid (hu.rise id)
  obtain ⟨n1, hn1⟩ : ∃ n, n = s.ps.length := ⟨_, rfl⟩
  obtain ⟨n2, hn2⟩ : ∃ n, n = s.ts.length := ⟨_, rfl⟩
  obtain ⟨n3, hn3⟩ : ∃ n, n = s.bs.length := ⟨_, rfl⟩
  have hsc : scells s h = [.int .i64 s.c.people, .int .i64 s.c.tracks, .int .i64 s.c.subs, .int .i64 s.c.slots, .slice h.pA n1 h.pc, .slice h.tA n2 h.tc, .slice h.bA n3 h.bc] := by unfold scells; rw [← hn1, ← hn2, ← hn3]
  rw [hsc] at hb hW ⊢
  have HN := Lib.hid (And.intro hn1 (And.intro hn2 hn3))
  have hln : n2 ≤ 1000 := by omega
  obtain ⟨pA, pc, tx, tA, tc, bA, bc⟩ := h
  dsimp only at hb hW HRW ⊢
  obtain ⟨c, hc⟩ : ∃ c, c = s.c := ⟨_, rfl⟩
  rw [← hc] at hb hW ⊢
  have zT := hb.cell 5
  simp only [List.getElem?_toArray, List.getElem?_cons_zero, List.getElem?_cons_succ] at zT
  have HT := Lib.hid hT
  clear hsc hn1 hn2 hn3 hc hb hs hu u
  go_enter Try.func70, Try.ntmps70
  go_upto_region 1 with fail
  rw [← hW, ← hT]
  clear hW hT
  go_wp2
  go_loopg [5] n2 (fun gk x wr => ∃ i : Nat, i ≤ n2 ∧ n2 ≤ i + gk ∧ x = .int .i64 i ∧ (∀ k y, (s.ts)[k]? = some y → k < i → (cT id) y ≠ 0) ∧ wr = W)
  case atStart => exact ⟨0, Nat.zero_le _, by omega, rfl, fun _ _ _ hk => absurd hk (Nat.not_lt_zero _), rfl⟩
  case round =>
    obtain ⟨i, hi, hgi, rfl, hno, hwr⟩ := hrel
    subst hwr
    by_cases hlt : i < n2
    · obtain ⟨x, hxi⟩ : ∃ x, (s.ts)[i]? = some x := ⟨_, List.getElem?_eq_getElem (by have := HN.out; omega)⟩
      obtain ⟨b1, o1, _, _, e, e0, _, _, _, _⟩ := HRW.out i x hxi
      cases e
      have hlti : (i : Int) < (n2 : Int) := by omega
      have hwi : IntKind.i64.wrap ((i : Int) + 1) = (i : Int) + 1 := IntWalk.i64_in _ (by omega)
      have HGI := Lib.hid hgi
      have HXI := Lib.hid hxi
      have HNO := Lib.hid hno
      clear hxi hgi hno
      by_cases hk : x.id = id
      · rw [hk] at e0
        have hr := ridx_at HR.out HXI.out (cmpI_zero.2 hk)
        have HIX := Lib.hid hr
        clear hr
        go_wp2
        exact bodyPost_res (v := .int .i64 (i : Int)) (by simp [results, Try.results70, go_sem]) rfl ⟨by rw [HIX.out], HU.out⟩
      · have hkb : (x.id == id) = false := by simpa using hk
        go_wp2
        go_roundg (gk - 1)
        case measure => have := HGI.out; omega
        case rel => exact ⟨i + 1, by omega, by have := HGI.out; omega, by go_num, ridx_succ HXI.out HNO.out (fun hc => hk (cmpI_zero.1 hc)), rfl⟩
    · obtain rfl : n2 = i := by omega
      have hr : ridxM (cT id) s.ts = -1 := ridx_no (fun k y hy hk => hno k y hy (by have := HN.out; omega))
      have HIX := Lib.hid hr
      clear hno hgi hi hlt hr
      go_wp2
      exact bodyPost_res (v := .int .i64 (-1)) (by simp [results, Try.results70, go_sem]) rfl ⟨by rw [HIX.out], HU.out⟩
set_option maxRecDepth 100000 in
set_option maxHeartbeats 2000000 in
theorem rsub_any {w : World} {s : St} {h : SHd} (hs : StIn w s h) (hu : UpB s.bs) (hl : (s.bs).length ≤ 1000) (who track : Int) :
    Calls Try.prog 45 #[.agg (scells s h).toArray, .int .i64 who, .int .i64 track] w fun e w' => e = .returned (.int .i64 (ridxM (cB who track) s.bs)) ∧ Upd [] w w' := by
  obtain ⟨T, hT⟩ : ∃ T, T = w.heap.size := ⟨_, rfl⟩
  obtain ⟨W, hW⟩ : ∃ W, W = w.alloc (.cells (scells s h).toArray 37) := ⟨_, rfl⟩
  have u : Upd [] w W := by rw [hW]; exact (Upd.refl [] w).alloc _
  have hb : Blk W T 37 (scells s h).toArray := by rw [hW, hT]; exact Blk.new _ _ _
  have HRW := Lib.hid (rowB (hs.upd u).b rfl)
  have HU := Lib.hid u
  have HR := Lib.hid (hu.rise who track)
  obtain ⟨n1, hn1⟩ : ∃ n, n = s.ps.length := ⟨_, rfl⟩
  obtain ⟨n2, hn2⟩ : ∃ n, n = s.ts.length := ⟨_, rfl⟩
  obtain ⟨n3, hn3⟩ : ∃ n, n = s.bs.length := ⟨_, rfl⟩
  have hsc : scells s h = [.int .i64 s.c.people, .int .i64 s.c.tracks, .int .i64 s.c.subs, .int .i64 s.c.slots, .slice h.pA n1 h.pc, .slice h.tA n2 h.tc, .slice h.bA n3 h.bc] := by unfold scells; rw [← hn1, ← hn2, ← hn3]
  rw [hsc] at hb hW ⊢
  have HN := Lib.hid (And.intro hn1 (And.intro hn2 hn3))
  have hln : n3 ≤ 1000 := by omega
  obtain ⟨pA, pc, tx, tA, tc, bA, bc⟩ := h
  dsimp only at hb hW HRW ⊢
  obtain ⟨c, hc⟩ : ∃ c, c = s.c := ⟨_, rfl⟩
  rw [← hc] at hb hW ⊢
  have zT := hb.cell 6
  simp only [List.getElem?_toArray, List.getElem?_cons_zero, List.getElem?_cons_succ] at zT
  have HT := Lib.hid hT
  clear hsc hn1 hn2 hn3 hc hb hs hu u
  go_enter Try.func45, Try.ntmps45
  go_upto_region 1 with fail
  rw [← hW, ← hT]
  clear hW hT
  go_wp2
  go_loopg [7] n3 (fun gk x wr => ∃ i : Nat, i ≤ n3 ∧ n3 ≤ i + gk ∧ x = .int .i64 i ∧ (∀ k y, (s.bs)[k]? = some y → k < i → (cB who track) y ≠ 0) ∧ wr = W)
  case atStart => exact ⟨0, Nat.zero_le _, by omega, rfl, fun _ _ _ hk => absurd hk (Nat.not_lt_zero _), rfl⟩
  case round =>
    obtain ⟨i, hi, hgi, rfl, hno, hwr⟩ := hrel
    subst hwr
    by_cases hlt : i < n3
    · obtain ⟨x, hxi⟩ : ∃ x, (s.bs)[i]? = some x := ⟨_, List.getElem?_eq_getElem (by have := HN.out; omega)⟩
      obtain ⟨b1, o1, e, e0, e1, _, _, _⟩ := HRW.out i x hxi
      cases e
      have hlti : (i : Int) < (n3 : Int) := by omega
      have hwi : IntKind.i64.wrap ((i : Int) + 1) = (i : Int) + 1 := IntWalk.i64_in _ (by omega)
      have HGI := Lib.hid hgi
      have HXI := Lib.hid hxi
      have HNO := Lib.hid hno
      clear hxi hgi hno
      by_cases hk : x.who = who
      · rw [hk] at e0
        by_cases hk2 : x.track = track
        · rw [hk2] at e1
          have hr := ridx_at HR.out HXI.out (cB_zero.2 ⟨hk, hk2⟩)
          have HIX := Lib.hid hr
          clear hr
          go_wp2
          exact bodyPost_res (v := .int .i64 (i : Int)) (by simp [results, Try.results45, go_sem]) rfl ⟨by rw [HIX.out], HU.out⟩
        · have hkb : (x.track == track) = false := by simpa using hk2
          go_wp2
          go_roundg (gk - 1)
          case measure => have := HGI.out; omega
          case rel => exact ⟨i + 1, by omega, by have := HGI.out; omega, by go_num, ridx_succ HXI.out HNO.out (fun hc => hk2 (cB_zero.1 hc).2), rfl⟩
      · have hkb : (x.who == who) = false := by simpa using hk
        go_wp2
        go_roundg (gk - 1)
        case measure => have := HGI.out; omega
        case rel => exact ⟨i + 1, by omega, by have := HGI.out; omega, by go_num, ridx_succ HXI.out HNO.out (fun hc => hk (cB_zero.1 hc).1), rfl⟩
    · obtain rfl : n3 = i := by omega
      have hr : ridxM (cB who track) s.bs = -1 := ridx_no (fun k y hy hk => hno k y hy (by have := HN.out; omega))
      have HIX := Lib.hid hr
      clear hno hgi hi hlt hr
      go_wp2
      exact bodyPost_res (v := .int .i64 (-1)) (by simp [results, Try.results45, go_sem]) rfl ⟨by rw [HIX.out], HU.out⟩
end Go.Proofs.Ytjcbaelefacolaa
