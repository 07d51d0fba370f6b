/- RtcpJoins: the walk. -/
import Derived.Test.YtgkejdjdccgjbaaParseG
import Derived.Test.YtgkejdjdccgjbaaRAwake
import Derived.Test.YtgkejdjdccgjbaaJoin
namespace Go.Proofs.Ytgkejdjdccgjbaa
open Go Go.RowKit
set_option maxHeartbeats 400000

theorem str_app (xs ys : List Int) : strOfNums (xs ++ ys) = strOfNums xs ++ strOfNums ys := by
  apply ByteArray.ext
  simp [strOfNums]
theorem infoMs : (Try.prog.info? 59).map (fun i => (i.zero, i.size, i.bytes)) = some (some (.agg (zcells 0).toArray), 12, 144) := infoM
theorem one_msgs (l : List (Mg × Hd)) : ∀ u ∈ l.flatMap encM, u.oneCell' = true := by
  intro u hu
  obtain ⟨p, _, hp⟩ := List.mem_flatMap.1 hu
  simp only [encM, mcells, List.mem_cons, List.not_mem_nil, or_false] at hp
  rcases hp with rfl | rfl | rfl | rfl | rfl | rfl | rfl | rfl | rfl | rfl | rfl | rfl <;> rfl
theorem row_apart {w : World} {B B' s s' n n' : Nat} {e e' : TypeId} {v v' : Value} {xs xs' : List Value} (h : w.ownsRow B e s v n xs) (h' : w.ownsRow B' e' s' v' n' xs') (hne : e ≠ e') : ∀ t, t ∈ v'.ownBlock.toList → v.ownBlock ≠ some t := by
  intro t ht hv
  obtain ⟨c1, h1⟩ := row_type h t hv
  obtain ⟨c2, h2⟩ := row_type h' t (by simpa using ht)
  exact (h1.ne h2 hne) rfl
set_option maxRecDepth 100000 in
set_option maxHeartbeats 1500000 in
theorem joins_any (A B : Option Addr) (ca cb : Nat) (la lb : List (Mg × Hd)) (w : World) (hA : A = none → la.length = 0 ∧ ca = 0) (hB : B = none → lb.length = 0 ∧ cb = 0) (hlca : la.length ≤ ca) (hca : ca ≤ 9223372036854775807) (hlcb : lb.length ≤ cb) (hcb : cb ≤ 9223372036854775807)
    (hla : CellsIn w 0 w.heap.size 12 A la.length (la.flatMap encM)) (hma : ∀ x, x ∈ la → MgIn w 0 x.1 x.2 ∧ x.1.Num) (hlb : CellsIn w 0 w.heap.size 12 B lb.length (lb.flatMap encM)) (hmb : ∀ x, x ∈ lb → MgIn w 0 x.1 x.2 ∧ x.1.Num) :
    Calls Try.prog 7 #[.slice A la.length ca, .slice B lb.length cb] w fun e w' => e = .returned (.bool true) ∧ Below w.heap.size w w' := by
  obtain ⟨j0, hj0, hy0, hy1, hy2⟩ := info_parts infoMs
  have HAW := Lib.hid (awake_any w)
  have HLA := Lib.hid hla
  have HLB := Lib.hid hlb
  have HMA := Lib.hid hma
  have HMB := Lib.hid hmb
  have HNA := Lib.hid hA
  have HNB := Lib.hid hB
  clear hla hlb hma hmb hA hB
  go_enter Try.func7, Try.ntmps7
  go_wp2_with fail
  refine HAW.out.mono ?_
  rintro e w1 ⟨rfl, hu⟩
  have HB1 := Lib.hid (hu.below (Nat.le_refl _) (by simp) : Below w.heap.size w w1)
  have HCA := Lib.hid ((HLA.out.below HB1.out (Nat.le_refl _)).more (Nat.le_refl _) hu.size)
  have HCB := Lib.hid ((HLB.out.below HB1.out (Nat.le_refl _)).more (Nat.le_refl _) hu.size)
  have HF1 := Lib.hid (few_any (cap := ca) HCA.out (by omega))
  have HF2 := Lib.hid (few_any (cap := cb) HCB.out (by omega))
  clear hu HAW
  go_wp2_with fail
  refine HF1.out.mono ?_
  rintro e w2 ⟨rfl, rfl⟩
  go_wp2_with fail
  refine HF2.out.mono ?_
  rintro e w3 ⟨rfl, rfl⟩
  clear HF1 HF2
  obtain ⟨fa, hfa⟩ : ∃ fw, fw = fewM (la.map (·.1)) := ⟨_, rfl⟩
  obtain ⟨fb, hfb⟩ : ∃ fw, fw = fewM (lb.map (·.1)) := ⟨_, rfl⟩
  rw [← hfa, ← hfb]
  have HFA := Lib.hid hfa
  have HFB := Lib.hid hfb
  clear hfa hfb
  cases fa with
  | false =>
    go_wp2
    exact bodyPost_res (v := .bool true) (by simp [results, Try.results7, go_sem]) rfl ⟨rfl, HB1.out⟩
  | true =>
  cases fb with
  | false =>
    go_wp2
    exact bodyPost_res (v := .bool true) (by simp [results, Try.results7, go_sem]) rfl ⟨rfl, HB1.out⟩
  | true =>
  obtain ⟨hoa, h12a⟩ := fewM_ok HFA.out.symm (fun x hx => (HMA.out x hx).2)
  obtain ⟨hob, h12b⟩ := fewM_ok HFB.out.symm (fun x hx => (HMB.out x hx).2)
  have HOKA := Lib.hid hoa
  have HOKB := Lib.hid hob
  have HPA := Lib.hid (put_any (cap := ca) HCA.out (fun x hx => ⟨(HMA.out x hx).1.below HB1.out, HOKA.out x hx⟩) (by omega))
  clear hoa hob HFA HFB
  go_wp2_with fail
  refine HPA.out.mono ?_
  rintro e w4 ⟨vx, rfl, hox, hb4⟩
  obtain ⟨Ax, cx, hvx, _⟩ := own_form hox
  subst hvx
  have HB4 := Lib.hid (HB1.out.trans (hb4.mono HB1.out.size))
  have HOX4 := Lib.hid hox
  have HCB4 := Lib.hid ((HCB.out.below hb4 (Nat.le_refl _)).more (Nat.le_refl _) hb4.size)
  have HPB := Lib.hid (put_any (cap := cb) HCB4.out (fun x hx => ⟨(HMB.out x hx).1.below HB4.out, HOKB.out x hx⟩) (by omega))
  clear hox hb4 HPA HCA HCB
  obtain ⟨pe, hpe⟩ : ∃ pe, pe = (putM (la.map (·.1))).2 := ⟨_, rfl⟩
  rw [← hpe]
  have HPE := Lib.hid hpe
  clear hpe
  go_wp2_with fail
  refine HPB.out.mono ?_
  rintro e w5 ⟨vy, rfl, hoy, hb5⟩
  obtain ⟨Ay, cy, hvy, _⟩ := own_form hoy
  subst hvy
  have HB5 := Lib.hid (HB4.out.trans (hb5.mono HB4.out.size))
  have HOX5 := Lib.hid (ownsRow_upd HOX4.out (Upd.of_below (S := []) hb5) (by simp))
  have HOY5 := Lib.hid hoy
  clear hoy hb5 HPB HCB4 HOX4 HB4
  obtain ⟨pf, hpf⟩ : ∃ pf, pf = (putM (lb.map (·.1))).2 := ⟨_, rfl⟩
  rw [← hpf]
  have HPF := Lib.hid hpf
  clear hpf
  have HSA := Lib.hid ((HLA.out.below HB5.out (Nat.le_refl _)).src)
  have HSZ5 : Hid (w.heap.size ≤ w5.heap.size) := Lib.hid HB5.out.size
  have HONA := Lib.hid (one_msgs la)
  have HONB := Lib.hid (one_msgs lb)
  have hlla : (la.flatMap encM).length = la.length * 12 := flat_length encM_len la
  have hllb : (lb.flatMap encM).length = lb.length * 12 := flat_length encM_len lb
  have HLLA := Lib.hid hlla
  have HLLB := Lib.hid hllb
  clear hlla hllb
  go_wp2_with (at_builtin; refine wpList_append_src _ rfl (.tmp 40) (.tmp 41) 22 rfl w.heap.size 59 j0 _ 12 144 Try.underlying22 hj0 hy0 hy1 hy2 rfl (by decide) (.slice none 0 0) 0 [] rfl (World.ownsRow_nil _ _ _ _) A la.length ca (la.flatMap encM) rfl HNA.out HLLA.out HSA.out HONA.out (by unfold maxLen; omega) (by omega) HSZ5.out ?_)
  intro v6 w6 hown6 hg6 hat6
  have hu6 : Upd [] w5 w6 := (Upd.of_grown hg6).more (by simp [Value.ownBlock])
  obtain ⟨A6, c6, hv6, _⟩ := own_form hown6
  subst hv6
  try simp only [Nat.zero_add, List.nil_append] at hown6
  have HB6 := Lib.hid (HB5.out.trans (hu6.below (B := w.heap.size) HB5.out.size (by simp)))
  have HOX6 := Lib.hid (ownsRow_upd HOX5.out hu6 (by simp))
  have HOY6 := Lib.hid (ownsRow_upd HOY5.out hu6 (by simp))
  have HOW6 := Lib.hid hown6
  have HSB := Lib.hid ((HLB.out.below HB6.out (Nat.le_refl _)).src)
  have HSZ6 : Hid (w.heap.size ≤ w6.heap.size) := Lib.hid HB6.out.size
  clear hown6 hg6 hat6 hu6 HOX5 HOY5 HB5 HSA
  go_wp2_with (at_builtin; refine wpList_append_src _ rfl (.tmp 43) (.tmp 44) 22 rfl w.heap.size 59 j0 _ 12 144 Try.underlying22 hj0 hy0 hy1 hy2 rfl (by decide) (.slice A6 la.length c6) la.length (la.flatMap encM) rfl HOW6.out B lb.length cb (lb.flatMap encM) rfl HNB.out HLLB.out HSB.out HONB.out (by unfold maxLen; omega) (by omega) HSZ6.out ?_)
  intro v7 w7 hown7 hg7 hat7
  obtain ⟨A7, c7, hv7, _⟩ := own_form hown7
  subst hv7
  have hb7 := grown_upd HOW6.out hg7 HSZ6.out
  have HB7 := Lib.hid (HB6.out.trans hb7)
  have HOX7 := Lib.hid (ownsRow_upd HOX6.out (Upd.of_grown hg7) (row_apart HOX6.out HOW6.out (by decide)))
  have HOY7 := Lib.hid (ownsRow_upd HOY6.out (Upd.of_grown hg7) (row_apart HOY6.out HOW6.out (by decide)))
  have hfl : la.flatMap encM ++ lb.flatMap encM = (la ++ lb).flatMap encM := (List.flatMap_append).symm
  have hll : la.length + lb.length = (la ++ lb).length := (List.length_append).symm
  rw [hfl, hll] at hown7
  have HOW7 := Lib.hid hown7
  have HPL := Lib.hid (put_any (lo := 0) (cap := c7) ((CellsIn.of_own hown7).more (Nat.zero_le _) (Nat.le_refl _)) (fun x hx => by
    rcases List.mem_append.1 hx with hx | hx
    · exact ⟨(HMA.out x hx).1.below HB7.out, HOKA.out x hx⟩
    · exact ⟨(HMB.out x hx).1.below HB7.out, HOKB.out x hx⟩) (by rw [List.length_append]; omega))
  rw [← hll] at HPL
  clear hown7 hg7 hat7 hb7 hfl hll HOX6 HOY6 HB6 HSB HOW6
  go_wp2_with fail
  refine HPL.out.mono ?_
  rintro e w8 ⟨vz, rfl, hoz, hb8⟩
  obtain ⟨Az, cz, hvz, _⟩ := own_form hoz
  subst hvz
  obtain ⟨pg, hpg⟩ : ∃ pg, pg = (putM ((la ++ lb).map (·.1))).2 := ⟨_, rfl⟩
  rw [← hpg]
  have HPG := Lib.hid hpg
  have HB8 := Lib.hid (HB7.out.trans (hb8.mono HB7.out.size))
  have HOX8 := Lib.hid (ownsRow_upd HOX7.out (Upd.of_below (S := []) hb8) (by simp))
  have HOY8 := Lib.hid (ownsRow_upd HOY7.out (Upd.of_below (S := []) hb8) (by simp))
  have HOZ8 := Lib.hid hoz
  clear hpg hoz hb8 HPL HOX7 HOY7 HB7 HOW7 HMA HMB HLA HLB
  by_cases hpg0 : pg = 0
  rotate_left
  · have hpgb : (pg == 0) = false := beq_eq_false_iff_ne.2 hpg0
    by_cases hpe0 : pe = 0
    · by_cases hpf0 : pf = 0
      · go_wp2
        exact bodyPost_res (v := .bool true) (by simp [results, Try.results7, go_sem, hpg0, hpgb]) rfl ⟨rfl, HB8.out⟩
      · go_wp2
        exact bodyPost_res (v := .bool true) (by simp [results, Try.results7, go_sem, hpg0, hpgb]) rfl ⟨rfl, HB8.out⟩
    · go_wp2
      exact bodyPost_res (v := .bool true) (by simp [results, Try.results7, go_sem, hpg0, hpgb]) rfl ⟨rfl, HB8.out⟩
  subst hpg0
  obtain ⟨hiss, hle, hxs⟩ := putM_ok HPG.out.symm
  rw [List.map_append, List.flatMap_append] at hxs hle
  rw [List.map_append] at hiss
  have hisa : ∀ m, m ∈ la.map (·.1) → (bodyM m).is = true := fun m hm => hiss m (List.mem_append.2 (.inl hm))
  have hisb : ∀ m, m ∈ lb.map (·.1) → (bodyM m).is = true := fun m hm => hiss m (List.mem_append.2 (.inr hm))
  rw [List.length_append] at hle
  have hpa := putM_of hisa (by omega)
  have hpb := putM_of hisb (by omega)
  have hpe0 : pe = 0 := by rw [HPE.out, hpa]
  have hpf0 : pf = 0 := by rw [HPF.out, hpb]
  subst hpe0
  subst hpf0
  obtain ⟨X, hX⟩ : ∃ X, X = (la.map (·.1)).flatMap msgB := ⟨_, rfl⟩
  obtain ⟨Y, hY⟩ : ∃ Y, Y = (lb.map (·.1)).flatMap msgB := ⟨_, rfl⟩
  have hox := HOX8.out
  have hoy := HOY8.out
  have hoz := HOZ8.out
  rw [hpa] at hox
  rw [hpb] at hoy
  simp only [List.map_append] at hoz
  rw [List.map_append] at HPG
  rw [hxs] at hoz
  dsimp only at hox hoy
  rw [← hX] at hox hle
  rw [← hY] at hoy hle
  rw [← hX, ← hY] at hoz
  have hbyz : Byt (X ++ Y) := by
    intro z hz
    rcases List.mem_append.1 hz with hz | hz
    · exact msgsB_byt hisa z (by rw [← hX]; exact hz)
    · exact msgsB_byt hisb z (by rw [← hY]; exact hz)
  have hzX : (putM (la.map (·.1))).1 = X := by rw [hpa, hX]
  have hzY : (putM (lb.map (·.1))).1 = Y := by rw [hpb, hY]
  have hzZ : (putM ((la ++ lb).map (·.1))).1 = X ++ Y := by rw [List.map_append, hxs, ← hX, ← hY]
  rw [hzX, hzY, hzZ]
  have hrz := RowIn.of_own hoz
  have HPZ := Lib.hid (parse_any hrz (by dsimp only; rw [List.length_append]; omega) hbyz)
  have hXY : X ++ Y = ((la ++ lb).map (·.1)).flatMap msgB := by rw [List.map_append, List.flatMap_append, hX, hY]
  have hLL : (la ++ lb).length = la.length + lb.length := List.length_append
  have HRX := Lib.hid (RowIn.of_own hox)
  have HRY := Lib.hid (RowIn.of_own hoy)
  have HRZ := Lib.hid hrz
  have HBYZ := Lib.hid hbyz
  unfold encR at HPZ
  dsimp only at HPZ
  by_cases hn0 : la.length + lb.length = 0
  · have hla0 : la = [] := List.eq_nil_of_length_eq_zero (by omega)
    have hlb0 : lb = [] := List.eq_nil_of_length_eq_zero (by omega)
    have hX0 : X = [] := by rw [hX, hla0]; rfl
    have hY0 : Y = [] := by rw [hY, hlb0]; rfl
    subst hX0
    subst hY0
    have hpn : parseM ([] ++ [] : List Int) = ([], 10) := rfl
    rw [hpn] at HPZ
    dsimp only [List.nil_append, List.length_nil] at HPZ ⊢
    have hn0b : (((la.length + lb.length : Nat) : Int) == 0) = true := by rw [hn0]; rfl
    have hn0i : ((la.length : Int) + (lb.length : Int)) = 0 := by omega
    clear hX hY hox hoy hoz hrz hbyz hzX hzY hzZ hXY hxs hpa hpb hisa hisb hiss HRX HRY HRZ HBYZ HOX8 HOY8 HOZ8 HPE HPF HPG hpn hla0 hlb0
    go_wp2_with fail
    refine HPZ.out.mono ?_
    rintro e w9 ⟨v9, out9, rfl, _, _, _, hu9⟩
    have HB9 := Lib.hid (HB8.out.trans (hu9.below (B := w.heap.size) HB8.out.size (by simp)))
    clear hu9 HPZ
    go_wp2
    exact bodyPost_res (v := .bool true) (by simp [results, Try.results7, go_sem]) rfl ⟨rfl, HB9.out⟩
  have hne : (la ++ lb).map (·.1) ≠ [] := by
    intro h
    have := congrArg List.length h
    rw [List.length_map, hLL] at this
    exact hn0 this
  have hisz : ∀ m, m ∈ (la ++ lb).map (·.1) → (bodyM m).is = true := fun m hm => hiss m (by rwa [List.map_append] at hm)
  obtain ⟨hp2, hp1⟩ := parse_put hne hisz (by rw [← hXY, List.length_append]; omega)
  have hfour := put_four hisz
  have hisM := put_is hne hisz
  rw [← hXY] at hp1 hp2 hfour hisM
  rw [List.length_map, hLL] at hp1
  rw [hp2] at HPZ
  have HP1 := Lib.hid hp1
  have hn0b : (((la.length + lb.length : Nat) : Int) == 0) = false := beq_eq_false_iff_ne.2 (by omega)
  have hn0i : ¬ ((la.length : Int) + (lb.length : Int)) = 0 := by omega
  have hn0j : (((la.length : Int) + (lb.length : Int)) == 0) = false := beq_eq_false_iff_ne.2 hn0i
  clear hX hY hox hoy hoz hrz hbyz hzX hzY hzZ hXY hxs hpa hpb hisa hisb hiss HOX8 HOY8 HOZ8 HPE HPF HPG hp1 hp2 hne hisz hn0
  obtain ⟨LZ, hLZ⟩ : ∃ LZ, LZ = (X ++ Y).length := ⟨_, rfl⟩
  rw [← hLZ] at HPZ hfour ⊢
  have HLZ := Lib.hid hLZ
  have hLZb : LZ ≤ 1500 := by rw [hLZ, List.length_append]; omega
  clear hLZ
  go_wp2_with fail
  refine HPZ.out.mono ?_
  rintro e w9 ⟨v9, out9, rfl, hmap, hown9, _, hu9⟩
  have hol : out9.length = la.length + lb.length := by rw [← HP1.out, ← hmap, List.length_map]
  rw [hol] at hown9
  obtain ⟨A9, c9, hv9, _⟩ := own_form hown9
  subst hv9
  have HB9 := Lib.hid (HB8.out.trans (hu9.below (B := w.heap.size) HB8.out.size (by simp)))
  have hsx := str_of (HRX.out.upd2 hu9 (by simp))
  have hsy := str_of (HRY.out.upd2 hu9 (by simp))
  have hsz := str_of (HRZ.out.upd2 hu9 (by simp))
  have HIS := Lib.hid (is_any (HRZ.out.upd2 hu9 (by simp)) HBYZ.out)
  dsimp only at HIS
  rw [hisM] at HIS
  unfold encR at hsx hsy hsz HIS
  dsimp only at hsx hsy hsz HIS
  rw [str_app] at hsz
  have hf4' : ((LZ : Nat) : Int) % 4 = 0 := by omega
  have hf4 : Int.tmod ((LZ : Nat) : Int) 4 = 0 := by rw [Int.tmod_eq_emod_of_nonneg (by omega)]; exact hf4'
  rw [← HLZ.out] at hsz HIS
  have hadd := run_string_add_sum (P := Try.prog) (w := w9) (strOfNums X) (strOfNums Y) (by rw [strOfNums_size, strOfNums_size]; omega)
  clear hmap hown9 hu9 hol HRX HRY HRZ HBYZ HP1 HPZ hfour hisM HLZ
  go_wp2_with fail
  refine HIS.out.mono ?_
  rintro e w10 ⟨rfl, rfl⟩
  go_wp2
  exact bodyPost_res (v := .bool true) (by simp [results, Try.results7, go_sem]) rfl ⟨rfl, HB9.out⟩
end Go.Proofs.Ytgkejdjdccgjbaa
