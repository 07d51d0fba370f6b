/- PinsSafe: the walk. -/
import Derived.Test.YtembadjfialenaaPSafe
import Derived.Deep.DeepCutAuto
import Derived.Deep.LoopGhost
namespace Go.Proofs.Ytembadjfialenaa
open Go Go.RowKit
set_option maxHeartbeats 400000

theorem SafeAt.erow {w wr w1 : World} {N g lw ba bs bl n sw : Nat} {ws : List Wk} {wts : List Wt} {wv ve : Value} {es : List Int} (h : SafeAt w wr N g lw ba bs bl n ws wts wv ve es sw) (u1 : Upd (g :: wv.ownBlock.toList) wr w1) :
    w1.ownsRow N 30 1 ve es.length (es.map (Value.int .u64)) :=
  ownsRow_upd h.e u1 (fun s hs he => by
    have h3 := (own_block_lt h.e he).1
    rcases List.mem_cons.1 hs with e | h2
    · have := h.pa.is.gN; omega
    · exact h.ap s (by simpa using h2) he)

/-- while the workers are let go, one behind the other, on to the last epoch -/
structure Free (ws ws' : List Wk) (n q : Nat) : Prop where
  len : ws'.length = n
  low : ∀ i x, i < q → ws'[i]? = some x → x.at_ = 18446744073709551615 ∧ x.looks = false
  up : ∀ i, q ≤ i → ws'[i]? = ws[i]?
theorem Free.zero (ws : List Wk) (n : Nat) (h : ws.length = n) : Free ws ws n 0 := ⟨h, fun i x hi => absurd hi (Nat.not_lt_zero i), fun _ _ => rfl⟩
theorem Free.step {ws ws' : List Wk} {n q : Nat} {y : Wk} (h : Free ws ws' n q) (hq : q < n) (hy : y.looks = false) (h2 : y.at_ = 18446744073709551615) : Free ws (ws'.set q y) n (q + 1) := by
  refine ⟨by rw [List.length_set]; exact h.len, fun i x hi hx => ?_, fun i hi => ?_⟩
  · rw [List.getElem?_set] at hx
    split at hx
    · rename_i e
      subst e
      split at hx
      · obtain rfl := Option.some.inj hx; exact ⟨h2, hy⟩
      · cases hx
    · rename_i e
      exact h.low i x (by omega) hx
  · rw [List.getElem?_set_ne (by omega)]; exact h.up i (by omega)
theorem Free.oldest {ws ws' : List Wk} {n : Nat} (h : Free ws ws' n n) (hn : 1 ≤ n) : (18446744073709551615 : Int) ≤ oldest ws' := by
  refine le_oldest (by rw [h.len]; exact hn) (fun x hx => ?_)
  obtain ⟨i, hi, e⟩ := List.getElem_of_mem hx
  have := h.low i x (by rw [← h.len]; exact hi) (by rw [List.getElem?_eq_getElem hi, e])
  exact ⟨by omega, fun e => by rw [this.2] at e; cases e⟩
theorem mInstall_ok {ws : List Wk} {q : Nat} {x : Wk} {ep : Int} (h : ws[q]? = some x) (hx : x.at_ ≤ ep) : mInstall ws q ep = (ws.set q { x with at_ := ep }, 0) := by
  have hq : q < ws.length := (List.getElem?_eq_some_iff.1 h).1
  unfold mInstall
  rw [if_neg (by omega), Int.toNat_natCast, h]
  simp only []
  rw [if_neg (by omega)]
theorem mUnpin_ok {ws : List Wk} {q : Nat} {x : Wk} (h : ws[q]? = some x) (hx : x.looks = true) : mUnpin ws q = (ws.set q { x with looks := false }, 0) := by
  have hq : q < ws.length := (List.getElem?_eq_some_iff.1 h).1
  unfold mUnpin
  rw [if_neg (by omega), Int.toNat_natCast, h]
  simp only []
  rw [if_pos hx]
theorem own_cap {w : World} {B : Nat} {e : TypeId} {size n c : Nat} {A : Option Addr} {xs : List Value} (h : w.ownsRow B e size (.slice A n c) n xs) : c ≤ 9223372036854775807 := by
  rcases h.2 with ⟨hv, _⟩ | ⟨g, cap, cur, hv, _, _, _, hm, _⟩
  · injection hv with _ _ h3; omega
  · injection hv with _ _ h3; rw [h3]; exact hm
theorem swept_all {o : Int} {l : List Wt} (h : ∀ x ∈ l, x.ep ≤ o) : (l.flatMap (take1 o)).length = l.length ∧ l.filter (stay o) = [] := by
  have h1 : l.filter (stay o) = [] := List.filter_eq_nil_iff.2 (fun x hx => by have := h x hx; simp [stay]; omega)
  have h2 := count_swept o l
  rw [h1] at h2
  exact ⟨by simpa using h2, h1⟩

set_option maxHeartbeats 8000000 in
set_option maxRecDepth 100000 in
theorem safe_any (a0 : Int) (A : Option Addr) (len cap : Nat) (l : List PAct) (w : World) (h0 : 0 ≤ a0) (h1 : a0 ≤ 255) (hlen : len ≤ 9223372036854775807) (hll : l.length = len) (hl : Cells w w.heap.size 5 A len (l.flatMap encA)) (hwf : ∀ x ∈ l, 0 ≤ x.epoch ∧ x.epoch ≤ 18446744073709551615) :
    Calls Try.prog 4 #[.int .u8 a0, .slice A len cap] w fun e w' => e = .returned (.bool true) ∧ Below w.heap.size w w' := by
  have HL := Lib.hid hl
  have HLL := Lib.hid hll
  have HWF := Lib.hid hwf
  clear hl hll hwf
  by_cases hbig : 60 < (len : Int)
  · go_enter Try.func4, Try.ntmps4
    go_wp2_with fail
    refine (awake_any w).mono ?_
    rintro e w1 ⟨rfl, hu1⟩
    go_wp2
    go_ret
    exact ⟨rfl, hu1⟩
  · obtain ⟨m, hm⟩ : ∃ m : Nat, (m : Int) = a0 % 4 := ⟨(a0 % 4).toNat, by omega⟩
    have hm4 : m < 4 := by omega
    have hmod : a0 % 4 = (m : Int) := hm.symm
    clear hm
    have hmk := fun W : World => run_mk (P := Try.prog) 56 30 (.int .u64 0) 8 Try.underlying56 infoU rfl (m + 1) (by omega) (by omega) W
    have hmkb := fun W : World => run_mk (P := Try.prog) 57 4 (.bool false) 1 Try.underlying57 infoB rfl (m + 1) (by omega) (by omega) W
    rw [show ((m + 1 : Nat) : Int) = (m : Int) + 1 by omega] at hmk hmkb
    generalize hrz : (List.replicate (m + 1) (Value.int .u64 0)).toArray = rz at hmk
    generalize hrb : (List.replicate (m + 1) (Value.bool false)).toArray = rb at hmkb
    have HRZ := Lib.hid hrz
    have HRB := Lib.hid hrb
    clear hrz hrb
    go_enter Try.func4, Try.ntmps4
    go_wp2_with fail
    refine (awake_any w).mono ?_
    rintro e w1 ⟨rfl, hb1⟩
    go_wp2_with fail
    have hn := PA.new hb1 (m + 1) (by omega) (by omega)
    rw [show ((m + 1 : Nat) : Int) = (m : Int) + 1 by omega] at hn
    refine hn.mono ?_
    clear hn
    rintro e w2 ⟨g, lw, rfl, hp2, hu2⟩
    have HP2 := Lib.hid hp2
    clear hu2 hb1 hp2
    have HS0 : Hid (SafeAt w (((w2.alloc (.cells rz 30)).alloc (.cells rz 30)).alloc (.cells rb 4)) (w2.heap.size + 3) g lw w2.heap.size (w2.heap.size + 1) (w2.heap.size + 2) (m + 1) (List.replicate (m + 1) ⟨0, 0, false⟩) [] (.slice none 0 0) (.slice none 0 0) [] 0) := by
      have hp2 := HP2.out
      have hu : Upd [] w2 (((w2.alloc (.cells rz 30)).alloc (.cells rz 30)).alloc (.cells rb 4)) := (((Upd.refl [] w2).alloc _).alloc _).alloc _
      have hp3 := (hp2.upd hu).base (w2.heap.size + 3) (by omega) (by simp)
      have ha := ((Blk.new w2 30 rz).alloc (.cells rz 30)).alloc (.cells rb 4)
      have hb := (Blk.new (w2.alloc (.cells rz 30)) 30 rz).alloc (.cells rb 4)
      have hc := Blk.new ((w2.alloc (.cells rz 30)).alloc (.cells rz 30)) 4 rb
      simp only [World.size_alloc] at hb hc
      have hg := hp2.is.gN
      have hl := hp2.is.lN
      have hbs := hp2.below.size
      refine ⟨hp3, ⟨?_, ?_, ?_, by omega⟩, by simp, World.ownsRow_nil _ _ _ _, fun b hb => by simp [Value.ownBlock] at hb, rfl, by simp, ⟨fun x hx => ?_, by simp⟩, fun b hb => ?_⟩
      · rw [List.map_replicate, HRZ.out]; exact ha
      · rw [List.map_replicate, HRZ.out]; exact hb
      · rw [List.map_replicate, HRB.out]; exact hc
      · obtain rfl := List.eq_of_mem_replicate hx; decide
      · simp at hb; omega
    go_wp2
    obtain ⟨W3, hW3⟩ : ∃ W3, W3 = ((w2.alloc (.cells rz 30)).alloc (.cells rz 30)).alloc (.cells rb 4) := ⟨_, rfl⟩
    obtain ⟨ba, hba⟩ : ∃ ba, ba = w2.heap.size := ⟨_, rfl⟩
    obtain ⟨bs, hbs⟩ : ∃ bs, bs = w2.heap.size + 1 := ⟨_, rfl⟩
    obtain ⟨bl, hbl⟩ : ∃ bl, bl = w2.heap.size + 2 := ⟨_, rfl⟩
    obtain ⟨N, hN⟩ : ∃ N, N = w2.heap.size + 3 := ⟨_, rfl⟩
    have HS1 : Hid (SafeAt w W3 N g lw ba bs bl (m + 1) (List.replicate (m + 1) ⟨0, 0, false⟩) [] (.slice none 0 0) (.slice none 0 0) [] 0) := by show SafeAt _ _ _ _ _ _ _ _ _ _ _ _ _ _ _; rw [hW3, hba, hbs, hbl, hN]; exact HS0.out
    try rw [show w2.heap.size + 1 + 1 = w2.heap.size + 2 from rfl]
    rw [← hW3, ← hbl, ← hbs, ← hba]
    clear hW3 hba hbs hbl hN HS0 HP2 hmk hmkb HRZ HRB hmod
    go_loopg [11, 12, 13] len (fun gk x11 x12 x13 wr => ∃ (k : Nat) (ws : List Wk) (wts : List Wt) (wv : Value) (es : List Int) (sw : Nat), k ≤ len ∧ len ≤ k + gk ∧ x13 = .int .i64 k ∧ x12 = .int .i64 sw ∧ SafeAt w wr N g lw ba bs bl (m + 1) ws wts wv x11 es sw ∧ es.length ≤ k)
    case atStart => exact ⟨0, _, _, _, _, 0, Nat.zero_le _, by omega, rfl, rfl, HS1.out, Nat.le_refl _⟩
    case round =>
      obtain ⟨k, ws, wts, wv, es, sw, hk, hgk, rfl, rfl, hs, hek⟩ := hrel
      by_cases hlt : k < len
      · obtain ⟨b, off, x, rfl, hbB, hx, c0, c1, c2, c3, c4⟩ := act_at HL.out HLL.out k hlt
        have e0 := (hs.pa.below.cell (p := ⟨b, off + k * 5, none⟩) hbB).trans c0
        have e1 := (hs.pa.below.cell (p := ⟨b, off + k * 5 + 1, none⟩) hbB).trans c1
        have e2 := (hs.pa.below.cell (p := ⟨b, off + k * 5 + 2, none⟩) hbB).trans c2
        have hep := HWF.out x (List.mem_of_getElem? hx)
        have C2 := Lib.hid c2
        clear c0 c1 c2 c3 c4 hx
        obtain ⟨kind, worker, epoch, slot, turn⟩ := x
        dsimp only at e0 e1 e2 hep C2
        have HEP := Lib.hid hep
        have HS := Lib.hid hs
        clear hep hs
        obtain ⟨inn, hinn⟩ : ∃ inn : Bool, inn = (decide (0 ≤ worker) && decide (worker < (m : Int) + 1)) := ⟨_, rfl⟩
        have HIN := Lib.hid hinn
        clear hinn
        go_upto_region 17 with fail
        go_cut [15] (fun s15 wc => s15 = .bool inn ∧ wc = wr)
        case first =>
          by_cases hw0 : 0 ≤ worker
          · by_cases hw1 : worker < (m : Int) + 1
            · go_wp2
              go_meet
              case rel => exact ⟨by rw [HIN.out]; simp [hw0, hw1], rfl⟩
            · go_wp2
              go_meet
              case rel => exact ⟨by rw [HIN.out]; simp [hw1], rfl⟩
          · go_wp2
            go_meet
            case rel => exact ⟨by rw [HIN.out]; simp; intro h; omega, rfl⟩
        obtain ⟨rfl, rfl⟩ := hcut
        apply_assumption
        go_upto_region 18 with fail
        go_cut [65] (fun s65 wd => s65 = .int .i64 kind ∧ wd = wc)
        case first =>
          go_wp2
          go_meet
          case rel => exact ⟨rfl, rfl⟩
        obtain ⟨rfl, rfl⟩ := hcut
        apply_assumption
        go_cut [11] (fun s11 we => ∃ (ws : List Wk) (wts : List Wt) (wv : Value) (es : List Int), SafeAt w we N g lw ba bs bl (m + 1) ws wts wv s11 es sw ∧ es.length ≤ k + 1)
        case rest =>
         as_aux_lemma =>
          obtain ⟨ws1, wts1, wv1, es1, hs1, hek1⟩ := hcut
          obtain ⟨Ae, ce, rfl, _⟩ := own_form hs1.e
          have hc := Lib.hid hs1.sweep
          clear HS e0 e1 e2 HIN hs1 HS1 C2 HEP HL HLL HWF
          go_wp2_with fail
          refine hc.out.mono ?_
          rintro e w5 ⟨rv, wv5, wts5, outs, rfl, hs5, hr5, ho5, _⟩
          have HS5 := Lib.hid hs5
          have HO5 := Lib.hid ho5
          have HR5 := Lib.hid hr5
          obtain ⟨Ar, cr, rfl, hra⟩ := ref_at hr5
          have HRA := Lib.hid hra
          have hol : outs.length ≤ 60 := by have := hs5.cnt; omega
          clear hc hs5 ho5 hr5 hra
          go_wp2
          obtain ⟨gA, rfl⟩ : ∃ gA : Nat, gA = gk := ⟨gk, rfl⟩
          go_loopg [21] outs.length (fun gj x21 wx => ∃ j : Nat, j ≤ outs.length ∧ outs.length ≤ j + gj ∧ x21 = .int .i64 j ∧ w5 = wx)
          case atStart => exact ⟨0, Nat.zero_le _, by omega, rfl, rfl⟩
          case round =>
            obtain ⟨j, hj, hgj, rfl, rfl⟩ := hrel
            by_cases hlj : j < outs.length
            · obtain ⟨br, y, rfl, _, _, hy, r0, _⟩ := HRA.out j hlj
              obtain ⟨i, ep, hyi, hei, hlow⟩ := HO5.out y (List.mem_of_getElem? hy)
              rw [hyi] at r0
              have hil : i < es1.length := (List.getElem?_eq_some_iff.1 hei).1
              obtain ⟨A', c', hv', _, hA', _⟩ := own_form HS5.out.e
              injection hv' with e1 e2 e3
              subst e1
              subst e3
              obtain ⟨be, rfl, _, _⟩ := hA' (by omega)
              have q0 := HS5.out.e.cellAt i (by omega)
              rw [List.getElem?_map, hei] at q0
              simp only [Option.map_some] at q0
              have HLOW := Lib.hid hlow
              have hlt' : (i : Int) < (es1.length : Int) := by omega
              clear hlow hei hyi hy hA'
              go_wp2
              obtain ⟨gB, rfl⟩ : ∃ gB : Nat, gB = gk := ⟨gk, rfl⟩
              go_loopg [23] (m + 1) (fun gq x23 wx => ∃ q : Nat, q ≤ m + 1 ∧ m + 1 ≤ q + gq ∧ x23 = .int .i64 q ∧ w5 = wx)
              case atStart => exact ⟨0, Nat.zero_le _, by omega, rfl, rfl⟩
              case round =>
                obtain ⟨q, hq, hgq, rfl, rfl⟩ := hrel
                by_cases hlq : q < m + 1
                · have hql : q < ws1.length := by have := HS5.out.len; omega
                  obtain ⟨z, hz⟩ : ∃ z, ws1[q]? = some z := ⟨_, List.getElem?_eq_getElem hql⟩
                  obtain ⟨m0, m1, m2⟩ := HS5.out.mir.at hz
                  have hzl := HLOW.out z (List.mem_of_getElem? hz)
                  obtain ⟨za, zs, zl⟩ := z
                  dsimp only at m0 m1 m2 hzl
                  have hz1 : ¬ za < ep := by omega
                  have hlq' : (q : Int) < (m : Int) + 1 := by omega
                  clear hz
                  cases zl with
                  | false =>
                    clear hzl
                    go_wp2
                    go_roundg (gk - 1)
                    case measure => omega
                    case rel => exact ⟨q + 1, by omega, by omega, by simp, rfl⟩
                  | true =>
                    have hz2 : ¬ zs < ep := by have := hzl.2 rfl; omega
                    clear hzl
                    go_wp2
                    go_roundg (gk - 1)
                    case measure => omega
                    case rel => exact ⟨q + 1, by omega, by omega, by simp, rfl⟩
                · obtain rfl : q = m + 1 := by omega
                  go_wp2
                  go_roundg (gB - 1)
                  case measure => omega
                  case rel => exact ⟨j + 1, by omega, by omega, by simp, rfl⟩
            · obtain rfl : j = outs.length := by omega
              have hcw := Lib.hid HS5.out.pa.waiting
              have hcnt := HS5.out.cnt
              go_wp2_with fail
              refine hcw.out.mono ?_
              rintro e w6 ⟨rfl, rfl⟩
              go_wp2
              go_roundg (gA - 1)
              case measure => omega
              case rel => exact ⟨k + 1, ws1, wts5, wv5, es1, sw + outs.length, by omega, by omega, by simp, by simp, HS5.out, hek1⟩
        case first =>
          have hs := HS.out
          by_cases hk0 : kind = 0
          · as_aux_lemma =>
            subst hk0
            have hc := Lib.hid (hs.install worker epoch HEP.out.2)
            clear hs
            go_wp2_with fail
            refine hc.out.mono ?_
            rintro e w3 (⟨er, rfl, hne, hs3⟩ | ⟨rfl, hb3, i, x, rfl, hi, p0, f0, hs3⟩)
            · have HS3 := Lib.hid hs3
              have hne' : (er == 0) = false := by simpa using hne
              clear hc hs3 hne
              go_wp2
              go_meet
              case rel => exact ⟨_, _, _, _, HS3.out, by omega⟩
            · have HS3 := Lib.hid hs3
              obtain rfl : inn = true := by rw [HIN.out]; simp; omega
              have q2 := (hb3.cell (p := ⟨b, off + k * 5 + 2, none⟩) hbB).trans C2.out
              clear hc hs3
              go_wp2
              go_meet
              case rel => exact ⟨_, _, _, _, HS3.out, by omega⟩
          by_cases hk1 : kind = 1
          · as_aux_lemma =>
            subst hk1
            have hc := Lib.hid (hs.install worker epoch HEP.out.2)
            clear hs
            go_wp2_with fail
            refine hc.out.mono ?_
            rintro e w3 (⟨er, rfl, hne, hs3⟩ | ⟨rfl, hb3, i, x, rfl, hi, p0, f0, hs3⟩)
            · have HS3 := Lib.hid hs3
              have hne' : (er == 0) = false := by simpa using hne
              clear hc hs3 hne
              go_wp2
              go_meet
              case rel => exact ⟨_, _, _, _, HS3.out, by omega⟩
            · have HS3 := Lib.hid hs3
              obtain rfl : inn = true := by rw [HIN.out]; simp; omega
              have q2 := (hb3.cell (p := ⟨b, off + k * 5 + 2, none⟩) hbB).trans C2.out
              clear hc hs3
              go_wp2
              go_meet
              case rel => exact ⟨_, _, _, _, HS3.out, by omega⟩
          by_cases hk2 : kind = 2
          · as_aux_lemma =>
            subst hk2
            have hc := Lib.hid (hs.pin worker)
            clear hs
            go_wp2_with fail
            refine hc.out.mono ?_
            rintro e w3 (⟨er, rfl, hne, hs3⟩ | ⟨i, x, rfl, rfl, hi, p0, f0, p1, f1, hnb, hs3⟩)
            · have HS3 := Lib.hid hs3
              have hne' : (er == 0) = false := by simpa using hne
              clear hc hs3 hne
              go_wp2
              go_meet
              case rel => exact ⟨_, _, _, _, HS3.out, by omega⟩
            · have HS3 := Lib.hid hs3
              obtain rfl : inn = true := by rw [HIN.out]; simp; omega
              clear hc hs3
              go_wp2
              go_meet
              case rel => exact ⟨_, _, _, _, HS3.out, by omega⟩
          by_cases hk3 : kind = 3
          · as_aux_lemma =>
            subst hk3
            have hc := Lib.hid (hs.unpin worker)
            clear hs
            go_wp2_with fail
            refine hc.out.mono ?_
            rintro e w3 (⟨er, rfl, hne, hs3⟩ | ⟨rfl, i, x, rfl, hi, p0, f0, hs3⟩)
            · have HS3 := Lib.hid hs3
              have hne' : (er == 0) = false := by simpa using hne
              clear hc hs3 hne
              go_wp2
              go_meet
              case rel => exact ⟨_, _, _, _, HS3.out, by omega⟩
            · have HS3 := Lib.hid hs3
              obtain rfl : inn = true := by rw [HIN.out]; simp; omega
              clear hc hs3
              go_wp2
              go_meet
              case rel => exact ⟨_, _, _, _, HS3.out, by omega⟩
          as_aux_lemma =>
          have hc := hs.pa.retire es.length 0 epoch
          have hw64 : wts.length < 64 := by have := hs.cnt; omega
          rw [show mRetire wts ⟨es.length, 0, epoch⟩ = (wts ++ [⟨es.length, 0, epoch⟩], 0) by simp [mRetire]; omega] at hc
          have hc := Lib.hid hc
          obtain ⟨Ae, ce, hve, hce⟩ := own_form hs.e
          subst hve
          have hcm := own_cap hs.e
          clear hs hce
          go_wp2_with fail
          refine hc.out.mono ?_
          rintro e w3 ⟨rfl, wv3, hp3, hu3, hv3⟩
          have q2 := (hp3.below.cell (p := ⟨b, off + k * 5 + 2, none⟩) hbB).trans C2.out
          have ho3 := HS.out.erow hu3
          have HP3 := Lib.hid hp3
          have HU3 := Lib.hid hu3
          have HV3 := Lib.hid hv3
          have hNs := hp3.N
          obtain ⟨ys, hys⟩ : ∃ ys, ys = es.map (Value.int .u64) := ⟨_, rfl⟩
          rw [← hys] at ho3
          have HO3 := Lib.hid ho3
          have HYS := Lib.hid hys
          obtain ⟨i0, hi0, hz0, hz1, hz2⟩ := info_parts infoU
          clear hc hp3 hu3 hv3 ho3 hys
          go_wp2_with (at_builtin; refine wpList_append_own_at _ rfl (.tmp 77) (.tmp 83) 56 rfl N 30 i0 _ 1 8 Try.underlying56 hi0 hz0 hz1 hz2 rfl (by decide) _ es.length ys rfl (HO3.out.alloc _) ⟨w3.heap.size, 0, none⟩ 1 1 [.int .u64 epoch] rfl rfl ?u1 ?u2 ?u3 ?u4 ?u5 ?_)
          case u1 =>
            intro j u hj
            match j, hj with
            | 0, hj => simp at hj; subst hj; exact (Blk.new w3 30 #[.int .u64 epoch]).cell 0
          case u2 => intro u hu; simp at hu; subst hu; rfl
          case u3 => unfold maxLen; omega
          case u4 => omega
          case u5 => simp; omega
          intro v4 w4 hown4 hg4 _ hat4
          have HS4 := Lib.hid (HS.out.retired HEP.out.2 HP3.out HU3.out HV3.out (by rw [HYS.out] at hown4; exact hown4) hg4 (by rw [World.size_alloc]; exact hat4))
          clear hown4 hg4 hat4
          go_wp2
          go_meet
          case rel => exact ⟨_, _, _, _, HS4.out, by simp; omega⟩
      · as_aux_lemma =>
        obtain rfl : k = len := by omega
        obtain ⟨Ae, ce, hve, hce⟩ := own_form hs.e
        subst hve
        have HS := Lib.hid hs
        clear hs hce
        go_wp2
        go_loopg [24] (m + 1) (fun gq x24 wx => ∃ (q : Nat) (ws' : List Wk), q ≤ m + 1 ∧ m + 1 ≤ q + gq ∧ x24 = .int .i64 q ∧ PA w wx N g lw ws' wts wv ∧ Blk wx bl 4 (ws.map fun x => Value.bool x.looks).toArray ∧ Free ws ws' (m + 1) q)
        case atStart => exact ⟨0, ws, by omega, by omega, rfl, HS.out.pa, HS.out.mir.l, Free.zero _ _ HS.out.len⟩
        case round =>
          obtain ⟨q, ws', hq, hgq, rfl, hp, hbl, hf⟩ := hrel
          by_cases hlq : q < m + 1
          · have hql : q < ws'.length := by have := hf.len; omega
            obtain ⟨z, hz⟩ : ∃ z, ws'[q]? = some z := ⟨_, List.getElem?_eq_getElem hql⟩
            have hz0 := hf.up q (Nat.le_refl _)
            have hlk := hbl.cell q
            rw [show (ws.map fun x => Value.bool x.looks).toArray[q]? = some (.bool z.looks) by simp [← hz0, hz]] at hlk
            have hlq' : (q : Int) < (m : Int) + 1 := by omega
            have hza : z.at_ ≤ 18446744073709551615 := HS.out.wf.1 z (List.mem_of_getElem? (hz0.symm.trans hz))
            have hlwbl := (HS.out.lo bl (by simp)).2.2.2
            obtain ⟨za, zs, zl⟩ := z
            dsimp only at hlk hza
            have HF := Lib.hid hf
            have HBL := Lib.hid hbl
            have hqi : ¬ ((q : Int) < 0 ∨ (ws'.length : Int) ≤ (q : Int)) := by omega
            cases zl with
            | false =>
              have hc := hp.install q 18446744073709551615
              rw [mInstall_ok hz hza] at hc
              have hc := Lib.hid hc
              clear hp hz hz0 hf hbl hqi
              go_wp2_with fail
              refine hc.out.mono ?_
              rintro e w5 ⟨rfl, hp5, hu5⟩
              have HP5 := Lib.hid hp5
              have HB5 := Lib.hid (HBL.out.upd hu5 (by simpa using hlwbl))
              clear hc hp5 hu5
              go_wp2
              go_roundg (gk - 1)
              case measure => omega
              case rel => exact ⟨q + 1, _, by omega, by omega, by simp, HP5.out, HB5.out, HF.out.step hlq rfl rfl⟩
            | true =>
              have hc := hp.unpin q
              rw [mUnpin_ok hz rfl] at hc
              have hc := Lib.hid hc
              have hl2 : (ws'.set q (⟨za, zs, false⟩ : Wk))[q]? = some ⟨za, zs, false⟩ := by rw [List.getElem?_set_self hql]
              have HL2 := Lib.hid hl2
              clear hp hz hz0 hf hbl hqi hl2
              go_wp2_with fail
              refine hc.out.mono ?_
              rintro e w5 ⟨rfl, hp5, hu5⟩
              have HB5 := Lib.hid (HBL.out.upd hu5 (by simpa using hlwbl))
              have hc2 := hp5.install q 18446744073709551615
              rw [mInstall_ok HL2.out hza] at hc2
              rw [List.set_set] at hc2
              have hc2 := Lib.hid hc2
              clear hc hp5 hu5
              go_wp2_with fail
              refine hc2.out.mono ?_
              rintro e w6 ⟨rfl, hp6, hu6⟩
              have HP6 := Lib.hid hp6
              have HB6 := Lib.hid (HB5.out.upd hu6 (by simpa using hlwbl))
              clear hc2 hp6 hu6
              go_wp2
              go_roundg (gk - 1)
              case measure => omega
              case rel => exact ⟨q + 1, _, by omega, by omega, by simp, HP6.out, HB6.out, HF.out.step hlq rfl rfl⟩
          · obtain rfl : q = m + 1 := by omega
            have hold := hf.oldest (by omega)
            have hall := swept_all (o := oldest ws') (l := wts) (fun x hx => by
              obtain ⟨i, _, he⟩ := HS.out.each x hx
              have := HS.out.wf.2 x.ep (List.mem_of_getElem? he)
              omega)
            have hc := hp.sweep
            rw [hall.1, hall.2] at hc
            have hc := Lib.hid hc
            have hcnt := HS.out.cnt
            have hes := hek
            clear hp hbl hf hall hold
            go_wp2_with fail
            refine hc.out.mono ?_
            rintro e w5 ⟨rv, wv5, rfl, hp5, _, hr5, hu5⟩
            obtain ⟨Ar, cr, hrv, hrx⟩ := own_form hr5
            subst hrv
            have HP5 := Lib.hid hp5
            have hcw := Lib.hid hp5.waiting
            have hsum : ((wts.length : Int) + (sw : Int)) = (es.length : Int) := by omega
            have HBL := Lib.hid hp5.below
            clear hc hp5 hu5 hr5 hrx
            go_wp2_with fail
            refine hcw.out.mono ?_
            rintro e w6 ⟨rfl, rfl⟩
            go_wp2
            go_ret
            exact ⟨rfl, HBL.out⟩
end Go.Proofs.Ytembadjfialenaa
