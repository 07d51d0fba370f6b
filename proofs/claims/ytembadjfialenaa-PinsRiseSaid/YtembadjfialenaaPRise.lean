/- PinsRise: the walk. -/
import Derived.Test.YtembadjfialenaaPBounds
import Derived.Test.YtembadjfialenaaPPlain
namespace Go.Proofs.Ytembadjfialenaa
open Go Go.RowKit
set_option maxHeartbeats 400000

set_option maxRecDepth 100000 in
theorem rise_any (a0 : Int) (A : Option Addr) (len cap : Nat) (l : List PAct) (w : World) (h0 : 0 ≤ a0) (h1 : a0 ≤ 255) (hlen : len ≤ 9223372036854775807) (hll : l.length = len) (hl : Cells w w.heap.size 5 A len (l.flatMap encA)) :
    Calls Try.prog 6 #[.int .u8 a0, .slice A len cap] w fun e w' => e = .returned (.bool true) ∧ Below w.heap.size w w' := by
  have HL := Lib.hid hl
  have HLL := Lib.hid hll
  clear hl hll
  by_cases hbig : 200 < (len : Int)
  · go_enter Try.func6, Try.ntmps6
    go_wp2_with fail
    refine (awake_any w).mono ?_
    rintro e w1 ⟨rfl, hu1⟩
    go_wp2
    go_ret
    exact ⟨rfl, hu1⟩
  · obtain ⟨m, hm⟩ : ∃ m : Nat, (m : Int) = a0 % 4 := ⟨(a0 % 4).toNat, by omega⟩
    have hm4 : m < 4 := by omega
    have hmod : a0 % 4 = (m : Int) := hm.symm
    clear hm
    go_enter Try.func6, Try.ntmps6
    go_wp2_with fail
    refine (awake_any w).mono ?_
    rintro e w1 ⟨rfl, hb1⟩
    go_wp2_with fail
    have hn := PA.new hb1 (m + 1) (by omega) (by omega)
    rw [show ((m + 1 : Nat) : Int) = (m : Int) + 1 by omega] at hn
    refine hn.mono ?_
    clear hn
    rintro e w2 ⟨g, lw, rfl, hp2, hu2⟩
    generalize hN : w2.heap.size = N at hp2
    have HP2 := Lib.hid hp2
    clear hu2 hb1 hp2 hN
    have hz : oldest (List.replicate (m + 1) (⟨0, 0, false⟩ : Wk)) = 0 := by
      obtain rfl | rfl | rfl | rfl : m = 0 ∨ m = 1 ∨ m = 2 ∨ m = 3 := by omega
      all_goals rfl
    have HZ := Lib.hid hz
    clear hz
    go_wp2
    go_loopw [7, 8] (fun x7 x8 wr => ∃ (k : Nat) (ws : List Wk) (wts : List Wt) (wv : Value), k ≤ len ∧ x8 = .int .i64 k ∧ x7 = .int .u64 (oldest ws) ∧ PA w wr N g lw ws wts wv) (fun _ x8 _ => len - (intOf x8).toNat)
    case atStart => exact ⟨0, _, _, _, Nat.zero_le _, rfl, by rw [HZ.out], HP2.out⟩
    case round =>
      obtain ⟨k, ws, wts, wv, hk, rfl, rfl, hp⟩ := hrel
      obtain ⟨o, ho⟩ : ∃ o, o = oldest ws := ⟨_, rfl⟩
      rw [← ho]
      by_cases hlt : k < len
      · obtain ⟨b, off, x, rfl, hbB, hx, c0, c1, c2, c3, c4⟩ := act_at HL.out HLL.out k hlt
        have e0 := (hp.below.cell (p := ⟨b, off + k * 5, none⟩) hbB).trans c0
        have e1 := (hp.below.cell (p := ⟨b, off + k * 5 + 1, none⟩) hbB).trans c1
        have e2 := (hp.below.cell (p := ⟨b, off + k * 5 + 2, none⟩) hbB).trans c2
        have e3 := (hp.below.cell (p := ⟨b, off + k * 5 + 3, none⟩) hbB).trans c3
        have e4 := (hp.below.cell (p := ⟨b, off + k * 5 + 4, none⟩) hbB).trans c4
        clear c0 c1 c2 c3 c4 hx
        obtain ⟨kind, worker, epoch, slot, turn⟩ := x
        dsimp only at e0 e1 e2 e3 e4
        have hB := Blk.new wr 35 #[.int .i64 kind, .int .i64 worker, .int .u64 epoch, .int .i64 slot, .int .u32 turn]
        have hpb := hp.upd ((Upd.refl [] wr).alloc (.cells #[.int .i64 kind, .int .i64 worker, .int .u64 epoch, .int .i64 slot, .int .u32 turn] 35))
        have HPR := Lib.hid hp
        clear hp
        have d0 := hB.cell 0
        have d1 := hB.cell 1
        have d2 := hB.cell 2
        have d3 := hB.cell 3
        have d4 := hB.cell 4
        simp only [List.getElem?_toArray, List.getElem?_cons_zero, List.getElem?_cons_succ] at d0 d1 d2 d3 d4
        by_cases hk0 : kind = 0
        · subst hk0
          have hr := rise_install hpb.is.n1 worker epoch
          have hc := hpb.install worker epoch
          generalize (mInstall ws worker epoch).1 = ws' at hr hc
          generalize (mInstall ws worker epoch).2 = er at hc
          have hc := Lib.hid hc
          rw [← ho] at hr
          clear hpb ho hB
          go_wp2_with fail
          refine hc.out.mono ?_
          rintro e w4 ⟨rfl, hp4, hu4⟩
          have HP := Lib.hid hp4
          clear hc hp4 hu4 d0 d1 d2 d3 d4
          have hc := HP.out.oldest
          obtain ⟨o', ho'⟩ : ∃ o', o' = oldest ws' := ⟨_, rfl⟩
          rw [← ho'] at hc hr
          have HO' := Lib.hid ho'
          have hc := Lib.hid hc
          clear ho'
          go_wp2_with fail
          refine hc.out.mono ?_
          rintro e w5 ⟨rfl, hp5, hu5⟩
          have HP5 := Lib.hid hp5
          clear hc hp5 hu5
          go_wp2
          go_roundw
          case rel => exact ⟨k + 1, ws', _, _, by omega, by simp, by rw [HO'.out], HP5.out⟩
          case measure => simp [intOf]; omega
        by_cases hk1 : kind = 1
        · subst hk1
          have hr := rise_install hpb.is.n1 worker epoch
          have hc := hpb.install worker epoch
          generalize (mInstall ws worker epoch).1 = ws' at hr hc
          generalize (mInstall ws worker epoch).2 = er at hc
          have hc := Lib.hid hc
          rw [← ho] at hr
          clear hpb ho hB
          go_wp2_with fail
          refine hc.out.mono ?_
          rintro e w4 ⟨rfl, hp4, hu4⟩
          have HP := Lib.hid hp4
          clear hc hp4 hu4 d0 d1 d2 d3 d4
          have hc := HP.out.oldest
          obtain ⟨o', ho'⟩ : ∃ o', o' = oldest ws' := ⟨_, rfl⟩
          rw [← ho'] at hc hr
          have HO' := Lib.hid ho'
          have hc := Lib.hid hc
          clear ho'
          go_wp2_with fail
          refine hc.out.mono ?_
          rintro e w5 ⟨rfl, hp5, hu5⟩
          have HP5 := Lib.hid hp5
          clear hc hp5 hu5
          go_wp2
          go_roundw
          case rel => exact ⟨k + 1, ws', _, _, by omega, by simp, by rw [HO'.out], HP5.out⟩
          case measure => simp [intOf]; omega
        by_cases hk2 : kind = 2
        · subst hk2
          have hr := rise_pin hpb.is.n1 worker
          have hc := hpb.pin worker
          generalize (mPin ws worker).1 = ws' at hr hc
          generalize (mPin ws worker).2.1 = er at hc
          generalize (mPin ws worker).2.2 = es at hc
          have hc := Lib.hid hc
          rw [← ho] at hr
          clear hpb ho hB
          go_wp2_with fail
          refine hc.out.mono ?_
          rintro e w4 ⟨rfl, hp4, hu4⟩
          have HP := Lib.hid hp4
          clear hc hp4 hu4 d0 d1 d2 d3 d4
          have hc := HP.out.oldest
          obtain ⟨o', ho'⟩ : ∃ o', o' = oldest ws' := ⟨_, rfl⟩
          rw [← ho'] at hc hr
          have HO' := Lib.hid ho'
          have hc := Lib.hid hc
          clear ho'
          go_wp2_with fail
          refine hc.out.mono ?_
          rintro e w5 ⟨rfl, hp5, hu5⟩
          have HP5 := Lib.hid hp5
          clear hc hp5 hu5
          go_wp2
          go_roundw
          case rel => exact ⟨k + 1, ws', _, _, by omega, by simp, by rw [HO'.out], HP5.out⟩
          case measure => simp [intOf]; omega
        by_cases hk3 : kind = 3
        · subst hk3
          have hr := rise_unpin hpb.is.n1 worker
          have hc := hpb.unpin worker
          generalize (mUnpin ws worker).1 = ws' at hr hc
          generalize (mUnpin ws worker).2 = er at hc
          have hc := Lib.hid hc
          rw [← ho] at hr
          clear hpb ho hB
          go_wp2_with fail
          refine hc.out.mono ?_
          rintro e w4 ⟨rfl, hp4, hu4⟩
          have HP := Lib.hid hp4
          clear hc hp4 hu4 d0 d1 d2 d3 d4
          have hc := HP.out.oldest
          obtain ⟨o', ho'⟩ : ∃ o', o' = oldest ws' := ⟨_, rfl⟩
          rw [← ho'] at hc hr
          have HO' := Lib.hid ho'
          have hc := Lib.hid hc
          clear ho'
          go_wp2_with fail
          refine hc.out.mono ?_
          rintro e w5 ⟨rfl, hp5, hu5⟩
          have HP5 := Lib.hid hp5
          clear hc hp5 hu5
          go_wp2
          go_roundw
          case rel => exact ⟨k + 1, ws', _, _, by omega, by simp, by rw [HO'.out], HP5.out⟩
          case measure => simp [intOf]; omega
        have HO := Lib.hid ho
        clear ho
        have hbs : wv.ownBlock ≠ some wr.heap.size := fun e => by have := (HPR.out.is.foot e).2; omega
        have hgs : g < wr.heap.size := by have := HPR.out.is.gN; have := HPR.out.N; omega
        have hls : lw < wr.heap.size := by have := HPR.out.is.lN; have := HPR.out.N; omega
        obtain ⟨bx, hbx⟩ : ∃ bx, bx = wr.heap.size := ⟨_, rfl⟩
        have HBX := Lib.hid hbx
        have hc := hpb.retire slot turn epoch
        by_cases hfull : wts.length = 64
        · rw [show mRetire wts ⟨slot, turn, epoch⟩ = (wts, 20) by simp [mRetire, hfull]] at hc
          have hc := Lib.hid hc
          rw [← hbx] at hB hgs hbs
          clear hpb hbx
          have HBB := Lib.hid hB
          go_wp2_with fail
          rw [← HBX.out]
          refine hc.out.mono ?_
          rintro e w4 ⟨rfl, wv4, hp4, hu4, _⟩
          dsimp only at hp4 ⊢
          have hc := hp4.sweep
          rw [← HO.out] at hc
          have hc := Lib.hid hc
          clear hp4 hu4 d0 d1 d2 d3 d4 hB
          go_wp2_with fail
          refine hc.out.mono ?_
          rintro e w5 ⟨rv, wv5, rfl, hp5, _, hr5, hu5⟩
          have HP := Lib.hid hp5
          clear hc hp5 hu5 hr5
          go_wp2_with fail
          go_quiet (fail)
          have hc := (HP.out.drewN nq).oldest
          rw [← HO.out] at hc
          have hc := Lib.hid hc
          go_wp2_with fail
          refine hc.out.mono ?_
          rintro e w6 ⟨rfl, hp6, hu6⟩
          have HP6 := Lib.hid hp6
          clear hc hp6 hu6
          go_wp2
          go_roundw
          case rel => exact ⟨k + 1, ws, _, _, by omega, by simp, by rw [HO.out], HP6.out⟩
          case measure => simp [intOf]; omega
        rw [show mRetire wts ⟨slot, turn, epoch⟩ = (wts ++ [⟨slot, turn, epoch⟩], 0) by simp [mRetire, hfull]] at hc
        have hc := Lib.hid hc
        rw [← hbx] at hB hgs hbs hls
        clear hpb hbx
        have HBB := Lib.hid hB
        go_wp2_with fail
        rw [← HBX.out]
        refine hc.out.mono ?_
        rintro e w4 ⟨rfl, wv4, hp4, hu4, hf4⟩
        have hB4 := HBB.out.upd hu4 (fun hm => by
          rcases List.mem_cons.1 hm with e | e
          · omega
          · exact hbs (by simpa using e))
        dsimp only at hp4 ⊢
        have hc := hp4.sweep
        rw [← HO.out] at hc
        have hb4 : wv4.ownBlock ≠ some bx := fun e => by
          rcases hf4 _ e with h | h
          · exact hbs h
          · have := HBX.out; simp at h; omega
        have hc := Lib.hid hc
        clear hp4 hu4 d0 d1 d2 d3 d4 hB hf4
        go_wp2_with fail
        refine hc.out.mono ?_
        rintro e w5 ⟨rv, wv5, rfl, hp5, _, hr5, hu5⟩
        have hB5 := hB4.upd hu5 (fun hm => by
          rcases List.mem_cons.1 hm with e | e
          · omega
          · exact hb4 (by simpa using e))
        have d2 := hB5.cell 2
        have d3 := hB5.cell 3
        have d4 := hB5.cell 4
        simp only [List.getElem?_toArray, List.getElem?_cons_zero, List.getElem?_cons_succ] at d2 d3 d4
        have HP := Lib.hid hp5
        clear hc hp5 hu5 hB4 hB5
        by_cases hle : epoch ≤ o
        · rw [show (wts ++ [(⟨slot, turn, epoch⟩ : Wt)]).flatMap (take1 o) = wts.flatMap (take1 o) ++ [(slot, turn)] by rw [List.flatMap_append]; simp [take1, hle], List.length_append, List.length_singleton] at hr5
          have hq : (wts.flatMap (take1 o)).length ≤ 64 := by have := take1_few o wts; have := HPR.out.is.few; omega
          generalize wts.flatMap (take1 o) = pre at hr5 hq
          obtain ⟨A5, c5, rfl, hat⟩ := ref_at hr5
          obtain ⟨b5, y, rfl, _, _, hy, r0, r1⟩ := hat pre.length (by omega)
          obtain rfl : (slot, turn) = y := by simpa using hy
          dsimp only at r0 r1
          clear hat hy hr5
          generalize pre.length = q at r0 r1 hq ⊢
          have hw : IntKind.i64.wrap (q : Int) = q := IntWalk.i64_in _ (by omega)
          have hz0 : ((q : Int) + 1 == 0) = false := by simp; omega
          go_wp2_with fail
          go_quiet (fail)
          have hc := (HP.out.drewN nq).oldest
          rw [← HO.out] at hc
          have hc := Lib.hid hc
          go_wp2_with fail
          refine hc.out.mono ?_
          rintro e w6 ⟨rfl, hp6, hu6⟩
          have HP6 := Lib.hid hp6
          clear hc hp6 hu6
          go_wp2
          go_roundw
          case rel => exact ⟨k + 1, ws, _, _, by omega, by simp, by rw [HO.out], HP6.out⟩
          case measure => simp [intOf]; omega
        · have hle2 : decide (epoch ≤ o) = false := by simp; omega
          generalize (List.flatMap (take1 o) _).length = q at hr5
          obtain ⟨A5, c5, rfl, _⟩ := ref_at hr5
          clear hr5
          go_wp2_with fail
          go_quiet (fail)
          have hc := (HP.out.drewN nq).oldest
          rw [← HO.out] at hc
          have hc := Lib.hid hc
          go_wp2_with fail
          refine hc.out.mono ?_
          rintro e w6 ⟨rfl, hp6, hu6⟩
          have HP6 := Lib.hid hp6
          clear hc hp6 hu6
          go_wp2
          go_roundw
          case rel => exact ⟨k + 1, ws, _, _, by omega, by simp, by rw [HO.out], HP6.out⟩
          case measure => simp [intOf]; omega
      · have hkl : k = len := by omega
        subst hkl
        have HB := Lib.hid hp.below
        clear ho hp
        go_wp2
        go_ret
        exact ⟨rfl, HB.out⟩
end Go.Proofs.Ytembadjfialenaa
