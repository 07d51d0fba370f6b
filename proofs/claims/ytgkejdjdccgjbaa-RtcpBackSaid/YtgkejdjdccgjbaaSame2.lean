/- The laws' 'same': two rows of the same messages. Conditions: rows no longer than 100000. (Written by wip/gen/rtcpsame2.py.) -/
import Derived.Test.YtgkejdjdccgjbaaSame
import Derived.Test.YtgkejdjdccgjbaaPut
namespace Go.Proofs.Ytgkejdjdccgjbaa
open Go Go.RowKit
set_option maxHeartbeats 400000

/-- a message's rows in memory, as the document has it, none of them long -/
structure RfC (w : World) (m : Mg) (h : Hd) : Prop where
  cr : CellsIn w 0 w.heap.size 7 h.rA m.reports.length (m.reports.flatMap encRep)
  cw : CellsIn w 0 w.heap.size 1 h.wA m.who.length (m.who.flatMap encW)
  cp : CellsIn w 0 w.heap.size 2 h.pA m.pairs.length (m.pairs.flatMap encI)
  ca : CellsIn w 0 w.heap.size 2 h.aA m.asks.length (m.asks.flatMap encAsk)
  nl : m.reports.length ≤ 100000 ∧ m.who.length ≤ 100000 ∧ m.pairs.length ≤ 100000 ∧ m.asks.length ≤ 100000
theorem RfC.same {w w' : World} {m : Mg} {h : Hd} (k : RfC w m h) (u : Upd [] w w') : RfC w' m h :=
  ⟨(k.cr.upd2 u (Nat.le_refl _) (by simp)).more (Nat.le_refl _) u.size, (k.cw.upd2 u (Nat.le_refl _) (by simp)).more (Nat.le_refl _) u.size, (k.cp.upd2 u (Nat.le_refl _) (by simp)).more (Nat.le_refl _) u.size, (k.ca.upd2 u (Nat.le_refl _) (by simp)).more (Nat.le_refl _) u.size, k.nl⟩
theorem same_msg {w : World} {m : Mg} {h1 h2 : Hd} (k1 : RfC w m h1) (k2 : RfC w m h2) : Calls Try.prog 21 #[.agg (mcells m h1).toArray, .agg (mcells m h2).toArray] w fun e w' => e = .returned (.bool true) ∧ Upd [] w w' :=
  same_any m.kind m.ssrc m.media m.clock m.time m.packets m.bytes m.type m.reports m.who m.pairs m.asks h1.rA h1.wA h1.pA h1.aA h2.rA h2.wA h2.pA h2.aA h1.rc h1.wc h1.pc h1.ac h2.rc h2.wc h2.pc h2.ac k1.nl k1.cr k2.cr k1.cw k2.cw k1.cp k2.cp k1.ca k2.ca
set_option maxRecDepth 100000 in
set_option maxHeartbeats 3000000 in
theorem same_rows {w : World} {A B : Option Addr} {ca cb : Nat} {xs ys : List (Mg × Hd)} (hx : CellsIn w 0 w.heap.size 12 A xs.length (xs.flatMap encM)) (hy : CellsIn w 0 w.heap.size 12 B ys.length (ys.flatMap encM)) (he : xs.map (·.1) = ys.map (·.1)) (hl : xs.length ≤ 100000)
    (rx : ∀ x, x ∈ xs → RfC w x.1 x.2) (ry : ∀ x, x ∈ ys → RfC w x.1 x.2) : Calls Try.prog 16 #[.slice A xs.length ca, .slice B ys.length cb] w fun e w' => e = .returned (.bool true) ∧ Upd [] w w' := by
  have hle : ys.length = xs.length := by have := congrArg List.length he; simpa using this.symm
  have HX := Lib.hid hx
  have HY := Lib.hid hy
  have HE := Lib.hid he
  have RX := Lib.hid rx
  have RY := Lib.hid ry
  obtain ⟨n, hn⟩ : ∃ n, n = xs.length := ⟨_, rfl⟩
  rw [hle, ← hn]
  rw [← hn] at hl
  have HLE := Lib.hid hle
  have HNN := Lib.hid hn
  clear hx hy he rx ry hle hn
  go_enter Try.func16, Try.ntmps16
  go_wp2
  go_loopg [5] n (fun gk x wr => ∃ (i : Nat), i ≤ n ∧ n ≤ i + gk ∧ x = .int .i64 i ∧ Upd [] w wr)
  case atStart => exact ⟨0, Nat.zero_le _, by omega, rfl, Upd.refl _ _⟩
  case round =>
    obtain ⟨i, hi, hgi, rfl, hu⟩ := hrel
    by_cases hlt : i < n
    · obtain ⟨x, hxi⟩ : ∃ p, xs[i]? = some p := ⟨_, List.getElem?_eq_getElem (by rw [← HNN.out]; exact hlt)⟩
      obtain ⟨y, hyi⟩ : ∃ p, ys[i]? = some p := ⟨_, List.getElem?_eq_getElem (by rw [HLE.out, ← HNN.out]; exact hlt)⟩
      have hxy : x.1 = y.1 := by
        have h1 : (xs.map (·.1))[i]? = some x.1 := by rw [List.getElem?_map, hxi]; rfl
        have h2 : (ys.map (·.1))[i]? = some y.1 := by rw [List.getElem?_map, hyi]; rfl
        rw [HE.out, h2] at h1
        exact (Option.some.inj h1).symm
      have kx := RX.out x (List.mem_of_getElem? hxi)
      have ky := RY.out y (List.mem_of_getElem? hyi)
      obtain ⟨b1, o1, rfl, _, hb1, hcc⟩ := HX.out.2 (by rw [← HNN.out]; omega)
      obtain ⟨b2, o2, rfl, _, hb2, hdd⟩ := HY.out.2 (by rw [HLE.out, ← HNN.out]; omega)
      have c0 : ∀ z : Cls (Upd [] wr), z.w.cell? ⟨b1, o1 + (i * 12 + 0), none⟩ = _ := fun z => (((hu.next z.h).cell (p := ⟨b1, o1 + (i * 12 + 0), none⟩) hb1 (by simp)).trans (hcc (i * 12 + 0) _ (flat_get encM_len xs i 0 x hxi (by omega))))
      have d0 : ∀ z : Cls (Upd [] wr), z.w.cell? ⟨b2, o2 + (i * 12 + 0), none⟩ = _ := fun z => (((hu.next z.h).cell (p := ⟨b2, o2 + (i * 12 + 0), none⟩) hb2 (by simp)).trans (hdd (i * 12 + 0) _ (flat_get encM_len ys i 0 y hyi (by omega))))
      have c1 : ∀ z : Cls (Upd [] wr), z.w.cell? ⟨b1, o1 + (i * 12 + 1), none⟩ = _ := fun z => (((hu.next z.h).cell (p := ⟨b1, o1 + (i * 12 + 1), none⟩) hb1 (by simp)).trans (hcc (i * 12 + 1) _ (flat_get encM_len xs i 1 x hxi (by omega))))
      have d1 : ∀ z : Cls (Upd [] wr), z.w.cell? ⟨b2, o2 + (i * 12 + 1), none⟩ = _ := fun z => (((hu.next z.h).cell (p := ⟨b2, o2 + (i * 12 + 1), none⟩) hb2 (by simp)).trans (hdd (i * 12 + 1) _ (flat_get encM_len ys i 1 y hyi (by omega))))
      have c2 : ∀ z : Cls (Upd [] wr), z.w.cell? ⟨b1, o1 + (i * 12 + 2), none⟩ = _ := fun z => (((hu.next z.h).cell (p := ⟨b1, o1 + (i * 12 + 2), none⟩) hb1 (by simp)).trans (hcc (i * 12 + 2) _ (flat_get encM_len xs i 2 x hxi (by omega))))
      have d2 : ∀ z : Cls (Upd [] wr), z.w.cell? ⟨b2, o2 + (i * 12 + 2), none⟩ = _ := fun z => (((hu.next z.h).cell (p := ⟨b2, o2 + (i * 12 + 2), none⟩) hb2 (by simp)).trans (hdd (i * 12 + 2) _ (flat_get encM_len ys i 2 y hyi (by omega))))
      have c3 : ∀ z : Cls (Upd [] wr), z.w.cell? ⟨b1, o1 + (i * 12 + 3), none⟩ = _ := fun z => (((hu.next z.h).cell (p := ⟨b1, o1 + (i * 12 + 3), none⟩) hb1 (by simp)).trans (hcc (i * 12 + 3) _ (flat_get encM_len xs i 3 x hxi (by omega))))
      have d3 : ∀ z : Cls (Upd [] wr), z.w.cell? ⟨b2, o2 + (i * 12 + 3), none⟩ = _ := fun z => (((hu.next z.h).cell (p := ⟨b2, o2 + (i * 12 + 3), none⟩) hb2 (by simp)).trans (hdd (i * 12 + 3) _ (flat_get encM_len ys i 3 y hyi (by omega))))
      have c4 : ∀ z : Cls (Upd [] wr), z.w.cell? ⟨b1, o1 + (i * 12 + 4), none⟩ = _ := fun z => (((hu.next z.h).cell (p := ⟨b1, o1 + (i * 12 + 4), none⟩) hb1 (by simp)).trans (hcc (i * 12 + 4) _ (flat_get encM_len xs i 4 x hxi (by omega))))
      have d4 : ∀ z : Cls (Upd [] wr), z.w.cell? ⟨b2, o2 + (i * 12 + 4), none⟩ = _ := fun z => (((hu.next z.h).cell (p := ⟨b2, o2 + (i * 12 + 4), none⟩) hb2 (by simp)).trans (hdd (i * 12 + 4) _ (flat_get encM_len ys i 4 y hyi (by omega))))
      have c5 : ∀ z : Cls (Upd [] wr), z.w.cell? ⟨b1, o1 + (i * 12 + 5), none⟩ = _ := fun z => (((hu.next z.h).cell (p := ⟨b1, o1 + (i * 12 + 5), none⟩) hb1 (by simp)).trans (hcc (i * 12 + 5) _ (flat_get encM_len xs i 5 x hxi (by omega))))
      have d5 : ∀ z : Cls (Upd [] wr), z.w.cell? ⟨b2, o2 + (i * 12 + 5), none⟩ = _ := fun z => (((hu.next z.h).cell (p := ⟨b2, o2 + (i * 12 + 5), none⟩) hb2 (by simp)).trans (hdd (i * 12 + 5) _ (flat_get encM_len ys i 5 y hyi (by omega))))
      have c6 : ∀ z : Cls (Upd [] wr), z.w.cell? ⟨b1, o1 + (i * 12 + 6), none⟩ = _ := fun z => (((hu.next z.h).cell (p := ⟨b1, o1 + (i * 12 + 6), none⟩) hb1 (by simp)).trans (hcc (i * 12 + 6) _ (flat_get encM_len xs i 6 x hxi (by omega))))
      have d6 : ∀ z : Cls (Upd [] wr), z.w.cell? ⟨b2, o2 + (i * 12 + 6), none⟩ = _ := fun z => (((hu.next z.h).cell (p := ⟨b2, o2 + (i * 12 + 6), none⟩) hb2 (by simp)).trans (hdd (i * 12 + 6) _ (flat_get encM_len ys i 6 y hyi (by omega))))
      have c7 : ∀ z : Cls (Upd [] wr), z.w.cell? ⟨b1, o1 + (i * 12 + 7), none⟩ = _ := fun z => (((hu.next z.h).cell (p := ⟨b1, o1 + (i * 12 + 7), none⟩) hb1 (by simp)).trans (hcc (i * 12 + 7) _ (flat_get encM_len xs i 7 x hxi (by omega))))
      have d7 : ∀ z : Cls (Upd [] wr), z.w.cell? ⟨b2, o2 + (i * 12 + 7), none⟩ = _ := fun z => (((hu.next z.h).cell (p := ⟨b2, o2 + (i * 12 + 7), none⟩) hb2 (by simp)).trans (hdd (i * 12 + 7) _ (flat_get encM_len ys i 7 y hyi (by omega))))
      have c8 : ∀ z : Cls (Upd [] wr), z.w.cell? ⟨b1, o1 + (i * 12 + 8), none⟩ = _ := fun z => (((hu.next z.h).cell (p := ⟨b1, o1 + (i * 12 + 8), none⟩) hb1 (by simp)).trans (hcc (i * 12 + 8) _ (flat_get encM_len xs i 8 x hxi (by omega))))
      have d8 : ∀ z : Cls (Upd [] wr), z.w.cell? ⟨b2, o2 + (i * 12 + 8), none⟩ = _ := fun z => (((hu.next z.h).cell (p := ⟨b2, o2 + (i * 12 + 8), none⟩) hb2 (by simp)).trans (hdd (i * 12 + 8) _ (flat_get encM_len ys i 8 y hyi (by omega))))
      have c9 : ∀ z : Cls (Upd [] wr), z.w.cell? ⟨b1, o1 + (i * 12 + 9), none⟩ = _ := fun z => (((hu.next z.h).cell (p := ⟨b1, o1 + (i * 12 + 9), none⟩) hb1 (by simp)).trans (hcc (i * 12 + 9) _ (flat_get encM_len xs i 9 x hxi (by omega))))
      have d9 : ∀ z : Cls (Upd [] wr), z.w.cell? ⟨b2, o2 + (i * 12 + 9), none⟩ = _ := fun z => (((hu.next z.h).cell (p := ⟨b2, o2 + (i * 12 + 9), none⟩) hb2 (by simp)).trans (hdd (i * 12 + 9) _ (flat_get encM_len ys i 9 y hyi (by omega))))
      have c10 : ∀ z : Cls (Upd [] wr), z.w.cell? ⟨b1, o1 + (i * 12 + 10), none⟩ = _ := fun z => (((hu.next z.h).cell (p := ⟨b1, o1 + (i * 12 + 10), none⟩) hb1 (by simp)).trans (hcc (i * 12 + 10) _ (flat_get encM_len xs i 10 x hxi (by omega))))
      have d10 : ∀ z : Cls (Upd [] wr), z.w.cell? ⟨b2, o2 + (i * 12 + 10), none⟩ = _ := fun z => (((hu.next z.h).cell (p := ⟨b2, o2 + (i * 12 + 10), none⟩) hb2 (by simp)).trans (hdd (i * 12 + 10) _ (flat_get encM_len ys i 10 y hyi (by omega))))
      have c11 : ∀ z : Cls (Upd [] wr), z.w.cell? ⟨b1, o1 + (i * 12 + 11), none⟩ = _ := fun z => (((hu.next z.h).cell (p := ⟨b1, o1 + (i * 12 + 11), none⟩) hb1 (by simp)).trans (hcc (i * 12 + 11) _ (flat_get encM_len xs i 11 x hxi (by omega))))
      have d11 : ∀ z : Cls (Upd [] wr), z.w.cell? ⟨b2, o2 + (i * 12 + 11), none⟩ = _ := fun z => (((hu.next z.h).cell (p := ⟨b2, o2 + (i * 12 + 11), none⟩) hb2 (by simp)).trans (hdd (i * 12 + 11) _ (flat_get encM_len ys i 11 y hyi (by omega))))
      obtain ⟨m, ⟨xR, xrc, xW, xwc, xP, xpc, xA, xac⟩⟩ := x
      obtain ⟨m', ⟨yR, yrc, yW, ywc, yP, ypc, yA, yac⟩⟩ := y
      dsimp only at hxy kx ky
      subst hxy
      have HS := Lib.hid (fun (x : Cls (Upd [] wr)) => quiet_cls (C := Upd [] wr) (x := x) ((same_msg (kx.same (hu.next x.h)) (ky.same (hu.next x.h))).mono fun e w' h => ⟨h.1, x.h.next h.2⟩))
      obtain ⟨kk, m1, m2, m3, m4, m5, m6, rs, wh, ps, qs, ty⟩ := m
      simp only [mcells] at HS
      simp only [encM, mcells, List.getElem?_cons_zero, List.getElem?_cons_succ, List.getElem_cons_zero, List.getElem_cons_succ, ← Nat.add_assoc, Nat.add_zero] at c0 d0 c1 d1 c2 d2 c3 d3 c4 d4 c5 d5 c6 d6 c7 d7 c8 d8 c9 d9 c10 d10 c11 d11
      have hlti : (i : Int) < (n : Int) := by omega
      have hw : IntKind.i64.wrap ((i : Int) + 1) = (i : Int) + 1 := IntWalk.i64_in _ (by omega)
      have HU := Lib.hid hu
      clear hcc hdd hu hxi hyi kx ky hb1 hb2
      go_upto_region 6 with fail
      refine wp_class_tail (Upd [] wr) ((Upd.refl _ _).drewN 1) 9 (by kernel_rfl) (by kernel_rfl) (fun _ _ _ _ h => h) ?_
      intro hne
      simp only [List.take_succ_cons, List.take_zero, List.drop_succ_cons, List.drop_zero]
      repeat (go_big_quiet_step ((go_at_call 21; exact HS.out _)))
      refine wpQuiet_nil ?_
      rintro _ ⟨xe, rfl⟩
      have hux := HU.out.next xe.h
      obtain ⟨W2, hW2⟩ : ∃ W2, W2 = xe.w := ⟨_, rfl⟩
      rw [← hW2] at hux ⊢
      have HUX := Lib.hid hux
      clear hW2 hux c0 d0 c1 d1 c2 d2 c3 d3 c4 d4 c5 d5 c6 d6 c7 d7 c8 d8 c9 d9 c10 d10 c11 d11 HS
      go_wp2
      go_roundg (gk - 1)
      case measure => omega
      case rel => exact ⟨i + 1, by omega, by omega, by go_num, HUX.out⟩
    · obtain rfl : i = n := by omega
      have HU := Lib.hid hu
      clear hu hgi hi hlt
      go_wp2
      exact bodyPost_res (v := .bool true) (by simp [results, Try.results16, go_sem]) rfl ⟨rfl, HU.out⟩
end Go.Proofs.Ytgkejdjdccgjbaa
