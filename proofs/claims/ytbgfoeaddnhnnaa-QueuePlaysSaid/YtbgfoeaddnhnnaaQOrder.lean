/- QueueOrder: the walk. -/
import Derived.Test.YtbgfoeaddnhnnaaQBounds
namespace Go.Proofs.Ytbgfoeaddnhnnaa
open Go Go.RowKit

theorem str_at {w : World} {B len : Nat} {A : Option Addr} {l : List ByteArray} (h : Cells w B 1 A len (l.map Value.string)) (i : Nat) (hi : i < len) :
    ∃ b off, A = some ⟨b, off, none⟩ ∧ b < B ∧ ∀ (j : Nat) (hj : j < l.length), w.cell? ⟨b, off + j, none⟩ = some (.string l[j]) := by
  obtain ⟨b, off, e, hb, hc⟩ := h.2 (by omega)
  exact ⟨b, off, e, hb, fun j hj => hc j _ (by simp [hj])⟩

theorem own_not {w : World} {N p r : Nat} {e : TypeId} {size n : Nat} {v : Value} {xs : List Value} (h : w.ownsRow N e size v n xs) (hp : p < N) (hr : r < N) : ∀ s, s ∈ [p, r] → v.ownBlock ≠ some s := by
  intro s hs he
  have := (own_block_lt h he).1
  simp at hs
  omega

/-- the state between two rounds -/
structure OrdAt (w wr : World) (N p r cap : Nat) (vi vo : Value) (ins outs xs : List ByteArray) : Prop where
  q : QS.Q wr p r cap xs
  i : wr.ownsRow N 9 1 vi ins.length (ins.map Value.string)
  o : wr.ownsRow N 9 1 vo outs.length (outs.map Value.string)
  ap : Apart vi vo
  all : ins = outs ++ xs
  below : Below w.heap.size w wr
  size : N ≤ wr.heap.size
  base : w.heap.size ≤ N
  pN : p < N
  rN : r < N
  cap7 : cap ≤ 7
  pw : w.heap.size ≤ p
  rw : w.heap.size ≤ r

theorem OrdAt.pushed {w wr w' : World} {N p r cap : Nat} {vi vo v' : Value} {ins outs xs : List ByteArray} (h : OrdAt w wr N p r cap vi vo ins outs xs) (x : ByteArray) (w1 : World)
    (hq : QS.Q w1 p r cap (xs ++ [x])) (hu : Upd [p, r] wr w1) (o : Obj)
    (hown : w'.ownsRow N 9 1 v' (ins.length + 1) (ins.map Value.string ++ [Value.string x])) (hg : (w1.alloc o).grownBy w' vi.ownBlock) (hat : v'.ownBlock = vi.ownBlock ∨ v'.ownBlock = some (w1.alloc o).heap.size) :
    OrdAt w w' N p r cap v' vo (ins ++ [x]) outs (xs ++ [x]) := by
  have hi1 := ((ownsRow_upd h.i hu (own_not h.i h.pN h.rN)).alloc o)
  have ho1 := ((ownsRow_upd h.o hu (own_not h.o h.pN h.rN)).alloc o)
  have hs1 : N ≤ (w1.alloc o).heap.size := Nat.le_trans h.size (Nat.le_trans hu.size (by simp))
  have hbN := grown_upd hi1 hg hs1
  have hb1 : Below w.heap.size w w1 := h.below.trans (hu.below h.below.size (by simp; exact ⟨h.pw, h.rw⟩))
  have hpN := h.pN
  have hrN := h.rN
  refine ⟨IsQ.below (hq.upd (((Upd.refl [] w1).alloc o)) (by simp) (by simp)) hbN hpN hrN, by simpa using hown, Apart.kept ho1 hg h.ap.symm, (Apart.append hat ho1 h.ap.symm).symm, by rw [h.all]; simp, ?_, Nat.le_trans hs1 hg.size, h.base, hpN, hrN, h.cap7, h.pw, h.rw⟩
  exact (hb1.alloc hb1.size o).trans (hbN.mono h.base)

theorem OrdAt.popped {w wr w' : World} {N p r cap : Nat} {vi vo v' : Value} {ins outs xs : List ByteArray} {x : ByteArray} (h : OrdAt w wr N p r cap vi vo ins outs (x :: xs)) (w1 : World)
    (hq : QS.Q w1 p r cap xs) (hu : Upd [p, r] wr w1) (o : Obj)
    (hown : w'.ownsRow N 9 1 v' (outs.length + 1) (outs.map Value.string ++ [Value.string x])) (hg : (w1.alloc o).grownBy w' vo.ownBlock) (hat : v'.ownBlock = vo.ownBlock ∨ v'.ownBlock = some (w1.alloc o).heap.size) :
    OrdAt w w' N p r cap vi v' ins (outs ++ [x]) xs := by
  have hi1 := ((ownsRow_upd h.i hu (own_not h.i h.pN h.rN)).alloc o)
  have ho1 := ((ownsRow_upd h.o hu (own_not h.o h.pN h.rN)).alloc o)
  have hs1 : N ≤ (w1.alloc o).heap.size := Nat.le_trans h.size (Nat.le_trans hu.size (by simp))
  have hbN := grown_upd ho1 hg hs1
  have hb1 : Below w.heap.size w w1 := h.below.trans (hu.below h.below.size (by simp; exact ⟨h.pw, h.rw⟩))
  have hpN := h.pN
  have hrN := h.rN
  refine ⟨IsQ.below (hq.upd (((Upd.refl [] w1).alloc o)) (by simp) (by simp)) hbN hpN hrN, Apart.kept hi1 hg h.ap, by simpa using hown, Apart.append hat hi1 h.ap, by rw [h.all]; simp, ?_, Nat.le_trans hs1 hg.size, h.base, hpN, hrN, h.cap7, h.pw, h.rw⟩
  exact (hb1.alloc hb1.size o).trans (hbN.mono h.base)

theorem OrdAt.same {w wr w1 : World} {N p r cap : Nat} {vi vo : Value} {ins outs xs : List ByteArray} (h : OrdAt w wr N p r cap vi vo ins outs xs) (hq : QS.Q w1 p r cap xs) (hu : Upd [p, r] wr w1) :
    OrdAt w w1 N p r cap vi vo ins outs xs :=
  ⟨hq, ownsRow_upd h.i hu (own_not h.i h.pN h.rN), ownsRow_upd h.o hu (own_not h.o h.pN h.rN), h.ap, h.all, h.below.trans (hu.below h.below.size (by simp; exact ⟨h.pw, h.rw⟩)), Nat.le_trans h.size hu.size, h.base, h.pN, h.rN, h.cap7, h.pw, h.rw⟩

set_option maxHeartbeats 2000000 in
theorem order_any (room : Int) (A A2 : Option Addr) (len cap len2 cap2 : Nat) (l : List ByteArray) (pops : List Int) (w : World) (hr0 : 0 ≤ room) (hr1 : room ≤ 255) (hlen : len ≤ 9223372036854775807) (hlen2 : len2 ≤ 9223372036854775807)
    (hll : l.length = len) (hl : Cells w w.heap.size 1 A len (l.map Value.string)) (hll2 : pops.length = len2) (hl2 : Cells w w.heap.size 1 A2 len2 (pops.map (Value.int .u8))) (hp : ∀ x ∈ pops, 0 ≤ x ∧ x ≤ 255) :
    Calls Try.prog 6 #[.int .u8 room, .slice A len cap, .slice A2 len2 cap2] w fun e w' => e = .returned (.bool true) ∧ Below w.heap.size w w' := by
  have HL := Lib.hid hl
  have HLL := Lib.hid hll
  have HL2 := Lib.hid hl2
  have HLL2 := Lib.hid hll2
  have HP := Lib.hid hp
  obtain ⟨i0, hi0, hz0, hz1, hz2⟩ := info_parts QS.info
  clear hl hll hl2 hll2 hp
  obtain ⟨m, hm⟩ : ∃ m : Nat, room % 7 = m := ⟨(room % 7).toNat, by omega⟩
  have hm7 : m < 7 := by omega
  by_cases hbig : 100 < (len : Int)
  · go_enter Try.func6, Try.ntmps6
    go_wp2_with fail
    refine (awake_any w).mono ?_
    rintro e w1 ⟨rfl, hu1⟩
    go_wp2
    go_ret
    exact ⟨rfl, hu1.below (Nat.le_refl _) (by simp)⟩
  · by_cases hfew : (len2 : Int) < (len : Int)
    · go_enter Try.func6, Try.ntmps6
      go_wp2_with fail
      refine (awake_any w).mono ?_
      rintro e w1 ⟨rfl, hu1⟩
      go_wp2
      go_ret
      exact ⟨rfl, hu1.below (Nat.le_refl _) (by simp)⟩
    · go_enter Try.func6, Try.ntmps6
      go_wp2_with fail
      refine (awake_any w).mono ?_
      rintro e w1 ⟨rfl, hu1⟩
      go_wp2_with fail
      refine (QS.new_yes w1 (m + 1) _ (by show _ = _; push_cast; rfl) (by omega) (by omega)).mono ?_
      rintro e w2 ⟨rfl, hq2, hu2⟩
      have hlt2 := IsQ.lt hq2
      obtain ⟨p, hp⟩ : ∃ p, p = w1.heap.size + 1 := ⟨_, rfl⟩
      obtain ⟨r, hr⟩ : ∃ r, r = w1.heap.size := ⟨_, rfl⟩
      obtain ⟨N, hN⟩ : ∃ N, N = w2.heap.size := ⟨_, rfl⟩
      rw [← hp, ← hr] at hq2 hlt2
      rw [← hp]
      have hb2 : Below w.heap.size w w2 := (hu1.next hu2).below (Nat.le_refl _) (by simp)
      have HO : Hid (OrdAt w w2 N p r (m + 1) (.slice none 0 0) (.slice none 0 0) [] [] []) :=
        ⟨hq2, World.ownsRow_nil _ _ _ _, World.ownsRow_nil _ _ _ _, Apart.nil _, rfl, hb2, by omega, by rw [hN]; exact hb2.size, by omega, by omega, by omega, by have := hu1.size; omega, by have := hu1.size; omega⟩
      clear hp hr hq2 hu2 hu1 hlt2 hN hb2
      go_wp2
      go_loopw [9, 10, 11, 12, 13, 14] (fun vi vo i _ _ _ wr => ∃ k : Nat, k ≤ len ∧ i = .int .i64 k ∧ ∃ ins outs xs, OrdAt w wr N p r (m + 1) vi vo ins outs xs ∧ ins.length ≤ k) (fun _ _ i _ _ _ _ => len - (intOf i).toNat)
      case atStart => exact ⟨0, Nat.zero_le _, rfl, [], [], [], HO.out, Nat.le_refl _⟩
      case round =>
        obtain ⟨k, hk, rfl, ins, outs, xs, ho, hik⟩ := hrel
        by_cases hlt : k < len
        · obtain ⟨b, off, rfl, hbB, hc⟩ := str_at HL.out k hlt
          obtain ⟨b2, off2, rfl, hbB2, hc2⟩ := int_at HL2.out k (by omega)
          have hkl : k < l.length := by rw [HLL.out]; exact hlt
          have hkp : k < pops.length := by rw [HLL2.out]; omega
          have hcx := hc k hkl
          have hcq := hc2 k hkp
          have hqb := HP.out pops[k] (List.getElem_mem hkp)
          obtain ⟨x, hx⟩ : ∃ x, x = l[k] := ⟨_, rfl⟩
          obtain ⟨q, hq⟩ : ∃ q, q = pops[k] := ⟨_, rfl⟩
          rw [← hx] at hcx
          rw [← hq] at hcq hqb
          obtain ⟨hq0, hq255⟩ := hqb
          clear hc hc2 hx hq hkl hkp
          have hcx' := (ho.below.cell (p := ⟨b, off + k, none⟩) hbB).trans hcx
          by_cases hfull : xs.length < m + 1
          · go_wp2_with fail
            refine (QS.push_yes ho.q x hfull).mono ?_
            rintro e w4 ⟨rfl, hq4, hu4⟩
            have hcx4 := ((ho.below.trans (hu4.below (B := w.heap.size) ho.below.size (by simp; exact ⟨ho.pw, ho.rw⟩))).cell (p := ⟨b, off + k, none⟩) hbB).trans hcx
            have HO1 := Lib.hid ho
            have hown4 := ownsRow_upd ho.i hu4 (own_not ho.i ho.pN ho.rN)
            have hsz4 : N ≤ w4.heap.size := Nat.le_trans ho.size hu4.size
            clear ho hcx'
            go_wp2_with (at_builtin; refine wpList_append_own_at _ rfl _ _ 45 rfl N 9 i0 _ 1 16 Try.underlying45 hi0 hz0 hz1 hz2 rfl (by decide) _ _ _ rfl (hown4.alloc _) ⟨w4.heap.size, 0, none⟩ 1 1 [.string x] rfl rfl ?a1 ?a2 ?a3 ?a4 ?a5 ?_)
            case a1 =>
              intro j u hj
              match j, hj with
              | 0, hj => simp at hj; subst hj; exact (Blk.new w4 9 #[.string x]).cell 0
            case a2 => intro u hu; simp at hu; subst hu; rfl
            case a3 => unfold maxLen; omega
            case a4 => omega
            case a5 => simp; omega
            · intro vi' w5 hown' hgrow _ hat
              have hO := HO1.out.pushed x w4 hq4 hu4 (.cells #[.string x] 9) hown' hgrow (by simpa using hat)
              clear hown' hgrow hat hown4 hq4 hu4 hcx4
              go_wp2
              go_loopw [10, 12, 13, 14] (fun vo i _ _ wr => ∃ j : Nat, j ≤ 3 ∧ i = .int .i64 j ∧ ∃ outs xs, OrdAt w wr N p r (m + 1) vi' vo (ins ++ [x]) outs xs) (fun _ i _ _ _ => 3 - (intOf i).toNat)
              case atStart => exact ⟨0, Nat.zero_le _, rfl, _, _, hO⟩
              case round =>
                obtain ⟨j, hj3, rfl, outs, xs, ho⟩ := hrel
                have hcq' := (ho.below.cell (p := ⟨b2, off2 + k, none⟩) hbB2).trans hcq
                by_cases hjq : (j : Int) < q % 3
                · cases xs with
                  | nil =>
                    go_wp2_with fail
                    refine (QS.pop_no ho.q).mono ?_
                    rintro e w6 ⟨rfl, rfl⟩
                    have HO2 := Lib.hid ho
                    clear ho hcq'
                    go_wp2
                    go_roundw
                    case rel => exact ⟨j + 1, by omega, by go_num, _, _, HO2.out⟩
                    case measure => simp [intOf]; omega
                  | cons x xs =>
                    go_wp2_with fail
                    refine (QS.pop_yes ho.q).mono ?_
                    rintro e w6 ⟨rfl, hq6, hu6⟩
                    have HO2 := Lib.hid ho
                    have hown6 := ownsRow_upd ho.o hu6 (own_not ho.o ho.pN ho.rN)
                    have hsz6 : N ≤ w6.heap.size := Nat.le_trans ho.size hu6.size
                    have hol : outs.length ≤ 100 := by have h1 := ho.all; have h2 := congrArg List.length h1; simp at h2; have := hik; omega
                    clear ho hcq'
                    go_wp2_with (at_builtin; refine wpList_append_own_at _ rfl _ _ 45 rfl N 9 i0 _ 1 16 Try.underlying45 hi0 hz0 hz1 hz2 rfl (by decide) _ _ _ rfl (hown6.alloc _) ⟨w6.heap.size, 0, none⟩ 1 1 [.string x] rfl rfl ?b1 ?b2 ?b3 ?b4 ?b5 ?_)
                    case b1 =>
                      intro j u hj
                      match j, hj with
                      | 0, hj => simp at hj; subst hj; exact (Blk.new w6 9 #[.string x]).cell 0
                    case b2 => intro u hu; simp at hu; subst hu; rfl
                    case b3 => unfold maxLen; omega
                    case b4 => omega
                    case b5 => simp; omega
                    · intro v' w7 hown' hgrow _ hat
                      have hO3 := HO2.out.popped w6 hq6 hu6 (.cells #[.string x] 9) hown' hgrow (by simpa using hat)
                      have HO3 := Lib.hid hO3
                      clear hown' hgrow hat hO3 hown6 hq6 hu6
                      go_wp2
                      go_roundw
                      case rel => exact ⟨j + 1, by omega, by go_num, _, _, HO3.out⟩
                      case measure => simp [intOf]; omega
                · have HO2 := Lib.hid ho
                  clear ho
                  go_wp2
                  go_roundw
                  case rel => exact ⟨k + 1, by omega, by go_num, _, _, _, HO2.out, by simp; omega⟩
                  case measure => simp [intOf]; omega
          · have hful : xs.length = m + 1 := by have := ho.q.bound; omega
            go_wp2_with fail
            refine (QS.push_no ho.q x hful).mono ?_
            rintro e w4 ⟨rfl, hq4, hu4⟩
            have hO := ho.same hq4 hu4
            clear ho hcx' hq4 hu4 hful
            go_wp2
            go_loopw [10, 12, 13, 14] (fun vo i _ _ wr => ∃ j : Nat, j ≤ 3 ∧ i = .int .i64 j ∧ ∃ outs xs, OrdAt w wr N p r (m + 1) u9 vo ins outs xs) (fun _ i _ _ _ => 3 - (intOf i).toNat)
            case atStart => exact ⟨0, Nat.zero_le _, rfl, _, _, hO⟩
            case round =>
              obtain ⟨j, hj3, rfl, outs, xs, ho⟩ := hrel
              have hcq' := (ho.below.cell (p := ⟨b2, off2 + k, none⟩) hbB2).trans hcq
              by_cases hjq : (j : Int) < q % 3
              · cases xs with
                | nil =>
                  go_wp2_with fail
                  refine (QS.pop_no ho.q).mono ?_
                  rintro e w6 ⟨rfl, rfl⟩
                  have HO2 := Lib.hid ho
                  clear ho hcq'
                  go_wp2
                  go_roundw
                  case rel => exact ⟨j + 1, by omega, by go_num, _, _, HO2.out⟩
                  case measure => simp [intOf]; omega
                | cons x xs =>
                  go_wp2_with fail
                  refine (QS.pop_yes ho.q).mono ?_
                  rintro e w6 ⟨rfl, hq6, hu6⟩
                  have HO2 := Lib.hid ho
                  have hown6 := ownsRow_upd ho.o hu6 (own_not ho.o ho.pN ho.rN)
                  have hsz6 : N ≤ w6.heap.size := Nat.le_trans ho.size hu6.size
                  have hol : outs.length ≤ 100 := by have h1 := ho.all; have h2 := congrArg List.length h1; simp at h2; have := hik; omega
                  clear ho hcq'
                  go_wp2_with (at_builtin; refine wpList_append_own_at _ rfl _ _ 45 rfl N 9 i0 _ 1 16 Try.underlying45 hi0 hz0 hz1 hz2 rfl (by decide) _ _ _ rfl (hown6.alloc _) ⟨w6.heap.size, 0, none⟩ 1 1 [.string x] rfl rfl ?c1 ?c2 ?c3 ?c4 ?c5 ?_)
                  case c1 =>
                    intro j u hj
                    match j, hj with
                    | 0, hj => simp at hj; subst hj; exact (Blk.new w6 9 #[.string x]).cell 0
                  case c2 => intro u hu; simp at hu; subst hu; rfl
                  case c3 => unfold maxLen; omega
                  case c4 => omega
                  case c5 => simp; omega
                  · intro v' w7 hown' hgrow _ hat
                    have hO3 := HO2.out.popped w6 hq6 hu6 (.cells #[.string x] 9) hown' hgrow (by simpa using hat)
                    have HO3 := Lib.hid hO3
                    clear hown' hgrow hat hO3 hown6 hq6 hu6
                    go_wp2
                    go_roundw
                    case rel => exact ⟨j + 1, by omega, by go_num, _, _, HO3.out⟩
                    case measure => simp [intOf]; omega
              · have HO2 := Lib.hid ho
                clear ho
                go_wp2
                go_roundw
                case rel => exact ⟨k + 1, by omega, by go_num, _, _, _, HO2.out, by omega⟩
                case measure => simp [intOf]; omega
        · have hk' : k = len := by omega
          subst hk'
          have HO1 := Lib.hid ho
          have hbd := ho.q.bound
          have hol : outs.length ≤ 100 := by have h1 := ho.all; have h2 := congrArg List.length h1; simp at h2; omega
          have hq0 := ho.q
          clear ho
          go_wp2_with fail
          refine (QS.all hq0).mono ?_
          rintro e w4 ⟨v, rfl, hv, hu4⟩
          obtain ⟨A', cap', hvf, hcap', hA', hAn⟩ := own_form hv
          have hb4 := HO1.out.below.trans (hu4.below (B := w.heap.size) HO1.out.below.size (by simp))
          have hi4 := ownsRow_upd HO1.out.i hu4 (by simp)
          have ho4 := ownsRow_upd HO1.out.o hu4 (by simp)
          have hap := HO1.out.ap
          have hsz4 : N ≤ w4.heap.size := Nat.le_trans HO1.out.size hu4.size
          have hNb := HO1.out.base
          have hall := HO1.out.all
          have hnot : ∀ n v xs, wr.ownsRow N 9 1 v n xs → Apart v (.slice A' xs.length cap') := fun n u ys hu g hg h2 => by
            have h3 := own_block_lt hu hg
            rw [hvf] at hv
            have h4 := own_block_lt hv (g := g) (by cases A' <;> simp [Value.ownBlock] at h2 ⊢; exact h2)
            omega
          rw [hvf] at hv ⊢
          have HI := Lib.hid hi4
          have HOO := Lib.hid ho4
          have HV := Lib.hid hv
          have HAP := Lib.hid hap
          have HALL := Lib.hid hall
          clear hvf hi4 ho4 hnot hall hu4 hq0 hap HO1
          have FIN : ∀ (vo' : Value) (w5 : World), w5.ownsRow N 9 1 vo' (outs.length + xs.length) (outs.map Value.string ++ xs.map Value.string) → w5.ownsRow N 9 1 u9 ins.length (ins.map Value.string) → Below w.heap.size w w5 →
              ∃ A1 c1 A2 c2, u9 = .slice A1 ins.length c1 ∧ vo' = .slice A2 ins.length c2 ∧ w5.ownsRow N 9 1 (.slice A1 ins.length c1) ins.length (ins.map Value.string) ∧ w5.ownsRow N 9 1 (.slice A2 ins.length c2) ins.length (ins.map Value.string) ∧ ins.length = outs.length + xs.length ∧
                (0 < ins.length → ∃ g, A1 = some ⟨g, 0, none⟩) ∧ (0 < ins.length → ∃ g, A2 = some ⟨g, 0, none⟩) := by
            intro vo' w5 h1 h2 _
            obtain ⟨A1, c1, e1, _, f1, _⟩ := own_form h2
            obtain ⟨A2, c2, e2, _, f2, _⟩ := own_form h1
            have hl : ins.length = outs.length + xs.length := by rw [HALL.out, List.length_append]
            rw [← List.map_append, ← HALL.out, ← hl, e2] at h1
            rw [e1] at h2
            rw [← hl] at e2 f2 h1
            exact ⟨A1, c1, A2, c2, e1, e2, h2, h1, hl, fun h => by obtain ⟨g, hg, _⟩ := f1 h; exact ⟨g, hg⟩, fun h => by obtain ⟨g, hg, _⟩ := f2 h; exact ⟨g, hg⟩⟩
          have HFIN := Lib.hid FIN
          clear FIN
          have hsrc : ∀ ad, A' = some ad → ∀ (j : Nat) (u : Value), (xs.map Value.string)[j]? = some u → w4.cell? (ad.add j) = some u := by
            intro ad had j u hu
            have hj : j < xs.length := by have := (List.getElem?_eq_some_iff.1 hu).1; simpa using this
            obtain ⟨g, hg, _⟩ := hA' (by omega)
            rw [had] at hg
            obtain rfl : ad = ⟨g, 0, none⟩ := by injection hg
            subst had
            exact hv.cells (g := g) rfl j u hu
          have HSRC := Lib.hid hsrc
          have HAn := Lib.hid hAn
          have HA' := Lib.hid hA'
          clear hsrc hAn hA' hv
          go_wp2_with (at_builtin; refine wpList_append_src _ rfl _ _ 45 rfl N 9 i0 _ 1 16 Try.underlying45 hi0 hz0 hz1 hz2 rfl (by decide) _ _ _ rfl HOO.out A' xs.length cap' (xs.map Value.string) rfl HAn.out (by simp) HSRC.out ?d1 ?d2 ?d3 ?d4 ?_)
          case d1 => intro u hu; obtain ⟨y, _, rfl⟩ := List.mem_map.1 hu; rfl
          case d2 => unfold maxLen; omega
          case d3 => omega
          case d4 => omega
          · intro vo' w5 hown' hgrow hat
            have hbN := grown_upd HOO.out hgrow hsz4
            have hi5 := Apart.kept HI.out hgrow HAP.out
            have hb5 := hb4.trans (hbN.mono hNb)
            obtain ⟨A1, c1, A2', c2, e1, e2, r1, r2, hl, f1, f2⟩ := HFIN.out vo' w5 hown' hi5 hb5
            rw [e2]
            have HE1 := Lib.hid e1
            have HR1 := Lib.hid r1
            have HR2 := Lib.hid r2
            have HF1 := Lib.hid f1
            have HF2 := Lib.hid f2
            clear e1 e2 r1 r2 hl f1 f2 hown' hgrow hat hbN hi5 hb4 HFIN HOO HI HAP HV HSRC HAn HA'
            have e1 := HE1.out
            subst e1
            clear HE1
            go_wp2
            obtain ⟨wi, hwi⟩ : ∃ wi : World, wi = w5 := ⟨_, rfl⟩
            rw [← hwi] at HR1 HR2 hb5 ⊢
            clear hwi
            go_loopw [15] (fun i wr => ∃ t : Nat, t ≤ ins.length ∧ i = .int .i64 t ∧ ∃ n, wr = wi.drewN n) (fun i _ => ins.length - (intOf i).toNat)
            case atStart => exact ⟨0, Nat.zero_le _, rfl, 0, rfl⟩
            case round =>
              obtain ⟨t, ht, rfl, n, rfl⟩ := hrel
              by_cases hlt : t < ins.length
              · obtain ⟨g1, rfl⟩ := HF1.out (by omega)
                obtain ⟨g2, rfl⟩ := HF2.out (by omega)
                have hc1 := HR1.out.cellAt t (by omega)
                have hc2 := HR2.out.cellAt t (by omega)
                rw [List.getElem?_map, List.getElem?_eq_getElem hlt, Option.map_some] at hc1 hc2
                obtain ⟨y, hy⟩ : ∃ y, y = ins[t] := ⟨_, rfl⟩
                rw [← hy] at hc1 hc2
                have hi0 : (0 : Int) ≤ (t : Int) := by omega
                have hi1 : (t : Int) < (ins.length : Int) := by omega
                clear hy
                go_wp2_with fail
                go_quiet (fail)
                go_wp2
                go_roundw
                case rel => exact ⟨t + 1, by omega, by go_num, _, rfl⟩
                case measure => simp [intOf]; omega
              · go_wp2
                go_ret
                exact ⟨rfl, ⟨hb5.os, hb5.tape, hb5.output, hb5.size, hb5.block⟩⟩
end Go.Proofs.Ytbgfoeaddnhnnaa
