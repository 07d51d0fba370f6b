/- rtcp: four, reports. Conditions: no more than 60 reports, their fields numbers of their types. -/
import Derived.Test.YtgkejdjdccgjbaaOct
import Derived.Test.YtgkejdjdccgjbaaTail2
import Derived.Shelf.RegionOpen
import Derived.Shelf.Abstract
import Derived.Deep.DeepCutAuto
import Derived.Deep.DrawnRows
import Derived.BigQuiet
namespace Go.Proofs.Ytgkejdjdccgjbaa
open Go Go.RowKit
set_option maxHeartbeats 400000

/-- append of any row of known cells onto a row of the call's own, as one step of a region that draws -/
theorem step_append_src {P : Program} (w : World) {ops : Array Oper} {o : Oper} {a : Act} {K : Act → World → Prop} {Q : Exit → Act → World → Prop} {F : Prop} (hgd : o.guard = none) (s x : Operand) (t : TypeId)
    (ho : o.op = .call { callee := .builtin .append, args := #[s, x], argTypes := #[t, t] })
    (base : Nat) (e : TypeId) (i : TypeInfo) (z : Value) (size bytes : Nat) (ht : P.underlying t = some (.slice e)) (hi : P.info? e = some i) (hz : i.zero = some z) (hsize : i.size = size) (hby : i.bytes = bytes)
    (hzs : z.cells.size = size) (hsz : 0 < size) (v : Value) (n : Nat) (xs : List Value) (hs : a.eval s = v) (hown : w.ownsRow base e size v n xs)
    (A : Option Addr) (m c : Nat) (news : List Value) (hx : a.eval x = .slice A m c) (hA : A = none → m = 0 ∧ c = 0) (hn : news.length = m * size)
    (hcells : ∀ ad, A = some ad → ∀ (j : Nat) (u : Value), news[j]? = some u → w.cell? (ad.add j) = some u) (h1 : ∀ u ∈ news, u.oneCell' = true)
    (h63 : n + m ≤ maxLen) (hbytes : (n + m) * bytes ≤ 140737488355328) (hbase : base ≤ w.heap.size)
    (h : ∀ v' w', w'.ownsRow base e size v' (n + m) (xs ++ news) → w.grownBy w' v.ownBlock → (v'.ownBlock = v.ownBlock ∨ v'.ownBlock = some w.heap.size) → K (a.put o.dst v') w') :
    if Region.wanted o (yielded ops a.tmps) = true then Oper.wp P o a w K Q else F := by
  have hw : Region.wanted o (yielded ops a.tmps) = true := by simp [Region.wanted, hgd]
  rw [if_pos hw]
  cases A with
  | none =>
    obtain ⟨hm, hc⟩ := hA rfl
    subst hm
    subst hc
    have hnil : news = [] := List.eq_nil_of_length_eq_zero (by simpa using hn)
    subst hnil
    have hrun := run_append_owned_none (P := P) (w := w) base t o.type e i size ht hi v n xs hown
    unfold Oper.wp
    simp [execOp, ho, resolve, invoke, builtin, hs, hx, hrun, Result.andThen]
    exact h v w (by simpa using hown) (World.grownBy.refl w _) (.inl rfl)
  | some ad =>
    obtain ⟨v', w', hr, h2, h3, h4, h5⟩ := run_append_own_at (P := P) w base t o.type e i z size bytes ht hi hz hsize hby hzs hsz v n xs hown ad m c news hn (hcells ad rfl) h1 h63 hbytes hbase
    unfold Oper.wp execOp
    simp only [ho, resolve, invoke, builtin, Sem.run_bind, Sem.run_pure, Result.andThen_ok, List.map_toArray, List.map_cons, List.map_nil, hs, hx, hr]
    exact h v' w' h2 h3 h5

theorem four_any (x : Int) (w : World) (h0 : 0 ≤ x) (h1 : x ≤ 4294967295) : Calls Try.prog 33 #[.int .u32 x] w fun e w' => e = .returned (.agg #[.int .u64 x, .int .i64 4]) ∧ Upd [] w w' := by
  go_enter Try.func33, Try.ntmps33
  go_wp2
  exact bodyPost_res (v := .agg #[.int .u64 x, .int .i64 4]) (by simp [results, Try.results33, go_sem]) rfl ⟨rfl, (Upd.refl _ _).alloc _⟩

structure Rep where
  ssrc : Int
  part : Int
  lost : Int
  high : Int
  jitter : Int
  last : Int
  delay : Int
def encRep (r : Rep) : List Value := [.int .u32 r.ssrc, .int .u8 r.part, .int .u32 r.lost, .int .u32 r.high, .int .u32 r.jitter, .int .u32 r.last, .int .u32 r.delay]
theorem encRep_len (r : Rep) : (encRep r).length = 7 := rfl
def U32 (x : Int) : Prop := 0 ≤ x ∧ x ≤ 4294967295
def U8 (x : Int) : Prop := 0 ≤ x ∧ x ≤ 255
structure Rep.Ok (r : Rep) : Prop where
  ssrc : U32 r.ssrc
  part : U8 r.part
  lost : U32 r.lost
  high : U32 r.high
  jitter : U32 r.jitter
  last : U32 r.last
  delay : U32 r.delay
def repParts (r : Rep) : List (Int × Nat) := [(r.ssrc, 4), (r.part, 1), (r.lost, 3), (r.high, 4), (r.jitter, 4), (r.last, 4), (r.delay, 4)]
theorem infoP : (Try.prog.info? 94).map (fun i => (i.zero, i.size, i.bytes)) = some (some (.agg #[.int .u64 0, .int .i64 0]), 2, 16) := by kernel_rfl

set_option maxRecDepth 100000 in
set_option maxHeartbeats 4000000 in
theorem reports_any {w : World} {lo : Nat} {A : Option Addr} {cap : Nat} {rs : List Rep} (hc : CellsIn w lo w.heap.size 7 A rs.length (rs.flatMap encRep)) (hp : ∀ r, r ∈ rs → r.Ok) (hl : rs.length ≤ 60) :
    Calls Try.prog 34 #[.slice A rs.length cap] w fun e w' => ∃ v, e = .returned v ∧ w'.ownsRow w.heap.size 94 2 v (7 * rs.length) ((rs.flatMap repParts).flatMap encP) ∧ Below w.heap.size w w' := by
  obtain ⟨j0, hj0, hy0, hy1, hy2⟩ := info_parts infoP
  have HC := Lib.hid hc
  have HP := Lib.hid hp
  clear hc hp
  go_enter Try.func34, Try.ntmps34
  go_wp2
  go_loopg [3, 8] rs.length (fun gk x3 x8 wr => ∃ (i : Nat), i ≤ rs.length ∧ rs.length ≤ i + gk ∧ x8 = .int .i64 i ∧ wr.ownsRow w.heap.size 94 2 x3 (7 * i) (((rs.take i).flatMap repParts).flatMap encP) ∧ Below w.heap.size w wr)
  case atStart => exact ⟨0, Nat.zero_le _, by omega, rfl, World.ownsRow_nil _ _ _ _, Below.refl _ _⟩
  case round =>
    obtain ⟨i, hi, hgi, rfl, hown, hbel⟩ := hrel
    obtain ⟨Av, cv, hve, _⟩ := own_form hown
    subst hve
    by_cases hlt : i < rs.length
    · obtain ⟨r, hri⟩ : ∃ p, rs[i]? = some p := ⟨_, List.getElem?_eq_getElem hlt⟩
      have hok := HP.out r (List.mem_of_getElem? hri)
      obtain ⟨b, off, rfl, hb1, hb2, hcc⟩ := HC.out.2 (by omega)
      have c0 := (hbel.cell (p := ⟨b, off + (i * 7 + 0), none⟩) hb2).trans (hcc (i * 7 + 0) _ (flat_get encRep_len rs i 0 r hri (by omega)))
      have c1 := (hbel.cell (p := ⟨b, off + (i * 7 + 1), none⟩) hb2).trans (hcc (i * 7 + 1) _ (flat_get encRep_len rs i 1 r hri (by omega)))
      have c2 := (hbel.cell (p := ⟨b, off + (i * 7 + 2), none⟩) hb2).trans (hcc (i * 7 + 2) _ (flat_get encRep_len rs i 2 r hri (by omega)))
      have c3 := (hbel.cell (p := ⟨b, off + (i * 7 + 3), none⟩) hb2).trans (hcc (i * 7 + 3) _ (flat_get encRep_len rs i 3 r hri (by omega)))
      have c4 := (hbel.cell (p := ⟨b, off + (i * 7 + 4), none⟩) hb2).trans (hcc (i * 7 + 4) _ (flat_get encRep_len rs i 4 r hri (by omega)))
      have c5 := (hbel.cell (p := ⟨b, off + (i * 7 + 5), none⟩) hb2).trans (hcc (i * 7 + 5) _ (flat_get encRep_len rs i 5 r hri (by omega)))
      have c6 := (hbel.cell (p := ⟨b, off + (i * 7 + 6), none⟩) hb2).trans (hcc (i * 7 + 6) _ (flat_get encRep_len rs i 6 r hri (by omega)))
      obtain ⟨q0, q1, q2, q3, q4, q5, q6⟩ := r
      obtain ⟨⟨a0, b0⟩, ⟨a1, b1⟩, ⟨a2, b2⟩, ⟨a3, b3⟩, ⟨a4, b4⟩, ⟨a5, b5⟩, ⟨a6, b6⟩⟩ := hok
      dsimp only at a0 b0 a1 b1 a2 b2 a3 b3 a4 b4 a5 b5 a6 b6
      simp only [← Nat.add_assoc, Nat.add_zero] at c0 c1 c2 c3 c4 c5 c6
      have HOW := Lib.hid hown
      have HB := Lib.hid hbel
      have HRI := Lib.hid hri
      clear hcc hown hbel hri
      go_upto_region 5 with fail
      obtain ⟨W1, hW1⟩ : ∃ W1, W1 = wr.alloc (.cells #[.int .u32 q0, .int .u8 q1, .int .u32 q2, .int .u32 q3, .int .u32 q4, .int .u32 q5, .int .u32 q6] 87) := ⟨_, rfl⟩
      obtain ⟨X, hXe⟩ : ∃ X, X = wr.heap.size := ⟨_, rfl⟩
      rw [← hW1, ← hXe]
      have hX : Blk W1 X 87 #[.int .u32 q0, .int .u8 q1, .int .u32 q2, .int .u32 q3, .int .u32 q4, .int .u32 q5, .int .u32 q6] := by rw [hW1, hXe]; exact Blk.new wr _ _
      have HOW1 : Hid (W1.ownsRow w.heap.size 94 2 (.slice Av (7 * i) cv) (7 * i) (((rs.take i).flatMap repParts).flatMap encP)) := by rw [hW1]; exact Lib.hid (HOW.out.alloc _)
      have HB1 : Hid (Below w.heap.size w W1) := by rw [hW1]; exact Lib.hid (HB.out.alloc HB.out.size _)
      have x0 : ∀ x : Cls (Upd [] W1), x.w.cell? ⟨X, 0, none⟩ = some (.int .u32 q0) := fun x => (hX.upd x.h (by simp)).cell 0
      have x1 : ∀ x : Cls (Upd [] W1), x.w.cell? ⟨X, 1, none⟩ = some (.int .u8 q1) := fun x => (hX.upd x.h (by simp)).cell 1
      have x2 : ∀ x : Cls (Upd [] W1), x.w.cell? ⟨X, 2, none⟩ = some (.int .u32 q2) := fun x => (hX.upd x.h (by simp)).cell 2
      have x3 : ∀ x : Cls (Upd [] W1), x.w.cell? ⟨X, 3, none⟩ = some (.int .u32 q3) := fun x => (hX.upd x.h (by simp)).cell 3
      have x4 : ∀ x : Cls (Upd [] W1), x.w.cell? ⟨X, 4, none⟩ = some (.int .u32 q4) := fun x => (hX.upd x.h (by simp)).cell 4
      have x5 : ∀ x : Cls (Upd [] W1), x.w.cell? ⟨X, 5, none⟩ = some (.int .u32 q5) := fun x => (hX.upd x.h (by simp)).cell 5
      have x6 : ∀ x : Cls (Upd [] W1), x.w.cell? ⟨X, 6, none⟩ = some (.int .u32 q6) := fun x => (hX.upd x.h (by simp)).cell 6
      have HF : Hid (∀ (x : Cls (Upd [] W1)) (y : Int), 0 ≤ y → y ≤ 4294967295 → Calls Try.prog 33 #[.int .u32 y] x.w fun e w' => e = .returned (.agg #[.int .u64 y, .int .i64 4]) ∧ ∃ m : Cls (Upd [] W1), w' = m.w) := fun x y h1 h2 => quiet_cls ((four_any y x.w h1 h2).mono fun e w' h => ⟨h.1, x.h.next h.2⟩)
      clear hW1 hXe HOW HB c0 c1 c2 c3 c4 c5 c6 hX
      refine wp_moves_class_tail (Upd [] W1) ((Upd.refl _ _).drewN 1) 1 24 (by kernel_rfl) (by kernel_rfl) (fun _ _ _ _ h => h) ?_
      intro hne
      simp only [List.take_succ_cons, List.take_zero, List.drop_succ_cons, List.drop_zero]
      repeat (go_big_quiet_step (fail))
      refine wpQuiet_nil (show wpQuiet _ _ _ _ _ _ from ?_)
      repeat (go_big_quiet_step ((go_at_call 33; exact HF.out _ _ (by assumption) (by assumption))))
      refine wpQuiet_nil ?_
      rintro _ ⟨xe, rfl⟩
      have hox := ownsRow_upd HOW1.out xe.h (by simp)
      have hbx : Below w.heap.size w xe.w := HB1.out.trans (xe.h.below HB1.out.size (by simp))
      obtain ⟨ys, hys⟩ : ∃ ys, ys = ((rs.take i).flatMap repParts).flatMap encP := ⟨_, rfl⟩
      rw [← hys] at hox
      have HYS := Lib.hid hys
      have HOX := Lib.hid hox
      have HBX := Lib.hid hbx
      obtain ⟨W2, hW2⟩ : ∃ W2, W2 = xe.w := ⟨_, rfl⟩
      rw [← hW2] at HOX HBX ⊢
      clear hW2 hox hbx hys HOW1 HB1 HF x0 x1 x2 x3 x4 x5 x6
      go_wp2_with (at_builtin; refine wpList_append_own_at _ rfl (.tmp 12) (.tmp 36) 69 rfl w.heap.size 94 j0 _ 2 16 Try.underlying69 hj0 hy0 hy1 hy2 rfl (by decide) _ (7 * i) ys rfl (HOX.out.alloc _) ⟨W2.heap.size, 0, none⟩ 7 7 [.int .u64 q0, .int .i64 4, .int .u64 q1, .int .i64 1, .int .u64 q2, .int .i64 3, .int .u64 q3, .int .i64 4, .int .u64 q4, .int .i64 4, .int .u64 q5, .int .i64 4, .int .u64 q6, .int .i64 4] rfl rfl ?u1 ?u2 ?u3 ?u4 ?u5 ?_)
      case u1 => exact blk_src (Blk.new W2 94 _)
      case u2 => intro u hu; simp at hu; rcases hu with h | h | h | h | h | h | h | h | h | h | h | h | h | h <;> subst h <;> rfl
      case u3 => unfold maxLen; omega
      case u4 => omega
      case u5 => simp; have := HBX.out.size; omega
      intro v1 w1 hown1 hg1 _ hat1
      have hb1 := grown_upd (HOX.out.alloc (.cells #[.int .u64 q0, .int .i64 4, .int .u64 q1, .int .i64 1, .int .u64 q2, .int .i64 3, .int .u64 q3, .int .i64 4, .int .u64 q4, .int .i64 4, .int .u64 q5, .int .i64 4, .int .u64 q6, .int .i64 4] 94)) hg1 (Nat.le_trans HBX.out.size (by simp))
      have hbel1 := (HBX.out.alloc HBX.out.size _).trans hb1
      obtain ⟨A1, c1, hv1, _⟩ := own_form hown1
      subst hv1
      have hown2 : w1.ownsRow w.heap.size 94 2 (.slice A1 (7 * i + 7) c1) (7 * (i + 1)) (((rs.take (i + 1)).flatMap repParts).flatMap encP) := by
        rw [List.take_add_one, HRI.out, Option.toList_some, List.flatMap_append, List.flatMap_append, ← HYS.out]
        exact hown1
      have HO := Lib.hid hown2
      have HBE := Lib.hid hbel1
      clear hown1 hown2 hg1 hat1 hb1 hbel1
      go_wp2
      go_roundg (gk - 1)
      case measure => omega
      case rel => exact ⟨i + 1, by omega, by omega, by go_num, HO.out, HBE.out⟩
    · obtain rfl : i = rs.length := by omega
      rw [List.take_of_length_le (Nat.le_refl _)] at hown
      have HOW := Lib.hid hown
      have HB := Lib.hid hbel
      clear hown hbel
      go_wp2
      go_ret
      exact ⟨_, rfl, HOW.out, HB.out⟩
end Go.Proofs.Ytgkejdjdccgjbaa
