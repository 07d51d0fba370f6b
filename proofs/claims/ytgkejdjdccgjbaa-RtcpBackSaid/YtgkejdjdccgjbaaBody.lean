/- rtcp: a message's numbers. Conditions: its rows no longer than 60, its fields numbers of their types. -/
import Derived.Test.YtgkejdjdccgjbaaParts
import Derived.Deep.RegionLaw
import Derived.Deep.AppendLies
import Derived.Laws.OwnMore
namespace Go.Proofs.Ytgkejdjdccgjbaa
open Go Go.RowKit
set_option maxHeartbeats 400000

def U64 (x : Int) : Prop := 0 ≤ x ∧ x ≤ 18446744073709551615
def U16 (x : Int) : Prop := 0 ≤ x ∧ x ≤ 65535
structure Mg where
  kind : Int
  ssrc : Int
  media : Int
  clock : Int
  time : Int
  packets : Int
  bytes : Int
  reports : List Rep
  who : List Int
  pairs : List (Int × Int)
  asks : List (Int × Int)
  type : Int
/-- where its rows lie -/
structure Hd where
  rA : Option Addr
  rc : Nat
  wA : Option Addr
  wc : Nat
  pA : Option Addr
  pc : Nat
  aA : Option Addr
  ac : Nat
def encPair (p : Int × Int) : List Value := [.int .u16 p.1, .int .u16 p.2]
def encAsk (p : Int × Int) : List Value := [.int .u32 p.1, .int .u8 p.2]
theorem encPair_len (p : Int × Int) : (encPair p).length = 2 := rfl
theorem encAsk_len (p : Int × Int) : (encAsk p).length = 2 := rfl
def mcells (m : Mg) (h : Hd) : List Value := [.int .i64 m.kind, .int .u32 m.ssrc, .int .u32 m.media, .int .u64 m.clock, .int .u32 m.time, .int .u32 m.packets, .int .u32 m.bytes, .slice h.rA m.reports.length h.rc, .slice h.wA m.who.length h.wc, .slice h.pA m.pairs.length h.pc, .slice h.aA m.asks.length h.ac, .int .u8 m.type]
structure MgIn (w : World) (lo : Nat) (m : Mg) (h : Hd) : Prop where
  cr : CellsIn w lo w.heap.size 7 h.rA m.reports.length (m.reports.flatMap encRep)
  cw : CellsIn w lo w.heap.size 1 h.wA m.who.length (m.who.map (Value.int .u32))
  cp : CellsIn w lo w.heap.size 2 h.pA m.pairs.length (m.pairs.flatMap encPair)
  ca : CellsIn w lo w.heap.size 2 h.aA m.asks.length (m.asks.flatMap encAsk)
theorem MgIn.below {w w' : World} {lo : Nat} {m : Mg} {h : Hd} (k : MgIn w lo m h) (b : Below w.heap.size w w') : MgIn w' lo m h :=
  ⟨(k.cr.below b (Nat.le_refl _)).more (Nat.le_refl _) b.size, (k.cw.below b (Nat.le_refl _)).more (Nat.le_refl _) b.size, (k.cp.below b (Nat.le_refl _)).more (Nat.le_refl _) b.size, (k.ca.below b (Nat.le_refl _)).more (Nat.le_refl _) b.size⟩
structure Mg.Ok (m : Mg) : Prop where
  ssrc : U32 m.ssrc
  media : U32 m.media
  clock : U64 m.clock
  time : U32 m.time
  packets : U32 m.packets
  bytes : U32 m.bytes
  reports : ∀ r, r ∈ m.reports → r.Ok
  who : ∀ x, x ∈ m.who → U32 x
  pairs : ∀ p, p ∈ m.pairs → U16 p.1 ∧ U16 p.2
  asks : ∀ p, p ∈ m.asks → U32 p.1 ∧ U8 p.2
  type : U8 m.type
  nr : m.reports.length ≤ 60
  nw : m.who.length ≤ 60
  np : m.pairs.length ≤ 60
  na : m.asks.length ≤ 60
def pairParts (p : Int × Int) : List (Int × Nat) := [(p.1, 2), (p.2, 2)]
def askParts (p : Int × Int) : List (Int × Nat) := [(p.1, 4), (p.2, 1), (0, 3)]
/-- a message's type, count, numbers, and whether it may be put -/
structure Bdy where
  t : Int
  n : Nat
  ps : List (Int × Nat)
  is : Bool
def bodyM (m : Mg) : Bdy :=
  if m.kind = 0 then ⟨200, m.reports.length, [(m.ssrc, 4), (m.clock, 8), (m.time, 4), (m.packets, 4), (m.bytes, 4)] ++ m.reports.flatMap repParts, decide (m.reports.length ≤ 31)⟩
  else if m.kind = 1 then ⟨201, m.reports.length, [(m.ssrc, 4)] ++ m.reports.flatMap repParts, decide (m.reports.length ≤ 31)⟩
  else if m.kind = 2 then ⟨203, m.who.length, m.who.map fun x => (x, 4), decide (m.who.length ≤ 31)⟩
  else if m.kind = 3 then ⟨205, 1, [(m.ssrc, 4), (m.media, 4)] ++ m.pairs.flatMap pairParts, decide (0 < m.pairs.length)⟩
  else if m.kind = 4 then ⟨206, 1, [(m.ssrc, 4), (m.media, 4)], true⟩
  else if m.kind = 5 then ⟨206, 4, [(m.ssrc, 4), (m.media, 4)] ++ m.asks.flatMap askParts, decide (0 < m.asks.length)⟩
  else ⟨0, 0, [], false⟩
theorem app_below {N s n : Nat} {w0 W w1 : World} {e : TypeId} {v : Value} {xs : List Value} {o : Obj} (hB : Below N w0 W) (hN : N ≤ W.heap.size) (hown : W.ownsRow N e s v n xs) (hg : (W.alloc o).grownBy w1 v.ownBlock) : Below N w0 w1 :=
  (hB.alloc hN o).trans (grown_upd (hown.alloc o) hg (Nat.le_trans hN (by simp)))
theorem app_blk {N s n X : Nat} {W w1 : World} {e t : TypeId} {cs : Array Value} {v : Value} {xs : List Value} {o : Obj} (hown : W.ownsRow N e s v n xs) (hg : (W.alloc o).grownBy w1 v.ownBlock) (hX : Blk W X t cs) (ht : e ≠ t) : Blk w1 X t cs :=
  (hX.alloc o).upd (Upd.of_grown hg) fun hm => by
    obtain ⟨cur, hcur⟩ := row_type hown X (by simpa using hm)
    exact hcur.ne hX ht rfl
theorem app_below' {N s n : Nat} {w0 W w1 : World} {e : TypeId} {v : Value} {xs : List Value} (hB : Below N w0 W) (hN : N ≤ W.heap.size) (hown : W.ownsRow N e s v n xs) (hg : W.grownBy w1 v.ownBlock) : Below N w0 w1 :=
  hB.trans (grown_upd hown hg hN)
theorem app_blk' {N s n X : Nat} {W w1 : World} {e t : TypeId} {cs : Array Value} {v : Value} {xs : List Value} (hown : W.ownsRow N e s v n xs) (hg : W.grownBy w1 v.ownBlock) (hX : Blk W X t cs) (ht : e ≠ t) : Blk w1 X t cs :=
  hX.upd (Upd.of_grown hg) fun hm => by
    obtain ⟨cur, hcur⟩ := row_type hown X (by simpa using hm)
    exact hcur.ne hX ht rfl
theorem one_parts (ps : List (Int × Nat)) : ∀ u ∈ ps.flatMap encP, u.oneCell' = true := by
  intro u hu
  obtain ⟨p, _, hp⟩ := List.mem_flatMap.1 hu
  simp only [encP, List.mem_cons, List.not_mem_nil, or_false] at hp
  rcases hp with rfl | rfl <;> rfl
theorem length_parts (ps : List (Int × Nat)) : (ps.flatMap encP).length = ps.length * 2 := by
  induction ps with
  | nil => rfl
  | cons p ps ih => rw [List.flatMap_cons, List.length_append, ih, List.length_cons]; simp [encP]; omega

set_option maxRecDepth 100000 in
set_option maxHeartbeats 8000000 in
theorem body_any {w : World} {lo : Nat} {m : Mg} {h : Hd} (hm : MgIn w lo m h) (hok : m.Ok) :
    Calls Try.prog 22 #[.agg (mcells m h).toArray] w fun e w' => ∃ v, e = .returned (.tuple #[.int .u8 (bodyM m).t, .int .i64 (bodyM m).n, v, .bool (bodyM m).is]) ∧
      w'.ownsRow w.heap.size 94 2 v (bodyM m).ps.length ((bodyM m).ps.flatMap encP) ∧ Below w.heap.size w w' := by
  obtain ⟨j0, hj0, hy0, hy1, hy2⟩ := info_parts infoP
  obtain ⟨kind, ssrc, media, clock, time, packets, bytes, reports, who, pairs, asks, type⟩ := m
  obtain ⟨rA, rc, wA, wc, pA, pc, aA, ac⟩ := h
  obtain ⟨⟨k1, l1⟩, ⟨k2, l2⟩, ⟨k3, l3⟩, ⟨k4, l4⟩, ⟨k5, l5⟩, ⟨k6, l6⟩, kr, kw, kp, ka, ⟨k7, l7⟩, nr, nw, np, na⟩ := hok
  obtain ⟨hr, hwh, hpa, has⟩ := hm
  dsimp only at k1 l1 k2 l2 k3 l3 k4 l4 k5 l5 k6 l6 k7 l7 kr kw kp ka nr nw np na hr hwh hpa has
  have KR := Lib.hid kr
  have KW := Lib.hid kw
  have KP := Lib.hid kp
  have KA := Lib.hid ka
  have HR := Lib.hid hr
  have HW := Lib.hid hwh
  have HP := Lib.hid hpa
  have HA := Lib.hid has
  clear kr kw kp ka hr hwh hpa has
  simp only [mcells]
  obtain ⟨W1, hW1⟩ : ∃ W1, W1 = w.alloc (.cells #[.int .i64 kind, .int .u32 ssrc, .int .u32 media, .int .u64 clock, .int .u32 time, .int .u32 packets, .int .u32 bytes, .slice rA reports.length rc, .slice wA who.length wc, .slice pA pairs.length pc, .slice aA asks.length ac, .int .u8 type] 59) := ⟨_, rfl⟩
  obtain ⟨X, hXe⟩ : ∃ X, X = w.heap.size := ⟨_, rfl⟩
  have hX : Blk W1 X 59 #[.int .i64 kind, .int .u32 ssrc, .int .u32 media, .int .u64 clock, .int .u32 time, .int .u32 packets, .int .u32 bytes, .slice rA reports.length rc, .slice wA who.length wc, .slice pA pairs.length pc, .slice aA asks.length ac, .int .u8 type] := by rw [hW1, hXe]; exact Blk.new _ _ _
  have hu1 : Below w.heap.size w W1 := by rw [hW1]; exact (Below.refl _ _).alloc (Nat.le_refl _) _
  have x0 : W1.cell? ⟨X, 0, none⟩ = some (.int .i64 kind) := hX.cell 0
  have x1 : W1.cell? ⟨X, 1, none⟩ = some (.int .u32 ssrc) := hX.cell 1
  have HF := Lib.hid (four_any ssrc W1 k1 l1)
  go_enter Try.func22, Try.ntmps22
  go_upto_region 1 with fail
  rw [← hW1, ← hXe]
  have HB1 := Lib.hid hu1
  have HX := Lib.hid hX
  clear hW1 hXe hu1 hX
  go_wp2_with fail
  refine HF.out.mono ?_
  rintro e w2 ⟨rfl, hu2⟩
  have HX2 := Lib.hid (HX.out.upd hu2 (by simp))
  have HB2 := Lib.hid (HB1.out.trans (hu2.below HB1.out.size (by simp)))
  clear HB1 HX hu2 HF x0 x1
  go_upto_region 2 with fail
  obtain ⟨W3, hW3⟩ : ∃ W3, W3 = w2.alloc (.cells #[.int .u64 ssrc, .int .i64 4] 94) := ⟨_, rfl⟩
  obtain ⟨G, hG⟩ : ∃ G, G = w2.heap.size := ⟨_, rfl⟩
  rw [← hW3, ← hG]
  have HO3 : Hid (W3.ownsRow w.heap.size 94 2 (.slice (some ⟨G, 0, none⟩) 1 1) 1 [.int .u64 ssrc, .int .i64 4]) := by rw [hW3, hG]; exact Lib.hid (World.ownsRow_lit w2 _ 1 HB2.out.size (by decide) rfl)
  have HX3 : Hid (Blk W3 X 59 #[.int .i64 kind, .int .u32 ssrc, .int .u32 media, .int .u64 clock, .int .u32 time, .int .u32 packets, .int .u32 bytes, .slice rA reports.length rc, .slice wA who.length wc, .slice pA pairs.length pc, .slice aA asks.length ac, .int .u8 type]) := by rw [hW3]; exact Lib.hid (HX2.out.alloc _)
  have HB3 : Hid (Below w.heap.size w W3) := by rw [hW3]; exact Lib.hid (HB2.out.alloc HB2.out.size _)
  clear hW3 hG HX2 HB2
  have x0 : W3.cell? ⟨X, 0, none⟩ = some (.int .i64 kind) := HX3.out.cell 0
  have x2 : W3.cell? ⟨X, 2, none⟩ = some (.int .u32 media) := HX3.out.cell 2
  have x3 : W3.cell? ⟨X, 3, none⟩ = some (.int .u64 clock) := HX3.out.cell 3
  have x4 : W3.cell? ⟨X, 4, none⟩ = some (.int .u32 time) := HX3.out.cell 4
  have x5 : W3.cell? ⟨X, 5, none⟩ = some (.int .u32 packets) := HX3.out.cell 5
  have x6 : W3.cell? ⟨X, 6, none⟩ = some (.int .u32 bytes) := HX3.out.cell 6
  have x7 : W3.cell? ⟨X, 7, none⟩ = some (.slice rA reports.length rc) := HX3.out.cell 7
  have x8 : W3.cell? ⟨X, 8, none⟩ = some (.slice wA who.length wc) := HX3.out.cell 8
  have x9 : W3.cell? ⟨X, 9, none⟩ = some (.slice pA pairs.length pc) := HX3.out.cell 9
  have x10 : W3.cell? ⟨X, 10, none⟩ = some (.slice aA asks.length ac) := HX3.out.cell 10
  by_cases hk0 : kind = 0
  · skip
    subst hk0
    have y3 : ∀ x : Cls (Upd [] W3), x.w.cell? ⟨X, 3, none⟩ = some (.int .u64 clock) := fun x => (HX3.out.upd x.h (by simp)).cell 3
    have y4 : ∀ x : Cls (Upd [] W3), x.w.cell? ⟨X, 4, none⟩ = some (.int .u32 time) := fun x => (HX3.out.upd x.h (by simp)).cell 4
    have y5 : ∀ x : Cls (Upd [] W3), x.w.cell? ⟨X, 5, none⟩ = some (.int .u32 packets) := fun x => (HX3.out.upd x.h (by simp)).cell 5
    have y6 : ∀ x : Cls (Upd [] W3), x.w.cell? ⟨X, 6, none⟩ = some (.int .u32 bytes) := fun x => (HX3.out.upd x.h (by simp)).cell 6
    have HF : Hid (∀ (x : Cls (Upd [] W3)) (y : Int), 0 ≤ y → y ≤ 4294967295 → Calls Try.prog 33 #[.int .u32 y] x.w fun e w' => e = .returned (.agg #[.int .u64 y, .int .i64 4]) ∧ ∃ m : Cls (Upd [] W3), w' = m.w) := fun x y h1 h2 => quiet_cls ((four_any y x.w h1 h2).mono fun e w' h => ⟨h.1, x.h.next h.2⟩)
    clear x2 x3 x4 x5 x6 x7 x8 x9 x10
    go_upto_region 4 with fail
    refine wp_moves_class_tail (Upd [] W3) ((Upd.refl _ _).drewN 1) 1 17 (by kernel_rfl) (by kernel_rfl) (fun _ _ _ _ h => h) ?_
    intro hne
    simp only [List.take_succ_cons, List.take_zero, List.drop_succ_cons, List.drop_zero]
    repeat (go_big_quiet_step (fail))
    refine wpQuiet_nil (show wpQuiet _ _ _ _ _ _ from ?_)
    repeat (go_big_quiet_step ((go_at_call 33; exact HF.out _ _ (by assumption) (by assumption))))
    refine wpQuiet_nil ?_
    rintro _ ⟨xe, rfl⟩
    obtain ⟨W4, hW4⟩ : ∃ W4, W4 = xe.w := ⟨_, rfl⟩
    have hx4 : Upd [] W3 W4 := by rw [hW4]; exact xe.h
    rw [← hW4]
    have HO2 := Lib.hid (ownsRow_upd HO3.out hx4 (by simp))
    have HX2 := Lib.hid (HX3.out.upd hx4 (by simp))
    have HB2 := Lib.hid (HB3.out.trans (hx4.below HB3.out.size (by simp)))
    clear hW4 hx4 HF x0 y3 y4 y5 y6 HO3 HX3 HB3

    go_wp2_with (at_builtin; refine wpList_append_own_at _ rfl (.tmp 21) (.tmp 38) 69 rfl w.heap.size 94 j0 _ 2 16 Try.underlying69 hj0 hy0 hy1 hy2 rfl (by decide) _ 1 [.int .u64 ssrc, .int .i64 4] rfl (HO2.out.alloc _) ⟨W4.heap.size, 0, none⟩ 4 4 [.int .u64 clock, .int .i64 8, .int .u64 time, .int .i64 4, .int .u64 packets, .int .i64 4, .int .u64 bytes, .int .i64 4] rfl rfl ?u1 ?u2 ?u3 ?u4 ?u5 ?_)
    case u1 => exact blk_src (Blk.new W4 94 _)
    case u2 => intro u hu; repeat (first | (rcases List.mem_cons.1 hu with rfl | hu; · rfl) | cases hu)
    case u3 => unfold maxLen; omega
    case u4 => omega
    case u5 => simp; have := HB2.out.size; omega

    intro v5 w5 hown5 hg5 _ hat5
    obtain ⟨A5, c5, hv5, _⟩ := own_form hown5
    subst hv5
    have HXa := Lib.hid (app_blk HO2.out hg5 HX2.out (by decide))
    have HBa := Lib.hid (app_below HB2.out HB2.out.size HO2.out hg5)
    have HOa := Lib.hid hown5
    obtain ⟨Wa, rfl⟩ : ∃ Wa : World, Wa = w5 := ⟨_, rfl⟩
    clear hown5 hg5 hat5 HO2 HX2 HB2

    have HOd := Lib.hid (ownsRow_upd HOa.out ((Upd.refl [] Wa).drewN 1) (by simp))
    have HXd := Lib.hid (HXa.out.upd ((Upd.refl [] Wa).drewN 1) (by simp))
    have HBd := Lib.hid (HBa.out.trans (((Upd.refl [] Wa).drewN 1).below HBa.out.size (by simp)))
    have HRC := Lib.hid ((HR.out.below HBd.out (Nat.le_refl _)).more (Nat.le_refl lo) HBd.out.size)
    obtain ⟨ns, hns⟩ : ∃ ns, ns = (reports.flatMap repParts).flatMap encP := ⟨_, rfl⟩
    have HN1 : Hid (∀ u ∈ ns, u.oneCell' = true) := by rw [hns]; exact Lib.hid (one_parts _)
    have HNS := Lib.hid hns
    have x7 : Wa.cell? ⟨X, 7, none⟩ = some (.slice rA reports.length rc) := HXa.out.cell 7
    clear hns HOa HXa HBa
    go_upto_region 5 with fail
    go_region_law (first
      | (refine step_append_src _ (by rfl) (.tmp 43) (.tmp 46) 69 (by rfl) w.heap.size 94 j0 _ 2 16 Try.underlying69 hj0 hy0 hy1 hy2 rfl (by decide) (.slice A5 (1 + 4) c5) 5 ([.int .u64 ssrc, .int .i64 4] ++ [.int .u64 clock, .int .i64 8, .int .u64 time, .int .i64 4, .int .u64 packets, .int .i64 4, .int .u64 bytes, .int .i64 4]) (by rfl) HO5.out AR (7 * reports.length) cR ns (by rfl) HNR.out HNL.out HNC.out HN1.out (by unfold maxLen; omega) (by omega) HS5.out ?_; intro v6 w6 hown6 hg6 hat6; obtain ⟨A6, c6, hv6, _⟩ := own_form hown6; subst hv6; have z7 : w6.cell? ⟨X, 7, none⟩ = some (.slice rA reports.length rc) := (app_blk' HO5.out hg6 HX5.out (by decide)).cell 7; have HB6 := Lib.hid (app_below' HB5.out HS5.out HO5.out hg6); have HO6 := Lib.hid hown6; clear hown6 hg6 hat6)
      | (go_simp; go_at_call 34; refine (reports_any (lo := lo) HRC.out KR.out nr).mono ?_; rintro e w5 ⟨vR, rfl, hoR, hbR⟩; obtain ⟨AR, cR, hvR, hlR, _, hnR⟩ := own_form hoR; subst hvR; rw [← HNS.out] at hoR; have HO5 := Lib.hid (ownsRow_upd HOd.out (Upd.of_below (S := []) hbR) (by simp)); have HX5 := Lib.hid (HXd.out.below hbR HXd.out.lt); have HB5 := Lib.hid (HBd.out.trans (hbR.mono HBd.out.size)); have HS5 := Lib.hid HB5.out.size; have HNR := Lib.hid hnR; have HNC := Lib.hid (CellsIn.of_own hoR).src; have HNL := Lib.hid hoR.1; have y7 : w5.cell? ⟨X, 7, none⟩ = some (.slice rA reports.length rc) := HX5.out.cell 7; clear hoR hbR hnR))
    all_goals
      go_wp2
      have hd : decide ((reports.length : Int) ≤ 31) = decide (reports.length ≤ 31) := decide_eq_decide.2 (by omega)
      refine bodyPost_res (v := .tuple #[.int .u8 200, .int .i64 reports.length, .slice A6 (5 + 7 * reports.length) c6, .bool (decide ((reports.length : Int) ≤ 31))]) (by simp [results, Try.results22, go_sem]) rfl ⟨_, by rw [hd]; rfl, ?_, HB6.out⟩
      have h6 := HO6.out
      rw [HNS.out] at h6
      have hl : (5 + 7 * reports.length) = ([(ssrc, 4), (clock, 8), (time, 4), (packets, 4), (bytes, 4)] ++ reports.flatMap repParts).length := by
        have h7 := h6.1
        simp only [List.length_append, List.length_cons, List.length_nil, length_parts] at h7 ⊢
        omega
      show w6.ownsRow _ _ _ _ (List.length (_ ++ _)) _
      rw [← hl]
      exact h6
  by_cases hk1 : kind = 1
  · skip
    subst hk1
    clear x2 x3 x4 x5 x6 x7 x8 x9 x10

    have HOd := Lib.hid (ownsRow_upd HO3.out ((Upd.refl [] W3).drewN 1) (by simp))
    have HXd := Lib.hid (HX3.out.upd ((Upd.refl [] W3).drewN 1) (by simp))
    have HBd := Lib.hid (HB3.out.trans (((Upd.refl [] W3).drewN 1).below HB3.out.size (by simp)))
    have HRC := Lib.hid ((HR.out.below HBd.out (Nat.le_refl _)).more (Nat.le_refl lo) HBd.out.size)
    obtain ⟨ns, hns⟩ : ∃ ns, ns = (reports.flatMap repParts).flatMap encP := ⟨_, rfl⟩
    have HN1 : Hid (∀ u ∈ ns, u.oneCell' = true) := by rw [hns]; exact Lib.hid (one_parts _)
    have HNS := Lib.hid hns
    have x7 : W3.cell? ⟨X, 7, none⟩ = some (.slice rA reports.length rc) := HX3.out.cell 7
    clear hns HO3 HX3 HB3
    go_upto_region 7 with fail
    go_region_law (first
      | (refine step_append_src _ (by rfl) (.tmp 57) (.tmp 60) 69 (by rfl) w.heap.size 94 j0 _ 2 16 Try.underlying69 hj0 hy0 hy1 hy2 rfl (by decide) (.slice (some ⟨G, 0, none⟩) 1 1) 1 [.int .u64 ssrc, .int .i64 4] (by rfl) HO5.out AR (7 * reports.length) cR ns (by rfl) HNR.out HNL.out HNC.out HN1.out (by unfold maxLen; omega) (by omega) HS5.out ?_; intro v6 w6 hown6 hg6 hat6; obtain ⟨A6, c6, hv6, _⟩ := own_form hown6; subst hv6; have z7 : w6.cell? ⟨X, 7, none⟩ = some (.slice rA reports.length rc) := (app_blk' HO5.out hg6 HX5.out (by decide)).cell 7; have HB6 := Lib.hid (app_below' HB5.out HS5.out HO5.out hg6); have HO6 := Lib.hid hown6; clear hown6 hg6 hat6)
      | (go_simp; go_at_call 34; refine (reports_any (lo := lo) HRC.out KR.out nr).mono ?_; rintro e w5 ⟨vR, rfl, hoR, hbR⟩; obtain ⟨AR, cR, hvR, hlR, _, hnR⟩ := own_form hoR; subst hvR; rw [← HNS.out] at hoR; have HO5 := Lib.hid (ownsRow_upd HOd.out (Upd.of_below (S := []) hbR) (by simp)); have HX5 := Lib.hid (HXd.out.below hbR HXd.out.lt); have HB5 := Lib.hid (HBd.out.trans (hbR.mono HBd.out.size)); have HS5 := Lib.hid HB5.out.size; have HNR := Lib.hid hnR; have HNC := Lib.hid (CellsIn.of_own hoR).src; have HNL := Lib.hid hoR.1; have y7 : w5.cell? ⟨X, 7, none⟩ = some (.slice rA reports.length rc) := HX5.out.cell 7; clear hoR hbR hnR))
    all_goals
      go_wp2
      have hd : decide ((reports.length : Int) ≤ 31) = decide (reports.length ≤ 31) := decide_eq_decide.2 (by omega)
      refine bodyPost_res (v := .tuple #[.int .u8 201, .int .i64 reports.length, .slice A6 (1 + 7 * reports.length) c6, .bool (decide ((reports.length : Int) ≤ 31))]) (by simp [results, Try.results22, go_sem]) rfl ⟨_, by rw [hd]; rfl, ?_, HB6.out⟩
      have h6 := HO6.out
      rw [HNS.out] at h6
      have hl : (1 + 7 * reports.length) = ([(ssrc, 4)] ++ reports.flatMap repParts).length := by
        have h7 := h6.1
        simp only [List.length_append, List.length_cons, List.length_nil, length_parts] at h7 ⊢
        omega
      show w6.ownsRow _ _ _ _ (List.length (_ ++ _)) _
      rw [← hl]
      exact h6
  by_cases hk2 : kind = 2
  · skip
    subst hk2
    have HXW := HX3
    clear x2 x3 x4 x5 x6 x7 x9 x10
    go_wp2
    clear x0 x8 HO3
    go_loopg [6, 71] who.length (fun gk x6 x71 wr => ∃ i : Nat, i ≤ who.length ∧ who.length ≤ i + gk ∧ x71 = .int .i64 i ∧ wr.ownsRow w.heap.size 94 2 x6 i (((who.take i).map fun x => (x, 4)).flatMap encP) ∧ Below w.heap.size w wr ∧ Blk wr X 59 #[.int .i64 2, .int .u32 ssrc, .int .u32 media, .int .u64 clock, .int .u32 time, .int .u32 packets, .int .u32 bytes, .slice rA reports.length rc, .slice wA who.length wc, .slice pA pairs.length pc, .slice aA asks.length ac, .int .u8 type])
    case atStart => exact ⟨0, Nat.zero_le _, by omega, rfl, World.ownsRow_nil _ _ _ _, HB3.out, HX3.out⟩
    case round =>
      obtain ⟨i, hi, hgi, rfl, hown, hbel, hX⟩ := hrel
      obtain ⟨Av, cv, hve, _⟩ := own_form hown
      subst hve
      by_cases hlt : i < who.length
      · obtain ⟨x, hxi⟩ : ∃ x, who[i]? = some x := ⟨_, List.getElem?_eq_getElem hlt⟩
        obtain ⟨h0, h1⟩ := KW.out x (List.mem_of_getElem? hxi)
        obtain ⟨b, off, rfl, hb1, hb2, hcc⟩ := HW.out.2 (by omega)
        have c0 := (hbel.cell (p := ⟨b, off + i, none⟩) hb2).trans (hcc i (.int .u32 x) (by rw [List.getElem?_map, hxi]; rfl))
        have HF := Lib.hid (four_any x wr h0 h1)
        obtain ⟨ys, hys⟩ : ∃ ys, ys = ((who.take i).map fun x => (x, 4)).flatMap encP := ⟨_, rfl⟩
        rw [← hys] at hown
        have HO := Lib.hid hown
        have HBE := Lib.hid hbel
        have HXX := Lib.hid hX
        have HYS := Lib.hid hys
        have HXI := Lib.hid hxi
        clear hcc hown hbel hX hys hxi HB3 HX3 HXW
        go_wp2_with fail
        refine HF.out.mono ?_
        rintro e w4 ⟨rfl, hu4⟩
        have HO4 := Lib.hid (ownsRow_upd HO.out hu4 (by simp))
        have HX4 := Lib.hid (HXX.out.upd hu4 (by simp))
        have HB4 := Lib.hid (HBE.out.trans (hu4.below HBE.out.size (by simp)))
        clear hu4 HF HO HXX HBE c0
        go_wp2_with (at_builtin; refine wpList_append_own_at _ rfl (.tmp 75) (.tmp 78) 69 rfl w.heap.size 94 j0 _ 2 16 Try.underlying69 hj0 hy0 hy1 hy2 rfl (by decide) _ i ys rfl (HO4.out.alloc _) ⟨w4.heap.size, 0, none⟩ 1 1 [.int .u64 x, .int .i64 4] rfl rfl ?u1 ?u2 ?u3 ?u4 ?u5 ?_)
        case u1 => exact blk_src (Blk.new w4 94 _)
        case u2 => intro u hu; repeat (first | (rcases List.mem_cons.1 hu with rfl | hu; · rfl) | cases hu)
        case u3 => unfold maxLen; omega
        case u4 => omega
        case u5 => simp; have := HB4.out.size; omega
        intro v5 w5 hown5 hg5 _ hat5
        obtain ⟨A5, c5, hv5, _⟩ := own_form hown5
        subst hv5
        have HX5 := Lib.hid (app_blk HO4.out hg5 HX4.out (by decide))
        have HB5 := Lib.hid (app_below HB4.out HB4.out.size HO4.out hg5)
        have HO5 : Hid (w5.ownsRow w.heap.size 94 2 (.slice A5 (i + 1) c5) (i + 1) (((who.take (i + 1)).map fun x => (x, 4)).flatMap encP)) := by
          rw [List.take_add_one, HXI.out, Option.toList_some, List.map_append, List.flatMap_append, ← HYS.out]; exact Lib.hid hown5
        clear hown5 hg5 hat5 HO4 HX4 HB4
        go_wp2
        go_roundg (gk - 1)
        case measure => omega
        case rel => exact ⟨i + 1, by omega, by omega, by go_num, HO5.out, HB5.out, HX5.out⟩
      · obtain rfl : i = who.length := by omega
        rw [List.take_of_length_le (Nat.le_refl _)] at hown
        have x8 : wr.cell? ⟨X, 8, none⟩ = some (.slice wA who.length wc) := hX.cell 8
        have HO := Lib.hid hown
        have HBE := Lib.hid hbel
        clear hown hbel hX HB3 HX3 HXW hlt
        go_upto_region 15 with fail
        go_quiet (fail)
        go_wp2
        have hd : decide ((who.length : Int) ≤ 31) = decide (who.length ≤ 31) := decide_eq_decide.2 (by omega)
        refine bodyPost_res (v := .tuple #[.int .u8 203, .int .i64 who.length, .slice Av who.length cv, .bool (decide ((who.length : Int) ≤ 31))]) (by simp [results, Try.results22, go_sem]) rfl ⟨_, by rw [hd]; rfl, ?_, HBE.out.trans (((Upd.refl [] wr).drewN nq).below HBE.out.size (by simp))⟩
        have := HO.out
        show (wr.drewN nq).ownsRow _ _ _ _ (List.map _ _).length _
        rw [List.length_map]
        exact this
  by_cases hk3 : kind = 3
  · skip
    subst hk3

    have x2 : W3.cell? ⟨X, 2, none⟩ = some (.int .u32 media) := HX3.out.cell 2
    have HF := Lib.hid (four_any media W3 k2 l2)
    go_wp2_with fail
    refine HF.out.mono ?_
    rintro e w4 ⟨rfl, hu4⟩
    have HO4 := Lib.hid (ownsRow_upd HO3.out hu4 (by simp))
    have HX4 := Lib.hid (HX3.out.upd hu4 (by simp))
    have HB4 := Lib.hid (HB3.out.trans (hu4.below HB3.out.size (by simp)))
    clear HO3 HX3 HB3 hu4 HF x0 x2

    go_wp2_with (at_builtin; refine wpList_append_own_at _ rfl (.tmp 91) (.tmp 95) 69 rfl w.heap.size 94 j0 _ 2 16 Try.underlying69 hj0 hy0 hy1 hy2 rfl (by decide) _ 1 [.int .u64 ssrc, .int .i64 4] rfl (HO4.out.alloc _) ⟨w4.heap.size, 0, none⟩ 1 1 [.int .u64 media, .int .i64 4] rfl rfl ?u1 ?u2 ?u3 ?u4 ?u5 ?_)
    case u1 => exact blk_src (Blk.new w4 94 _)
    case u2 => intro u hu; repeat (first | (rcases List.mem_cons.1 hu with rfl | hu; · rfl) | cases hu)
    case u3 => unfold maxLen; omega
    case u4 => omega
    case u5 => simp; have := HB4.out.size; omega

    intro v5 w5 hown5 hg5 _ hat5
    obtain ⟨A5, c5, hv5, _⟩ := own_form hown5
    subst hv5
    have HX5 := Lib.hid (app_blk HO4.out hg5 HX4.out (by decide))
    have HB5 := Lib.hid (app_below HB4.out HB4.out.size HO4.out hg5)
    have HO5 := Lib.hid hown5
    clear hown5 hg5 hat5 HO4 HX4 HB4

    have z9 : w5.cell? ⟨X, 9, none⟩ = some (.slice pA pairs.length pc) := HX5.out.cell 9
    clear x3 x4 x5 x6 x7 x8 x9 x10
    go_wp2
    clear z9
    go_loopg [6, 100] pairs.length (fun gk x6 xi wr => ∃ i : Nat, i ≤ pairs.length ∧ pairs.length ≤ i + gk ∧ xi = .int .i64 i ∧ wr.ownsRow w.heap.size 94 2 x6 (2 + 2 * i) ([.int .u64 ssrc, .int .i64 4, .int .u64 media, .int .i64 4] ++ ((pairs.take i).flatMap pairParts).flatMap encP) ∧ Below w.heap.size w wr ∧ Blk wr X 59 #[.int .i64 3, .int .u32 ssrc, .int .u32 media, .int .u64 clock, .int .u32 time, .int .u32 packets, .int .u32 bytes, .slice rA reports.length rc, .slice wA who.length wc, .slice pA pairs.length pc, .slice aA asks.length ac, .int .u8 type])
    case atStart => exact ⟨0, Nat.zero_le _, by omega, rfl, by simpa using HO5.out, HB5.out, HX5.out⟩
    case round =>
      obtain ⟨i, hi, hgi, rfl, hown, hbel, hX⟩ := hrel
      obtain ⟨Av, cv, hve, _⟩ := own_form hown
      subst hve
      by_cases hlt : i < pairs.length
      · obtain ⟨x, hxi⟩ : ∃ x, pairs[i]? = some x := ⟨_, List.getElem?_eq_getElem hlt⟩
        obtain ⟨⟨h0, h1⟩, ⟨h2, h3⟩⟩ := KP.out x (List.mem_of_getElem? hxi)
        obtain ⟨b, off, rfl, hb1, hb2, hcc⟩ := HP.out.2 (by omega)
        have c0 := (hbel.cell (p := ⟨b, off + (i * 2 + 0), none⟩) hb2).trans (hcc (i * 2 + 0) _ (flat_get encPair_len pairs i 0 x hxi (by omega)))
        have c1 := (hbel.cell (p := ⟨b, off + (i * 2 + 1), none⟩) hb2).trans (hcc (i * 2 + 1) _ (flat_get encPair_len pairs i 1 x hxi (by omega)))
        obtain ⟨xa, xb⟩ := x
        simp only [← Nat.add_assoc, Nat.add_zero] at c0 c1
        dsimp only at h0 h1 h2 h3
        obtain ⟨ys, hys⟩ : ∃ ys, ys = [.int .u64 ssrc, .int .i64 4, .int .u64 media, .int .i64 4] ++ ((pairs.take i).flatMap pairParts).flatMap encP := ⟨_, rfl⟩
        obtain ⟨cn, hcn⟩ : ∃ cn, cn = 2 + 2 * i := ⟨_, rfl⟩
        have hcb : cn ≤ 1000 := by have := np; omega
        rw [← hys, ← hcn] at hown
        rw [← hcn]
        have HCN := Lib.hid hcn
        have HO := Lib.hid hown
        have HBE := Lib.hid hbel
        have HXX := Lib.hid hX
        have HYS := Lib.hid hys
        have HXI := Lib.hid hxi
        clear hcn hcc hown hbel hX hys hxi HB5 HX5 HO5
        go_upto_region 21 with fail
        obtain ⟨W2, hW2⟩ : ∃ W2, W2 = wr.alloc (.cells #[.int .u16 xa, .int .u16 xb] 68) := ⟨_, rfl⟩
        obtain ⟨Y, hY⟩ : ∃ Y, Y = wr.heap.size := ⟨_, rfl⟩
        rw [← hW2, ← hY]
        have hyb : Blk W2 Y 68 #[.int .u16 xa, .int .u16 xb] := by rw [hW2, hY]; exact Blk.new _ _ _
        have HO2 : Hid (W2.ownsRow w.heap.size 94 2 (.slice Av cn cv) cn ys) := by rw [hW2]; exact Lib.hid (HO.out.alloc _)
        have HX2 := Lib.hid (HXX.out.alloc (.cells #[.int .u16 xa, .int .u16 xb] 68))
        rw [← hW2] at HX2
        have HB2 : Hid (Below w.heap.size w W2) := by rw [hW2]; exact Lib.hid (HBE.out.alloc HBE.out.size _)
        clear hW2 hY HO HXX HBE c0 c1
        have y0 : W2.cell? ⟨Y, 0, none⟩ = some (.int .u16 xa) := hyb.cell 0
        have y1 : W2.cell? ⟨Y, 1, none⟩ = some (.int .u16 xb) := hyb.cell 1
        have hyl := hyb.lt
        clear hyb
        go_wp2_with (at_builtin; refine wpList_append_own_at _ rfl (.tmp 104) (.tmp 113) 69 rfl w.heap.size 94 j0 _ 2 16 Try.underlying69 hj0 hy0 hy1 hy2 rfl (by decide) _ cn ys rfl (HO2.out.alloc _) ⟨W2.heap.size, 0, none⟩ 2 2 [.int .u64 xa, .int .i64 2, .int .u64 xb, .int .i64 2] rfl rfl ?u1 ?u2 ?u3 ?u4 ?u5 ?_)
        case u1 => exact blk_src (Blk.new W2 94 _)
        case u2 => intro u hu; repeat (first | (rcases List.mem_cons.1 hu with rfl | hu; · rfl) | cases hu)
        case u3 => unfold maxLen; omega
        case u4 => omega
        case u5 => simp; have := HB2.out.size; omega
        intro v5 w5 hown5 hg5 _ hat5
        obtain ⟨A6, c6, hv5, _⟩ := own_form hown5
        subst hv5
        have HX6 := Lib.hid (app_blk HO2.out hg5 HX2.out (by decide))
        have HB6 := Lib.hid (app_below HB2.out HB2.out.size HO2.out hg5)
        have HO6 : Hid (w5.ownsRow w.heap.size 94 2 (.slice A6 (cn + 2) c6) (2 + 2 * (i + 1)) ([.int .u64 ssrc, .int .i64 4, .int .u64 media, .int .i64 4] ++ ((pairs.take (i + 1)).flatMap pairParts).flatMap encP)) := by
          rw [List.take_add_one, HXI.out, Option.toList_some, List.flatMap_append, List.flatMap_append, ← List.append_assoc, ← HYS.out, show 2 + 2 * (i + 1) = cn + 2 by have := HCN.out; omega]; exact Lib.hid hown5
        clear hown5 hg5 hat5 HO2 HX2 HB2
        go_wp2
        go_roundg (gk - 1)
        case measure => omega
        case rel => exact ⟨i + 1, by omega, by omega, by go_num, HO6.out, HB6.out, HX6.out⟩
      · obtain rfl : i = pairs.length := by omega
        rw [List.take_of_length_le (Nat.le_refl _)] at hown
        have x8 : wr.cell? ⟨X, 9, none⟩ = some (.slice pA pairs.length pc) := hX.cell 9
        have HO := Lib.hid hown
        have HBE := Lib.hid hbel
        clear hown hbel hX HB5 HX5 HO5 hlt
        go_upto_region 23 with fail
        go_quiet (fail)
        go_wp2
        have hd : decide ((0 : Int) < (pairs.length : Int)) = decide (0 < pairs.length) := decide_eq_decide.2 (by omega)
        refine bodyPost_res (v := .tuple #[.int .u8 205, .int .i64 1, .slice Av (2 + 2 * pairs.length) cv, .bool (decide ((0 : Int) < (pairs.length : Int)))]) (by simp [results, Try.results22, go_sem]) rfl ⟨_, by rw [hd]; rfl, ?_, HBE.out.trans (((Upd.refl [] wr).drewN nq).below HBE.out.size (by simp))⟩
        have h6 := HO.out
        have hl : (2 + 2 * pairs.length) = ([(ssrc, 4), (media, 4)] ++ pairs.flatMap pairParts).length := by
          have h7 := h6.1
          rw [List.length_append] at h7 ⊢
          rw [length_parts] at h7
          simp only [List.length_cons, List.length_nil] at h7 ⊢
          omega
        show (wr.drewN nq).ownsRow _ _ _ _ (List.length (_ ++ _)) _
        rw [← hl]
        exact h6
  by_cases hk4 : kind = 4
  · skip
    subst hk4

    have x2 : W3.cell? ⟨X, 2, none⟩ = some (.int .u32 media) := HX3.out.cell 2
    have HF := Lib.hid (four_any media W3 k2 l2)
    go_wp2_with fail
    refine HF.out.mono ?_
    rintro e w4 ⟨rfl, hu4⟩
    have HO4 := Lib.hid (ownsRow_upd HO3.out hu4 (by simp))
    have HX4 := Lib.hid (HX3.out.upd hu4 (by simp))
    have HB4 := Lib.hid (HB3.out.trans (hu4.below HB3.out.size (by simp)))
    clear HO3 HX3 HB3 hu4 HF x0 x2

    go_wp2_with (at_builtin; refine wpList_append_own_at _ rfl (.tmp 123) (.tmp 127) 69 rfl w.heap.size 94 j0 _ 2 16 Try.underlying69 hj0 hy0 hy1 hy2 rfl (by decide) _ 1 [.int .u64 ssrc, .int .i64 4] rfl (HO4.out.alloc _) ⟨w4.heap.size, 0, none⟩ 1 1 [.int .u64 media, .int .i64 4] rfl rfl ?u1 ?u2 ?u3 ?u4 ?u5 ?_)
    case u1 => exact blk_src (Blk.new w4 94 _)
    case u2 => intro u hu; repeat (first | (rcases List.mem_cons.1 hu with rfl | hu; · rfl) | cases hu)
    case u3 => unfold maxLen; omega
    case u4 => omega
    case u5 => simp; have := HB4.out.size; omega

    intro v5 w5 hown5 hg5 _ hat5
    obtain ⟨A5, c5, hv5, _⟩ := own_form hown5
    subst hv5
    have HX5 := Lib.hid (app_blk HO4.out hg5 HX4.out (by decide))
    have HB5 := Lib.hid (app_below HB4.out HB4.out.size HO4.out hg5)
    have HO5 := Lib.hid hown5
    clear hown5 hg5 hat5 HO4 HX4 HB4

    go_wp2
    exact bodyPost_res (v := .tuple #[.int .u8 206, .int .i64 1, .slice A5 (1 + 1) c5, .bool true]) (by simp [results, Try.results22, go_sem]) rfl ⟨_, rfl, HO5.out, HB5.out⟩
  by_cases hk5 : kind = 5
  · skip
    subst hk5

    have x2 : W3.cell? ⟨X, 2, none⟩ = some (.int .u32 media) := HX3.out.cell 2
    have HF := Lib.hid (four_any media W3 k2 l2)
    go_wp2_with fail
    refine HF.out.mono ?_
    rintro e w4 ⟨rfl, hu4⟩
    have HO4 := Lib.hid (ownsRow_upd HO3.out hu4 (by simp))
    have HX4 := Lib.hid (HX3.out.upd hu4 (by simp))
    have HB4 := Lib.hid (HB3.out.trans (hu4.below HB3.out.size (by simp)))
    clear HO3 HX3 HB3 hu4 HF x0 x2

    go_wp2_with (at_builtin; refine wpList_append_own_at _ rfl (.tmp 131) (.tmp 135) 69 rfl w.heap.size 94 j0 _ 2 16 Try.underlying69 hj0 hy0 hy1 hy2 rfl (by decide) _ 1 [.int .u64 ssrc, .int .i64 4] rfl (HO4.out.alloc _) ⟨w4.heap.size, 0, none⟩ 1 1 [.int .u64 media, .int .i64 4] rfl rfl ?u1 ?u2 ?u3 ?u4 ?u5 ?_)
    case u1 => exact blk_src (Blk.new w4 94 _)
    case u2 => intro u hu; repeat (first | (rcases List.mem_cons.1 hu with rfl | hu; · rfl) | cases hu)
    case u3 => unfold maxLen; omega
    case u4 => omega
    case u5 => simp; have := HB4.out.size; omega

    intro v5 w5 hown5 hg5 _ hat5
    obtain ⟨A5, c5, hv5, _⟩ := own_form hown5
    subst hv5
    have HX5 := Lib.hid (app_blk HO4.out hg5 HX4.out (by decide))
    have HB5 := Lib.hid (app_below HB4.out HB4.out.size HO4.out hg5)
    have HO5 := Lib.hid hown5
    clear hown5 hg5 hat5 HO4 HX4 HB4

    have z9 : w5.cell? ⟨X, 10, none⟩ = some (.slice aA asks.length ac) := HX5.out.cell 10
    clear x3 x4 x5 x6 x7 x8 x9 x10
    go_wp2
    clear z9
    go_loopg [6, 140] asks.length (fun gk x6 xi wr => ∃ i : Nat, i ≤ asks.length ∧ asks.length ≤ i + gk ∧ xi = .int .i64 i ∧ wr.ownsRow w.heap.size 94 2 x6 (2 + 3 * i) ([.int .u64 ssrc, .int .i64 4, .int .u64 media, .int .i64 4] ++ ((asks.take i).flatMap askParts).flatMap encP) ∧ Below w.heap.size w wr ∧ Blk wr X 59 #[.int .i64 5, .int .u32 ssrc, .int .u32 media, .int .u64 clock, .int .u32 time, .int .u32 packets, .int .u32 bytes, .slice rA reports.length rc, .slice wA who.length wc, .slice pA pairs.length pc, .slice aA asks.length ac, .int .u8 type])
    case atStart => exact ⟨0, Nat.zero_le _, by omega, rfl, by simpa using HO5.out, HB5.out, HX5.out⟩
    case round =>
      obtain ⟨i, hi, hgi, rfl, hown, hbel, hX⟩ := hrel
      obtain ⟨Av, cv, hve, _⟩ := own_form hown
      subst hve
      by_cases hlt : i < asks.length
      · obtain ⟨x, hxi⟩ : ∃ x, asks[i]? = some x := ⟨_, List.getElem?_eq_getElem hlt⟩
        obtain ⟨⟨h0, h1⟩, ⟨h2, h3⟩⟩ := KA.out x (List.mem_of_getElem? hxi)
        obtain ⟨b, off, rfl, hb1, hb2, hcc⟩ := HA.out.2 (by omega)
        have c0 := (hbel.cell (p := ⟨b, off + (i * 2 + 0), none⟩) hb2).trans (hcc (i * 2 + 0) _ (flat_get encAsk_len asks i 0 x hxi (by omega)))
        have c1 := (hbel.cell (p := ⟨b, off + (i * 2 + 1), none⟩) hb2).trans (hcc (i * 2 + 1) _ (flat_get encAsk_len asks i 1 x hxi (by omega)))
        obtain ⟨xa, xb⟩ := x
        simp only [← Nat.add_assoc, Nat.add_zero] at c0 c1
        dsimp only at h0 h1 h2 h3
        obtain ⟨ys, hys⟩ : ∃ ys, ys = [.int .u64 ssrc, .int .i64 4, .int .u64 media, .int .i64 4] ++ ((asks.take i).flatMap askParts).flatMap encP := ⟨_, rfl⟩
        obtain ⟨cn, hcn⟩ : ∃ cn, cn = 2 + 3 * i := ⟨_, rfl⟩
        have hcb : cn ≤ 1000 := by have := na; omega
        rw [← hys, ← hcn] at hown
        rw [← hcn]
        have HCN := Lib.hid hcn
        have HO := Lib.hid hown
        have HBE := Lib.hid hbel
        have HXX := Lib.hid hX
        have HYS := Lib.hid hys
        have HXI := Lib.hid hxi
        clear hcn hcc hown hbel hX hys hxi HB5 HX5 HO5
        go_upto_region 31 with fail
        obtain ⟨W2, hW2⟩ : ∃ W2, W2 = wr.alloc (.cells #[.int .u32 xa, .int .u8 xb] 91) := ⟨_, rfl⟩
        obtain ⟨Y, hY⟩ : ∃ Y, Y = wr.heap.size := ⟨_, rfl⟩
        rw [← hW2, ← hY]
        have hyb : Blk W2 Y 91 #[.int .u32 xa, .int .u8 xb] := by rw [hW2, hY]; exact Blk.new _ _ _
        have HO2 : Hid (W2.ownsRow w.heap.size 94 2 (.slice Av cn cv) cn ys) := by rw [hW2]; exact Lib.hid (HO.out.alloc _)
        have HX2 := Lib.hid (HXX.out.alloc (.cells #[.int .u32 xa, .int .u8 xb] 91))
        rw [← hW2] at HX2
        have HB2 : Hid (Below w.heap.size w W2) := by rw [hW2]; exact Lib.hid (HBE.out.alloc HBE.out.size _)
        clear hW2 hY HO HXX HBE c0 c1
        have y0 : ∀ x : Cls (Upd [] W2), x.w.cell? ⟨Y, 0, none⟩ = some (.int .u32 xa) := fun x => (hyb.upd x.h (by simp)).cell 0
        have y1 : ∀ x : Cls (Upd [] W2), x.w.cell? ⟨Y, 1, none⟩ = some (.int .u8 xb) := fun x => (hyb.upd x.h (by simp)).cell 1
        have HF : Hid (∀ (x : Cls (Upd [] W2)) (y : Int), 0 ≤ y → y ≤ 4294967295 → Calls Try.prog 33 #[.int .u32 y] x.w fun e w' => e = .returned (.agg #[.int .u64 y, .int .i64 4]) ∧ ∃ m : Cls (Upd [] W2), w' = m.w) := fun x y h1 h2 => quiet_cls ((four_any y x.w h1 h2).mono fun e w' h => ⟨h.1, x.h.next h.2⟩)
        clear hyb
        refine wp_moves_class_tail (Upd [] W2) ((Upd.refl _ _).drewN 1) 1 9 (by kernel_rfl) (by kernel_rfl) (fun _ _ _ _ h => h) ?_
        intro hne
        simp only [List.take_succ_cons, List.take_zero, List.drop_succ_cons, List.drop_zero]
        repeat (go_big_quiet_step (fail))
        refine wpQuiet_nil (show wpQuiet _ _ _ _ _ _ from ?_)
        repeat (go_big_quiet_step ((go_at_call 33; exact HF.out _ _ (by assumption) (by assumption))))
        refine wpQuiet_nil ?_
        rintro _ ⟨xe, rfl⟩
        obtain ⟨W4, hW4⟩ : ∃ W4, W4 = xe.w := ⟨_, rfl⟩
        have hx4 : Upd [] W2 W4 := by rw [hW4]; exact xe.h
        rw [← hW4]
        replace HO2 := Lib.hid (ownsRow_upd HO2.out hx4 (by simp))
        replace HX2 := Lib.hid (HX2.out.upd hx4 (by simp))
        replace HB2 := Lib.hid (HB2.out.trans (hx4.below HB2.out.size (by simp)))
        clear hW4 hx4 HF y0 y1
        go_wp2_with (at_builtin; refine wpList_append_own_at _ rfl (.tmp 144) (.tmp 153) 69 rfl w.heap.size 94 j0 _ 2 16 Try.underlying69 hj0 hy0 hy1 hy2 rfl (by decide) _ cn ys rfl (HO2.out.alloc _) ⟨W4.heap.size, 0, none⟩ 3 3 [.int .u64 xa, .int .i64 4, .int .u64 xb, .int .i64 1, .int .u64 0, .int .i64 3] rfl rfl ?u1 ?u2 ?u3 ?u4 ?u5 ?_)
        case u1 => exact blk_src (Blk.new W4 94 _)
        case u2 => intro u hu; repeat (first | (rcases List.mem_cons.1 hu with rfl | hu; · rfl) | cases hu)
        case u3 => unfold maxLen; omega
        case u4 => omega
        case u5 => simp; have := HB2.out.size; omega
        intro v5 w5 hown5 hg5 _ hat5
        obtain ⟨A6, c6, hv5, _⟩ := own_form hown5
        subst hv5
        have HX6 := Lib.hid (app_blk HO2.out hg5 HX2.out (by decide))
        have HB6 := Lib.hid (app_below HB2.out HB2.out.size HO2.out hg5)
        have HO6 : Hid (w5.ownsRow w.heap.size 94 2 (.slice A6 (cn + 3) c6) (2 + 3 * (i + 1)) ([.int .u64 ssrc, .int .i64 4, .int .u64 media, .int .i64 4] ++ ((asks.take (i + 1)).flatMap askParts).flatMap encP)) := by
          rw [List.take_add_one, HXI.out, Option.toList_some, List.flatMap_append, List.flatMap_append, ← List.append_assoc, ← HYS.out, show 2 + 3 * (i + 1) = cn + 3 by have := HCN.out; omega]; exact Lib.hid hown5
        clear hown5 hg5 hat5 HO2 HX2 HB2
        go_wp2
        go_roundg (gk - 1)
        case measure => omega
        case rel => exact ⟨i + 1, by omega, by omega, by go_num, HO6.out, HB6.out, HX6.out⟩
      · obtain rfl : i = asks.length := by omega
        rw [List.take_of_length_le (Nat.le_refl _)] at hown
        have x8 : wr.cell? ⟨X, 10, none⟩ = some (.slice aA asks.length ac) := hX.cell 10
        have HO := Lib.hid hown
        have HBE := Lib.hid hbel
        clear hown hbel hX HB5 HX5 HO5 hlt
        go_upto_region 33 with fail
        go_quiet (fail)
        go_wp2
        have hd : decide ((0 : Int) < (asks.length : Int)) = decide (0 < asks.length) := decide_eq_decide.2 (by omega)
        refine bodyPost_res (v := .tuple #[.int .u8 206, .int .i64 4, .slice Av (2 + 3 * asks.length) cv, .bool (decide ((0 : Int) < (asks.length : Int)))]) (by simp [results, Try.results22, go_sem]) rfl ⟨_, by rw [hd]; rfl, ?_, HBE.out.trans (((Upd.refl [] wr).drewN nq).below HBE.out.size (by simp))⟩
        have h6 := HO.out
        have hl : (2 + 3 * asks.length) = ([(ssrc, 4), (media, 4)] ++ asks.flatMap askParts).length := by
          have h7 := h6.1
          rw [List.length_append] at h7 ⊢
          rw [length_parts] at h7
          simp only [List.length_cons, List.length_nil] at h7 ⊢
          omega
        show (wr.drewN nq).ownsRow _ _ _ _ (List.length (_ ++ _)) _
        rw [← hl]
        exact h6
  have n0 : ¬ kind = 0 := hk0
  have n1 : ¬ kind = 1 := hk1
  have n2 : ¬ kind = 2 := hk2
  have n3 : ¬ kind = 3 := hk3
  have n4 : ¬ kind = 4 := hk4
  have n5 : ¬ kind = 5 := hk5
  skip
  go_wp2
  have e : bodyM ⟨kind, ssrc, media, clock, time, packets, bytes, reports, who, pairs, asks, type⟩ = ⟨0, 0, [], false⟩ := by simp [bodyM, n0, n1, n2, n3, n4, n5]
  exact bodyPost_res (v := .tuple #[.int .u8 0, .int .i64 0, .slice none 0 0, .bool false]) (by simp [results, Try.results22, go_sem]) rfl ⟨_, by rw [e]; rfl, by rw [e]; exact World.ownsRow_nil _ _ _ _, HB3.out⟩
end Go.Proofs.Ytgkejdjdccgjbaa
