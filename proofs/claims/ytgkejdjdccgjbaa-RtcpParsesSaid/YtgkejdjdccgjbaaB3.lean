/- Parts of the proof, one behind the other: Body, Is, Put, Rdr, Map, Read. No condition of their own. -/
import Derived.Test.YtgkejdjdccgjbaaB2
import Derived.Deep.RegionLaw
import Derived.Deep.AppendLies
import Derived.Laws.OwnMore
import Derived.Deep.RegionHeld3
import Derived.WideMake
/- rtcp: a message's numbers. Conditions: its rows no longer than 60, its fields numbers of their types. -/
namespace Go.Proofs.Ytgkejdjdccgjbaa
open Go Go.RowKit
set_option maxHeartbeats 400000

def U64 (x : Int) : Prop := 0 ≤ x ∧ x ≤ 18446744073709551615
def U16 (x : Int) : Prop := 0 ≤ x ∧ x ≤ 65535
structure Mg where
  kind : Int
  ssrc : Int
  media : Int
  clock : Int
  time : Int
  packets : Int
  bytes : Int
  reports : List Rep
  who : List Int
  pairs : List (Int × Int)
  asks : List (Int × Int)
  type : Int
/-- where its rows lie -/
structure Hd where
  rA : Option Addr
  rc : Nat
  wA : Option Addr
  wc : Nat
  pA : Option Addr
  pc : Nat
  aA : Option Addr
  ac : Nat
def encPair (p : Int × Int) : List Value := [.int .u16 p.1, .int .u16 p.2]
def encAsk (p : Int × Int) : List Value := [.int .u32 p.1, .int .u8 p.2]
theorem encPair_len (p : Int × Int) : (encPair p).length = 2 := rfl
theorem encAsk_len (p : Int × Int) : (encAsk p).length = 2 := rfl
def mcells (m : Mg) (h : Hd) : List Value := [.int .i64 m.kind, .int .u32 m.ssrc, .int .u32 m.media, .int .u64 m.clock, .int .u32 m.time, .int .u32 m.packets, .int .u32 m.bytes, .slice h.rA m.reports.length h.rc, .slice h.wA m.who.length h.wc, .slice h.pA m.pairs.length h.pc, .slice h.aA m.asks.length h.ac, .int .u8 m.type]
structure MgIn (w : World) (lo : Nat) (m : Mg) (h : Hd) : Prop where
  cr : CellsIn w lo w.heap.size 7 h.rA m.reports.length (m.reports.flatMap encRep)
  cw : CellsIn w lo w.heap.size 1 h.wA m.who.length (m.who.map (Value.int .u32))
  cp : CellsIn w lo w.heap.size 2 h.pA m.pairs.length (m.pairs.flatMap encPair)
  ca : CellsIn w lo w.heap.size 2 h.aA m.asks.length (m.asks.flatMap encAsk)
theorem MgIn.below {w w' : World} {lo : Nat} {m : Mg} {h : Hd} (k : MgIn w lo m h) (b : Below w.heap.size w w') : MgIn w' lo m h :=
  ⟨(k.cr.below b (Nat.le_refl _)).more (Nat.le_refl _) b.size, (k.cw.below b (Nat.le_refl _)).more (Nat.le_refl _) b.size, (k.cp.below b (Nat.le_refl _)).more (Nat.le_refl _) b.size, (k.ca.below b (Nat.le_refl _)).more (Nat.le_refl _) b.size⟩
structure Mg.Ok (m : Mg) : Prop where
  ssrc : U32 m.ssrc
  media : U32 m.media
  clock : U64 m.clock
  time : U32 m.time
  packets : U32 m.packets
  bytes : U32 m.bytes
  reports : ∀ r, r ∈ m.reports → r.Ok
  who : ∀ x, x ∈ m.who → U32 x
  pairs : ∀ p, p ∈ m.pairs → U16 p.1 ∧ U16 p.2
  asks : ∀ p, p ∈ m.asks → U32 p.1 ∧ U8 p.2
  type : U8 m.type
  nr : m.reports.length ≤ 60
  nw : m.who.length ≤ 60
  np : m.pairs.length ≤ 60
  na : m.asks.length ≤ 60
def pairParts (p : Int × Int) : List (Int × Nat) := [(p.1, 2), (p.2, 2)]
def askParts (p : Int × Int) : List (Int × Nat) := [(p.1, 4), (p.2, 1), (0, 3)]
/-- a message's type, count, numbers, and whether it may be put -/
structure Bdy where
  t : Int
  n : Nat
  ps : List (Int × Nat)
  is : Bool
def bodyM (m : Mg) : Bdy :=
  if m.kind = 0 then ⟨200, m.reports.length, [(m.ssrc, 4), (m.clock, 8), (m.time, 4), (m.packets, 4), (m.bytes, 4)] ++ m.reports.flatMap repParts, decide (m.reports.length ≤ 31)⟩
  else if m.kind = 1 then ⟨201, m.reports.length, [(m.ssrc, 4)] ++ m.reports.flatMap repParts, decide (m.reports.length ≤ 31)⟩
  else if m.kind = 2 then ⟨203, m.who.length, m.who.map fun x => (x, 4), decide (m.who.length ≤ 31)⟩
  else if m.kind = 3 then ⟨205, 1, [(m.ssrc, 4), (m.media, 4)] ++ m.pairs.flatMap pairParts, decide (0 < m.pairs.length)⟩
  else if m.kind = 4 then ⟨206, 1, [(m.ssrc, 4), (m.media, 4)], true⟩
  else if m.kind = 5 then ⟨206, 4, [(m.ssrc, 4), (m.media, 4)] ++ m.asks.flatMap askParts, decide (0 < m.asks.length)⟩
  else ⟨0, 0, [], false⟩
theorem app_below {N s n : Nat} {w0 W w1 : World} {e : TypeId} {v : Value} {xs : List Value} {o : Obj} (hB : Below N w0 W) (hN : N ≤ W.heap.size) (hown : W.ownsRow N e s v n xs) (hg : (W.alloc o).grownBy w1 v.ownBlock) : Below N w0 w1 :=
  (hB.alloc hN o).trans (grown_upd (hown.alloc o) hg (Nat.le_trans hN (by simp)))
theorem app_blk {N s n X : Nat} {W w1 : World} {e t : TypeId} {cs : Array Value} {v : Value} {xs : List Value} {o : Obj} (hown : W.ownsRow N e s v n xs) (hg : (W.alloc o).grownBy w1 v.ownBlock) (hX : Blk W X t cs) (ht : e ≠ t) : Blk w1 X t cs :=
  (hX.alloc o).upd (Upd.of_grown hg) fun hm => by
    obtain ⟨cur, hcur⟩ := row_type hown X (by simpa using hm)
    exact hcur.ne hX ht rfl
theorem app_below' {N s n : Nat} {w0 W w1 : World} {e : TypeId} {v : Value} {xs : List Value} (hB : Below N w0 W) (hN : N ≤ W.heap.size) (hown : W.ownsRow N e s v n xs) (hg : W.grownBy w1 v.ownBlock) : Below N w0 w1 :=
  hB.trans (grown_upd hown hg hN)
theorem app_blk' {N s n X : Nat} {W w1 : World} {e t : TypeId} {cs : Array Value} {v : Value} {xs : List Value} (hown : W.ownsRow N e s v n xs) (hg : W.grownBy w1 v.ownBlock) (hX : Blk W X t cs) (ht : e ≠ t) : Blk w1 X t cs :=
  hX.upd (Upd.of_grown hg) fun hm => by
    obtain ⟨cur, hcur⟩ := row_type hown X (by simpa using hm)
    exact hcur.ne hX ht rfl
theorem one_parts (ps : List (Int × Nat)) : ∀ u ∈ ps.flatMap encP, u.oneCell' = true := by
  intro u hu
  obtain ⟨p, _, hp⟩ := List.mem_flatMap.1 hu
  simp only [encP, List.mem_cons, List.not_mem_nil, or_false] at hp
  rcases hp with rfl | rfl <;> rfl
theorem length_parts (ps : List (Int × Nat)) : (ps.flatMap encP).length = ps.length * 2 := by
  induction ps with
  | nil => rfl
  | cons p ps ih => rw [List.flatMap_cons, List.length_append, ih, List.length_cons]; simp [encP]; omega

set_option maxRecDepth 100000 in
set_option maxHeartbeats 8000000 in
theorem body_any {w : World} {lo : Nat} {m : Mg} {h : Hd} (hm : MgIn w lo m h) (hok : m.Ok) :
    Calls Try.prog 22 #[.agg (mcells m h).toArray] w fun e w' => ∃ v, e = .returned (.tuple #[.int .u8 (bodyM m).t, .int .i64 (bodyM m).n, v, .bool (bodyM m).is]) ∧
      w'.ownsRow w.heap.size 94 2 v (bodyM m).ps.length ((bodyM m).ps.flatMap encP) ∧ Below w.heap.size w w' := by
  obtain ⟨j0, hj0, hy0, hy1, hy2⟩ := info_parts infoP
  obtain ⟨kind, ssrc, media, clock, time, packets, bytes, reports, who, pairs, asks, type⟩ := m
  obtain ⟨rA, rc, wA, wc, pA, pc, aA, ac⟩ := h
  obtain ⟨⟨k1, l1⟩, ⟨k2, l2⟩, ⟨k3, l3⟩, ⟨k4, l4⟩, ⟨k5, l5⟩, ⟨k6, l6⟩, kr, kw, kp, ka, ⟨k7, l7⟩, nr, nw, np, na⟩ := hok
  obtain ⟨hr, hwh, hpa, has⟩ := hm
  dsimp only at k1 l1 k2 l2 k3 l3 k4 l4 k5 l5 k6 l6 k7 l7 kr kw kp ka nr nw np na hr hwh hpa has
  have KR := Lib.hid kr
  have KW := Lib.hid kw
  have KP := Lib.hid kp
  have KA := Lib.hid ka
  have HR := Lib.hid hr
  have HW := Lib.hid hwh
  have HP := Lib.hid hpa
  have HA := Lib.hid has
  clear kr kw kp ka hr hwh hpa has
  simp only [mcells]
  obtain ⟨W1, hW1⟩ : ∃ W1, W1 = w.alloc (.cells #[.int .i64 kind, .int .u32 ssrc, .int .u32 media, .int .u64 clock, .int .u32 time, .int .u32 packets, .int .u32 bytes, .slice rA reports.length rc, .slice wA who.length wc, .slice pA pairs.length pc, .slice aA asks.length ac, .int .u8 type] 59) := ⟨_, rfl⟩
  obtain ⟨X, hXe⟩ : ∃ X, X = w.heap.size := ⟨_, rfl⟩
  have hX : Blk W1 X 59 #[.int .i64 kind, .int .u32 ssrc, .int .u32 media, .int .u64 clock, .int .u32 time, .int .u32 packets, .int .u32 bytes, .slice rA reports.length rc, .slice wA who.length wc, .slice pA pairs.length pc, .slice aA asks.length ac, .int .u8 type] := by rw [hW1, hXe]; exact Blk.new _ _ _
  have hu1 : Below w.heap.size w W1 := by rw [hW1]; exact (Below.refl _ _).alloc (Nat.le_refl _) _
  have x0 : W1.cell? ⟨X, 0, none⟩ = some (.int .i64 kind) := hX.cell 0
  have x1 : W1.cell? ⟨X, 1, none⟩ = some (.int .u32 ssrc) := hX.cell 1
  have HF := Lib.hid (four_any ssrc W1 k1 l1)
  go_enter Try.func22, Try.ntmps22
  go_upto_region 1 with fail
  rw [← hW1, ← hXe]
  have HB1 := Lib.hid hu1
  have HX := Lib.hid hX
  clear hW1 hXe hu1 hX
  go_wp2_with fail
  refine HF.out.mono ?_
  rintro e w2 ⟨rfl, hu2⟩
  have HX2 := Lib.hid (HX.out.upd hu2 (by simp))
  have HB2 := Lib.hid (HB1.out.trans (hu2.below HB1.out.size (by simp)))
  clear HB1 HX hu2 HF x0 x1
  go_upto_region 2 with fail
  obtain ⟨W3, hW3⟩ : ∃ W3, W3 = w2.alloc (.cells #[.int .u64 ssrc, .int .i64 4] 94) := ⟨_, rfl⟩
  obtain ⟨G, hG⟩ : ∃ G, G = w2.heap.size := ⟨_, rfl⟩
  rw [← hW3, ← hG]
  have HO3 : Hid (W3.ownsRow w.heap.size 94 2 (.slice (some ⟨G, 0, none⟩) 1 1) 1 [.int .u64 ssrc, .int .i64 4]) := by rw [hW3, hG]; exact Lib.hid (World.ownsRow_lit w2 _ 1 HB2.out.size (by decide) rfl)
  have HX3 : Hid (Blk W3 X 59 #[.int .i64 kind, .int .u32 ssrc, .int .u32 media, .int .u64 clock, .int .u32 time, .int .u32 packets, .int .u32 bytes, .slice rA reports.length rc, .slice wA who.length wc, .slice pA pairs.length pc, .slice aA asks.length ac, .int .u8 type]) := by rw [hW3]; exact Lib.hid (HX2.out.alloc _)
  have HB3 : Hid (Below w.heap.size w W3) := by rw [hW3]; exact Lib.hid (HB2.out.alloc HB2.out.size _)
  clear hW3 hG HX2 HB2
  have x0 : W3.cell? ⟨X, 0, none⟩ = some (.int .i64 kind) := HX3.out.cell 0
  have x2 : W3.cell? ⟨X, 2, none⟩ = some (.int .u32 media) := HX3.out.cell 2
  have x3 : W3.cell? ⟨X, 3, none⟩ = some (.int .u64 clock) := HX3.out.cell 3
  have x4 : W3.cell? ⟨X, 4, none⟩ = some (.int .u32 time) := HX3.out.cell 4
  have x5 : W3.cell? ⟨X, 5, none⟩ = some (.int .u32 packets) := HX3.out.cell 5
  have x6 : W3.cell? ⟨X, 6, none⟩ = some (.int .u32 bytes) := HX3.out.cell 6
  have x7 : W3.cell? ⟨X, 7, none⟩ = some (.slice rA reports.length rc) := HX3.out.cell 7
  have x8 : W3.cell? ⟨X, 8, none⟩ = some (.slice wA who.length wc) := HX3.out.cell 8
  have x9 : W3.cell? ⟨X, 9, none⟩ = some (.slice pA pairs.length pc) := HX3.out.cell 9
  have x10 : W3.cell? ⟨X, 10, none⟩ = some (.slice aA asks.length ac) := HX3.out.cell 10
  by_cases hk0 : kind = 0
  · skip
    subst hk0
    have y3 : ∀ x : Cls (Upd [] W3), x.w.cell? ⟨X, 3, none⟩ = some (.int .u64 clock) := fun x => (HX3.out.upd x.h (by simp)).cell 3
    have y4 : ∀ x : Cls (Upd [] W3), x.w.cell? ⟨X, 4, none⟩ = some (.int .u32 time) := fun x => (HX3.out.upd x.h (by simp)).cell 4
    have y5 : ∀ x : Cls (Upd [] W3), x.w.cell? ⟨X, 5, none⟩ = some (.int .u32 packets) := fun x => (HX3.out.upd x.h (by simp)).cell 5
    have y6 : ∀ x : Cls (Upd [] W3), x.w.cell? ⟨X, 6, none⟩ = some (.int .u32 bytes) := fun x => (HX3.out.upd x.h (by simp)).cell 6
    have HF : Hid (∀ (x : Cls (Upd [] W3)) (y : Int), 0 ≤ y → y ≤ 4294967295 → Calls Try.prog 33 #[.int .u32 y] x.w fun e w' => e = .returned (.agg #[.int .u64 y, .int .i64 4]) ∧ ∃ m : Cls (Upd [] W3), w' = m.w) := fun x y h1 h2 => quiet_cls ((four_any y x.w h1 h2).mono fun e w' h => ⟨h.1, x.h.next h.2⟩)
    clear x2 x3 x4 x5 x6 x7 x8 x9 x10
    go_upto_region 4 with fail
    refine wp_moves_class_tail (Upd [] W3) ((Upd.refl _ _).drewN 1) 1 17 (by kernel_rfl) (by kernel_rfl) (fun _ _ _ _ h => h) ?_
    intro hne
    simp only [List.take_succ_cons, List.take_zero, List.drop_succ_cons, List.drop_zero]
    repeat (go_big_quiet_step (fail))
    refine wpQuiet_nil (show wpQuiet _ _ _ _ _ _ from ?_)
    repeat (go_big_quiet_step ((go_at_call 33; exact HF.out _ _ (by assumption) (by assumption))))
    refine wpQuiet_nil ?_
    rintro _ ⟨xe, rfl⟩
    obtain ⟨W4, hW4⟩ : ∃ W4, W4 = xe.w := ⟨_, rfl⟩
    have hx4 : Upd [] W3 W4 := by rw [hW4]; exact xe.h
    rw [← hW4]
    have HO2 := Lib.hid (ownsRow_upd HO3.out hx4 (by simp))
    have HX2 := Lib.hid (HX3.out.upd hx4 (by simp))
    have HB2 := Lib.hid (HB3.out.trans (hx4.below HB3.out.size (by simp)))
    clear hW4 hx4 HF x0 y3 y4 y5 y6 HO3 HX3 HB3

    go_wp2_with (at_builtin; refine wpList_append_own_at _ rfl (.tmp 21) (.tmp 38) 69 rfl w.heap.size 94 j0 _ 2 16 Try.underlying69 hj0 hy0 hy1 hy2 rfl (by decide) _ 1 [.int .u64 ssrc, .int .i64 4] rfl (HO2.out.alloc _) ⟨W4.heap.size, 0, none⟩ 4 4 [.int .u64 clock, .int .i64 8, .int .u64 time, .int .i64 4, .int .u64 packets, .int .i64 4, .int .u64 bytes, .int .i64 4] rfl rfl ?u1 ?u2 ?u3 ?u4 ?u5 ?_)
    case u1 => exact blk_src (Blk.new W4 94 _)
    case u2 => intro u hu; repeat (first | (rcases List.mem_cons.1 hu with rfl | hu; · rfl) | cases hu)
    case u3 => unfold maxLen; omega
    case u4 => omega
    case u5 => simp; have := HB2.out.size; omega

    intro v5 w5 hown5 hg5 _ hat5
    obtain ⟨A5, c5, hv5, _⟩ := own_form hown5
    subst hv5
    have HXa := Lib.hid (app_blk HO2.out hg5 HX2.out (by decide))
    have HBa := Lib.hid (app_below HB2.out HB2.out.size HO2.out hg5)
    have HOa := Lib.hid hown5
    obtain ⟨Wa, rfl⟩ : ∃ Wa : World, Wa = w5 := ⟨_, rfl⟩
    clear hown5 hg5 hat5 HO2 HX2 HB2

    have HOd := Lib.hid (ownsRow_upd HOa.out ((Upd.refl [] Wa).drewN 1) (by simp))
    have HXd := Lib.hid (HXa.out.upd ((Upd.refl [] Wa).drewN 1) (by simp))
    have HBd := Lib.hid (HBa.out.trans (((Upd.refl [] Wa).drewN 1).below HBa.out.size (by simp)))
    have HRC := Lib.hid ((HR.out.below HBd.out (Nat.le_refl _)).more (Nat.le_refl lo) HBd.out.size)
    obtain ⟨ns, hns⟩ : ∃ ns, ns = (reports.flatMap repParts).flatMap encP := ⟨_, rfl⟩
    have HN1 : Hid (∀ u ∈ ns, u.oneCell' = true) := by rw [hns]; exact Lib.hid (one_parts _)
    have HNS := Lib.hid hns
    have x7 : Wa.cell? ⟨X, 7, none⟩ = some (.slice rA reports.length rc) := HXa.out.cell 7
    clear hns HOa HXa HBa
    go_upto_region 5 with fail
    go_region_law (first
      | (refine step_append_src _ (by rfl) (.tmp 43) (.tmp 46) 69 (by rfl) w.heap.size 94 j0 _ 2 16 Try.underlying69 hj0 hy0 hy1 hy2 rfl (by decide) (.slice A5 (1 + 4) c5) 5 ([.int .u64 ssrc, .int .i64 4] ++ [.int .u64 clock, .int .i64 8, .int .u64 time, .int .i64 4, .int .u64 packets, .int .i64 4, .int .u64 bytes, .int .i64 4]) (by rfl) HO5.out AR (7 * reports.length) cR ns (by rfl) HNR.out HNL.out HNC.out HN1.out (by unfold maxLen; omega) (by omega) HS5.out ?_; intro v6 w6 hown6 hg6 hat6; obtain ⟨A6, c6, hv6, _⟩ := own_form hown6; subst hv6; have z7 : w6.cell? ⟨X, 7, none⟩ = some (.slice rA reports.length rc) := (app_blk' HO5.out hg6 HX5.out (by decide)).cell 7; have HB6 := Lib.hid (app_below' HB5.out HS5.out HO5.out hg6); have HO6 := Lib.hid hown6; clear hown6 hg6 hat6)
      | (go_simp; go_at_call 34; refine (reports_any (lo := lo) HRC.out KR.out nr).mono ?_; rintro e w5 ⟨vR, rfl, hoR, hbR⟩; obtain ⟨AR, cR, hvR, hlR, _, hnR⟩ := own_form hoR; subst hvR; rw [← HNS.out] at hoR; have HO5 := Lib.hid (ownsRow_upd HOd.out (Upd.of_below (S := []) hbR) (by simp)); have HX5 := Lib.hid (HXd.out.below hbR HXd.out.lt); have HB5 := Lib.hid (HBd.out.trans (hbR.mono HBd.out.size)); have HS5 := Lib.hid HB5.out.size; have HNR := Lib.hid hnR; have HNC := Lib.hid (CellsIn.of_own hoR).src; have HNL := Lib.hid hoR.1; have y7 : w5.cell? ⟨X, 7, none⟩ = some (.slice rA reports.length rc) := HX5.out.cell 7; clear hoR hbR hnR))
    all_goals
      go_wp2
      have hd : decide ((reports.length : Int) ≤ 31) = decide (reports.length ≤ 31) := decide_eq_decide.2 (by omega)
      refine bodyPost_res (v := .tuple #[.int .u8 200, .int .i64 reports.length, .slice A6 (5 + 7 * reports.length) c6, .bool (decide ((reports.length : Int) ≤ 31))]) (by simp [results, Try.results22, go_sem]) rfl ⟨_, by rw [hd]; rfl, ?_, HB6.out⟩
      have h6 := HO6.out
      rw [HNS.out] at h6
      have hl : (5 + 7 * reports.length) = ([(ssrc, 4), (clock, 8), (time, 4), (packets, 4), (bytes, 4)] ++ reports.flatMap repParts).length := by
        have h7 := h6.1
        simp only [List.length_append, List.length_cons, List.length_nil, length_parts] at h7 ⊢
        omega
      show w6.ownsRow _ _ _ _ (List.length (_ ++ _)) _
      rw [← hl]
      exact h6
  by_cases hk1 : kind = 1
  · skip
    subst hk1
    clear x2 x3 x4 x5 x6 x7 x8 x9 x10

    have HOd := Lib.hid (ownsRow_upd HO3.out ((Upd.refl [] W3).drewN 1) (by simp))
    have HXd := Lib.hid (HX3.out.upd ((Upd.refl [] W3).drewN 1) (by simp))
    have HBd := Lib.hid (HB3.out.trans (((Upd.refl [] W3).drewN 1).below HB3.out.size (by simp)))
    have HRC := Lib.hid ((HR.out.below HBd.out (Nat.le_refl _)).more (Nat.le_refl lo) HBd.out.size)
    obtain ⟨ns, hns⟩ : ∃ ns, ns = (reports.flatMap repParts).flatMap encP := ⟨_, rfl⟩
    have HN1 : Hid (∀ u ∈ ns, u.oneCell' = true) := by rw [hns]; exact Lib.hid (one_parts _)
    have HNS := Lib.hid hns
    have x7 : W3.cell? ⟨X, 7, none⟩ = some (.slice rA reports.length rc) := HX3.out.cell 7
    clear hns HO3 HX3 HB3
    go_upto_region 7 with fail
    go_region_law (first
      | (refine step_append_src _ (by rfl) (.tmp 57) (.tmp 60) 69 (by rfl) w.heap.size 94 j0 _ 2 16 Try.underlying69 hj0 hy0 hy1 hy2 rfl (by decide) (.slice (some ⟨G, 0, none⟩) 1 1) 1 [.int .u64 ssrc, .int .i64 4] (by rfl) HO5.out AR (7 * reports.length) cR ns (by rfl) HNR.out HNL.out HNC.out HN1.out (by unfold maxLen; omega) (by omega) HS5.out ?_; intro v6 w6 hown6 hg6 hat6; obtain ⟨A6, c6, hv6, _⟩ := own_form hown6; subst hv6; have z7 : w6.cell? ⟨X, 7, none⟩ = some (.slice rA reports.length rc) := (app_blk' HO5.out hg6 HX5.out (by decide)).cell 7; have HB6 := Lib.hid (app_below' HB5.out HS5.out HO5.out hg6); have HO6 := Lib.hid hown6; clear hown6 hg6 hat6)
      | (go_simp; go_at_call 34; refine (reports_any (lo := lo) HRC.out KR.out nr).mono ?_; rintro e w5 ⟨vR, rfl, hoR, hbR⟩; obtain ⟨AR, cR, hvR, hlR, _, hnR⟩ := own_form hoR; subst hvR; rw [← HNS.out] at hoR; have HO5 := Lib.hid (ownsRow_upd HOd.out (Upd.of_below (S := []) hbR) (by simp)); have HX5 := Lib.hid (HXd.out.below hbR HXd.out.lt); have HB5 := Lib.hid (HBd.out.trans (hbR.mono HBd.out.size)); have HS5 := Lib.hid HB5.out.size; have HNR := Lib.hid hnR; have HNC := Lib.hid (CellsIn.of_own hoR).src; have HNL := Lib.hid hoR.1; have y7 : w5.cell? ⟨X, 7, none⟩ = some (.slice rA reports.length rc) := HX5.out.cell 7; clear hoR hbR hnR))
    all_goals
      go_wp2
      have hd : decide ((reports.length : Int) ≤ 31) = decide (reports.length ≤ 31) := decide_eq_decide.2 (by omega)
      refine bodyPost_res (v := .tuple #[.int .u8 201, .int .i64 reports.length, .slice A6 (1 + 7 * reports.length) c6, .bool (decide ((reports.length : Int) ≤ 31))]) (by simp [results, Try.results22, go_sem]) rfl ⟨_, by rw [hd]; rfl, ?_, HB6.out⟩
      have h6 := HO6.out
      rw [HNS.out] at h6
      have hl : (1 + 7 * reports.length) = ([(ssrc, 4)] ++ reports.flatMap repParts).length := by
        have h7 := h6.1
        simp only [List.length_append, List.length_cons, List.length_nil, length_parts] at h7 ⊢
        omega
      show w6.ownsRow _ _ _ _ (List.length (_ ++ _)) _
      rw [← hl]
      exact h6
  by_cases hk2 : kind = 2
  · skip
    subst hk2
    have HXW := HX3
    clear x2 x3 x4 x5 x6 x7 x9 x10
    go_wp2
    clear x0 x8 HO3
    go_loopg [6, 71] who.length (fun gk x6 x71 wr => ∃ i : Nat, i ≤ who.length ∧ who.length ≤ i + gk ∧ x71 = .int .i64 i ∧ wr.ownsRow w.heap.size 94 2 x6 i (((who.take i).map fun x => (x, 4)).flatMap encP) ∧ Below w.heap.size w wr ∧ Blk wr X 59 #[.int .i64 2, .int .u32 ssrc, .int .u32 media, .int .u64 clock, .int .u32 time, .int .u32 packets, .int .u32 bytes, .slice rA reports.length rc, .slice wA who.length wc, .slice pA pairs.length pc, .slice aA asks.length ac, .int .u8 type])
    case atStart => exact ⟨0, Nat.zero_le _, by omega, rfl, World.ownsRow_nil _ _ _ _, HB3.out, HX3.out⟩
    case round =>
      obtain ⟨i, hi, hgi, rfl, hown, hbel, hX⟩ := hrel
      obtain ⟨Av, cv, hve, _⟩ := own_form hown
      subst hve
      by_cases hlt : i < who.length
      · obtain ⟨x, hxi⟩ : ∃ x, who[i]? = some x := ⟨_, List.getElem?_eq_getElem hlt⟩
        obtain ⟨h0, h1⟩ := KW.out x (List.mem_of_getElem? hxi)
        obtain ⟨b, off, rfl, hb1, hb2, hcc⟩ := HW.out.2 (by omega)
        have c0 := (hbel.cell (p := ⟨b, off + i, none⟩) hb2).trans (hcc i (.int .u32 x) (by rw [List.getElem?_map, hxi]; rfl))
        have HF := Lib.hid (four_any x wr h0 h1)
        obtain ⟨ys, hys⟩ : ∃ ys, ys = ((who.take i).map fun x => (x, 4)).flatMap encP := ⟨_, rfl⟩
        rw [← hys] at hown
        have HO := Lib.hid hown
        have HBE := Lib.hid hbel
        have HXX := Lib.hid hX
        have HYS := Lib.hid hys
        have HXI := Lib.hid hxi
        clear hcc hown hbel hX hys hxi HB3 HX3 HXW
        go_wp2_with fail
        refine HF.out.mono ?_
        rintro e w4 ⟨rfl, hu4⟩
        have HO4 := Lib.hid (ownsRow_upd HO.out hu4 (by simp))
        have HX4 := Lib.hid (HXX.out.upd hu4 (by simp))
        have HB4 := Lib.hid (HBE.out.trans (hu4.below HBE.out.size (by simp)))
        clear hu4 HF HO HXX HBE c0
        go_wp2_with (at_builtin; refine wpList_append_own_at _ rfl (.tmp 75) (.tmp 78) 69 rfl w.heap.size 94 j0 _ 2 16 Try.underlying69 hj0 hy0 hy1 hy2 rfl (by decide) _ i ys rfl (HO4.out.alloc _) ⟨w4.heap.size, 0, none⟩ 1 1 [.int .u64 x, .int .i64 4] rfl rfl ?u1 ?u2 ?u3 ?u4 ?u5 ?_)
        case u1 => exact blk_src (Blk.new w4 94 _)
        case u2 => intro u hu; repeat (first | (rcases List.mem_cons.1 hu with rfl | hu; · rfl) | cases hu)
        case u3 => unfold maxLen; omega
        case u4 => omega
        case u5 => simp; have := HB4.out.size; omega
        intro v5 w5 hown5 hg5 _ hat5
        obtain ⟨A5, c5, hv5, _⟩ := own_form hown5
        subst hv5
        have HX5 := Lib.hid (app_blk HO4.out hg5 HX4.out (by decide))
        have HB5 := Lib.hid (app_below HB4.out HB4.out.size HO4.out hg5)
        have HO5 : Hid (w5.ownsRow w.heap.size 94 2 (.slice A5 (i + 1) c5) (i + 1) (((who.take (i + 1)).map fun x => (x, 4)).flatMap encP)) := by
          rw [List.take_add_one, HXI.out, Option.toList_some, List.map_append, List.flatMap_append, ← HYS.out]; exact Lib.hid hown5
        clear hown5 hg5 hat5 HO4 HX4 HB4
        go_wp2
        go_roundg (gk - 1)
        case measure => omega
        case rel => exact ⟨i + 1, by omega, by omega, by go_num, HO5.out, HB5.out, HX5.out⟩
      · obtain rfl : i = who.length := by omega
        rw [List.take_of_length_le (Nat.le_refl _)] at hown
        have x8 : wr.cell? ⟨X, 8, none⟩ = some (.slice wA who.length wc) := hX.cell 8
        have HO := Lib.hid hown
        have HBE := Lib.hid hbel
        clear hown hbel hX HB3 HX3 HXW hlt
        go_upto_region 15 with fail
        go_quiet (fail)
        go_wp2
        have hd : decide ((who.length : Int) ≤ 31) = decide (who.length ≤ 31) := decide_eq_decide.2 (by omega)
        refine bodyPost_res (v := .tuple #[.int .u8 203, .int .i64 who.length, .slice Av who.length cv, .bool (decide ((who.length : Int) ≤ 31))]) (by simp [results, Try.results22, go_sem]) rfl ⟨_, by rw [hd]; rfl, ?_, HBE.out.trans (((Upd.refl [] wr).drewN nq).below HBE.out.size (by simp))⟩
        have := HO.out
        show (wr.drewN nq).ownsRow _ _ _ _ (List.map _ _).length _
        rw [List.length_map]
        exact this
  by_cases hk3 : kind = 3
  · skip
    subst hk3

    have x2 : W3.cell? ⟨X, 2, none⟩ = some (.int .u32 media) := HX3.out.cell 2
    have HF := Lib.hid (four_any media W3 k2 l2)
    go_wp2_with fail
    refine HF.out.mono ?_
    rintro e w4 ⟨rfl, hu4⟩
    have HO4 := Lib.hid (ownsRow_upd HO3.out hu4 (by simp))
    have HX4 := Lib.hid (HX3.out.upd hu4 (by simp))
    have HB4 := Lib.hid (HB3.out.trans (hu4.below HB3.out.size (by simp)))
    clear HO3 HX3 HB3 hu4 HF x0 x2

    go_wp2_with (at_builtin; refine wpList_append_own_at _ rfl (.tmp 91) (.tmp 95) 69 rfl w.heap.size 94 j0 _ 2 16 Try.underlying69 hj0 hy0 hy1 hy2 rfl (by decide) _ 1 [.int .u64 ssrc, .int .i64 4] rfl (HO4.out.alloc _) ⟨w4.heap.size, 0, none⟩ 1 1 [.int .u64 media, .int .i64 4] rfl rfl ?u1 ?u2 ?u3 ?u4 ?u5 ?_)
    case u1 => exact blk_src (Blk.new w4 94 _)
    case u2 => intro u hu; repeat (first | (rcases List.mem_cons.1 hu with rfl | hu; · rfl) | cases hu)
    case u3 => unfold maxLen; omega
    case u4 => omega
    case u5 => simp; have := HB4.out.size; omega

    intro v5 w5 hown5 hg5 _ hat5
    obtain ⟨A5, c5, hv5, _⟩ := own_form hown5
    subst hv5
    have HX5 := Lib.hid (app_blk HO4.out hg5 HX4.out (by decide))
    have HB5 := Lib.hid (app_below HB4.out HB4.out.size HO4.out hg5)
    have HO5 := Lib.hid hown5
    clear hown5 hg5 hat5 HO4 HX4 HB4

    have z9 : w5.cell? ⟨X, 9, none⟩ = some (.slice pA pairs.length pc) := HX5.out.cell 9
    clear x3 x4 x5 x6 x7 x8 x9 x10
    go_wp2
    clear z9
    go_loopg [6, 100] pairs.length (fun gk x6 xi wr => ∃ i : Nat, i ≤ pairs.length ∧ pairs.length ≤ i + gk ∧ xi = .int .i64 i ∧ wr.ownsRow w.heap.size 94 2 x6 (2 + 2 * i) ([.int .u64 ssrc, .int .i64 4, .int .u64 media, .int .i64 4] ++ ((pairs.take i).flatMap pairParts).flatMap encP) ∧ Below w.heap.size w wr ∧ Blk wr X 59 #[.int .i64 3, .int .u32 ssrc, .int .u32 media, .int .u64 clock, .int .u32 time, .int .u32 packets, .int .u32 bytes, .slice rA reports.length rc, .slice wA who.length wc, .slice pA pairs.length pc, .slice aA asks.length ac, .int .u8 type])
    case atStart => exact ⟨0, Nat.zero_le _, by omega, rfl, by simpa using HO5.out, HB5.out, HX5.out⟩
    case round =>
      obtain ⟨i, hi, hgi, rfl, hown, hbel, hX⟩ := hrel
      obtain ⟨Av, cv, hve, _⟩ := own_form hown
      subst hve
      by_cases hlt : i < pairs.length
      · obtain ⟨x, hxi⟩ : ∃ x, pairs[i]? = some x := ⟨_, List.getElem?_eq_getElem hlt⟩
        obtain ⟨⟨h0, h1⟩, ⟨h2, h3⟩⟩ := KP.out x (List.mem_of_getElem? hxi)
        obtain ⟨b, off, rfl, hb1, hb2, hcc⟩ := HP.out.2 (by omega)
        have c0 := (hbel.cell (p := ⟨b, off + (i * 2 + 0), none⟩) hb2).trans (hcc (i * 2 + 0) _ (flat_get encPair_len pairs i 0 x hxi (by omega)))
        have c1 := (hbel.cell (p := ⟨b, off + (i * 2 + 1), none⟩) hb2).trans (hcc (i * 2 + 1) _ (flat_get encPair_len pairs i 1 x hxi (by omega)))
        obtain ⟨xa, xb⟩ := x
        simp only [← Nat.add_assoc, Nat.add_zero] at c0 c1
        dsimp only at h0 h1 h2 h3
        obtain ⟨ys, hys⟩ : ∃ ys, ys = [.int .u64 ssrc, .int .i64 4, .int .u64 media, .int .i64 4] ++ ((pairs.take i).flatMap pairParts).flatMap encP := ⟨_, rfl⟩
        obtain ⟨cn, hcn⟩ : ∃ cn, cn = 2 + 2 * i := ⟨_, rfl⟩
        have hcb : cn ≤ 1000 := by have := np; omega
        rw [← hys, ← hcn] at hown
        rw [← hcn]
        have HCN := Lib.hid hcn
        have HO := Lib.hid hown
        have HBE := Lib.hid hbel
        have HXX := Lib.hid hX
        have HYS := Lib.hid hys
        have HXI := Lib.hid hxi
        clear hcn hcc hown hbel hX hys hxi HB5 HX5 HO5
        go_upto_region 21 with fail
        obtain ⟨W2, hW2⟩ : ∃ W2, W2 = wr.alloc (.cells #[.int .u16 xa, .int .u16 xb] 68) := ⟨_, rfl⟩
        obtain ⟨Y, hY⟩ : ∃ Y, Y = wr.heap.size := ⟨_, rfl⟩
        rw [← hW2, ← hY]
        have hyb : Blk W2 Y 68 #[.int .u16 xa, .int .u16 xb] := by rw [hW2, hY]; exact Blk.new _ _ _
        have HO2 : Hid (W2.ownsRow w.heap.size 94 2 (.slice Av cn cv) cn ys) := by rw [hW2]; exact Lib.hid (HO.out.alloc _)
        have HX2 := Lib.hid (HXX.out.alloc (.cells #[.int .u16 xa, .int .u16 xb] 68))
        rw [← hW2] at HX2
        have HB2 : Hid (Below w.heap.size w W2) := by rw [hW2]; exact Lib.hid (HBE.out.alloc HBE.out.size _)
        clear hW2 hY HO HXX HBE c0 c1
        have y0 : W2.cell? ⟨Y, 0, none⟩ = some (.int .u16 xa) := hyb.cell 0
        have y1 : W2.cell? ⟨Y, 1, none⟩ = some (.int .u16 xb) := hyb.cell 1
        have hyl := hyb.lt
        clear hyb
        go_wp2_with (at_builtin; refine wpList_append_own_at _ rfl (.tmp 104) (.tmp 113) 69 rfl w.heap.size 94 j0 _ 2 16 Try.underlying69 hj0 hy0 hy1 hy2 rfl (by decide) _ cn ys rfl (HO2.out.alloc _) ⟨W2.heap.size, 0, none⟩ 2 2 [.int .u64 xa, .int .i64 2, .int .u64 xb, .int .i64 2] rfl rfl ?u1 ?u2 ?u3 ?u4 ?u5 ?_)
        case u1 => exact blk_src (Blk.new W2 94 _)
        case u2 => intro u hu; repeat (first | (rcases List.mem_cons.1 hu with rfl | hu; · rfl) | cases hu)
        case u3 => unfold maxLen; omega
        case u4 => omega
        case u5 => simp; have := HB2.out.size; omega
        intro v5 w5 hown5 hg5 _ hat5
        obtain ⟨A6, c6, hv5, _⟩ := own_form hown5
        subst hv5
        have HX6 := Lib.hid (app_blk HO2.out hg5 HX2.out (by decide))
        have HB6 := Lib.hid (app_below HB2.out HB2.out.size HO2.out hg5)
        have HO6 : Hid (w5.ownsRow w.heap.size 94 2 (.slice A6 (cn + 2) c6) (2 + 2 * (i + 1)) ([.int .u64 ssrc, .int .i64 4, .int .u64 media, .int .i64 4] ++ ((pairs.take (i + 1)).flatMap pairParts).flatMap encP)) := by
          rw [List.take_add_one, HXI.out, Option.toList_some, List.flatMap_append, List.flatMap_append, ← List.append_assoc, ← HYS.out, show 2 + 2 * (i + 1) = cn + 2 by have := HCN.out; omega]; exact Lib.hid hown5
        clear hown5 hg5 hat5 HO2 HX2 HB2
        go_wp2
        go_roundg (gk - 1)
        case measure => omega
        case rel => exact ⟨i + 1, by omega, by omega, by go_num, HO6.out, HB6.out, HX6.out⟩
      · obtain rfl : i = pairs.length := by omega
        rw [List.take_of_length_le (Nat.le_refl _)] at hown
        have x8 : wr.cell? ⟨X, 9, none⟩ = some (.slice pA pairs.length pc) := hX.cell 9
        have HO := Lib.hid hown
        have HBE := Lib.hid hbel
        clear hown hbel hX HB5 HX5 HO5 hlt
        go_upto_region 23 with fail
        go_quiet (fail)
        go_wp2
        have hd : decide ((0 : Int) < (pairs.length : Int)) = decide (0 < pairs.length) := decide_eq_decide.2 (by omega)
        refine bodyPost_res (v := .tuple #[.int .u8 205, .int .i64 1, .slice Av (2 + 2 * pairs.length) cv, .bool (decide ((0 : Int) < (pairs.length : Int)))]) (by simp [results, Try.results22, go_sem]) rfl ⟨_, by rw [hd]; rfl, ?_, HBE.out.trans (((Upd.refl [] wr).drewN nq).below HBE.out.size (by simp))⟩
        have h6 := HO.out
        have hl : (2 + 2 * pairs.length) = ([(ssrc, 4), (media, 4)] ++ pairs.flatMap pairParts).length := by
          have h7 := h6.1
          rw [List.length_append] at h7 ⊢
          rw [length_parts] at h7
          simp only [List.length_cons, List.length_nil] at h7 ⊢
          omega
        show (wr.drewN nq).ownsRow _ _ _ _ (List.length (_ ++ _)) _
        rw [← hl]
        exact h6
  by_cases hk4 : kind = 4
  · skip
    subst hk4

    have x2 : W3.cell? ⟨X, 2, none⟩ = some (.int .u32 media) := HX3.out.cell 2
    have HF := Lib.hid (four_any media W3 k2 l2)
    go_wp2_with fail
    refine HF.out.mono ?_
    rintro e w4 ⟨rfl, hu4⟩
    have HO4 := Lib.hid (ownsRow_upd HO3.out hu4 (by simp))
    have HX4 := Lib.hid (HX3.out.upd hu4 (by simp))
    have HB4 := Lib.hid (HB3.out.trans (hu4.below HB3.out.size (by simp)))
    clear HO3 HX3 HB3 hu4 HF x0 x2

    go_wp2_with (at_builtin; refine wpList_append_own_at _ rfl (.tmp 123) (.tmp 127) 69 rfl w.heap.size 94 j0 _ 2 16 Try.underlying69 hj0 hy0 hy1 hy2 rfl (by decide) _ 1 [.int .u64 ssrc, .int .i64 4] rfl (HO4.out.alloc _) ⟨w4.heap.size, 0, none⟩ 1 1 [.int .u64 media, .int .i64 4] rfl rfl ?u1 ?u2 ?u3 ?u4 ?u5 ?_)
    case u1 => exact blk_src (Blk.new w4 94 _)
    case u2 => intro u hu; repeat (first | (rcases List.mem_cons.1 hu with rfl | hu; · rfl) | cases hu)
    case u3 => unfold maxLen; omega
    case u4 => omega
    case u5 => simp; have := HB4.out.size; omega

    intro v5 w5 hown5 hg5 _ hat5
    obtain ⟨A5, c5, hv5, _⟩ := own_form hown5
    subst hv5
    have HX5 := Lib.hid (app_blk HO4.out hg5 HX4.out (by decide))
    have HB5 := Lib.hid (app_below HB4.out HB4.out.size HO4.out hg5)
    have HO5 := Lib.hid hown5
    clear hown5 hg5 hat5 HO4 HX4 HB4

    go_wp2
    exact bodyPost_res (v := .tuple #[.int .u8 206, .int .i64 1, .slice A5 (1 + 1) c5, .bool true]) (by simp [results, Try.results22, go_sem]) rfl ⟨_, rfl, HO5.out, HB5.out⟩
  by_cases hk5 : kind = 5
  · skip
    subst hk5

    have x2 : W3.cell? ⟨X, 2, none⟩ = some (.int .u32 media) := HX3.out.cell 2
    have HF := Lib.hid (four_any media W3 k2 l2)
    go_wp2_with fail
    refine HF.out.mono ?_
    rintro e w4 ⟨rfl, hu4⟩
    have HO4 := Lib.hid (ownsRow_upd HO3.out hu4 (by simp))
    have HX4 := Lib.hid (HX3.out.upd hu4 (by simp))
    have HB4 := Lib.hid (HB3.out.trans (hu4.below HB3.out.size (by simp)))
    clear HO3 HX3 HB3 hu4 HF x0 x2

    go_wp2_with (at_builtin; refine wpList_append_own_at _ rfl (.tmp 131) (.tmp 135) 69 rfl w.heap.size 94 j0 _ 2 16 Try.underlying69 hj0 hy0 hy1 hy2 rfl (by decide) _ 1 [.int .u64 ssrc, .int .i64 4] rfl (HO4.out.alloc _) ⟨w4.heap.size, 0, none⟩ 1 1 [.int .u64 media, .int .i64 4] rfl rfl ?u1 ?u2 ?u3 ?u4 ?u5 ?_)
    case u1 => exact blk_src (Blk.new w4 94 _)
    case u2 => intro u hu; repeat (first | (rcases List.mem_cons.1 hu with rfl | hu; · rfl) | cases hu)
    case u3 => unfold maxLen; omega
    case u4 => omega
    case u5 => simp; have := HB4.out.size; omega

    intro v5 w5 hown5 hg5 _ hat5
    obtain ⟨A5, c5, hv5, _⟩ := own_form hown5
    subst hv5
    have HX5 := Lib.hid (app_blk HO4.out hg5 HX4.out (by decide))
    have HB5 := Lib.hid (app_below HB4.out HB4.out.size HO4.out hg5)
    have HO5 := Lib.hid hown5
    clear hown5 hg5 hat5 HO4 HX4 HB4

    have z9 : w5.cell? ⟨X, 10, none⟩ = some (.slice aA asks.length ac) := HX5.out.cell 10
    clear x3 x4 x5 x6 x7 x8 x9 x10
    go_wp2
    clear z9
    go_loopg [6, 140] asks.length (fun gk x6 xi wr => ∃ i : Nat, i ≤ asks.length ∧ asks.length ≤ i + gk ∧ xi = .int .i64 i ∧ wr.ownsRow w.heap.size 94 2 x6 (2 + 3 * i) ([.int .u64 ssrc, .int .i64 4, .int .u64 media, .int .i64 4] ++ ((asks.take i).flatMap askParts).flatMap encP) ∧ Below w.heap.size w wr ∧ Blk wr X 59 #[.int .i64 5, .int .u32 ssrc, .int .u32 media, .int .u64 clock, .int .u32 time, .int .u32 packets, .int .u32 bytes, .slice rA reports.length rc, .slice wA who.length wc, .slice pA pairs.length pc, .slice aA asks.length ac, .int .u8 type])
    case atStart => exact ⟨0, Nat.zero_le _, by omega, rfl, by simpa using HO5.out, HB5.out, HX5.out⟩
    case round =>
      obtain ⟨i, hi, hgi, rfl, hown, hbel, hX⟩ := hrel
      obtain ⟨Av, cv, hve, _⟩ := own_form hown
      subst hve
      by_cases hlt : i < asks.length
      · obtain ⟨x, hxi⟩ : ∃ x, asks[i]? = some x := ⟨_, List.getElem?_eq_getElem hlt⟩
        obtain ⟨⟨h0, h1⟩, ⟨h2, h3⟩⟩ := KA.out x (List.mem_of_getElem? hxi)
        obtain ⟨b, off, rfl, hb1, hb2, hcc⟩ := HA.out.2 (by omega)
        have c0 := (hbel.cell (p := ⟨b, off + (i * 2 + 0), none⟩) hb2).trans (hcc (i * 2 + 0) _ (flat_get encAsk_len asks i 0 x hxi (by omega)))
        have c1 := (hbel.cell (p := ⟨b, off + (i * 2 + 1), none⟩) hb2).trans (hcc (i * 2 + 1) _ (flat_get encAsk_len asks i 1 x hxi (by omega)))
        obtain ⟨xa, xb⟩ := x
        simp only [← Nat.add_assoc, Nat.add_zero] at c0 c1
        dsimp only at h0 h1 h2 h3
        obtain ⟨ys, hys⟩ : ∃ ys, ys = [.int .u64 ssrc, .int .i64 4, .int .u64 media, .int .i64 4] ++ ((asks.take i).flatMap askParts).flatMap encP := ⟨_, rfl⟩
        obtain ⟨cn, hcn⟩ : ∃ cn, cn = 2 + 3 * i := ⟨_, rfl⟩
        have hcb : cn ≤ 1000 := by have := na; omega
        rw [← hys, ← hcn] at hown
        rw [← hcn]
        have HCN := Lib.hid hcn
        have HO := Lib.hid hown
        have HBE := Lib.hid hbel
        have HXX := Lib.hid hX
        have HYS := Lib.hid hys
        have HXI := Lib.hid hxi
        clear hcn hcc hown hbel hX hys hxi HB5 HX5 HO5
        go_upto_region 31 with fail
        obtain ⟨W2, hW2⟩ : ∃ W2, W2 = wr.alloc (.cells #[.int .u32 xa, .int .u8 xb] 91) := ⟨_, rfl⟩
        obtain ⟨Y, hY⟩ : ∃ Y, Y = wr.heap.size := ⟨_, rfl⟩
        rw [← hW2, ← hY]
        have hyb : Blk W2 Y 91 #[.int .u32 xa, .int .u8 xb] := by rw [hW2, hY]; exact Blk.new _ _ _
        have HO2 : Hid (W2.ownsRow w.heap.size 94 2 (.slice Av cn cv) cn ys) := by rw [hW2]; exact Lib.hid (HO.out.alloc _)
        have HX2 := Lib.hid (HXX.out.alloc (.cells #[.int .u32 xa, .int .u8 xb] 91))
        rw [← hW2] at HX2
        have HB2 : Hid (Below w.heap.size w W2) := by rw [hW2]; exact Lib.hid (HBE.out.alloc HBE.out.size _)
        clear hW2 hY HO HXX HBE c0 c1
        have y0 : ∀ x : Cls (Upd [] W2), x.w.cell? ⟨Y, 0, none⟩ = some (.int .u32 xa) := fun x => (hyb.upd x.h (by simp)).cell 0
        have y1 : ∀ x : Cls (Upd [] W2), x.w.cell? ⟨Y, 1, none⟩ = some (.int .u8 xb) := fun x => (hyb.upd x.h (by simp)).cell 1
        have HF : Hid (∀ (x : Cls (Upd [] W2)) (y : Int), 0 ≤ y → y ≤ 4294967295 → Calls Try.prog 33 #[.int .u32 y] x.w fun e w' => e = .returned (.agg #[.int .u64 y, .int .i64 4]) ∧ ∃ m : Cls (Upd [] W2), w' = m.w) := fun x y h1 h2 => quiet_cls ((four_any y x.w h1 h2).mono fun e w' h => ⟨h.1, x.h.next h.2⟩)
        clear hyb
        refine wp_moves_class_tail (Upd [] W2) ((Upd.refl _ _).drewN 1) 1 9 (by kernel_rfl) (by kernel_rfl) (fun _ _ _ _ h => h) ?_
        intro hne
        simp only [List.take_succ_cons, List.take_zero, List.drop_succ_cons, List.drop_zero]
        repeat (go_big_quiet_step (fail))
        refine wpQuiet_nil (show wpQuiet _ _ _ _ _ _ from ?_)
        repeat (go_big_quiet_step ((go_at_call 33; exact HF.out _ _ (by assumption) (by assumption))))
        refine wpQuiet_nil ?_
        rintro _ ⟨xe, rfl⟩
        obtain ⟨W4, hW4⟩ : ∃ W4, W4 = xe.w := ⟨_, rfl⟩
        have hx4 : Upd [] W2 W4 := by rw [hW4]; exact xe.h
        rw [← hW4]
        replace HO2 := Lib.hid (ownsRow_upd HO2.out hx4 (by simp))
        replace HX2 := Lib.hid (HX2.out.upd hx4 (by simp))
        replace HB2 := Lib.hid (HB2.out.trans (hx4.below HB2.out.size (by simp)))
        clear hW4 hx4 HF y0 y1
        go_wp2_with (at_builtin; refine wpList_append_own_at _ rfl (.tmp 144) (.tmp 153) 69 rfl w.heap.size 94 j0 _ 2 16 Try.underlying69 hj0 hy0 hy1 hy2 rfl (by decide) _ cn ys rfl (HO2.out.alloc _) ⟨W4.heap.size, 0, none⟩ 3 3 [.int .u64 xa, .int .i64 4, .int .u64 xb, .int .i64 1, .int .u64 0, .int .i64 3] rfl rfl ?u1 ?u2 ?u3 ?u4 ?u5 ?_)
        case u1 => exact blk_src (Blk.new W4 94 _)
        case u2 => intro u hu; repeat (first | (rcases List.mem_cons.1 hu with rfl | hu; · rfl) | cases hu)
        case u3 => unfold maxLen; omega
        case u4 => omega
        case u5 => simp; have := HB2.out.size; omega
        intro v5 w5 hown5 hg5 _ hat5
        obtain ⟨A6, c6, hv5, _⟩ := own_form hown5
        subst hv5
        have HX6 := Lib.hid (app_blk HO2.out hg5 HX2.out (by decide))
        have HB6 := Lib.hid (app_below HB2.out HB2.out.size HO2.out hg5)
        have HO6 : Hid (w5.ownsRow w.heap.size 94 2 (.slice A6 (cn + 3) c6) (2 + 3 * (i + 1)) ([.int .u64 ssrc, .int .i64 4, .int .u64 media, .int .i64 4] ++ ((asks.take (i + 1)).flatMap askParts).flatMap encP)) := by
          rw [List.take_add_one, HXI.out, Option.toList_some, List.flatMap_append, List.flatMap_append, ← List.append_assoc, ← HYS.out, show 2 + 3 * (i + 1) = cn + 3 by have := HCN.out; omega]; exact Lib.hid hown5
        clear hown5 hg5 hat5 HO2 HX2 HB2
        go_wp2
        go_roundg (gk - 1)
        case measure => omega
        case rel => exact ⟨i + 1, by omega, by omega, by go_num, HO6.out, HB6.out, HX6.out⟩
      · obtain rfl : i = asks.length := by omega
        rw [List.take_of_length_le (Nat.le_refl _)] at hown
        have x8 : wr.cell? ⟨X, 10, none⟩ = some (.slice aA asks.length ac) := hX.cell 10
        have HO := Lib.hid hown
        have HBE := Lib.hid hbel
        clear hown hbel hX HB5 HX5 HO5 hlt
        go_upto_region 33 with fail
        go_quiet (fail)
        go_wp2
        have hd : decide ((0 : Int) < (asks.length : Int)) = decide (0 < asks.length) := decide_eq_decide.2 (by omega)
        refine bodyPost_res (v := .tuple #[.int .u8 206, .int .i64 4, .slice Av (2 + 3 * asks.length) cv, .bool (decide ((0 : Int) < (asks.length : Int)))]) (by simp [results, Try.results22, go_sem]) rfl ⟨_, by rw [hd]; rfl, ?_, HBE.out.trans (((Upd.refl [] wr).drewN nq).below HBE.out.size (by simp))⟩
        have h6 := HO.out
        have hl : (2 + 3 * asks.length) = ([(ssrc, 4), (media, 4)] ++ asks.flatMap askParts).length := by
          have h7 := h6.1
          rw [List.length_append] at h7 ⊢
          rw [length_parts] at h7
          simp only [List.length_cons, List.length_nil] at h7 ⊢
          omega
        show (wr.drewN nq).ownsRow _ _ _ _ (List.length (_ ++ _)) _
        rw [← hl]
        exact h6
  have n0 : ¬ kind = 0 := hk0
  have n1 : ¬ kind = 1 := hk1
  have n2 : ¬ kind = 2 := hk2
  have n3 : ¬ kind = 3 := hk3
  have n4 : ¬ kind = 4 := hk4
  have n5 : ¬ kind = 5 := hk5
  skip
  go_wp2
  have e : bodyM ⟨kind, ssrc, media, clock, time, packets, bytes, reports, who, pairs, asks, type⟩ = ⟨0, 0, [], false⟩ := by simp [bodyM, n0, n1, n2, n3, n4, n5]
  exact bodyPost_res (v := .tuple #[.int .u8 0, .int .i64 0, .slice none 0 0, .bool false]) (by simp [results, Try.results22, go_sem]) rfl ⟨_, by rw [e]; rfl, by rw [e]; exact World.ownsRow_nil _ _ _ _, HB3.out⟩
end Go.Proofs.Ytgkejdjdccgjbaa
/- rtcp: Is, cut, kind. Conditions: bytes. -/
namespace Go.Proofs.Ytgkejdjdccgjbaa
open Go Go.RowKit
set_option maxHeartbeats 400000

set_option maxRecDepth 100000 in
theorem and192 (a : Int) (h0 : 0 ≤ a) (h1 : a ≤ 255) : bits .and .u8 a 192 = a / 64 * 64 := by
  obtain ⟨n, rfl⟩ : ∃ n : Nat, a = n := ⟨a.toNat, by omega⟩
  have h : ∀ n : Fin 256, n.val &&& 192 = n.val / 64 * 64 := by decide
  rw [show (192 : Int) = ((192 : Nat) : Int) by rfl, u8_and_nat _ _ (by omega) (by omega)]
  have hh := h ⟨n, by omega⟩
  dsimp only at hh
  omega
set_option maxRecDepth 100000 in
theorem and32 (a : Int) (h0 : 0 ≤ a) (h1 : a ≤ 255) : bits .and .u8 a 32 = a / 32 % 2 * 32 := by
  obtain ⟨n, rfl⟩ : ∃ n : Nat, a = n := ⟨a.toNat, by omega⟩
  have h : ∀ n : Fin 256, n.val &&& 32 = n.val / 32 % 2 * 32 := by decide
  rw [show (32 : Int) = ((32 : Nat) : Int) by rfl, u8_and_nat _ _ (by omega) (by omega)]
  have hh := h ⟨n, by omega⟩
  dsimp only at hh
  omega
set_option maxRecDepth 100000 in
theorem and31 (a : Int) (h0 : 0 ≤ a) (h1 : a ≤ 255) : bits .and .u8 a 31 = a % 32 := by
  obtain ⟨n, rfl⟩ : ∃ n : Nat, a = n := ⟨a.toNat, by omega⟩
  have h : ∀ n : Fin 256, n.val &&& 31 = n.val % 32 := by decide
  rw [show (31 : Int) = ((31 : Nat) : Int) by rfl, u8_and_nat _ _ (by omega) (by omega)]
  have hh := h ⟨n, by omega⟩
  dsimp only at hh
  omega

def isM (xs : List Int) : Bool := decide (2 ≤ xs.length) && decide (128 ≤ xs.headD 0 ∧ xs.headD 0 < 192) && decide (192 ≤ (xs.drop 1).headD 0 ∧ (xs.drop 1).headD 0 ≤ 223)
theorem is_any {w : World} {lo : Nat} {r : Rw} (h : RowIn w lo .u8 r) (hb : Byt r.xs) : Calls Try.prog 17 #[encR r] w fun e w' => e = .returned (.bool (isM r.xs)) ∧ w = w' := by
  obtain ⟨A, cp, xs⟩ := r
  unfold encR
  dsimp only at hb ⊢
  by_cases hl : 2 ≤ xs.length
  · obtain ⟨b, off, hA, _, hbl, hcc⟩ := h.at (by dsimp only; omega)
    dsimp only at hA hcc
    subst hA
    match xs, hl with
    | x :: y :: zs, _ =>
      have c0 := hcc 0 x rfl
      have c1 := hcc 1 y rfl
      rw [Nat.add_zero] at c0
      obtain ⟨hx0, hx1⟩ := hb x (by simp)
      obtain ⟨hy0, hy1⟩ := hb y (by simp)
      have ha := and192 x hx0 hx1
      have hlen : (2 : Int) ≤ ((x :: y :: zs).length : Int) := by simp; omega
      have hm : isM (x :: y :: zs) = (decide (128 ≤ x ∧ x < 192) && decide (192 ≤ y ∧ y ≤ 223)) := by simp [isM]
      rw [hm]
      obtain ⟨n, hn⟩ : ∃ n, n = (x :: y :: zs).length := ⟨_, rfl⟩
      rw [← hn] at hlen ⊢
      clear h hcc hb hm hn
      have d0 : decide ((2 : Int) ≤ (n : Int)) = true := by simpa using hlen
      by_cases h1 : 128 ≤ x ∧ x < 192
      · have e1 : x / 64 * 64 = 128 := by omega
        by_cases h2 : 192 ≤ y
        · have d2 : decide (192 ≤ y) = true := by simpa using h2
          by_cases h3 : y ≤ 223
          · have d3 : decide (y ≤ 223) = true := by simpa using h3
            go_enter Try.func17, Try.ntmps17
            go_wp2
            go_ret
            exact ⟨congrArg (fun b => Ending.returned (.bool b)) (show true = _ by simp [h1, h2, h3]), rfl⟩
          · have d3 : decide (y ≤ 223) = false := by simpa using h3
            go_enter Try.func17, Try.ntmps17
            go_wp2
            go_ret
            exact ⟨congrArg (fun b => Ending.returned (.bool b)) (show false = _ by simp), rfl⟩
        · have d2 : decide (192 ≤ y) = false := by simpa using h2
          go_enter Try.func17, Try.ntmps17
          go_wp2
          go_ret
          exact ⟨congrArg (fun b => Ending.returned (.bool b)) (show false = _ by simp), rfl⟩
      · have e1 : ¬ x / 64 * 64 = 128 := by omega
        go_enter Try.func17, Try.ntmps17
        go_wp2
        go_ret
        exact ⟨congrArg (fun b => Ending.returned (.bool b)) (show false = _ by simp [h1]), rfl⟩
  · have d0 : decide ((2 : Int) ≤ (xs.length : Int)) = false := by simp; omega
    have hm : isM xs = false := by simp [isM]; omega
    rw [hm]
    clear h hb hm
    go_enter Try.func17, Try.ntmps17
    go_wp2
    go_ret
    exact ⟨congrArg (fun b => Ending.returned (.bool b)) (show false = _ by simp), rfl⟩
/-- a body without its padding; none: it is none -/
def cutM (xs : List Int) (last : Bool) : Option (List Int) :=
  if last = false ∨ xs.length = 0 then none
  else
    let n := xs.getLastD 0
    if n = 0 ∨ n % 4 ≠ 0 ∨ (xs.length : Int) < n then none else some (xs.take (xs.length - n.toNat))
theorem RowIn.short {w : World} {lo : Nat} {k : IntKind} {b off c : Nat} {xs : List Int} (n : Nat) (h : RowIn w lo k ⟨some ⟨b, off, none⟩, c, xs⟩) : RowIn w lo k ⟨some ⟨b, off, none⟩, c, xs.take n⟩ := by
  have hl := h.le
  have hm := h.cm
  dsimp only at hl hm
  refine ⟨⟨by simp, fun hp => ?_⟩, (fun e => by cases e), by dsimp only; rw [List.length_take]; omega, by dsimp only; omega⟩
  rw [List.length_take] at hp
  obtain ⟨b', off', e, h1, h2, hc⟩ := h.l.2 (by dsimp only; omega)
  refine ⟨b', off', e, h1, h2, fun j u hu => hc j u ?_⟩
  rw [List.map_take, List.getElem?_take] at hu
  split at hu
  · exact hu
  · cases hu
def kindM (t count : Int) : Int := if t = 200 then 0 else if t = 201 then 1 else if t = 203 then 2 else if t = 205 ∧ count = 1 then 3 else if t = 206 ∧ count = 1 then 4 else if t = 206 ∧ count = 4 then 5 else 6
theorem kind_any (t count : Int) (w : World) : Calls Try.prog 41 #[.int .u8 t, .int .i64 count] w fun e w' => e = .returned (.int .i64 (kindM t count)) ∧ w = w' := by
  unfold kindM
  by_cases h0 : t = 200
  · subst h0
    go_enter Try.func41, Try.ntmps41
    go_wp2
    go_ret
    exact ⟨rfl, rfl⟩
  by_cases h1 : t = 201
  · subst h1
    go_enter Try.func41, Try.ntmps41
    go_wp2
    go_ret
    exact ⟨rfl, rfl⟩
  by_cases h2 : t = 203
  · subst h2
    go_enter Try.func41, Try.ntmps41
    go_wp2
    go_ret
    exact ⟨rfl, rfl⟩
  rw [if_neg h0, if_neg h1, if_neg h2]
  by_cases h3 : t = 205
  · subst h3
    by_cases h4 : count = 1
    · subst h4
      go_enter Try.func41, Try.ntmps41
      go_wp2
      go_ret
      exact ⟨rfl, rfl⟩
    · rw [if_neg (by simp [h4]), if_neg (by simp), if_neg (by simp)]
      go_enter Try.func41, Try.ntmps41
      go_wp2
      go_ret
      exact ⟨rfl, rfl⟩
  by_cases h5 : t = 206
  · subst h5
    by_cases h4 : count = 1
    · subst h4
      go_enter Try.func41, Try.ntmps41
      go_wp2
      go_ret
      exact ⟨rfl, rfl⟩
    · by_cases h6 : count = 4
      · subst h6
        go_enter Try.func41, Try.ntmps41
        go_wp2
        go_ret
        exact ⟨rfl, rfl⟩
      · rw [if_neg (by simp), if_neg (by simp [h4]), if_neg (by simp [h6])]
        go_enter Try.func41, Try.ntmps41
        go_wp2
        go_ret
        exact ⟨rfl, rfl⟩
  rw [if_neg (by simp [h3]), if_neg (by simp [h5]), if_neg (by simp [h5])]
  go_enter Try.func41, Try.ntmps41
  go_wp2
  go_ret
  exact ⟨rfl, rfl⟩
end Go.Proofs.Ytgkejdjdccgjbaa
/- rtcp: Put. Conditions: no more than 60 messages, their rows no longer than 60. -/
namespace Go.Proofs.Ytgkejdjdccgjbaa
open Go Go.RowKit
set_option maxHeartbeats 400000

def encM (x : Mg × Hd) : List Value := mcells x.1 x.2
theorem encM_len (x : Mg × Hd) : (encM x).length = 12 := rfl
/-- a message's bytes -/
def msgB (m : Mg) : List Int :=
  let b := bytesOf (bodyM m).ps
  [128 + ((bodyM m).n : Int), (bodyM m).t, ((b.length : Int) / 4 / 256) % 256, ((b.length : Int) / 4) % 256] ++ b
def putM (ms : List Mg) : List Int × Int :=
  if ms.all fun m => (bodyM m).is then (if 1500 < (ms.flatMap msgB).length then ([], 13) else (ms.flatMap msgB, 0)) else ([], 1)
theorem body_n {m : Mg} (h : (bodyM m).is = true) : (bodyM m).n ≤ 31 := by
  unfold bodyM at h ⊢
  by_cases h0 : m.kind = 0
  · rw [if_pos h0] at h ⊢
    simp at h ⊢; try omega
  rw [if_neg h0] at h ⊢
  by_cases h1 : m.kind = 1
  · rw [if_pos h1] at h ⊢
    simp at h ⊢; try omega
  rw [if_neg h1] at h ⊢
  by_cases h2 : m.kind = 2
  · rw [if_pos h2] at h ⊢
    simp at h ⊢; try omega
  rw [if_neg h2] at h ⊢
  by_cases h3 : m.kind = 3
  · rw [if_pos h3] at h ⊢
    simp at h ⊢; try omega
  rw [if_neg h3] at h ⊢
  by_cases h4 : m.kind = 4
  · rw [if_pos h4] at h ⊢
    simp at h ⊢; try omega
  rw [if_neg h4] at h ⊢
  by_cases h5 : m.kind = 5
  · rw [if_pos h5] at h ⊢
    simp at h ⊢; try omega
  rw [if_neg h5] at h ⊢
  cases h
theorem body_t (m : Mg) : 0 ≤ (bodyM m).t ∧ (bodyM m).t ≤ 255 := by
  unfold bodyM
  by_cases h0 : m.kind = 0
  · rw [if_pos h0]
    simp
  rw [if_neg h0]
  by_cases h1 : m.kind = 1
  · rw [if_pos h1]
    simp
  rw [if_neg h1]
  by_cases h2 : m.kind = 2
  · rw [if_pos h2]
    simp
  rw [if_neg h2]
  by_cases h3 : m.kind = 3
  · rw [if_pos h3]
    simp
  rw [if_neg h3]
  by_cases h4 : m.kind = 4
  · rw [if_pos h4]
    simp
  rw [if_neg h4]
  by_cases h5 : m.kind = 5
  · rw [if_pos h5]
    simp
  rw [if_neg h5]
  simp
theorem rep_sizes (rs : List Rep) : ∀ p, p ∈ rs.flatMap repParts → 1 ≤ p.2 ∧ p.2 ≤ 8 := by
  intro p hp
  obtain ⟨r, _, hr⟩ := List.mem_flatMap.1 hp
  simp only [repParts, List.mem_cons, List.not_mem_nil, or_false] at hr
  rcases hr with rfl | rfl | rfl | rfl | rfl | rfl | rfl <;> exact ⟨by simp, by simp⟩
theorem rep_count (rs : List Rep) : (rs.flatMap repParts).length = 7 * rs.length := by
  induction rs with
  | nil => rfl
  | cons r rs ih => rw [List.flatMap_cons, List.length_append, ih, List.length_cons]; simp [repParts]; omega
theorem body_ps {m : Mg} (h : m.Ok) : (∀ p, p ∈ (bodyM m).ps → 1 ≤ p.2 ∧ p.2 ≤ 8) ∧ (bodyM m).ps.length ≤ 500 := by
  have nr := h.nr
  have nw := h.nw
  have np := h.np
  have na := h.na
  have e1 : ∀ l : List (Int × Int), (l.flatMap pairParts).length = 2 * l.length := fun l => by
    induction l with
    | nil => rfl
    | cons r rs ih => rw [List.flatMap_cons, List.length_append, ih, List.length_cons]; simp [pairParts]; omega
  have e2 : ∀ l : List (Int × Int), (l.flatMap askParts).length = 3 * l.length := fun l => by
    induction l with
    | nil => rfl
    | cons r rs ih => rw [List.flatMap_cons, List.length_append, ih, List.length_cons]; simp [askParts]; omega
  unfold bodyM
  split
  · refine ⟨fun p hp => ?_, ?_⟩
    · rcases List.mem_append.1 hp with hp | hp
      · simp only [List.mem_cons, List.not_mem_nil, or_false] at hp
        rcases hp with rfl | rfl | rfl | rfl | rfl <;> exact ⟨by simp, by simp⟩
      · exact rep_sizes _ p hp
    · dsimp only; rw [List.length_append, rep_count]; simp; omega
  split
  · refine ⟨fun p hp => ?_, ?_⟩
    · rcases List.mem_append.1 hp with hp | hp
      · simp only [List.mem_cons, List.not_mem_nil, or_false] at hp
        subst hp; exact ⟨by simp, by simp⟩
      · exact rep_sizes _ p hp
    · dsimp only; rw [List.length_append, rep_count]; simp; omega
  split
  · refine ⟨fun p hp => ?_, ?_⟩
    · obtain ⟨x, _, rfl⟩ := List.mem_map.1 hp; exact ⟨by simp, by simp⟩
    · dsimp only; rw [List.length_map]; omega
  split
  · refine ⟨fun p hp => ?_, ?_⟩
    · rcases List.mem_append.1 hp with hp | hp
      · simp only [List.mem_cons, List.not_mem_nil, or_false] at hp
        rcases hp with rfl | rfl <;> exact ⟨by simp, by simp⟩
      · obtain ⟨x, _, hx⟩ := List.mem_flatMap.1 hp
        simp only [pairParts, List.mem_cons, List.not_mem_nil, or_false] at hx
        rcases hx with rfl | rfl <;> exact ⟨by simp, by simp⟩
    · dsimp only; rw [List.length_append, e1]; simp; omega
  split
  · refine ⟨fun p hp => ?_, by simp⟩
    simp only [List.mem_cons, List.not_mem_nil, or_false] at hp
    rcases hp with rfl | rfl <;> exact ⟨by simp, by simp⟩
  split
  · refine ⟨fun p hp => ?_, ?_⟩
    · rcases List.mem_append.1 hp with hp | hp
      · simp only [List.mem_cons, List.not_mem_nil, or_false] at hp
        rcases hp with rfl | rfl <;> exact ⟨by simp, by simp⟩
      · obtain ⟨x, _, hx⟩ := List.mem_flatMap.1 hp
        simp only [askParts, List.mem_cons, List.not_mem_nil, or_false] at hx
        rcases hx with rfl | rfl | rfl <;> exact ⟨by simp, by simp⟩
    · dsimp only; rw [List.length_append, e2]; simp; omega
  · exact ⟨fun p hp => (by cases hp), by simp⟩
theorem stopHere {p : Prop} (h : p ∧ True) : p := h.1
theorem or128 (n : Nat) (h : n ≤ 31) : bits .or .u8 128 (n : Int) = 128 + n := u8_or128 _ (by omega) (by omega)

set_option maxRecDepth 100000 in
set_option maxHeartbeats 4000000 in
theorem put_any {w : World} {lo : Nat} {A : Option Addr} {cap : Nat} {ms : List (Mg × Hd)} (hc : CellsIn w lo w.heap.size 12 A ms.length (ms.flatMap encM)) (hm : ∀ x, x ∈ ms → MgIn w lo x.1 x.2 ∧ x.1.Ok) (hl : ms.length ≤ 60) :
    Calls Try.prog 11 #[.slice A ms.length cap] w fun e w' => ∃ v, e = .returned (.tuple #[v, .int .i64 (putM (ms.map (·.1))).2]) ∧
      w'.ownsRow w.heap.size 5 1 v (putM (ms.map (·.1))).1.length ((putM (ms.map (·.1))).1.map (Value.int .u8)) ∧ Below w.heap.size w w' := by
  obtain ⟨j0, hj0, hy0, hy1, hy2⟩ := info_parts infoB
  have HC := Lib.hid hc
  have HM := Lib.hid hm
  clear hc hm
  go_enter Try.func11, Try.ntmps11
  go_wp2
  go_loopg [4, 14] ms.length (fun gk x4 x14 wr => ∃ (i : Nat) (out : List Int), i ≤ ms.length ∧ ms.length ≤ i + gk ∧ x14 = .int .i64 i ∧ (∀ m, m ∈ (ms.take i).map (·.1) → (bodyM m).is = true) ∧ out = ((ms.take i).map (·.1)).flatMap msgB ∧ out.length ≤ 5000 * i ∧ wr.ownsRow w.heap.size 5 1 x4 out.length (out.map (Value.int .u8)) ∧ Below w.heap.size w wr)
  case atStart => exact ⟨0, [], Nat.zero_le _, by omega, rfl, by simp, rfl, Nat.le_refl _, World.ownsRow_nil _ _ _ _, Below.refl _ _⟩
  case round =>
    obtain ⟨i, out, hi, hgi, rfl, his, hout, hol, hown, hbel⟩ := hrel
    obtain ⟨Av, cv, hve, _⟩ := own_form hown
    subst hve
    by_cases hlt : i < ms.length
    · obtain ⟨x, hxi⟩ : ∃ p, ms[i]? = some p := ⟨_, List.getElem?_eq_getElem hlt⟩
      obtain ⟨hin, hok⟩ := HM.out x (List.mem_of_getElem? hxi)
      obtain ⟨b, off, rfl, hb1, hb2, hcc⟩ := HC.out.2 (by omega)
      have c0 := (hbel.cell (p := ⟨b, off + (i * 12 + 0), none⟩) hb2).trans (hcc (i * 12 + 0) _ (flat_get encM_len ms i 0 x hxi (by omega)))
      have c1 := (hbel.cell (p := ⟨b, off + (i * 12 + 1), none⟩) hb2).trans (hcc (i * 12 + 1) _ (flat_get encM_len ms i 1 x hxi (by omega)))
      have c2 := (hbel.cell (p := ⟨b, off + (i * 12 + 2), none⟩) hb2).trans (hcc (i * 12 + 2) _ (flat_get encM_len ms i 2 x hxi (by omega)))
      have c3 := (hbel.cell (p := ⟨b, off + (i * 12 + 3), none⟩) hb2).trans (hcc (i * 12 + 3) _ (flat_get encM_len ms i 3 x hxi (by omega)))
      have c4 := (hbel.cell (p := ⟨b, off + (i * 12 + 4), none⟩) hb2).trans (hcc (i * 12 + 4) _ (flat_get encM_len ms i 4 x hxi (by omega)))
      have c5 := (hbel.cell (p := ⟨b, off + (i * 12 + 5), none⟩) hb2).trans (hcc (i * 12 + 5) _ (flat_get encM_len ms i 5 x hxi (by omega)))
      have c6 := (hbel.cell (p := ⟨b, off + (i * 12 + 6), none⟩) hb2).trans (hcc (i * 12 + 6) _ (flat_get encM_len ms i 6 x hxi (by omega)))
      have c7 := (hbel.cell (p := ⟨b, off + (i * 12 + 7), none⟩) hb2).trans (hcc (i * 12 + 7) _ (flat_get encM_len ms i 7 x hxi (by omega)))
      have c8 := (hbel.cell (p := ⟨b, off + (i * 12 + 8), none⟩) hb2).trans (hcc (i * 12 + 8) _ (flat_get encM_len ms i 8 x hxi (by omega)))
      have c9 := (hbel.cell (p := ⟨b, off + (i * 12 + 9), none⟩) hb2).trans (hcc (i * 12 + 9) _ (flat_get encM_len ms i 9 x hxi (by omega)))
      have c10 := (hbel.cell (p := ⟨b, off + (i * 12 + 10), none⟩) hb2).trans (hcc (i * 12 + 10) _ (flat_get encM_len ms i 10 x hxi (by omega)))
      have c11 := (hbel.cell (p := ⟨b, off + (i * 12 + 11), none⟩) hb2).trans (hcc (i * 12 + 11) _ (flat_get encM_len ms i 11 x hxi (by omega)))
      obtain ⟨m, h⟩ := x
      dsimp only at hin hok
      simp only [← Nat.add_assoc, Nat.add_zero] at c0 c1 c2 c3 c4 c5 c6 c7 c8 c9 c10 c11
      have HO := Lib.hid hown
      have HB := Lib.hid hbel
      have HIS := Lib.hid his
      have HOUT := Lib.hid hout
      have HXI := Lib.hid hxi
      have HIN := Lib.hid (hin.below hbel)
      have HOK := Lib.hid hok
      clear hcc hown hbel his hout hxi hin hok
      go_upto_region 5 with fail
      obtain ⟨W1, hW1⟩ : ∃ W1, W1 = wr.alloc (.cells (mcells m h).toArray 59) := ⟨_, rfl⟩
      have HW1 := Lib.hid hW1
      simp only [mcells] at hW1
      obtain ⟨X, hXe⟩ : ∃ X, X = wr.heap.size := ⟨_, rfl⟩
      rw [← hW1, ← hXe]
      have hX : Blk W1 X 59 (mcells m h).toArray := by rw [HW1.out, hXe]; exact Blk.new _ _ _
      have HO1 : Hid (W1.ownsRow w.heap.size 5 1 (.slice Av out.length cv) out.length (out.map (Value.int .u8))) := by rw [HW1.out]; exact Lib.hid (HO.out.alloc _)
      have HB1 : Hid (Below w.heap.size w W1) := by rw [HW1.out]; exact Lib.hid (HB.out.alloc HB.out.size _)
      have HIN1 : Hid (MgIn W1 lo m h) := by rw [HW1.out]; exact Lib.hid (HIN.out.below ((Below.refl _ _).alloc (Nat.le_refl _) _))
      have HC1 := Lib.hid (body_any HIN1.out HOK.out)
      simp only [mcells] at HC1
      have x0 : W1.cell? ⟨X, 0, none⟩ = some (.int .i64 m.kind) := hX.cell 0
      have x1 : W1.cell? ⟨X, 1, none⟩ = some (.int .u32 m.ssrc) := hX.cell 1
      have x2 : W1.cell? ⟨X, 2, none⟩ = some (.int .u32 m.media) := hX.cell 2
      have x3 : W1.cell? ⟨X, 3, none⟩ = some (.int .u64 m.clock) := hX.cell 3
      have x4 : W1.cell? ⟨X, 4, none⟩ = some (.int .u32 m.time) := hX.cell 4
      have x5 : W1.cell? ⟨X, 5, none⟩ = some (.int .u32 m.packets) := hX.cell 5
      have x6 : W1.cell? ⟨X, 6, none⟩ = some (.int .u32 m.bytes) := hX.cell 6
      have x7 : W1.cell? ⟨X, 7, none⟩ = some (.slice h.rA m.reports.length h.rc) := hX.cell 7
      have x8 : W1.cell? ⟨X, 8, none⟩ = some (.slice h.wA m.who.length h.wc) := hX.cell 8
      have x9 : W1.cell? ⟨X, 9, none⟩ = some (.slice h.pA m.pairs.length h.pc) := hX.cell 9
      have x10 : W1.cell? ⟨X, 10, none⟩ = some (.slice h.aA m.asks.length h.ac) := hX.cell 10
      have x11 : W1.cell? ⟨X, 11, none⟩ = some (.int .u8 m.type) := hX.cell 11
      clear hW1 HW1 hXe hX HO HB HIN c0 c1 c2 c3 c4 c5 c6 c7 c8 c9 c10 c11
      go_wp2_with fail
      refine HC1.out.mono ?_
      rintro e w2 ⟨vp, rfl, hop, hbp⟩
      obtain ⟨Ap, cq, hvp, _⟩ := own_form hop
      subst hvp
      have hps := body_ps HOK.out
      have ht := body_t m
      have hbn := @body_n m
      obtain ⟨⟨t, n, ps, is⟩, hBd⟩ : ∃ B, B = bodyM m := ⟨_, rfl⟩
      rw [← hBd] at hop hps ht hbn ⊢
      dsimp only at hop hps ht hbn ⊢
      have HBD := Lib.hid hBd
      have HAV : Hid (∀ s, (Value.slice Av out.length cv).ownBlock = some s → s < w2.heap.size) := fun s hs => Nat.lt_of_lt_of_le (own_block_lt HO1.out hs).2 hbp.size
      have HO2 := Lib.hid (ownsRow_upd HO1.out (Upd.of_below (S := []) hbp) (by simp))
      have HB2 := Lib.hid (HB1.out.trans (hbp.mono HB1.out.size))
      have HOP := Lib.hid hop
      have HPS := Lib.hid hps.1
      have hpl := hps.2
      obtain ⟨ht0, ht1⟩ := ht
      clear hop hbp hps hBd HC1 HO1 HB1 HIN1 x0 x1 x2 x3 x4 x5 x6 x7 x8 x9 x10 x11
      cases is
      · have HP : Hid (putM (ms.map (·.1)) = ([], 1)) := by
          unfold putM
          rw [if_neg]
          · exact Lib.hid rfl
          · intro hall
            have := List.all_eq_true.1 hall m (List.mem_map.2 ⟨(m, h), List.mem_of_getElem? HXI.out, rfl⟩)
            rw [← HBD.out] at this
            cases this
        clear hbn
        go_wp2
        exact bodyPost_res (v := .tuple #[.slice none 0 0, .int .i64 1]) (by simp [results, Try.results11, go_sem]) rfl ⟨_, by rw [HP.out], by rw [HP.out]; exact World.ownsRow_nil _ _ _ _, HB2.out⟩
      · have hn31 := hbn rfl
        have ho := or128 n hn31
        have hn0 : (n : Int) ≤ 31 := by omega
        clear hbn
        have HC2 := Lib.hid (oput_any (cap := cq) (CellsIn.of_own HOP.out) HPS.out (by omega))
        go_wp2_with fail
        refine HC2.out.mono ?_
        rintro e w3 ⟨vb, rfl, hob, hbb⟩
        obtain ⟨Ab, cb, hvb, _, _, hbnl⟩ := own_form hob
        subst hvb
        have hbl := bytesOf_len ps (fun p hp => (HPS.out p hp).2)
        obtain ⟨bs, hbs⟩ : ∃ bs, bs = bytesOf ps := ⟨_, rfl⟩
        rw [← hbs] at hob hbnl hbl ⊢
        have HBS := Lib.hid hbs
        have HO3 := Lib.hid (ownsRow_upd HO2.out (Upd.of_below (S := []) hbb) (by simp))
        have HB3 := Lib.hid (HB2.out.trans (hbb.mono HB2.out.size))
        have HOB := Lib.hid hob
        have HNL := Lib.hid hbnl
        clear hob hbb hbnl hbs HC2 HO2 HB2 HOP
        have hob2 : out.length ≤ 300000 := by omega
        go_wp2_with (at_builtin; refine wpList_append_own_at _ rfl (.tmp 29) (.tmp 43) 25 rfl w.heap.size 5 j0 _ 1 1 Try.underlying25 hj0 hy0 hy1 hy2 rfl (by decide) _ out.length (out.map (Value.int .u8)) rfl (HO3.out.alloc _) ⟨w3.heap.size, 0, none⟩ 4 4 [.int .u8 (128 + (n : Int)), .int .u8 t, .int .u8 ((bs.length : Int) / 4 / 256), .int .u8 ((bs.length : Int) / 4 % 256)] rfl rfl ?u1 ?u2 ?u3 ?u4 ?u5 ?_)
        case u1 => exact blk_src (Blk.new w3 5 _)
        case u2 => intro u hu; repeat (first | (rcases List.mem_cons.1 hu with rfl | hu; · rfl) | cases hu)
        case u3 => unfold maxLen; omega
        case u4 => omega
        case u5 => simp; have := HB3.out.size; omega
        intro v4 w4 hown4 hg4 _ hat4
        have hcb := ((((CellsIn.of_own HOB.out).upd ((Upd.refl [] w3).alloc (.cells ([.int .u8 (128 + (n : Int)), .int .u8 t, .int .u8 ((bs.length : Int) / 4 / 256), .int .u8 ((bs.length : Int) / 4 % 256)] : List Value).toArray 5)) (Nat.le_refl _) (by simp)).upd (Upd.of_grown hg4) (by simp) (fun s hs => .inl (HAV.out s (by simpa using hs)))).more (Nat.le_refl _) (Nat.le_trans (by simp) hg4.size))
        have hb4 := grown_upd (HO3.out.alloc (.cells ([.int .u8 (128 + (n : Int)), .int .u8 t, .int .u8 ((bs.length : Int) / 4 / 256), .int .u8 ((bs.length : Int) / 4 % 256)] : List Value).toArray 5)) hg4 (Nat.le_trans HB3.out.size (by simp))
        have hbel4 := (HB3.out.alloc HB3.out.size _).trans hb4
        obtain ⟨A4, c4, hv4, _⟩ := own_form hown4
        subst hv4
        have HO4 := Lib.hid hown4
        have HB4 := Lib.hid hbel4
        have HCB := Lib.hid hcb
        have HS4 := Lib.hid (show w.heap.size ≤ w4.heap.size from hbel4.size)
        clear hown4 hg4 hat4 hcb hb4 hbel4 HO3 HB3 HOB
        have hnl2 := HCB.out.1
        go_wp2_with (at_builtin; refine wpList_append_src _ rfl (.tmp 45) (.tmp 46) 25 rfl w.heap.size 5 j0 _ 1 1 Try.underlying25 hj0 hy0 hy1 hy2 rfl (by decide) (.slice A4 (out.length + 4) c4) (out.length + 4) _ rfl HO4.out Ab bs.length cb (bs.map (Value.int .u8)) rfl HNL.out hnl2 ?s1 ?s2 ?s3 ?s4 HS4.out ?_)
        case s1 => exact HCB.out.src
        case s2 => intro u hu; obtain ⟨x, _, rfl⟩ := List.mem_map.1 hu; rfl
        case s3 => unfold maxLen; omega
        case s4 => omega
        intro v5 w5 hown5 hg5 hat5
        have hb5 := grown_upd HO4.out hg5 HS4.out
        obtain ⟨A5, c5, hv5, _⟩ := own_form hown5
        subst hv5
        have hmb : msgB m = [128 + (n : Int), t, (bs.length : Int) / 4 / 256, (bs.length : Int) / 4 % 256] ++ bs := by
          unfold msgB
          rw [← HBD.out, ← HBS.out]
          dsimp only
          have e3 : ((bs.length : Int) / 4 / 256) % 256 = (bs.length : Int) / 4 / 256 := by omega
          rw [e3]
        have HO5 : Hid (w5.ownsRow w.heap.size 5 1 (.slice A5 (out.length + 4 + bs.length) c5) (out ++ msgB m).length ((out ++ msgB m).map (Value.int .u8))) := by
          have e1 : (out ++ msgB m).length = out.length + 4 + bs.length := by rw [hmb]; simp; omega
          rw [e1]
          refine Lib.hid ?_
          simp only [hmb, List.map_append, List.map_cons, List.cons_append, List.nil_append] at hown5 ⊢
          exact hown5
        have HLE : Hid ((out ++ msgB m).length ≤ 5000 * (i + 1)) := by
          show _ ≤ _
          rw [hmb]; simp; omega
        have HB5 := Lib.hid (HB4.out.trans hb5)
        clear hown5 hg5 hat5 hb5 hmb hnl2
        go_wp2
        go_roundg (gk - 1)
        case measure => omega
        case rel =>
          have et : ((ms.take (i + 1)).map (·.1)) = (ms.take i).map (·.1) ++ [m] := by rw [List.take_add_one, HXI.out, Option.toList_some, List.map_append]; rfl
          refine ⟨i + 1, out ++ msgB m, by omega, by omega, by go_num, ?_, ?_, HLE.out, ?_, HB5.out⟩
          · rw [et]
            intro m' hm'
            rcases List.mem_append.1 hm' with h1 | h1
            · exact HIS.out m' h1
            · rw [List.mem_singleton] at h1; rw [h1, ← HBD.out]
          · rw [et, List.flatMap_append, ← HOUT.out]; simp
          · exact HO5.out
    · obtain rfl : i = ms.length := by omega
      rw [List.take_of_length_le (Nat.le_refl _)] at his hout
      have HO := Lib.hid hown
      have HB := Lib.hid hbel
      have HP : Hid (putM (ms.map (·.1)) = if 1500 < out.length then ([], 13) else (out, 0)) := by
        unfold putM
        rw [if_pos (List.all_eq_true.2 his), ← hout]
        exact Lib.hid rfl
      have hol2 : out.length ≤ 300000 := by omega
      clear hown hbel his hout hlt
      by_cases hbig : 1500 < out.length
      · rw [if_pos hbig] at HP
        have hb2 : (1500 : Int) < (out.length : Int) := by omega
        go_wp2
        exact bodyPost_res (v := .tuple #[.slice none 0 0, .int .i64 13]) (by simp [results, Try.results11, go_sem]) rfl ⟨_, by rw [HP.out], by rw [HP.out]; exact World.ownsRow_nil _ _ _ _, HB.out⟩
      · rw [if_neg hbig] at HP
        have hb2 : ¬ (1500 : Int) < (out.length : Int) := by omega
        go_wp2
        exact bodyPost_res (v := .tuple #[.slice Av out.length cv, .int .i64 0]) (by simp [results, Try.results11, go_sem]) rfl ⟨_, by rw [HP.out], by rw [HP.out]; exact HO.out, HB.out⟩
end Go.Proofs.Ytgkejdjdccgjbaa
/- rtcp's reader: num; the closures of Pli, and of others. Conditions: bytes. -/
namespace Go.Proofs.Ytgkejdjdccgjbaa
open Go Go.RowKit
set_option maxHeartbeats 400000

/-- what a number of so many bytes is, what is left, and what went wrong -/
def numM (xs : List Int) (er : Int) (n : Nat) : Int × List Int × Int :=
  if er ≠ 0 then (0, xs, er) else if xs.length < n then (0, xs, 10) else (numOf (xs.take n), xs.drop n, 0)
theorem numM_lt (xs : List Int) (er : Int) (n : Nat) (h : Byt xs) : 0 ≤ (numM xs er n).1 ∧ (numM xs er n).1 < 256 ^ n := by
  have hp : (0 : Int) < 256 ^ n := Int.pow_pos (by decide)
  unfold numM
  split
  · exact ⟨Int.le_refl _, hp⟩
  split
  · exact ⟨Int.le_refl _, hp⟩
  · have := numOf_lt (xs.take n) (fun b hb => h b (List.mem_of_mem_take hb))
    rwa [List.length_take, Nat.min_eq_left (by omega)] at this
theorem numM_byt (xs : List Int) (er : Int) (n : Nat) (h : Byt xs) : Byt (numM xs er n).2.1 := by
  unfold numM
  split
  · exact h
  split
  · exact h
  · exact fun b hb => h b (List.mem_of_mem_drop hb)
section
variable {w w' : World} {c lo : Nat} {r : Rw} {er : Int}
theorem num_any (h : CutIs w c lo r er) (n : Nat) (h1 : 1 ≤ n) (h8 : n ≤ 8) (hb : Byt r.xs) : Calls Try.prog 44 #[.pointer (some ⟨c, 0, none⟩), .int .i64 n] w fun e w' => ∃ r', e = .returned (.int .u64 (numM r.xs er n).1) ∧ r'.xs = (numM r.xs er n).2.1 ∧ CutIs w' c lo r' (numM r.xs er n).2.2 ∧ (∀ a, r'.A = some a → ∃ a0, r.A = some a0 ∧ a0.block = a.block) ∧ Upd [c] w w' := by
  by_cases he : er = 0
  · subst he
    by_cases hn : r.xs.length < n
    · have e : numM r.xs 0 n = (0, r.xs, 10) := by simp [numM, hn]
      rw [e]
      refine (num_short h n h1 h8 hn).mono ?_
      rintro e w2 ⟨rfl, h2, h3⟩
      exact ⟨r, rfl, rfl, h2, fun a ha => ⟨a, ha, rfl⟩, h3⟩
    · have e : numM r.xs 0 n = (numOf (r.xs.take n), r.xs.drop n, 0) := by simp [numM, hn]
      rw [e]
      refine (num_yes h n h1 h8 (by omega) hb).mono ?_
      rintro e w2 ⟨r', rfl, h2, h3, h4, h5⟩
      exact ⟨r', rfl, h2, h3, h4, h5⟩
  · have e : numM r.xs er n = (0, r.xs, er) := by simp [numM, he]
    rw [e]
    refine (num_err h n h1 h8 he).mono ?_
    rintro e w2 ⟨rfl, rfl⟩
    exact ⟨r, rfl, rfl, h, fun a ha => ⟨a, ha, rfl⟩, Upd.refl _ _⟩
end
/-- a reader in memory -/
structure RdIs (w : World) (rv rp c lo : Nat) (cnt : Int) (cs : List Value) (r : Rw) (er : Int) : Prop where
  bv : Blk w rv 105 #[.pointer (some ⟨rp, 0, none⟩)]
  br : Blk w rp 108 (.pointer (some ⟨c, 0, none⟩) :: .int .i64 cnt :: cs).toArray
  cut : CutIs w c lo r er
  ap : ∀ a, r.A = some a → a.block ≠ rp
section
variable {w w' : World} {rv rp c lo : Nat} {cnt : Int} {cs : List Value} {r : Rw} {er : Int}
theorem RdIs.more (h : RdIs w rv rp c lo cnt cs r er) (u : Upd [] w w') : RdIs w' rv rp c lo cnt cs r er := ⟨h.bv.upd u (by simp), h.br.upd u (by simp), h.cut.more u, h.ap⟩
/-- behind a call that takes of its bytes -/
theorem RdIs.took (h : RdIs w rv rp c lo cnt cs r er) {r' : Rw} {er' : Int} (hc : CutIs w' c lo r' er') (hk : ∀ a, r'.A = some a → ∃ a0, r.A = some a0 ∧ a0.block = a.block) (u : Upd [c] w w') : RdIs w' rv rp c lo cnt cs r' er' :=
  ⟨h.bv.upd u (by rw [List.mem_singleton]; exact h.bv.ne h.cut.bl (by decide)), h.br.upd u (by rw [List.mem_singleton]; exact h.br.ne h.cut.bl (by decide)), hc, fun a ha => by
    obtain ⟨a0, h0, e⟩ := hk a ha
    rw [← e]; exact h.ap a0 h0⟩
/-- a cell of the message is written -/
theorem RdIs.put (h : RdIs w rv rp c lo cnt cs r er) (i : Nat) (v : Value) : RdIs (w.setCell ⟨rp, i + 2, none⟩ v) rv rp c lo cnt (cs.set i v) r er := by
  have hu : Upd [rp] w (w.setCell ⟨rp, i + 2, none⟩ v) := (Upd.refl _ _).setCell (by simp) _
  have nc : c ≠ rp := (h.br.ne h.cut.bl (by decide)).symm
  refine ⟨h.bv.other (by show rv ≠ rp; exact h.bv.ne h.br (by decide)) v, ?_, ⟨h.cut.bl.other (by show c ≠ rp; exact nc) v, h.cut.row.upd2 hu (fun s hs a ha => by rw [List.mem_singleton] at hs; subst hs; exact h.ap a ha), h.cut.ap, h.cut.fm⟩, h.ap⟩
  have := h.br.store (i + 2) v
  simpa using this
theorem rnum_any (h : RdIs w rv rp c lo cnt cs r er) (hb : Byt r.xs) : Calls Try.prog 43 #[.pointer (some ⟨rp, 0, none⟩)] w fun e w' => ∃ r', e = .returned (.int .u32 (numM r.xs er 4).1) ∧ r'.xs = (numM r.xs er 4).2.1 ∧ RdIs w' rv rp c lo cnt cs r' (numM r.xs er 4).2.2 ∧ Upd [c] w w' := by
  have c0 : w.cell? ⟨rp, 0, none⟩ = some (.pointer (some ⟨c, 0, none⟩)) := h.br.cell 0
  have HC := Lib.hid (num_any h.cut 4 (by decide) (by decide) hb)
  have H := Lib.hid h
  have hx := numM_lt r.xs er 4 hb
  generalize numM r.xs er 4 = q at HC hx ⊢
  obtain ⟨x, xs', e'⟩ := q
  dsimp only at HC hx ⊢
  have hx0 := hx.1
  have hx1 : x < 4294967296 := by have := hx.2; omega
  clear h hb hx
  go_enter Try.func43, Try.ntmps43
  go_wp2_with fail
  refine HC.out.mono ?_
  rintro e w1 ⟨r', rfl, h1, h2, h3, h4⟩
  have HH := Lib.hid (And.intro h1 (And.intro (H.out.took h2 h3 h4) h4))
  clear h1 h2 h3 h4 HC
  go_wp2
  go_ret
  exact ⟨r', rfl, HH.out⟩
theorem RdIs.cellAt (h : RdIs w rv rp c lo cnt cs r er) (i : Nat) {u : Value} (hu : cs[i]? = some u) : w.cell? ⟨rp, i + 2, none⟩ = some u := by
  have := h.br.cell (i + 2)
  rw [List.getElem?_toArray] at this
  rw [this]
  simpa using hu
/-- another message: its type alone -/
theorem read7_any (h : RdIs w rv rp c lo cnt cs r er) {bx : Nat} {t : Int} (hbx : Blk w bx 5 #[.int .u8 t]) (hcs : cs.length = 12) :
    Calls Try.prog 51 #[.pointer (some ⟨bx, 0, none⟩), .pointer (some ⟨rv, 0, none⟩)] w fun e w' => e = .returned (.tuple #[]) ∧ RdIs w' rv rp c lo cnt (cs.set 11 (.int .u8 t)) r er ∧ Upd [rp] w w' := by
  have v0 : w.cell? ⟨rv, 0, none⟩ = some (.pointer (some ⟨rp, 0, none⟩)) := h.bv.cell 0
  have b0 : w.cell? ⟨bx, 0, none⟩ = some (.int .u8 t) := hbx.cell 0
  obtain ⟨u, hu⟩ : ∃ u, cs[11]? = some u := ⟨_, List.getElem?_eq_getElem (by omega)⟩
  have r0 : w.cell? ⟨rp, 13, none⟩ = some u := by
    have := h.br.cell 13
    rw [List.getElem?_toArray] at this
    simpa [hu] using this
  have f0 := h.br.frozen 13
  have H := Lib.hid (h.put 11 (.int .u8 t))
  clear h hbx hu hcs
  go_enter Try.func51, Try.ntmps51
  go_wp2
  exact bodyPost_end (v := .tuple #[]) (by simp [results, Try.results51, go_sem]) rfl ⟨rfl, H.out, (Upd.refl _ _).setCell (by simp) _⟩
set_option maxRecDepth 100000 in
/-- a message of Media alone -/
theorem read5_any (h : RdIs w rv rp c lo cnt cs r er) (hb : Byt r.xs) (hcs : cs.length = 12) :
    Calls Try.prog 49 #[.pointer (some ⟨rv, 0, none⟩)] w fun e w' => ∃ r' er', e = .returned (.tuple #[]) ∧
      RdIs w' rv rp c lo cnt ((cs.set 1 (.int .u32 (numM r.xs er 4).1)).set 2 (.int .u32 (numM (numM r.xs er 4).2.1 (numM r.xs er 4).2.2 4).1)) r' er' ∧ er' = (numM (numM r.xs er 4).2.1 (numM r.xs er 4).2.2 4).2.2 ∧
      r'.xs = (numM (numM r.xs er 4).2.1 (numM r.xs er 4).2.2 4).2.1 ∧ Upd [c, rp] w w' := by
  have v0 : w.cell? ⟨rv, 0, none⟩ = some (.pointer (some ⟨rp, 0, none⟩)) := h.bv.cell 0
  have HC := Lib.hid (rnum_any (h.more ((Upd.refl [] w).drewN 1)) hb)
  have hrc : rv ≠ rp := h.bv.ne h.br (by decide)
  have hrc' : rp ≠ rv := hrc.symm
  obtain ⟨u1, hu1⟩ : ∃ u, cs[1]? = some u := ⟨_, List.getElem?_eq_getElem (by omega)⟩
  obtain ⟨u2, hu2⟩ : ∃ u, cs[2]? = some u := ⟨_, List.getElem?_eq_getElem (by omega)⟩
  have HU1 := Lib.hid hu1
  have HU2 := Lib.hid hu2
  have hb1 := numM_byt r.xs er 4 hb
  generalize numM r.xs er 4 = q1 at HC hb1 ⊢
  obtain ⟨a1, xs1, er1⟩ := q1
  dsimp only at HC hb1 ⊢
  have HB1 := Lib.hid hb1
  clear h hb hu1 hu2 hcs hb1
  go_enter Try.func49, Try.ntmps49
  go_wp2_with fail
  go_region_held3 (fun w' => w'.cell? ⟨rv, 0, none⟩ = some (.pointer (some ⟨rp, 0, none⟩))) (first | go_keep | exact v1 | exact v0 | simpa [hrc, hrc'] using v1)
    ((go_at_call 43; refine HC.out.mono ?_; rintro e w1 ⟨r1, rfl, h1, h2, h3⟩; have v1 : w1.cell? ⟨rv, 0, none⟩ = some (.pointer (some ⟨rp, 0, none⟩)) := h2.bv.cell 0; have p1 : w1.cell? ⟨rp, 3, none⟩ = some u1 := h2.cellAt 1 HU1.out; have f1 := h2.br.frozen 3; have HH := Lib.hid (And.intro h1 (And.intro (h2.put 1 (.int .u32 a1)) h3)); clear h1 h2 h3))
  clear HC v0
  obtain ⟨W2, hW2⟩ : ∃ W2, W2 = w1.setCell ⟨rp, 3, none⟩ (.int .u32 a1) := ⟨_, rfl⟩
  obtain ⟨h1, h2, h3⟩ := HH.out
  have hu : Upd [c, rp] w W2 := by rw [hW2]; exact (((Upd.refl [] w).drewN 1).more (by simp)).next (((h3.more (by simp)).next ((Upd.refl [c, rp] w1).setCell (by simp) _)))
  rw [show (1 + 2 : Nat) = 3 from rfl, ← hW2] at h2
  rw [← hW2]
  have v2 : W2.cell? ⟨rv, 0, none⟩ = some (.pointer (some ⟨rp, 0, none⟩)) := h2.bv.cell 0
  have HC := Lib.hid (rnum_any (h2.more ((Upd.refl [] W2).drewN 1)) (by rw [h1]; exact HB1.out))
  rw [h1] at HC
  obtain ⟨⟨a2, xs2, er2⟩, hq2⟩ : ∃ q, q = numM xs1 er1 4 := ⟨_, rfl⟩
  rw [← hq2] at HC
  dsimp only at HC
  have HQ := Lib.hid hq2
  clear hq2
  have HU := Lib.hid hu
  clear hW2 HH h1 h2 h3 hu v1 p1 f1
  go_wp2_with fail
  go_region_held3 (fun w' => w'.cell? ⟨rv, 0, none⟩ = some (.pointer (some ⟨rp, 0, none⟩))) (first | go_keep | exact v3 | exact v2 | simpa [hrc, hrc'] using v3)
    ((go_at_call 43; refine HC.out.mono ?_; rintro e w3 ⟨r3, rfl, h1, h2, h3⟩; have v3 : w3.cell? ⟨rv, 0, none⟩ = some (.pointer (some ⟨rp, 0, none⟩)) := h2.bv.cell 0; have p3 : w3.cell? ⟨rp, 4, none⟩ = some u2 := h2.cellAt 2 (by rw [List.getElem?_set_ne (by decide)]; exact HU2.out); have f3 := h2.br.frozen 4; have HH := Lib.hid (And.intro h1 (And.intro (h2.put 2 (.int .u32 a2)) h3)); clear h1 h2 h3))
  obtain ⟨h1, h2, h3⟩ := HH.out
  exact bodyPost_end (v := .tuple #[]) (by simp [results, Try.results49, go_sem]) rfl ⟨r3, er2, rfl, by rw [← HQ.out]; exact h2, by rw [← HQ.out], by rw [← HQ.out]; exact h1, HU.out.next ((((Upd.refl [] W2).drewN 1).more (by simp)).next ((h3.more (by simp)).next ((Upd.refl [c, rp] w3).setCell (by simp) _)))⟩
end
end Go.Proofs.Ytgkejdjdccgjbaa
/- rtcp's map of closures: what the seven inserts leave, and what is found in it. No condition. -/
namespace Go.Proofs.Ytgkejdjdccgjbaa
open Go Go.RowKit
set_option maxHeartbeats 400000

theorem run_update_int {P : Program} (w : World) (mty kt et : TypeId) (r clock : Nat) (es : Array MapEntry) (k : Int) (val : Value) (hm : P.underlying mty = some (.map kt et)) (hk : P.underlying kt = some (.int .i64)) (hb : w.heap[r]? = some (.map es clock)) (hf : Instr.findNow (.int .i64) (.int .i64 k) es.toList 0 = some none) :
    (Instr.mapUpdate mty (.map (some r)) (.int .i64 k) val).run P w = .ok () { w with heap := w.heap.setIfInBounds r (.map (es.push { key := .int .i64 k, val := val, born := clock }) (clock + 1)) } := by
  have hc : (Instr.checkKey false 10000 kt (.int .i64 k)).run P w = .ok () w := MapKept.run_checkKey (k := .int .i64 k) hk (by simp [MapKept.IsKey]) false 9999
  simp [Instr.mapUpdate, run_underlying hm, MapKept.run_getObj_map hb, hc, MapKept.run_findKey hk hf, MapKept.run_setObj_map _ hb, Result.andThen]
theorem run_lookup_int {P : Program} (w : World) (mty kt et : TypeId) (r clock i : Nat) (es : Array MapEntry) (k : Int) (val : Value) (hm : P.underlying mty = some (.map kt et)) (hk : P.underlying kt = some (.int .i64)) (hb : w.heap[r]? = some (.map es clock)) (hf : Instr.findNow (.int .i64) (.int .i64 k) es.toList 0 = some (some (i, val))) :
    (Instr.lookup mty (.map (some r)) (.int .i64 k) false).run P w = .ok val w := by
  have hc : (Instr.checkKey es.isEmpty 10000 kt (.int .i64 k)).run P w = .ok () w := MapKept.run_checkKey (k := .int .i64 k) hk (by simp [MapKept.IsKey]) es.isEmpty 9999
  simp [Instr.lookup, run_underlying hm, MapKept.run_getObj_map hb, hc, MapKept.run_findKey hk hf, Result.andThen]

/-- a map's block is written -/
def mset (w : World) (r : Nat) (o : Obj) : World := { w with heap := w.heap.setIfInBounds r o }
theorem mset_at {w : World} {r : Nat} {o : Obj} (h : r < w.heap.size) : (mset w r o).heap[r]? = some o := by simp [mset, h]
theorem mset_upd (w : World) (r : Nat) (o : Obj) : Upd [r] w (mset w r o) := ⟨rfl, rfl, rfl, by simp [mset], fun k hk hn => by simp [mset]; rw [Array.getElem?_setIfInBounds_ne (by simp at hn; omega)]⟩
def fv (f : FuncId) (cs : Array Value) : Value := .func (.func f) #[] cs
/-- the map's entries, so many of them -/
def ents (bx rv : Nat) : List MapEntry :=
  [⟨.int .i64 0, fv 42 #[.pointer (some ⟨rv, 0, none⟩)], 0⟩, ⟨.int .i64 1, fv 46 #[.pointer (some ⟨rv, 0, none⟩)], 1⟩, ⟨.int .i64 2, fv 47 #[.pointer (some ⟨rv, 0, none⟩)], 2⟩,
   ⟨.int .i64 3, fv 48 #[.pointer (some ⟨rv, 0, none⟩)], 3⟩, ⟨.int .i64 4, fv 49 #[.pointer (some ⟨rv, 0, none⟩)], 4⟩, ⟨.int .i64 5, fv 50 #[.pointer (some ⟨rv, 0, none⟩)], 5⟩,
   ⟨.int .i64 6, fv 51 #[.pointer (some ⟨bx, 0, none⟩), .pointer (some ⟨rv, 0, none⟩)], 6⟩]
theorem fill_step {M : World} {r : Nat} {l : List MapEntry} (hb : M.heap[r]? = some (.map l.toArray l.length)) (k : Int) (val : Value) (hf : Instr.findNow (.int .i64) (.int .i64 k) l 0 = some none) :
    ∃ M', (Instr.mapUpdate 111 (.map (some r)) (.int .i64 k) val).run Try.prog M = .ok () M' ∧ M'.heap[r]? = some (.map (l ++ [(⟨.int .i64 k, val, l.length⟩ : MapEntry)]).toArray (l ++ [(⟨.int .i64 k, val, l.length⟩ : MapEntry)]).length) ∧ Upd [r] M M' := by
  have hlt : r < M.heap.size := (Array.getElem?_eq_some_iff.1 hb).1
  have h := run_update_int (P := Try.prog) M _ _ _ r l.length l.toArray k val Try.underlying111 Try.underlying3 hb hf
  refine ⟨_, h, ?_, mset_upd M r _⟩
  have := mset_at (w := M) (r := r) (o := .map (l.toArray.push { key := .int .i64 k, val := val, born := l.length }) (l.length + 1)) hlt
  simpa [mset] using this
theorem fill (w : World) (bx rv : Nat) : ∃ M1 M2 M3 M4 M5 M6 M7 : World, (Instr.mapUpdate 111 (.map (some w.heap.size)) (.int .i64 0) (fv 42 #[.pointer (some ⟨rv, 0, none⟩)])).run Try.prog (w.alloc (.map #[] 0)) = .ok () M1 ∧ (Instr.mapUpdate 111 (.map (some w.heap.size)) (.int .i64 1) (fv 46 #[.pointer (some ⟨rv, 0, none⟩)])).run Try.prog M1 = .ok () M2 ∧ (Instr.mapUpdate 111 (.map (some w.heap.size)) (.int .i64 2) (fv 47 #[.pointer (some ⟨rv, 0, none⟩)])).run Try.prog M2 = .ok () M3 ∧ (Instr.mapUpdate 111 (.map (some w.heap.size)) (.int .i64 3) (fv 48 #[.pointer (some ⟨rv, 0, none⟩)])).run Try.prog M3 = .ok () M4 ∧ (Instr.mapUpdate 111 (.map (some w.heap.size)) (.int .i64 4) (fv 49 #[.pointer (some ⟨rv, 0, none⟩)])).run Try.prog M4 = .ok () M5 ∧ (Instr.mapUpdate 111 (.map (some w.heap.size)) (.int .i64 5) (fv 50 #[.pointer (some ⟨rv, 0, none⟩)])).run Try.prog M5 = .ok () M6 ∧ (Instr.mapUpdate 111 (.map (some w.heap.size)) (.int .i64 6) (fv 51 #[.pointer (some ⟨bx, 0, none⟩), .pointer (some ⟨rv, 0, none⟩)])).run Try.prog M6 = .ok () M7 ∧ M7.heap[w.heap.size]? = some (.map (ents bx rv).toArray 7) ∧ Upd [] w M7 := by
  have b0 : (w.alloc (.map #[] 0)).heap[w.heap.size]? = some (.map ([] : List MapEntry).toArray ([] : List MapEntry).length) := heap_alloc_new w _
  obtain ⟨M1, r1, b1, u1⟩ := fill_step b0 0 (fv 42 #[.pointer (some ⟨rv, 0, none⟩)]) rfl
  obtain ⟨M2, r2, b2, u2⟩ := fill_step b1 1 (fv 46 #[.pointer (some ⟨rv, 0, none⟩)]) rfl
  obtain ⟨M3, r3, b3, u3⟩ := fill_step b2 2 (fv 47 #[.pointer (some ⟨rv, 0, none⟩)]) rfl
  obtain ⟨M4, r4, b4, u4⟩ := fill_step b3 3 (fv 48 #[.pointer (some ⟨rv, 0, none⟩)]) rfl
  obtain ⟨M5, r5, b5, u5⟩ := fill_step b4 4 (fv 49 #[.pointer (some ⟨rv, 0, none⟩)]) rfl
  obtain ⟨M6, r6, b6, u6⟩ := fill_step b5 5 (fv 50 #[.pointer (some ⟨rv, 0, none⟩)]) rfl
  obtain ⟨M7, r7, b7, u7⟩ := fill_step b6 6 (fv 51 #[.pointer (some ⟨bx, 0, none⟩), .pointer (some ⟨rv, 0, none⟩)]) rfl
  refine ⟨M1, M2, M3, M4, M5, M6, M7, r1, r2, r3, r4, r5, r6, r7, b7, ?_⟩
  exact ((Upd.refl [] w).alloc _).trans ((((((u1.next u2).next u3).next u4).next u5).next u6).next u7) (fun s hs => .inr (by rw [List.mem_singleton] at hs; omega))
theorem look {M : World} {r bx rv : Nat} (hb : M.heap[r]? = some (.map (ents bx rv).toArray 7)) (k : Int) (i : Nat) (val : Value) (hf : Instr.findNow (.int .i64) (.int .i64 k) (ents bx rv) 0 = some (some (i, val))) :
    (Instr.lookup 111 (.map (some r)) (.int .i64 k) false).run Try.prog M = .ok val M :=
  run_lookup_int (P := Try.prog) M _ _ _ r 7 i (ents bx rv).toArray k val Try.underlying111 Try.underlying3 hb hf
end Go.Proofs.Ytgkejdjdccgjbaa
/- rtcp's read, of Pli and of others. Conditions: bytes, no more than 100000. -/
namespace Go.Proofs.Ytgkejdjdccgjbaa
open Go Go.RowKit
set_option maxHeartbeats 400000

/-- a message of a kind, and of nothing -/
def zcells (k : Int) : List Value := [.int .i64 k, .int .u32 0, .int .u32 0, .int .u64 0, .int .u32 0, .int .u32 0, .int .u32 0, .slice none 0 0, .slice none 0 0, .slice none 0 0, .slice none 0 0, .int .u8 0]
/-- what a body of Pli is -/
def pliM (xs : List Int) : List Value × Int :=
  if (numM (numM xs 0 4).2.1 (numM xs 0 4).2.2 4).2.2 = 0 then (((zcells 4).set 1 (.int .u32 (numM xs 0 4).1)).set 2 (.int .u32 (numM (numM xs 0 4).2.1 (numM xs 0 4).2.2 4).1), 0)
  else (zcells 0, (numM (numM xs 0 4).2.1 (numM xs 0 4).2.2 4).2.2)
section
variable {w5 : World} {c lo : Nat} {r : Rw} {cnt : Int} {cs : List Value}
theorem rd1 (h : CutIs w5 c lo r 0) (hr : ∀ a, r.A = some a → a.block < c) : RdIs ((w5.alloc (.cells (.pointer (some ⟨c, 0, none⟩) :: .int .i64 cnt :: cs).toArray 108)).alloc (.cells #[.pointer (some ⟨w5.heap.size, 0, none⟩)] 105)) (w5.heap.size + 1) w5.heap.size c lo cnt cs r 0 := by
  have hc := h.bl.lt
  refine ⟨?_, (Blk.new _ _ _).alloc _, h.more (((Upd.refl [] w5).alloc _).alloc _), fun a ha => by have := hr a ha; omega⟩
  have := Blk.new (w5.alloc (.cells (.pointer (some ⟨c, 0, none⟩) :: .int .i64 cnt :: cs).toArray 108)) 105 #[.pointer (some ⟨w5.heap.size, 0, none⟩)]
  rwa [World.size_alloc] at this
theorem rd2 (h : CutIs w5 c lo r 0) (hr : ∀ a, r.A = some a → a.block < c) : RdIs ((w5.alloc (.cells #[.pointer (some ⟨w5.heap.size + 1, 0, none⟩)] 105)).alloc (.cells (.pointer (some ⟨c, 0, none⟩) :: .int .i64 cnt :: cs).toArray 108)) w5.heap.size (w5.heap.size + 1) c lo cnt cs r 0 := by
  have hc := h.bl.lt
  refine ⟨(Blk.new _ _ _).alloc _, ?_, h.more (((Upd.refl [] w5).alloc _).alloc _), fun a ha => by have := hr a ha; omega⟩
  have := Blk.new (w5.alloc (.cells #[.pointer (some ⟨w5.heap.size + 1, 0, none⟩)] 105)) 108 (.pointer (some ⟨c, 0, none⟩) :: .int .i64 cnt :: cs).toArray
  rwa [World.size_alloc] at this
theorem rd4 (h : CutIs w5 c lo r 0) (hr : ∀ a, r.A = some a → a.block < c) {g : Nat} (hg : Blk w5 g 105 #[.pointer none]) (hgr : ∀ a, r.A = some a → a.block ≠ g) : RdIs ((w5.setCell ⟨g, 0, none⟩ (.pointer (some ⟨w5.heap.size, 0, none⟩))).alloc (.cells (.pointer (some ⟨c, 0, none⟩) :: .int .i64 cnt :: cs).toArray 108)) g w5.heap.size c lo cnt cs r 0 := by
  have hc := h.bl.lt
  have hu : Upd [g] w5 (w5.setCell ⟨g, 0, none⟩ (.pointer (some ⟨w5.heap.size, 0, none⟩))) := (Upd.refl _ _).setCell (by simp) _
  have hcg : c ≠ g := (hg.ne h.bl (by decide)).symm
  refine ⟨?_, ?_, CutIs.more ⟨h.bl.other (by show c ≠ g; exact hcg) _, h.row.upd2 hu (fun s hs a ha => by rw [List.mem_singleton] at hs; subst hs; exact hgr a ha), h.ap, h.fm⟩ ((Upd.refl [] _).alloc _), fun a ha => by have := hr a ha; omega⟩
  · have := (hg.store 0 (.pointer (some ⟨w5.heap.size, 0, none⟩))).alloc (.cells (.pointer (some ⟨c, 0, none⟩) :: .int .i64 cnt :: cs).toArray 108)
    simpa using this
  · have := Blk.new (w5.setCell ⟨g, 0, none⟩ (.pointer (some ⟨w5.heap.size, 0, none⟩))) 108 (.pointer (some ⟨c, 0, none⟩) :: .int .i64 cnt :: cs).toArray
    simpa [World.setCell] using this
theorem CutIs.lower {lo' : Nat} {w : World} {er : Int} (h : CutIs w c lo r er) (hl : lo' ≤ lo) : CutIs w c lo' r er := ⟨h.bl, h.row.more hl, h.ap, h.fm⟩
end
set_option maxRecDepth 100000 in
set_option maxHeartbeats 4000000 in
theorem read_pli {w : World} {lo : Nat} {r : Rw} (h : RowIn w lo .u8 r) (hl : r.xs.length ≤ 100000) (t count : Int) (hb : Byt r.xs) (hk : kindM t count = 4) :
    Calls Try.prog 30 #[.int .u8 t, .int .i64 count, encR r] w fun e w' => e = .returned (.tuple #[.agg (pliM r.xs).1.toArray, .int .i64 (pliM r.xs).2]) ∧ Upd [] w w' := by
  obtain ⟨W0, hW0⟩ : ∃ W0, W0 = (w.alloc (.cells #[.int .u8 t] 5)).alloc (.cells (zcells 0).toArray 59) := ⟨_, rfl⟩
  have HK := Lib.hid hk
  clear hk
  have HN := Lib.hid (fun W : World => fun (hW : Upd [] w W) => cut_new (h.upd2 hW (by simp)) hl)
  unfold encR at HN ⊢
  unfold zcells at hW0
  go_enter Try.func30, Try.ntmps30
  go_upto_region 1 with fail
  have hB : Blk W0 w.heap.size 5 #[.int .u8 t] := by rw [hW0]; exact (Blk.new _ _ _).alloc _
  have hM : Blk W0 (w.heap.size + 1) 59 (zcells 0).toArray := by
    have := Blk.new (w.alloc (.cells #[.int .u8 t] 5)) 59 (zcells 0).toArray
    rw [World.size_alloc] at this
    rw [hW0]; exact this
  have hU0 : Upd [] w W0 := by rw [hW0]; exact ((Upd.refl [] w).alloc _).alloc _
  have hsz : W0.heap.size = w.heap.size + 1 + 1 := by rw [hW0]; simp
  rw [← hW0]
  obtain ⟨bx, hbx⟩ : ∃ bx, bx = w.heap.size := ⟨_, rfl⟩
  obtain ⟨mr, hmr⟩ : ∃ mr, mr = w.heap.size + 1 := ⟨_, rfl⟩
  have HMR : Hid (w.heap.size ≤ mr) := by rw [hmr]; exact Lib.hid (Nat.le_succ _)
  rw [← hmr] at hM ⊢
  rw [← hbx] at hB ⊢
  have HB := Lib.hid hB
  have HM := Lib.hid hM
  have HU0 := Lib.hid hU0
  have hbl := hB.lt
  have b0 : W0.cell? ⟨bx, 0, none⟩ = some (.int .u8 t) := hB.cell 0
  clear hW0 hbx hmr hB hM hU0 hsz h
  go_cut [8] (fun s8 wd => ∃ (rv rp c : Nat) (r' : Rw), s8 = .pointer (some ⟨rv, 0, none⟩) ∧ r'.xs = r.xs ∧ RdIs wd rv rp c w.heap.size count (zcells (kindM t count)) r' 0 ∧ (w.heap.size ≤ c ∧ w.heap.size ≤ rp) ∧ Upd [] W0 wd)
  case first =>
    go_region_held3 (fun w' => w'.cell? ⟨bx, 0, none⟩ = some (.int .u8 t)) (first | go_keep | exact b5 | exact ((((Upd.refl [W0.heap.size] w5).setCell (by simp) _).alloc _).cell (p := ⟨bx, 0, none⟩) hb5 (by simpa using nb7)).trans b5 | exact (((Upd.refl [] w5).alloc _).cell (p := ⟨bx, 0, none⟩) hb5 (by simp)).trans b5 | exact ((((Upd.refl [] w5).alloc _).alloc _).cell (p := ⟨bx, 0, none⟩) hb5 (by simp)).trans b5)
      (first
        | (go_at_call 41; refine (kind_any t count _).mono ?_; rintro e w6 ⟨rfl, rfl⟩)
        | (go_at_call 25; refine (HN.out _ (HU0.out.drewN 1)).mono ?_; rintro e w5 ⟨c, r', rfl, hx, hcut, hc0, hra, hu5⟩; have hU1 : Upd [] W0 w5 := ((Upd.refl [] W0).drewN 1).next hu5; have HX := Lib.hid (And.intro hx (And.intro hcut (And.intro hc0 hra))); have b5 : w5.cell? ⟨bx, 0, none⟩ = some (.int .u8 t) := (hU1.cell (p := ⟨bx, 0, none⟩) hbl (by simp)).trans b0; have hb5 : bx < w5.heap.size := Nat.lt_of_lt_of_le hbl hU1.size; have nb5 : bx ≠ w5.heap.size := Nat.ne_of_lt hb5; have nb6 : bx ≠ w5.heap.size + 1 := (by omega); have nb7 : bx ≠ W0.heap.size := Nat.ne_of_lt hbl; clear hx hcut hc0 hra hu5)
        | (go_at_call 25; refine (HN.out _ ((HU0.out.drewN 1).alloc (.cells #[.pointer none] 105))).mono ?_; rintro e w5 ⟨c, r', rfl, hx, hcut, hc0, hra, hu5⟩; have hU1 : Upd [] W0 w5 := (((Upd.refl [] W0).drewN 1).alloc _).next hu5; have hq : Blk w5 W0.heap.size 105 #[.pointer none] := (Blk.new (W0.drewN 1) 105 #[.pointer none]).upd hu5 (by simp); have q0 : w5.cell? ⟨W0.heap.size, 0, none⟩ = some (.pointer none) := hq.cell 0; have qf := hq.frozen 0; have ql := hq.lt; have HQ := Lib.hid hq; have HX := Lib.hid (And.intro hx (And.intro hcut (And.intro hc0 hra))); have b5 : w5.cell? ⟨bx, 0, none⟩ = some (.int .u8 t) := (hU1.cell (p := ⟨bx, 0, none⟩) hbl (by simp)).trans b0; have hb5 : bx < w5.heap.size := Nat.lt_of_lt_of_le hbl hU1.size; have nb5 : bx ≠ w5.heap.size := Nat.ne_of_lt hb5; have nb6 : bx ≠ w5.heap.size + 1 := (by omega); have nb7 : bx ≠ W0.heap.size := Nat.ne_of_lt hbl; clear hx hcut hc0 hra hu5 hq))
    all_goals
      obtain ⟨hx, hcut, hc0, hra⟩ := HX.out
      have hcl := hcut.lower (lo' := w.heap.size) (Nat.le_trans HU0.out.size (by simp))
      have HXX := Lib.hid hx
      have HCL := Lib.hid hcl
      have HRA := Lib.hid hra
      have HC0 := Lib.hid hc0
      have hcc : w.heap.size ≤ c := (by have h1 := hc0; have h2 := HU0.out.size; simp at h1; omega)
      have hrr : w.heap.size ≤ w5.heap.size := Nat.le_trans HU0.out.size hU1.size
      have HCC := Lib.hid (And.intro hcc hrr)
      clear hx hcut hcl hra hc0 HX hcc hrr
      go_wp2
      go_meet
      case rel =>
        first
          | exact ⟨_, _, c, r', rfl, HXX.out, rd1 HCL.out (fun a ha => (HRA.out a ha).2), HCC.out, (hU1.alloc _).alloc _⟩
          | exact ⟨_, _, c, r', rfl, HXX.out, rd2 HCL.out (fun a ha => (HRA.out a ha).2), ⟨HCC.out.1, Nat.le_succ_of_le HCC.out.2⟩, (hU1.alloc _).alloc _⟩
          | exact ⟨_, _, c, r', rfl, HXX.out, rd4 HCL.out (fun a ha => (HRA.out a ha).2) HQ.out (fun a ha => by have := (HRA.out a ha).1; simp at this; omega), HCC.out, (hU1.setCell (.inr (Nat.le_refl _)) _).alloc _⟩
  obtain ⟨rv, rp, c, r', rfl, hx, hrd, hnew, hu⟩ := hcut
  have HNEW := Lib.hid hnew
  clear hnew
  obtain ⟨M1, M2, M3, M4, M5, M6, M7, q1, q2, q3, q4, q5, q6, q7, hb7, hu7⟩ := fill wc bx rv
  have qm := run_makeMap_plain (P := Try.prog) wc 111
  have hrd7 := hrd.more hu7
  rw [HK.out] at hrd7
  have v0 : M7.cell? ⟨rv, 0, none⟩ = some (.pointer (some ⟨rp, 0, none⟩)) := hrd7.bv.cell 0
  have k0 : M7.cell? ⟨rp, 2, none⟩ = some (.int .i64 4) := hrd7.cellAt 0 rfl
  have ql := look hb7 4 4 (fv 49 #[.pointer (some ⟨rv, 0, none⟩)]) rfl
  simp only [fv] at q1 q2 q3 q4 q5 q6 q7 ql
  have HC := Lib.hid (read5_any hrd7 (by rw [hx]; exact hb) rfl)
  rw [hx] at HC
  have HM7 := Lib.hid ((HM.out.upd hu (by simp)).upd hu7 (by simp))
  have NMC : Hid (mr ≠ c ∧ mr ≠ rp) := ⟨HM7.out.ne hrd7.cut.bl (by decide), HM7.out.ne hrd7.br (by decide)⟩
  have HU7 := Lib.hid ((HU0.out.next hu).next hu7)
  clear hx hrd hu hb7 hu7 hrd7 b0 HM HU0 HB hbl HN hl
  obtain ⟨⟨a1, xs1, er1⟩, hn1⟩ : ∃ q, q = numM r.xs 0 4 := ⟨_, rfl⟩
  rw [← hn1] at HC
  dsimp only at HC
  obtain ⟨⟨a2, xs2, er2⟩, hn2⟩ : ∃ q, q = numM xs1 er1 4 := ⟨_, rfl⟩
  rw [← hn2] at HC
  dsimp only at HC
  have HPL : Hid (pliM r.xs = if er2 = 0 then (((zcells 4).set 1 (.int .u32 a1)).set 2 (.int .u32 a2), 0) else (zcells 0, er2)) := by
    unfold pliM
    rw [← hn1]
    dsimp only
    rw [← hn2]
    exact Lib.hid rfl
  clear hn1 hn2
  go_wp2_with fail
  refine HC.out.mono ?_
  rintro e w7 ⟨r7, er7, rfl, hrd, her, hr7, hu7⟩
  obtain rfl : er2 = er7 := her.symm
  have hm7 : Blk w7 mr 59 (zcells 0).toArray := HM7.out.upd hu7 (by
    simp only [List.mem_cons, List.not_mem_nil, or_false, not_or]
    exact ⟨NMC.out.1, NMC.out.2⟩)
  have v7 : w7.cell? ⟨rv, 0, none⟩ = some (.pointer (some ⟨rp, 0, none⟩)) := hrd.bv.cell 0
  have c7 : w7.cell? ⟨rp, 0, none⟩ = some (.pointer (some ⟨c, 0, none⟩)) := hrd.br.cell 0
  have rc0 : w7.cell? ⟨rp, 2, none⟩ = some (.int .i64 4) := hrd.cellAt 0 rfl
  have rc1 : w7.cell? ⟨rp, 3, none⟩ = some (.int .u32 a1) := hrd.cellAt 1 rfl
  have rc2 : w7.cell? ⟨rp, 4, none⟩ = some (.int .u32 a2) := hrd.cellAt 2 rfl
  have rc3 : w7.cell? ⟨rp, 5, none⟩ = some (.int .u64 0) := hrd.cellAt 3 rfl
  have rc4 : w7.cell? ⟨rp, 6, none⟩ = some (.int .u32 0) := hrd.cellAt 4 rfl
  have rc5 : w7.cell? ⟨rp, 7, none⟩ = some (.int .u32 0) := hrd.cellAt 5 rfl
  have rc6 : w7.cell? ⟨rp, 8, none⟩ = some (.int .u32 0) := hrd.cellAt 6 rfl
  have rc7 : w7.cell? ⟨rp, 9, none⟩ = some (.slice none 0 0) := hrd.cellAt 7 rfl
  have rc8 : w7.cell? ⟨rp, 10, none⟩ = some (.slice none 0 0) := hrd.cellAt 8 rfl
  have rc9 : w7.cell? ⟨rp, 11, none⟩ = some (.slice none 0 0) := hrd.cellAt 9 rfl
  have rc10 : w7.cell? ⟨rp, 12, none⟩ = some (.slice none 0 0) := hrd.cellAt 10 rfl
  have rc11 : w7.cell? ⟨rp, 13, none⟩ = some (.int .u8 0) := hrd.cellAt 11 rfl
  have HE := Lib.hid (err_any hrd.cut)
  have mc0 : w7.cell? ⟨mr, 0, none⟩ = some (.int .i64 0) := hm7.cell 0
  have mf0 := hm7.frozen 0
  have mc1 : w7.cell? ⟨mr, 1, none⟩ = some (.int .u32 0) := hm7.cell 1
  have mf1 := hm7.frozen 1
  have mc2 : w7.cell? ⟨mr, 2, none⟩ = some (.int .u32 0) := hm7.cell 2
  have mf2 := hm7.frozen 2
  have mc3 : w7.cell? ⟨mr, 3, none⟩ = some (.int .u64 0) := hm7.cell 3
  have mf3 := hm7.frozen 3
  have mc4 : w7.cell? ⟨mr, 4, none⟩ = some (.int .u32 0) := hm7.cell 4
  have mf4 := hm7.frozen 4
  have mc5 : w7.cell? ⟨mr, 5, none⟩ = some (.int .u32 0) := hm7.cell 5
  have mf5 := hm7.frozen 5
  have mc6 : w7.cell? ⟨mr, 6, none⟩ = some (.int .u32 0) := hm7.cell 6
  have mf6 := hm7.frozen 6
  have mc7 : w7.cell? ⟨mr, 7, none⟩ = some (.slice none 0 0) := hm7.cell 7
  have mf7 := hm7.frozen 7
  have mc8 : w7.cell? ⟨mr, 8, none⟩ = some (.slice none 0 0) := hm7.cell 8
  have mf8 := hm7.frozen 8
  have mc9 : w7.cell? ⟨mr, 9, none⟩ = some (.slice none 0 0) := hm7.cell 9
  have mf9 := hm7.frozen 9
  have mc10 : w7.cell? ⟨mr, 10, none⟩ = some (.slice none 0 0) := hm7.cell 10
  have mf10 := hm7.frozen 10
  have mc11 : w7.cell? ⟨mr, 11, none⟩ = some (.int .u8 0) := hm7.cell 11
  have mf11 := hm7.frozen 11
  have hmrp : mr ≠ rp := NMC.out.2
  have HU := Lib.hid (HU7.out.trans hu7 (fun s hs => .inr (by
    simp only [List.mem_cons, List.not_mem_nil, or_false] at hs
    rcases hs with rfl | rfl
    · exact HNEW.out.1
    · exact HNEW.out.2)))
  clear hrd hm7 hr7 hu7 HC HM7 HU7 v0 k0 q1 q2 q3 q4 q5 q6 q7 ql qm
  go_wp2_with fail
  refine HE.out.mono ?_
  rintro e w8 ⟨rfl, rfl⟩
  by_cases he : er2 = 0
  · subst he
    clear HE
    go_wp2
    refine bodyPost_res (v := .tuple #[.agg #[.int .i64 4, .int .u32 a1, .int .u32 a2, .int .u64 0, .int .u32 0, .int .u32 0, .int .u32 0, .slice none 0 0, .slice none 0 0, .slice none 0 0, .slice none 0 0, .int .u8 0], .int .i64 0]) (by simp [results, Try.results30, go_sem, mc0, mc1, mc2, mc3, mc4, mc5, mc6, mc7, mc8, mc9, mc10, mc11]) rfl ⟨?_, ?_⟩
    · rw [HPL.out]; first | (rw [if_pos rfl]; rfl) | (rw [if_pos trivial]; rfl)
    · exact ((((((((((((HU.out.setCell (.inr HMR.out) _).setCell (.inr HMR.out) _).setCell (.inr HMR.out) _).setCell (.inr HMR.out) _).setCell (.inr HMR.out) _).setCell (.inr HMR.out) _).setCell (.inr HMR.out) _).setCell (.inr HMR.out) _).setCell (.inr HMR.out) _).setCell (.inr HMR.out) _).setCell (.inr HMR.out) _).setCell (.inr HMR.out) _)
  · have hne : ¬ er2 = 0 := he
    go_wp2_with fail
    refine HE.out.mono ?_
    rintro e w8 ⟨rfl, rfl⟩
    clear HE
    go_wp2
    refine bodyPost_res (v := .tuple #[.agg #[.int .i64 0, .int .u32 0, .int .u32 0, .int .u64 0, .int .u32 0, .int .u32 0, .int .u32 0, .slice none 0 0, .slice none 0 0, .slice none 0 0, .slice none 0 0, .int .u8 0], .int .i64 er2]) (by simp [results, Try.results30, go_sem, mc0, mc1, mc2, mc3, mc4, mc5, mc6, mc7, mc8, mc9, mc10, mc11]) rfl ⟨?_, ?_⟩
    · rw [HPL.out, if_neg he]; rfl
    · exact ((((((((((((HU.out.setCell (.inr HMR.out) _).setCell (.inr HMR.out) _).setCell (.inr HMR.out) _).setCell (.inr HMR.out) _).setCell (.inr HMR.out) _).setCell (.inr HMR.out) _).setCell (.inr HMR.out) _).setCell (.inr HMR.out) _).setCell (.inr HMR.out) _).setCell (.inr HMR.out) _).setCell (.inr HMR.out) _).setCell (.inr HMR.out) _)
end Go.Proofs.Ytgkejdjdccgjbaa
