/- Parts of the proof, one behind the other: DOpen, Tail5, DRight. No condition of their own. -/
import Derived.Test.YtjcbaelefacolaaB7
import Derived.Test.YtjcbaelefacolaaB2
/- Requests, and how many there may be, that came in as arguments: where they and their rows lie. Plain law on readings. -/
namespace Go.Proofs.Ytjcbaelefacolaa
open Go Go.RowKit Go.ChangeShapes Go.WideShapes Go.Deep
set_option maxHeartbeats 1000000

theorem CellsIn.came {w : World} {size n : Nat} {A : Option Addr} {xs : List Value} (h : Cells w w.heap.size size A n xs) : CellsIn w 0 w.heap.size size A n xs :=
  ⟨h.1, fun hn => by
    obtain ⟨b, off, e, hlt, hc⟩ := h.2 hn
    exact ⟨b, off, e, Nat.zero_le _, hlt, hc⟩⟩
theorem wf_u32n {z : Int} (h : (Lit.int .u32 z).wf = true) : 0 ≤ z := by
  have := bounds_u32 h
  omega
/-- a request that came in: its SSRCs lie in memory -/
structure RqIn (w : World) (q : Rq) (h : SH) : Prop where
  row : RwIn w 0 1 h.A q.ss.length h.c (q.ss.map (Value.int .u32))
  pos : ∀ x, x ∈ q.ss → 0 ≤ x
theorem RqIn.below {w w' : World} {q : Rq} {h : SH} (k : RqIn w q h) (u : Below w.heap.size w w') : RqIn w' q h := ⟨k.row.below u, k.pos⟩
theorem RqIn.q {w : World} {q : Rq} {h : SH} (k : RqIn w q h) (hf : q.ss.length ≤ 6) : QIn w w.heap.size q h := ⟨k.row.l, k.row.nl, k.row.le, k.row.cm, k.pos, hf⟩
section
variable {H : Type} {enc : TypeId × Value → H} {w : World} {base : Nat} {spare : Nat → Bool} {held : Bool}
theorem rd_nil {P : Program} {t e : TypeId} {fuel : Nat} {A : Option Addr} {n c : Nat} {x : DataW H × List MemPlace} (ht : P.underlying t = some (.slice e)) (hf : DataW.trod enc P w base spare held fuel t [.slice A n c] = some x) : A = none → n = 0 ∧ c = 0 := by
  rintro rfl
  rcases open_slice ht hf with ⟨hcs, _⟩ | ⟨a, len, cap, m, n', D, Pl, hcs, _⟩
  · simp at hcs; exact hcs
  · simp at hcs
theorem rd_ss {fuel : Nat} {cs : List Value} {x : DataW H × List MemPlace} (hf : DataW.trod enc Try.prog w base spare held fuel 43 cs = some x) :
    ∃ (h : SH) (l : List Int), cs = [.slice h.A l.length h.c] ∧ RwIn w 0 1 h.A l.length h.c (l.map (Value.int .u32)) ∧ ∀ x ∈ l, 0 ≤ x := by
  obtain ⟨A, len, cap, l, hcs, hlc, hm, hll, hc⟩ := rd_cells (α := { x : Int // 0 ≤ x }) (fun a => [.int .u32 a.1]) (size := 1) Try.underlying43 (by kernel_rfl) (by omega) (fun n cs y hcl hy => by
    obtain ⟨z, e, wz⟩ := rd_int Try.underlying64 hy
    exact ⟨⟨z, wf_u32n wz⟩, e⟩) (fun _ => rfl) hf
  have hl' : (l.map (·.1)).length = len := by rw [List.length_map]; exact hll
  subst hcs
  have hnl := rd_nil Try.underlying43 hf
  refine ⟨⟨A, cap⟩, l.map (·.1), by rw [hl'], ⟨?_, ?_, by rw [hl']; exact hlc, by unfold maxLen at hm; dsimp only; omega⟩, fun r hr => ?_⟩
  · have e : (l.map (·.1)).map (Value.int .u32) = l.flatMap fun a => [.int .u32 a.1] := by
      rw [flat_one (fun a : { x : Int // 0 ≤ x } => Value.int .u32 a.1), List.map_map]; rfl
    rw [hl', e]; exact CellsIn.came hc
  · rw [hl']; exact hnl
  · obtain ⟨a, _, rfl⟩ := List.mem_map.1 hr
    exact a.2
theorem rd_req {n : Nat} {cs : List Value} {y : DataW H × List MemPlace} (hcl : cs.length = 8) (hy : DataW.trod enc Try.prog w base spare held n 45 cs = some y) : ∃ z : { x : Rq × SH // RqIn w x.1 x.2 }, cs = encQ z.1 := by
  obtain ⟨m, hm⟩ := rd_fields (n := n) (fs := _) Try.underlying45 hy
  match cs, hcl with
  | [c0, c1, c2, c3, c4, c5, c6, c7], _ =>
    obtain ⟨y0, hy0⟩ := hm 0 _ 3 0 1 rfl rfl rfl (by kernel_rfl)
    obtain ⟨y1, hy1⟩ := hm 1 _ 3 1 1 rfl rfl rfl (by kernel_rfl)
    obtain ⟨y2, hy2⟩ := hm 2 _ 3 2 1 rfl rfl rfl (by kernel_rfl)
    obtain ⟨y3, hy3⟩ := hm 3 _ 3 3 1 rfl rfl rfl (by kernel_rfl)
    obtain ⟨y4, hy4⟩ := hm 4 _ 3 4 1 rfl rfl rfl (by kernel_rfl)
    obtain ⟨y5, hy5⟩ := hm 5 _ 43 5 1 rfl rfl rfl (by kernel_rfl)
    obtain ⟨y6, hy6⟩ := hm 6 _ 3 6 1 rfl rfl rfl (by kernel_rfl)
    obtain ⟨y7, hy7⟩ := hm 7 _ 3 7 1 rfl rfl rfl (by kernel_rfl)
    obtain ⟨z0, e0, _⟩ := rd_int Try.underlying3 hy0
    obtain ⟨z1, e1, _⟩ := rd_int Try.underlying3 hy1
    obtain ⟨z2, e2, _⟩ := rd_int Try.underlying3 hy2
    obtain ⟨z3, e3, _⟩ := rd_int Try.underlying3 hy3
    obtain ⟨z4, e4, _⟩ := rd_int Try.underlying3 hy4
    obtain ⟨h5, l5, e5, r5, n5⟩ := rd_ss hy5
    obtain ⟨z6, e6, _⟩ := rd_int Try.underlying3 hy6
    obtain ⟨z7, e7, _⟩ := rd_int Try.underlying3 hy7
    have f0 : c0 = _ := (List.cons.inj e0).1
    have f1 : c1 = _ := (List.cons.inj e1).1
    have f2 : c2 = _ := (List.cons.inj e2).1
    have f3 : c3 = _ := (List.cons.inj e3).1
    have f4 : c4 = _ := (List.cons.inj e4).1
    have f5 : c5 = _ := (List.cons.inj e5).1
    have f6 : c6 = _ := (List.cons.inj e6).1
    have f7 : c7 = _ := (List.cons.inj e7).1
    exact ⟨⟨(⟨z0, z1, z2, z3, z4, l5, z6, z7⟩, h5), ⟨r5, n5⟩⟩, by rw [f0, f1, f2, f3, f4, f5, f6, f7]; rfl⟩
theorem open_reqs {fuel : Nat} {cs : List Value} {x : DataW H × List MemPlace} (hf : DataW.trod enc Try.prog w base spare held fuel 24 cs = some x) :
    ∃ (A : Option Addr) (c : Nat) (l : List (Rq × SH)), cs = [.slice A l.length c] ∧ l.length ≤ c ∧ c ≤ maxLen ∧ CellsIn w 0 w.heap.size 8 A l.length (l.flatMap encQ) ∧ ∀ x ∈ l, RqIn w x.1 x.2 := by
  obtain ⟨A, len, cap, l, hcs, hlc, hm, hll, hc⟩ := rd_cells (α := { x : Rq × SH // RqIn w x.1 x.2 }) (fun a => encQ a.1) (size := 8) Try.underlying24 (by kernel_rfl) (by omega) (fun n cs y hcl hy => rd_req hcl hy) (fun _ => rfl) hf
  have hl' : (l.map (·.1)).length = len := by rw [List.length_map]; exact hll
  refine ⟨A, cap, l.map (·.1), by rw [hl']; exact hcs, by rw [hl']; exact hlc, hm, ?_, fun r hr => ?_⟩
  · rw [hl', List.flatMap_map]; exact CellsIn.came hc
  · obtain ⟨a, _, rfl⟩ := List.mem_map.1 hr
    exact a.2
theorem open_conf {fuel : Nat} {cs : List Value} {x : DataW H × List MemPlace} (hcl : cs.length = 4) (hf : DataW.trod enc Try.prog w base spare held fuel 23 cs = some x) :
    ∃ c : Cf, cs = [.int .i64 c.people, .int .i64 c.tracks, .int .i64 c.subs, .int .i64 c.slots] := by
  obtain ⟨m, hm⟩ := rd_fields (n := fuel) (fs := _) Try.underlying23 hf
  match cs, hcl with
  | [c0, c1, c2, c3], _ =>
    obtain ⟨y0, hy0⟩ := hm 0 _ 3 0 1 rfl rfl rfl (by kernel_rfl)
    obtain ⟨y1, hy1⟩ := hm 1 _ 3 1 1 rfl rfl rfl (by kernel_rfl)
    obtain ⟨y2, hy2⟩ := hm 2 _ 3 2 1 rfl rfl rfl (by kernel_rfl)
    obtain ⟨y3, hy3⟩ := hm 3 _ 3 3 1 rfl rfl rfl (by kernel_rfl)
    obtain ⟨z0, e0, _⟩ := rd_int Try.underlying3 hy0
    obtain ⟨z1, e1, _⟩ := rd_int Try.underlying3 hy1
    obtain ⟨z2, e2, _⟩ := rd_int Try.underlying3 hy2
    obtain ⟨z3, e3, _⟩ := rd_int Try.underlying3 hy3
    have f0 : c0 = _ := (List.cons.inj e0).1
    have f1 : c1 = _ := (List.cons.inj e1).1
    have f2 : c2 = _ := (List.cons.inj e2).1
    have f3 : c3 = _ := (List.cons.inj e3).1
    exact ⟨⟨z0, z1, z2, z3⟩, by rw [f0, f1, f2, f3]⟩
end
end Go.Proofs.Ytjcbaelefacolaa
/- A region that draws its order: reads first, wherever they stand; then a call, beside which an alloc floats; then copies; then a tail in one forced order. Two walks serve every order: the alloc ahead of the call, and behind it.
   Conditions: the Bool over the region holds; each read is quiet in the class; the class holds behind each operation but the last. -/
namespace Go.Proofs.Ytjcbaelefacolaa
open Go

section
variable {P : Program} {ops : Array Oper} {md : Region.Mode} {S : World → Prop} {Q : Exit → Act → World → Prop}

/-- some operations in a row, the class behind each; then K -/
def wpHeldK (P : Program) (ops : Array Oper) (Q : Exit → Act → World → Prop) (S : World → Prop) (K : Act → World → Prop) : List Oper → Act → World → Prop
  | [], a, w => K a w
  | o :: rest, a, w =>
    if Region.wanted o (yielded ops a.tmps) then o.wp P a w (fun a' w' => S w' ∧ wpHeldK P ops Q S K rest a' w') Q ∨ (o.asks P a w ∧ LetsOut Q) else S w ∧ wpHeldK P ops Q S K rest (a.put o.dst undef) w
theorem wpHeldK_step {K : Act → World → Prop} {a : Act} {w : World} {o : Oper} {rest : List Oper} (hg : o.guard = none)
    (h : ∀ J : Act → World → Prop, RowKit.Hid (∀ a w, S w → wpHeldK P ops Q S K rest a w → J a w) → Oper.wp P o a w J Q) : wpHeldK P ops Q S K (o :: rest) a w := by
  unfold wpHeldK
  rw [if_pos (by simp [Region.wanted, hg])]
  exact .inl (h _ (Lib.hid (fun a w h1 h2 => ⟨h1, h2⟩)))
/-- one operation of a held tail by a law on lists -/
theorem wpHeld_list {o : Oper} {rest : List Oper} {a : Act} {w : World} (h : ∀ Q1 : Exit → Act → World → Prop, RowKit.Hid (∀ a w, (rest = [] ∨ S w) → wpHeld P ops Q S rest a w → Q1 .normal a w) → wpList P ops Q1 [o] a w) : wpHeld P ops Q S (o :: rest) a w := by
  have h1 := h (fun e a w => match e with | .normal => (rest = [] ∨ S w) ∧ wpHeld P ops Q S rest a w | e => Q e a w) (Lib.hid (fun a w k1 k2 => ⟨k1, k2⟩))
  unfold wpHeld
  unfold wpList at h1
  split
  · rename_i hw
    rw [if_pos hw] at h1
    exact h1
  · rename_i hw
    rw [if_neg hw] at h1
    exact h1
theorem wpQuiet_then {K : Act → World → Prop} {a : Act} {w : World} (h : K a w) : wpHeldK P ops Q S K [] a w := h
theorem op_of_heldK {K : Act → World → Prop} {a : Act} {w : World} {i : Nat} {o : Oper} {rest : List Oper} (h0 : ops[i]? = some o) (h : wpHeldK P ops Q S K (o :: rest) a w) : wpOp P ops Q i (fun a' w' => S w' ∧ wpHeldK P ops Q S K rest a' w') a w := by
  unfold wpOp
  simp only [h0]
  unfold wpHeldK at h
  exact h
theorem wpQuiet_imp {R R' : Act → Prop} (h : ∀ a, R a → R' a) : ∀ (l : List Oper) (a : Act), wpQuiet P ops S R l a → wpQuiet P ops S R' l a := by
  intro l
  induction l with
  | nil => intro a ha; exact h a ha
  | cons o rest ih =>
    intro a ha
    unfold wpQuiet at ha ⊢
    split
    · rename_i hw
      rw [if_pos hw] at ha
      obtain ⟨v, h1, h2⟩ := ha
      exact ⟨v, h1, ih _ h2⟩
    · rename_i hw
      rw [if_neg hw] at ha
      exact ih _ ha
/-- marked, one behind the other -/
def markAll : List Nat → Array Bool → Array Bool
  | [], done => done
  | k :: is, done => markAll is (done.setIfInBounds k true)
def pre5 (md : Region.Mode) (ops : Array Oper) : List Nat → Array Bool → Bool
  | [], _ => true
  | k :: is, done => valB ops k && decide (k < ops.size) && awaited md ops k && (Region.ready md ops done).contains k && Region.free md ops done k && pre5 md ops is (done.setIfInBounds k true)
theorem marks_all : ∀ (is : List Nat) (done : Array Bool), Marks4 md ops done → pre5 md ops is done = true → Marks4 md ops (markAll is done) := by
  intro is
  induction is with
  | nil => intro done h _; exact h
  | cons k is ih =>
    intro done h hB
    simp only [pre5, Bool.and_eq_true, decide_eq_true_eq] at hB
    exact ih _ (h.set (by simpa using hB.1.1.2)) hB.2
theorem pre_anyD2 {l : List Oper} {w : World} {m : Nat} (hsel : Region.noSelect l.toArray = true) (hQ : ∀ c tmps a w, Q (.panic c) { a with tmps := tmps } w → Q (.panic c) a w) (hS : S w) :
    ∀ (is : List Nat) (done : Array Bool) (a : Act), Marks4 md l.toArray done →
      pre5 md l.toArray is done = true → wpQuiet P l.toArray S (fun a' => wpAnyD P md l.toArray Q S m (markAll is done) a' w) (pick3 l is) a → wpAnyD P md l.toArray Q S (is.length + m) done a w := by
  intro is
  induction is with
  | nil =>
    intro done a _ _ hq
    rw [List.length_nil, Nat.zero_add]
    exact hq
  | cons k is ih =>
    intro done a hM hB hq
    simp only [pre5, Bool.and_eq_true, decide_eq_true_eq] at hB
    obtain ⟨⟨⟨⟨⟨hmv, hks⟩, haw⟩, hr⟩, hf⟩, hB'⟩ := hB
    obtain ⟨o, h0⟩ : ∃ o, l[k]? = some o := ⟨_, List.getElem?_eq_getElem (by simpa using hks)⟩
    have h0' : l.toArray[k]? = some o := by simpa using h0
    rw [pick3_cons h0] at hq
    have hr' : k ∈ Region.ready md l.toArray done := by simpa using hr
    have hq' : qOp P l.toArray S k (wpQuiet P l.toArray S (fun a' => wpAnyD P md l.toArray Q S m (markAll (k :: is) done) a' w) (pick3 l is)) a := by unfold qOp; simp only [h0']; exact hq
    obtain ⟨v, hy, hK⟩ := yieldsIn_of_qOp h0' hq'
    rw [show (k :: is).length + m = (is.length + m) + 1 by simp; omega]
    exact wpAnyD_first h0' (Region.noSelect_spec hsel) haw (fun c a' w' h' => hQ c (a'.put o.dst v).tmps a' w' (by rw [put_tmps]; exact h')) (is.length + m) done a w hM (Region.free_spec h0' hf) hr' (yieldsIf_of_val h0' hmv hy) hS
      (ih _ _ (hM.set hr') hB' hK)

def new5 (md : Region.Mode) (ops : Array Oper) (F : List Nat) (k al : Nat) (P2 T2 : List Nat) : Bool :=
  Region.noSelect ops && decide (F.length + (P2.length + T2.length + 2) = ops.size) && pre5 md ops F (Array.replicate ops.size false) && decide (k < ops.size) && decide (al < ops.size) &&
  decide (Region.ready md ops (markAll F (Array.replicate ops.size false)) = [k, al]) &&
  decide (Region.ready md ops ((markAll F (Array.replicate ops.size false)).setIfInBounds al true) = [k]) &&
  pre4 md ops T2 P2 (((markAll F (Array.replicate ops.size false)).setIfInBounds al true).setIfInBounds k true) &&
  pre4 md ops (al :: T2) P2 ((markAll F (Array.replicate ops.size false)).setIfInBounds k true)

/-- THE REGION: F is taken first; then the call and the alloc, in either order; then P2 and T2. -/
theorem wp_new_call {id : Nat} {a : Act} {w : World} {l : List Oper} (C : World → Prop) (hC : C (w.drewN 1)) (F : List Nat) (k al : Nat) (P2 T2 : List Nat) (hm : P.follows .mixedOrders = true) (hB : new5 .any l.toArray F k al P2 T2 = true)
    (hQ : ∀ c tmps a w, Q (.panic c) { a with tmps := tmps } w → Q (.panic c) a w)
    (h : Nonempty (Cls C) → wpQuiet P l.toArray (fun w' => ∃ x : Cls C, w' = x.w) (fun a' =>
      wpHeldK P l.toArray Q (fun w' => ∃ x : Cls C, w' = x.w) (fun a2 w2 => wpQuiet P l.toArray (fun w' => ∃ x : Cls C, w' = x.w) (fun a3 => wpHeld P l.toArray Q (fun w' => ∃ x : Cls C, w' = x.w) (pick3 l T2) a3 w2) (pick3 l P2) a2) (pick3 l [al, k]) a' (w.drewN 1) ∧
      wpHeldK P l.toArray Q (fun w' => ∃ x : Cls C, w' = x.w) (fun a2 w2 => wpQuiet P l.toArray (fun w' => ∃ x : Cls C, w' = x.w) (fun a3 => wpHeld P l.toArray Q (fun w' => ∃ x : Cls C, w' = x.w) (pick3 l (al :: T2)) a3 w2) (pick3 l P2) a2) (pick3 l [k]) a' (w.drewN 1)) (pick3 l F) a) :
    (Code.region id l.toArray true).wp P Q a w := by
  have h := h ⟨⟨_, hC⟩⟩
  simp only [new5, Bool.and_eq_true, decide_eq_true_eq] at hB
  obtain ⟨⟨⟨⟨⟨⟨⟨⟨hsel, hlen⟩, hpre⟩, hk⟩, hal⟩, hr0⟩, hr1⟩, hp1⟩, hp2⟩ := hB
  have inv0 : Marks4 .any l.toArray (Array.replicate l.toArray.size false) :=
    ⟨by simp, fun j oj _ hl => by rw [getD_replicate_false] at hl; exact absurd hl (by decide)⟩
  have inv1 := marks_all F _ inv0 hpre
  obtain ⟨ok, h0⟩ : ∃ o, l[k]? = some o := ⟨_, List.getElem?_eq_getElem (by simpa using hk)⟩
  have h0' : l.toArray[k]? = some ok := by simpa using h0
  obtain ⟨oa, g0⟩ : ∃ o, l[al]? = some o := ⟨_, List.getElem?_eq_getElem (by simpa using hal)⟩
  have g0' : l.toArray[al]? = some oa := by simpa using g0
  have mk : k ∈ Region.ready .any l.toArray (markAll F (Array.replicate l.toArray.size false)) := by rw [hr0]; simp
  have ma : al ∈ Region.ready .any l.toArray (markAll F (Array.replicate l.toArray.size false)) := by rw [hr0]; simp
  have mk2 : k ∈ Region.ready .any l.toArray ((markAll F (Array.replicate l.toArray.size false)).setIfInBounds al true) := by rw [hr1]; simp
  refine wp_region_any hm ?_
  have key := pre_anyD2 (P := P) (md := .any) (Q := Q) (m := P2.length + T2.length + 2) (w := { w with drawn := w.drawn + 1 }) (S := fun w' => ∃ x : Cls C, w' = x.w) hsel hQ ⟨⟨_, hC⟩, rfl⟩ F _ a inv0 hpre (wpQuiet_imp (fun a' ha' => ?_) _ _ h)
  · rw [hlen] at key
    exact wpAny_of_D _ _ _ _ key
  obtain ⟨G1, G2⟩ := ha'
  rw [pick3_cons g0, pick3_cons h0] at G1
  rw [pick3_cons h0] at G2
  refine ⟨fun hn => (by rw [hr0] at hn; cases hn), fun i hi => ?_⟩
  rw [hr0] at hi
  rcases List.mem_cons.1 hi with rfl | hi
  · refine wpOp_mono (fun a2 w2 h2 => ⟨.inr h2.1, ?_⟩) (op_of_heldK h0' G2)
    have h3 : wpQuiet P l.toArray (fun w' => ∃ x : Cls C, w' = x.w) (fun a3 => wpHeld P l.toArray Q (fun w' => ∃ x : Cls C, w' = x.w) (pick3 l (al :: T2)) a3 w2) (pick3 l P2) a2 := h2.2
    have := pre_anyD (P := P) (md := .any) (Q := Q) (T := al :: T2) (w := w2) hsel hQ h2.1 P2 _ a2 (inv1.set mk) hp2 h3
    rw [show P2.length + (al :: T2).length = P2.length + T2.length + 1 by simp; omega] at this
    exact this
  · obtain rfl : i = al := by simpa using hi
    refine wpOp_mono (fun a2 w2 h2 => ⟨.inr h2.1, ?_⟩) (op_of_heldK g0' G1)
    refine ⟨fun hn => (by rw [hr1] at hn; cases hn), fun j hj => ?_⟩
    rw [hr1] at hj
    obtain rfl : j = k := by simpa using hj
    refine wpOp_mono (fun a3 w3 h3 => ⟨.inr h3.1, ?_⟩) (op_of_heldK h0' h2.2)
    have h4 : wpQuiet P l.toArray (fun w' => ∃ x : Cls C, w' = x.w) (fun a3 => wpHeld P l.toArray Q (fun w' => ∃ x : Cls C, w' = x.w) (pick3 l T2) a3 w3) (pick3 l P2) a3 := h3.2
    exact pre_anyD (P := P) (md := .any) (Q := Q) (T := T2) (w := w3) hsel hQ h3.1 P2 _ a3 ((inv1.set ma).set mk2) hp1 h4
end
end Go.Proofs.Ytjcbaelefacolaa
/- DeltaRight: the walk. -/
namespace Go.Proofs.Ytjcbaelefacolaa
open Go Go.RowKit
set_option maxHeartbeats 400000

set_option maxRecDepth 100000 in
set_option maxHeartbeats 4000000 in
theorem right_any (c : Cf) (A : Option Addr) (cap : Nat) (l : List (Rq × SH)) (w : World) (hl : l.length ≤ 9223372036854775807) (hc : CellsIn w 0 w.heap.size 8 A l.length (l.flatMap encQ)) (hx : ∀ x, x ∈ l → RqIn w x.1 x.2) :
    Calls Try.prog 4 #[.agg #[.int .i64 c.people, .int .i64 c.tracks, .int .i64 c.subs, .int .i64 c.slots], .slice A l.length cap] w fun e w' => e = .returned (.bool true) ∧ Below w.heap.size w w' := by
  obtain ⟨W0, hW0⟩ : ∃ W, W = w.alloc (.cells #[.int .i64 c.people, .int .i64 c.tracks, .int .i64 c.subs, .int .i64 c.slots] 23) := ⟨_, rfl⟩
  obtain ⟨g, hg⟩ : ∃ g, g = w.heap.size := ⟨_, rfl⟩
  have hu0 : Upd [] w W0 := by rw [hW0]; exact (Upd.refl [] w).alloc _
  have hb0 : Blk W0 g 23 #[.int .i64 c.people, .int .i64 c.tracks, .int .i64 c.subs, .int .i64 c.slots] := by rw [hW0, hg]; exact Blk.new _ _ _
  have HC := Lib.hid hc
  have HRX := Lib.hid hx
  have HU0 := Lib.hid hu0
  have HB0 := Lib.hid hb0
  have HF := Lib.hid (fun (W : World) (u : Upd [] w W) => few_any (cap := cap) ((hc.below (u.below (Nat.le_refl _) (by simp)) (Nat.le_refl _)).more (Nat.le_refl _) u.size) hl)
  obtain ⟨L, hL⟩ : ∃ L, L = l.length := ⟨_, rfl⟩
  have HL := Lib.hid hL
  obtain ⟨b1, hb1⟩ : ∃ b, b = fewQ (l.map (·.1)) := ⟨_, rfl⟩
  have HB1 := Lib.hid hb1
  obtain ⟨b2, hb2⟩ : ∃ b, b = confOk c := ⟨_, rfl⟩
  have HB2 := Lib.hid hb2
  have HBG := Lib.hid (fun (W : World) => begun_any W c)
  rw [← hb2] at HBG
  rw [← hb1, ← hL] at HF
  rw [← hL] at hl ⊢
  clear hb1 hb2 hL hc hx hu0 hb0
  go_enter Try.func4, Try.ntmps4
  go_upto_region 1 with fail
  rw [← hW0, ← hg]
  have HG := Lib.hid hg
  clear hW0 hg
  go_wp2_with fail
  refine (awake_any _).mono ?_
  rintro _ w1 ⟨rfl, hu1⟩
  have HU1 := Lib.hid (HU0.out.next hu1)
  have HB01 := Lib.hid (HB0.out.upd hu1 (by simp))
  clear hu1 HU0 HB0
  go_wp2_with fail
  refine (HF.out _ HU1.out).mono ?_
  rintro _ w1' ⟨rfl, hw1⟩
  replace hw1 := hw1.symm
  subst hw1
  go_upto_region 5 with fail
  have g0 : w1.cell? ⟨g, 0, none⟩ = some (.int .i64 c.people) := HB01.out.cell 0
  have g1 : w1.cell? ⟨g, 1, none⟩ = some (.int .i64 c.tracks) := HB01.out.cell 1
  have g2 : w1.cell? ⟨g, 2, none⟩ = some (.int .i64 c.subs) := HB01.out.cell 2
  have g3 : w1.cell? ⟨g, 3, none⟩ = some (.int .i64 c.slots) := HB01.out.cell 3
  rw [show scells (newM (confM c)) newHd = [.int .i64 (confM c).people, .int .i64 (confM c).tracks, .int .i64 (confM c).subs, .int .i64 (confM c).slots, .slice none 0 0, .slice none 0 0, .slice none 0 0] from rfl] at HBG
  go_wp2_with fail
  refine (HBG.out _).mono ?_
  rintro _ w2 ⟨rfl, hu2⟩
  have HU2 := Lib.hid (HU1.out.next hu2)
  clear hu2 HU1 HB01 g0 g1 g2 g3 HF HBG
  go_upto_region 6 with fail
  obtain ⟨S, hS⟩ : ∃ S, S = w2.heap.size := ⟨_, rfl⟩
  obtain ⟨m, hm⟩ : ∃ m, m = confM c := ⟨_, rfl⟩
  rw [← hm]
  obtain ⟨w3, hw3⟩ : ∃ W, W = w2.alloc (.cells #[.int .i64 m.people, .int .i64 m.tracks, .int .i64 m.subs, .int .i64 m.slots, .slice none 0 0, .slice none 0 0, .slice none 0 0] 31) := ⟨_, rfl⟩
  obtain ⟨w4, hw4⟩ : ∃ W, W = w3.alloc (.cells #[.int .i64 c.people, .int .i64 c.tracks, .int .i64 c.subs, .int .i64 c.slots, .slice none 0 0, .slice none 0 0, .slice none 0 0] 37) := ⟨_, rfl⟩
  rw [← hS, ← hw3, ← hw4]
  have u3 : Upd [] w2 w3 := by rw [hw3]; exact (Upd.refl [] w2).alloc _
  have u4 : Upd [] w3 w4 := by rw [hw4]; exact (Upd.refl [] w3).alloc _
  have HU4 : Hid (Upd [] w w4) := Lib.hid ((HU2.out.next u3).next u4)
  have HB4 : Hid (Blk w4 S 31 (scells (newM m) newHd).toArray) := Lib.hid (by
    have : Blk w3 S 31 (scells (newM m) newHd).toArray := by rw [hw3, hS]; exact Blk.new _ _ _
    exact this.upd u4 (by simp))
  have HWS : Hid (w.heap.size ≤ S) := Lib.hid (by rw [hS]; exact HU2.out.size)
  have HM := Lib.hid hm
  clear hS hw3 hw4 u3 u4 HU2 hm
  cases b1 with
  | false =>
    go_wp2
    go_ret
    exact ⟨rfl, HU4.out.below (Nat.le_refl _) (by simp)⟩
  | true =>
  cases b2 with
  | false =>
    go_wp2
    go_ret
    exact ⟨rfl, HU4.out.below (Nat.le_refl _) (by simp)⟩
  | true =>
  have hmc : m = c := by rw [HM.out]; unfold confM; rw [← HB2.out]; rfl
  subst hmc
  have HIV : Hid (Inv (newM m)) := Lib.hid (by
    have := HB2.out.symm
    unfold confOk at this
    simp only [decide_eq_true_eq] at this
    exact inv_new m ⟨by omega, by omega⟩ ⟨by omega, by omega⟩ ⟨by omega, by omega⟩ ⟨by omega, by omega⟩)
  have HQ6 : Hid (∀ x, x ∈ l → x.1.ss.length ≤ 6) := Lib.hid (fun x hx => by
    have := HB1.out.symm
    unfold fewQ at this
    simp only [Bool.and_eq_true, List.all_eq_true, decide_eq_true_eq] at this
    exact this.1 x.1 (List.mem_map.2 ⟨x, hx, rfl⟩))
  have HS4 : Hid (StAv w4 S (newM m) newHd) := Lib.hid ⟨⟨⟨CellsIn.nil _ _ _ _ _, fun _ => ⟨rfl, rfl⟩, Nat.le_refl _, by unfold newHd; dsimp only; omega⟩, ⟨CellsIn.nil _ _ _ _ _, fun _ => ⟨rfl, rfl⟩, Nat.le_refl _, by unfold newHd; dsimp only; omega⟩, ⟨CellsIn.nil _ _ _ _ _, fun _ => ⟨rfl, rfl⟩, Nat.le_refl _, by unfold newHd; dsimp only; omega⟩, rfl, fun x hx => (by cases hx)⟩, ⟨fun hn => absurd hn (Nat.lt_irrefl 0), fun hn => absurd hn (Nat.lt_irrefl 0), fun hn => absurd hn (Nat.lt_irrefl 0), fun x hx => (by cases hx)⟩⟩
  have HBW : Hid (Below w.heap.size w w4) := Lib.hid (HU4.out.below (Nat.le_refl _) (by simp))
  clear HM HB2 HB1 HU4
  go_wp2
  go_loopg [10] L (fun gk x10 wr => ∃ i : Nat, i ≤ L ∧ L ≤ i + gk ∧ x10 = .int .i64 i ∧ ∃ s h, Inv s ∧ Blk wr S 31 (scells s h).toArray ∧ StAv wr S s h ∧ Below w.heap.size w wr)
  case atStart => exact ⟨0, Nat.zero_le _, by omega, rfl, _, _, HIV.out, HB4.out, HS4.out, HBW.out⟩
  case round =>
    obtain ⟨i, hi, hgi, rfl, s, h, hiv, hbk, hst, hbw⟩ := hrel
    by_cases hlt : i < L
    · obtain ⟨x, hxi⟩ : ∃ p, l[i]? = some p := ⟨_, List.getElem?_eq_getElem (by rw [← HL.out]; exact hlt)⟩
      obtain ⟨b, off, rfl, hb1, hb2, hcc⟩ := HC.out.2 (by rw [← HL.out]; omega)
      have hxm := List.mem_of_getElem? hxi
      have hbwr : b < wr.heap.size := Nat.lt_of_lt_of_le hb2 hbw.size
      have c0 := (hbw.cell (p := ⟨b, off + (i * 8 + 0), none⟩) hb2).trans (hcc (i * 8 + 0) _ (flat_get encQ_len l i 0 x hxi (by omega)))
      have c1 := (hbw.cell (p := ⟨b, off + (i * 8 + 1), none⟩) hb2).trans (hcc (i * 8 + 1) _ (flat_get encQ_len l i 1 x hxi (by omega)))
      have c2 := (hbw.cell (p := ⟨b, off + (i * 8 + 2), none⟩) hb2).trans (hcc (i * 8 + 2) _ (flat_get encQ_len l i 2 x hxi (by omega)))
      have c3 := (hbw.cell (p := ⟨b, off + (i * 8 + 3), none⟩) hb2).trans (hcc (i * 8 + 3) _ (flat_get encQ_len l i 3 x hxi (by omega)))
      have c4 := (hbw.cell (p := ⟨b, off + (i * 8 + 4), none⟩) hb2).trans (hcc (i * 8 + 4) _ (flat_get encQ_len l i 4 x hxi (by omega)))
      have c5 := (hbw.cell (p := ⟨b, off + (i * 8 + 5), none⟩) hb2).trans (hcc (i * 8 + 5) _ (flat_get encQ_len l i 5 x hxi (by omega)))
      have c6 := (hbw.cell (p := ⟨b, off + (i * 8 + 6), none⟩) hb2).trans (hcc (i * 8 + 6) _ (flat_get encQ_len l i 6 x hxi (by omega)))
      have c7 := (hbw.cell (p := ⟨b, off + (i * 8 + 7), none⟩) hb2).trans (hcc (i * 8 + 7) _ (flat_get encQ_len l i 7 x hxi (by omega)))
      have hrq := (HRX.out x hxm).below (hbw)
      have hdo := fun (W : World) (u : Upd [] wr W) => do_any (hst.upd u).st hiv ((hrq.below (u.below (Nat.le_refl _) (by simp))).q (HQ6.out x hxm))
      obtain ⟨⟨kd, who, room, rights, track, ss, layer, tid⟩, ⟨qA, qc⟩⟩ := x
      simp only [encQ, qcells, List.getElem?_cons_zero, List.getElem?_cons_succ, List.getElem_cons_zero, List.getElem_cons_succ, ← Nat.add_assoc, Nat.add_zero] at c0 c1 c2 c3 c4 c5 c6 c7
      unfold qcells at hdo
      dsimp only at hdo
      obtain ⟨ql, hql⟩ : ∃ n, n = ss.length := ⟨_, rfl⟩
      obtain ⟨n1, hn1⟩ : ∃ n, n = s.ps.length := ⟨_, rfl⟩
      obtain ⟨n2, hn2⟩ : ∃ n, n = s.ts.length := ⟨_, rfl⟩
      obtain ⟨n3, hn3⟩ : ∃ n, n = s.bs.length := ⟨_, rfl⟩
      obtain ⟨r, hr⟩ : ∃ r, r = doM s ⟨kd, who, room, rights, track, ss, layer, tid⟩ := ⟨_, rfl⟩
      obtain ⟨t, er⟩ := r
      rw [show scells s h = [.int .i64 s.c.people, .int .i64 s.c.tracks, .int .i64 s.c.subs, .int .i64 s.c.slots, .slice h.pA n1 h.pc, .slice h.tA n2 h.tc, .slice h.bA n3 h.bc] by unfold scells; rw [← hn1, ← hn2, ← hn3]] at hbk hdo
      rw [← hql] at hdo c5
      rw [← hr] at hdo
      dsimp only at hdo
      obtain ⟨m1, hm1⟩ : ∃ n, n = t.ps.length := ⟨_, rfl⟩
      obtain ⟨m2, hm2⟩ : ∃ n, n = t.ts.length := ⟨_, rfl⟩
      obtain ⟨m3, hm3⟩ : ∃ n, n = t.bs.length := ⟨_, rfl⟩
      have hsc : ∀ h', scells t h' = [.int .i64 t.c.people, .int .i64 t.c.tracks, .int .i64 t.c.subs, .int .i64 t.c.slots, .slice h'.pA m1 h'.pc, .slice h'.tA m2 h'.tc, .slice h'.bA m3 h'.bc] := fun h' => by unfold scells; rw [← hm1, ← hm2, ← hm3]
      have HDO : Hid (∀ W, Upd [] wr W → Calls Try.prog 12 #[.agg #[.int .i64 s.c.people, .int .i64 s.c.tracks, .int .i64 s.c.subs, .int .i64 s.c.slots, .slice h.pA n1 h.pc, .slice h.tA n2 h.tc, .slice h.bA n3 h.bc], .agg #[.int .i64 kd, .int .i64 who, .int .i64 room, .int .i64 rights, .int .i64 track, .slice qA ql qc, .int .i64 layer, .int .i64 tid]] W fun e w' =>
          ∃ h', e = .returned (.tuple #[.agg #[.int .i64 t.c.people, .int .i64 t.c.tracks, .int .i64 t.c.subs, .int .i64 t.c.slots, .slice h'.pA m1 h'.pc, .slice h'.tA m2 h'.tc, .slice h'.bA m3 h'.bc], .int .i64 er]) ∧ StIn w' t h' ∧ (∀ g, g < W.heap.size → Av g s h → Av g t h') ∧ Upd [] W w') := Lib.hid (fun W u => (hdo W u).mono fun e w' ⟨h', he, hk, ha, hu⟩ => ⟨h', by rw [he, hsc], hk, ha, hu⟩)
      have HBK := Lib.hid hbk
      have HST := Lib.hid hst
      have HBW := Lib.hid hbw
      have HINV := Lib.hid hiv
      have HI2 : Hid (Inv t) := Lib.hid (by have := inv_do hiv ⟨kd, who, room, rights, track, ss, layer, tid⟩; rw [← hr] at this; exact this)
      have HR := Lib.hid hr
      have HSC := Lib.hid hsc
      have HN := Lib.hid (And.intro hn1 (And.intro hn2 hn3))
      have HM := Lib.hid (And.intro hm1 (And.intro hm2 hm3))
      have HXI := Lib.hid hxi
      have hsl := hbk.lt
      have p0 : wr.cell? ⟨S, 0, none⟩ = some (.int .i64 s.c.people) := hbk.cell 0
      have p1 : wr.cell? ⟨S, 1, none⟩ = some (.int .i64 s.c.tracks) := hbk.cell 1
      have p2 : wr.cell? ⟨S, 2, none⟩ = some (.int .i64 s.c.subs) := hbk.cell 2
      have p3 : wr.cell? ⟨S, 3, none⟩ = some (.int .i64 s.c.slots) := hbk.cell 3
      have p4 : wr.cell? ⟨S, 4, none⟩ = some (.slice h.pA n1 h.pc) := hbk.cell 4
      have p5 : wr.cell? ⟨S, 5, none⟩ = some (.slice h.tA n2 h.tc) := hbk.cell 5
      have p6 : wr.cell? ⟨S, 6, none⟩ = some (.slice h.bA n3 h.bc) := hbk.cell 6
      have HC0 := Lib.hid (And.intro c0 (And.intro c1 (And.intro c2 (And.intro c3 (And.intro c4 (And.intro c5 (And.intro c6 c7)))))))
      have HP0 := Lib.hid (And.intro p0 (And.intro p1 (And.intro p2 (And.intro p3 (And.intro p4 (And.intro p5 p6))))))
      have hwi : IntKind.i64.wrap ((i : Int) + 1) = (i : Int) + 1 := IntWalk.i64_in _ (by omega)
      have hi0 : (i : Int) < (L : Int) := by omega
      clear hbk hst hbw hiv hr hsc hn1 hn2 hn3 hm1 hm2 hm3 hql hxi hdo hcc hxm hrq hb1 hb2
      go_upto_region 11 with fail
      go_cut [11, 12] (fun s1 s2 wc => ∃ T h', s1 = .pointer (some ⟨T, 0, none⟩) ∧ s2 = .int .i64 er ∧ Blk wc T 31 #[.int .i64 t.c.people, .int .i64 t.c.tracks, .int .i64 t.c.subs, .int .i64 t.c.slots, .slice h'.pA m1 h'.pc, .slice h'.tA m2 h'.tc, .slice h'.bA m3 h'.bc] ∧ StAv wc S t h' ∧ Upd [] wr wc ∧ wr.heap.size ≤ T)
      case first =>
        have HC1 : Hid (Upd [] wr (wr.drewN 1)) := Lib.hid ((Upd.refl _ _).drewN 1)
        clear p0 p1 p2 p3 p4 p5 p6 c0 c1 c2 c3 c4 c5 c6 c7
        have q0 : ∀ z : Cls (Upd [] wr), z.w.cell? ⟨S, 0, none⟩ = some (.int .i64 s.c.people) := fun z => (z.h.cell (p := ⟨S, 0, none⟩) hsl (by simp)).trans (HBK.out.cell 0)
        have q1 : ∀ z : Cls (Upd [] wr), z.w.cell? ⟨S, 1, none⟩ = some (.int .i64 s.c.tracks) := fun z => (z.h.cell (p := ⟨S, 1, none⟩) hsl (by simp)).trans (HBK.out.cell 1)
        have q2 : ∀ z : Cls (Upd [] wr), z.w.cell? ⟨S, 2, none⟩ = some (.int .i64 s.c.subs) := fun z => (z.h.cell (p := ⟨S, 2, none⟩) hsl (by simp)).trans (HBK.out.cell 2)
        have q3 : ∀ z : Cls (Upd [] wr), z.w.cell? ⟨S, 3, none⟩ = some (.int .i64 s.c.slots) := fun z => (z.h.cell (p := ⟨S, 3, none⟩) hsl (by simp)).trans (HBK.out.cell 3)
        have q4 : ∀ z : Cls (Upd [] wr), z.w.cell? ⟨S, 4, none⟩ = some (.slice h.pA n1 h.pc) := fun z => (z.h.cell (p := ⟨S, 4, none⟩) hsl (by simp)).trans (HBK.out.cell 4)
        have q5 : ∀ z : Cls (Upd [] wr), z.w.cell? ⟨S, 5, none⟩ = some (.slice h.tA n2 h.tc) := fun z => (z.h.cell (p := ⟨S, 5, none⟩) hsl (by simp)).trans (HBK.out.cell 5)
        have q6 : ∀ z : Cls (Upd [] wr), z.w.cell? ⟨S, 6, none⟩ = some (.slice h.bA n3 h.bc) := fun z => (z.h.cell (p := ⟨S, 6, none⟩) hsl (by simp)).trans (HBK.out.cell 6)
        have r0 : ∀ z : Cls (Upd [] wr), z.w.cell? ⟨b, off + i * 8, none⟩ = some (.int .i64 kd) := fun z => (z.h.cell (p := ⟨b, off + i * 8, none⟩) hbwr (by simp)).trans HC0.out.1
        have r1 : ∀ z : Cls (Upd [] wr), z.w.cell? ⟨b, off + i * 8 + 1, none⟩ = some (.int .i64 who) := fun z => (z.h.cell (p := ⟨b, off + i * 8 + 1, none⟩) hbwr (by simp)).trans HC0.out.2.1
        have r2 : ∀ z : Cls (Upd [] wr), z.w.cell? ⟨b, off + i * 8 + 2, none⟩ = some (.int .i64 room) := fun z => (z.h.cell (p := ⟨b, off + i * 8 + 2, none⟩) hbwr (by simp)).trans HC0.out.2.2.1
        have r3 : ∀ z : Cls (Upd [] wr), z.w.cell? ⟨b, off + i * 8 + 3, none⟩ = some (.int .i64 rights) := fun z => (z.h.cell (p := ⟨b, off + i * 8 + 3, none⟩) hbwr (by simp)).trans HC0.out.2.2.2.1
        have r4 : ∀ z : Cls (Upd [] wr), z.w.cell? ⟨b, off + i * 8 + 4, none⟩ = some (.int .i64 track) := fun z => (z.h.cell (p := ⟨b, off + i * 8 + 4, none⟩) hbwr (by simp)).trans HC0.out.2.2.2.2.1
        have r5 : ∀ z : Cls (Upd [] wr), z.w.cell? ⟨b, off + i * 8 + 5, none⟩ = some (.slice qA ql qc) := fun z => (z.h.cell (p := ⟨b, off + i * 8 + 5, none⟩) hbwr (by simp)).trans HC0.out.2.2.2.2.2.1
        have r6 : ∀ z : Cls (Upd [] wr), z.w.cell? ⟨b, off + i * 8 + 6, none⟩ = some (.int .i64 layer) := fun z => (z.h.cell (p := ⟨b, off + i * 8 + 6, none⟩) hbwr (by simp)).trans HC0.out.2.2.2.2.2.2.1
        have r7 : ∀ z : Cls (Upd [] wr), z.w.cell? ⟨b, off + i * 8 + 7, none⟩ = some (.int .i64 tid) := fun z => (z.h.cell (p := ⟨b, off + i * 8 + 7, none⟩) hbwr (by simp)).trans HC0.out.2.2.2.2.2.2.2
        refine wp_new_call (Upd [] wr) ((Upd.refl _ _).drewN 1) [0, 1, 2, 3, 4] 5 9 [6, 7, 8] [10, 11] (by kernel_rfl) (by kernel_rfl) (fun _ _ _ _ h => h) ?_
        intro hne
        simp only [pick3, List.map_cons, List.map_nil, List.getElem?_cons_zero, List.getElem?_cons_succ, Option.getD_some]
        repeat (go_big_quiet_step (fail))
        refine wpQuiet_nil ?_
        clear q0 q1 q2 q3 q4 q5 q6 r0 r1 r2 r3 r4 r5 r6 r7
        obtain ⟨wd, hwd⟩ : ∃ W, W = wr.drewN 1 := ⟨_, rfl⟩
        rw [← hwd] at HC1 ⊢
        clear hwd
        constructor
        · refine wpHeldK_step rfl fun K hK => ?_
          go_simp
          obtain ⟨T, hT⟩ : ∃ T, T = wd.heap.size := ⟨_, rfl⟩
          obtain ⟨V, hV⟩ : ∃ V, V = wd.alloc (.cells #[.int .i64 0, .int .i64 0, .int .i64 0, .int .i64 0, .slice none 0 0, .slice none 0 0, .slice none 0 0] 31) := ⟨_, rfl⟩
          rw [← hV, ← hT]
          have hVu : Upd [] wr V := HC1.out.next (by rw [hV]; exact (Upd.refl [] wd).alloc _)
          have hVB : Blk V T 31 #[.int .i64 0, .int .i64 0, .int .i64 0, .int .i64 0, .slice none 0 0, .slice none 0 0, .slice none 0 0] := by rw [hV, hT]; exact Blk.new _ _ _
          have HT : Hid (wr.heap.size ≤ T) := Lib.hid (by rw [hT]; exact HC1.out.size)
          have HVB := Lib.hid hVB
          have HVU := Lib.hid hVu
          clear hT hV hVB hVu
          refine hK.out _ _ ⟨⟨V, HVU.out⟩, rfl⟩ ?_
          clear hK K
          refine wpHeldK_step rfl fun K hK => ?_
          go_simp
          refine (HDO.out V HVU.out).mono ?_
          rintro e w5 ⟨h', rfl, hk5, ha5, hu5⟩
          have HA5 : Hid (Av T t h' ∧ Av S t h') := Lib.hid ⟨ha5 T HVB.out.lt (Av.fresh HST.out.st HT.out), ha5 S (Nat.lt_of_lt_of_le HBK.out.lt HVU.out.size) HST.out.av⟩
          clear ha5
          have HU5 := Lib.hid (HVU.out.next hu5)
          have HK5 := Lib.hid hk5
          have HB5 := Lib.hid (HVB.out.upd hu5 (by simp))
          clear hk5 hu5 HVB HVU
          refine hK.out _ _ ⟨⟨w5, HU5.out⟩, rfl⟩ ?_
          clear hK K
          refine wpQuiet_then ?_
          repeat (go_big_quiet_step (fail))
          refine wpQuiet_nil ?_
          have y0 := HB5.out.cell 0
          have y1 := HB5.out.cell 1
          have y2 := HB5.out.cell 2
          have y3 := HB5.out.cell 3
          have y4 := HB5.out.cell 4
          have y5 := HB5.out.cell 5
          have y6 := HB5.out.cell 6
          have z0 := HB5.out.frozen 0
          have z1 := HB5.out.frozen 1
          have z2 := HB5.out.frozen 2
          have z3 := HB5.out.frozen 3
          have z4 := HB5.out.frozen 4
          have z5 := HB5.out.frozen 5
          have z6 := HB5.out.frozen 6
          simp only [List.getElem?_toArray, List.getElem?_cons_zero, List.getElem?_cons_succ] at y0 y1 y2 y3 y4 y5 y6
          obtain ⟨kx, ux⟩ := blk7 HB5.out (.int .i64 t.c.people) (.int .i64 t.c.tracks) (.int .i64 t.c.subs) (.int .i64 t.c.slots) (.slice h'.pA m1 h'.pc) (.slice h'.tA m2 h'.tc) (.slice h'.bA m3 h'.bc)
          obtain ⟨w6, hw6⟩ : ∃ w6, w6 = (((((((w5.setCell ⟨T, 0, none⟩ (.int .i64 t.c.people)).setCell ⟨T, 1, none⟩ (.int .i64 t.c.tracks)).setCell ⟨T, 2, none⟩ (.int .i64 t.c.subs)).setCell ⟨T, 3, none⟩ (.int .i64 t.c.slots)).setCell ⟨T, 4, none⟩ (.slice h'.pA m1 h'.pc)).setCell ⟨T, 5, none⟩ (.slice h'.tA m2 h'.tc)).setCell ⟨T, 6, none⟩ (.slice h'.bA m3 h'.bc)) := ⟨_, rfl⟩
          rw [← hw6] at kx ux
          have HW6 := Lib.hid hw6
          have HKX := Lib.hid kx
          have HU6 : Hid (Upd [] wr w6) := Lib.hid (Upd.of_below ((HU5.out.below (Nat.le_refl _) (by simp)).trans (ux.below HU5.out.size (fun s hs => by rw [List.mem_singleton] at hs; subst hs; exact HT.out))))
          have HK6 : Hid (StAv w6 S t h') := Lib.hid ⟨HK5.out.past ux HA5.out.1, HA5.out.2⟩
          clear hw6 kx ux
          refine wpHeld_step rfl fun K hK => ?_
          go_simp
          rw [← HW6.out]
          refine hK.out _ _ (.inr ⟨⟨w6, HU6.out⟩, rfl⟩) ?_
          clear hK K y0 y1 y2 y3 y4 y5 y6 z0 z1 z2 z3 z4 z5 z6
          refine wpHeld_last ?_
          go_wp2
          go_meet
          case rel => exact ⟨_, _, rfl, rfl, HKX.out, HK6.out, HU6.out, HT.out⟩
        · refine wpHeldK_step rfl fun K hK => ?_
          go_simp
          refine (HDO.out wd HC1.out).mono ?_
          rintro e w4 ⟨h', rfl, hk4, ha4, hu4⟩
          have HA4 : Hid (Av S t h') := Lib.hid (ha4 S (Nat.lt_of_lt_of_le HBK.out.lt HC1.out.size) HST.out.av)
          clear ha4
          have HU4 := Lib.hid (HC1.out.next hu4)
          have HK4 := Lib.hid hk4
          clear hk4 hu4
          refine hK.out _ _ ⟨⟨w4, HU4.out⟩, rfl⟩ ?_
          clear hK K
          refine wpQuiet_then ?_
          repeat (go_big_quiet_step (fail))
          refine wpQuiet_nil ?_
          refine wpHeld_step rfl fun K hK => ?_
          go_simp
          obtain ⟨T, hT⟩ : ∃ T, T = w4.heap.size := ⟨_, rfl⟩
          obtain ⟨w5, hV⟩ : ∃ V, V = w4.alloc (.cells #[.int .i64 0, .int .i64 0, .int .i64 0, .int .i64 0, .slice none 0 0, .slice none 0 0, .slice none 0 0] 31) := ⟨_, rfl⟩
          rw [← hV, ← hT]
          have hVu : Upd [] w4 w5 := by rw [hV]; exact (Upd.refl [] w4).alloc _
          have hVB : Blk w5 T 31 #[.int .i64 0, .int .i64 0, .int .i64 0, .int .i64 0, .slice none 0 0, .slice none 0 0, .slice none 0 0] := by rw [hV, hT]; exact Blk.new _ _ _
          have HT : Hid (wr.heap.size ≤ T) := Lib.hid (by rw [hT]; exact HU4.out.size)
          have HB5 := Lib.hid hVB
          have HU5 := Lib.hid (HU4.out.next hVu)
          have HA5 : Hid (Av T t h' ∧ Av S t h') := Lib.hid ⟨Av.fresh HK4.out (by rw [hT]; exact Nat.le_refl _), HA4.out⟩
          have HK5 := Lib.hid (HK4.out.upd hVu)
          clear HA4 hT hV hVB hVu HU4 HK4
          refine hK.out _ _ (.inr ⟨⟨w5, HU5.out⟩, rfl⟩) ?_
          clear hK K
          have y0 := HB5.out.cell 0
          have y1 := HB5.out.cell 1
          have y2 := HB5.out.cell 2
          have y3 := HB5.out.cell 3
          have y4 := HB5.out.cell 4
          have y5 := HB5.out.cell 5
          have y6 := HB5.out.cell 6
          have z0 := HB5.out.frozen 0
          have z1 := HB5.out.frozen 1
          have z2 := HB5.out.frozen 2
          have z3 := HB5.out.frozen 3
          have z4 := HB5.out.frozen 4
          have z5 := HB5.out.frozen 5
          have z6 := HB5.out.frozen 6
          simp only [List.getElem?_toArray, List.getElem?_cons_zero, List.getElem?_cons_succ] at y0 y1 y2 y3 y4 y5 y6
          obtain ⟨kx, ux⟩ := blk7 HB5.out (.int .i64 t.c.people) (.int .i64 t.c.tracks) (.int .i64 t.c.subs) (.int .i64 t.c.slots) (.slice h'.pA m1 h'.pc) (.slice h'.tA m2 h'.tc) (.slice h'.bA m3 h'.bc)
          obtain ⟨w6, hw6⟩ : ∃ w6, w6 = (((((((w5.setCell ⟨T, 0, none⟩ (.int .i64 t.c.people)).setCell ⟨T, 1, none⟩ (.int .i64 t.c.tracks)).setCell ⟨T, 2, none⟩ (.int .i64 t.c.subs)).setCell ⟨T, 3, none⟩ (.int .i64 t.c.slots)).setCell ⟨T, 4, none⟩ (.slice h'.pA m1 h'.pc)).setCell ⟨T, 5, none⟩ (.slice h'.tA m2 h'.tc)).setCell ⟨T, 6, none⟩ (.slice h'.bA m3 h'.bc)) := ⟨_, rfl⟩
          rw [← hw6] at kx ux
          have HW6 := Lib.hid hw6
          have HKX := Lib.hid kx
          have HU6 : Hid (Upd [] wr w6) := Lib.hid (Upd.of_below ((HU5.out.below (Nat.le_refl _) (by simp)).trans (ux.below HU5.out.size (fun s hs => by rw [List.mem_singleton] at hs; subst hs; exact HT.out))))
          have HK6 : Hid (StAv w6 S t h') := Lib.hid ⟨HK5.out.past ux HA5.out.1, HA5.out.2⟩
          clear hw6 kx ux
          refine wpHeld_step rfl fun K hK => ?_
          go_simp
          rw [← HW6.out]
          refine hK.out _ _ (.inr ⟨⟨w6, HU6.out⟩, rfl⟩) ?_
          clear hK K y0 y1 y2 y3 y4 y5 y6 z0 z1 z2 z3 z4 z5 z6
          refine wpHeld_last ?_
          go_wp2
          go_meet
          case rel => exact ⟨_, _, rfl, rfl, HKX.out, HK6.out, HU6.out, HT.out⟩
      obtain ⟨T, h', rfl, rfl, hbT, hkT, huT, hT⟩ := hcut
      clear p0 p1 p2 p3 p4 p5 p6 c0 c1 c2 c3 c4 c5 c6 c7
      have hbS := HBK.out.upd huT (by simp)
      have p0 : wc.cell? ⟨S, 0, none⟩ = some (.int .i64 s.c.people) := hbS.cell 0
      have p1 : wc.cell? ⟨S, 1, none⟩ = some (.int .i64 s.c.tracks) := hbS.cell 1
      have p2 : wc.cell? ⟨S, 2, none⟩ = some (.int .i64 s.c.subs) := hbS.cell 2
      have p3 : wc.cell? ⟨S, 3, none⟩ = some (.int .i64 s.c.slots) := hbS.cell 3
      have p4 : wc.cell? ⟨S, 4, none⟩ = some (.slice h.pA n1 h.pc) := hbS.cell 4
      have p5 : wc.cell? ⟨S, 5, none⟩ = some (.slice h.tA n2 h.tc) := hbS.cell 5
      have p6 : wc.cell? ⟨S, 6, none⟩ = some (.slice h.bA n3 h.bc) := hbS.cell 6
      have q0 : wc.cell? ⟨T, 0, none⟩ = some (.int .i64 t.c.people) := hbT.cell 0
      have q1 : wc.cell? ⟨T, 1, none⟩ = some (.int .i64 t.c.tracks) := hbT.cell 1
      have q2 : wc.cell? ⟨T, 2, none⟩ = some (.int .i64 t.c.subs) := hbT.cell 2
      have q3 : wc.cell? ⟨T, 3, none⟩ = some (.int .i64 t.c.slots) := hbT.cell 3
      have q4 : wc.cell? ⟨T, 4, none⟩ = some (.slice h'.pA m1 h'.pc) := hbT.cell 4
      have q5 : wc.cell? ⟨T, 5, none⟩ = some (.slice h'.tA m2 h'.tc) := hbT.cell 5
      have q6 : wc.cell? ⟨T, 6, none⟩ = some (.slice h'.bA m3 h'.bc) := hbT.cell 6
      have f0 := hbS.frozen 0
      have f1 := hbS.frozen 1
      have f2 := hbS.frozen 2
      have f3 := hbS.frozen 3
      have f4 := hbS.frozen 4
      have f5 := hbS.frozen 5
      have f6 := hbS.frozen 6
      obtain ⟨kx, ux⟩ := blk7 hbS (.int .i64 t.c.people) (.int .i64 t.c.tracks) (.int .i64 t.c.subs) (.int .i64 t.c.slots) (.slice h'.pA m1 h'.pc) (.slice h'.tA m2 h'.tc) (.slice h'.bA m3 h'.bc)
      obtain ⟨wx, hwx⟩ : ∃ W, W = (((((((wc.setCell ⟨S, 0, none⟩ (.int .i64 t.c.people)).setCell ⟨S, 1, none⟩ (.int .i64 t.c.tracks)).setCell ⟨S, 2, none⟩ (.int .i64 t.c.subs)).setCell ⟨S, 3, none⟩ (.int .i64 t.c.slots)).setCell ⟨S, 4, none⟩ (.slice h'.pA m1 h'.pc)).setCell ⟨S, 5, none⟩ (.slice h'.tA m2 h'.tc)).setCell ⟨S, 6, none⟩ (.slice h'.bA m3 h'.bc)) := ⟨_, rfl⟩
      rw [← hwx] at kx ux
      have HFN : Hid (∀ wx, Upd [S] wc wx → Blk wx S 31 (scells t h').toArray → ∃ s h, Inv s ∧ Blk wx S 31 (scells s h).toArray ∧ StAv wx S s h ∧ Below w.heap.size w wx) := Lib.hid (fun wx ux hbx => ⟨t, h', HI2.out, hbx, hkT.past ux, (HBW.out.trans (huT.below HBW.out.size (by simp))).trans (ux.below (Nat.le_trans HBW.out.size huT.size) (fun s hs => by rw [List.mem_singleton] at hs; subst hs; exact HWS.out))⟩)
      have hho := holds_any (hkT.past ux).st HI2.out
      rw [HSC.out h'] at hho
      have HHO := Lib.hid hho
      have HWX := Lib.hid hwx
      have HKX := Lib.hid kx
      have UX := Lib.hid ux
      have HGI := Lib.hid hgi
      clear hwx kx ux hgi hbT hkT huT hbS hT hho
      go_upto_region 13 with fail
      rw [← HWX.out]
      have p0 : wx.cell? ⟨S, 0, none⟩ = some (.int .i64 t.c.people) := HKX.out.cell 0
      have p1 : wx.cell? ⟨S, 1, none⟩ = some (.int .i64 t.c.tracks) := HKX.out.cell 1
      have p2 : wx.cell? ⟨S, 2, none⟩ = some (.int .i64 t.c.subs) := HKX.out.cell 2
      have p3 : wx.cell? ⟨S, 3, none⟩ = some (.int .i64 t.c.slots) := HKX.out.cell 3
      have p4 : wx.cell? ⟨S, 4, none⟩ = some (.slice h'.pA m1 h'.pc) := HKX.out.cell 4
      have p5 : wx.cell? ⟨S, 5, none⟩ = some (.slice h'.tA m2 h'.tc) := HKX.out.cell 5
      have p6 : wx.cell? ⟨S, 6, none⟩ = some (.slice h'.bA m3 h'.bc) := HKX.out.cell 6
      go_wp2_with fail
      refine HHO.out.mono ?_
      rintro _ wy ⟨rfl, huy⟩
      have HFY := Lib.hid (HFN.out _ (UX.out.next (huy.more (by simp))) (by rw [HSC.out h']; exact HKX.out.upd huy (by simp)))
      clear huy HHO p0 p1 p2 p3 p4 p5 p6
      go_wp2
      go_roundg (gk - 1)
      case measure => have := HGI.out; omega
      case rel => exact ⟨i + 1, by omega, by have := HGI.out; omega, by go_num, HFY.out⟩
    · go_wp2
      go_ret
      exact ⟨rfl, hbw⟩
end Go.Proofs.Ytjcbaelefacolaa
