/- Parts of the proof, one behind the other: TLay, TSort, TCmp, TDowns, TAwake, TTb, TEq, TParts, Open, Open2. No condition of their own. -/
import Derived.Shelf.SlSortCmp.WholeK
import Derived.Shelf.SlSortCmp.NoneTotal
import Derived.Shelf.SlicesG.Cmp
import Derived.Shelf.Small.Bits
import Derived.Test.YteljkdihlklliaaProg
import Derived.Test.YteljkdihlklliaaB1
import Derived.Sort.OwnSorted
import Derived.Test.YteljkdihlklliaaB2
import Derived.Maps.AppendAt
import Derived.Deep.Slices
import Derived.Deep.Fields
import Derived.ChangeSame
import Derived.ProofKit
import Derived.OpenShut
/- The library's sort and comparison at this program: the layings of their contracts. Written by the kit's tool lay-plain.mjs. No condition. -/
namespace Go.Proofs.Yteljkdihlklliaa
open Go.Shelf
def sortDn_ren : Go.Shelf.Ren := ⟨fun | 6 => 23 | 15 => 27 | 14 => 26 | 28 => 37 | 29 => 38 | 20 => 29 | 21 => 30 | 22 => 31 | 23 => 32 | 24 => 33 | 25 => 34 | 26 => 35 | 27 => 36 | 46 => 39 | 47 => 40 | 48 => 41 | 49 => 42 | 50 => 43 | 57 => 44 | n => n, fun | 22 => 24 | 24 => 41 | 25 => 73 | 3 => 3 | 39 => 76 | 0 => 0 | 53 => 25 | 55 => 22 | 4 => 4 | 46 => 80 | 45 => 79 | 50 => 84 | 5 => 5 | 9 => 9 | 66 => 88 | 70 => 91 | 76 => 93 | 77 => 94 | n => n, fun | n => n⟩
theorem sortDn : Go.Proofs.SlLaysF0.n6 Try.prog sortDn_ren := {
  mixed := by kernel_rfl
  f6 := ⟨Try.f23.name, by decide, Try.func23.trans (congrArg some (by kernel_rfl))⟩
  f14 := ⟨Try.f26.name, by decide, Try.func26.trans (congrArg some (by kernel_rfl))⟩
  f15 := Try.func27.trans (congrArg some (by kernel_rfl))
  f20 := ⟨Try.f29.name, by decide, Try.func29.trans (congrArg some (by kernel_rfl))⟩
  f21 := ⟨Try.f30.name, by decide, Try.func30.trans (congrArg some (by kernel_rfl))⟩
  f22 := ⟨Try.f31.name, by decide, Try.func31.trans (congrArg some (by kernel_rfl))⟩
  f23 := ⟨Try.f32.name, by decide, Try.func32.trans (congrArg some (by kernel_rfl))⟩
  f24 := ⟨Try.f33.name, by decide, Try.func33.trans (congrArg some (by kernel_rfl))⟩
  f25 := ⟨Try.f34.name, by decide, Try.func34.trans (congrArg some (by kernel_rfl))⟩
  f26 := ⟨Try.f35.name, by decide, Try.func35.trans (congrArg some (by kernel_rfl))⟩
  f27 := ⟨Try.f36.name, by decide, Try.func36.trans (congrArg some (by kernel_rfl))⟩
  f28 := Try.func37.trans (congrArg some (by kernel_rfl))
  f29 := Try.func38.trans (congrArg some (by kernel_rfl))
  f46 := ⟨Try.f39.name, by decide, Try.func39.trans (congrArg some (by kernel_rfl))⟩
  f47 := Try.func40.trans (congrArg some (by kernel_rfl))
  f48 := Try.func41.trans (congrArg some (by kernel_rfl))
  f49 := ⟨Try.f42.name, by decide, Try.func42.trans (congrArg some (by kernel_rfl))⟩
  f50 := ⟨Try.f43.name, by decide, Try.func43.trans (congrArg some (by kernel_rfl))⟩
  f57 := ⟨Try.f44.name, by decide, Try.func44.trans (congrArg some (by kernel_rfl))⟩
  t0 := Try.underlying0
  a0 := Try.isAgg0
  z0 := Try.sizeOf0
  v0 := Try.zeroValue0
  t3 := Try.underlying3
  a3 := Try.isAgg3
  z3 := Try.sizeOf3
  v3 := Try.zeroValue3
  t4 := Try.underlying4
  a4 := Try.isAgg4
  z4 := Try.sizeOf4
  v4 := Try.zeroValue4
  t5 := Try.underlying5
  a5 := Try.isAgg5
  z5 := Try.sizeOf5
  v5 := Try.zeroValue5
  t9 := Try.underlying9
  a9 := Try.isAgg9
  z9 := Try.sizeOf9
  v9 := Try.zeroValue9
  t22 := Try.underlying24
  a22 := Try.isAgg24
  z22 := Try.sizeOf24
  v22 := Try.zeroValue24
  t25 := Try.underlying73
  a25 := Try.isAgg73
  z25 := Try.sizeOf73
  v25 := Try.zeroValue73
  t39 := Try.underlying76
  a39 := Try.isAgg76
  z39 := Try.sizeOf76
  v39 := Try.zeroValue76
  t45 := Try.underlying79
  a45 := Try.isAgg79
  z45 := Try.sizeOf79
  v45 := Try.zeroValue79
  t46 := Try.underlying80
  a46 := Try.isAgg80
  z46 := Try.sizeOf80
  v46 := Try.zeroValue80
  t50 := Try.underlying84
  a50 := Try.isAgg84
  z50 := Try.sizeOf84
  v50 := Try.zeroValue84
  t53 := Try.underlying25
  a53 := Try.isAgg25
  z53 := Try.sizeOf25
  v53 := Try.zeroValue25
  t55 := Try.underlying22
  a55 := Try.isAgg22
  z55 := Try.sizeOf22
  v55 := Try.zeroValue22
  t66 := Try.underlying88
  a66 := Try.isAgg88
  z66 := Try.sizeOf88
  v66 := Try.zeroValue88
  t70 := Try.underlying91
  a70 := Try.isAgg91
  z70 := Try.sizeOf91
  v70 := Try.zeroValue91
  t76 := Try.underlying93
  a76 := Try.isAgg93
  z76 := Try.sizeOf93
  v76 := Try.zeroValue93
  t77 := Try.underlying94
  a77 := Try.isAgg94
  z77 := Try.sizeOf94
  v77 := Try.zeroValue94 }
def cmpInt_ren : Go.Shelf.Ren := ⟨fun | 5 => 25 | 7 => 28 | n => n, fun | 22 => 3 | 3 => 3 | 4 => 4 | n => n, fun | n => n⟩
theorem cmpInt : Go.Proofs.SlLaysC2.n5 Try.prog cmpInt_ren := {
  mixed := by kernel_rfl
  f5 := ⟨Try.f25.name, by decide, Try.func25.trans (congrArg some (by kernel_rfl))⟩
  f7 := ⟨Try.f28.name, by decide, Try.func28.trans (congrArg some (by kernel_rfl))⟩
  t3 := Try.underlying3
  a3 := Try.isAgg3
  z3 := Try.sizeOf3
  v3 := Try.zeroValue3
  t4 := Try.underlying4
  a4 := Try.isAgg4
  z4 := Try.sizeOf4
  v4 := Try.zeroValue4
  t22 := Try.underlying3
  a22 := Try.isAgg3
  z22 := Try.sizeOf3
  v22 := Try.zeroValue3 }
end Go.Proofs.Yteljkdihlklliaa
/- A slice of structs that the call owns, ahead of the library's sort and behind it. Plain laws on worlds. -/
namespace Go.Proofs.Yteljkdihlklliaa
open Go Go.RowKit Go.Sort Go.Proofs
set_option maxHeartbeats 400000
section
variable {α : Type} [Inhabited α] {enc : α → List Value} {k : Nat}
theorem flatK_list (hk : ∀ x, (enc x).length = k) (l : List α) : flatK enc k l.toArray = (l.flatMap enc).toArray := by
  refine ext_get! (by simp [flat_length hk]) fun t ht => ?_
  have ht' : t < l.length * k := by simpa using ht
  have k0 : 0 < k := by
    rcases Nat.eq_zero_or_pos k with h | h
    · subst h; simp at ht'
    · exact h
  have hq : t / k < l.length := (Nat.div_lt_iff_lt_mul k0).2 ht'
  have hm : t % k < k := Nat.mod_lt _ k0
  rw [get_flatK enc k _ t (by simpa using ht')]
  have e1 : l.toArray[t / k]! = l[t / k] := by simp [hq]
  have h := flat_get hk l (t / k) (t % k) l[t / k] (List.getElem?_eq_getElem hq) hm
  rw [show t / k * k + t % k = t by rw [Nat.mul_comm]; exact Nat.div_add_mod t k] at h
  rw [e1]
  have e2 : (l.flatMap enc).toArray[t]! = (l.flatMap enc)[t]! := by simp
  rw [e2, List.getElem!_eq_getElem?_getD, List.getElem!_eq_getElem?_getD, h]
theorem holdsK_own (hk : ∀ x, (enc x).length = k) {w : World} {base : Nat} {e : TypeId} {g cap : Nat} {l : List α} (h : w.ownsRow base e k (.slice (some ⟨g, 0, none⟩) l.length cap) l.length (l.flatMap enc)) : HoldsK enc k w g 0 l.toArray := by
  obtain ⟨hl, ⟨hv, _⟩ | ⟨g', cap', cur, hv, hbase, hb, h1, h2, h3, h4⟩⟩ := h
  · cases hv
  · injection hv with e1 _ _
    injection e1 with e1
    injection e1 with e1
    subst e1
    unfold HoldsK Holds
    rw [flatK_list hk]
    intro j hj
    have hj' : j < (l.flatMap enc).length := by simpa using hj
    refine ⟨?_, by simp [World.frozen?, hb]⟩
    have hjl : j < l.length * k := by rw [← hl]; exact hj'
    have e2 : (cur.toList.take (l.length * k))[j]? = (l.flatMap enc)[j]? := by rw [h4]
    rw [List.getElem?_take_of_lt hjl] at e2
    simp only [World.cell?, hb, Nat.zero_add]
    simp only [Option.isSome_none, Bool.false_eq_true, if_false]
    rw [← Array.getElem?_toList, e2]
    have e3 := List.getElem?_eq_getElem hj'
    simp [e3]
theorem heap_sortedK {w : World} {g n : Nat} {os : Array Obj} {cur : Array Value} {e : TypeId} {fr : Nat × Nat} (F : Array Value) (hb : w.heap[g]? = some (.cells cur e fr)) :
    (grow (putRow id (Sort.ahead w n) g 0 F) os).heap[g]? = some (.cells (putCells id 0 F cur) e fr) := by
  have hg : g < w.heap.size := (Array.getElem?_eq_some_iff.1 hb).1
  rw [heap_grow_old _ _ (by simpa using hg)]
  simp [putRow, mapBlock, Sort.ahead, Array.getElem?_modify, hb, onCells]
theorem grownBy_sortedK {w : World} {g n : Nat} {os : Array Obj} (F : Array Value) : w.grownBy (grow (putRow id (Sort.ahead w n) g 0 F) os) (some g) := by
  refine ⟨rfl, rfl, rfl, by simp, fun k hk hne => ?_⟩
  rw [heap_grow_old _ _ (by simpa using hk)]
  have : g ≠ k := fun e => hne (by rw [e])
  simp [putRow, mapBlock, Sort.ahead, Array.getElem?_modify, this]
theorem take_putCellsK (cur : Array Value) (F : List Value) (h : F.length ≤ cur.size) : (putCells id 0 F.toArray cur).toList.take F.length = F := by
  apply List.ext_getElem?
  intro j
  by_cases hj : j < F.length
  · rw [List.getElem?_take_of_lt hj, Array.getElem?_toList]
    simp [putCells, hj, show j < cur.size by omega]
  · rw [List.getElem?_take_eq_none (by omega), List.getElem?_eq_none (by omega)]
/-- behind the sort: the same slice owns the sorted things -/
theorem own_sortedK (hk : ∀ x, (enc x).length = k) {w : World} {base : Nat} {e : TypeId} {g cap n : Nat} {os : Array Obj} {l l' : List α} (hl : l'.length = l.length) (h : w.ownsRow base e k (.slice (some ⟨g, 0, none⟩) l.length cap) l.length (l.flatMap enc)) :
    (sortWorldK enc k w g 0 n l'.toArray os).ownsRow base e k (.slice (some ⟨g, 0, none⟩) l.length cap) l.length (l'.flatMap enc) ∧ w.grownBy (sortWorldK enc k w g 0 n l'.toArray os) (some g) := by
  have hw : sortWorldK enc k w g 0 n l'.toArray os = grow (putRow id (Sort.ahead w n) g 0 (l'.flatMap enc).toArray) os := by
    unfold sortWorldK putRowK
    rw [flatK_list hk]
  rw [hw]
  obtain ⟨hl0, ⟨hv, _⟩ | ⟨g', cap', cur, hv, hbase, hb, h1, h2, h3, h4⟩⟩ := h
  · cases hv
  · injection hv with e1 _ e3
    injection e1 with e1
    injection e1 with e1
    subst e1
    subst e3
    have hfl : (l'.flatMap enc).length = l.length * k := by rw [flat_length hk, hl]
    refine ⟨⟨hfl, .inr ⟨g, cap, _, rfl, hbase, heap_sortedK _ hb, h1, h2, by simp [putCells, h3], ?_⟩⟩, grownBy_sortedK _⟩
    rw [← hfl]
    exact take_putCellsK cur _ (by rw [hfl, h3]; exact Nat.mul_le_mul_right k h1)
end
end Go.Proofs.Yteljkdihlklliaa
/- The sort of downtracks by who is sent them: its closure, and slices.SortFunc at it, a slice that the call owns. No condition. -/
namespace Go.Proofs.Yteljkdihlklliaa
open Go Go.RowKit Go.Sort Go.Shelf Go.Lib Go.Proofs
set_option maxHeartbeats 400000
instance : Inhabited Dn := ⟨zDn⟩
def cfD (a b : Dn) : Int := Lib.compareInt a.who b.who
theorem ltD (x y : Dn) : ltOf cfD x y = decide (x.who < y.who) := by
  unfold ltOf cfD Lib.compareInt
  by_cases h1 : x.who < y.who
  · simp [h1]
  · by_cases h2 : y.who < x.who <;> simp [h1, h2]
theorem swoD : SWO (ltOf cfD) where
  irrefl x := by rw [ltD]; simp
  trans x y z h1 h2 := by rw [ltD] at *; simp at *; omega
  ntrans x y z h1 h2 := by rw [ltD] at *; simp at *; omega
set_option maxRecDepth 100000 in
set_option maxHeartbeats 1000000 in
theorem closureD (x y : Dn) (W : World) : Calls Try.prog 24 #[.agg (encDn x).toArray, .agg (encDn y).toArray] W fun e w' => e = .returned (.int .i64 (cfD x y)) ∧ ∃ q os', w' = grow (W.drewN q) os' := by
  have hcon := fun W' => AnyG.cmp_Compare_int cmpInt x.who y.who W'
  change ∀ W', Calls Try.prog 25 _ _ _ at hcon
  unfold cfD
  generalize Lib.compareInt x.who y.who = r at hcon ⊢
  obtain ⟨x0, x1, x2, x3, x4, x5, x6, x7, x8, x9⟩ := x
  obtain ⟨y0, y1, y2, y3, y4, y5, y6, y7, y8, y9⟩ := y
  unfold encDn
  dsimp only [List.toArray] at hcon ⊢
  go_enter Try.func24, Try.ntmps24
  go_wp2_with (go_at_call 25; refine (hcon _).mono ?_; rintro e w' ⟨rfl, rfl⟩)
  go_ret
  exact ⟨rfl, 0, _, by rw [alloc_eq_grow, alloc_eq_grow, grow_grow]; rfl⟩
theorem permIn_list {d d' : Array Dn} (h : PermIn 0 d.size d d') : d'.toList.Perm d.toList := by
  obtain ⟨hs, _, hp⟩ := h
  have e1 : d'.extract 0 d.size = d' := by rw [← hs]; simp
  have e2 : d.extract 0 d.size = d := by simp
  rwa [e1, e2] at hp
theorem sortedIn_list {d' : Array Dn} {n : Nat} (hn : d'.size = n) (h : SortedIn (ltOf cfD) 0 n d') : d'.toList.Pairwise (fun a b => a.who ≤ b.who) := by
  refine List.pairwise_iff_getElem.2 fun i j hi hj hij => ?_
  have hi' : i < d'.size := by simpa using hi
  have hj' : j < d'.size := by simpa using hj
  have := h i j (Nat.zero_le _) hij (by omega)
  rw [ltD, getElem!_pos d' i hi', getElem!_pos d' j hj'] at this
  have := of_decide_eq_false this
  simpa using this
/-- slices.SortFunc at a slice of downtracks that the call owns -/
theorem sort_any {w : World} {base : Nat} {A : Option Addr} {cap : Nat} {l : List Dn} (h : w.ownsRow base 41 10 (.slice A l.length cap) l.length (l.flatMap encDn)) (hl : l.length ≤ 100000) (fv : Value) (hfv : fv = .func (.func 24) #[] #[]) :
    Calls Try.prog 23 #[.slice A l.length cap, fv] w fun e w' => e = .returned (.tuple #[]) ∧ ∃ l' : List Dn, l'.Perm l ∧ l'.Pairwise (fun a b => a.who ≤ b.who) ∧
      w'.ownsRow base 41 10 (.slice A l.length cap) l.length (l'.flatMap encDn) ∧ w.grownBy w' (Value.slice A l.length cap).ownBlock := by
  subst hfv
  by_cases h0 : l.length = 0
  · have hl0 : l = [] := List.eq_nil_of_length_eq_zero h0
    subst hl0
    have hc := AnyF.slices_SortFunc_none sortDn A cap (.func (.func 24) #[] #[]) w
    refine Calls.mono hc ?_
    rintro e w' ⟨rfl, rfl⟩
    exact ⟨rfl, [], List.Perm.nil, List.Pairwise.nil, h, ⟨rfl, rfl, rfl, Nat.le_refl _, fun _ _ _ => rfl⟩⟩
  · rcases h.2 with ⟨hv, hn⟩ | ⟨g, cap', cur, hv, hbase, hb, h1, h2, h3, h4⟩
    · exact absurd hn h0
    injection hv with e1 e2 e3
    subst e1
    have hH := holdsK_own (enc := encDn) (k := 10) (fun _ => rfl) h
    have hg : g < w.heap.size := (Array.getElem?_eq_some_iff.1 hb).1
    have eg : ∀ args w, (callFunc 24 args).run Try.prog w = .ok (.enter 24 args) w := enters_of Try.func24 (by kernel_rfl) rfl
    have hc := AnyQ.slices_SortFunc sortDn 10 Try.isAgg41 Try.sizeOf41 encDn (fun _ => rfl) (fun x v hv => by simp [encDn] at hv; rcases hv with rfl | rfl | rfl | rfl | rfl | rfl | rfl | rfl | rfl | rfl <;> rfl) cfD swoD 24 #[] g 0 cap l.toArray w eg
      (fun _ _ _ _ x y => closureD x y _) hH hg (by simp; omega)
    have e0 : l.toArray.size = l.length := by simp
    rw [e0] at hc
    refine Calls.mono hc ?_
    rintro e w' ⟨rfl, d', n, os, hp, hs, rfl⟩
    have hsz : d'.size = l.length := by have := hp.1; simpa using this
    have hpl : d'.toList.Perm l := by
      have := permIn_list (d := l.toArray) (d' := d') (by rw [e0]; exact hp)
      simpa using this
    have hd : d' = d'.toList.toArray := by simp
    have ho := own_sortedK (enc := encDn) (k := 10) (fun _ => rfl) (n := n) (os := os) (l := l) (l' := d'.toList) (by rw [Array.length_toList, hsz]) h
    rw [← hd] at ho
    exact ⟨rfl, d'.toList, hpl, sortedIn_list hsz hs, ho.1, ho.2⟩
end Go.Proofs.Yteljkdihlklliaa
/- What a table tells: Downs, by a range over a map, in whatever order, and a sort. Condition: a table, or nil. -/
namespace Go.Proofs.Yteljkdihlklliaa
open Go Go.RowKit Go.Maps
set_option maxHeartbeats 400000
theorem infoDn : (Try.prog.info? 41).map (fun i => (i.zero, i.size, i.bytes)) = some (some (.agg #[.int .u32 0, .int .i64 0, .int .u32 0, .int .i64 0, .int .i64 0, .int .i64 0, .int .i64 0, .int .i64 0, .int .i64 0, .bool false]), 10, 80) := by kernel_rfl
theorem app_updT {w W w' : World} {N : Nat} {e : TypeId} {size n : Nat} {v : Value} {xs : List Value} (u : Upd [] w W) (ho : W.ownsRow N e size v n xs) (g : W.grownBy w' v.ownBlock) (hN : w.heap.size ≤ N) : Upd [] w w' :=
  Upd.of_below ((u.below (Nat.le_refl _) (by simp)).trans ((Upd.of_grown g).below u.size (fun s hs => Nat.le_trans hN (own_block_lt ho (by simpa using hs)).1)))
theorem blk_srcT {w : World} {g : Nat} {t : TypeId} {xs : List Value} (h : Blk w g t xs.toArray) : ∀ (j : Nat) (u : Value), xs[j]? = some u → w.cell? ((⟨g, 0, none⟩ : Addr).add j) = some u := by
  intro j u hj
  have := h.cell j
  rw [List.getElem?_toArray, hj] at this
  unfold Addr.add
  by_cases hj0 : j = 0
  · subst hj0; simpa using this
  · simpa [hj0] using this
theorem oneDn (a : Dn) : ∀ u ∈ encDn a, u.oneCell' = true := by
  intro u hu
  simp [encDn] at hu
  rcases hu with rfl | rfl | rfl | rfl | rfl | rfl | rfl | rfl | rfl | rfl <;> rfl
set_option maxRecDepth 100000 in
set_option maxHeartbeats 4000000 in
theorem downs_any {w : World} {N : Nat} {v : Value} {ep : Int} {rs : List Rt} {ds : List Dn} (h : IsTb w N v ep rs ds) (hl : ds.length ≤ 1000) {t : Int} :
    Calls Try.prog 18 #[v, .int .i64 t] w fun e w' => ∃ v2, e = .returned v2 ∧ w'.ownsRow w.heap.size 41 10 v2 (downsM t ds).length ((downsM t ds).flatMap encDn) ∧ Upd [] w w' := by
  rcases h with ⟨rfl, -, -, rfl⟩ | ⟨T, mr, md, rfl, h, -, hmd⟩
  · go_enter Try.func18, Try.ntmps18
    go_wp2
    refine bodyPost_res (v := .slice none 0 0) (by simp [results, Try.results18, go_sem]) rfl ?_
    first
      | exact ⟨_, rfl, World.ownsRow_nil _ _ _ _, Upd.refl _ _⟩
      | exact ⟨World.ownsRow_nil _ _ _ _, Upd.refl _ _⟩
  obtain ⟨j0, hj0, hy0, hy1, hy2⟩ := info_parts infoDn
  have t2 : w.cell? ⟨T, 2, none⟩ = some (.map (some md)) := h.blk.cell 2
  have HRT := Lib.hid h.dn
  have HM := Lib.hid hmd
  obtain ⟨D, hD⟩ : ∃ D, D = tab kDn vDn ds := ⟨_, rfl⟩
  rw [← hD] at HRT
  have HD := Lib.hid hD
  obtain ⟨n, hn⟩ : ∃ n, n = ds.length := ⟨_, rfl⟩
  rw [← hn] at HRT hl
  have HSZ : Hid (Maps.size D ≤ n) := Lib.hid HRT.out.size_le
  have HLT0 : Hid (md < w.heap.size) := Lib.hid HRT.out.lt
  obtain ⟨R, hR⟩ : ∃ R, R = w.heap.size := ⟨_, rfl⟩
  have HRS := Lib.hid hR
  clear h hmd hD hn
  go_enter Try.func18, Try.ntmps18
  go_wp2_with (at_range; refine wpList_range_own _ rfl _ 64 rfl 25 41 keyedU Try.underlying64 rV md n D rfl HRT.out ?_; intro w0 hrg0 hg0 hs0)
  go_frame
  rw [← hR] at hrg0 ⊢
  clear hR hs0 t2
  have HRG := Lib.hid hrg0
  have HU0 : Hid (Upd [] w w0) := Lib.hid (Upd.of_grown hg0)
  clear hrg0 hg0
  go_loopg [5] (Maps.size D) (fun gk x5 wr => ∃ (left : Lit → Bool) (cnt : Nat) (out : List Dn), wr.ranges Try.prog 25 rV md R n D left cnt ∧ cnt ≤ gk ∧ wr.ownsRow w.heap.size 41 10 x5 out.length (out.flatMap encDn) ∧
      (∀ x, x ∈ out ↔ x ∈ ds ∧ x.track = t ∧ left (kDn x) = false) ∧ out.Nodup ∧ out.length + cnt ≤ n ∧ Upd [] w wr)
  case atStart =>
    refine ⟨_, _, [], HRG.out, Nat.le_refl _, World.ownsRow_nil _ _ _ _, fun x => ?_, List.nodup_nil, by simpa using HSZ.out, HU0.out⟩
    constructor
    · intro hx; cases hx
    · rintro ⟨h1, -, h3⟩
      rw [HD.out, ((tab_cnt (k := kDn) (v := vDn) key_all ds).has_iff _).2 (List.mem_map.2 ⟨x, h1, rfl⟩)] at h3
      cases h3
  case round =>
    obtain ⟨left, cnt, out, hrg, hcg, hown, hmem, hnd, hlc, hu⟩ := hrel
    obtain ⟨Av, cv, hve, -⟩ := own_form hown
    subst hve
    have HMEM := Lib.hid hmem
    have HND := Lib.hid hnd
    have HU := Lib.hid hu
    have HCG := Lib.hid (And.intro hcg hlc)
    have HOW := Lib.hid hown
    clear HRG HU0 hmem hnd hu hcg hown
    go_wp2_with (at_next; refine wpList_next_ranges _ rfl _ rfl 25 keyedU rV (Value.int .u32) id invU invV md R n D left cnt rfl hrg ?_ ?_)
    · intro _ hl0
      have HEND : Hid (∀ x, x ∈ out ↔ x ∈ ds ∧ x.track = t) := Lib.hid (fun x => by rw [HMEM.out]; simp [hl0])
      have hol : out.length ≤ 100000 := by have := HCG.out.2; omega
      have HSO := Lib.hid (sort_any HOW.out hol _ rfl)
      clear hl0 hrg hol
      go_wp2_with fail
      refine HSO.out.mono ?_
      rintro _ w2 ⟨rfl, l', hp, hs, hown2, hg2⟩
      have he : l' = downsM t ds := downs_sorted HM.out.who (fun x => by rw [hp.mem_iff]; exact HEND.out x) (hp.nodup_iff.2 HND.out) hs
      have hle : (downsM t ds).length = out.length := by rw [← he]; exact hp.length_eq
      have HFIN : Hid (w2.ownsRow w.heap.size 41 10 (.slice Av out.length cv) (downsM t ds).length ((downsM t ds).flatMap encDn) ∧ Upd [] w w2) := Lib.hid (by
        rw [hle, ← he]
        exact ⟨hown2, app_updT HU.out HOW.out hg2 (Nat.le_refl _)⟩)
      clear hp hs hown2 hg2 he hle HSO
      go_wp2
      refine bodyPost_res (v := .slice Av out.length cv) (by simp [results, Try.results18, go_sem]) rfl ?_
      first
        | exact ⟨_, rfl, HFIN.out⟩
        | exact HFIN.out
    · intro x c kl yd yp w1 cnt1 hkey hlk hv hat hrg1 hlt hg1 hs1 hen
      rw [HD.out] at hat
      obtain ⟨a, ha, rfl, rfl, rfl⟩ := entry_is (y := (yd, yp)) (f := Dn.ssrc) (v := vDn) HM.out.one hkey hv hat
      have HU1 := Lib.hid (upd_grown HU.out hg1 (by rw [HRS.out]; exact Nat.le_refl _))
      have HR1 := Lib.hid hrg1
      have HOW1 := Lib.hid (HOW.out.kept hg1 (.inr (fun e => row_ne_iter HOW.out hrg e.symm)))
      have HA := Lib.hid ha
      have HLT := Lib.hid hlt
      have HLK := Lib.hid hlk
      unfold vDn encDn at hen
      dsimp only [id, List.toArray] at hen
      clear hkey hlk hv hat hrg1 hlt hg1 hs1 hrg ha HOW
      go_upto_region 7 with fail
      obtain ⟨rb, hrb⟩ : ∃ k, k = w1.heap.size := ⟨_, rfl⟩
      obtain ⟨W, hW⟩ : ∃ z, z = w1.alloc (.cells #[.int .u32 a.ssrc, .int .i64 a.slot, .int .u32 a.turn, .int .i64 a.who, .int .i64 a.track, .int .i64 a.shard, .int .i64 a.src, .int .i64 a.layer, .int .i64 a.tid, .bool a.muted] 41) := ⟨_, rfl⟩
      rw [← hW, ← hrb]
      have hbr : Blk W rb 41 #[.int .u32 a.ssrc, .int .i64 a.slot, .int .u32 a.turn, .int .i64 a.who, .int .i64 a.track, .int .i64 a.shard, .int .i64 a.src, .int .i64 a.layer, .int .i64 a.tid, .bool a.muted] := by rw [hW, hrb]; exact Blk.new _ _ _
      have HR2 : Hid (W.ranges Try.prog 25 rV md R n D (fun z => left z && !z.sameKey (kU a.ssrc)) cnt1) := Lib.hid (by rw [hW]; exact HR1.out.alloc _)
      have HU2 : Hid (Upd [] w W) := Lib.hid (by rw [hW]; exact HU1.out.alloc _)
      have HOW2 : Hid (W.ownsRow w.heap.size 41 10 (.slice Av out.length cv) out.length (out.flatMap encDn)) := Lib.hid (by rw [hW]; exact HOW1.out.alloc _)
      have HBR := Lib.hid hbr
      have r4 : W.cell? ⟨rb, 4, none⟩ = some (.int .i64 a.track) := hbr.cell 4
      have HLF : Hid (∀ x, x ∈ ds → ((left (kDn x) && !(kDn x).sameKey (kU a.ssrc)) = false ↔ left (kDn x) = false ∨ x = a)) := Lib.hid (fun x hx => by
        have hsk : (kDn x).sameKey (kU a.ssrc) = true ↔ x = a := by
          constructor
          · intro h
            exact HM.out.one.mem hx HA.out (kU_inj (WideAt.sameKey_eq h))
          · rintro rfl
            exact WideAt.sameKey_self trivial
        cases hq : left (kDn x) <;> simp [hsk])
      clear hbr hW hrb HR1 HU1 HOW1 hen
      by_cases k1 : a.track = t
      · have hb1 : (a.track == t) = true := by simp [k1]
        have HK := Lib.hid k1
        clear k1
        go_upto_region 8 with fail
        have z0 : W.cell? ⟨rb, 0, none⟩ = some (.int .u32 a.ssrc) := HBR.out.cell 0
        have z1 : W.cell? ⟨rb, 1, none⟩ = some (.int .i64 a.slot) := HBR.out.cell 1
        have z2 : W.cell? ⟨rb, 2, none⟩ = some (.int .u32 a.turn) := HBR.out.cell 2
        have z3 : W.cell? ⟨rb, 3, none⟩ = some (.int .i64 a.who) := HBR.out.cell 3
        have z4 : W.cell? ⟨rb, 4, none⟩ = some (.int .i64 a.track) := HBR.out.cell 4
        have z5 : W.cell? ⟨rb, 5, none⟩ = some (.int .i64 a.shard) := HBR.out.cell 5
        have z6 : W.cell? ⟨rb, 6, none⟩ = some (.int .i64 a.src) := HBR.out.cell 6
        have z7 : W.cell? ⟨rb, 7, none⟩ = some (.int .i64 a.layer) := HBR.out.cell 7
        have z8 : W.cell? ⟨rb, 8, none⟩ = some (.int .i64 a.tid) := HBR.out.cell 8
        have z9 : W.cell? ⟨rb, 9, none⟩ = some (.bool a.muted) := HBR.out.cell 9
        have HOA : Hid ((W.alloc (.cells #[.int .u32 a.ssrc, .int .i64 a.slot, .int .u32 a.turn, .int .i64 a.who, .int .i64 a.track, .int .i64 a.shard, .int .i64 a.src, .int .i64 a.layer, .int .i64 a.tid, .bool a.muted] 41)).ownsRow w.heap.size 41 10 (.slice Av out.length cv) out.length (out.flatMap encDn)) := Lib.hid (HOW2.out.alloc _)
        have HU3 : Hid (Upd [] w (W.alloc (.cells #[.int .u32 a.ssrc, .int .i64 a.slot, .int .u32 a.turn, .int .i64 a.who, .int .i64 a.track, .int .i64 a.shard, .int .i64 a.src, .int .i64 a.layer, .int .i64 a.tid, .bool a.muted] 41))) := Lib.hid (HU2.out.alloc _)
        have HR3 : Hid ((W.alloc (.cells #[.int .u32 a.ssrc, .int .i64 a.slot, .int .u32 a.turn, .int .i64 a.who, .int .i64 a.track, .int .i64 a.shard, .int .i64 a.src, .int .i64 a.layer, .int .i64 a.tid, .bool a.muted] 41)).ranges Try.prog 25 rV md R n D (fun z => left z && !z.sameKey (kU a.ssrc)) cnt1) := Lib.hid (HR2.out.alloc _)
        have HNEW := Lib.hid (blk_srcT (Blk.new W 41 #[.int .u32 a.ssrc, .int .i64 a.slot, .int .u32 a.turn, .int .i64 a.who, .int .i64 a.track, .int .i64 a.shard, .int .i64 a.src, .int .i64 a.layer, .int .i64 a.tid, .bool a.muted]))
        have HONE : Hid (∀ u ∈ ([.int .u32 a.ssrc, .int .i64 a.slot, .int .u32 a.turn, .int .i64 a.who, .int .i64 a.track, .int .i64 a.shard, .int .i64 a.src, .int .i64 a.layer, .int .i64 a.tid, .bool a.muted] : List Value), u.oneCell' = true) := Lib.hid (oneDn a)
        have hol : out.length ≤ 1000 := by have := HCG.out.2; omega
        clear HR2 HU2 HOW2 HBR r4
        go_wp2_with (at_builtin; refine wpList_append_own_at _ rfl (.tmp 23) (.tmp 25) 24 rfl w.heap.size 41 j0 _ 10 80 Try.underlying24 hj0 hy0 hy1 hy2 rfl (by decide) (.slice Av out.length cv) out.length (out.flatMap encDn) rfl HOA.out ⟨W.heap.size, 0, none⟩ 1 1 [.int .u32 a.ssrc, .int .i64 a.slot, .int .u32 a.turn, .int .i64 a.who, .int .i64 a.track, .int .i64 a.shard, .int .i64 a.src, .int .i64 a.layer, .int .i64 a.tid, .bool a.muted] rfl rfl HNEW.out HONE.out (by unfold maxLen; omega) (by omega) HU3.out.size ?_)
        intro v8 w8 hown8 hg8 _ hat8
        have HREL : Hid (w8.ownsRow w.heap.size 41 10 v8 (out ++ [a]).length ((out ++ [a]).flatMap encDn)) := Lib.hid (by
          rw [List.flatMap_append, List.length_append]
          have e : [a].flatMap encDn = encDn a := by simp
          rw [e]
          exact hown8)
        have HR8 := Lib.hid (HR3.out.kept hg8 (fun e => by have := row_ne_low HOA.out HLT0.out; exact this e) (row_ne_iter HOA.out HR3.out))
        have HU8 := Lib.hid (app_updT HU3.out HOA.out hg8 (Nat.le_refl _))
        obtain ⟨A8, c8, hv8, -⟩ := own_form hown8
        subst hv8
        clear hown8 hg8 hat8 HOA HU3 HR3 HNEW z0 z1 z2 z3 z4 z5 z6 z7 z8 z9
        go_wp2
        go_roundg (gk - 1)
        case measure => have := HCG.out; have := HLT.out; omega
        case rel =>
          refine ⟨_, _, out ++ [a], HR8.out, by have := HCG.out; have := HLT.out; omega, by rw [List.length_append] at HREL ⊢; exact HREL.out, fun x => ?_, ?_, ?_, HU8.out⟩
          · rw [List.mem_append, List.mem_singleton, HMEM.out]
            constructor
            · rintro (⟨h1, h2, h3⟩ | rfl)
              · exact ⟨h1, h2, (HLF.out x h1).2 (.inl h3)⟩
              · exact ⟨HA.out, HK.out, (HLF.out x HA.out).2 (.inr rfl)⟩
            · rintro ⟨h1, h2, h3⟩
              rcases (HLF.out x h1).1 h3 with h | h
              · exact .inl ⟨h1, h2, h⟩
              · exact .inr h
          · refine List.nodup_append.2 ⟨HND.out, by simp, fun x hx y hy => ?_⟩
            rw [List.mem_singleton] at hy
            subst hy
            rintro rfl
            have h3 := ((HMEM.out x).1 hx).2.2
            have h4 := HLK.out
            rw [show kDn x = kU x.ssrc from rfl, h4] at h3
            cases h3
          · rw [List.length_append, List.length_singleton]
            have := HCG.out.2
            have := HLT.out
            omega
      · have hb1 : (a.track == t) = false := beq_eq_false_iff_ne.2 k1
        have HK := Lib.hid k1
        clear k1
        go_wp2
        go_roundg (gk - 1)
        case measure => have := HCG.out; have := HLT.out; omega
        case rel =>
          refine ⟨_, _, out, HR2.out, by have := HCG.out; have := HLT.out; omega, HOW2.out, fun x => ?_, HND.out, by have := HCG.out.2; have := HLT.out; omega, HU2.out⟩
          rw [HMEM.out]
          constructor
          · rintro ⟨h1, h2, h3⟩
            exact ⟨h1, h2, (HLF.out x h1).2 (.inl h3)⟩
          · rintro ⟨h1, h2, h3⟩
            rcases (HLF.out x h1).1 h3 with h | h
            · exact ⟨h1, h2, h⟩
            · subst h; exact absurd h2 HK.out
end Go.Proofs.Yteljkdihlklliaa
/- The laws' 'awake': the document's example. No condition. -/
namespace Go.Proofs.Yteljkdihlklliaa
open Go Go.RowKit Go.Maps
set_option maxHeartbeats 400000
def rA : Rt := ⟨5, 1, 0, 0, 0⟩
def dA : Dn := ⟨2147483648, 0, 0, 9, 1, 0, 0, 0, 0, false⟩
def dB : Dn := ⟨2147483649, 1, 0, 4, 1, 0, 0, 0, 0, false⟩
theorem CellsIn.of_blk {w : World} {g : Nat} {e : TypeId} {size n : Nat} {xs : List Value} (h : Blk w g e xs.toArray) (hl : xs.length = n * size) : CellsIn w 0 w.heap.size size (some ⟨g, 0, none⟩) n xs :=
  ⟨hl, fun _ => ⟨g, 0, rfl, Nat.zero_le _, h.lt, fun j u hj => by
    rw [Nat.zero_add, h.cell j]
    simpa using hj⟩⟩
theorem mayA : MayR [rA] ∧ MayD [dA, dB] :=
  ⟨⟨fun r hr => by simp at hr; subst hr; decide, by unfold Uniq; decide, by unfold Uniq; decide⟩,
   ⟨fun d hd => by simp at hd; rcases hd with rfl | rfl <;> decide, by unfold Uniq; decide, by unfold Uniq; decide, by unfold Uniq; decide⟩⟩
theorem downsA : downsM 1 [dA, dB] = [dB, dA] := rfl
set_option maxRecDepth 100000 in
set_option maxHeartbeats 4000000 in
theorem awake_any (w : World) : Calls Try.prog 7 #[] w fun e w' => e = .returned (.bool true) ∧ Upd [] w w' := by
  obtain ⟨g1, hg1⟩ : ∃ g, g = w.heap.size := ⟨_, rfl⟩
  obtain ⟨g2, hg2⟩ : ∃ g, g = w.heap.size + 1 := ⟨_, rfl⟩
  obtain ⟨w1, hw1⟩ : ∃ z, z = w.alloc (.cells #[.int .u32 5, .int .i64 1, .int .i64 0, .int .i64 0, .int .i64 0] 37) := ⟨_, rfl⟩
  obtain ⟨W, hW⟩ : ∃ z, z = w1.alloc (.cells #[.int .u32 2147483648, .int .i64 0, .int .u32 0, .int .i64 9, .int .i64 1, .int .i64 0, .int .i64 0, .int .i64 0, .int .i64 0, .bool false, .int .u32 2147483649, .int .i64 1, .int .u32 0, .int .i64 4, .int .i64 1, .int .i64 0, .int .i64 0, .int .i64 0, .int .i64 0, .bool false] 41) := ⟨_, rfl⟩
  have s1 : w1.heap.size = g2 := by rw [hw1, World.size_alloc, hg2]
  have u2 : Upd [] w1 W := by rw [hW]; exact (Upd.refl [] w1).alloc _
  have hb1 : CellsIn W 0 W.heap.size 5 (some ⟨g1, 0, none⟩) [rA].length ([rA].flatMap encRt) := CellsIn.of_blk (e := 37) (by
    have : Blk w1 g1 37 #[.int .u32 5, .int .i64 1, .int .i64 0, .int .i64 0, .int .i64 0] := by rw [hw1, hg1]; exact Blk.new _ _ _
    exact this.upd u2 (by simp)) rfl
  have hb2 : CellsIn W 0 W.heap.size 10 (some ⟨g2, 0, none⟩) [dA, dB].length ([dA, dB].flatMap encDn) := CellsIn.of_blk (e := 41) (by
    show Blk W g2 41 #[.int .u32 2147483648, .int .i64 0, .int .u32 0, .int .i64 9, .int .i64 1, .int .i64 0, .int .i64 0, .int .i64 0, .int .i64 0, .bool false, .int .u32 2147483649, .int .i64 1, .int .u32 0, .int .i64 4, .int .i64 1, .int .i64 0, .int .i64 0, .int .i64 0, .int .i64 0, .bool false]
    rw [hW, ← s1]
    exact Blk.new _ _ _) rfl
  have HU : Hid (Upd [] w W) := Lib.hid (Upd.next (by rw [hw1]; exact (Upd.refl [] w).alloc _) u2)
  have HMK := Lib.hid (make_any (w := W) (ca := 1) (cb := 2) 3 hb1 hb2 (fun r hr => by simp at hr; subst hr; exact ⟨⟨by decide, by decide⟩, ⟨by decide, by decide⟩, ⟨by decide, by decide⟩, ⟨by decide, by decide⟩, ⟨by decide, by decide⟩⟩)
    (fun d hd => by simp at hd; rcases hd with rfl | rfl <;> exact ⟨⟨by decide, by decide⟩, ⟨by decide, by decide⟩, ⟨by decide, by decide⟩, ⟨by decide, by decide⟩, ⟨by decide, by decide⟩, ⟨by decide, by decide⟩, ⟨by decide, by decide⟩, ⟨by decide, by decide⟩, ⟨by decide, by decide⟩⟩) (by decide) (by decide))
  clear hb1 hb2 u2 s1
  go_enter Try.func7, Try.ntmps7
  go_wp2_with fail
  rw [← hw1, ← hg2, ← hW, ← hg1]
  refine HMK.out.mono ?_
  rintro e w2 ⟨hu, ⟨-, T, mr, md, rfl, hist⟩ | ⟨hno, -⟩⟩
  rotate_left
  · exact absurd mayA hno
  obtain ⟨N, hN⟩ : ∃ N, N = W.heap.size := ⟨_, rfl⟩
  have HTB : Hid (IsTb w2 N (.pointer (some ⟨T, 0, none⟩)) 3 [rA] [dA, dB]) := Lib.hid (.inr ⟨T, mr, md, rfl, by rw [hN]; exact hist, mayA⟩)
  have HU2 := Lib.hid (HU.out.next hu)
  have HDW := Lib.hid (downs_any (t := 1) HTB.out (by decide))
  rw [downsA] at HDW
  clear hu hist HMK hN hw1 hg2 hW hg1
  go_wp2_with fail
  refine HDW.out.mono ?_
  rintro _ w3 ⟨v3, rfl, hown, hu3⟩
  obtain ⟨A3, c3, hv3, -, hA3, -⟩ := own_form hown
  subst hv3
  obtain ⟨g, rfl, -, hg3⟩ := hA3 (by decide)
  have q1 : w3.cell? ⟨g, 3, none⟩ = some (.int .i64 4) := by simpa [Addr.add] using hown.cells (g := g) rfl 3 (.int .i64 4) rfl
  have q2 : w3.cell? ⟨g, 13, none⟩ = some (.int .i64 9) := by simpa [Addr.add] using hown.cells (g := g) rfl 13 (.int .i64 9) rfl
  have HTB3 := Lib.hid (HTB.out.upd hu3)
  have HU3 := Lib.hid (HU2.out.next hu3)
  have HRO := Lib.hid (route_any HTB3.out (s := 5) ⟨by decide, by decide⟩)
  rw [show routeM [rA] 5 = some rA from rfl] at HRO
  have HQ := Lib.hid (And.intro q1 (And.intro q2 hg3))
  clear hown hu3 HDW HTB q1 q2 hg3
  simp only [Option.getD_some, Option.isSome_some, encRt, rA] at HRO
  go_wp2_with fail
  refine HRO.out.mono ?_
  rintro _ w4 ⟨rfl, hu4⟩
  obtain ⟨b4, hb4⟩ : ∃ b, b = w4.heap.size := ⟨_, rfl⟩
  obtain ⟨w5, hw5⟩ : ∃ z, z = w4.alloc (.cells #[.int .u32 5, .int .i64 1, .int .i64 0, .int .i64 0, .int .i64 0] 37) := ⟨_, rfl⟩
  have hu5 : Upd [] w3 w5 := hu4.next (by rw [hw5]; exact (Upd.refl [] w4).alloc _)
  have HB5 : Hid (Blk w5 b4 37 #[.int .u32 5, .int .i64 1, .int .i64 0, .int .i64 0, .int .i64 0]) := Lib.hid (by rw [hw5, hb4]; exact Blk.new _ _ _)
  have HU5 := Lib.hid (HU3.out.next hu5)
  have HTB5 := Lib.hid (HTB3.out.upd hu5)
  have HQ5 : Hid (w5.cell? ⟨g, 3, none⟩ = some (.int .i64 4) ∧ w5.cell? ⟨g, 13, none⟩ = some (.int .i64 9) ∧ g < w5.heap.size) := Lib.hid ⟨(hu5.cell (p := ⟨g, 3, none⟩) HQ.out.2.2 (by simp)).trans HQ.out.1, (hu5.cell (p := ⟨g, 13, none⟩) HQ.out.2.2 (by simp)).trans HQ.out.2.1, Nat.lt_of_lt_of_le HQ.out.2.2 hu5.size⟩
  have HSO := Lib.hid (source_any HTB5.out (t := 1) (l := 0))
  rw [show sourceM [rA] 1 0 = some rA from rfl] at HSO
  simp only [Option.map_some, Option.getD_some, Option.isSome_some, rA] at HSO
  clear hu4 hu5 HRO HTB3 HU3 HQ
  go_upto_region 4 with fail
  rw [← hw5, ← hb4]
  clear hw5 hb4
  go_wp2_with fail
  refine HSO.out.mono ?_
  rintro _ w6 ⟨rfl, hu6⟩
  have HTB6 := Lib.hid (HTB5.out.upd hu6)
  have HU6 := Lib.hid (HU5.out.next hu6)
  have HB6 := Lib.hid (HB5.out.upd hu6 (by simp))
  have HQ6 : Hid (w6.cell? ⟨g, 3, none⟩ = some (.int .i64 4) ∧ w6.cell? ⟨g, 13, none⟩ = some (.int .i64 9) ∧ g < w6.heap.size) := Lib.hid ⟨(hu6.cell (p := ⟨g, 3, none⟩) HQ5.out.2.2 (by simp)).trans HQ5.out.1, (hu6.cell (p := ⟨g, 13, none⟩) HQ5.out.2.2 (by simp)).trans HQ5.out.2.1, Nat.lt_of_lt_of_le HQ5.out.2.2 hu6.size⟩
  have HOW := Lib.hid (own_any HTB6.out (s := 5) ⟨by decide, by decide⟩)
  rw [show ownM [dA, dB] 5 = none from rfl] at HOW
  simp only [Option.getD_none, Option.isSome_none, encDn, zDn] at HOW
  clear hu6 HSO HTB5 HU5 HB5 HQ5
  go_wp2_with fail
  refine HOW.out.mono ?_
  rintro _ w7 ⟨rfl, hu7⟩
  obtain ⟨w8, hw8⟩ : ∃ z, z = w7.alloc (.cells #[.int .u32 0, .int .i64 0, .int .u32 0, .int .i64 0, .int .i64 0, .int .i64 0, .int .i64 0, .int .i64 0, .int .i64 0, .bool false] 41) := ⟨_, rfl⟩
  have hu8 : Upd [] w6 w8 := hu7.next (by rw [hw8]; exact (Upd.refl [] w7).alloc _)
  have HU8 := Lib.hid (HU6.out.next hu8)
  have HTB8 := Lib.hid (HTB6.out.upd hu8)
  have e1 : w8.cell? ⟨b4, 1, none⟩ = some (.int .i64 1) := (HB6.out.upd hu8 (by simp)).cell 1
  have q1 : w8.cell? ⟨g, 3, none⟩ = some (.int .i64 4) := (hu8.cell (p := ⟨g, 3, none⟩) HQ6.out.2.2 (by simp)).trans HQ6.out.1
  have q2 : w8.cell? ⟨g, 13, none⟩ = some (.int .i64 9) := (hu8.cell (p := ⟨g, 13, none⟩) HQ6.out.2.2 (by simp)).trans HQ6.out.2.1
  have HEP := Lib.hid (epoch_any HTB8.out)
  have HLE := Lib.hid (len_any HTB8.out)
  clear hu7 hu8 HOW HTB6 HU6 HB6 HQ6
  go_upto_region 6 with fail
  rw [← hw8]
  clear hw8
  go_wp2_with fail
  refine HEP.out.mono ?_
  rintro _ w9 ⟨rfl, rfl⟩
  go_wp2_with fail
  refine HLE.out.mono ?_
  rintro _ w9 ⟨rfl, rfl⟩
  go_wp2
  exact bodyPost_res (v := .bool true) (by simp [results, Try.results7, go_sem]) rfl ⟨rfl, HU8.out⟩
end Go.Proofs.Yteljkdihlklliaa
/- table.Make, as a table or nil; and what the laws' walks want of slices. Conditions: numbers of their types; no more than 1000. -/
namespace Go.Proofs.Yteljkdihlklliaa
open Go Go.RowKit Go.Maps
set_option maxHeartbeats 400000
theorem make_tb {w : World} {A B : Option Addr} {ca cb : Nat} {rs : List Rt} {ds : List Dn} (ep : Int) (hA : CellsIn w 0 w.heap.size 5 A rs.length (rs.flatMap encRt)) (hB : CellsIn w 0 w.heap.size 10 B ds.length (ds.flatMap encDn))
    (hr : ∀ r, r ∈ rs → r.Ok) (hd : ∀ d, d ∈ ds → d.Ok) (hlr : rs.length ≤ 1000) (hld : ds.length ≤ 1000) :
    Calls Try.prog 8 #[.int .u64 ep, .slice A rs.length ca, .slice B ds.length cb] w fun e w' => ∃ (v : Value) (er : Int), e = .returned (.tuple #[v, .int .i64 er]) ∧ Upd [] w w' ∧
      ((er = 0 ∧ (MayR rs ∧ MayD ds) ∧ IsTb w' w.heap.size v ep rs ds) ∨ (er = 1 ∧ ¬ (MayR rs ∧ MayD ds) ∧ v = .pointer none ∧ IsTb w' w.heap.size v 0 [] [])) := by
  refine (make_any (ca := ca) (cb := cb) ep hA hB hr hd hlr hld).mono ?_
  rintro e w' ⟨hu, ⟨hm, T, mr, md, rfl, ht⟩ | ⟨hm, rfl⟩⟩
  · exact ⟨_, 0, rfl, hu, .inl ⟨rfl, hm, .inr ⟨T, mr, md, rfl, ht, hm⟩⟩⟩
  · exact ⟨_, 1, rfl, hu, .inr ⟨rfl, hm, rfl, .inl ⟨rfl, rfl, rfl, rfl⟩⟩⟩
/-- a slice of structs that came in, behind whatever has been done to other blocks -/
theorem CellsIn.later {w w' : World} {size n : Nat} {A : Option Addr} {xs : List Value} (h : CellsIn w 0 w.heap.size size A n xs) (u : Upd [] w w') : CellsIn w' 0 w'.heap.size size A n xs :=
  ⟨h.1, fun hn => by
    obtain ⟨b, off, e, h1, h2, hc⟩ := h.2 hn
    exact ⟨b, off, e, h1, Nat.lt_of_lt_of_le h2 u.size, fun j v hv => (u.cell (p := ⟨b, off + j, none⟩) h2 (by simp)).trans (hc j v hv)⟩⟩
theorem CellsIn.of_cells0 {w : World} {size n : Nat} {A : Option Addr} {xs : List Value} (h : Cells w w.heap.size size A n xs) : CellsIn w 0 w.heap.size size A n xs := by
  refine ⟨h.1, fun hn => ?_⟩
  obtain ⟨b, off, e, hlt, hc⟩ := h.2 hn
  exact ⟨b, off, e, Nat.zero_le _, hlt, hc⟩
theorem CellsIn.of_row {w : World} {N : Nat} {e : TypeId} {size n c : Nat} {A : Option Addr} {xs : List Value} (h : w.ownsRow N e size (.slice A n c) n xs) : CellsIn w 0 w.heap.size size A n xs := by
  rcases h.2 with ⟨hv, rfl⟩ | ⟨g, cap, cur, hv, hg, hh, h1, h2, h3, h4⟩
  · exact ⟨h.1, fun hn => absurd hn (Nat.lt_irrefl 0)⟩
  · injection hv with e1 _ _
    subst e1
    refine ⟨h.1, fun _ => ⟨g, 0, rfl, Nat.zero_le _, (Array.getElem?_eq_some_iff.1 hh).1, fun j u hj => ?_⟩⟩
    have := h.cells (g := g) rfl j u hj
    by_cases h0 : j = 0
    · subst h0; exact this
    · simpa [Addr.add, h0] using this
theorem infoRt : (Try.prog.info? 37).map (fun i => (i.zero, i.size, i.bytes)) = some (some (.agg #[.int .u32 0, .int .i64 0, .int .i64 0, .int .i64 0, .int .i64 0]), 5, 40) := by kernel_rfl
theorem oneRt (a : Rt) : ∀ u ∈ encRt a, u.oneCell' = true := by
  intro u hu
  simp [encRt] at hu
  rcases hu with rfl | rfl | rfl | rfl | rfl <;> rfl
end Go.Proofs.Yteljkdihlklliaa
/- Are two downtracks one? The program's == at table.Down. Condition: numbers of their types. -/
namespace Go.Proofs.Yteljkdihlklliaa
open Go Go.RowKit Go.Maps Go.WideMaps
set_option maxHeartbeats 400000
theorem sizeT3 : ∃ n, Try.prog.types.size = n + 1 + 1 + 1 := ⟨Try.prog.types.size - 3, by
  have h : decide (3 ≤ Try.prog.types.size) = true := by kernel_rfl
  have := of_decide_eq_true h
  omega⟩
theorem keyOf_D {d : Dn} (h : d.Ok) : ∃ l, keyOf Try.prog 41 (.agg (encDn d).toArray) = some l := by
  obtain ⟨n, hn⟩ := sizeT3
  obtain ⟨x0, x1, x2, x3, x4, x5, x6, x7, x8, x9⟩ := d
  obtain ⟨h0, h1, h2, h3, h4, h5, h6, h7, h8⟩ := h
  dsimp only at h0 h1 h2 h3 h4 h5 h6 h7 h8
  have k1 : Try.prog.keyType 41 = true := by kernel_rfl
  have k2 : Try.prog.cellsOf 41 = 10 := by kernel_rfl
  have k3 : Try.prog.cellsOf 3 = 1 := by kernel_rfl
  have k4 : Try.prog.cellsOf 25 = 1 := by kernel_rfl
  have k5 : Try.prog.cellsOf 39 = 2 := by kernel_rfl
  have k6 : Try.prog.cellsOf 4 = 1 := by kernel_rfl
  unfold keyOf
  rw [Try.underlying41]
  dsimp only
  rw [hn, k1]
  simp [Value.formed, encDn, Try.underlying41, Try.underlying39, Try.underlying3, Try.underlying25, Try.underlying4, Program.keyLits, k2, k3, k4, k5, k6, wf_u h0, wf_i h1, wf_u h2, wf_i h3, wf_i h4, wf_i h5, wf_i h6, wf_i h7, wf_i h8, Value.cells]
  rw [if_pos (by decide)]
  exact ⟨_, rfl⟩
theorem lawD : KeyLaw Try.prog 41 := deep_law_laid laidT (m := 3) (by omega) (of_decide_eq_true (by kernel_rfl)) (by kernel_rfl) (by rw [Try.underlying41])
theorem eq_dn {x y : Dn} (hx : x.Ok) (hy : y.Ok) : ∃ r : Bool, (∀ w : World, (binOp .eql 41 (.agg (encDn x).toArray) (.agg (encDn y).toArray)).run Try.prog w = .ok (.bool r) w) ∧ (r = true ↔ x = y) := by
  classical
  obtain ⟨lx, h1⟩ := keyOf_D hx
  obtain ⟨ly, h2⟩ := keyOf_D hy
  refine ⟨decide (lx = ly), fun w => ?_, ?_⟩
  · obtain ⟨r, hr, hi⟩ := run_equal_deep w (m := 3) (by omega) (k := 41) (by kernel_rfl) (by rw [Try.underlying41]) h1 h2
    have e : r = decide (lx = ly) := by
      rw [Bool.eq_iff_iff, hi]; simp
    subst e
    simp [binOp, hr, Result.andThen]
  · constructor
    · intro h
      have e : lx = ly := by simpa using h
      subst e
      have := lawD.inj h1 h2
      injection this with this
      exact encDn_inj (by simpa using this)
    · rintro rfl
      rw [h1] at h2
      simpa using Option.some.inj h2
end Go.Proofs.Yteljkdihlklliaa
/- TableParts: the walk. Conditions: slices that came in; numbers of their types. (Written by wip/gen/tableparts.py.) -/
namespace Go.Proofs.Yteljkdihlklliaa
open Go Go.RowKit Go.Maps
set_option maxHeartbeats 400000
/-- how many downtracks are of the tracks of the first i -/
def partsM (i : Nat) (ds : List Dn) : Nat := (ds.filter (fun d => (ds.take i).any (fun e => decide (e.track = d.track)))).length
def allNe (k : Nat) (t : Int) (ds : List Dn) : Bool := (ds.take k).all (fun e => !decide (e.track = t))
theorem len_or {α : Type} (p q : α → Bool) : ∀ l : List α, (∀ x, x ∈ l → p x = true → q x = false) → (l.filter (fun x => p x || q x)).length = (l.filter p).length + (l.filter q).length
  | [], _ => rfl
  | a :: l, h => by
    have ih := len_or p q l (fun x hx => h x (List.mem_cons_of_mem _ hx))
    have ha := h a (by simp)
    rw [List.filter_cons, List.filter_cons, List.filter_cons]
    cases hp : p a <;> cases hq : q a <;> simp_all <;> omega
theorem parts_zero (ds : List Dn) : partsM 0 ds = 0 := by simp [partsM]
theorem parts_le (i : Nat) (ds : List Dn) : partsM i ds ≤ ds.length := List.length_filter_le _ _
theorem parts_succ {ds : List Dn} {i : Nat} {d : Dn} (hi : ds[i]? = some d) : partsM (i + 1) ds = if allNe i d.track ds = true then partsM i ds + (downsM d.track ds).length else partsM i ds := by
  have htk : ds.take (i + 1) = ds.take i ++ [d] := by rw [List.take_add_one, hi]; rfl
  have e1 : partsM (i + 1) ds = (ds.filter (fun x => ((ds.take i).any (fun e => decide (e.track = x.track))) || decide (x.track = d.track))).length := by
    unfold partsM
    congr 2
    funext x
    rw [htk, List.any_append]
    simp [eq_comm]
  rw [e1]
  by_cases ha : allNe i d.track ds = true
  · rw [if_pos ha, len_downsM]
    refine len_or _ _ ds fun x _ hp => ?_
    have ha' := List.all_eq_true.1 ha
    obtain ⟨e, he, hx⟩ := List.any_eq_true.1 hp
    have h1 := ha' e he
    have h2 : e.track = x.track := by simpa using hx
    have h3 : ¬ e.track = d.track := by simpa using h1
    exact decide_eq_false (fun h => h3 (h2.trans h))
  · rw [if_neg ha]
    unfold partsM
    congr 2
    funext x
    cases hq : decide (x.track = d.track)
    · simp
    · have hx : x.track = d.track := by simpa using hq
      have : ((ds.take i).any fun e => decide (e.track = x.track)) = true := by
        rw [hx]
        cases h : (ds.take i).any fun e => decide (e.track = d.track)
        · exact absurd (by
            unfold allNe
            rw [List.all_eq_true]
            intro e he
            have := List.any_eq_false.1 h e he
            simpa using this) ha
        · rfl
      rw [this]
      rfl
theorem parts_all (ds : List Dn) : partsM ds.length ds = ds.length := by
  unfold partsM
  rw [List.take_length, List.filter_eq_self.2]
  intro a ha
  exact List.any_eq_true.2 ⟨a, ha, by simp⟩
theorem allNe_succ {ds : List Dn} {k : Nat} {e : Dn} (t : Int) (hk : ds[k]? = some e) : allNe (k + 1) t ds = (allNe k t ds && !decide (e.track = t)) := by
  unfold allNe
  rw [List.take_add_one, hk]
  simp [List.all_append]
theorem upW_nodup {l : List Dn} (h : UpW l) : l.Nodup := h.imp fun hab e => by subst e; omega
set_option maxRecDepth 100000 in
set_option maxHeartbeats 6000000 in
theorem parts_any (A B : Option Addr) (ca cb : Nat) (rs : List Rt) (ds : List Dn) (w : World) (hA : CellsIn w 0 w.heap.size 5 A rs.length (rs.flatMap encRt)) (hB : CellsIn w 0 w.heap.size 10 B ds.length (ds.flatMap encDn))
    (hr : ∀ r, r ∈ rs → r.Ok) (hd : ∀ d, d ∈ ds → d.Ok) :
    Calls Try.prog 5 #[.slice A rs.length ca, .slice B ds.length cb] w fun e w' => e = .returned (.bool true) ∧ Below w.heap.size w w' := by
  have HA := Lib.hid hA
  have HB := Lib.hid hB
  have HR := Lib.hid hr
  have HD := Lib.hid hd
  have HAW := Lib.hid (awake_any w)
  clear hA hB hr hd
  obtain ⟨n, hn⟩ : ∃ n, n = rs.length := ⟨_, rfl⟩
  obtain ⟨m, hm⟩ : ∃ m, m = ds.length := ⟨_, rfl⟩
  rw [← hn, ← hm]
  have HN := Lib.hid hn
  have HM := Lib.hid hm
  clear hn hm
  go_enter Try.func5, Try.ntmps5
  go_wp2_with fail
  refine HAW.out.mono ?_
  rintro _ w1 ⟨rfl, hu1⟩
  have HU1 := Lib.hid hu1
  clear hu1 HAW
  by_cases g1 : (60 : Int) < (n : Int)
  · go_wp2
    exact bodyPost_res (v := .bool true) (by simp [results, Try.results5, go_sem]) rfl ⟨rfl, HU1.out.below (Nat.le_refl _) (by simp)⟩
  by_cases g2 : (60 : Int) < (m : Int)
  · go_wp2
    exact bodyPost_res (v := .bool true) (by simp [results, Try.results5, go_sem]) rfl ⟨rfl, HU1.out.below (Nat.le_refl _) (by simp)⟩
  have hn60 : n ≤ 60 := by omega
  have hm60 : m ≤ 60 := by omega
  have HMK := Lib.hid (make_tb (ca := ca) (cb := cb) 1 (HA.out.later HU1.out) (HB.out.later HU1.out) HR.out HD.out (by rw [← HN.out]; omega) (by rw [← HM.out]; omega))
  rw [← HN.out, ← HM.out] at HMK
  go_wp2_with fail
  refine HMK.out.mono ?_
  rintro _ w4 ⟨v4, e4, rfl, hu4, hc4⟩
  have HU4 := Lib.hid (HU1.out.next hu4)
  clear hu4 HMK HU1 g1 g2
  rcases hc4 with ⟨rfl, hmay, htb⟩ | ⟨rfl, -, -, htb⟩
  rotate_left
  · have HTB := Lib.hid htb
    have HLE := Lib.hid (len_any HTB.out)
    have HDW := Lib.hid (downs_any (t := 1) HTB.out (by decide))
    rw [show downsM 1 [] = [] from rfl] at HDW
    dsimp only [List.length_nil, List.flatMap_nil] at HDW
    have HEP := Lib.hid (fun W (hW : Upd [] w4 W) => epoch_any (HTB.out.upd hW))
    clear htb
    go_wp2_with fail
    refine HLE.out.mono ?_
    rintro _ w5 ⟨rfl, rfl⟩
    go_wp2_with fail
    refine HDW.out.mono ?_
    rintro _ w5 ⟨v5, rfl, hown5, hu5⟩
    obtain ⟨A5, c5, hv5, -⟩ := own_form hown5
    subst hv5
    have HU5 := Lib.hid hu5
    clear hown5 hu5 HDW
    go_wp2_with fail
    refine (HEP.out _ HU5.out).mono ?_
    rintro _ w6 ⟨rfl, rfl⟩
    have HF := Lib.hid (HU4.out.next HU5.out)
    go_wp2
    exact bodyPost_res (v := .bool true) (by simp [results, Try.results5, go_sem]) rfl ⟨rfl, HF.out.below (Nat.le_refl _) (by simp)⟩
  have HTB := Lib.hid htb
  have HMAY := Lib.hid hmay
  have HB4 := Lib.hid (HB.out.later HU4.out)
  clear htb hmay HA HB
  go_wp2
  go_loopg [8, 9] m (fun gk x8 x9 wr => ∃ i : Nat, i ≤ m ∧ m ≤ i + gk ∧ x8 = .int .i64 (partsM i ds) ∧ x9 = .int .i64 i ∧ Upd [] w4 wr)
  case atStart => exact ⟨0, Nat.zero_le _, by omega, by rw [parts_zero]; rfl, rfl, Upd.refl _ _⟩
  case round =>
    obtain ⟨i, hi, hgi, rfl, rfl, hu⟩ := hrel
    by_cases hlt : i < m
    · obtain ⟨d, hri⟩ : ∃ d, ds[i]? = some d := ⟨_, List.getElem?_eq_getElem (by rw [← HM.out]; exact hlt)⟩
      obtain ⟨b, off, hBe, -, hb2, hcc⟩ := (HB4.out.later hu).2 (by rw [← HM.out]; omega)
      subst hBe
      obtain ⟨pn, hpn⟩ : ∃ p, p = partsM i ds := ⟨_, rfl⟩
      have hpm : pn ≤ m := by rw [hpn, HM.out]; exact parts_le i ds
      rw [← hpn]
      have hlti : (i : Int) < (m : Int) := by omega
      have hwi : IntKind.i64.wrap ((i : Int) + 1) = (i : Int) + 1 := IntWalk.i64_in _ (by omega)
      have ci : wr.cell? ⟨b, off + (i * 10 + 4), none⟩ = some (.int .i64 d.track) := hcc (i * 10 + 4) _ (flat_get encDn_len ds i 4 d hri (by omega))
      simp only [← Nat.add_assoc] at ci
      have HCC := Lib.hid hcc
      have HBB := Lib.hid hb2
      have HRI := Lib.hid hri
      have HPN := Lib.hid hpn
      have HU := Lib.hid hu
      have HGI := Lib.hid hgi
      obtain ⟨td, htd⟩ : ∃ t, t = d.track := ⟨_, rfl⟩
      rw [← htd] at ci
      have HTD := Lib.hid htd
      have HCI : Hid (wr.cell? ⟨b, off + i * 10 + 4, none⟩ = some (.int .i64 td)) := Lib.hid ci
      obtain ⟨wi, rfl⟩ : ∃ z : World, z = wr := ⟨wr, rfl⟩
      obtain ⟨g0, rfl⟩ : ∃ g : Nat, g = gk := ⟨gk, rfl⟩
      clear hcc hb2 hri hpn hu hgi htd ci
      go_wp2
      go_loopg [10, 11] i (fun gq x10 x11 wr => ∃ k : Nat, k ≤ i ∧ i ≤ k + gq ∧ x10 = .bool (allNe k td ds) ∧ x11 = .int .i64 k ∧ Upd [] wi wr)
      case atStart => exact ⟨0, Nat.zero_le _, by omega, rfl, rfl, Upd.refl _ _⟩
      case round =>
        obtain ⟨k, hk, hgk, rfl, rfl, huk⟩ := hrel
        by_cases hkl : k < i
        · obtain ⟨e, hek⟩ : ∃ e, ds[k]? = some e := ⟨_, List.getElem?_eq_getElem (by rw [← HM.out]; omega)⟩
          have ck : wr.cell? ⟨b, off + (k * 10 + 4), none⟩ = some (.int .i64 e.track) := (huk.cell (p := ⟨b, off + (k * 10 + 4), none⟩) HBB.out (by simp)).trans (HCC.out (k * 10 + 4) _ (flat_get encDn_len ds k 4 e hek (by omega)))
          simp only [← Nat.add_assoc] at ck
          have ci : wr.cell? ⟨b, off + i * 10 + 4, none⟩ = some (.int .i64 td) := (huk.cell (p := ⟨b, off + i * 10 + 4, none⟩) HBB.out (by simp)).trans HCI.out
          have hlk : (k : Int) < (i : Int) := by omega
          have hlkm : (k : Int) < (m : Int) := by omega
          have hwk : IntKind.i64.wrap ((k : Int) + 1) = (k : Int) + 1 := IntWalk.i64_in _ (by omega)
          have HST := Lib.hid (allNe_succ td hek)
          obtain ⟨bk, hbk⟩ : ∃ b, b = allNe k td ds := ⟨_, rfl⟩
          rw [← hbk] at HST ⊢
          have HUK := Lib.hid huk
          have HGK := Lib.hid hgk
          clear hek hbk huk hgk
          cases bk with
          | true =>
            by_cases ht : e.track = td
            · have hq : (e.track == td) = true := by simp [ht]
              have HS2 : Hid (allNe (k + 1) td ds = false) := Lib.hid (by rw [HST.out, decide_eq_true ht]; rfl)
              clear ht
              go_upto_region 17 with fail
              refine wp_quiet_tail 14 (by kernel_rfl) (by kernel_rfl) (fun _ _ _ _ h => h) ?_
              simp only [List.take_succ_cons, List.take_zero, List.drop_succ_cons, List.drop_zero]
              repeat (go_big_quiet_step (fail))
              refine wpQuiet_nil ?_
              rintro _ ⟨nq, rfl⟩
              go_wp2
              go_roundg (gk - 1)
              case measure => have := HGK.out; omega
              case rel => exact ⟨k + 1, by omega, by have := HGK.out; omega, by rw [HS2.out]; simp [bne, hq], by go_num, HUK.out.drewN nq⟩
            · have hq : (e.track == td) = false := beq_eq_false_iff_ne.2 ht
              have HS2 : Hid (allNe (k + 1) td ds = true) := Lib.hid (by rw [HST.out, decide_eq_false ht]; rfl)
              clear ht
              go_upto_region 17 with fail
              refine wp_quiet_tail 14 (by kernel_rfl) (by kernel_rfl) (fun _ _ _ _ h => h) ?_
              simp only [List.take_succ_cons, List.take_zero, List.drop_succ_cons, List.drop_zero]
              repeat (go_big_quiet_step (fail))
              refine wpQuiet_nil ?_
              rintro _ ⟨nq, rfl⟩
              go_wp2
              go_roundg (gk - 1)
              case measure => have := HGK.out; omega
              case rel => exact ⟨k + 1, by omega, by have := HGK.out; omega, by rw [HS2.out]; simp [bne, hq], by go_num, HUK.out.drewN nq⟩
          | false =>
            have HS2 : Hid (allNe (k + 1) td ds = false) := Lib.hid (by rw [HST.out]; rfl)
            go_upto_region 17 with fail
            refine wp_quiet_tail 14 (by kernel_rfl) (by kernel_rfl) (fun _ _ _ _ h => h) ?_
            simp only [List.take_succ_cons, List.take_zero, List.drop_succ_cons, List.drop_zero]
            repeat (go_big_quiet_step (fail))
            refine wpQuiet_nil ?_
            rintro _ ⟨nq, rfl⟩
            go_wp2
            go_roundg (gk - 1)
            case measure => have := HGK.out; omega
            case rel => exact ⟨k + 1, by omega, by have := HGK.out; omega, by rw [HS2.out], by go_num, HUK.out.drewN nq⟩
        obtain rfl : i = k := by omega
        have hnk : ¬ ((i : Int) < (i : Int)) := by omega
        have ci : wr.cell? ⟨b, off + i * 10 + 4, none⟩ = some (.int .i64 td) := (huk.cell (p := ⟨b, off + i * 10 + 4, none⟩) HBB.out (by simp)).trans HCI.out
        have HUK := Lib.hid huk
        have HDW := Lib.hid (downs_any (t := td) (HTB.out.upd (HU.out.next huk)) (by rw [← HM.out]; omega))
        obtain ⟨lst, hlst⟩ : ∃ l, l = downsM td ds := ⟨_, rfl⟩
        obtain ⟨L, hL⟩ : ∃ l, l = lst.length := ⟨_, rfl⟩
        rw [← hlst, ← hL] at HDW
        have HLS := Lib.hid hlst
        have HLL := Lib.hid hL
        have hLm : L ≤ m := by rw [hL, hlst, len_downsM, HM.out]; exact List.length_filter_le _ _
        clear huk hgk hk hkl hlst hL
        go_wp2_with fail
        refine HDW.out.mono ?_
        rintro _ w5 ⟨v5, rfl, hown5, hu5⟩
        obtain ⟨A5, c5, hv5, -⟩ := own_form hown5
        subst hv5
        have HU5 := Lib.hid (HU.out.next (HUK.out.next hu5))
        have HX5 := Lib.hid (CellsIn.of_row hown5)
        have HC5 : Hid (∀ (j : Nat) (u : Value), (ds.flatMap encDn)[j]? = some u → w5.cell? ⟨b, off + j, none⟩ = some u) := Lib.hid (fun j u hj => ((HUK.out.next hu5).cell (p := ⟨b, off + j, none⟩) HBB.out (by simp)).trans (HCC.out j u hj))
        have HB5 : Hid (b < w5.heap.size) := Lib.hid (Nat.lt_of_lt_of_le HBB.out (HUK.out.next hu5).size)
        clear hown5 hu5 HDW ci HCI HUK HU HCC HBB
        have HPS : Hid (partsM (i + 1) ds = if allNe i td ds = true then pn + L else pn) := Lib.hid (by rw [parts_succ HRI.out, ← HTD.out, ← HLS.out, ← HPN.out, ← HLL.out])
        have hwn : IntKind.i64.wrap ((pn : Int) + (L : Int)) = (pn : Int) + (L : Int) := IntWalk.i64_in _ (by omega)
        obtain ⟨w6, rfl⟩ : ∃ z : World, z = w5 := ⟨w5, rfl⟩
        go_upto_if 80 with fail
        go_cut [8, 10] (fun s8 _ wd => wd = w6 ∧ s8 = .int .i64 (partsM (i + 1) ds))
        case first =>
          obtain ⟨ba, hba⟩ : ∃ b, b = allNe i td ds := ⟨_, rfl⟩
          rw [← hba] at HPS
          rw [← hba]
          clear hba
          cases ba with
          | true =>
            have HP2 : Hid (partsM (i + 1) ds = pn + L) := Lib.hid (by rw [HPS.out, if_pos rfl])
            go_wp2
            go_meet
            case rel => exact ⟨rfl, by rw [HP2.out]; simp⟩
          | false =>
            have HP2 : Hid (partsM (i + 1) ds = pn) := Lib.hid (by rw [HPS.out, if_neg (by decide)])
            go_wp2
            go_meet
            case rel => exact ⟨rfl, by rw [HP2.out]⟩
        obtain ⟨hwd, rfl⟩ := hcut
        obtain rfl := hwd.symm
        obtain ⟨p2, hp2⟩ : ∃ p, p = partsM (i + 1) ds := ⟨_, rfl⟩
        rw [← hp2]
        have HP2 := Lib.hid hp2
        have HUP : Hid (UpW lst) := Lib.hid (by rw [HLS.out]; exact upW_downsM HMAY.out.2.who)
        have HML : Hid (∀ x, x ∈ lst ↔ x ∈ ds ∧ x.track = d.track) := Lib.hid (fun x => by rw [HLS.out, mem_downsM, ← HTD.out])
        have hokd := HD.out d (List.mem_of_getElem? HRI.out)
        have HOKD := Lib.hid hokd
        clear hp2 HPS HPN hwn hpm hokd
        go_wp2
        go_loopg [13, 14] L (fun gk x13 x14 wr => ∃ (k : Nat) (tm : Int), k ≤ L ∧ L ≤ k + gk ∧ x14 = .int .i64 k ∧ x13 = .int .i64 tm ∧ ((tm = 1 ∧ d ∈ lst.take k) ∨ (tm = 0 ∧ d ∉ lst.take k)) ∧ Upd [] w6 wr)
        case atStart => exact ⟨0, 0, Nat.zero_le _, by omega, rfl, rfl, .inr ⟨rfl, by simp⟩, Upd.refl _ _⟩
        case round =>
          obtain ⟨k, tm, hk, hgk, rfl, rfl, htm, huk⟩ := hrel
          by_cases hkl : k < L
          · obtain ⟨x, hxk⟩ : ∃ x, lst[k]? = some x := ⟨_, List.getElem?_eq_getElem (by rw [← HLL.out]; exact hkl)⟩
            have hxm := List.mem_of_getElem? hxk
            obtain ⟨hxd, hxt⟩ := (HML.out x).1 hxm
            obtain ⟨b1, o1, he1, -, hb1, hcc1⟩ := (HX5.out.later huk).2 (by omega)
            subst he1
            have hb2 : b < w6.heap.size := HB5.out
            have hcc2 := HC5.out
            have hri := HRI.out
            have e0 : wr.cell? ⟨b, off + (i * 10 + 0), none⟩ = some (.int .u32 d.ssrc) := (huk.cell (p := ⟨b, off + (i * 10 + 0), none⟩) hb2 (by simp)).trans (hcc2 (i * 10 + 0) _ (flat_get encDn_len ds i 0 d hri (by omega)))
            have e1 : wr.cell? ⟨b, off + (i * 10 + 1), none⟩ = some (.int .i64 d.slot) := (huk.cell (p := ⟨b, off + (i * 10 + 1), none⟩) hb2 (by simp)).trans (hcc2 (i * 10 + 1) _ (flat_get encDn_len ds i 1 d hri (by omega)))
            have e2 : wr.cell? ⟨b, off + (i * 10 + 2), none⟩ = some (.int .u32 d.turn) := (huk.cell (p := ⟨b, off + (i * 10 + 2), none⟩) hb2 (by simp)).trans (hcc2 (i * 10 + 2) _ (flat_get encDn_len ds i 2 d hri (by omega)))
            have e3 : wr.cell? ⟨b, off + (i * 10 + 3), none⟩ = some (.int .i64 d.who) := (huk.cell (p := ⟨b, off + (i * 10 + 3), none⟩) hb2 (by simp)).trans (hcc2 (i * 10 + 3) _ (flat_get encDn_len ds i 3 d hri (by omega)))
            have e4 : wr.cell? ⟨b, off + (i * 10 + 4), none⟩ = some (.int .i64 d.track) := (huk.cell (p := ⟨b, off + (i * 10 + 4), none⟩) hb2 (by simp)).trans (hcc2 (i * 10 + 4) _ (flat_get encDn_len ds i 4 d hri (by omega)))
            have e5 : wr.cell? ⟨b, off + (i * 10 + 5), none⟩ = some (.int .i64 d.shard) := (huk.cell (p := ⟨b, off + (i * 10 + 5), none⟩) hb2 (by simp)).trans (hcc2 (i * 10 + 5) _ (flat_get encDn_len ds i 5 d hri (by omega)))
            have e6 : wr.cell? ⟨b, off + (i * 10 + 6), none⟩ = some (.int .i64 d.src) := (huk.cell (p := ⟨b, off + (i * 10 + 6), none⟩) hb2 (by simp)).trans (hcc2 (i * 10 + 6) _ (flat_get encDn_len ds i 6 d hri (by omega)))
            have e7 : wr.cell? ⟨b, off + (i * 10 + 7), none⟩ = some (.int .i64 d.layer) := (huk.cell (p := ⟨b, off + (i * 10 + 7), none⟩) hb2 (by simp)).trans (hcc2 (i * 10 + 7) _ (flat_get encDn_len ds i 7 d hri (by omega)))
            have e8 : wr.cell? ⟨b, off + (i * 10 + 8), none⟩ = some (.int .i64 d.tid) := (huk.cell (p := ⟨b, off + (i * 10 + 8), none⟩) hb2 (by simp)).trans (hcc2 (i * 10 + 8) _ (flat_get encDn_len ds i 8 d hri (by omega)))
            have e9 : wr.cell? ⟨b, off + (i * 10 + 9), none⟩ = some (.bool d.muted) := (huk.cell (p := ⟨b, off + (i * 10 + 9), none⟩) hb2 (by simp)).trans (hcc2 (i * 10 + 9) _ (flat_get encDn_len ds i 9 d hri (by omega)))
            have hri := hxk
            have c0 : wr.cell? ⟨b1, o1 + (k * 10 + 0), none⟩ = some (.int .u32 x.ssrc) := hcc1 (k * 10 + 0) _ (flat_get encDn_len lst k 0 x hri (by omega))
            have c1 : wr.cell? ⟨b1, o1 + (k * 10 + 1), none⟩ = some (.int .i64 x.slot) := hcc1 (k * 10 + 1) _ (flat_get encDn_len lst k 1 x hri (by omega))
            have c2 : wr.cell? ⟨b1, o1 + (k * 10 + 2), none⟩ = some (.int .u32 x.turn) := hcc1 (k * 10 + 2) _ (flat_get encDn_len lst k 2 x hri (by omega))
            have c3 : wr.cell? ⟨b1, o1 + (k * 10 + 3), none⟩ = some (.int .i64 x.who) := hcc1 (k * 10 + 3) _ (flat_get encDn_len lst k 3 x hri (by omega))
            have c4 : wr.cell? ⟨b1, o1 + (k * 10 + 4), none⟩ = some (.int .i64 x.track) := hcc1 (k * 10 + 4) _ (flat_get encDn_len lst k 4 x hri (by omega))
            have c5 : wr.cell? ⟨b1, o1 + (k * 10 + 5), none⟩ = some (.int .i64 x.shard) := hcc1 (k * 10 + 5) _ (flat_get encDn_len lst k 5 x hri (by omega))
            have c6 : wr.cell? ⟨b1, o1 + (k * 10 + 6), none⟩ = some (.int .i64 x.src) := hcc1 (k * 10 + 6) _ (flat_get encDn_len lst k 6 x hri (by omega))
            have c7 : wr.cell? ⟨b1, o1 + (k * 10 + 7), none⟩ = some (.int .i64 x.layer) := hcc1 (k * 10 + 7) _ (flat_get encDn_len lst k 7 x hri (by omega))
            have c8 : wr.cell? ⟨b1, o1 + (k * 10 + 8), none⟩ = some (.int .i64 x.tid) := hcc1 (k * 10 + 8) _ (flat_get encDn_len lst k 8 x hri (by omega))
            have c9 : wr.cell? ⟨b1, o1 + (k * 10 + 9), none⟩ = some (.bool x.muted) := hcc1 (k * 10 + 9) _ (flat_get encDn_len lst k 9 x hri (by omega))
            simp only [← Nat.add_assoc, Nat.add_zero] at c0 c1 c2 c3 c4 c5 c6 c7 c8 c9 e0 e1 e2 e3 e4 e5 e6 e7 e8 e9
            obtain ⟨r, hq, hqi⟩ := eq_dn (HD.out x hxd) HOKD.out
            unfold encDn at hq
            dsimp only [List.toArray] at hq
            have hqn : (x.track != d.track) = false := by simp [hxt]
            have hlk : (k : Int) < (L : Int) := by omega
            have hwk : IntKind.i64.wrap ((k : Int) + 1) = (k : Int) + 1 := IntWalk.i64_in _ (by omega)
            have hwt : IntKind.i64.wrap (tm + 1) = tm + 1 := IntWalk.i64_in _ (by rcases htm with ⟨h, -⟩ | ⟨h, -⟩ <;> rw [h] <;> decide)
            have htk : lst.take (k + 1) = lst.take k ++ [x] := by rw [List.take_add_one, hxk]; rfl
            have HNX : Hid (x ∉ lst.take k) := Lib.hid (fun hm => by
              have hnd := upW_nodup HUP.out
              have h1 : (lst.take (k + 1)).Nodup := hnd.sublist (List.take_sublist _ _)
              rw [htk, List.nodup_append] at h1
              exact h1.2.2 x hm x (by simp) rfl)
            have HTK := Lib.hid htk
            have HTM := Lib.hid htm
            have HQI := Lib.hid hqi
            have HUK := Lib.hid huk
            have HGK := Lib.hid hgk
            by_cases k0 : k = 0
            · subst k0
              have hz : decide ((0 : Int) < ((0 : Nat) : Int)) = false := rfl
              simp only [Nat.zero_mul, Nat.add_zero] at c0 c1 c2 c3 c4 c5 c6 c7 c8 c9
              clear hxk hxm hxd hxt hb1 hcc1 hb2 hcc2 hri htk htm hqi huk hgk
              go_upto_region 25 with fail
              refine wp_quiet_tail 28 (by kernel_rfl) (by kernel_rfl) (fun _ _ _ _ h => h) ?_
              simp only [List.take_succ_cons, List.take_zero, List.drop_succ_cons, List.drop_zero]
              repeat (go_big_quiet_step (fail))
              refine wpQuiet_nil ?_
              rintro _ ⟨nq, rfl⟩
              go_upto_region 27 with fail
              refine wp_quiet_tail 8 (by kernel_rfl) (by kernel_rfl) (fun _ _ _ _ h => h) ?_
              simp only [List.take_succ_cons, List.take_zero, List.drop_succ_cons, List.drop_zero]
              repeat (go_big_quiet_step (fail))
              refine wpQuiet_nil ?_
              rintro _ ⟨nq2, rfl⟩
              cases r with
              | true =>
                have hxd2 : x = d := HQI.out.1 rfl
                have htm0 : tm = 0 := by
                  rcases HTM.out with ⟨-, h⟩ | ⟨h, -⟩
                  · exact absurd (by rw [hxd2]; exact h) HNX.out
                  · exact h
                have HX := Lib.hid hxd2
                subst htm0
                clear hxd2
                go_wp2
                go_roundg (gk - 1)
                case measure => have := HGK.out; omega
                case rel => exact ⟨0 + 1, 1, by omega, by have := HGK.out; omega, by go_num, rfl, .inl ⟨rfl, by rw [HTK.out, ← HX.out]; simp⟩, HUK.out.next ((Upd.refl [] wr).drewN _)⟩
              | false =>
                have HX : Hid (x ≠ d) := Lib.hid (fun h => by have := HQI.out.2 h; cases this)
                go_wp2
                go_roundg (gk - 1)
                case measure => have := HGK.out; omega
                case rel =>
                  refine ⟨0 + 1, tm, by omega, by have := HGK.out; omega, by go_num, rfl, ?_, HUK.out.next ((Upd.refl [] wr).drewN _)⟩
                  have hm : d ∈ lst.take (0 + 1) ↔ d ∈ lst.take 0 := by
                    rw [HTK.out, List.mem_append, List.mem_singleton]
                    exact ⟨fun h => h.resolve_right (fun h => HX.out h.symm), .inl⟩
                  rw [hm]
                  exact HTM.out
            · obtain ⟨kp, hkp⟩ : ∃ kp, k = kp + 1 := ⟨k - 1, by omega⟩
              obtain ⟨y, hyk⟩ : ∃ y, lst[kp]? = some y := ⟨_, List.getElem?_eq_getElem (by rw [← HLL.out]; omega)⟩
              have hlt2 : y.who < x.who := by
                obtain ⟨q1, rfl⟩ := List.getElem?_eq_some_iff.1 hyk
                obtain ⟨q2, rfl⟩ := List.getElem?_eq_some_iff.1 hxk
                exact List.pairwise_iff_getElem.1 HUP.out kp k q1 q2 (by omega)
              have cp : wr.cell? ⟨b1, o1 + (kp * 10 + 3), none⟩ = some (.int .i64 y.who) := hcc1 (kp * 10 + 3) _ (flat_get encDn_len lst kp 3 y hyk (by omega))
              simp only [← Nat.add_assoc] at cp
              have hwm : IntKind.i64.wrap ((k : Int) - 1) = (kp : Int) := by rw [IntWalk.i64_in _ (by omega)]; omega
              have hk0 : decide ((0 : Int) < (k : Int)) = true := decide_eq_true (by omega)
              have hk0n : decide (0 < k) = true := decide_eq_true (by omega)
              have hkpl : (kp : Int) < (L : Int) := by omega
              have hge : decide (x.who ≤ y.who) = false := decide_eq_false (by omega)
              clear hxk hxm hxd hxt hb1 hcc1 hb2 hcc2 hri htk htm hqi huk hgk k0 hkp hyk
              go_upto_region 25 with fail
              refine wp_quiet_tail 28 (by kernel_rfl) (by kernel_rfl) (fun _ _ _ _ h => h) ?_
              simp only [List.take_succ_cons, List.take_zero, List.drop_succ_cons, List.drop_zero]
              repeat (go_big_quiet_step (fail))
              refine wpQuiet_nil ?_
              rintro _ ⟨nq, rfl⟩
              go_upto_region 27 with fail
              refine wp_quiet_tail 8 (by kernel_rfl) (by kernel_rfl) (fun _ _ _ _ h => h) ?_
              simp only [List.take_succ_cons, List.take_zero, List.drop_succ_cons, List.drop_zero]
              repeat (go_big_quiet_step (fail))
              refine wpQuiet_nil ?_
              rintro _ ⟨nq2, rfl⟩
              cases r with
              | true =>
                have hxd2 : x = d := HQI.out.1 rfl
                have htm0 : tm = 0 := by
                  rcases HTM.out with ⟨-, h⟩ | ⟨h, -⟩
                  · exact absurd (by rw [hxd2]; exact h) HNX.out
                  · exact h
                have HX := Lib.hid hxd2
                subst htm0
                clear hxd2
                go_wp2
                go_roundg (gk - 1)
                case measure => have := HGK.out; omega
                case rel => exact ⟨k + 1, 1, by omega, by have := HGK.out; omega, by go_num, rfl, .inl ⟨rfl, by rw [HTK.out, ← HX.out]; simp⟩, HUK.out.next ((Upd.refl [] wr).drewN _)⟩
              | false =>
                have HX : Hid (x ≠ d) := Lib.hid (fun h => by have := HQI.out.2 h; cases this)
                go_wp2
                go_roundg (gk - 1)
                case measure => have := HGK.out; omega
                case rel =>
                  refine ⟨k + 1, tm, by omega, by have := HGK.out; omega, by go_num, rfl, ?_, HUK.out.next ((Upd.refl [] wr).drewN _)⟩
                  have hm : d ∈ lst.take (k + 1) ↔ d ∈ lst.take k := by
                    rw [HTK.out, List.mem_append, List.mem_singleton]
                    exact ⟨fun h => h.resolve_right (fun h => HX.out h.symm), .inl⟩
                  rw [hm]
                  exact HTM.out
          have hkL : k = L := by omega
          have HTM : Hid (tm = 1) := Lib.hid (by
            rcases htm with ⟨h, -⟩ | ⟨-, h⟩
            · exact h
            · rw [hkL, HLL.out, List.take_length] at h
              exact absurd ((HML.out d).2 ⟨List.mem_of_getElem? HRI.out, rfl⟩) h)
          have htm1 := HTM.out
          subst htm1
          have HU9 := Lib.hid (HU5.out.next huk)
          have hnk2 : ¬ ((k : Int) < (L : Int)) := by omega
          clear htm huk hgk hkL HX5 HC5
          go_wp2
          go_roundg (g0 - 1)
          case measure => have := HGI.out; omega
          case rel => exact ⟨i + 1, by omega, by have := HGI.out; omega, by rw [HP2.out], by go_num, HU9.out⟩
    obtain rfl : m = i := by omega
    have hpm : partsM m ds = m := by rw [HM.out]; exact parts_all ds
    rw [hpm]
    have HLE := Lib.hid (len_any (HTB.out.upd hu))
    rw [← HM.out] at HLE
    have HF := Lib.hid (HU4.out.next hu)
    clear hu hpm hgi hi hlt
    go_wp2_with fail
    refine HLE.out.mono ?_
    rintro _ w9 ⟨rfl, rfl⟩
    go_wp2
    exact bodyPost_res (v := .bool true) (by simp [results, Try.results5, go_sem]) rfl ⟨rfl, HF.out.below (Nat.le_refl _) (by simp)⟩
end Go.Proofs.Yteljkdihlklliaa
/- Arguments opened to cells: integers, slices of elements of so many one-cell parts. Plain laws on readings. -/
namespace Go.Proofs.Yteljkdihlklliaa
open Go Go.RowKit Go.ChangeShapes Go.WideShapes Go.Deep

theorem flat_one {α β : Type} (f : α → β) (l : List α) : l.flatMap (fun a => [f a]) = l.map f := by
  induction l with
  | nil => rfl
  | cons a l ih => rw [List.flatMap_cons, ih]; rfl

theorem cell_lt {w : World} {a : Addr} {v : Value} (h : w.cell? a = some v) : a.block < w.heap.size := by
  rcases Nat.lt_or_ge a.block w.heap.size with h1 | h1
  · exact h1
  · exfalso
    have h2 : w.heap[a.block]? = none := Array.getElem?_eq_none h1
    have h3 := World.cell?_of_block (w := w) (w' := { w with heap := #[] }) (a := a) (by rw [h2]; rfl)
    rw [h] at h3
    have h4 : (({ w with heap := #[] } : World).cell? a) = none := by simp [World.cell?]
    rw [h4] at h3
    cases h3

section
variable {H : Type} {enc : TypeId × Value → H} {P : Program} {w : World} {base : Nat} {spare : Nat → Bool} {held : Bool}

/-- A slice, element by element: whatever of an element's cells the reading tells. -/
theorem rd_slice {α : Type} {t e : TypeId} {size fuel : Nat} {cs : List Value} {x : DataW H × List MemPlace} (R : List Value → α → Prop) (ht : P.underlying t = some (.slice e)) (hC : P.cellsOf e = size) (h0 : 0 < size)
    (hR : ∀ n cs' y, cs'.length = size → DataW.trod enc P w base spare held n e cs' = some y → ∃ z, R cs' z) (hf : DataW.trod enc P w base spare held fuel t cs = some x) :
    ∃ (A : Option Addr) (len cap : Nat) (l : List α), cs = [.slice A len cap] ∧ len ≤ cap ∧ cap ≤ maxLen ∧ l.length = len ∧
      (0 < len → ∃ b off, A = some ⟨b, off, none⟩ ∧ b < w.heap.size ∧ ∀ (i : Nat) (z : α), l[i]? = some z → ∃ ci, R ci z ∧ ci.length = size ∧ ∀ j, j < size → w.cell? ⟨b, off + i * size + j, none⟩ = ci[j]?) := by
  rcases open_slice ht hf with ⟨hcs, _⟩ | ⟨a, len, cap, m, n, D, Pl, hcs, hb, hl, hm, hmm, hx, hi⟩
  · exact ⟨none, 0, 0, [], hcs, Nat.le_refl _, Nat.zero_le _, rfl, fun h => absurd h (Nat.lt_irrefl 0)⟩
  · have hlm : len ≤ m := by rw [hmm]; split <;> omega
    have each : ∀ i, i < len → ∃ z ci, R ci z ∧ ci.length = size ∧ ∀ j, j < size → w.cell? ((a.add (i * size)).add j) = ci[j]? := by
      intro i hil
      obtain ⟨cs', hc, ht'⟩ := hi i (by omega)
      rw [hC] at hc
      obtain ⟨_, hcl, hat⟩ := World.cells?_some hc
      obtain ⟨z, hz⟩ := hR n cs' _ hcl ht'
      exact ⟨z, cs', hz, hcl, hat⟩
    have list : ∀ k, k ≤ len → ∃ l : List α, l.length = k ∧ ∀ (i : Nat) (z : α), l[i]? = some z → ∃ ci, R ci z ∧ ci.length = size ∧ ∀ j, j < size → w.cell? ((a.add (i * size)).add j) = ci[j]? := by
      intro k
      induction k with
      | zero => intro _; exact ⟨[], rfl, fun i z h => by simp at h⟩
      | succ k ih =>
        intro hk
        obtain ⟨l, hll, hla⟩ := ih (by omega)
        obtain ⟨z, hz⟩ := each k (by omega)
        refine ⟨l ++ [z], by simp [hll], fun i y hy => ?_⟩
        rcases Nat.lt_or_ge i l.length with h1 | h1
        · rw [List.getElem?_append_left h1] at hy
          exact hla i y hy
        · rw [List.getElem?_append_right h1] at hy
          have h2 : i - l.length = 0 := by
            rcases Nat.eq_zero_or_pos (i - l.length) with h | h
            · exact h
            · rw [List.getElem?_eq_none (by simp; omega)] at hy; cases hy
          rw [h2] at hy
          obtain rfl : z = y := by simpa using hy
          obtain rfl : i = k := by omega
          exact hz
    obtain ⟨l, hll, hla⟩ := list len (Nat.le_refl _)
    refine ⟨some a, len, cap, l, hcs, hl, hm, hll, fun hpos => ?_⟩
    have hl0 : 0 < l.length := by omega
    obtain ⟨c0, _, hcl, h00⟩ := hla 0 l[0] (List.getElem?_eq_getElem hl0)
    have hcell := h00 0 h0
    rw [List.getElem?_eq_getElem (by omega)] at hcell
    have hadd : (a.add (0 * size)).add 0 = a := by simp [Addr.add]
    rw [hadd] at hcell
    have hspot := World.cell?_spot hcell
    obtain ⟨b, off, spot⟩ := a
    dsimp only at hspot
    subst hspot
    refine ⟨b, off, rfl, cell_lt hcell, fun i z hz => ?_⟩
    obtain ⟨ci, hr, hc1, hc2⟩ := hla i z hz
    refine ⟨ci, hr, hc1, fun j hj => ?_⟩
    have := hc2 j hj
    rw [← this]
    unfold Addr.add
    by_cases e1 : i * size = 0 <;> by_cases e2 : j = 0 <;> simp [e1, e2, Nat.add_assoc]

/-- .. where the cells are a function of what they read as. -/
theorem rd_cells {α : Type} {t e : TypeId} {size fuel : Nat} {cs : List Value} {x : DataW H × List MemPlace} (f : α → List Value) (ht : P.underlying t = some (.slice e)) (hC : P.cellsOf e = size) (h0 : 0 < size)
    (hR : ∀ n cs' y, cs'.length = size → DataW.trod enc P w base spare held n e cs' = some y → ∃ z, cs' = f z) (hlen : ∀ z, (f z).length = size) (hf : DataW.trod enc P w base spare held fuel t cs = some x) :
    ∃ (A : Option Addr) (len cap : Nat) (l : List α), cs = [.slice A len cap] ∧ len ≤ cap ∧ cap ≤ maxLen ∧ l.length = len ∧ Cells w w.heap.size size A len (l.flatMap f) := by
  obtain ⟨A, len, cap, l, h1, h2, h3, h4, h5⟩ := rd_slice (fun c z => c = f z) ht hC h0 hR hf
  have hfl : ∀ l : List α, (l.flatMap f).length = l.length * size := by
    intro l
    induction l with
    | nil => simp
    | cons a l ih => rw [List.flatMap_cons, List.length_append, ih, hlen, List.length_cons, Nat.succ_mul, Nat.add_comm]
  have hget : ∀ (l : List α) (i j : Nat) (z : α), l[i]? = some z → j < size → (l.flatMap f)[i * size + j]? = (f z)[j]? := by
    intro l
    induction l with
    | nil => intro i j z h; simp at h
    | cons a l ih =>
      intro i j z h hj
      rw [List.flatMap_cons]
      cases i with
      | zero =>
        obtain rfl : a = z := by simpa using h
        rw [Nat.zero_mul, Nat.zero_add, List.getElem?_append_left (by rw [hlen]; exact hj)]
      | succ i =>
        rw [List.getElem?_append_right (by rw [hlen, Nat.succ_mul]; omega), hlen, Nat.succ_mul, show i * size + size + j - size = i * size + j by omega]
        exact ih i j z (by simpa using h) hj
  refine ⟨A, len, cap, l, h1, h2, h3, h4, by rw [hfl, h4], fun hpos => ?_⟩
  obtain ⟨b, off, hA, hb, hc⟩ := h5 hpos
  refine ⟨b, off, hA, hb, fun j u hu => ?_⟩
  have hjl : j < l.length * size := by
    rcases Nat.lt_or_ge j (l.length * size) with h | h
    · exact h
    · rw [List.getElem?_eq_none (by rw [hfl]; exact h)] at hu; cases hu
  have hdiv : j / size < l.length := Nat.div_lt_of_lt_mul (by rw [Nat.mul_comm]; exact hjl)
  have hmod : j % size < size := Nat.mod_lt _ h0
  have hj : j = j / size * size + j % size := by rw [Nat.mul_comm]; exact (Nat.div_add_mod j size).symm
  obtain ⟨ci, hci, _, hcj⟩ := hc (j / size) l[j / size] (List.getElem?_eq_getElem hdiv)
  have h6 := hcj (j % size) hmod
  rw [Nat.add_assoc, ← hj] at h6
  rw [h6, hci]
  rw [hj, hget l _ _ _ (List.getElem?_eq_getElem hdiv) hmod] at hu
  exact hu

theorem rd_int {t : TypeId} {n : Nat} {cs : List Value} {y : DataW H × List MemPlace} {k : IntKind} (ht : P.underlying t = some (.int k)) (h : DataW.trod enc P w base spare held n t cs = some y) :
    ∃ z : Int, cs = [.int k z] ∧ (Lit.int k z).wf = true := by
  obtain ⟨z, h1, _, h3⟩ := DataW.trod_int ht h
  exact ⟨z, h1, h3⟩

/-- A struct of one-cell fields: each field's cell, with its own reading. -/
theorem rd_struct {t : TypeId} {fs : Array Field} {n : Nat} {cs : List Value} {y : DataW H × List MemPlace} (ht : P.underlying t = some (.struct fs)) (hone : oneCellFields P fs = true)
    (h : DataW.trod enc P w base spare held n t cs = some y) : ∃ m, ∀ (j : Nat) (f : Field) (v : Value), fs[j]? = some f → cs[j]? = some v → ∃ z, DataW.trod enc P w base spare held m f.type [v] = some z := by
  obtain ⟨ys, n', _, _, _, hyl, hf⟩ := DataW.trod_struct ht h
  refine ⟨n', fun j f v hj hv => ?_⟩
  obtain ⟨ho, hk⟩ := hone_of hone j f hj
  have h1 := hf j f hj
  rw [ho, hk] at h1
  have hjl : j < fs.size := (Array.getElem?_eq_some_iff.1 hj).1
  obtain ⟨hjc, hv'⟩ := List.getElem?_eq_some_iff.1 hv
  have h2 : (cs.drop j).take 1 = [v] := by
    rw [List.drop_eq_getElem_cons hjc, hv']; rfl
  rw [h2, List.getElem?_eq_getElem (by omega)] at h1
  exact ⟨_, h1⟩
end

end Go.Proofs.Yteljkdihlklliaa
/- A struct with fields of several cells, field by field. Plain law on readings. -/
namespace Go.Proofs.Yteljkdihlklliaa
open Go Go.RowKit Go.ChangeShapes Go.WideShapes Go.Deep

section
variable {H : Type} {enc : TypeId × Value → H} {P : Program} {w : World} {base : Nat} {spare : Nat → Bool} {held : Bool}
theorem rd_fields {t : TypeId} {fs : Array Field} {n : Nat} {cs : List Value} {y : DataW H × List MemPlace} (ht : P.underlying t = some (.struct fs))
    (h : DataW.trod enc P w base spare held n t cs = some y) : ∃ m, ∀ (j : Nat) (f : Field) (e : TypeId) (o k : Nat), fs[j]? = some f → f.type = e → f.offset = o → P.cellsOf e = k → ∃ z, DataW.trod enc P w base spare held m e ((cs.drop o).take k) = some z := by
  obtain ⟨ys, n', _, _, _, hyl, hf⟩ := DataW.trod_struct ht h
  refine ⟨n', fun j f e o k hj he ho hk => ?_⟩
  have h1 := hf j f hj
  rw [ho, he, hk] at h1
  have hjl : j < fs.size := (Array.getElem?_eq_some_iff.1 hj).1
  rw [List.getElem?_eq_getElem (by omega)] at h1
  exact ⟨_, h1⟩
end
end Go.Proofs.Yteljkdihlklliaa
