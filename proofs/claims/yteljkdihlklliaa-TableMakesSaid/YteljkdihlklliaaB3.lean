/- Parts of the proof, one behind the other: TLay, TSort, TCmp, TDowns, TAwake, TTb, TRef, TRDowns. No condition of their own. -/
import Derived.Shelf.SlSortCmp.WholeK
import Derived.Shelf.SlSortCmp.NoneTotal
import Derived.Shelf.SlicesG.Cmp
import Derived.Shelf.Small.Bits
import Derived.Test.YteljkdihlklliaaProg
import Derived.Test.YteljkdihlklliaaB1
import Derived.Sort.OwnSorted
import Derived.Test.YteljkdihlklliaaB2
import Derived.Maps.AppendAt
/- The library's sort and comparison at this program: the layings of their contracts. Written by the kit's tool lay-plain.mjs. No condition. -/
namespace Go.Proofs.Yteljkdihlklliaa
open Go.Shelf
def sortDn_ren : Go.Shelf.Ren := ⟨fun | 6 => 23 | 15 => 27 | 14 => 26 | 28 => 37 | 29 => 38 | 20 => 29 | 21 => 30 | 22 => 31 | 23 => 32 | 24 => 33 | 25 => 34 | 26 => 35 | 27 => 36 | 46 => 39 | 47 => 40 | 48 => 41 | 49 => 42 | 50 => 43 | 57 => 44 | n => n, fun | 22 => 24 | 24 => 41 | 25 => 73 | 3 => 3 | 39 => 76 | 0 => 0 | 53 => 25 | 55 => 22 | 4 => 4 | 46 => 80 | 45 => 79 | 50 => 84 | 5 => 5 | 9 => 9 | 66 => 88 | 70 => 91 | 76 => 93 | 77 => 94 | n => n, fun | n => n⟩
theorem sortDn : Go.Proofs.SlLaysF0.n6 Try.prog sortDn_ren := {
  mixed := by kernel_rfl
  f6 := ⟨Try.f23.name, by decide, Try.func23.trans (congrArg some (by kernel_rfl))⟩
  f14 := ⟨Try.f26.name, by decide, Try.func26.trans (congrArg some (by kernel_rfl))⟩
  f15 := Try.func27.trans (congrArg some (by kernel_rfl))
  f20 := ⟨Try.f29.name, by decide, Try.func29.trans (congrArg some (by kernel_rfl))⟩
  f21 := ⟨Try.f30.name, by decide, Try.func30.trans (congrArg some (by kernel_rfl))⟩
  f22 := ⟨Try.f31.name, by decide, Try.func31.trans (congrArg some (by kernel_rfl))⟩
  f23 := ⟨Try.f32.name, by decide, Try.func32.trans (congrArg some (by kernel_rfl))⟩
  f24 := ⟨Try.f33.name, by decide, Try.func33.trans (congrArg some (by kernel_rfl))⟩
  f25 := ⟨Try.f34.name, by decide, Try.func34.trans (congrArg some (by kernel_rfl))⟩
  f26 := ⟨Try.f35.name, by decide, Try.func35.trans (congrArg some (by kernel_rfl))⟩
  f27 := ⟨Try.f36.name, by decide, Try.func36.trans (congrArg some (by kernel_rfl))⟩
  f28 := Try.func37.trans (congrArg some (by kernel_rfl))
  f29 := Try.func38.trans (congrArg some (by kernel_rfl))
  f46 := ⟨Try.f39.name, by decide, Try.func39.trans (congrArg some (by kernel_rfl))⟩
  f47 := Try.func40.trans (congrArg some (by kernel_rfl))
  f48 := Try.func41.trans (congrArg some (by kernel_rfl))
  f49 := ⟨Try.f42.name, by decide, Try.func42.trans (congrArg some (by kernel_rfl))⟩
  f50 := ⟨Try.f43.name, by decide, Try.func43.trans (congrArg some (by kernel_rfl))⟩
  f57 := ⟨Try.f44.name, by decide, Try.func44.trans (congrArg some (by kernel_rfl))⟩
  t0 := Try.underlying0
  a0 := Try.isAgg0
  z0 := Try.sizeOf0
  v0 := Try.zeroValue0
  t3 := Try.underlying3
  a3 := Try.isAgg3
  z3 := Try.sizeOf3
  v3 := Try.zeroValue3
  t4 := Try.underlying4
  a4 := Try.isAgg4
  z4 := Try.sizeOf4
  v4 := Try.zeroValue4
  t5 := Try.underlying5
  a5 := Try.isAgg5
  z5 := Try.sizeOf5
  v5 := Try.zeroValue5
  t9 := Try.underlying9
  a9 := Try.isAgg9
  z9 := Try.sizeOf9
  v9 := Try.zeroValue9
  t22 := Try.underlying24
  a22 := Try.isAgg24
  z22 := Try.sizeOf24
  v22 := Try.zeroValue24
  t25 := Try.underlying73
  a25 := Try.isAgg73
  z25 := Try.sizeOf73
  v25 := Try.zeroValue73
  t39 := Try.underlying76
  a39 := Try.isAgg76
  z39 := Try.sizeOf76
  v39 := Try.zeroValue76
  t45 := Try.underlying79
  a45 := Try.isAgg79
  z45 := Try.sizeOf79
  v45 := Try.zeroValue79
  t46 := Try.underlying80
  a46 := Try.isAgg80
  z46 := Try.sizeOf80
  v46 := Try.zeroValue80
  t50 := Try.underlying84
  a50 := Try.isAgg84
  z50 := Try.sizeOf84
  v50 := Try.zeroValue84
  t53 := Try.underlying25
  a53 := Try.isAgg25
  z53 := Try.sizeOf25
  v53 := Try.zeroValue25
  t55 := Try.underlying22
  a55 := Try.isAgg22
  z55 := Try.sizeOf22
  v55 := Try.zeroValue22
  t66 := Try.underlying88
  a66 := Try.isAgg88
  z66 := Try.sizeOf88
  v66 := Try.zeroValue88
  t70 := Try.underlying91
  a70 := Try.isAgg91
  z70 := Try.sizeOf91
  v70 := Try.zeroValue91
  t76 := Try.underlying93
  a76 := Try.isAgg93
  z76 := Try.sizeOf93
  v76 := Try.zeroValue93
  t77 := Try.underlying94
  a77 := Try.isAgg94
  z77 := Try.sizeOf94
  v77 := Try.zeroValue94 }
def cmpInt_ren : Go.Shelf.Ren := ⟨fun | 5 => 25 | 7 => 28 | n => n, fun | 22 => 3 | 3 => 3 | 4 => 4 | n => n, fun | n => n⟩
theorem cmpInt : Go.Proofs.SlLaysC2.n5 Try.prog cmpInt_ren := {
  mixed := by kernel_rfl
  f5 := ⟨Try.f25.name, by decide, Try.func25.trans (congrArg some (by kernel_rfl))⟩
  f7 := ⟨Try.f28.name, by decide, Try.func28.trans (congrArg some (by kernel_rfl))⟩
  t3 := Try.underlying3
  a3 := Try.isAgg3
  z3 := Try.sizeOf3
  v3 := Try.zeroValue3
  t4 := Try.underlying4
  a4 := Try.isAgg4
  z4 := Try.sizeOf4
  v4 := Try.zeroValue4
  t22 := Try.underlying3
  a22 := Try.isAgg3
  z22 := Try.sizeOf3
  v22 := Try.zeroValue3 }
end Go.Proofs.Yteljkdihlklliaa
/- A slice of structs that the call owns, ahead of the library's sort and behind it. Plain laws on worlds. -/
namespace Go.Proofs.Yteljkdihlklliaa
open Go Go.RowKit Go.Sort Go.Proofs
set_option maxHeartbeats 400000
section
variable {α : Type} [Inhabited α] {enc : α → List Value} {k : Nat}
theorem flatK_list (hk : ∀ x, (enc x).length = k) (l : List α) : flatK enc k l.toArray = (l.flatMap enc).toArray := by
  refine ext_get! (by simp [flat_length hk]) fun t ht => ?_
  have ht' : t < l.length * k := by simpa using ht
  have k0 : 0 < k := by
    rcases Nat.eq_zero_or_pos k with h | h
    · subst h; simp at ht'
    · exact h
  have hq : t / k < l.length := (Nat.div_lt_iff_lt_mul k0).2 ht'
  have hm : t % k < k := Nat.mod_lt _ k0
  rw [get_flatK enc k _ t (by simpa using ht')]
  have e1 : l.toArray[t / k]! = l[t / k] := by simp [hq]
  have h := flat_get hk l (t / k) (t % k) l[t / k] (List.getElem?_eq_getElem hq) hm
  rw [show t / k * k + t % k = t by rw [Nat.mul_comm]; exact Nat.div_add_mod t k] at h
  rw [e1]
  have e2 : (l.flatMap enc).toArray[t]! = (l.flatMap enc)[t]! := by simp
  rw [e2, List.getElem!_eq_getElem?_getD, List.getElem!_eq_getElem?_getD, h]
theorem holdsK_own (hk : ∀ x, (enc x).length = k) {w : World} {base : Nat} {e : TypeId} {g cap : Nat} {l : List α} (h : w.ownsRow base e k (.slice (some ⟨g, 0, none⟩) l.length cap) l.length (l.flatMap enc)) : HoldsK enc k w g 0 l.toArray := by
  obtain ⟨hl, ⟨hv, _⟩ | ⟨g', cap', cur, hv, hbase, hb, h1, h2, h3, h4⟩⟩ := h
  · cases hv
  · injection hv with e1 _ _
    injection e1 with e1
    injection e1 with e1
    subst e1
    unfold HoldsK Holds
    rw [flatK_list hk]
    intro j hj
    have hj' : j < (l.flatMap enc).length := by simpa using hj
    refine ⟨?_, by simp [World.frozen?, hb]⟩
    have hjl : j < l.length * k := by rw [← hl]; exact hj'
    have e2 : (cur.toList.take (l.length * k))[j]? = (l.flatMap enc)[j]? := by rw [h4]
    rw [List.getElem?_take_of_lt hjl] at e2
    simp only [World.cell?, hb, Nat.zero_add]
    simp only [Option.isSome_none, Bool.false_eq_true, if_false]
    rw [← Array.getElem?_toList, e2]
    have e3 := List.getElem?_eq_getElem hj'
    simp [e3]
theorem heap_sortedK {w : World} {g n : Nat} {os : Array Obj} {cur : Array Value} {e : TypeId} {fr : Nat × Nat} (F : Array Value) (hb : w.heap[g]? = some (.cells cur e fr)) :
    (grow (putRow id (Sort.ahead w n) g 0 F) os).heap[g]? = some (.cells (putCells id 0 F cur) e fr) := by
  have hg : g < w.heap.size := (Array.getElem?_eq_some_iff.1 hb).1
  rw [heap_grow_old _ _ (by simpa using hg)]
  simp [putRow, mapBlock, Sort.ahead, Array.getElem?_modify, hb, onCells]
theorem grownBy_sortedK {w : World} {g n : Nat} {os : Array Obj} (F : Array Value) : w.grownBy (grow (putRow id (Sort.ahead w n) g 0 F) os) (some g) := by
  refine ⟨rfl, rfl, rfl, by simp, fun k hk hne => ?_⟩
  rw [heap_grow_old _ _ (by simpa using hk)]
  have : g ≠ k := fun e => hne (by rw [e])
  simp [putRow, mapBlock, Sort.ahead, Array.getElem?_modify, this]
theorem take_putCellsK (cur : Array Value) (F : List Value) (h : F.length ≤ cur.size) : (putCells id 0 F.toArray cur).toList.take F.length = F := by
  apply List.ext_getElem?
  intro j
  by_cases hj : j < F.length
  · rw [List.getElem?_take_of_lt hj, Array.getElem?_toList]
    simp [putCells, hj, show j < cur.size by omega]
  · rw [List.getElem?_take_eq_none (by omega), List.getElem?_eq_none (by omega)]
/-- behind the sort: the same slice owns the sorted things -/
theorem own_sortedK (hk : ∀ x, (enc x).length = k) {w : World} {base : Nat} {e : TypeId} {g cap n : Nat} {os : Array Obj} {l l' : List α} (hl : l'.length = l.length) (h : w.ownsRow base e k (.slice (some ⟨g, 0, none⟩) l.length cap) l.length (l.flatMap enc)) :
    (sortWorldK enc k w g 0 n l'.toArray os).ownsRow base e k (.slice (some ⟨g, 0, none⟩) l.length cap) l.length (l'.flatMap enc) ∧ w.grownBy (sortWorldK enc k w g 0 n l'.toArray os) (some g) := by
  have hw : sortWorldK enc k w g 0 n l'.toArray os = grow (putRow id (Sort.ahead w n) g 0 (l'.flatMap enc).toArray) os := by
    unfold sortWorldK putRowK
    rw [flatK_list hk]
  rw [hw]
  obtain ⟨hl0, ⟨hv, _⟩ | ⟨g', cap', cur, hv, hbase, hb, h1, h2, h3, h4⟩⟩ := h
  · cases hv
  · injection hv with e1 _ e3
    injection e1 with e1
    injection e1 with e1
    subst e1
    subst e3
    have hfl : (l'.flatMap enc).length = l.length * k := by rw [flat_length hk, hl]
    refine ⟨⟨hfl, .inr ⟨g, cap, _, rfl, hbase, heap_sortedK _ hb, h1, h2, by simp [putCells, h3], ?_⟩⟩, grownBy_sortedK _⟩
    rw [← hfl]
    exact take_putCellsK cur _ (by rw [hfl, h3]; exact Nat.mul_le_mul_right k h1)
end
end Go.Proofs.Yteljkdihlklliaa
/- The sort of downtracks by who is sent them: its closure, and slices.SortFunc at it, a slice that the call owns. No condition. -/
namespace Go.Proofs.Yteljkdihlklliaa
open Go Go.RowKit Go.Sort Go.Shelf Go.Lib Go.Proofs
set_option maxHeartbeats 400000
instance : Inhabited Dn := ⟨zDn⟩
def cfD (a b : Dn) : Int := Lib.compareInt a.who b.who
theorem ltD (x y : Dn) : ltOf cfD x y = decide (x.who < y.who) := by
  unfold ltOf cfD Lib.compareInt
  by_cases h1 : x.who < y.who
  · simp [h1]
  · by_cases h2 : y.who < x.who <;> simp [h1, h2]
theorem swoD : SWO (ltOf cfD) where
  irrefl x := by rw [ltD]; simp
  trans x y z h1 h2 := by rw [ltD] at *; simp at *; omega
  ntrans x y z h1 h2 := by rw [ltD] at *; simp at *; omega
set_option maxRecDepth 100000 in
set_option maxHeartbeats 1000000 in
theorem closureD (x y : Dn) (W : World) : Calls Try.prog 24 #[.agg (encDn x).toArray, .agg (encDn y).toArray] W fun e w' => e = .returned (.int .i64 (cfD x y)) ∧ ∃ q os', w' = grow (W.drewN q) os' := by
  have hcon := fun W' => AnyG.cmp_Compare_int cmpInt x.who y.who W'
  change ∀ W', Calls Try.prog 25 _ _ _ at hcon
  unfold cfD
  generalize Lib.compareInt x.who y.who = r at hcon ⊢
  obtain ⟨x0, x1, x2, x3, x4, x5, x6, x7, x8, x9⟩ := x
  obtain ⟨y0, y1, y2, y3, y4, y5, y6, y7, y8, y9⟩ := y
  unfold encDn
  dsimp only [List.toArray] at hcon ⊢
  go_enter Try.func24, Try.ntmps24
  go_wp2_with (go_at_call 25; refine (hcon _).mono ?_; rintro e w' ⟨rfl, rfl⟩)
  go_ret
  exact ⟨rfl, 0, _, by rw [alloc_eq_grow, alloc_eq_grow, grow_grow]; rfl⟩
theorem permIn_list {d d' : Array Dn} (h : PermIn 0 d.size d d') : d'.toList.Perm d.toList := by
  obtain ⟨hs, _, hp⟩ := h
  have e1 : d'.extract 0 d.size = d' := by rw [← hs]; simp
  have e2 : d.extract 0 d.size = d := by simp
  rwa [e1, e2] at hp
theorem sortedIn_list {d' : Array Dn} {n : Nat} (hn : d'.size = n) (h : SortedIn (ltOf cfD) 0 n d') : d'.toList.Pairwise (fun a b => a.who ≤ b.who) := by
  refine List.pairwise_iff_getElem.2 fun i j hi hj hij => ?_
  have hi' : i < d'.size := by simpa using hi
  have hj' : j < d'.size := by simpa using hj
  have := h i j (Nat.zero_le _) hij (by omega)
  rw [ltD, getElem!_pos d' i hi', getElem!_pos d' j hj'] at this
  have := of_decide_eq_false this
  simpa using this
/-- slices.SortFunc at a slice of downtracks that the call owns -/
theorem sort_any {w : World} {base : Nat} {A : Option Addr} {cap : Nat} {l : List Dn} (h : w.ownsRow base 41 10 (.slice A l.length cap) l.length (l.flatMap encDn)) (hl : l.length ≤ 100000) (fv : Value) (hfv : fv = .func (.func 24) #[] #[]) :
    Calls Try.prog 23 #[.slice A l.length cap, fv] w fun e w' => e = .returned (.tuple #[]) ∧ ∃ l' : List Dn, l'.Perm l ∧ l'.Pairwise (fun a b => a.who ≤ b.who) ∧
      w'.ownsRow base 41 10 (.slice A l.length cap) l.length (l'.flatMap encDn) ∧ w.grownBy w' (Value.slice A l.length cap).ownBlock := by
  subst hfv
  by_cases h0 : l.length = 0
  · have hl0 : l = [] := List.eq_nil_of_length_eq_zero h0
    subst hl0
    have hc := AnyF.slices_SortFunc_none sortDn A cap (.func (.func 24) #[] #[]) w
    refine Calls.mono hc ?_
    rintro e w' ⟨rfl, rfl⟩
    exact ⟨rfl, [], List.Perm.nil, List.Pairwise.nil, h, ⟨rfl, rfl, rfl, Nat.le_refl _, fun _ _ _ => rfl⟩⟩
  · rcases h.2 with ⟨hv, hn⟩ | ⟨g, cap', cur, hv, hbase, hb, h1, h2, h3, h4⟩
    · exact absurd hn h0
    injection hv with e1 e2 e3
    subst e1
    have hH := holdsK_own (enc := encDn) (k := 10) (fun _ => rfl) h
    have hg : g < w.heap.size := (Array.getElem?_eq_some_iff.1 hb).1
    have eg : ∀ args w, (callFunc 24 args).run Try.prog w = .ok (.enter 24 args) w := enters_of Try.func24 (by kernel_rfl) rfl
    have hc := AnyQ.slices_SortFunc sortDn 10 Try.isAgg41 Try.sizeOf41 encDn (fun _ => rfl) (fun x v hv => by simp [encDn] at hv; rcases hv with rfl | rfl | rfl | rfl | rfl | rfl | rfl | rfl | rfl | rfl <;> rfl) cfD swoD 24 #[] g 0 cap l.toArray w eg
      (fun _ _ _ _ x y => closureD x y _) hH hg (by simp; omega)
    have e0 : l.toArray.size = l.length := by simp
    rw [e0] at hc
    refine Calls.mono hc ?_
    rintro e w' ⟨rfl, d', n, os, hp, hs, rfl⟩
    have hsz : d'.size = l.length := by have := hp.1; simpa using this
    have hpl : d'.toList.Perm l := by
      have := permIn_list (d := l.toArray) (d' := d') (by rw [e0]; exact hp)
      simpa using this
    have hd : d' = d'.toList.toArray := by simp
    have ho := own_sortedK (enc := encDn) (k := 10) (fun _ => rfl) (n := n) (os := os) (l := l) (l' := d'.toList) (by rw [Array.length_toList, hsz]) h
    rw [← hd] at ho
    exact ⟨rfl, d'.toList, hpl, sortedIn_list hsz hs, ho.1, ho.2⟩
end Go.Proofs.Yteljkdihlklliaa
/- What a table tells: Downs, by a range over a map, in whatever order, and a sort. Condition: a table, or nil. -/
namespace Go.Proofs.Yteljkdihlklliaa
open Go Go.RowKit Go.Maps
set_option maxHeartbeats 400000
theorem infoDn : (Try.prog.info? 41).map (fun i => (i.zero, i.size, i.bytes)) = some (some (.agg #[.int .u32 0, .int .i64 0, .int .u32 0, .int .i64 0, .int .i64 0, .int .i64 0, .int .i64 0, .int .i64 0, .int .i64 0, .bool false]), 10, 80) := by kernel_rfl
theorem app_updT {w W w' : World} {N : Nat} {e : TypeId} {size n : Nat} {v : Value} {xs : List Value} (u : Upd [] w W) (ho : W.ownsRow N e size v n xs) (g : W.grownBy w' v.ownBlock) (hN : w.heap.size ≤ N) : Upd [] w w' :=
  Upd.of_below ((u.below (Nat.le_refl _) (by simp)).trans ((Upd.of_grown g).below u.size (fun s hs => Nat.le_trans hN (own_block_lt ho (by simpa using hs)).1)))
theorem blk_srcT {w : World} {g : Nat} {t : TypeId} {xs : List Value} (h : Blk w g t xs.toArray) : ∀ (j : Nat) (u : Value), xs[j]? = some u → w.cell? ((⟨g, 0, none⟩ : Addr).add j) = some u := by
  intro j u hj
  have := h.cell j
  rw [List.getElem?_toArray, hj] at this
  unfold Addr.add
  by_cases hj0 : j = 0
  · subst hj0; simpa using this
  · simpa [hj0] using this
theorem oneDn (a : Dn) : ∀ u ∈ encDn a, u.oneCell' = true := by
  intro u hu
  simp [encDn] at hu
  rcases hu with rfl | rfl | rfl | rfl | rfl | rfl | rfl | rfl | rfl | rfl <;> rfl
set_option maxRecDepth 100000 in
set_option maxHeartbeats 4000000 in
theorem downs_any {w : World} {N : Nat} {v : Value} {ep : Int} {rs : List Rt} {ds : List Dn} (h : IsTb w N v ep rs ds) (hl : ds.length ≤ 1000) {t : Int} :
    Calls Try.prog 18 #[v, .int .i64 t] w fun e w' => ∃ v2, e = .returned v2 ∧ w'.ownsRow w.heap.size 41 10 v2 (downsM t ds).length ((downsM t ds).flatMap encDn) ∧ Upd [] w w' := by
  rcases h with ⟨rfl, -, -, rfl⟩ | ⟨T, mr, md, rfl, h, -, hmd⟩
  · go_enter Try.func18, Try.ntmps18
    go_wp2
    refine bodyPost_res (v := .slice none 0 0) (by simp [results, Try.results18, go_sem]) rfl ?_
    first
      | exact ⟨_, rfl, World.ownsRow_nil _ _ _ _, Upd.refl _ _⟩
      | exact ⟨World.ownsRow_nil _ _ _ _, Upd.refl _ _⟩
  obtain ⟨j0, hj0, hy0, hy1, hy2⟩ := info_parts infoDn
  have t2 : w.cell? ⟨T, 2, none⟩ = some (.map (some md)) := h.blk.cell 2
  have HRT := Lib.hid h.dn
  have HM := Lib.hid hmd
  obtain ⟨D, hD⟩ : ∃ D, D = tab kDn vDn ds := ⟨_, rfl⟩
  rw [← hD] at HRT
  have HD := Lib.hid hD
  obtain ⟨n, hn⟩ : ∃ n, n = ds.length := ⟨_, rfl⟩
  rw [← hn] at HRT hl
  have HSZ : Hid (Maps.size D ≤ n) := Lib.hid HRT.out.size_le
  have HLT0 : Hid (md < w.heap.size) := Lib.hid HRT.out.lt
  obtain ⟨R, hR⟩ : ∃ R, R = w.heap.size := ⟨_, rfl⟩
  have HRS := Lib.hid hR
  clear h hmd hD hn
  go_enter Try.func18, Try.ntmps18
  go_wp2_with (at_range; refine wpList_range_own _ rfl _ 64 rfl 25 41 keyedU Try.underlying64 rV md n D rfl HRT.out ?_; intro w0 hrg0 hg0 hs0)
  go_frame
  rw [← hR] at hrg0 ⊢
  clear hR hs0 t2
  have HRG := Lib.hid hrg0
  have HU0 : Hid (Upd [] w w0) := Lib.hid (Upd.of_grown hg0)
  clear hrg0 hg0
  go_loopg [5] (Maps.size D) (fun gk x5 wr => ∃ (left : Lit → Bool) (cnt : Nat) (out : List Dn), wr.ranges Try.prog 25 rV md R n D left cnt ∧ cnt ≤ gk ∧ wr.ownsRow w.heap.size 41 10 x5 out.length (out.flatMap encDn) ∧
      (∀ x, x ∈ out ↔ x ∈ ds ∧ x.track = t ∧ left (kDn x) = false) ∧ out.Nodup ∧ out.length + cnt ≤ n ∧ Upd [] w wr)
  case atStart =>
    refine ⟨_, _, [], HRG.out, Nat.le_refl _, World.ownsRow_nil _ _ _ _, fun x => ?_, List.nodup_nil, by simpa using HSZ.out, HU0.out⟩
    constructor
    · intro hx; cases hx
    · rintro ⟨h1, -, h3⟩
      rw [HD.out, ((tab_cnt (k := kDn) (v := vDn) key_all ds).has_iff _).2 (List.mem_map.2 ⟨x, h1, rfl⟩)] at h3
      cases h3
  case round =>
    obtain ⟨left, cnt, out, hrg, hcg, hown, hmem, hnd, hlc, hu⟩ := hrel
    obtain ⟨Av, cv, hve, -⟩ := own_form hown
    subst hve
    have HMEM := Lib.hid hmem
    have HND := Lib.hid hnd
    have HU := Lib.hid hu
    have HCG := Lib.hid (And.intro hcg hlc)
    have HOW := Lib.hid hown
    clear HRG HU0 hmem hnd hu hcg hown
    go_wp2_with (at_next; refine wpList_next_ranges _ rfl _ rfl 25 keyedU rV (Value.int .u32) id invU invV md R n D left cnt rfl hrg ?_ ?_)
    · intro _ hl0
      have HEND : Hid (∀ x, x ∈ out ↔ x ∈ ds ∧ x.track = t) := Lib.hid (fun x => by rw [HMEM.out]; simp [hl0])
      have hol : out.length ≤ 100000 := by have := HCG.out.2; omega
      have HSO := Lib.hid (sort_any HOW.out hol _ rfl)
      clear hl0 hrg hol
      go_wp2_with fail
      refine HSO.out.mono ?_
      rintro _ w2 ⟨rfl, l', hp, hs, hown2, hg2⟩
      have he : l' = downsM t ds := downs_sorted HM.out.who (fun x => by rw [hp.mem_iff]; exact HEND.out x) (hp.nodup_iff.2 HND.out) hs
      have hle : (downsM t ds).length = out.length := by rw [← he]; exact hp.length_eq
      have HFIN : Hid (w2.ownsRow w.heap.size 41 10 (.slice Av out.length cv) (downsM t ds).length ((downsM t ds).flatMap encDn) ∧ Upd [] w w2) := Lib.hid (by
        rw [hle, ← he]
        exact ⟨hown2, app_updT HU.out HOW.out hg2 (Nat.le_refl _)⟩)
      clear hp hs hown2 hg2 he hle HSO
      go_wp2
      refine bodyPost_res (v := .slice Av out.length cv) (by simp [results, Try.results18, go_sem]) rfl ?_
      first
        | exact ⟨_, rfl, HFIN.out⟩
        | exact HFIN.out
    · intro x c kl yd yp w1 cnt1 hkey hlk hv hat hrg1 hlt hg1 hs1 hen
      rw [HD.out] at hat
      obtain ⟨a, ha, rfl, rfl, rfl⟩ := entry_is (y := (yd, yp)) (f := Dn.ssrc) (v := vDn) HM.out.one hkey hv hat
      have HU1 := Lib.hid (upd_grown HU.out hg1 (by rw [HRS.out]; exact Nat.le_refl _))
      have HR1 := Lib.hid hrg1
      have HOW1 := Lib.hid (HOW.out.kept hg1 (.inr (fun e => row_ne_iter HOW.out hrg e.symm)))
      have HA := Lib.hid ha
      have HLT := Lib.hid hlt
      have HLK := Lib.hid hlk
      unfold vDn encDn at hen
      dsimp only [id, List.toArray] at hen
      clear hkey hlk hv hat hrg1 hlt hg1 hs1 hrg ha HOW
      go_upto_region 7 with fail
      obtain ⟨rb, hrb⟩ : ∃ k, k = w1.heap.size := ⟨_, rfl⟩
      obtain ⟨W, hW⟩ : ∃ z, z = w1.alloc (.cells #[.int .u32 a.ssrc, .int .i64 a.slot, .int .u32 a.turn, .int .i64 a.who, .int .i64 a.track, .int .i64 a.shard, .int .i64 a.src, .int .i64 a.layer, .int .i64 a.tid, .bool a.muted] 41) := ⟨_, rfl⟩
      rw [← hW, ← hrb]
      have hbr : Blk W rb 41 #[.int .u32 a.ssrc, .int .i64 a.slot, .int .u32 a.turn, .int .i64 a.who, .int .i64 a.track, .int .i64 a.shard, .int .i64 a.src, .int .i64 a.layer, .int .i64 a.tid, .bool a.muted] := by rw [hW, hrb]; exact Blk.new _ _ _
      have HR2 : Hid (W.ranges Try.prog 25 rV md R n D (fun z => left z && !z.sameKey (kU a.ssrc)) cnt1) := Lib.hid (by rw [hW]; exact HR1.out.alloc _)
      have HU2 : Hid (Upd [] w W) := Lib.hid (by rw [hW]; exact HU1.out.alloc _)
      have HOW2 : Hid (W.ownsRow w.heap.size 41 10 (.slice Av out.length cv) out.length (out.flatMap encDn)) := Lib.hid (by rw [hW]; exact HOW1.out.alloc _)
      have HBR := Lib.hid hbr
      have r4 : W.cell? ⟨rb, 4, none⟩ = some (.int .i64 a.track) := hbr.cell 4
      have HLF : Hid (∀ x, x ∈ ds → ((left (kDn x) && !(kDn x).sameKey (kU a.ssrc)) = false ↔ left (kDn x) = false ∨ x = a)) := Lib.hid (fun x hx => by
        have hsk : (kDn x).sameKey (kU a.ssrc) = true ↔ x = a := by
          constructor
          · intro h
            exact HM.out.one.mem hx HA.out (kU_inj (WideAt.sameKey_eq h))
          · rintro rfl
            exact WideAt.sameKey_self trivial
        cases hq : left (kDn x) <;> simp [hsk])
      clear hbr hW hrb HR1 HU1 HOW1 hen
      by_cases k1 : a.track = t
      · have hb1 : (a.track == t) = true := by simp [k1]
        have HK := Lib.hid k1
        clear k1
        go_upto_region 8 with fail
        have z0 : W.cell? ⟨rb, 0, none⟩ = some (.int .u32 a.ssrc) := HBR.out.cell 0
        have z1 : W.cell? ⟨rb, 1, none⟩ = some (.int .i64 a.slot) := HBR.out.cell 1
        have z2 : W.cell? ⟨rb, 2, none⟩ = some (.int .u32 a.turn) := HBR.out.cell 2
        have z3 : W.cell? ⟨rb, 3, none⟩ = some (.int .i64 a.who) := HBR.out.cell 3
        have z4 : W.cell? ⟨rb, 4, none⟩ = some (.int .i64 a.track) := HBR.out.cell 4
        have z5 : W.cell? ⟨rb, 5, none⟩ = some (.int .i64 a.shard) := HBR.out.cell 5
        have z6 : W.cell? ⟨rb, 6, none⟩ = some (.int .i64 a.src) := HBR.out.cell 6
        have z7 : W.cell? ⟨rb, 7, none⟩ = some (.int .i64 a.layer) := HBR.out.cell 7
        have z8 : W.cell? ⟨rb, 8, none⟩ = some (.int .i64 a.tid) := HBR.out.cell 8
        have z9 : W.cell? ⟨rb, 9, none⟩ = some (.bool a.muted) := HBR.out.cell 9
        have HOA : Hid ((W.alloc (.cells #[.int .u32 a.ssrc, .int .i64 a.slot, .int .u32 a.turn, .int .i64 a.who, .int .i64 a.track, .int .i64 a.shard, .int .i64 a.src, .int .i64 a.layer, .int .i64 a.tid, .bool a.muted] 41)).ownsRow w.heap.size 41 10 (.slice Av out.length cv) out.length (out.flatMap encDn)) := Lib.hid (HOW2.out.alloc _)
        have HU3 : Hid (Upd [] w (W.alloc (.cells #[.int .u32 a.ssrc, .int .i64 a.slot, .int .u32 a.turn, .int .i64 a.who, .int .i64 a.track, .int .i64 a.shard, .int .i64 a.src, .int .i64 a.layer, .int .i64 a.tid, .bool a.muted] 41))) := Lib.hid (HU2.out.alloc _)
        have HR3 : Hid ((W.alloc (.cells #[.int .u32 a.ssrc, .int .i64 a.slot, .int .u32 a.turn, .int .i64 a.who, .int .i64 a.track, .int .i64 a.shard, .int .i64 a.src, .int .i64 a.layer, .int .i64 a.tid, .bool a.muted] 41)).ranges Try.prog 25 rV md R n D (fun z => left z && !z.sameKey (kU a.ssrc)) cnt1) := Lib.hid (HR2.out.alloc _)
        have HNEW := Lib.hid (blk_srcT (Blk.new W 41 #[.int .u32 a.ssrc, .int .i64 a.slot, .int .u32 a.turn, .int .i64 a.who, .int .i64 a.track, .int .i64 a.shard, .int .i64 a.src, .int .i64 a.layer, .int .i64 a.tid, .bool a.muted]))
        have HONE : Hid (∀ u ∈ ([.int .u32 a.ssrc, .int .i64 a.slot, .int .u32 a.turn, .int .i64 a.who, .int .i64 a.track, .int .i64 a.shard, .int .i64 a.src, .int .i64 a.layer, .int .i64 a.tid, .bool a.muted] : List Value), u.oneCell' = true) := Lib.hid (oneDn a)
        have hol : out.length ≤ 1000 := by have := HCG.out.2; omega
        clear HR2 HU2 HOW2 HBR r4
        go_wp2_with (at_builtin; refine wpList_append_own_at _ rfl (.tmp 23) (.tmp 25) 24 rfl w.heap.size 41 j0 _ 10 80 Try.underlying24 hj0 hy0 hy1 hy2 rfl (by decide) (.slice Av out.length cv) out.length (out.flatMap encDn) rfl HOA.out ⟨W.heap.size, 0, none⟩ 1 1 [.int .u32 a.ssrc, .int .i64 a.slot, .int .u32 a.turn, .int .i64 a.who, .int .i64 a.track, .int .i64 a.shard, .int .i64 a.src, .int .i64 a.layer, .int .i64 a.tid, .bool a.muted] rfl rfl HNEW.out HONE.out (by unfold maxLen; omega) (by omega) HU3.out.size ?_)
        intro v8 w8 hown8 hg8 _ hat8
        have HREL : Hid (w8.ownsRow w.heap.size 41 10 v8 (out ++ [a]).length ((out ++ [a]).flatMap encDn)) := Lib.hid (by
          rw [List.flatMap_append, List.length_append]
          have e : [a].flatMap encDn = encDn a := by simp
          rw [e]
          exact hown8)
        have HR8 := Lib.hid (HR3.out.kept hg8 (fun e => by have := row_ne_low HOA.out HLT0.out; exact this e) (row_ne_iter HOA.out HR3.out))
        have HU8 := Lib.hid (app_updT HU3.out HOA.out hg8 (Nat.le_refl _))
        obtain ⟨A8, c8, hv8, -⟩ := own_form hown8
        subst hv8
        clear hown8 hg8 hat8 HOA HU3 HR3 HNEW z0 z1 z2 z3 z4 z5 z6 z7 z8 z9
        go_wp2
        go_roundg (gk - 1)
        case measure => have := HCG.out; have := HLT.out; omega
        case rel =>
          refine ⟨_, _, out ++ [a], HR8.out, by have := HCG.out; have := HLT.out; omega, by rw [List.length_append] at HREL ⊢; exact HREL.out, fun x => ?_, ?_, ?_, HU8.out⟩
          · rw [List.mem_append, List.mem_singleton, HMEM.out]
            constructor
            · rintro (⟨h1, h2, h3⟩ | rfl)
              · exact ⟨h1, h2, (HLF.out x h1).2 (.inl h3)⟩
              · exact ⟨HA.out, HK.out, (HLF.out x HA.out).2 (.inr rfl)⟩
            · rintro ⟨h1, h2, h3⟩
              rcases (HLF.out x h1).1 h3 with h | h
              · exact .inl ⟨h1, h2, h⟩
              · exact .inr h
          · refine List.nodup_append.2 ⟨HND.out, by simp, fun x hx y hy => ?_⟩
            rw [List.mem_singleton] at hy
            subst hy
            rintro rfl
            have h3 := ((HMEM.out x).1 hx).2.2
            have h4 := HLK.out
            rw [show kDn x = kU x.ssrc from rfl, h4] at h3
            cases h3
          · rw [List.length_append, List.length_singleton]
            have := HCG.out.2
            have := HLT.out
            omega
      · have hb1 : (a.track == t) = false := beq_eq_false_iff_ne.2 k1
        have HK := Lib.hid k1
        clear k1
        go_wp2
        go_roundg (gk - 1)
        case measure => have := HCG.out; have := HLT.out; omega
        case rel =>
          refine ⟨_, _, out, HR2.out, by have := HCG.out; have := HLT.out; omega, HOW2.out, fun x => ?_, HND.out, by have := HCG.out.2; have := HLT.out; omega, HU2.out⟩
          rw [HMEM.out]
          constructor
          · rintro ⟨h1, h2, h3⟩
            exact ⟨h1, h2, (HLF.out x h1).2 (.inl h3)⟩
          · rintro ⟨h1, h2, h3⟩
            rcases (HLF.out x h1).1 h3 with h | h
            · exact ⟨h1, h2, h⟩
            · subst h; exact absurd h2 HK.out
end Go.Proofs.Yteljkdihlklliaa
/- The laws' 'awake': the document's example. No condition. -/
namespace Go.Proofs.Yteljkdihlklliaa
open Go Go.RowKit Go.Maps
set_option maxHeartbeats 400000
def rA : Rt := ⟨5, 1, 0, 0, 0⟩
def dA : Dn := ⟨2147483648, 0, 0, 9, 1, 0, 0, 0, 0, false⟩
def dB : Dn := ⟨2147483649, 1, 0, 4, 1, 0, 0, 0, 0, false⟩
theorem CellsIn.of_blk {w : World} {g : Nat} {e : TypeId} {size n : Nat} {xs : List Value} (h : Blk w g e xs.toArray) (hl : xs.length = n * size) : CellsIn w 0 w.heap.size size (some ⟨g, 0, none⟩) n xs :=
  ⟨hl, fun _ => ⟨g, 0, rfl, Nat.zero_le _, h.lt, fun j u hj => by
    rw [Nat.zero_add, h.cell j]
    simpa using hj⟩⟩
theorem mayA : MayR [rA] ∧ MayD [dA, dB] :=
  ⟨⟨fun r hr => by simp at hr; subst hr; decide, by unfold Uniq; decide, by unfold Uniq; decide⟩,
   ⟨fun d hd => by simp at hd; rcases hd with rfl | rfl <;> decide, by unfold Uniq; decide, by unfold Uniq; decide, by unfold Uniq; decide⟩⟩
theorem downsA : downsM 1 [dA, dB] = [dB, dA] := rfl
set_option maxRecDepth 100000 in
set_option maxHeartbeats 4000000 in
theorem awake_any (w : World) : Calls Try.prog 7 #[] w fun e w' => e = .returned (.bool true) ∧ Upd [] w w' := by
  obtain ⟨g1, hg1⟩ : ∃ g, g = w.heap.size := ⟨_, rfl⟩
  obtain ⟨g2, hg2⟩ : ∃ g, g = w.heap.size + 1 := ⟨_, rfl⟩
  obtain ⟨w1, hw1⟩ : ∃ z, z = w.alloc (.cells #[.int .u32 5, .int .i64 1, .int .i64 0, .int .i64 0, .int .i64 0] 37) := ⟨_, rfl⟩
  obtain ⟨W, hW⟩ : ∃ z, z = w1.alloc (.cells #[.int .u32 2147483648, .int .i64 0, .int .u32 0, .int .i64 9, .int .i64 1, .int .i64 0, .int .i64 0, .int .i64 0, .int .i64 0, .bool false, .int .u32 2147483649, .int .i64 1, .int .u32 0, .int .i64 4, .int .i64 1, .int .i64 0, .int .i64 0, .int .i64 0, .int .i64 0, .bool false] 41) := ⟨_, rfl⟩
  have s1 : w1.heap.size = g2 := by rw [hw1, World.size_alloc, hg2]
  have u2 : Upd [] w1 W := by rw [hW]; exact (Upd.refl [] w1).alloc _
  have hb1 : CellsIn W 0 W.heap.size 5 (some ⟨g1, 0, none⟩) [rA].length ([rA].flatMap encRt) := CellsIn.of_blk (e := 37) (by
    have : Blk w1 g1 37 #[.int .u32 5, .int .i64 1, .int .i64 0, .int .i64 0, .int .i64 0] := by rw [hw1, hg1]; exact Blk.new _ _ _
    exact this.upd u2 (by simp)) rfl
  have hb2 : CellsIn W 0 W.heap.size 10 (some ⟨g2, 0, none⟩) [dA, dB].length ([dA, dB].flatMap encDn) := CellsIn.of_blk (e := 41) (by
    show Blk W g2 41 #[.int .u32 2147483648, .int .i64 0, .int .u32 0, .int .i64 9, .int .i64 1, .int .i64 0, .int .i64 0, .int .i64 0, .int .i64 0, .bool false, .int .u32 2147483649, .int .i64 1, .int .u32 0, .int .i64 4, .int .i64 1, .int .i64 0, .int .i64 0, .int .i64 0, .int .i64 0, .bool false]
    rw [hW, ← s1]
    exact Blk.new _ _ _) rfl
  have HU : Hid (Upd [] w W) := Lib.hid (Upd.next (by rw [hw1]; exact (Upd.refl [] w).alloc _) u2)
  have HMK := Lib.hid (make_any (w := W) (ca := 1) (cb := 2) 3 hb1 hb2 (fun r hr => by simp at hr; subst hr; exact ⟨⟨by decide, by decide⟩, ⟨by decide, by decide⟩, ⟨by decide, by decide⟩, ⟨by decide, by decide⟩, ⟨by decide, by decide⟩⟩)
    (fun d hd => by simp at hd; rcases hd with rfl | rfl <;> exact ⟨⟨by decide, by decide⟩, ⟨by decide, by decide⟩, ⟨by decide, by decide⟩, ⟨by decide, by decide⟩, ⟨by decide, by decide⟩, ⟨by decide, by decide⟩, ⟨by decide, by decide⟩, ⟨by decide, by decide⟩, ⟨by decide, by decide⟩⟩) (by decide) (by decide))
  clear hb1 hb2 u2 s1
  go_enter Try.func7, Try.ntmps7
  go_wp2_with fail
  rw [← hw1, ← hg2, ← hW, ← hg1]
  refine HMK.out.mono ?_
  rintro e w2 ⟨hu, ⟨-, T, mr, md, rfl, hist⟩ | ⟨hno, -⟩⟩
  rotate_left
  · exact absurd mayA hno
  obtain ⟨N, hN⟩ : ∃ N, N = W.heap.size := ⟨_, rfl⟩
  have HTB : Hid (IsTb w2 N (.pointer (some ⟨T, 0, none⟩)) 3 [rA] [dA, dB]) := Lib.hid (.inr ⟨T, mr, md, rfl, by rw [hN]; exact hist, mayA⟩)
  have HU2 := Lib.hid (HU.out.next hu)
  have HDW := Lib.hid (downs_any (t := 1) HTB.out (by decide))
  rw [downsA] at HDW
  clear hu hist HMK hN hw1 hg2 hW hg1
  go_wp2_with fail
  refine HDW.out.mono ?_
  rintro _ w3 ⟨v3, rfl, hown, hu3⟩
  obtain ⟨A3, c3, hv3, -, hA3, -⟩ := own_form hown
  subst hv3
  obtain ⟨g, rfl, -, hg3⟩ := hA3 (by decide)
  have q1 : w3.cell? ⟨g, 3, none⟩ = some (.int .i64 4) := by simpa [Addr.add] using hown.cells (g := g) rfl 3 (.int .i64 4) rfl
  have q2 : w3.cell? ⟨g, 13, none⟩ = some (.int .i64 9) := by simpa [Addr.add] using hown.cells (g := g) rfl 13 (.int .i64 9) rfl
  have HTB3 := Lib.hid (HTB.out.upd hu3)
  have HU3 := Lib.hid (HU2.out.next hu3)
  have HRO := Lib.hid (route_any HTB3.out (s := 5) ⟨by decide, by decide⟩)
  rw [show routeM [rA] 5 = some rA from rfl] at HRO
  have HQ := Lib.hid (And.intro q1 (And.intro q2 hg3))
  clear hown hu3 HDW HTB q1 q2 hg3
  simp only [Option.getD_some, Option.isSome_some, encRt, rA] at HRO
  go_wp2_with fail
  refine HRO.out.mono ?_
  rintro _ w4 ⟨rfl, hu4⟩
  obtain ⟨b4, hb4⟩ : ∃ b, b = w4.heap.size := ⟨_, rfl⟩
  obtain ⟨w5, hw5⟩ : ∃ z, z = w4.alloc (.cells #[.int .u32 5, .int .i64 1, .int .i64 0, .int .i64 0, .int .i64 0] 37) := ⟨_, rfl⟩
  have hu5 : Upd [] w3 w5 := hu4.next (by rw [hw5]; exact (Upd.refl [] w4).alloc _)
  have HB5 : Hid (Blk w5 b4 37 #[.int .u32 5, .int .i64 1, .int .i64 0, .int .i64 0, .int .i64 0]) := Lib.hid (by rw [hw5, hb4]; exact Blk.new _ _ _)
  have HU5 := Lib.hid (HU3.out.next hu5)
  have HTB5 := Lib.hid (HTB3.out.upd hu5)
  have HQ5 : Hid (w5.cell? ⟨g, 3, none⟩ = some (.int .i64 4) ∧ w5.cell? ⟨g, 13, none⟩ = some (.int .i64 9) ∧ g < w5.heap.size) := Lib.hid ⟨(hu5.cell (p := ⟨g, 3, none⟩) HQ.out.2.2 (by simp)).trans HQ.out.1, (hu5.cell (p := ⟨g, 13, none⟩) HQ.out.2.2 (by simp)).trans HQ.out.2.1, Nat.lt_of_lt_of_le HQ.out.2.2 hu5.size⟩
  have HSO := Lib.hid (source_any HTB5.out (t := 1) (l := 0))
  rw [show sourceM [rA] 1 0 = some rA from rfl] at HSO
  simp only [Option.map_some, Option.getD_some, Option.isSome_some, rA] at HSO
  clear hu4 hu5 HRO HTB3 HU3 HQ
  go_upto_region 4 with fail
  rw [← hw5, ← hb4]
  clear hw5 hb4
  go_wp2_with fail
  refine HSO.out.mono ?_
  rintro _ w6 ⟨rfl, hu6⟩
  have HTB6 := Lib.hid (HTB5.out.upd hu6)
  have HU6 := Lib.hid (HU5.out.next hu6)
  have HB6 := Lib.hid (HB5.out.upd hu6 (by simp))
  have HQ6 : Hid (w6.cell? ⟨g, 3, none⟩ = some (.int .i64 4) ∧ w6.cell? ⟨g, 13, none⟩ = some (.int .i64 9) ∧ g < w6.heap.size) := Lib.hid ⟨(hu6.cell (p := ⟨g, 3, none⟩) HQ5.out.2.2 (by simp)).trans HQ5.out.1, (hu6.cell (p := ⟨g, 13, none⟩) HQ5.out.2.2 (by simp)).trans HQ5.out.2.1, Nat.lt_of_lt_of_le HQ5.out.2.2 hu6.size⟩
  have HOW := Lib.hid (own_any HTB6.out (s := 5) ⟨by decide, by decide⟩)
  rw [show ownM [dA, dB] 5 = none from rfl] at HOW
  simp only [Option.getD_none, Option.isSome_none, encDn, zDn] at HOW
  clear hu6 HSO HTB5 HU5 HB5 HQ5
  go_wp2_with fail
  refine HOW.out.mono ?_
  rintro _ w7 ⟨rfl, hu7⟩
  obtain ⟨w8, hw8⟩ : ∃ z, z = w7.alloc (.cells #[.int .u32 0, .int .i64 0, .int .u32 0, .int .i64 0, .int .i64 0, .int .i64 0, .int .i64 0, .int .i64 0, .int .i64 0, .bool false] 41) := ⟨_, rfl⟩
  have hu8 : Upd [] w6 w8 := hu7.next (by rw [hw8]; exact (Upd.refl [] w7).alloc _)
  have HU8 := Lib.hid (HU6.out.next hu8)
  have HTB8 := Lib.hid (HTB6.out.upd hu8)
  have e1 : w8.cell? ⟨b4, 1, none⟩ = some (.int .i64 1) := (HB6.out.upd hu8 (by simp)).cell 1
  have q1 : w8.cell? ⟨g, 3, none⟩ = some (.int .i64 4) := (hu8.cell (p := ⟨g, 3, none⟩) HQ6.out.2.2 (by simp)).trans HQ6.out.1
  have q2 : w8.cell? ⟨g, 13, none⟩ = some (.int .i64 9) := (hu8.cell (p := ⟨g, 13, none⟩) HQ6.out.2.2 (by simp)).trans HQ6.out.2.1
  have HEP := Lib.hid (epoch_any HTB8.out)
  have HLE := Lib.hid (len_any HTB8.out)
  clear hu7 hu8 HOW HTB6 HU6 HB6 HQ6
  go_upto_region 6 with fail
  rw [← hw8]
  clear hw8
  go_wp2_with fail
  refine HEP.out.mono ?_
  rintro _ w9 ⟨rfl, rfl⟩
  go_wp2_with fail
  refine HLE.out.mono ?_
  rintro _ w9 ⟨rfl, rfl⟩
  go_wp2
  exact bodyPost_res (v := .bool true) (by simp [results, Try.results7, go_sem]) rfl ⟨rfl, HU8.out⟩
end Go.Proofs.Yteljkdihlklliaa
/- table.Make, as a table or nil; and what the laws' walks want of slices. Conditions: numbers of their types; no more than 1000. -/
namespace Go.Proofs.Yteljkdihlklliaa
open Go Go.RowKit Go.Maps
set_option maxHeartbeats 400000
theorem make_tb {w : World} {A B : Option Addr} {ca cb : Nat} {rs : List Rt} {ds : List Dn} (ep : Int) (hA : CellsIn w 0 w.heap.size 5 A rs.length (rs.flatMap encRt)) (hB : CellsIn w 0 w.heap.size 10 B ds.length (ds.flatMap encDn))
    (hr : ∀ r, r ∈ rs → r.Ok) (hd : ∀ d, d ∈ ds → d.Ok) (hlr : rs.length ≤ 1000) (hld : ds.length ≤ 1000) :
    Calls Try.prog 8 #[.int .u64 ep, .slice A rs.length ca, .slice B ds.length cb] w fun e w' => ∃ (v : Value) (er : Int), e = .returned (.tuple #[v, .int .i64 er]) ∧ Upd [] w w' ∧
      ((er = 0 ∧ (MayR rs ∧ MayD ds) ∧ IsTb w' w.heap.size v ep rs ds) ∨ (er = 1 ∧ ¬ (MayR rs ∧ MayD ds) ∧ v = .pointer none ∧ IsTb w' w.heap.size v 0 [] [])) := by
  refine (make_any (ca := ca) (cb := cb) ep hA hB hr hd hlr hld).mono ?_
  rintro e w' ⟨hu, ⟨hm, T, mr, md, rfl, ht⟩ | ⟨hm, rfl⟩⟩
  · exact ⟨_, 0, rfl, hu, .inl ⟨rfl, hm, .inr ⟨T, mr, md, rfl, ht, hm⟩⟩⟩
  · exact ⟨_, 1, rfl, hu, .inr ⟨rfl, hm, rfl, .inl ⟨rfl, rfl, rfl, rfl⟩⟩⟩
/-- a slice of structs that came in, behind whatever has been done to other blocks -/
theorem CellsIn.later {w w' : World} {size n : Nat} {A : Option Addr} {xs : List Value} (h : CellsIn w 0 w.heap.size size A n xs) (u : Upd [] w w') : CellsIn w' 0 w'.heap.size size A n xs :=
  ⟨h.1, fun hn => by
    obtain ⟨b, off, e, h1, h2, hc⟩ := h.2 hn
    exact ⟨b, off, e, h1, Nat.lt_of_lt_of_le h2 u.size, fun j v hv => (u.cell (p := ⟨b, off + j, none⟩) h2 (by simp)).trans (hc j v hv)⟩⟩
theorem CellsIn.of_cells0 {w : World} {size n : Nat} {A : Option Addr} {xs : List Value} (h : Cells w w.heap.size size A n xs) : CellsIn w 0 w.heap.size size A n xs := by
  refine ⟨h.1, fun hn => ?_⟩
  obtain ⟨b, off, e, hlt, hc⟩ := h.2 hn
  exact ⟨b, off, e, Nat.zero_le _, hlt, hc⟩
theorem CellsIn.of_row {w : World} {N : Nat} {e : TypeId} {size n c : Nat} {A : Option Addr} {xs : List Value} (h : w.ownsRow N e size (.slice A n c) n xs) : CellsIn w 0 w.heap.size size A n xs := by
  rcases h.2 with ⟨hv, rfl⟩ | ⟨g, cap, cur, hv, hg, hh, h1, h2, h3, h4⟩
  · exact ⟨h.1, fun hn => absurd hn (Nat.lt_irrefl 0)⟩
  · injection hv with e1 _ _
    subst e1
    refine ⟨h.1, fun _ => ⟨g, 0, rfl, Nat.zero_le _, (Array.getElem?_eq_some_iff.1 hh).1, fun j u hj => ?_⟩⟩
    have := h.cells (g := g) rfl j u hj
    by_cases h0 : j = 0
    · subst h0; exact this
    · simpa [Addr.add, h0] using this
theorem infoRt : (Try.prog.info? 37).map (fun i => (i.zero, i.size, i.bytes)) = some (some (.agg #[.int .u32 0, .int .i64 0, .int .i64 0, .int .i64 0, .int .i64 0]), 5, 40) := by kernel_rfl
theorem oneRt (a : Rt) : ∀ u ∈ encRt a, u.oneCell' = true := by
  intro u hu
  simp [encRt] at hu
  rcases hu with rfl | rfl | rfl | rfl | rfl <;> rfl
end Go.Proofs.Yteljkdihlklliaa
/- The document's Route, Own and Source. Condition: no more than 1000. (Written by wip/gen/tableref.py.) -/
namespace Go.Proofs.Yteljkdihlklliaa
open Go Go.RowKit Go.Maps
set_option maxHeartbeats 400000
theorem find_take {α : Type} {p : α → Bool} {l : List α} {i : Nat} {x : α} (h : ∀ y, y ∈ l.take i → p y = false) (hx : l[i]? = some x) (hp : p x = true) : l.find? p = some x := by
  have e : l = l.take i ++ x :: l.drop (i + 1) := by
    obtain ⟨hi, hx'⟩ := List.getElem?_eq_some_iff.1 hx
    rw [← hx', List.getElem_cons_drop, List.take_append_drop]
  rw [e, List.find?_append, List.find?_eq_none.2 (fun y hy => by rw [h y hy]; decide), List.find?_cons, hp]
  rfl
theorem take_not {α : Type} {p : α → Bool} {l : List α} {i : Nat} {x : α} (h : ∀ y, y ∈ l.take i → p y = false) (hx : l[i]? = some x) (hp : p x = false) : ∀ y, y ∈ l.take (i + 1) → p y = false := by
  intro y hy
  rw [List.take_add_one, hx, List.mem_append] at hy
  rcases hy with hy | hy
  · exact h y hy
  · simp at hy; rw [hy]; exact hp
theorem find_no {α : Type} {p : α → Bool} {l : List α} (h : ∀ y, y ∈ l.take l.length → p y = false) : l.find? p = none := by
  rw [List.take_length] at h
  exact List.find?_eq_none.2 (fun y hy => by rw [h y hy]; decide)
set_option maxRecDepth 100000 in
set_option maxHeartbeats 2000000 in
theorem rroute_any {w : World} {A : Option Addr} {ca : Nat} {rs : List Rt} (hA : CellsIn w 0 w.heap.size 5 A rs.length (rs.flatMap encRt)) (hl : rs.length ≤ 1000) {s : Int} :
    Calls Try.prog 13 #[.slice A rs.length ca, .int .u32 s] w fun e w' => e = .returned (.tuple #[.agg (encRt ((routeM rs s).getD zRt)).toArray, .bool (routeM rs s).isSome]) ∧ Upd [] w w' := by
  obtain ⟨G, hG⟩ : ∃ G, G = w.heap.size := ⟨_, rfl⟩
  obtain ⟨W, hW⟩ : ∃ z, z = w.alloc (.cells #[.int .u32 0, .int .i64 0, .int .i64 0, .int .i64 0, .int .i64 0] 44) := ⟨_, rfl⟩
  have HBG : Hid (Blk W G 44 #[.int .u32 0, .int .i64 0, .int .i64 0, .int .i64 0, .int .i64 0]) := Lib.hid (by rw [hW, hG]; exact Blk.new _ _ _)
  have hu : Upd [] w W := by rw [hW]; exact (Upd.refl [] w).alloc _
  have HUW := Lib.hid hu
  have HGX := Lib.hid hG
  have HA := Lib.hid (hA.later hu)
  obtain ⟨o, ho⟩ : ∃ o, o = routeM rs s := ⟨_, rfl⟩
  rw [← ho]
  have HOO := Lib.hid ho
  obtain ⟨n, hn⟩ : ∃ n, n = rs.length := ⟨_, rfl⟩
  rw [← hn] at hl ⊢
  have HN := Lib.hid hn
  clear hu hA ho hn
  go_enter Try.func13, Try.ntmps13
  go_upto_region 1 with fail
  rw [← hW, ← hG]
  clear hW hG
  go_wp2
  go_loopg [6] n (fun gk x6 wr => ∃ i : Nat, i ≤ n ∧ n ≤ i + gk ∧ x6 = .int .i64 i ∧ (∀ y, y ∈ rs.take i → decide (y.ssrc = s) = false) ∧ wr = W)
  case atStart => exact ⟨0, Nat.zero_le _, by omega, rfl, by simp, rfl⟩
  case round =>
    obtain ⟨i, hi, hgi, rfl, hno, hwr⟩ := hrel
    obtain rfl := hwr.symm
    by_cases hlt : i < n
    · obtain ⟨r, hri⟩ : ∃ r, rs[i]? = some r := ⟨_, List.getElem?_eq_getElem (by rw [← HN.out]; exact hlt)⟩
      obtain ⟨b, off, hAe, -, hb2, hcc⟩ := HA.out.2 (by rw [← HN.out]; omega)
      subst hAe
      have c0 : W.cell? ⟨b, off + (i * 5 + 0), none⟩ = some (.int .u32 r.ssrc) := hcc (i * 5 + 0) _ (flat_get encRt_len rs i 0 r hri (by omega))
      have c1 : W.cell? ⟨b, off + (i * 5 + 1), none⟩ = some (.int .i64 r.track) := hcc (i * 5 + 1) _ (flat_get encRt_len rs i 1 r hri (by omega))
      have c2 : W.cell? ⟨b, off + (i * 5 + 2), none⟩ = some (.int .i64 r.src) := hcc (i * 5 + 2) _ (flat_get encRt_len rs i 2 r hri (by omega))
      have c3 : W.cell? ⟨b, off + (i * 5 + 3), none⟩ = some (.int .i64 r.layer) := hcc (i * 5 + 3) _ (flat_get encRt_len rs i 3 r hri (by omega))
      have c4 : W.cell? ⟨b, off + (i * 5 + 4), none⟩ = some (.int .i64 r.shard) := hcc (i * 5 + 4) _ (flat_get encRt_len rs i 4 r hri (by omega))
      simp only [← Nat.add_assoc, Nat.add_zero] at c0 c1 c2 c3 c4
      have hlti : (i : Int) < (n : Int) := by omega
      have hwi : IntKind.i64.wrap ((i : Int) + 1) = (i : Int) + 1 := IntWalk.i64_in _ (by omega)
      by_cases hq : r.ssrc = s
      · have HRES : Hid (routeM rs s = some r) := Lib.hid (find_take hno hri (decide_eq_true hq))
        have hk : (r.ssrc == s) = true := by simp [hq]
        clear hno hri hcc hb2 hq hgi
        obtain ⟨kx, ux⟩ := blk5 HBG.out (.int .u32 r.ssrc) (.int .i64 r.track) (.int .i64 r.src) (.int .i64 r.layer) (.int .i64 r.shard)
        obtain ⟨wx, hwx⟩ : ∃ z, z = (((((W.setCell ⟨G, 0, none⟩ (.int .u32 r.ssrc)).setCell ⟨G, 1, none⟩ (.int .i64 r.track)).setCell ⟨G, 2, none⟩ (.int .i64 r.src)).setCell ⟨G, 3, none⟩ (.int .i64 r.layer)).setCell ⟨G, 4, none⟩ (.int .i64 r.shard)) := ⟨_, rfl⟩
        rw [← hwx] at kx ux
        have HKX := Lib.hid kx
        have HFX : Hid (Upd [] w wx) := Lib.hid (HUW.out.box' ux (by rw [HGX.out]; exact Nat.le_refl _))
        have HWX := Lib.hid hwx
        clear kx ux hwx
        have z0 : W.cell? ⟨G, 0, none⟩ = some (.int .u32 0) := HBG.out.cell 0
        have f0 := HBG.out.frozen 0
        have z1 : W.cell? ⟨G, 1, none⟩ = some (.int .i64 0) := HBG.out.cell 1
        have f1 := HBG.out.frozen 1
        have z2 : W.cell? ⟨G, 2, none⟩ = some (.int .i64 0) := HBG.out.cell 2
        have f2 := HBG.out.frozen 2
        have z3 : W.cell? ⟨G, 3, none⟩ = some (.int .i64 0) := HBG.out.cell 3
        have f3 := HBG.out.frozen 3
        have z4 : W.cell? ⟨G, 4, none⟩ = some (.int .i64 0) := HBG.out.cell 4
        have f4 := HBG.out.frozen 4
        go_wp2
        rw [← HWX.out]
        have g0 : wx.cell? ⟨G, 0, none⟩ = some (.int .u32 r.ssrc) := HKX.out.cell 0
        have g1 : wx.cell? ⟨G, 1, none⟩ = some (.int .i64 r.track) := HKX.out.cell 1
        have g2 : wx.cell? ⟨G, 2, none⟩ = some (.int .i64 r.src) := HKX.out.cell 2
        have g3 : wx.cell? ⟨G, 3, none⟩ = some (.int .i64 r.layer) := HKX.out.cell 3
        have g4 : wx.cell? ⟨G, 4, none⟩ = some (.int .i64 r.shard) := HKX.out.cell 4
        refine bodyPost_res (v := .tuple #[.agg #[.int .u32 r.ssrc, .int .i64 r.track, .int .i64 r.src, .int .i64 r.layer, .int .i64 r.shard], .bool true]) (by simp [results, Try.results13, go_sem, Addr.add, g0, g1, g2, g3, g4]) rfl ?_
        exact ⟨by rw [HOO.out, HRES.out]; rfl, HFX.out⟩
      · have HNX := Lib.hid (take_not hno hri (decide_eq_false hq))
        have hk : (r.ssrc == s) = false := beq_eq_false_iff_ne.2 hq
        have HGI := Lib.hid hgi
        clear hno hri hcc hb2 hq hgi
        go_wp2
        go_roundg (gk - 1)
        case measure => have := HGI.out; omega
        case rel => exact ⟨i + 1, by omega, by have := HGI.out; omega, by go_num, HNX.out, rfl⟩
    obtain rfl : n = i := by omega
    have HRES : Hid (routeM rs s = none) := Lib.hid (find_no (by rw [← HN.out]; exact hno))
    clear hno hgi hi hlt
    obtain ⟨kx, ux⟩ := blk5 HBG.out (.int .u32 0) (.int .i64 0) (.int .i64 0) (.int .i64 0) (.int .i64 0)
    obtain ⟨wx, hwx⟩ : ∃ z, z = (((((W.setCell ⟨G, 0, none⟩ (.int .u32 0)).setCell ⟨G, 1, none⟩ (.int .i64 0)).setCell ⟨G, 2, none⟩ (.int .i64 0)).setCell ⟨G, 3, none⟩ (.int .i64 0)).setCell ⟨G, 4, none⟩ (.int .i64 0)) := ⟨_, rfl⟩
    rw [← hwx] at kx ux
    have HKX := Lib.hid kx
    have HFX : Hid (Upd [] w wx) := Lib.hid (HUW.out.box' ux (by rw [HGX.out]; exact Nat.le_refl _))
    have HWX := Lib.hid hwx
    clear kx ux hwx
    have z0 : W.cell? ⟨G, 0, none⟩ = some (.int .u32 0) := HBG.out.cell 0
    have f0 := HBG.out.frozen 0
    have z1 : W.cell? ⟨G, 1, none⟩ = some (.int .i64 0) := HBG.out.cell 1
    have f1 := HBG.out.frozen 1
    have z2 : W.cell? ⟨G, 2, none⟩ = some (.int .i64 0) := HBG.out.cell 2
    have f2 := HBG.out.frozen 2
    have z3 : W.cell? ⟨G, 3, none⟩ = some (.int .i64 0) := HBG.out.cell 3
    have f3 := HBG.out.frozen 3
    have z4 : W.cell? ⟨G, 4, none⟩ = some (.int .i64 0) := HBG.out.cell 4
    have f4 := HBG.out.frozen 4
    go_wp2
    rw [← HWX.out]
    have g0 : wx.cell? ⟨G, 0, none⟩ = some (.int .u32 0) := HKX.out.cell 0
    have g1 : wx.cell? ⟨G, 1, none⟩ = some (.int .i64 0) := HKX.out.cell 1
    have g2 : wx.cell? ⟨G, 2, none⟩ = some (.int .i64 0) := HKX.out.cell 2
    have g3 : wx.cell? ⟨G, 3, none⟩ = some (.int .i64 0) := HKX.out.cell 3
    have g4 : wx.cell? ⟨G, 4, none⟩ = some (.int .i64 0) := HKX.out.cell 4
    refine bodyPost_res (v := .tuple #[.agg #[.int .u32 0, .int .i64 0, .int .i64 0, .int .i64 0, .int .i64 0], .bool false]) (by simp [results, Try.results13, go_sem, Addr.add, g0, g1, g2, g3, g4]) rfl ?_
    exact ⟨by rw [HOO.out, HRES.out]; rfl, HFX.out⟩
set_option maxRecDepth 100000 in
set_option maxHeartbeats 2000000 in
theorem rown_any {w : World} {A : Option Addr} {ca : Nat} {rs : List Dn} (hA : CellsIn w 0 w.heap.size 10 A rs.length (rs.flatMap encDn)) (hl : rs.length ≤ 1000) {s : Int} :
    Calls Try.prog 15 #[.slice A rs.length ca, .int .u32 s] w fun e w' => e = .returned (.tuple #[.agg (encDn ((ownM rs s).getD zDn)).toArray, .bool (ownM rs s).isSome]) ∧ Upd [] w w' := by
  obtain ⟨G, hG⟩ : ∃ G, G = w.heap.size := ⟨_, rfl⟩
  obtain ⟨W, hW⟩ : ∃ z, z = w.alloc (.cells #[.int .u32 0, .int .i64 0, .int .u32 0, .int .i64 0, .int .i64 0, .int .i64 0, .int .i64 0, .int .i64 0, .int .i64 0, .bool false] 49) := ⟨_, rfl⟩
  have HBG : Hid (Blk W G 49 #[.int .u32 0, .int .i64 0, .int .u32 0, .int .i64 0, .int .i64 0, .int .i64 0, .int .i64 0, .int .i64 0, .int .i64 0, .bool false]) := Lib.hid (by rw [hW, hG]; exact Blk.new _ _ _)
  have hu : Upd [] w W := by rw [hW]; exact (Upd.refl [] w).alloc _
  have HUW := Lib.hid hu
  have HGX := Lib.hid hG
  have HA := Lib.hid (hA.later hu)
  obtain ⟨o, ho⟩ : ∃ o, o = ownM rs s := ⟨_, rfl⟩
  rw [← ho]
  have HOO := Lib.hid ho
  obtain ⟨n, hn⟩ : ∃ n, n = rs.length := ⟨_, rfl⟩
  rw [← hn] at hl ⊢
  have HN := Lib.hid hn
  clear hu hA ho hn
  go_enter Try.func15, Try.ntmps15
  go_upto_region 1 with fail
  rw [← hW, ← hG]
  clear hW hG
  go_wp2
  go_loopg [6] n (fun gk x6 wr => ∃ i : Nat, i ≤ n ∧ n ≤ i + gk ∧ x6 = .int .i64 i ∧ (∀ y, y ∈ rs.take i → decide (y.ssrc = s) = false) ∧ wr = W)
  case atStart => exact ⟨0, Nat.zero_le _, by omega, rfl, by simp, rfl⟩
  case round =>
    obtain ⟨i, hi, hgi, rfl, hno, hwr⟩ := hrel
    obtain rfl := hwr.symm
    by_cases hlt : i < n
    · obtain ⟨r, hri⟩ : ∃ r, rs[i]? = some r := ⟨_, List.getElem?_eq_getElem (by rw [← HN.out]; exact hlt)⟩
      obtain ⟨b, off, hAe, -, hb2, hcc⟩ := HA.out.2 (by rw [← HN.out]; omega)
      subst hAe
      have c0 : W.cell? ⟨b, off + (i * 10 + 0), none⟩ = some (.int .u32 r.ssrc) := hcc (i * 10 + 0) _ (flat_get encDn_len rs i 0 r hri (by omega))
      have c1 : W.cell? ⟨b, off + (i * 10 + 1), none⟩ = some (.int .i64 r.slot) := hcc (i * 10 + 1) _ (flat_get encDn_len rs i 1 r hri (by omega))
      have c2 : W.cell? ⟨b, off + (i * 10 + 2), none⟩ = some (.int .u32 r.turn) := hcc (i * 10 + 2) _ (flat_get encDn_len rs i 2 r hri (by omega))
      have c3 : W.cell? ⟨b, off + (i * 10 + 3), none⟩ = some (.int .i64 r.who) := hcc (i * 10 + 3) _ (flat_get encDn_len rs i 3 r hri (by omega))
      have c4 : W.cell? ⟨b, off + (i * 10 + 4), none⟩ = some (.int .i64 r.track) := hcc (i * 10 + 4) _ (flat_get encDn_len rs i 4 r hri (by omega))
      have c5 : W.cell? ⟨b, off + (i * 10 + 5), none⟩ = some (.int .i64 r.shard) := hcc (i * 10 + 5) _ (flat_get encDn_len rs i 5 r hri (by omega))
      have c6 : W.cell? ⟨b, off + (i * 10 + 6), none⟩ = some (.int .i64 r.src) := hcc (i * 10 + 6) _ (flat_get encDn_len rs i 6 r hri (by omega))
      have c7 : W.cell? ⟨b, off + (i * 10 + 7), none⟩ = some (.int .i64 r.layer) := hcc (i * 10 + 7) _ (flat_get encDn_len rs i 7 r hri (by omega))
      have c8 : W.cell? ⟨b, off + (i * 10 + 8), none⟩ = some (.int .i64 r.tid) := hcc (i * 10 + 8) _ (flat_get encDn_len rs i 8 r hri (by omega))
      have c9 : W.cell? ⟨b, off + (i * 10 + 9), none⟩ = some (.bool r.muted) := hcc (i * 10 + 9) _ (flat_get encDn_len rs i 9 r hri (by omega))
      simp only [← Nat.add_assoc, Nat.add_zero] at c0 c1 c2 c3 c4 c5 c6 c7 c8 c9
      have hlti : (i : Int) < (n : Int) := by omega
      have hwi : IntKind.i64.wrap ((i : Int) + 1) = (i : Int) + 1 := IntWalk.i64_in _ (by omega)
      by_cases hq : r.ssrc = s
      · have HRES : Hid (ownM rs s = some r) := Lib.hid (find_take hno hri (decide_eq_true hq))
        have hk : (r.ssrc == s) = true := by simp [hq]
        clear hno hri hcc hb2 hq hgi
        obtain ⟨kx, ux⟩ := blk10 HBG.out (.int .u32 r.ssrc) (.int .i64 r.slot) (.int .u32 r.turn) (.int .i64 r.who) (.int .i64 r.track) (.int .i64 r.shard) (.int .i64 r.src) (.int .i64 r.layer) (.int .i64 r.tid) (.bool r.muted)
        obtain ⟨wx, hwx⟩ : ∃ z, z = ((((((((((W.setCell ⟨G, 0, none⟩ (.int .u32 r.ssrc)).setCell ⟨G, 1, none⟩ (.int .i64 r.slot)).setCell ⟨G, 2, none⟩ (.int .u32 r.turn)).setCell ⟨G, 3, none⟩ (.int .i64 r.who)).setCell ⟨G, 4, none⟩ (.int .i64 r.track)).setCell ⟨G, 5, none⟩ (.int .i64 r.shard)).setCell ⟨G, 6, none⟩ (.int .i64 r.src)).setCell ⟨G, 7, none⟩ (.int .i64 r.layer)).setCell ⟨G, 8, none⟩ (.int .i64 r.tid)).setCell ⟨G, 9, none⟩ (.bool r.muted)) := ⟨_, rfl⟩
        rw [← hwx] at kx ux
        have HKX := Lib.hid kx
        have HFX : Hid (Upd [] w wx) := Lib.hid (HUW.out.box' ux (by rw [HGX.out]; exact Nat.le_refl _))
        have HWX := Lib.hid hwx
        clear kx ux hwx
        have z0 : W.cell? ⟨G, 0, none⟩ = some (.int .u32 0) := HBG.out.cell 0
        have f0 := HBG.out.frozen 0
        have z1 : W.cell? ⟨G, 1, none⟩ = some (.int .i64 0) := HBG.out.cell 1
        have f1 := HBG.out.frozen 1
        have z2 : W.cell? ⟨G, 2, none⟩ = some (.int .u32 0) := HBG.out.cell 2
        have f2 := HBG.out.frozen 2
        have z3 : W.cell? ⟨G, 3, none⟩ = some (.int .i64 0) := HBG.out.cell 3
        have f3 := HBG.out.frozen 3
        have z4 : W.cell? ⟨G, 4, none⟩ = some (.int .i64 0) := HBG.out.cell 4
        have f4 := HBG.out.frozen 4
        have z5 : W.cell? ⟨G, 5, none⟩ = some (.int .i64 0) := HBG.out.cell 5
        have f5 := HBG.out.frozen 5
        have z6 : W.cell? ⟨G, 6, none⟩ = some (.int .i64 0) := HBG.out.cell 6
        have f6 := HBG.out.frozen 6
        have z7 : W.cell? ⟨G, 7, none⟩ = some (.int .i64 0) := HBG.out.cell 7
        have f7 := HBG.out.frozen 7
        have z8 : W.cell? ⟨G, 8, none⟩ = some (.int .i64 0) := HBG.out.cell 8
        have f8 := HBG.out.frozen 8
        have z9 : W.cell? ⟨G, 9, none⟩ = some (.bool false) := HBG.out.cell 9
        have f9 := HBG.out.frozen 9
        go_wp2
        rw [← HWX.out]
        have g0 : wx.cell? ⟨G, 0, none⟩ = some (.int .u32 r.ssrc) := HKX.out.cell 0
        have g1 : wx.cell? ⟨G, 1, none⟩ = some (.int .i64 r.slot) := HKX.out.cell 1
        have g2 : wx.cell? ⟨G, 2, none⟩ = some (.int .u32 r.turn) := HKX.out.cell 2
        have g3 : wx.cell? ⟨G, 3, none⟩ = some (.int .i64 r.who) := HKX.out.cell 3
        have g4 : wx.cell? ⟨G, 4, none⟩ = some (.int .i64 r.track) := HKX.out.cell 4
        have g5 : wx.cell? ⟨G, 5, none⟩ = some (.int .i64 r.shard) := HKX.out.cell 5
        have g6 : wx.cell? ⟨G, 6, none⟩ = some (.int .i64 r.src) := HKX.out.cell 6
        have g7 : wx.cell? ⟨G, 7, none⟩ = some (.int .i64 r.layer) := HKX.out.cell 7
        have g8 : wx.cell? ⟨G, 8, none⟩ = some (.int .i64 r.tid) := HKX.out.cell 8
        have g9 : wx.cell? ⟨G, 9, none⟩ = some (.bool r.muted) := HKX.out.cell 9
        refine bodyPost_res (v := .tuple #[.agg #[.int .u32 r.ssrc, .int .i64 r.slot, .int .u32 r.turn, .int .i64 r.who, .int .i64 r.track, .int .i64 r.shard, .int .i64 r.src, .int .i64 r.layer, .int .i64 r.tid, .bool r.muted], .bool true]) (by simp [results, Try.results15, go_sem, Addr.add, g0, g1, g2, g3, g4, g5, g6, g7, g8, g9]) rfl ?_
        exact ⟨by rw [HOO.out, HRES.out]; rfl, HFX.out⟩
      · have HNX := Lib.hid (take_not hno hri (decide_eq_false hq))
        have hk : (r.ssrc == s) = false := beq_eq_false_iff_ne.2 hq
        have HGI := Lib.hid hgi
        clear hno hri hcc hb2 hq hgi
        go_wp2
        go_roundg (gk - 1)
        case measure => have := HGI.out; omega
        case rel => exact ⟨i + 1, by omega, by have := HGI.out; omega, by go_num, HNX.out, rfl⟩
    obtain rfl : n = i := by omega
    have HRES : Hid (ownM rs s = none) := Lib.hid (find_no (by rw [← HN.out]; exact hno))
    clear hno hgi hi hlt
    obtain ⟨kx, ux⟩ := blk10 HBG.out (.int .u32 0) (.int .i64 0) (.int .u32 0) (.int .i64 0) (.int .i64 0) (.int .i64 0) (.int .i64 0) (.int .i64 0) (.int .i64 0) (.bool false)
    obtain ⟨wx, hwx⟩ : ∃ z, z = ((((((((((W.setCell ⟨G, 0, none⟩ (.int .u32 0)).setCell ⟨G, 1, none⟩ (.int .i64 0)).setCell ⟨G, 2, none⟩ (.int .u32 0)).setCell ⟨G, 3, none⟩ (.int .i64 0)).setCell ⟨G, 4, none⟩ (.int .i64 0)).setCell ⟨G, 5, none⟩ (.int .i64 0)).setCell ⟨G, 6, none⟩ (.int .i64 0)).setCell ⟨G, 7, none⟩ (.int .i64 0)).setCell ⟨G, 8, none⟩ (.int .i64 0)).setCell ⟨G, 9, none⟩ (.bool false)) := ⟨_, rfl⟩
    rw [← hwx] at kx ux
    have HKX := Lib.hid kx
    have HFX : Hid (Upd [] w wx) := Lib.hid (HUW.out.box' ux (by rw [HGX.out]; exact Nat.le_refl _))
    have HWX := Lib.hid hwx
    clear kx ux hwx
    have z0 : W.cell? ⟨G, 0, none⟩ = some (.int .u32 0) := HBG.out.cell 0
    have f0 := HBG.out.frozen 0
    have z1 : W.cell? ⟨G, 1, none⟩ = some (.int .i64 0) := HBG.out.cell 1
    have f1 := HBG.out.frozen 1
    have z2 : W.cell? ⟨G, 2, none⟩ = some (.int .u32 0) := HBG.out.cell 2
    have f2 := HBG.out.frozen 2
    have z3 : W.cell? ⟨G, 3, none⟩ = some (.int .i64 0) := HBG.out.cell 3
    have f3 := HBG.out.frozen 3
    have z4 : W.cell? ⟨G, 4, none⟩ = some (.int .i64 0) := HBG.out.cell 4
    have f4 := HBG.out.frozen 4
    have z5 : W.cell? ⟨G, 5, none⟩ = some (.int .i64 0) := HBG.out.cell 5
    have f5 := HBG.out.frozen 5
    have z6 : W.cell? ⟨G, 6, none⟩ = some (.int .i64 0) := HBG.out.cell 6
    have f6 := HBG.out.frozen 6
    have z7 : W.cell? ⟨G, 7, none⟩ = some (.int .i64 0) := HBG.out.cell 7
    have f7 := HBG.out.frozen 7
    have z8 : W.cell? ⟨G, 8, none⟩ = some (.int .i64 0) := HBG.out.cell 8
    have f8 := HBG.out.frozen 8
    have z9 : W.cell? ⟨G, 9, none⟩ = some (.bool false) := HBG.out.cell 9
    have f9 := HBG.out.frozen 9
    go_wp2
    rw [← HWX.out]
    have g0 : wx.cell? ⟨G, 0, none⟩ = some (.int .u32 0) := HKX.out.cell 0
    have g1 : wx.cell? ⟨G, 1, none⟩ = some (.int .i64 0) := HKX.out.cell 1
    have g2 : wx.cell? ⟨G, 2, none⟩ = some (.int .u32 0) := HKX.out.cell 2
    have g3 : wx.cell? ⟨G, 3, none⟩ = some (.int .i64 0) := HKX.out.cell 3
    have g4 : wx.cell? ⟨G, 4, none⟩ = some (.int .i64 0) := HKX.out.cell 4
    have g5 : wx.cell? ⟨G, 5, none⟩ = some (.int .i64 0) := HKX.out.cell 5
    have g6 : wx.cell? ⟨G, 6, none⟩ = some (.int .i64 0) := HKX.out.cell 6
    have g7 : wx.cell? ⟨G, 7, none⟩ = some (.int .i64 0) := HKX.out.cell 7
    have g8 : wx.cell? ⟨G, 8, none⟩ = some (.int .i64 0) := HKX.out.cell 8
    have g9 : wx.cell? ⟨G, 9, none⟩ = some (.bool false) := HKX.out.cell 9
    refine bodyPost_res (v := .tuple #[.agg #[.int .u32 0, .int .i64 0, .int .u32 0, .int .i64 0, .int .i64 0, .int .i64 0, .int .i64 0, .int .i64 0, .int .i64 0, .bool false], .bool false]) (by simp [results, Try.results15, go_sem, Addr.add, g0, g1, g2, g3, g4, g5, g6, g7, g8, g9]) rfl ?_
    exact ⟨by rw [HOO.out, HRES.out]; rfl, HFX.out⟩
set_option maxRecDepth 100000 in
set_option maxHeartbeats 2000000 in
theorem rsource_any {w : World} {A : Option Addr} {ca : Nat} {rs : List Rt} (hA : CellsIn w 0 w.heap.size 5 A rs.length (rs.flatMap encRt)) (hl : rs.length ≤ 1000) {t l : Int} :
    Calls Try.prog 17 #[.slice A rs.length ca, .int .i64 t, .int .i64 l] w fun e w' => e = .returned (.tuple #[.int .u32 (((sourceM rs t l).map Rt.ssrc).getD 0), .bool (sourceM rs t l).isSome]) ∧ Upd [] w w' := by
  have HA := Lib.hid hA
  obtain ⟨o, ho⟩ : ∃ o, o = sourceM rs t l := ⟨_, rfl⟩
  rw [← ho]
  have HOO := Lib.hid ho
  obtain ⟨n, hn⟩ : ∃ n, n = rs.length := ⟨_, rfl⟩
  rw [← hn] at hl ⊢
  have HN := Lib.hid hn
  clear hA ho hn
  go_enter Try.func17, Try.ntmps17
  go_wp2
  go_loopg [8] n (fun gk x8 wr => ∃ i : Nat, i ≤ n ∧ n ≤ i + gk ∧ x8 = .int .i64 i ∧ (∀ y, y ∈ rs.take i → decide (y.track = t ∧ y.layer = l) = false) ∧ wr = w)
  case atStart => exact ⟨0, Nat.zero_le _, by omega, rfl, by simp, rfl⟩
  case round =>
    obtain ⟨i, hi, hgi, rfl, hno, hwr⟩ := hrel
    obtain rfl := hwr.symm
    by_cases hlt : i < n
    · obtain ⟨r, hri⟩ : ∃ r, rs[i]? = some r := ⟨_, List.getElem?_eq_getElem (by rw [← HN.out]; exact hlt)⟩
      obtain ⟨b, off, hAe, -, hb2, hcc⟩ := HA.out.2 (by rw [← HN.out]; omega)
      subst hAe
      have c0 : w.cell? ⟨b, off + (i * 5 + 0), none⟩ = some (.int .u32 r.ssrc) := hcc (i * 5 + 0) _ (flat_get encRt_len rs i 0 r hri (by omega))
      have c1 : w.cell? ⟨b, off + (i * 5 + 1), none⟩ = some (.int .i64 r.track) := hcc (i * 5 + 1) _ (flat_get encRt_len rs i 1 r hri (by omega))
      have c2 : w.cell? ⟨b, off + (i * 5 + 2), none⟩ = some (.int .i64 r.src) := hcc (i * 5 + 2) _ (flat_get encRt_len rs i 2 r hri (by omega))
      have c3 : w.cell? ⟨b, off + (i * 5 + 3), none⟩ = some (.int .i64 r.layer) := hcc (i * 5 + 3) _ (flat_get encRt_len rs i 3 r hri (by omega))
      have c4 : w.cell? ⟨b, off + (i * 5 + 4), none⟩ = some (.int .i64 r.shard) := hcc (i * 5 + 4) _ (flat_get encRt_len rs i 4 r hri (by omega))
      simp only [← Nat.add_assoc, Nat.add_zero] at c0 c1 c2 c3 c4
      have hlti : (i : Int) < (n : Int) := by omega
      have hwi : IntKind.i64.wrap ((i : Int) + 1) = (i : Int) + 1 := IntWalk.i64_in _ (by omega)
      have HNO := Lib.hid hno
      have HRI := Lib.hid hri
      have HGI := Lib.hid hgi
      clear hno hri hcc hb2 hgi
      by_cases hq : r.track = t
      · have hk : (r.track == t) = true := by simp [hq]
        by_cases hq2 : r.layer = l
        · have HRES : Hid (sourceM rs t l = some r) := Lib.hid (find_take HNO.out HRI.out (decide_eq_true ⟨hq, hq2⟩))
          have hk2 : (r.layer == l) = true := by simp [hq2]
          clear hq hq2
          go_wp2
          refine bodyPost_res (v := .tuple #[.int .u32 r.ssrc, .bool true]) (by simp [results, Try.results17, go_sem]) rfl ?_
          exact ⟨by rw [HOO.out, HRES.out]; rfl, Upd.refl _ _⟩
        · have HNX := Lib.hid (take_not HNO.out HRI.out (decide_eq_false (fun h => hq2 h.2)))
          have hk2 : (r.layer == l) = false := beq_eq_false_iff_ne.2 hq2
          clear hq hq2
          go_wp2
          go_roundg (gk - 1)
          case measure => have := HGI.out; omega
          case rel => exact ⟨i + 1, by omega, by have := HGI.out; omega, by go_num, HNX.out, rfl⟩
      · have HNX := Lib.hid (take_not HNO.out HRI.out (decide_eq_false (fun h => hq h.1)))
        have hk : (r.track == t) = false := beq_eq_false_iff_ne.2 hq
        clear hq
        go_wp2
        go_roundg (gk - 1)
        case measure => have := HGI.out; omega
        case rel => exact ⟨i + 1, by omega, by have := HGI.out; omega, by go_num, HNX.out, rfl⟩
    obtain rfl : n = i := by omega
    have HRES : Hid (sourceM rs t l = none) := Lib.hid (find_no (by rw [← HN.out]; exact hno))
    clear hno hgi hi hlt
    go_wp2
    refine bodyPost_res (v := .tuple #[.int .u32 0, .bool false]) (by simp [results, Try.results17, go_sem]) rfl ?_
    exact ⟨by rw [HOO.out, HRES.out]; rfl, Upd.refl _ _⟩
end Go.Proofs.Yteljkdihlklliaa
/- The document's Downs. Condition: no more than 1000. (Written by wip/gen/tablerdowns.py.) -/
namespace Go.Proofs.Yteljkdihlklliaa
open Go Go.RowKit Go.Maps
set_option maxHeartbeats 400000
theorem infoRD : (Try.prog.info? 49).map (fun i => (i.zero, i.size, i.bytes)) = some (some (.agg #[.int .u32 0, .int .i64 0, .int .u32 0, .int .i64 0, .int .i64 0, .int .i64 0, .int .i64 0, .int .i64 0, .int .i64 0, .bool false]), 10, 80) := by kernel_rfl
theorem take_snocD {α : Type} {l : List α} {i : Nat} {x : α} (h : l[i]? = some x) : l.take (i + 1) = l.take i ++ [x] := by rw [List.take_add_one, h]; rfl
/-- is the next one ahead of it? -/
def contW (out : List Dn) (k : Nat) (v : Int) : Bool := (out[k]?).any (fun x => decide (x.who < v))
theorem cont_cut {out : List Dn} {k : Nat} {v : Int} (hall : ∀ x, x ∈ out.take k → x.who < v) (h : contW out k v = false) :
    out.takeWhile (fun x => decide (x.who < v)) = out.take k ∧ out.dropWhile (fun x => decide (x.who < v)) = out.drop k := by
  induction out generalizing k with
  | nil => simp
  | cons a l ih =>
    cases k with
    | zero =>
      have ha : decide (a.who < v) = false := by simpa [contW] using h
      simp [List.takeWhile_cons, List.dropWhile_cons, ha]
    | succ k =>
      have ha : decide (a.who < v) = true := decide_eq_true (hall a (by simp))
      have := ih (k := k) (fun x hx => hall x (by simp [hx])) (by simpa [contW] using h)
      simp [List.takeWhile_cons, List.dropWhile_cons, ha, this]
theorem cont_go {out : List Dn} {k : Nat} {v : Int} (hall : ∀ x, x ∈ out.take k → x.who < v) (h : contW out k v = true) : k < out.length ∧ ∀ x, x ∈ out.take (k + 1) → x.who < v := by
  unfold contW at h
  cases hx : out[k]? with
  | none => rw [hx] at h; cases h
  | some x =>
    rw [hx] at h
    have hv : x.who < v := by simpa using h
    refine ⟨(List.getElem?_eq_some_iff.1 hx).1, fun y hy => ?_⟩
    rw [take_snocD hx, List.mem_append] at hy
    rcases hy with hy | hy
    · exact hall y hy
    · simp at hy; rw [hy]; exact hv
theorem addr_add (b off j : Nat) : (⟨b, off, none⟩ : Addr).add j = ⟨b, off + j, none⟩ := by unfold Addr.add; by_cases hj : j = 0 <;> simp [hj]
/-- the first elements of a row, as a source of an append -/
theorem piece0 {α : Type} {f : α → List Value} {w : World} {size n k : Nat} {A : Option Addr} {l : List α} (h : CellsIn w 0 w.heap.size size A n (l.flatMap f)) (hf : ∀ z, (f z).length = size) : ∀ ad, A = some ad → ∀ (j : Nat) (u : Value), ((l.take k).flatMap f)[j]? = some u → w.cell? (ad.add j) = some u := by
  intro ad ha j u hj
  rw [← flat_take hf, List.getElem?_take] at hj
  split at hj
  · exact h.src ad ha j u hj
  · cases hj
/-- the last elements of a row, as a source of an append -/
theorem piece1 {α : Type} {f : α → List Value} {w : World} {size n k : Nat} {A : Option Addr} {a0 : Addr} {l : List α} (h : CellsIn w 0 w.heap.size size A n (l.flatMap f)) (hf : ∀ z, (f z).length = size) (hA : A = some a0) : ∀ ad, (some (a0.add (k * size))) = some ad → ∀ (j : Nat) (u : Value), ((l.drop k).flatMap f)[j]? = some u → w.cell? (ad.add j) = some u := by
  intro ad ha j u hj
  obtain rfl := Option.some.inj ha
  have h2 : (l.drop k).flatMap f = (l.flatMap f).drop (k * size) := by
    have e : (l.flatMap f) = (l.take k).flatMap f ++ (l.drop k).flatMap f := by rw [← List.flatMap_append, List.take_append_drop]
    by_cases hi : k ≤ l.length
    · rw [e, List.drop_left' (by rw [flat_length hf, List.length_take, Nat.min_eq_left hi])]
    · rw [List.drop_eq_nil_of_le (by omega), List.drop_eq_nil_of_le (by rw [flat_length hf]; exact Nat.mul_le_mul_right _ (by omega))]
      rfl
  rw [h2, List.getElem?_drop] at hj
  have hlt := (List.getElem?_eq_some_iff.1 hj).1
  by_cases hn : 0 < n
  · obtain ⟨b, off, e, _, _, hcc⟩ := h.2 hn
    rw [e] at hA
    obtain rfl := Option.some.inj hA
    rw [show ((⟨b, off, none⟩ : Addr).add (k * size)).add j = ⟨b, off + (k * size + j), none⟩ by rw [addr_add, addr_add, Nat.add_assoc]]
    exact hcc _ u hj
  · have := h.1
    rw [show n = 0 by omega] at this
    omega
theorem onesDn (l : List Dn) : ∀ v ∈ l.flatMap encDn, v.oneCell' = true := by
  intro v hv
  obtain ⟨x, _, hx⟩ := List.mem_flatMap.1 hv
  exact oneDn x v hx
theorem own_base {w : World} {B N size n : Nat} {e : TypeId} {v : Value} {xs : List Value} (h : w.ownsRow B e size v n xs) (hN : N ≤ B) : w.ownsRow N e size v n xs := by
  refine ⟨h.1, ?_⟩
  rcases h.2 with h | ⟨g, cap, cur, hv, hg, h⟩
  · exact .inl h
  · exact .inr ⟨g, cap, cur, hv, Nat.le_trans hN hg, h⟩
set_option maxRecDepth 100000 in
set_option maxHeartbeats 4000000 in
theorem rdowns_any {w : World} {A : Option Addr} {ca : Nat} {ds : List Dn} (hA : CellsIn w 0 w.heap.size 10 A ds.length (ds.flatMap encDn)) (hl : ds.length ≤ 1000) {t : Int} :
    Calls Try.prog 19 #[.slice A ds.length ca, .int .i64 t] w fun e w' => ∃ v2, e = .returned v2 ∧ w'.ownsRow w.heap.size 49 10 v2 (downsM t ds).length ((downsM t ds).flatMap encDn) ∧ Upd [] w w' := by
  obtain ⟨j0, hj0, hy0, hy1, hy2⟩ := info_parts infoRD
  have HA := Lib.hid hA
  obtain ⟨n, hn⟩ : ∃ n, n = ds.length := ⟨_, rfl⟩
  rw [← hn] at hl ⊢
  have HN := Lib.hid hn
  obtain ⟨N, hN⟩ : ∃ N, N = w.heap.size := ⟨_, rfl⟩
  rw [← hN]
  have HNW := Lib.hid hN
  clear hA hn hN
  go_enter Try.func19, Try.ntmps19
  go_wp2
  go_loopg [5, 6] n (fun gk x5 x6 wr => ∃ (i : Nat) (out : List Dn), i ≤ n ∧ n ≤ i + gk ∧ x6 = .int .i64 i ∧ out = downsM t (ds.take i) ∧ wr.ownsRow N 49 10 x5 out.length (out.flatMap encDn) ∧ Upd [] w wr)
  case atStart => exact ⟨0, [], Nat.zero_le _, by omega, rfl, by simp [downsM], World.ownsRow_nil _ _ _ _, Upd.refl _ _⟩
  case round =>
    obtain ⟨i, out, hi, hgi, rfl, hout, hown, hu⟩ := hrel
    obtain ⟨Ao, co, hve, hLc, -, hnil⟩ := own_form hown
    subst hve
    by_cases hlt : i < n
    · obtain ⟨d, hri⟩ : ∃ d, ds[i]? = some d := ⟨_, List.getElem?_eq_getElem (by rw [← HN.out]; exact hlt)⟩
      obtain ⟨b, off, hAe, -, hb2, hcc⟩ := HA.out.2 (by rw [← HN.out]; omega)
      subst hAe
      have HBB := Lib.hid hb2
      have HCC := Lib.hid hcc
      have HRI := Lib.hid hri
      have HSN : Hid (downsM t (ds.take (i + 1)) = if d.track = t then insM d out else out) := Lib.hid (by rw [take_snocD hri, downsM_snoc, ← hout])
      obtain ⟨L, hL⟩ : ∃ k, k = out.length := ⟨_, rfl⟩
      have hLn : L ≤ n := by
        have h1 := List.length_filter_le (fun x => decide (x.track = t)) (ds.take i)
        rw [hL, hout, len_downsM]
        rw [List.length_take] at h1
        omega
      rw [← hL] at hown hLc hnil ⊢
      have c0 : wr.cell? ⟨b, off + (i * 10 + 0), none⟩ = some (.int .u32 d.ssrc) := (hu.cell (p := ⟨b, off + (i * 10 + 0), none⟩) HBB.out (by simp)).trans (HCC.out (i * 10 + 0) _ (flat_get encDn_len ds i 0 d hri (by omega)))
      have c1 : wr.cell? ⟨b, off + (i * 10 + 1), none⟩ = some (.int .i64 d.slot) := (hu.cell (p := ⟨b, off + (i * 10 + 1), none⟩) HBB.out (by simp)).trans (HCC.out (i * 10 + 1) _ (flat_get encDn_len ds i 1 d hri (by omega)))
      have c2 : wr.cell? ⟨b, off + (i * 10 + 2), none⟩ = some (.int .u32 d.turn) := (hu.cell (p := ⟨b, off + (i * 10 + 2), none⟩) HBB.out (by simp)).trans (HCC.out (i * 10 + 2) _ (flat_get encDn_len ds i 2 d hri (by omega)))
      have c3 : wr.cell? ⟨b, off + (i * 10 + 3), none⟩ = some (.int .i64 d.who) := (hu.cell (p := ⟨b, off + (i * 10 + 3), none⟩) HBB.out (by simp)).trans (HCC.out (i * 10 + 3) _ (flat_get encDn_len ds i 3 d hri (by omega)))
      have c4 : wr.cell? ⟨b, off + (i * 10 + 4), none⟩ = some (.int .i64 d.track) := (hu.cell (p := ⟨b, off + (i * 10 + 4), none⟩) HBB.out (by simp)).trans (HCC.out (i * 10 + 4) _ (flat_get encDn_len ds i 4 d hri (by omega)))
      have c5 : wr.cell? ⟨b, off + (i * 10 + 5), none⟩ = some (.int .i64 d.shard) := (hu.cell (p := ⟨b, off + (i * 10 + 5), none⟩) HBB.out (by simp)).trans (HCC.out (i * 10 + 5) _ (flat_get encDn_len ds i 5 d hri (by omega)))
      have c6 : wr.cell? ⟨b, off + (i * 10 + 6), none⟩ = some (.int .i64 d.src) := (hu.cell (p := ⟨b, off + (i * 10 + 6), none⟩) HBB.out (by simp)).trans (HCC.out (i * 10 + 6) _ (flat_get encDn_len ds i 6 d hri (by omega)))
      have c7 : wr.cell? ⟨b, off + (i * 10 + 7), none⟩ = some (.int .i64 d.layer) := (hu.cell (p := ⟨b, off + (i * 10 + 7), none⟩) HBB.out (by simp)).trans (HCC.out (i * 10 + 7) _ (flat_get encDn_len ds i 7 d hri (by omega)))
      have c8 : wr.cell? ⟨b, off + (i * 10 + 8), none⟩ = some (.int .i64 d.tid) := (hu.cell (p := ⟨b, off + (i * 10 + 8), none⟩) HBB.out (by simp)).trans (HCC.out (i * 10 + 8) _ (flat_get encDn_len ds i 8 d hri (by omega)))
      have c9 : wr.cell? ⟨b, off + (i * 10 + 9), none⟩ = some (.bool d.muted) := (hu.cell (p := ⟨b, off + (i * 10 + 9), none⟩) HBB.out (by simp)).trans (HCC.out (i * 10 + 9) _ (flat_get encDn_len ds i 9 d hri (by omega)))
      simp only [← Nat.add_assoc, Nat.add_zero] at c0 c1 c2 c3 c4 c5 c6 c7 c8 c9
      have hlti : (i : Int) < (n : Int) := by omega
      have hwi : IntKind.i64.wrap ((i : Int) + 1) = (i : Int) + 1 := IntWalk.i64_in _ (by omega)
      have HLL := Lib.hid hL
      have HOUT := Lib.hid hout
      have HU := Lib.hid hu
      have HGI := Lib.hid hgi
      have HOW := Lib.hid hown
      have HNIL := Lib.hid hnil
      have HLC := Lib.hid hLc
      clear hb2 hcc hri hL hout hu hgi hown hnil
      by_cases hq : d.track = t
      rotate_left
      · have HS2 : Hid (downsM t (ds.take (i + 1)) = out) := Lib.hid (by rw [HSN.out, if_neg hq])
        have hk : (d.track != t) = true := by simp [bne, beq_eq_false_iff_ne.2 hq]
        clear hq
        go_wp2
        go_roundg (gk - 1)
        case measure => have := HGI.out; omega
        case rel => exact ⟨i + 1, out, by omega, by have := HGI.out; omega, by go_num, HS2.out.symm, by rw [← HLL.out]; exact HOW.out, HU.out⟩
      have HS2 : Hid (downsM t (ds.take (i + 1)) = insM d out) := Lib.hid (by rw [HSN.out, if_pos hq])
      have hk : (d.track != t) = false := by simp [hq]
      obtain ⟨wi, rfl⟩ : ∃ z : World, z = wr := ⟨wr, rfl⟩
      obtain ⟨g0, rfl⟩ : ∃ g : Nat, g = gk := ⟨gk, rfl⟩
      clear hq HSN
      go_wp2
      clear c0 c1 c2 c3 c4 c5 c6 c7 c8 c9
      go_loopg [7] L (fun gq x7 wq => ∃ k : Nat, k ≤ L ∧ L ≤ k + gq ∧ x7 = .int .i64 k ∧ (∀ x, x ∈ out.take k → x.who < d.who) ∧ Upd [] wi wq)
      case atStart => exact ⟨0, Nat.zero_le _, by omega, rfl, by simp, Upd.refl _ _⟩
      case round =>
        obtain ⟨k, hkL, hgk, rfl, hall, huk⟩ := hrel
        obtain ⟨bc, hbc⟩ : ∃ z, z = contW out k d.who := ⟨_, rfl⟩
        have HALL := Lib.hid hall
        have HBC := Lib.hid hbc
        have HUK := Lib.hid huk
        have HGK := Lib.hid hgk
        clear hall hbc huk hgk
        go_upto_region 7 with fail
        go_cut [38] (fun v wd => v = .bool bc ∧ Upd [] wi wd)
        case first =>
          have hb2 := HBB.out
          have c0 : wr.cell? ⟨b, off + (i * 10 + 0), none⟩ = some (.int .u32 d.ssrc) := ((HU.out.next HUK.out).cell (p := ⟨b, off + (i * 10 + 0), none⟩) HBB.out (by simp)).trans (HCC.out (i * 10 + 0) _ (flat_get encDn_len ds i 0 d HRI.out (by omega)))
          have c1 : wr.cell? ⟨b, off + (i * 10 + 1), none⟩ = some (.int .i64 d.slot) := ((HU.out.next HUK.out).cell (p := ⟨b, off + (i * 10 + 1), none⟩) HBB.out (by simp)).trans (HCC.out (i * 10 + 1) _ (flat_get encDn_len ds i 1 d HRI.out (by omega)))
          have c2 : wr.cell? ⟨b, off + (i * 10 + 2), none⟩ = some (.int .u32 d.turn) := ((HU.out.next HUK.out).cell (p := ⟨b, off + (i * 10 + 2), none⟩) HBB.out (by simp)).trans (HCC.out (i * 10 + 2) _ (flat_get encDn_len ds i 2 d HRI.out (by omega)))
          have c3 : wr.cell? ⟨b, off + (i * 10 + 3), none⟩ = some (.int .i64 d.who) := ((HU.out.next HUK.out).cell (p := ⟨b, off + (i * 10 + 3), none⟩) HBB.out (by simp)).trans (HCC.out (i * 10 + 3) _ (flat_get encDn_len ds i 3 d HRI.out (by omega)))
          have c4 : wr.cell? ⟨b, off + (i * 10 + 4), none⟩ = some (.int .i64 d.track) := ((HU.out.next HUK.out).cell (p := ⟨b, off + (i * 10 + 4), none⟩) HBB.out (by simp)).trans (HCC.out (i * 10 + 4) _ (flat_get encDn_len ds i 4 d HRI.out (by omega)))
          have c5 : wr.cell? ⟨b, off + (i * 10 + 5), none⟩ = some (.int .i64 d.shard) := ((HU.out.next HUK.out).cell (p := ⟨b, off + (i * 10 + 5), none⟩) HBB.out (by simp)).trans (HCC.out (i * 10 + 5) _ (flat_get encDn_len ds i 5 d HRI.out (by omega)))
          have c6 : wr.cell? ⟨b, off + (i * 10 + 6), none⟩ = some (.int .i64 d.src) := ((HU.out.next HUK.out).cell (p := ⟨b, off + (i * 10 + 6), none⟩) HBB.out (by simp)).trans (HCC.out (i * 10 + 6) _ (flat_get encDn_len ds i 6 d HRI.out (by omega)))
          have c7 : wr.cell? ⟨b, off + (i * 10 + 7), none⟩ = some (.int .i64 d.layer) := ((HU.out.next HUK.out).cell (p := ⟨b, off + (i * 10 + 7), none⟩) HBB.out (by simp)).trans (HCC.out (i * 10 + 7) _ (flat_get encDn_len ds i 7 d HRI.out (by omega)))
          have c8 : wr.cell? ⟨b, off + (i * 10 + 8), none⟩ = some (.int .i64 d.tid) := ((HU.out.next HUK.out).cell (p := ⟨b, off + (i * 10 + 8), none⟩) HBB.out (by simp)).trans (HCC.out (i * 10 + 8) _ (flat_get encDn_len ds i 8 d HRI.out (by omega)))
          have c9 : wr.cell? ⟨b, off + (i * 10 + 9), none⟩ = some (.bool d.muted) := ((HU.out.next HUK.out).cell (p := ⟨b, off + (i * 10 + 9), none⟩) HBB.out (by simp)).trans (HCC.out (i * 10 + 9) _ (flat_get encDn_len ds i 9 d HRI.out (by omega)))
          simp only [← Nat.add_assoc, Nat.add_zero] at c0 c1 c2 c3 c4 c5 c6 c7 c8 c9
          by_cases hkl : k < L
          · obtain ⟨x, hx⟩ : ∃ x, out[k]? = some x := ⟨_, List.getElem?_eq_getElem (by rw [← HLL.out]; exact hkl)⟩
            obtain ⟨b1, o1, he1, -, hb1, hcc1⟩ := (CellsIn.of_row (ownsRow_upd HOW.out HUK.out (by simp))).2 (by omega)
            subst he1
            have cp : wr.cell? ⟨b1, o1 + (k * 10 + 3), none⟩ = some (.int .i64 x.who) := hcc1 (k * 10 + 3) _ (flat_get encDn_len out k 3 x hx (by omega))
            simp only [← Nat.add_assoc] at cp
            have hlk : (k : Int) < (L : Int) := by omega
            have HV : Hid (bc = decide (x.who < d.who)) := Lib.hid (by rw [HBC.out]; unfold contW; rw [hx]; rfl)
            clear hx hcc1 hb1
            refine wp_quiet_tail 16 (by kernel_rfl) (by kernel_rfl) (fun _ _ _ _ h => h) ?_
            simp only [List.take_succ_cons, List.take_zero, List.drop_succ_cons, List.drop_zero]
            repeat (go_big_quiet_step (fail))
            refine wpQuiet_nil ?_
            rintro _ ⟨nq, rfl⟩
            go_wp2
            go_meet
            case rel => exact ⟨by rw [HV.out], HUK.out.drewN nq⟩
          · have hlk : ¬ ((k : Int) < (L : Int)) := by omega
            have HV : Hid (bc = false) := Lib.hid (by rw [HBC.out]; unfold contW; rw [List.getElem?_eq_none (by rw [← HLL.out]; omega)]; rfl)
            refine wp_quiet_tail 16 (by kernel_rfl) (by kernel_rfl) (fun _ _ _ _ h => h) ?_
            simp only [List.take_succ_cons, List.take_zero, List.drop_succ_cons, List.drop_zero]
            repeat (go_big_quiet_step (fail))
            refine wpQuiet_nil ?_
            rintro _ ⟨nq, rfl⟩
            go_wp2
            go_meet
            case rel => exact ⟨by rw [HV.out], HUK.out.drewN nq⟩
        obtain ⟨rfl, hud⟩ := hcut
        have HUD := Lib.hid hud
        clear hud
        cases bc with
        | true =>
          have HGO := Lib.hid (cont_go HALL.out HBC.out.symm)
          have hkl : k < L := by rw [HLL.out]; exact HGO.out.1
          have hwk : IntKind.i64.wrap ((k : Int) + 1) = (k : Int) + 1 := IntWalk.i64_in _ (by omega)
          go_wp2
          go_roundg (gk - 1)
          case measure => have := HGK.out; omega
          case rel => exact ⟨k + 1, by omega, by have := HGK.out; omega, by go_num, HGO.out.2, HUD.out⟩
        | false =>
          have HINS : Hid (insM d out = out.take k ++ d :: out.drop k) := Lib.hid (by
            obtain ⟨h1, h2⟩ := cont_cut HALL.out HBC.out.symm
            unfold insM
            rw [h1, h2])
          have hkl : (k : Int) ≤ (L : Int) := by omega
          have HUC := Lib.hid (HU.out.next HUD.out)
          have HOWC := Lib.hid (ownsRow_upd HOW.out HUD.out (by simp))
          clear HALL HUK HUD HU HOW HBC
          rcases Ao with _ | a0
          · obtain ⟨hz, hzc⟩ := HNIL.out rfl
            have hk0 : k = 0 := by omega
            subst hk0
            subst hz
            subst hzc
            go_wp2_with (at_builtin; refine wpList_append_src wc rfl (.tmp 41) (.tmp 44) 34 rfl wc.heap.size 49 j0 _ 10 80 Try.underlying34 hj0 hy0 hy1 hy2 rfl (by decide) (.slice none 0 0) 0 [] rfl (World.ownsRow_nil _ _ _ _) none 0 0 ((out.take 0).flatMap encDn) rfl (fun e => by first | exact ⟨rfl, rfl⟩ | cases e) (by rw [flat_length encDn_len, List.length_take, ← HLL.out, Nat.min_eq_left (by omega)]) (fun _ e => by cases e) (onesDn _) (by unfold maxLen; omega) (by omega) (Nat.le_refl _) ?_)
            intro v6 w6 hown6 hg6 _
            obtain ⟨A6, d6, hv6, -⟩ := own_form hown6
            subst hv6
            have HU6 := Lib.hid (app_updT (Upd.refl [] wc) (World.ownsRow_nil wc wc.heap.size 49 10) hg6 (Nat.le_refl _))
            have HOWN6 := Lib.hid hown6
            have HW6 := Lib.hid (HUC.out.next HU6.out)
            clear hown6 hg6
            have c0 : w6.cell? ⟨b, off + (i * 10 + 0), none⟩ = some (.int .u32 d.ssrc) := (HW6.out.cell (p := ⟨b, off + (i * 10 + 0), none⟩) HBB.out (by simp)).trans (HCC.out (i * 10 + 0) _ (flat_get encDn_len ds i 0 d HRI.out (by omega)))
            have c1 : w6.cell? ⟨b, off + (i * 10 + 1), none⟩ = some (.int .i64 d.slot) := (HW6.out.cell (p := ⟨b, off + (i * 10 + 1), none⟩) HBB.out (by simp)).trans (HCC.out (i * 10 + 1) _ (flat_get encDn_len ds i 1 d HRI.out (by omega)))
            have c2 : w6.cell? ⟨b, off + (i * 10 + 2), none⟩ = some (.int .u32 d.turn) := (HW6.out.cell (p := ⟨b, off + (i * 10 + 2), none⟩) HBB.out (by simp)).trans (HCC.out (i * 10 + 2) _ (flat_get encDn_len ds i 2 d HRI.out (by omega)))
            have c3 : w6.cell? ⟨b, off + (i * 10 + 3), none⟩ = some (.int .i64 d.who) := (HW6.out.cell (p := ⟨b, off + (i * 10 + 3), none⟩) HBB.out (by simp)).trans (HCC.out (i * 10 + 3) _ (flat_get encDn_len ds i 3 d HRI.out (by omega)))
            have c4 : w6.cell? ⟨b, off + (i * 10 + 4), none⟩ = some (.int .i64 d.track) := (HW6.out.cell (p := ⟨b, off + (i * 10 + 4), none⟩) HBB.out (by simp)).trans (HCC.out (i * 10 + 4) _ (flat_get encDn_len ds i 4 d HRI.out (by omega)))
            have c5 : w6.cell? ⟨b, off + (i * 10 + 5), none⟩ = some (.int .i64 d.shard) := (HW6.out.cell (p := ⟨b, off + (i * 10 + 5), none⟩) HBB.out (by simp)).trans (HCC.out (i * 10 + 5) _ (flat_get encDn_len ds i 5 d HRI.out (by omega)))
            have c6 : w6.cell? ⟨b, off + (i * 10 + 6), none⟩ = some (.int .i64 d.src) := (HW6.out.cell (p := ⟨b, off + (i * 10 + 6), none⟩) HBB.out (by simp)).trans (HCC.out (i * 10 + 6) _ (flat_get encDn_len ds i 6 d HRI.out (by omega)))
            have c7 : w6.cell? ⟨b, off + (i * 10 + 7), none⟩ = some (.int .i64 d.layer) := (HW6.out.cell (p := ⟨b, off + (i * 10 + 7), none⟩) HBB.out (by simp)).trans (HCC.out (i * 10 + 7) _ (flat_get encDn_len ds i 7 d HRI.out (by omega)))
            have c8 : w6.cell? ⟨b, off + (i * 10 + 8), none⟩ = some (.int .i64 d.tid) := (HW6.out.cell (p := ⟨b, off + (i * 10 + 8), none⟩) HBB.out (by simp)).trans (HCC.out (i * 10 + 8) _ (flat_get encDn_len ds i 8 d HRI.out (by omega)))
            have c9 : w6.cell? ⟨b, off + (i * 10 + 9), none⟩ = some (.bool d.muted) := (HW6.out.cell (p := ⟨b, off + (i * 10 + 9), none⟩) HBB.out (by simp)).trans (HCC.out (i * 10 + 9) _ (flat_get encDn_len ds i 9 d HRI.out (by omega)))
            simp only [← Nat.add_assoc, Nat.add_zero] at c0 c1 c2 c3 c4 c5 c6 c7 c8 c9
            obtain ⟨w7, hw7⟩ : ∃ z, z = w6.alloc (.cells #[.int .u32 d.ssrc, .int .i64 d.slot, .int .u32 d.turn, .int .i64 d.who, .int .i64 d.track, .int .i64 d.shard, .int .i64 d.src, .int .i64 d.layer, .int .i64 d.tid, .bool d.muted] 49) := ⟨_, rfl⟩
            obtain ⟨V, hV⟩ : ∃ V, V = w6.heap.size := ⟨_, rfl⟩
            have u7 : Upd [] w6 w7 := by rw [hw7]; exact (Upd.refl [] w6).alloc _
            have HVB : Hid (Blk w7 V 49 #[.int .u32 d.ssrc, .int .i64 d.slot, .int .u32 d.turn, .int .i64 d.who, .int .i64 d.track, .int .i64 d.shard, .int .i64 d.src, .int .i64 d.layer, .int .i64 d.tid, .bool d.muted]) := Lib.hid (by rw [hw7, hV]; exact Blk.new _ _ _)
            have HU7 := Lib.hid (HU6.out.next u7)
            have HOWN7 := Lib.hid (ownsRow_upd HOWN6.out u7 (by simp))
            have HW7 := Lib.hid hw7
            have HV := Lib.hid hV
            clear hw7 hV u7
            go_wp2_with (at_builtin; go_loud (rw [← HW7.out, ← HV.out]; refine wpList_append_own_at _ rfl (.tmp 46) (.tmp 51) 34 rfl wc.heap.size 49 j0 _ 10 80 Try.underlying34 hj0 hy0 hy1 hy2 rfl (by decide) (.slice A6 0 d6) 0 ((out.take 0).flatMap encDn) rfl HOWN7.out ⟨V, 0, none⟩ 1 1 [.int .u32 d.ssrc, .int .i64 d.slot, .int .u32 d.turn, .int .i64 d.who, .int .i64 d.track, .int .i64 d.shard, .int .i64 d.src, .int .i64 d.layer, .int .i64 d.tid, .bool d.muted] rfl rfl (blk_srcT HVB.out) (oneDn d) (by unfold maxLen; omega) (by omega) HU7.out.size ?_))
            intro v8 w8 hown8 hg8 _ _
            have HU8 := Lib.hid (app_updT HU7.out HOWN7.out hg8 (Nat.le_refl _))
            obtain ⟨A8, d8, hv8, -⟩ := own_form hown8
            subst hv8
            have HOWN8 : Hid (w8.ownsRow wc.heap.size 49 10 (.slice A8 (0 + 1) d8) (0 + 1) ((out.take 0 ++ [d]).flatMap encDn)) := Lib.hid (by
              have e : [d].flatMap encDn = encDn d := by simp
              rw [List.flatMap_append, e]
              exact hown8)
            have HOW8 := Lib.hid (ownsRow_upd HOWC.out HU8.out (by simp))
            clear hown8 hg8 HOWN7 HVB HW7 HV c0 c1 c2 c3 c4 c5 c6 c7 c8 c9
            go_wp2_with (at_builtin; refine wpList_append_src w8 rfl (.tmp 53) (.tmp 56) 34 rfl wc.heap.size 49 j0 _ 10 80 Try.underlying34 hj0 hy0 hy1 hy2 rfl (by decide) (.slice A8 (0 + 1) d8) (0 + 1) ((out.take 0 ++ [d]).flatMap encDn) rfl HOWN8.out none 0 0 ((out.drop 0).flatMap encDn) rfl (fun e => by first | exact ⟨rfl, rfl⟩ | cases e) (by rw [flat_length encDn_len, List.length_drop, ← HLL.out]) (fun _ e => by cases e) (onesDn _) (by unfold maxLen; omega) (by omega) HU8.out.size ?_)
            intro v10 w10 hown10 hg10 _
            obtain ⟨A10, d10, hv10, -⟩ := own_form hown10
            subst hv10
            have HU10 := Lib.hid (HUC.out.next (app_updT HU8.out HOWN8.out hg10 (Nat.le_refl _)))
            have HLEN : Hid ((insM d out).length = 0 + 1 + (0 - 0)) := Lib.hid (by have h1 := len_insM d out; have h2 := HLL.out; omega)
            have HOWN10 : Hid (w10.ownsRow N 49 10 (.slice A10 (0 + 1 + (0 - 0)) d10) (insM d out).length ((insM d out).flatMap encDn)) := Lib.hid (by
              rw [HLEN.out, HINS.out]
              rw [List.flatMap_append, List.flatMap_cons]
              exact own_base hown10 (by rw [HNW.out]; exact HUC.out.size))
            clear hown10 hg10 HOWN8 HOWN6 HOW8
            go_wp2
            go_roundg (g0 - 1)
            case measure => have := HGI.out; omega
            case rel => exact ⟨i + 1, insM d out, by omega, by have := HGI.out; omega, by go_num, HS2.out.symm, HOWN10.out, HU10.out⟩
          · have hle : (k : Int) ≤ (co : Int) := by have := HLC.out; omega
            have hle3 : (L : Int) ≤ (co : Int) := by have := HLC.out; omega
            go_wp2_with (at_builtin; refine wpList_append_src wc rfl (.tmp 41) (.tmp 44) 34 rfl wc.heap.size 49 j0 _ 10 80 Try.underlying34 hj0 hy0 hy1 hy2 rfl (by decide) (.slice none 0 0) 0 [] rfl (World.ownsRow_nil _ _ _ _) (some a0) k co ((out.take k).flatMap encDn) rfl (fun e => by first | exact ⟨rfl, rfl⟩ | cases e) (by rw [flat_length encDn_len, List.length_take, ← HLL.out, Nat.min_eq_left (by omega)]) (piece0 (CellsIn.of_row HOWC.out) encDn_len) (onesDn _) (by unfold maxLen; omega) (by omega) (Nat.le_refl _) ?_)
            intro v6 w6 hown6 hg6 _
            obtain ⟨A6, d6, hv6, -⟩ := own_form hown6
            subst hv6
            have HU6 := Lib.hid (app_updT (Upd.refl [] wc) (World.ownsRow_nil wc wc.heap.size 49 10) hg6 (Nat.le_refl _))
            have HOWN6 := Lib.hid hown6
            have HW6 := Lib.hid (HUC.out.next HU6.out)
            clear hown6 hg6
            have c0 : w6.cell? ⟨b, off + (i * 10 + 0), none⟩ = some (.int .u32 d.ssrc) := (HW6.out.cell (p := ⟨b, off + (i * 10 + 0), none⟩) HBB.out (by simp)).trans (HCC.out (i * 10 + 0) _ (flat_get encDn_len ds i 0 d HRI.out (by omega)))
            have c1 : w6.cell? ⟨b, off + (i * 10 + 1), none⟩ = some (.int .i64 d.slot) := (HW6.out.cell (p := ⟨b, off + (i * 10 + 1), none⟩) HBB.out (by simp)).trans (HCC.out (i * 10 + 1) _ (flat_get encDn_len ds i 1 d HRI.out (by omega)))
            have c2 : w6.cell? ⟨b, off + (i * 10 + 2), none⟩ = some (.int .u32 d.turn) := (HW6.out.cell (p := ⟨b, off + (i * 10 + 2), none⟩) HBB.out (by simp)).trans (HCC.out (i * 10 + 2) _ (flat_get encDn_len ds i 2 d HRI.out (by omega)))
            have c3 : w6.cell? ⟨b, off + (i * 10 + 3), none⟩ = some (.int .i64 d.who) := (HW6.out.cell (p := ⟨b, off + (i * 10 + 3), none⟩) HBB.out (by simp)).trans (HCC.out (i * 10 + 3) _ (flat_get encDn_len ds i 3 d HRI.out (by omega)))
            have c4 : w6.cell? ⟨b, off + (i * 10 + 4), none⟩ = some (.int .i64 d.track) := (HW6.out.cell (p := ⟨b, off + (i * 10 + 4), none⟩) HBB.out (by simp)).trans (HCC.out (i * 10 + 4) _ (flat_get encDn_len ds i 4 d HRI.out (by omega)))
            have c5 : w6.cell? ⟨b, off + (i * 10 + 5), none⟩ = some (.int .i64 d.shard) := (HW6.out.cell (p := ⟨b, off + (i * 10 + 5), none⟩) HBB.out (by simp)).trans (HCC.out (i * 10 + 5) _ (flat_get encDn_len ds i 5 d HRI.out (by omega)))
            have c6 : w6.cell? ⟨b, off + (i * 10 + 6), none⟩ = some (.int .i64 d.src) := (HW6.out.cell (p := ⟨b, off + (i * 10 + 6), none⟩) HBB.out (by simp)).trans (HCC.out (i * 10 + 6) _ (flat_get encDn_len ds i 6 d HRI.out (by omega)))
            have c7 : w6.cell? ⟨b, off + (i * 10 + 7), none⟩ = some (.int .i64 d.layer) := (HW6.out.cell (p := ⟨b, off + (i * 10 + 7), none⟩) HBB.out (by simp)).trans (HCC.out (i * 10 + 7) _ (flat_get encDn_len ds i 7 d HRI.out (by omega)))
            have c8 : w6.cell? ⟨b, off + (i * 10 + 8), none⟩ = some (.int .i64 d.tid) := (HW6.out.cell (p := ⟨b, off + (i * 10 + 8), none⟩) HBB.out (by simp)).trans (HCC.out (i * 10 + 8) _ (flat_get encDn_len ds i 8 d HRI.out (by omega)))
            have c9 : w6.cell? ⟨b, off + (i * 10 + 9), none⟩ = some (.bool d.muted) := (HW6.out.cell (p := ⟨b, off + (i * 10 + 9), none⟩) HBB.out (by simp)).trans (HCC.out (i * 10 + 9) _ (flat_get encDn_len ds i 9 d HRI.out (by omega)))
            simp only [← Nat.add_assoc, Nat.add_zero] at c0 c1 c2 c3 c4 c5 c6 c7 c8 c9
            obtain ⟨w7, hw7⟩ : ∃ z, z = w6.alloc (.cells #[.int .u32 d.ssrc, .int .i64 d.slot, .int .u32 d.turn, .int .i64 d.who, .int .i64 d.track, .int .i64 d.shard, .int .i64 d.src, .int .i64 d.layer, .int .i64 d.tid, .bool d.muted] 49) := ⟨_, rfl⟩
            obtain ⟨V, hV⟩ : ∃ V, V = w6.heap.size := ⟨_, rfl⟩
            have u7 : Upd [] w6 w7 := by rw [hw7]; exact (Upd.refl [] w6).alloc _
            have HVB : Hid (Blk w7 V 49 #[.int .u32 d.ssrc, .int .i64 d.slot, .int .u32 d.turn, .int .i64 d.who, .int .i64 d.track, .int .i64 d.shard, .int .i64 d.src, .int .i64 d.layer, .int .i64 d.tid, .bool d.muted]) := Lib.hid (by rw [hw7, hV]; exact Blk.new _ _ _)
            have HU7 := Lib.hid (HU6.out.next u7)
            have HOWN7 := Lib.hid (ownsRow_upd HOWN6.out u7 (by simp))
            have HW7 := Lib.hid hw7
            have HV := Lib.hid hV
            clear hw7 hV u7
            go_wp2_with (at_builtin; go_loud (rw [← HW7.out, ← HV.out]; refine wpList_append_own_at _ rfl (.tmp 46) (.tmp 51) 34 rfl wc.heap.size 49 j0 _ 10 80 Try.underlying34 hj0 hy0 hy1 hy2 rfl (by decide) (.slice A6 k d6) k ((out.take k).flatMap encDn) rfl HOWN7.out ⟨V, 0, none⟩ 1 1 [.int .u32 d.ssrc, .int .i64 d.slot, .int .u32 d.turn, .int .i64 d.who, .int .i64 d.track, .int .i64 d.shard, .int .i64 d.src, .int .i64 d.layer, .int .i64 d.tid, .bool d.muted] rfl rfl (blk_srcT HVB.out) (oneDn d) (by unfold maxLen; omega) (by omega) HU7.out.size ?_))
            intro v8 w8 hown8 hg8 _ _
            have HU8 := Lib.hid (app_updT HU7.out HOWN7.out hg8 (Nat.le_refl _))
            obtain ⟨A8, d8, hv8, -⟩ := own_form hown8
            subst hv8
            have HOWN8 : Hid (w8.ownsRow wc.heap.size 49 10 (.slice A8 (k + 1) d8) (k + 1) ((out.take k ++ [d]).flatMap encDn)) := Lib.hid (by
              have e : [d].flatMap encDn = encDn d := by simp
              rw [List.flatMap_append, e]
              exact hown8)
            have HOW8 := Lib.hid (ownsRow_upd HOWC.out HU8.out (by simp))
            clear hown8 hg8 HOWN7 HVB HW7 HV c0 c1 c2 c3 c4 c5 c6 c7 c8 c9
            have hle2 : L - k ≤ co - k := by have := HLC.out; omega
            by_cases hpc : co = k
            · go_wp2_with (at_builtin; refine wpList_append_src w8 rfl (.tmp 53) (.tmp 56) 34 rfl wc.heap.size 49 j0 _ 10 80 Try.underlying34 hj0 hy0 hy1 hy2 rfl (by decide) (.slice A8 (k + 1) d8) (k + 1) ((out.take k ++ [d]).flatMap encDn) rfl HOWN8.out (some a0) (L - k) 0 ((out.drop k).flatMap encDn) rfl (fun e => by first | exact ⟨rfl, rfl⟩ | cases e) (by rw [flat_length encDn_len, List.length_drop, ← HLL.out]) (by rw [List.drop_eq_nil_of_le (by rw [← HLL.out]; have := HLC.out; omega)]; intro ad _ j u hj; simp at hj) (onesDn _) (by unfold maxLen; omega) (by omega) HU8.out.size ?_)
              intro v10 w10 hown10 hg10 _
              obtain ⟨A10, d10, hv10, -⟩ := own_form hown10
              subst hv10
              have HU10 := Lib.hid (HUC.out.next (app_updT HU8.out HOWN8.out hg10 (Nat.le_refl _)))
              have HLEN : Hid ((insM d out).length = k + 1 + (L - k)) := Lib.hid (by have h1 := len_insM d out; have h2 := HLL.out; omega)
              have HOWN10 : Hid (w10.ownsRow N 49 10 (.slice A10 (k + 1 + (L - k)) d10) (insM d out).length ((insM d out).flatMap encDn)) := Lib.hid (by
                rw [HLEN.out, HINS.out]
                rw [List.flatMap_append, List.flatMap_cons]
                exact own_base hown10 (by rw [HNW.out]; exact HUC.out.size))
              obtain ⟨LL, hLL⟩ : ∃ z, z = k + 1 + (L - k) := ⟨_, rfl⟩
              rw [← hLL] at HOWN10 ⊢
              clear hown10 hg10 HOWN8 HOWN6 HOW8 hLL
              go_wp2
              go_roundg (g0 - 1)
              case measure => have := HGI.out; omega
              case rel => exact ⟨i + 1, insM d out, by omega, by have := HGI.out; omega, by go_num, HS2.out.symm, HOWN10.out, HU10.out⟩
            · go_wp2_with (at_builtin; refine wpList_append_src w8 rfl (.tmp 53) (.tmp 56) 34 rfl wc.heap.size 49 j0 _ 10 80 Try.underlying34 hj0 hy0 hy1 hy2 rfl (by decide) (.slice A8 (k + 1) d8) (k + 1) ((out.take k ++ [d]).flatMap encDn) rfl HOWN8.out (some (a0.add (k * 10))) (L - k) (co - k) ((out.drop k).flatMap encDn) rfl (fun e => by first | exact ⟨rfl, rfl⟩ | cases e) (by rw [flat_length encDn_len, List.length_drop, ← HLL.out]) (piece1 (CellsIn.of_row HOW8.out) encDn_len rfl) (onesDn _) (by unfold maxLen; omega) (by omega) HU8.out.size ?_)
              intro v10 w10 hown10 hg10 _
              obtain ⟨A10, d10, hv10, -⟩ := own_form hown10
              subst hv10
              have HU10 := Lib.hid (HUC.out.next (app_updT HU8.out HOWN8.out hg10 (Nat.le_refl _)))
              have HLEN : Hid ((insM d out).length = k + 1 + (L - k)) := Lib.hid (by have h1 := len_insM d out; have h2 := HLL.out; omega)
              have HOWN10 : Hid (w10.ownsRow N 49 10 (.slice A10 (k + 1 + (L - k)) d10) (insM d out).length ((insM d out).flatMap encDn)) := Lib.hid (by
                rw [HLEN.out, HINS.out]
                rw [List.flatMap_append, List.flatMap_cons]
                exact own_base hown10 (by rw [HNW.out]; exact HUC.out.size))
              obtain ⟨LL, hLL⟩ : ∃ z, z = k + 1 + (L - k) := ⟨_, rfl⟩
              rw [← hLL] at HOWN10 ⊢
              clear hown10 hg10 HOWN8 HOWN6 HOW8 hLL
              go_wp2
              go_roundg (g0 - 1)
              case measure => have := HGI.out; omega
              case rel => exact ⟨i + 1, insM d out, by omega, by have := HGI.out; omega, by go_num, HS2.out.symm, HOWN10.out, HU10.out⟩
    obtain rfl : n = i := by omega
    have HFIN : Hid (wr.ownsRow N 49 10 (.slice Ao out.length co) (downsM t ds).length ((downsM t ds).flatMap encDn) ∧ Upd [] w wr) := Lib.hid (by
      have e : downsM t ds = out := by rw [hout, HN.out, List.take_length]
      rw [e]
      exact ⟨hown, hu⟩)
    obtain ⟨L, hL⟩ : ∃ k, k = out.length := ⟨_, rfl⟩
    rw [← hL] at HFIN ⊢
    clear hout hown hu hnil hLc hgi hi hlt hL
    go_wp2
    refine bodyPost_res (v := .slice Ao L co) (by simp [results, Try.results19, go_sem]) rfl ?_
    exact ⟨_, rfl, HFIN.out⟩
end Go.Proofs.Yteljkdihlklliaa
