/- Parts of the proof, one behind the other: TLay, TSort, TCmp, TDowns, TAwake, TTb, TEq. No condition of their own. -/
import Derived.Shelf.SlSortCmp.WholeK
import Derived.Shelf.SlSortCmp.NoneTotal
import Derived.Shelf.SlicesG.Cmp
import Derived.Shelf.Small.Bits
import Derived.Test.YteljkdihlklliaaProg
import Derived.Test.YteljkdihlklliaaB1
import Derived.Sort.OwnSorted
import Derived.Test.YteljkdihlklliaaB2
import Derived.Maps.AppendAt
/- The library's sort and comparison at this program: the layings of their contracts. Written by the kit's tool lay-plain.mjs. No condition. -/
namespace Go.Proofs.Yteljkdihlklliaa
open Go.Shelf
def sortDn_ren : Go.Shelf.Ren := ⟨fun | 6 => 23 | 15 => 27 | 14 => 26 | 28 => 37 | 29 => 38 | 20 => 29 | 21 => 30 | 22 => 31 | 23 => 32 | 24 => 33 | 25 => 34 | 26 => 35 | 27 => 36 | 46 => 39 | 47 => 40 | 48 => 41 | 49 => 42 | 50 => 43 | 57 => 44 | n => n, fun | 22 => 24 | 24 => 41 | 25 => 73 | 3 => 3 | 39 => 76 | 0 => 0 | 53 => 25 | 55 => 22 | 4 => 4 | 46 => 80 | 45 => 79 | 50 => 84 | 5 => 5 | 9 => 9 | 66 => 88 | 70 => 91 | 76 => 93 | 77 => 94 | n => n, fun | n => n⟩
theorem sortDn : Go.Proofs.SlLaysF0.n6 Try.prog sortDn_ren := {
  mixed := by kernel_rfl
  f6 := ⟨Try.f23.name, by decide, Try.func23.trans (congrArg some (by kernel_rfl))⟩
  f14 := ⟨Try.f26.name, by decide, Try.func26.trans (congrArg some (by kernel_rfl))⟩
  f15 := Try.func27.trans (congrArg some (by kernel_rfl))
  f20 := ⟨Try.f29.name, by decide, Try.func29.trans (congrArg some (by kernel_rfl))⟩
  f21 := ⟨Try.f30.name, by decide, Try.func30.trans (congrArg some (by kernel_rfl))⟩
  f22 := ⟨Try.f31.name, by decide, Try.func31.trans (congrArg some (by kernel_rfl))⟩
  f23 := ⟨Try.f32.name, by decide, Try.func32.trans (congrArg some (by kernel_rfl))⟩
  f24 := ⟨Try.f33.name, by decide, Try.func33.trans (congrArg some (by kernel_rfl))⟩
  f25 := ⟨Try.f34.name, by decide, Try.func34.trans (congrArg some (by kernel_rfl))⟩
  f26 := ⟨Try.f35.name, by decide, Try.func35.trans (congrArg some (by kernel_rfl))⟩
  f27 := ⟨Try.f36.name, by decide, Try.func36.trans (congrArg some (by kernel_rfl))⟩
  f28 := Try.func37.trans (congrArg some (by kernel_rfl))
  f29 := Try.func38.trans (congrArg some (by kernel_rfl))
  f46 := ⟨Try.f39.name, by decide, Try.func39.trans (congrArg some (by kernel_rfl))⟩
  f47 := Try.func40.trans (congrArg some (by kernel_rfl))
  f48 := Try.func41.trans (congrArg some (by kernel_rfl))
  f49 := ⟨Try.f42.name, by decide, Try.func42.trans (congrArg some (by kernel_rfl))⟩
  f50 := ⟨Try.f43.name, by decide, Try.func43.trans (congrArg some (by kernel_rfl))⟩
  f57 := ⟨Try.f44.name, by decide, Try.func44.trans (congrArg some (by kernel_rfl))⟩
  t0 := Try.underlying0
  a0 := Try.isAgg0
  z0 := Try.sizeOf0
  v0 := Try.zeroValue0
  t3 := Try.underlying3
  a3 := Try.isAgg3
  z3 := Try.sizeOf3
  v3 := Try.zeroValue3
  t4 := Try.underlying4
  a4 := Try.isAgg4
  z4 := Try.sizeOf4
  v4 := Try.zeroValue4
  t5 := Try.underlying5
  a5 := Try.isAgg5
  z5 := Try.sizeOf5
  v5 := Try.zeroValue5
  t9 := Try.underlying9
  a9 := Try.isAgg9
  z9 := Try.sizeOf9
  v9 := Try.zeroValue9
  t22 := Try.underlying24
  a22 := Try.isAgg24
  z22 := Try.sizeOf24
  v22 := Try.zeroValue24
  t25 := Try.underlying73
  a25 := Try.isAgg73
  z25 := Try.sizeOf73
  v25 := Try.zeroValue73
  t39 := Try.underlying76
  a39 := Try.isAgg76
  z39 := Try.sizeOf76
  v39 := Try.zeroValue76
  t45 := Try.underlying79
  a45 := Try.isAgg79
  z45 := Try.sizeOf79
  v45 := Try.zeroValue79
  t46 := Try.underlying80
  a46 := Try.isAgg80
  z46 := Try.sizeOf80
  v46 := Try.zeroValue80
  t50 := Try.underlying84
  a50 := Try.isAgg84
  z50 := Try.sizeOf84
  v50 := Try.zeroValue84
  t53 := Try.underlying25
  a53 := Try.isAgg25
  z53 := Try.sizeOf25
  v53 := Try.zeroValue25
  t55 := Try.underlying22
  a55 := Try.isAgg22
  z55 := Try.sizeOf22
  v55 := Try.zeroValue22
  t66 := Try.underlying88
  a66 := Try.isAgg88
  z66 := Try.sizeOf88
  v66 := Try.zeroValue88
  t70 := Try.underlying91
  a70 := Try.isAgg91
  z70 := Try.sizeOf91
  v70 := Try.zeroValue91
  t76 := Try.underlying93
  a76 := Try.isAgg93
  z76 := Try.sizeOf93
  v76 := Try.zeroValue93
  t77 := Try.underlying94
  a77 := Try.isAgg94
  z77 := Try.sizeOf94
  v77 := Try.zeroValue94 }
def cmpInt_ren : Go.Shelf.Ren := ⟨fun | 5 => 25 | 7 => 28 | n => n, fun | 22 => 3 | 3 => 3 | 4 => 4 | n => n, fun | n => n⟩
theorem cmpInt : Go.Proofs.SlLaysC2.n5 Try.prog cmpInt_ren := {
  mixed := by kernel_rfl
  f5 := ⟨Try.f25.name, by decide, Try.func25.trans (congrArg some (by kernel_rfl))⟩
  f7 := ⟨Try.f28.name, by decide, Try.func28.trans (congrArg some (by kernel_rfl))⟩
  t3 := Try.underlying3
  a3 := Try.isAgg3
  z3 := Try.sizeOf3
  v3 := Try.zeroValue3
  t4 := Try.underlying4
  a4 := Try.isAgg4
  z4 := Try.sizeOf4
  v4 := Try.zeroValue4
  t22 := Try.underlying3
  a22 := Try.isAgg3
  z22 := Try.sizeOf3
  v22 := Try.zeroValue3 }
end Go.Proofs.Yteljkdihlklliaa
/- A slice of structs that the call owns, ahead of the library's sort and behind it. Plain laws on worlds. -/
namespace Go.Proofs.Yteljkdihlklliaa
open Go Go.RowKit Go.Sort Go.Proofs
set_option maxHeartbeats 400000
section
variable {α : Type} [Inhabited α] {enc : α → List Value} {k : Nat}
theorem flatK_list (hk : ∀ x, (enc x).length = k) (l : List α) : flatK enc k l.toArray = (l.flatMap enc).toArray := by
  refine ext_get! (by simp [flat_length hk]) fun t ht => ?_
  have ht' : t < l.length * k := by simpa using ht
  have k0 : 0 < k := by
    rcases Nat.eq_zero_or_pos k with h | h
    · subst h; simp at ht'
    · exact h
  have hq : t / k < l.length := (Nat.div_lt_iff_lt_mul k0).2 ht'
  have hm : t % k < k := Nat.mod_lt _ k0
  rw [get_flatK enc k _ t (by simpa using ht')]
  have e1 : l.toArray[t / k]! = l[t / k] := by simp [hq]
  have h := flat_get hk l (t / k) (t % k) l[t / k] (List.getElem?_eq_getElem hq) hm
  rw [show t / k * k + t % k = t by rw [Nat.mul_comm]; exact Nat.div_add_mod t k] at h
  rw [e1]
  have e2 : (l.flatMap enc).toArray[t]! = (l.flatMap enc)[t]! := by simp
  rw [e2, List.getElem!_eq_getElem?_getD, List.getElem!_eq_getElem?_getD, h]
theorem holdsK_own (hk : ∀ x, (enc x).length = k) {w : World} {base : Nat} {e : TypeId} {g cap : Nat} {l : List α} (h : w.ownsRow base e k (.slice (some ⟨g, 0, none⟩) l.length cap) l.length (l.flatMap enc)) : HoldsK enc k w g 0 l.toArray := by
  obtain ⟨hl, ⟨hv, _⟩ | ⟨g', cap', cur, hv, hbase, hb, h1, h2, h3, h4⟩⟩ := h
  · cases hv
  · injection hv with e1 _ _
    injection e1 with e1
    injection e1 with e1
    subst e1
    unfold HoldsK Holds
    rw [flatK_list hk]
    intro j hj
    have hj' : j < (l.flatMap enc).length := by simpa using hj
    refine ⟨?_, by simp [World.frozen?, hb]⟩
    have hjl : j < l.length * k := by rw [← hl]; exact hj'
    have e2 : (cur.toList.take (l.length * k))[j]? = (l.flatMap enc)[j]? := by rw [h4]
    rw [List.getElem?_take_of_lt hjl] at e2
    simp only [World.cell?, hb, Nat.zero_add]
    simp only [Option.isSome_none, Bool.false_eq_true, if_false]
    rw [← Array.getElem?_toList, e2]
    have e3 := List.getElem?_eq_getElem hj'
    simp [e3]
theorem heap_sortedK {w : World} {g n : Nat} {os : Array Obj} {cur : Array Value} {e : TypeId} {fr : Nat × Nat} (F : Array Value) (hb : w.heap[g]? = some (.cells cur e fr)) :
    (grow (putRow id (Sort.ahead w n) g 0 F) os).heap[g]? = some (.cells (putCells id 0 F cur) e fr) := by
  have hg : g < w.heap.size := (Array.getElem?_eq_some_iff.1 hb).1
  rw [heap_grow_old _ _ (by simpa using hg)]
  simp [putRow, mapBlock, Sort.ahead, Array.getElem?_modify, hb, onCells]
theorem grownBy_sortedK {w : World} {g n : Nat} {os : Array Obj} (F : Array Value) : w.grownBy (grow (putRow id (Sort.ahead w n) g 0 F) os) (some g) := by
  refine ⟨rfl, rfl, rfl, by simp, fun k hk hne => ?_⟩
  rw [heap_grow_old _ _ (by simpa using hk)]
  have : g ≠ k := fun e => hne (by rw [e])
  simp [putRow, mapBlock, Sort.ahead, Array.getElem?_modify, this]
theorem take_putCellsK (cur : Array Value) (F : List Value) (h : F.length ≤ cur.size) : (putCells id 0 F.toArray cur).toList.take F.length = F := by
  apply List.ext_getElem?
  intro j
  by_cases hj : j < F.length
  · rw [List.getElem?_take_of_lt hj, Array.getElem?_toList]
    simp [putCells, hj, show j < cur.size by omega]
  · rw [List.getElem?_take_eq_none (by omega), List.getElem?_eq_none (by omega)]
/-- behind the sort: the same slice owns the sorted things -/
theorem own_sortedK (hk : ∀ x, (enc x).length = k) {w : World} {base : Nat} {e : TypeId} {g cap n : Nat} {os : Array Obj} {l l' : List α} (hl : l'.length = l.length) (h : w.ownsRow base e k (.slice (some ⟨g, 0, none⟩) l.length cap) l.length (l.flatMap enc)) :
    (sortWorldK enc k w g 0 n l'.toArray os).ownsRow base e k (.slice (some ⟨g, 0, none⟩) l.length cap) l.length (l'.flatMap enc) ∧ w.grownBy (sortWorldK enc k w g 0 n l'.toArray os) (some g) := by
  have hw : sortWorldK enc k w g 0 n l'.toArray os = grow (putRow id (Sort.ahead w n) g 0 (l'.flatMap enc).toArray) os := by
    unfold sortWorldK putRowK
    rw [flatK_list hk]
  rw [hw]
  obtain ⟨hl0, ⟨hv, _⟩ | ⟨g', cap', cur, hv, hbase, hb, h1, h2, h3, h4⟩⟩ := h
  · cases hv
  · injection hv with e1 _ e3
    injection e1 with e1
    injection e1 with e1
    subst e1
    subst e3
    have hfl : (l'.flatMap enc).length = l.length * k := by rw [flat_length hk, hl]
    refine ⟨⟨hfl, .inr ⟨g, cap, _, rfl, hbase, heap_sortedK _ hb, h1, h2, by simp [putCells, h3], ?_⟩⟩, grownBy_sortedK _⟩
    rw [← hfl]
    exact take_putCellsK cur _ (by rw [hfl, h3]; exact Nat.mul_le_mul_right k h1)
end
end Go.Proofs.Yteljkdihlklliaa
/- The sort of downtracks by who is sent them: its closure, and slices.SortFunc at it, a slice that the call owns. No condition. -/
namespace Go.Proofs.Yteljkdihlklliaa
open Go Go.RowKit Go.Sort Go.Shelf Go.Lib Go.Proofs
set_option maxHeartbeats 400000
instance : Inhabited Dn := ⟨zDn⟩
def cfD (a b : Dn) : Int := Lib.compareInt a.who b.who
theorem ltD (x y : Dn) : ltOf cfD x y = decide (x.who < y.who) := by
  unfold ltOf cfD Lib.compareInt
  by_cases h1 : x.who < y.who
  · simp [h1]
  · by_cases h2 : y.who < x.who <;> simp [h1, h2]
theorem swoD : SWO (ltOf cfD) where
  irrefl x := by rw [ltD]; simp
  trans x y z h1 h2 := by rw [ltD] at *; simp at *; omega
  ntrans x y z h1 h2 := by rw [ltD] at *; simp at *; omega
set_option maxRecDepth 100000 in
set_option maxHeartbeats 1000000 in
theorem closureD (x y : Dn) (W : World) : Calls Try.prog 24 #[.agg (encDn x).toArray, .agg (encDn y).toArray] W fun e w' => e = .returned (.int .i64 (cfD x y)) ∧ ∃ q os', w' = grow (W.drewN q) os' := by
  have hcon := fun W' => AnyG.cmp_Compare_int cmpInt x.who y.who W'
  change ∀ W', Calls Try.prog 25 _ _ _ at hcon
  unfold cfD
  generalize Lib.compareInt x.who y.who = r at hcon ⊢
  obtain ⟨x0, x1, x2, x3, x4, x5, x6, x7, x8, x9⟩ := x
  obtain ⟨y0, y1, y2, y3, y4, y5, y6, y7, y8, y9⟩ := y
  unfold encDn
  dsimp only [List.toArray] at hcon ⊢
  go_enter Try.func24, Try.ntmps24
  go_wp2_with (go_at_call 25; refine (hcon _).mono ?_; rintro e w' ⟨rfl, rfl⟩)
  go_ret
  exact ⟨rfl, 0, _, by rw [alloc_eq_grow, alloc_eq_grow, grow_grow]; rfl⟩
theorem permIn_list {d d' : Array Dn} (h : PermIn 0 d.size d d') : d'.toList.Perm d.toList := by
  obtain ⟨hs, _, hp⟩ := h
  have e1 : d'.extract 0 d.size = d' := by rw [← hs]; simp
  have e2 : d.extract 0 d.size = d := by simp
  rwa [e1, e2] at hp
theorem sortedIn_list {d' : Array Dn} {n : Nat} (hn : d'.size = n) (h : SortedIn (ltOf cfD) 0 n d') : d'.toList.Pairwise (fun a b => a.who ≤ b.who) := by
  refine List.pairwise_iff_getElem.2 fun i j hi hj hij => ?_
  have hi' : i < d'.size := by simpa using hi
  have hj' : j < d'.size := by simpa using hj
  have := h i j (Nat.zero_le _) hij (by omega)
  rw [ltD, getElem!_pos d' i hi', getElem!_pos d' j hj'] at this
  have := of_decide_eq_false this
  simpa using this
/-- slices.SortFunc at a slice of downtracks that the call owns -/
theorem sort_any {w : World} {base : Nat} {A : Option Addr} {cap : Nat} {l : List Dn} (h : w.ownsRow base 41 10 (.slice A l.length cap) l.length (l.flatMap encDn)) (hl : l.length ≤ 100000) (fv : Value) (hfv : fv = .func (.func 24) #[] #[]) :
    Calls Try.prog 23 #[.slice A l.length cap, fv] w fun e w' => e = .returned (.tuple #[]) ∧ ∃ l' : List Dn, l'.Perm l ∧ l'.Pairwise (fun a b => a.who ≤ b.who) ∧
      w'.ownsRow base 41 10 (.slice A l.length cap) l.length (l'.flatMap encDn) ∧ w.grownBy w' (Value.slice A l.length cap).ownBlock := by
  subst hfv
  by_cases h0 : l.length = 0
  · have hl0 : l = [] := List.eq_nil_of_length_eq_zero h0
    subst hl0
    have hc := AnyF.slices_SortFunc_none sortDn A cap (.func (.func 24) #[] #[]) w
    refine Calls.mono hc ?_
    rintro e w' ⟨rfl, rfl⟩
    exact ⟨rfl, [], List.Perm.nil, List.Pairwise.nil, h, ⟨rfl, rfl, rfl, Nat.le_refl _, fun _ _ _ => rfl⟩⟩
  · rcases h.2 with ⟨hv, hn⟩ | ⟨g, cap', cur, hv, hbase, hb, h1, h2, h3, h4⟩
    · exact absurd hn h0
    injection hv with e1 e2 e3
    subst e1
    have hH := holdsK_own (enc := encDn) (k := 10) (fun _ => rfl) h
    have hg : g < w.heap.size := (Array.getElem?_eq_some_iff.1 hb).1
    have eg : ∀ args w, (callFunc 24 args).run Try.prog w = .ok (.enter 24 args) w := enters_of Try.func24 (by kernel_rfl) rfl
    have hc := AnyQ.slices_SortFunc sortDn 10 Try.isAgg41 Try.sizeOf41 encDn (fun _ => rfl) (fun x v hv => by simp [encDn] at hv; rcases hv with rfl | rfl | rfl | rfl | rfl | rfl | rfl | rfl | rfl | rfl <;> rfl) cfD swoD 24 #[] g 0 cap l.toArray w eg
      (fun _ _ _ _ x y => closureD x y _) hH hg (by simp; omega)
    have e0 : l.toArray.size = l.length := by simp
    rw [e0] at hc
    refine Calls.mono hc ?_
    rintro e w' ⟨rfl, d', n, os, hp, hs, rfl⟩
    have hsz : d'.size = l.length := by have := hp.1; simpa using this
    have hpl : d'.toList.Perm l := by
      have := permIn_list (d := l.toArray) (d' := d') (by rw [e0]; exact hp)
      simpa using this
    have hd : d' = d'.toList.toArray := by simp
    have ho := own_sortedK (enc := encDn) (k := 10) (fun _ => rfl) (n := n) (os := os) (l := l) (l' := d'.toList) (by rw [Array.length_toList, hsz]) h
    rw [← hd] at ho
    exact ⟨rfl, d'.toList, hpl, sortedIn_list hsz hs, ho.1, ho.2⟩
end Go.Proofs.Yteljkdihlklliaa
/- What a table tells: Downs, by a range over a map, in whatever order, and a sort. Condition: a table, or nil. -/
namespace Go.Proofs.Yteljkdihlklliaa
open Go Go.RowKit Go.Maps
set_option maxHeartbeats 400000
theorem infoDn : (Try.prog.info? 41).map (fun i => (i.zero, i.size, i.bytes)) = some (some (.agg #[.int .u32 0, .int .i64 0, .int .u32 0, .int .i64 0, .int .i64 0, .int .i64 0, .int .i64 0, .int .i64 0, .int .i64 0, .bool false]), 10, 80) := by kernel_rfl
theorem app_updT {w W w' : World} {N : Nat} {e : TypeId} {size n : Nat} {v : Value} {xs : List Value} (u : Upd [] w W) (ho : W.ownsRow N e size v n xs) (g : W.grownBy w' v.ownBlock) (hN : w.heap.size ≤ N) : Upd [] w w' :=
  Upd.of_below ((u.below (Nat.le_refl _) (by simp)).trans ((Upd.of_grown g).below u.size (fun s hs => Nat.le_trans hN (own_block_lt ho (by simpa using hs)).1)))
theorem blk_srcT {w : World} {g : Nat} {t : TypeId} {xs : List Value} (h : Blk w g t xs.toArray) : ∀ (j : Nat) (u : Value), xs[j]? = some u → w.cell? ((⟨g, 0, none⟩ : Addr).add j) = some u := by
  intro j u hj
  have := h.cell j
  rw [List.getElem?_toArray, hj] at this
  unfold Addr.add
  by_cases hj0 : j = 0
  · subst hj0; simpa using this
  · simpa [hj0] using this
theorem oneDn (a : Dn) : ∀ u ∈ encDn a, u.oneCell' = true := by
  intro u hu
  simp [encDn] at hu
  rcases hu with rfl | rfl | rfl | rfl | rfl | rfl | rfl | rfl | rfl | rfl <;> rfl
set_option maxRecDepth 100000 in
set_option maxHeartbeats 4000000 in
theorem downs_any {w : World} {N : Nat} {v : Value} {ep : Int} {rs : List Rt} {ds : List Dn} (h : IsTb w N v ep rs ds) (hl : ds.length ≤ 1000) {t : Int} :
    Calls Try.prog 18 #[v, .int .i64 t] w fun e w' => ∃ v2, e = .returned v2 ∧ w'.ownsRow w.heap.size 41 10 v2 (downsM t ds).length ((downsM t ds).flatMap encDn) ∧ Upd [] w w' := by
  rcases h with ⟨rfl, -, -, rfl⟩ | ⟨T, mr, md, rfl, h, -, hmd⟩
  · go_enter Try.func18, Try.ntmps18
    go_wp2
    refine bodyPost_res (v := .slice none 0 0) (by simp [results, Try.results18, go_sem]) rfl ?_
    first
      | exact ⟨_, rfl, World.ownsRow_nil _ _ _ _, Upd.refl _ _⟩
      | exact ⟨World.ownsRow_nil _ _ _ _, Upd.refl _ _⟩
  obtain ⟨j0, hj0, hy0, hy1, hy2⟩ := info_parts infoDn
  have t2 : w.cell? ⟨T, 2, none⟩ = some (.map (some md)) := h.blk.cell 2
  have HRT := Lib.hid h.dn
  have HM := Lib.hid hmd
  obtain ⟨D, hD⟩ : ∃ D, D = tab kDn vDn ds := ⟨_, rfl⟩
  rw [← hD] at HRT
  have HD := Lib.hid hD
  obtain ⟨n, hn⟩ : ∃ n, n = ds.length := ⟨_, rfl⟩
  rw [← hn] at HRT hl
  have HSZ : Hid (Maps.size D ≤ n) := Lib.hid HRT.out.size_le
  have HLT0 : Hid (md < w.heap.size) := Lib.hid HRT.out.lt
  obtain ⟨R, hR⟩ : ∃ R, R = w.heap.size := ⟨_, rfl⟩
  have HRS := Lib.hid hR
  clear h hmd hD hn
  go_enter Try.func18, Try.ntmps18
  go_wp2_with (at_range; refine wpList_range_own _ rfl _ 64 rfl 25 41 keyedU Try.underlying64 rV md n D rfl HRT.out ?_; intro w0 hrg0 hg0 hs0)
  go_frame
  rw [← hR] at hrg0 ⊢
  clear hR hs0 t2
  have HRG := Lib.hid hrg0
  have HU0 : Hid (Upd [] w w0) := Lib.hid (Upd.of_grown hg0)
  clear hrg0 hg0
  go_loopg [5] (Maps.size D) (fun gk x5 wr => ∃ (left : Lit → Bool) (cnt : Nat) (out : List Dn), wr.ranges Try.prog 25 rV md R n D left cnt ∧ cnt ≤ gk ∧ wr.ownsRow w.heap.size 41 10 x5 out.length (out.flatMap encDn) ∧
      (∀ x, x ∈ out ↔ x ∈ ds ∧ x.track = t ∧ left (kDn x) = false) ∧ out.Nodup ∧ out.length + cnt ≤ n ∧ Upd [] w wr)
  case atStart =>
    refine ⟨_, _, [], HRG.out, Nat.le_refl _, World.ownsRow_nil _ _ _ _, fun x => ?_, List.nodup_nil, by simpa using HSZ.out, HU0.out⟩
    constructor
    · intro hx; cases hx
    · rintro ⟨h1, -, h3⟩
      rw [HD.out, ((tab_cnt (k := kDn) (v := vDn) key_all ds).has_iff _).2 (List.mem_map.2 ⟨x, h1, rfl⟩)] at h3
      cases h3
  case round =>
    obtain ⟨left, cnt, out, hrg, hcg, hown, hmem, hnd, hlc, hu⟩ := hrel
    obtain ⟨Av, cv, hve, -⟩ := own_form hown
    subst hve
    have HMEM := Lib.hid hmem
    have HND := Lib.hid hnd
    have HU := Lib.hid hu
    have HCG := Lib.hid (And.intro hcg hlc)
    have HOW := Lib.hid hown
    clear HRG HU0 hmem hnd hu hcg hown
    go_wp2_with (at_next; refine wpList_next_ranges _ rfl _ rfl 25 keyedU rV (Value.int .u32) id invU invV md R n D left cnt rfl hrg ?_ ?_)
    · intro _ hl0
      have HEND : Hid (∀ x, x ∈ out ↔ x ∈ ds ∧ x.track = t) := Lib.hid (fun x => by rw [HMEM.out]; simp [hl0])
      have hol : out.length ≤ 100000 := by have := HCG.out.2; omega
      have HSO := Lib.hid (sort_any HOW.out hol _ rfl)
      clear hl0 hrg hol
      go_wp2_with fail
      refine HSO.out.mono ?_
      rintro _ w2 ⟨rfl, l', hp, hs, hown2, hg2⟩
      have he : l' = downsM t ds := downs_sorted HM.out.who (fun x => by rw [hp.mem_iff]; exact HEND.out x) (hp.nodup_iff.2 HND.out) hs
      have hle : (downsM t ds).length = out.length := by rw [← he]; exact hp.length_eq
      have HFIN : Hid (w2.ownsRow w.heap.size 41 10 (.slice Av out.length cv) (downsM t ds).length ((downsM t ds).flatMap encDn) ∧ Upd [] w w2) := Lib.hid (by
        rw [hle, ← he]
        exact ⟨hown2, app_updT HU.out HOW.out hg2 (Nat.le_refl _)⟩)
      clear hp hs hown2 hg2 he hle HSO
      go_wp2
      refine bodyPost_res (v := .slice Av out.length cv) (by simp [results, Try.results18, go_sem]) rfl ?_
      first
        | exact ⟨_, rfl, HFIN.out⟩
        | exact HFIN.out
    · intro x c kl yd yp w1 cnt1 hkey hlk hv hat hrg1 hlt hg1 hs1 hen
      rw [HD.out] at hat
      obtain ⟨a, ha, rfl, rfl, rfl⟩ := entry_is (y := (yd, yp)) (f := Dn.ssrc) (v := vDn) HM.out.one hkey hv hat
      have HU1 := Lib.hid (upd_grown HU.out hg1 (by rw [HRS.out]; exact Nat.le_refl _))
      have HR1 := Lib.hid hrg1
      have HOW1 := Lib.hid (HOW.out.kept hg1 (.inr (fun e => row_ne_iter HOW.out hrg e.symm)))
      have HA := Lib.hid ha
      have HLT := Lib.hid hlt
      have HLK := Lib.hid hlk
      unfold vDn encDn at hen
      dsimp only [id, List.toArray] at hen
      clear hkey hlk hv hat hrg1 hlt hg1 hs1 hrg ha HOW
      go_upto_region 7 with fail
      obtain ⟨rb, hrb⟩ : ∃ k, k = w1.heap.size := ⟨_, rfl⟩
      obtain ⟨W, hW⟩ : ∃ z, z = w1.alloc (.cells #[.int .u32 a.ssrc, .int .i64 a.slot, .int .u32 a.turn, .int .i64 a.who, .int .i64 a.track, .int .i64 a.shard, .int .i64 a.src, .int .i64 a.layer, .int .i64 a.tid, .bool a.muted] 41) := ⟨_, rfl⟩
      rw [← hW, ← hrb]
      have hbr : Blk W rb 41 #[.int .u32 a.ssrc, .int .i64 a.slot, .int .u32 a.turn, .int .i64 a.who, .int .i64 a.track, .int .i64 a.shard, .int .i64 a.src, .int .i64 a.layer, .int .i64 a.tid, .bool a.muted] := by rw [hW, hrb]; exact Blk.new _ _ _
      have HR2 : Hid (W.ranges Try.prog 25 rV md R n D (fun z => left z && !z.sameKey (kU a.ssrc)) cnt1) := Lib.hid (by rw [hW]; exact HR1.out.alloc _)
      have HU2 : Hid (Upd [] w W) := Lib.hid (by rw [hW]; exact HU1.out.alloc _)
      have HOW2 : Hid (W.ownsRow w.heap.size 41 10 (.slice Av out.length cv) out.length (out.flatMap encDn)) := Lib.hid (by rw [hW]; exact HOW1.out.alloc _)
      have HBR := Lib.hid hbr
      have r4 : W.cell? ⟨rb, 4, none⟩ = some (.int .i64 a.track) := hbr.cell 4
      have HLF : Hid (∀ x, x ∈ ds → ((left (kDn x) && !(kDn x).sameKey (kU a.ssrc)) = false ↔ left (kDn x) = false ∨ x = a)) := Lib.hid (fun x hx => by
        have hsk : (kDn x).sameKey (kU a.ssrc) = true ↔ x = a := by
          constructor
          · intro h
            exact HM.out.one.mem hx HA.out (kU_inj (WideAt.sameKey_eq h))
          · rintro rfl
            exact WideAt.sameKey_self trivial
        cases hq : left (kDn x) <;> simp [hsk])
      clear hbr hW hrb HR1 HU1 HOW1 hen
      by_cases k1 : a.track = t
      · have hb1 : (a.track == t) = true := by simp [k1]
        have HK := Lib.hid k1
        clear k1
        go_upto_region 8 with fail
        have z0 : W.cell? ⟨rb, 0, none⟩ = some (.int .u32 a.ssrc) := HBR.out.cell 0
        have z1 : W.cell? ⟨rb, 1, none⟩ = some (.int .i64 a.slot) := HBR.out.cell 1
        have z2 : W.cell? ⟨rb, 2, none⟩ = some (.int .u32 a.turn) := HBR.out.cell 2
        have z3 : W.cell? ⟨rb, 3, none⟩ = some (.int .i64 a.who) := HBR.out.cell 3
        have z4 : W.cell? ⟨rb, 4, none⟩ = some (.int .i64 a.track) := HBR.out.cell 4
        have z5 : W.cell? ⟨rb, 5, none⟩ = some (.int .i64 a.shard) := HBR.out.cell 5
        have z6 : W.cell? ⟨rb, 6, none⟩ = some (.int .i64 a.src) := HBR.out.cell 6
        have z7 : W.cell? ⟨rb, 7, none⟩ = some (.int .i64 a.layer) := HBR.out.cell 7
        have z8 : W.cell? ⟨rb, 8, none⟩ = some (.int .i64 a.tid) := HBR.out.cell 8
        have z9 : W.cell? ⟨rb, 9, none⟩ = some (.bool a.muted) := HBR.out.cell 9
        have HOA : Hid ((W.alloc (.cells #[.int .u32 a.ssrc, .int .i64 a.slot, .int .u32 a.turn, .int .i64 a.who, .int .i64 a.track, .int .i64 a.shard, .int .i64 a.src, .int .i64 a.layer, .int .i64 a.tid, .bool a.muted] 41)).ownsRow w.heap.size 41 10 (.slice Av out.length cv) out.length (out.flatMap encDn)) := Lib.hid (HOW2.out.alloc _)
        have HU3 : Hid (Upd [] w (W.alloc (.cells #[.int .u32 a.ssrc, .int .i64 a.slot, .int .u32 a.turn, .int .i64 a.who, .int .i64 a.track, .int .i64 a.shard, .int .i64 a.src, .int .i64 a.layer, .int .i64 a.tid, .bool a.muted] 41))) := Lib.hid (HU2.out.alloc _)
        have HR3 : Hid ((W.alloc (.cells #[.int .u32 a.ssrc, .int .i64 a.slot, .int .u32 a.turn, .int .i64 a.who, .int .i64 a.track, .int .i64 a.shard, .int .i64 a.src, .int .i64 a.layer, .int .i64 a.tid, .bool a.muted] 41)).ranges Try.prog 25 rV md R n D (fun z => left z && !z.sameKey (kU a.ssrc)) cnt1) := Lib.hid (HR2.out.alloc _)
        have HNEW := Lib.hid (blk_srcT (Blk.new W 41 #[.int .u32 a.ssrc, .int .i64 a.slot, .int .u32 a.turn, .int .i64 a.who, .int .i64 a.track, .int .i64 a.shard, .int .i64 a.src, .int .i64 a.layer, .int .i64 a.tid, .bool a.muted]))
        have HONE : Hid (∀ u ∈ ([.int .u32 a.ssrc, .int .i64 a.slot, .int .u32 a.turn, .int .i64 a.who, .int .i64 a.track, .int .i64 a.shard, .int .i64 a.src, .int .i64 a.layer, .int .i64 a.tid, .bool a.muted] : List Value), u.oneCell' = true) := Lib.hid (oneDn a)
        have hol : out.length ≤ 1000 := by have := HCG.out.2; omega
        clear HR2 HU2 HOW2 HBR r4
        go_wp2_with (at_builtin; refine wpList_append_own_at _ rfl (.tmp 23) (.tmp 25) 24 rfl w.heap.size 41 j0 _ 10 80 Try.underlying24 hj0 hy0 hy1 hy2 rfl (by decide) (.slice Av out.length cv) out.length (out.flatMap encDn) rfl HOA.out ⟨W.heap.size, 0, none⟩ 1 1 [.int .u32 a.ssrc, .int .i64 a.slot, .int .u32 a.turn, .int .i64 a.who, .int .i64 a.track, .int .i64 a.shard, .int .i64 a.src, .int .i64 a.layer, .int .i64 a.tid, .bool a.muted] rfl rfl HNEW.out HONE.out (by unfold maxLen; omega) (by omega) HU3.out.size ?_)
        intro v8 w8 hown8 hg8 _ hat8
        have HREL : Hid (w8.ownsRow w.heap.size 41 10 v8 (out ++ [a]).length ((out ++ [a]).flatMap encDn)) := Lib.hid (by
          rw [List.flatMap_append, List.length_append]
          have e : [a].flatMap encDn = encDn a := by simp
          rw [e]
          exact hown8)
        have HR8 := Lib.hid (HR3.out.kept hg8 (fun e => by have := row_ne_low HOA.out HLT0.out; exact this e) (row_ne_iter HOA.out HR3.out))
        have HU8 := Lib.hid (app_updT HU3.out HOA.out hg8 (Nat.le_refl _))
        obtain ⟨A8, c8, hv8, -⟩ := own_form hown8
        subst hv8
        clear hown8 hg8 hat8 HOA HU3 HR3 HNEW z0 z1 z2 z3 z4 z5 z6 z7 z8 z9
        go_wp2
        go_roundg (gk - 1)
        case measure => have := HCG.out; have := HLT.out; omega
        case rel =>
          refine ⟨_, _, out ++ [a], HR8.out, by have := HCG.out; have := HLT.out; omega, by rw [List.length_append] at HREL ⊢; exact HREL.out, fun x => ?_, ?_, ?_, HU8.out⟩
          · rw [List.mem_append, List.mem_singleton, HMEM.out]
            constructor
            · rintro (⟨h1, h2, h3⟩ | rfl)
              · exact ⟨h1, h2, (HLF.out x h1).2 (.inl h3)⟩
              · exact ⟨HA.out, HK.out, (HLF.out x HA.out).2 (.inr rfl)⟩
            · rintro ⟨h1, h2, h3⟩
              rcases (HLF.out x h1).1 h3 with h | h
              · exact .inl ⟨h1, h2, h⟩
              · exact .inr h
          · refine List.nodup_append.2 ⟨HND.out, by simp, fun x hx y hy => ?_⟩
            rw [List.mem_singleton] at hy
            subst hy
            rintro rfl
            have h3 := ((HMEM.out x).1 hx).2.2
            have h4 := HLK.out
            rw [show kDn x = kU x.ssrc from rfl, h4] at h3
            cases h3
          · rw [List.length_append, List.length_singleton]
            have := HCG.out.2
            have := HLT.out
            omega
      · have hb1 : (a.track == t) = false := beq_eq_false_iff_ne.2 k1
        have HK := Lib.hid k1
        clear k1
        go_wp2
        go_roundg (gk - 1)
        case measure => have := HCG.out; have := HLT.out; omega
        case rel =>
          refine ⟨_, _, out, HR2.out, by have := HCG.out; have := HLT.out; omega, HOW2.out, fun x => ?_, HND.out, by have := HCG.out.2; have := HLT.out; omega, HU2.out⟩
          rw [HMEM.out]
          constructor
          · rintro ⟨h1, h2, h3⟩
            exact ⟨h1, h2, (HLF.out x h1).2 (.inl h3)⟩
          · rintro ⟨h1, h2, h3⟩
            rcases (HLF.out x h1).1 h3 with h | h
            · exact ⟨h1, h2, h⟩
            · subst h; exact absurd h2 HK.out
end Go.Proofs.Yteljkdihlklliaa
/- The laws' 'awake': the document's example. No condition. -/
namespace Go.Proofs.Yteljkdihlklliaa
open Go Go.RowKit Go.Maps
set_option maxHeartbeats 400000
def rA : Rt := ⟨5, 1, 0, 0, 0⟩
def dA : Dn := ⟨2147483648, 0, 0, 9, 1, 0, 0, 0, 0, false⟩
def dB : Dn := ⟨2147483649, 1, 0, 4, 1, 0, 0, 0, 0, false⟩
theorem CellsIn.of_blk {w : World} {g : Nat} {e : TypeId} {size n : Nat} {xs : List Value} (h : Blk w g e xs.toArray) (hl : xs.length = n * size) : CellsIn w 0 w.heap.size size (some ⟨g, 0, none⟩) n xs :=
  ⟨hl, fun _ => ⟨g, 0, rfl, Nat.zero_le _, h.lt, fun j u hj => by
    rw [Nat.zero_add, h.cell j]
    simpa using hj⟩⟩
theorem mayA : MayR [rA] ∧ MayD [dA, dB] :=
  ⟨⟨fun r hr => by simp at hr; subst hr; decide, by unfold Uniq; decide, by unfold Uniq; decide⟩,
   ⟨fun d hd => by simp at hd; rcases hd with rfl | rfl <;> decide, by unfold Uniq; decide, by unfold Uniq; decide, by unfold Uniq; decide⟩⟩
theorem downsA : downsM 1 [dA, dB] = [dB, dA] := rfl
set_option maxRecDepth 100000 in
set_option maxHeartbeats 4000000 in
theorem awake_any (w : World) : Calls Try.prog 7 #[] w fun e w' => e = .returned (.bool true) ∧ Upd [] w w' := by
  obtain ⟨g1, hg1⟩ : ∃ g, g = w.heap.size := ⟨_, rfl⟩
  obtain ⟨g2, hg2⟩ : ∃ g, g = w.heap.size + 1 := ⟨_, rfl⟩
  obtain ⟨w1, hw1⟩ : ∃ z, z = w.alloc (.cells #[.int .u32 5, .int .i64 1, .int .i64 0, .int .i64 0, .int .i64 0] 37) := ⟨_, rfl⟩
  obtain ⟨W, hW⟩ : ∃ z, z = w1.alloc (.cells #[.int .u32 2147483648, .int .i64 0, .int .u32 0, .int .i64 9, .int .i64 1, .int .i64 0, .int .i64 0, .int .i64 0, .int .i64 0, .bool false, .int .u32 2147483649, .int .i64 1, .int .u32 0, .int .i64 4, .int .i64 1, .int .i64 0, .int .i64 0, .int .i64 0, .int .i64 0, .bool false] 41) := ⟨_, rfl⟩
  have s1 : w1.heap.size = g2 := by rw [hw1, World.size_alloc, hg2]
  have u2 : Upd [] w1 W := by rw [hW]; exact (Upd.refl [] w1).alloc _
  have hb1 : CellsIn W 0 W.heap.size 5 (some ⟨g1, 0, none⟩) [rA].length ([rA].flatMap encRt) := CellsIn.of_blk (e := 37) (by
    have : Blk w1 g1 37 #[.int .u32 5, .int .i64 1, .int .i64 0, .int .i64 0, .int .i64 0] := by rw [hw1, hg1]; exact Blk.new _ _ _
    exact this.upd u2 (by simp)) rfl
  have hb2 : CellsIn W 0 W.heap.size 10 (some ⟨g2, 0, none⟩) [dA, dB].length ([dA, dB].flatMap encDn) := CellsIn.of_blk (e := 41) (by
    show Blk W g2 41 #[.int .u32 2147483648, .int .i64 0, .int .u32 0, .int .i64 9, .int .i64 1, .int .i64 0, .int .i64 0, .int .i64 0, .int .i64 0, .bool false, .int .u32 2147483649, .int .i64 1, .int .u32 0, .int .i64 4, .int .i64 1, .int .i64 0, .int .i64 0, .int .i64 0, .int .i64 0, .bool false]
    rw [hW, ← s1]
    exact Blk.new _ _ _) rfl
  have HU : Hid (Upd [] w W) := Lib.hid (Upd.next (by rw [hw1]; exact (Upd.refl [] w).alloc _) u2)
  have HMK := Lib.hid (make_any (w := W) (ca := 1) (cb := 2) 3 hb1 hb2 (fun r hr => by simp at hr; subst hr; exact ⟨⟨by decide, by decide⟩, ⟨by decide, by decide⟩, ⟨by decide, by decide⟩, ⟨by decide, by decide⟩, ⟨by decide, by decide⟩⟩)
    (fun d hd => by simp at hd; rcases hd with rfl | rfl <;> exact ⟨⟨by decide, by decide⟩, ⟨by decide, by decide⟩, ⟨by decide, by decide⟩, ⟨by decide, by decide⟩, ⟨by decide, by decide⟩, ⟨by decide, by decide⟩, ⟨by decide, by decide⟩, ⟨by decide, by decide⟩, ⟨by decide, by decide⟩⟩) (by decide) (by decide))
  clear hb1 hb2 u2 s1
  go_enter Try.func7, Try.ntmps7
  go_wp2_with fail
  rw [← hw1, ← hg2, ← hW, ← hg1]
  refine HMK.out.mono ?_
  rintro e w2 ⟨hu, ⟨-, T, mr, md, rfl, hist⟩ | ⟨hno, -⟩⟩
  rotate_left
  · exact absurd mayA hno
  obtain ⟨N, hN⟩ : ∃ N, N = W.heap.size := ⟨_, rfl⟩
  have HTB : Hid (IsTb w2 N (.pointer (some ⟨T, 0, none⟩)) 3 [rA] [dA, dB]) := Lib.hid (.inr ⟨T, mr, md, rfl, by rw [hN]; exact hist, mayA⟩)
  have HU2 := Lib.hid (HU.out.next hu)
  have HDW := Lib.hid (downs_any (t := 1) HTB.out (by decide))
  rw [downsA] at HDW
  clear hu hist HMK hN hw1 hg2 hW hg1
  go_wp2_with fail
  refine HDW.out.mono ?_
  rintro _ w3 ⟨v3, rfl, hown, hu3⟩
  obtain ⟨A3, c3, hv3, -, hA3, -⟩ := own_form hown
  subst hv3
  obtain ⟨g, rfl, -, hg3⟩ := hA3 (by decide)
  have q1 : w3.cell? ⟨g, 3, none⟩ = some (.int .i64 4) := by simpa [Addr.add] using hown.cells (g := g) rfl 3 (.int .i64 4) rfl
  have q2 : w3.cell? ⟨g, 13, none⟩ = some (.int .i64 9) := by simpa [Addr.add] using hown.cells (g := g) rfl 13 (.int .i64 9) rfl
  have HTB3 := Lib.hid (HTB.out.upd hu3)
  have HU3 := Lib.hid (HU2.out.next hu3)
  have HRO := Lib.hid (route_any HTB3.out (s := 5) ⟨by decide, by decide⟩)
  rw [show routeM [rA] 5 = some rA from rfl] at HRO
  have HQ := Lib.hid (And.intro q1 (And.intro q2 hg3))
  clear hown hu3 HDW HTB q1 q2 hg3
  simp only [Option.getD_some, Option.isSome_some, encRt, rA] at HRO
  go_wp2_with fail
  refine HRO.out.mono ?_
  rintro _ w4 ⟨rfl, hu4⟩
  obtain ⟨b4, hb4⟩ : ∃ b, b = w4.heap.size := ⟨_, rfl⟩
  obtain ⟨w5, hw5⟩ : ∃ z, z = w4.alloc (.cells #[.int .u32 5, .int .i64 1, .int .i64 0, .int .i64 0, .int .i64 0] 37) := ⟨_, rfl⟩
  have hu5 : Upd [] w3 w5 := hu4.next (by rw [hw5]; exact (Upd.refl [] w4).alloc _)
  have HB5 : Hid (Blk w5 b4 37 #[.int .u32 5, .int .i64 1, .int .i64 0, .int .i64 0, .int .i64 0]) := Lib.hid (by rw [hw5, hb4]; exact Blk.new _ _ _)
  have HU5 := Lib.hid (HU3.out.next hu5)
  have HTB5 := Lib.hid (HTB3.out.upd hu5)
  have HQ5 : Hid (w5.cell? ⟨g, 3, none⟩ = some (.int .i64 4) ∧ w5.cell? ⟨g, 13, none⟩ = some (.int .i64 9) ∧ g < w5.heap.size) := Lib.hid ⟨(hu5.cell (p := ⟨g, 3, none⟩) HQ.out.2.2 (by simp)).trans HQ.out.1, (hu5.cell (p := ⟨g, 13, none⟩) HQ.out.2.2 (by simp)).trans HQ.out.2.1, Nat.lt_of_lt_of_le HQ.out.2.2 hu5.size⟩
  have HSO := Lib.hid (source_any HTB5.out (t := 1) (l := 0))
  rw [show sourceM [rA] 1 0 = some rA from rfl] at HSO
  simp only [Option.map_some, Option.getD_some, Option.isSome_some, rA] at HSO
  clear hu4 hu5 HRO HTB3 HU3 HQ
  go_upto_region 4 with fail
  rw [← hw5, ← hb4]
  clear hw5 hb4
  go_wp2_with fail
  refine HSO.out.mono ?_
  rintro _ w6 ⟨rfl, hu6⟩
  have HTB6 := Lib.hid (HTB5.out.upd hu6)
  have HU6 := Lib.hid (HU5.out.next hu6)
  have HB6 := Lib.hid (HB5.out.upd hu6 (by simp))
  have HQ6 : Hid (w6.cell? ⟨g, 3, none⟩ = some (.int .i64 4) ∧ w6.cell? ⟨g, 13, none⟩ = some (.int .i64 9) ∧ g < w6.heap.size) := Lib.hid ⟨(hu6.cell (p := ⟨g, 3, none⟩) HQ5.out.2.2 (by simp)).trans HQ5.out.1, (hu6.cell (p := ⟨g, 13, none⟩) HQ5.out.2.2 (by simp)).trans HQ5.out.2.1, Nat.lt_of_lt_of_le HQ5.out.2.2 hu6.size⟩
  have HOW := Lib.hid (own_any HTB6.out (s := 5) ⟨by decide, by decide⟩)
  rw [show ownM [dA, dB] 5 = none from rfl] at HOW
  simp only [Option.getD_none, Option.isSome_none, encDn, zDn] at HOW
  clear hu6 HSO HTB5 HU5 HB5 HQ5
  go_wp2_with fail
  refine HOW.out.mono ?_
  rintro _ w7 ⟨rfl, hu7⟩
  obtain ⟨w8, hw8⟩ : ∃ z, z = w7.alloc (.cells #[.int .u32 0, .int .i64 0, .int .u32 0, .int .i64 0, .int .i64 0, .int .i64 0, .int .i64 0, .int .i64 0, .int .i64 0, .bool false] 41) := ⟨_, rfl⟩
  have hu8 : Upd [] w6 w8 := hu7.next (by rw [hw8]; exact (Upd.refl [] w7).alloc _)
  have HU8 := Lib.hid (HU6.out.next hu8)
  have HTB8 := Lib.hid (HTB6.out.upd hu8)
  have e1 : w8.cell? ⟨b4, 1, none⟩ = some (.int .i64 1) := (HB6.out.upd hu8 (by simp)).cell 1
  have q1 : w8.cell? ⟨g, 3, none⟩ = some (.int .i64 4) := (hu8.cell (p := ⟨g, 3, none⟩) HQ6.out.2.2 (by simp)).trans HQ6.out.1
  have q2 : w8.cell? ⟨g, 13, none⟩ = some (.int .i64 9) := (hu8.cell (p := ⟨g, 13, none⟩) HQ6.out.2.2 (by simp)).trans HQ6.out.2.1
  have HEP := Lib.hid (epoch_any HTB8.out)
  have HLE := Lib.hid (len_any HTB8.out)
  clear hu7 hu8 HOW HTB6 HU6 HB6 HQ6
  go_upto_region 6 with fail
  rw [← hw8]
  clear hw8
  go_wp2_with fail
  refine HEP.out.mono ?_
  rintro _ w9 ⟨rfl, rfl⟩
  go_wp2_with fail
  refine HLE.out.mono ?_
  rintro _ w9 ⟨rfl, rfl⟩
  go_wp2
  exact bodyPost_res (v := .bool true) (by simp [results, Try.results7, go_sem]) rfl ⟨rfl, HU8.out⟩
end Go.Proofs.Yteljkdihlklliaa
/- table.Make, as a table or nil; and what the laws' walks want of slices. Conditions: numbers of their types; no more than 1000. -/
namespace Go.Proofs.Yteljkdihlklliaa
open Go Go.RowKit Go.Maps
set_option maxHeartbeats 400000
theorem make_tb {w : World} {A B : Option Addr} {ca cb : Nat} {rs : List Rt} {ds : List Dn} (ep : Int) (hA : CellsIn w 0 w.heap.size 5 A rs.length (rs.flatMap encRt)) (hB : CellsIn w 0 w.heap.size 10 B ds.length (ds.flatMap encDn))
    (hr : ∀ r, r ∈ rs → r.Ok) (hd : ∀ d, d ∈ ds → d.Ok) (hlr : rs.length ≤ 1000) (hld : ds.length ≤ 1000) :
    Calls Try.prog 8 #[.int .u64 ep, .slice A rs.length ca, .slice B ds.length cb] w fun e w' => ∃ (v : Value) (er : Int), e = .returned (.tuple #[v, .int .i64 er]) ∧ Upd [] w w' ∧
      ((er = 0 ∧ (MayR rs ∧ MayD ds) ∧ IsTb w' w.heap.size v ep rs ds) ∨ (er = 1 ∧ ¬ (MayR rs ∧ MayD ds) ∧ v = .pointer none ∧ IsTb w' w.heap.size v 0 [] [])) := by
  refine (make_any (ca := ca) (cb := cb) ep hA hB hr hd hlr hld).mono ?_
  rintro e w' ⟨hu, ⟨hm, T, mr, md, rfl, ht⟩ | ⟨hm, rfl⟩⟩
  · exact ⟨_, 0, rfl, hu, .inl ⟨rfl, hm, .inr ⟨T, mr, md, rfl, ht, hm⟩⟩⟩
  · exact ⟨_, 1, rfl, hu, .inr ⟨rfl, hm, rfl, .inl ⟨rfl, rfl, rfl, rfl⟩⟩⟩
/-- a slice of structs that came in, behind whatever has been done to other blocks -/
theorem CellsIn.later {w w' : World} {size n : Nat} {A : Option Addr} {xs : List Value} (h : CellsIn w 0 w.heap.size size A n xs) (u : Upd [] w w') : CellsIn w' 0 w'.heap.size size A n xs :=
  ⟨h.1, fun hn => by
    obtain ⟨b, off, e, h1, h2, hc⟩ := h.2 hn
    exact ⟨b, off, e, h1, Nat.lt_of_lt_of_le h2 u.size, fun j v hv => (u.cell (p := ⟨b, off + j, none⟩) h2 (by simp)).trans (hc j v hv)⟩⟩
theorem CellsIn.of_cells0 {w : World} {size n : Nat} {A : Option Addr} {xs : List Value} (h : Cells w w.heap.size size A n xs) : CellsIn w 0 w.heap.size size A n xs := by
  refine ⟨h.1, fun hn => ?_⟩
  obtain ⟨b, off, e, hlt, hc⟩ := h.2 hn
  exact ⟨b, off, e, Nat.zero_le _, hlt, hc⟩
theorem CellsIn.of_row {w : World} {N : Nat} {e : TypeId} {size n c : Nat} {A : Option Addr} {xs : List Value} (h : w.ownsRow N e size (.slice A n c) n xs) : CellsIn w 0 w.heap.size size A n xs := by
  rcases h.2 with ⟨hv, rfl⟩ | ⟨g, cap, cur, hv, hg, hh, h1, h2, h3, h4⟩
  · exact ⟨h.1, fun hn => absurd hn (Nat.lt_irrefl 0)⟩
  · injection hv with e1 _ _
    subst e1
    refine ⟨h.1, fun _ => ⟨g, 0, rfl, Nat.zero_le _, (Array.getElem?_eq_some_iff.1 hh).1, fun j u hj => ?_⟩⟩
    have := h.cells (g := g) rfl j u hj
    by_cases h0 : j = 0
    · subst h0; exact this
    · simpa [Addr.add, h0] using this
theorem infoRt : (Try.prog.info? 37).map (fun i => (i.zero, i.size, i.bytes)) = some (some (.agg #[.int .u32 0, .int .i64 0, .int .i64 0, .int .i64 0, .int .i64 0]), 5, 40) := by kernel_rfl
theorem oneRt (a : Rt) : ∀ u ∈ encRt a, u.oneCell' = true := by
  intro u hu
  simp [encRt] at hu
  rcases hu with rfl | rfl | rfl | rfl | rfl <;> rfl
end Go.Proofs.Yteljkdihlklliaa
/- Are two downtracks one? The program's == at table.Down. Condition: numbers of their types. -/
namespace Go.Proofs.Yteljkdihlklliaa
open Go Go.RowKit Go.Maps Go.WideMaps
set_option maxHeartbeats 400000
theorem sizeT3 : ∃ n, Try.prog.types.size = n + 1 + 1 + 1 := ⟨Try.prog.types.size - 3, by
  have h : decide (3 ≤ Try.prog.types.size) = true := by kernel_rfl
  have := of_decide_eq_true h
  omega⟩
theorem keyOf_D {d : Dn} (h : d.Ok) : ∃ l, keyOf Try.prog 41 (.agg (encDn d).toArray) = some l := by
  obtain ⟨n, hn⟩ := sizeT3
  obtain ⟨x0, x1, x2, x3, x4, x5, x6, x7, x8, x9⟩ := d
  obtain ⟨h0, h1, h2, h3, h4, h5, h6, h7, h8⟩ := h
  dsimp only at h0 h1 h2 h3 h4 h5 h6 h7 h8
  have k1 : Try.prog.keyType 41 = true := by kernel_rfl
  have k2 : Try.prog.cellsOf 41 = 10 := by kernel_rfl
  have k3 : Try.prog.cellsOf 3 = 1 := by kernel_rfl
  have k4 : Try.prog.cellsOf 25 = 1 := by kernel_rfl
  have k5 : Try.prog.cellsOf 39 = 2 := by kernel_rfl
  have k6 : Try.prog.cellsOf 4 = 1 := by kernel_rfl
  unfold keyOf
  rw [Try.underlying41]
  dsimp only
  rw [hn, k1]
  simp [Value.formed, encDn, Try.underlying41, Try.underlying39, Try.underlying3, Try.underlying25, Try.underlying4, Program.keyLits, k2, k3, k4, k5, k6, wf_u h0, wf_i h1, wf_u h2, wf_i h3, wf_i h4, wf_i h5, wf_i h6, wf_i h7, wf_i h8, Value.cells]
  rw [if_pos (by decide)]
  exact ⟨_, rfl⟩
theorem lawD : KeyLaw Try.prog 41 := deep_law_laid laidT (m := 3) (by omega) (of_decide_eq_true (by kernel_rfl)) (by kernel_rfl) (by rw [Try.underlying41])
theorem eq_dn {x y : Dn} (hx : x.Ok) (hy : y.Ok) : ∃ r : Bool, (∀ w : World, (binOp .eql 41 (.agg (encDn x).toArray) (.agg (encDn y).toArray)).run Try.prog w = .ok (.bool r) w) ∧ (r = true ↔ x = y) := by
  classical
  obtain ⟨lx, h1⟩ := keyOf_D hx
  obtain ⟨ly, h2⟩ := keyOf_D hy
  refine ⟨decide (lx = ly), fun w => ?_, ?_⟩
  · obtain ⟨r, hr, hi⟩ := run_equal_deep w (m := 3) (by omega) (k := 41) (by kernel_rfl) (by rw [Try.underlying41]) h1 h2
    have e : r = decide (lx = ly) := by
      rw [Bool.eq_iff_iff, hi]; simp
    subst e
    simp [binOp, hr, Result.andThen]
  · constructor
    · intro h
      have e : lx = ly := by simpa using h
      subst e
      have := lawD.inj h1 h2
      injection this with this
      exact encDn_inj (by simpa using this)
    · rintro rfl
      rw [h1] at h2
      simpa using Option.some.inj h2
end Go.Proofs.Yteljkdihlklliaa
