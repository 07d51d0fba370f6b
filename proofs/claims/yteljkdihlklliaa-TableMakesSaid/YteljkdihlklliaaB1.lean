/- Parts of the proof, one behind the other: TMap, TModel, TKeys, Tail, Words, TEntry, Cells, Flat, Tail2, Tail3, Tail4. No condition of their own. -/
import Derived.Maps.OwnSet
import Derived.Test.YteljkdihlklliaaProg
import Derived.DeepKeys5
import Derived.WideKeyEntry
import Derived.StillTail
import Derived.Deep.Quiet
import Derived.Deep.QuietTactic
import Derived.BigQuiet
import Derived.WalkKit
import Derived.WalkSpells
import Derived.WalkLawsBesides
import Derived.Lib.Hide
import Derived.Maps.AppendAt
import Derived.Laws.AppendOwnNone
import Derived.OrdersHeld
/- Maps as lists of keys: how many there are, which are there, what stands at each. Plain laws, no program in sight. -/
namespace Go.Proofs.Yteljkdihlklliaa
open Go Go.Maps
set_option maxHeartbeats 400000
/-- an element reads as itself -/
def rV (v : Value) : Option (DataW Value × List MemPlace) := some (.held v, [])
/-- a map that was filled at these keys, one behind the other -/
structure Cnt (D : DataW Value) (ks : List Lit) : Prop where
  tidy : Tidy D
  has_iff : ∀ x, has D x = true ↔ x ∈ ks
  le : size D ≤ ks.length
  eq : size D = ks.length ↔ ks.Nodup
theorem cnt_nil : Cnt (.map []) [] := ⟨tidy_empty, fun x => by simp [has], Nat.le_refl _, by simp [size]⟩
theorem Cnt.put {D : DataW Value} {ks : List Lit} (h : Cnt D ks) {k : Lit} (hk : WideAt.IsKeyLit k) (d : DataW Value) : Cnt (D.put k d) (ks ++ [k]) := by
  have hs := size_put (k := k) h.tidy d
  have hl := h.le
  have he := h.eq
  refine ⟨h.tidy.put hk d, fun x => ?_, ?_, ?_⟩
  · by_cases hx : x = k
    · subst hx
      simp [has_put_same h.tidy.isMap hk d]
    · rw [has_put_other hx, h.has_iff]
      simp [hx]
  · rw [List.length_append, List.length_singleton, hs]
    split <;> omega
  · rw [List.length_append, List.length_singleton, hs, List.nodup_append]
    by_cases hh : has D k = true
    · rw [if_pos hh]
      have hm := (h.has_iff k).1 hh
      constructor
      · intro e; omega
      · intro ⟨_, _, h3⟩
        exact absurd rfl (h3 k hm k (by simp))
    · rw [if_neg hh]
      have hm : k ∉ ks := fun hm => hh ((h.has_iff k).2 hm)
      constructor
      · intro e
        refine ⟨he.1 (by omega), by simp, fun a ha b hb => ?_⟩
        rw [List.mem_singleton] at hb
        subst hb
        intro e2
        subst e2
        exact hm ha
      · intro ⟨h1, _, _⟩
        have := he.2 h1
        omega
theorem cnt2 {D1 D2 : DataW Value} {k1 k2 : List Lit} {n : Nat} (h1 : Cnt D1 k1) (h2 : Cnt D2 k2) (l1 : k1.length = n) (l2 : k2.length = n) : ¬ (size D1 + size D2 < 2 * n) ↔ k1.Nodup ∧ k2.Nodup := by
  rw [← h1.eq, ← h2.eq]
  have a := h1.le
  have b := h2.le
  omega
theorem cnt3 {D1 D2 D3 : DataW Value} {k1 k2 k3 : List Lit} {n : Nat} (h1 : Cnt D1 k1) (h2 : Cnt D2 k2) (h3 : Cnt D3 k3) (l1 : k1.length = n) (l2 : k2.length = n) (l3 : k3.length = n) : ¬ (size D1 + size D2 + size D3 < 3 * n) ↔ k1.Nodup ∧ k2.Nodup ∧ k3.Nodup := by
  rw [← h1.eq, ← h2.eq, ← h3.eq]
  have a := h1.le
  have b := h2.le
  have c := h3.le
  omega
theorem nodup_via {α β γ : Type} (f : α → β) {g : β → γ} : ∀ (l : List α), (∀ a, a ∈ l → ∀ b, b ∈ l → g (f a) = g (f b) → f a = f b) → ((l.map (fun a => g (f a))).Nodup ↔ (l.map f).Nodup)
  | [], _ => by simp
  | a :: l, hg => by
    rw [List.map_cons, List.map_cons, List.nodup_cons, List.nodup_cons, nodup_via f l (fun x hx y hy => hg x (List.mem_cons_of_mem _ hx) y (List.mem_cons_of_mem _ hy))]
    have e : g (f a) ∈ l.map (fun a => g (f a)) ↔ f a ∈ l.map f := by
      constructor
      · intro h
        obtain ⟨b, hb, he⟩ := List.mem_map.1 h
        exact List.mem_map.2 ⟨b, hb, hg b (List.mem_cons_of_mem _ hb) a (by simp) he⟩
      · intro h
        obtain ⟨b, hb, he⟩ := List.mem_map.1 h
        exact List.mem_map.2 ⟨b, hb, by rw [he]⟩
    rw [e]
theorem nodup_inj {β : Type} {l : List β} (h : l.Nodup) {i j : Nat} (hi : i < l.length) (hj : j < l.length) (e : l[i] = l[j]) : i = j := by
  rcases Nat.lt_trichotomy i j with hlt | rfl | hlt
  · exact absurd e (List.pairwise_iff_getElem.1 h i j hi hj hlt)
  · rfl
  · exact absurd e.symm (List.pairwise_iff_getElem.1 h j i hj hi hlt)
section
variable {α : Type}
/-- a map of things, each at its key -/
def tab (k : α → Lit) (v : α → Value) (l : List α) : DataW Value := l.foldl (fun D a => D.put (k a) (.held (v a))) (.map [])
theorem tab_snoc (k : α → Lit) (v : α → Value) (l : List α) (a : α) : tab k v (l ++ [a]) = (tab k v l).put (k a) (.held (v a)) := by simp [tab, List.foldl_append]
theorem tab_cnt {k : α → Lit} {v : α → Value} (hk : ∀ a, WideAt.IsKeyLit (k a)) (l : List α) : Cnt (tab k v l) (l.map k) := by
  have : ∀ n, n ≤ l.length → Cnt (tab k v (l.take n)) ((l.take n).map k) := by
    intro n
    induction n with
    | zero => intro _; exact cnt_nil
    | succ n ih =>
      intro hn
      obtain ⟨a, ha⟩ : ∃ a, l[n]? = some a := ⟨_, List.getElem?_eq_getElem (by omega)⟩
      have e : l.take (n + 1) = l.take n ++ [a] := by rw [List.take_add_one, ha]; rfl
      rw [e, tab_snoc, List.map_append]
      exact (ih (by omega)).put (hk a) _
  have h := this l.length (Nat.le_refl _)
  rwa [List.take_length] at h
/-- what stands at a key of a map in which no key was told twice -/
theorem tab_at {k : α → Lit} {v : α → Value} (hk : ∀ a, WideAt.IsKeyLit (k a)) {l : List α} (hn : (l.map k).Nodup) {a : α} (ha : a ∈ l) (z : DataW Value) : (tab k v l).atKey (k a) z = .held (v a) := by
  have : ∀ n, n ≤ l.length → a ∈ l.take n → (tab k v (l.take n)).atKey (k a) z = .held (v a) := by
    intro n
    induction n with
    | zero => intro _ h; simp at h
    | succ n ih =>
      intro hl h
      obtain ⟨b, hb⟩ : ∃ b, l[n]? = some b := ⟨_, List.getElem?_eq_getElem (by omega)⟩
      have e : l.take (n + 1) = l.take n ++ [b] := by rw [List.take_add_one, hb]; rfl
      rw [e] at h ⊢
      rw [tab_snoc]
      by_cases hab : k a = k b
      · have hab' : a = b := by
          obtain ⟨i, hi, rfl⟩ := List.getElem_of_mem ha
          obtain ⟨hn', rfl⟩ := List.getElem?_eq_some_iff.1 hb
          have h1 : (l.map k)[i]'(by simpa using hi) = (l.map k)[n]'(by simpa using hn') := by simpa using hab
          have := nodup_inj hn _ _ h1
          subst this
          rfl
        subst hab'
        exact atKey_put_same ((tab_cnt hk _).tidy.isMap) (hk a) _ _
      · rcases List.mem_append.1 h with h | h
        · rw [atKey_put_other hab]
          exact ih (by omega) h
        · rw [List.mem_singleton] at h
          subst h
          exact absurd rfl hab
  have h := this l.length (Nat.le_refl _)
  rw [List.take_length] at h
  exact h ha
theorem tab_none {k : α → Lit} {v : α → Value} (hk : ∀ a, WideAt.IsKeyLit (k a)) {l : List α} {x : Lit} (hx : x ∉ l.map k) (z : DataW Value) : (tab k v l).atKey x z = z :=
  atKey_of_not_has (by
    have := (tab_cnt (v := v) hk l).has_iff x
    cases hh : has (tab k v l) x
    · rfl
    · exact absurd (this.1 hh) hx) z
/-- whatever stands there was told -/
theorem tab_mem {k : α → Lit} {v : α → Value} (hk : ∀ a, WideAt.IsKeyLit (k a)) {l : List α} {x : Lit} (hn : (l.map k).Nodup) (hx : has (tab k v l) x = true) : ∃ a, a ∈ l ∧ k a = x ∧ ∀ z, (tab k v l).atKey x z = .held (v a) := by
  obtain ⟨a, ha, rfl⟩ := List.mem_map.1 (((tab_cnt hk l).has_iff x).1 hx)
  exact ⟨a, ha, rfl, fun z => tab_at hk hn ha z⟩
end
end Go.Proofs.Yteljkdihlklliaa
/- Routes and downtracks as lists; what a table is made of, and what it tells. Plain laws, no program in sight. -/
namespace Go.Proofs.Yteljkdihlklliaa
open Go
set_option maxHeartbeats 400000
structure Rt where
  ssrc : Int
  track : Int
  src : Int
  layer : Int
  shard : Int
structure Dn where
  ssrc : Int
  slot : Int
  turn : Int
  who : Int
  track : Int
  shard : Int
  src : Int
  layer : Int
  tid : Int
  muted : Bool
def encRt (r : Rt) : List Value := [.int .u32 r.ssrc, .int .i64 r.track, .int .i64 r.src, .int .i64 r.layer, .int .i64 r.shard]
def encDn (d : Dn) : List Value := [.int .u32 d.ssrc, .int .i64 d.slot, .int .u32 d.turn, .int .i64 d.who, .int .i64 d.track, .int .i64 d.shard, .int .i64 d.src, .int .i64 d.layer, .int .i64 d.tid, .bool d.muted]
def I64 (x : Int) : Prop := -9223372036854775808 ≤ x ∧ x ≤ 9223372036854775807
def U32n (x : Int) : Prop := 0 ≤ x ∧ x ≤ 4294967295
/-- numbers of their types -/
structure Rt.Ok (r : Rt) : Prop where
  ssrc : U32n r.ssrc
  track : I64 r.track
  src : I64 r.src
  layer : I64 r.layer
  shard : I64 r.shard
structure Dn.Ok (d : Dn) : Prop where
  ssrc : U32n d.ssrc
  slot : I64 d.slot
  turn : U32n d.turn
  who : I64 d.who
  track : I64 d.track
  shard : I64 d.shard
  src : I64 d.src
  layer : I64 d.layer
  tid : I64 d.tid
theorem encRt_len (r : Rt) : (encRt r).length = 5 := rfl
theorem encDn_len (d : Dn) : (encDn d).length = 10 := rfl
theorem encRt_inj {a b : Rt} (h : encRt a = encRt b) : a = b := by
  cases a; cases b; simp_all [encRt]
theorem encDn_inj {a b : Dn} (h : encDn a = encDn b) : a = b := by
  cases a; cases b; simp_all [encDn]
/-- no two of a list have the same of something -/
def Uniq {α β : Type} (f : α → β) (l : List α) : Prop := (l.map f).Nodup
theorem Uniq.ne {α β : Type} {f : α → β} {l : List α} (h : Uniq f l) {i k : Nat} {a b : α} (hi : l[i]? = some a) (hk : l[k]? = some b) (he : f a = f b) : i = k := by
  obtain ⟨h1, rfl⟩ := List.getElem?_eq_some_iff.1 hi
  obtain ⟨h2, rfl⟩ := List.getElem?_eq_some_iff.1 hk
  exact nodup_inj h (by rw [List.length_map]; exact h1) (by rw [List.length_map]; exact h2) (by rw [List.getElem_map, List.getElem_map]; exact he)
theorem Uniq.mem {α β : Type} {f : α → β} {l : List α} (h : Uniq f l) {a b : α} (ha : a ∈ l) (hb : b ∈ l) (he : f a = f b) : a = b := by
  obtain ⟨i, hi, rfl⟩ := List.getElem_of_mem ha
  obtain ⟨k, hk, rfl⟩ := List.getElem_of_mem hb
  have := h.ne (List.getElem?_eq_getElem hi) (List.getElem?_eq_getElem hk) he
  subst this
  rfl
theorem uniq_of {α β : Type} {f : α → β} {l : List α} (h : ∀ (i k : Nat) (a b : α), k < i → l[i]? = some a → l[k]? = some b → f a ≠ f b) : Uniq f l := by
  refine List.pairwise_iff_getElem.2 fun i j hi hj hij e => ?_
  rw [List.length_map] at hi hj
  rw [List.getElem_map, List.getElem_map] at e
  exact h j i _ _ hij (List.getElem?_eq_getElem hj) (List.getElem?_eq_getElem hi) e.symm
theorem Uniq.sub {α β : Type} {f : α → β} {l l' : List α} (h : Uniq f l) (hs : l'.Sublist l) : Uniq f l' := h.sublist (hs.map f)
/-- routes that may be in a table -/
structure MayR (rs : List Rt) : Prop where
  low : ∀ r, r ∈ rs → r.ssrc ≤ 2147483647
  one : Uniq Rt.ssrc rs
  lay : Uniq (fun r => (r.track, r.layer)) rs
structure MayD (ds : List Dn) : Prop where
  high : ∀ d, d ∈ ds → 2147483648 ≤ d.ssrc
  one : Uniq Dn.ssrc ds
  ref : Uniq (fun d => (d.slot, d.turn)) ds
  who : Uniq (fun d => (d.who, d.track)) ds
def routeM (rs : List Rt) (s : Int) : Option Rt := rs.find? (fun r => decide (r.ssrc = s))
def ownM (ds : List Dn) (s : Int) : Option Dn := ds.find? (fun d => decide (d.ssrc = s))
def sourceM (rs : List Rt) (t l : Int) : Option Rt := rs.find? (fun r => decide (r.track = t ∧ r.layer = l))
/-- a downtrack among those of its track, by who is sent it -/
def insM (d : Dn) (out : List Dn) : List Dn := out.takeWhile (fun x => decide (x.who < d.who)) ++ d :: out.dropWhile (fun x => decide (x.who < d.who))
def downsM (t : Int) (ds : List Dn) : List Dn := ds.foldl (fun out d => if d.track = t then insM d out else out) []
theorem downsM_snoc (t : Int) (ds : List Dn) (d : Dn) : downsM t (ds ++ [d]) = if d.track = t then insM d (downsM t ds) else downsM t ds := by simp [downsM, List.foldl_append]
theorem find_one {α : Type} {p : α → Bool} {l : List α} {a : α} (ha : a ∈ l) (hp : p a = true) (h : ∀ b, b ∈ l → p b = true → b = a) : l.find? p = some a := by
  cases hf : l.find? p with
  | none => rw [List.find?_eq_none] at hf; exact absurd hp (by simpa using hf a ha)
  | some b => rw [h b (List.mem_of_find?_eq_some hf) (List.find?_some hf)]
theorem mem_insM {d x : Dn} {out : List Dn} : x ∈ insM d out ↔ x = d ∨ x ∈ out := by
  unfold insM
  rw [List.mem_append, List.mem_cons]
  have e : x ∈ out ↔ x ∈ out.takeWhile (fun x => decide (x.who < d.who)) ∨ x ∈ out.dropWhile (fun x => decide (x.who < d.who)) := by
    rw [← List.mem_append, List.takeWhile_append_dropWhile]
  rw [e]
  constructor
  · rintro (h | h | h)
    · exact .inr (.inl h)
    · exact .inl h
    · exact .inr (.inr h)
  · rintro (h | h | h)
    · exact .inr (.inl h)
    · exact .inl h
    · exact .inr (.inr h)
theorem len_insM (d : Dn) (out : List Dn) : (insM d out).length = out.length + 1 := by
  have e := congrArg List.length (List.takeWhile_append_dropWhile (p := fun x : Dn => decide (x.who < d.who)) (l := out))
  rw [List.length_append] at e
  unfold insM
  rw [List.length_append, List.length_cons]
  omega
/-- by rising numbers of who is sent it -/
def UpW (l : List Dn) : Prop := l.Pairwise (fun a b => a.who < b.who)
theorem takeW_lt {d x : Dn} {out : List Dn} (h : x ∈ out.takeWhile (fun x => decide (x.who < d.who))) : x.who < d.who := by
  induction out with
  | nil => simp at h
  | cons y out ih =>
    rw [List.takeWhile_cons] at h
    split at h
    · rename_i hy
      rcases List.mem_cons.1 h with rfl | h
      · simpa using hy
      · exact ih h
    · simp at h
theorem dropW_ge {d x : Dn} {out : List Dn} (hu : UpW out) (h : x ∈ out.dropWhile (fun x => decide (x.who < d.who))) : d.who ≤ x.who := by
  induction out with
  | nil => simp at h
  | cons y out ih =>
    rw [List.dropWhile_cons] at h
    have hc := List.pairwise_cons.1 hu
    split at h
    · exact ih hc.2 h
    · rename_i hy
      have hy' : d.who ≤ y.who := by simpa using hy
      rcases List.mem_cons.1 h with rfl | h
      · exact hy'
      · have := hc.1 x h
        omega
theorem upW_insM {d : Dn} {out : List Dn} (hu : UpW out) (hn : ∀ x, x ∈ out → x.who ≠ d.who) : UpW (insM d out) := by
  have hs : UpW (out.takeWhile (fun x => decide (x.who < d.who)) ++ out.dropWhile (fun x => decide (x.who < d.who))) := by rw [List.takeWhile_append_dropWhile]; exact hu
  have h3 := List.pairwise_append.1 hs
  have hd : ∀ x, x ∈ out.dropWhile (fun x => decide (x.who < d.who)) → d.who < x.who := fun x hx => by
    have h1 := dropW_ge hu hx
    have h2 := hn x (List.dropWhile_sublist _ |>.subset hx)
    omega
  refine List.pairwise_append.2 ⟨h3.1, List.pairwise_cons.2 ⟨hd, h3.2.1⟩, fun a ha b hb => ?_⟩
  have h1 := takeW_lt ha
  rcases List.mem_cons.1 hb with rfl | hb
  · exact h1
  · have := hd b hb
    omega
theorem mem_downsM {t : Int} {x : Dn} (ds : List Dn) : x ∈ downsM t ds ↔ x ∈ ds ∧ x.track = t := by
  have : ∀ n, n ≤ ds.length → (x ∈ downsM t (ds.take n) ↔ x ∈ ds.take n ∧ x.track = t) := by
    intro n
    induction n with
    | zero => intro _; simp [downsM]
    | succ n ih =>
      intro hn
      obtain ⟨b, hb⟩ : ∃ b, ds[n]? = some b := ⟨_, List.getElem?_eq_getElem (by omega)⟩
      have e : ds.take (n + 1) = ds.take n ++ [b] := by rw [List.take_add_one, hb]; rfl
      rw [e, downsM_snoc, List.mem_append, List.mem_singleton]
      split
      · rename_i ht
        rw [mem_insM, ih (by omega)]
        constructor
        · rintro (rfl | ⟨h1, h2⟩)
          · exact ⟨.inr rfl, ht⟩
          · exact ⟨.inl h1, h2⟩
        · rintro ⟨h1 | rfl, h2⟩
          · exact .inr ⟨h1, h2⟩
          · exact .inl rfl
      · rename_i ht
        rw [ih (by omega)]
        constructor
        · rintro ⟨h1, h2⟩; exact ⟨.inl h1, h2⟩
        · rintro ⟨h1 | rfl, h2⟩
          · exact ⟨h1, h2⟩
          · exact absurd h2 ht
  have h := this ds.length (Nat.le_refl _)
  rwa [List.take_length] at h
theorem len_downsM (t : Int) (ds : List Dn) : (downsM t ds).length = (ds.filter (fun d => decide (d.track = t))).length := by
  have : ∀ n, n ≤ ds.length → (downsM t (ds.take n)).length = ((ds.take n).filter (fun d => decide (d.track = t))).length := by
    intro n
    induction n with
    | zero => intro _; simp [downsM]
    | succ n ih =>
      intro hn
      obtain ⟨b, hb⟩ : ∃ b, ds[n]? = some b := ⟨_, List.getElem?_eq_getElem (by omega)⟩
      have e : ds.take (n + 1) = ds.take n ++ [b] := by rw [List.take_add_one, hb]; rfl
      rw [e, downsM_snoc, List.filter_append, List.length_append, ← ih (by omega)]
      by_cases ht : b.track = t
      · rw [if_pos ht, len_insM]; simp [ht]
      · rw [if_neg ht]; simp [ht]
  have h := this ds.length (Nat.le_refl _)
  rwa [List.take_length] at h
theorem upW_downsM {t : Int} {ds : List Dn} (hw : Uniq (fun d => (d.who, d.track)) ds) : UpW (downsM t ds) := by
  have : ∀ n, n ≤ ds.length → UpW (downsM t (ds.take n)) := by
    intro n
    induction n with
    | zero => intro _; exact List.Pairwise.nil
    | succ n ih =>
      intro hn
      obtain ⟨b, hb⟩ : ∃ b, ds[n]? = some b := ⟨_, List.getElem?_eq_getElem (by omega)⟩
      have e : ds.take (n + 1) = ds.take n ++ [b] := by rw [List.take_add_one, hb]; rfl
      rw [e, downsM_snoc]
      split
      · rename_i ht
        refine upW_insM (ih (by omega)) fun x hx he => ?_
        obtain ⟨hm, hxt⟩ := (mem_downsM _).1 hx
        obtain ⟨i, hi, rfl⟩ := List.getElem_of_mem hm
        rw [List.length_take] at hi
        have h1 : ds[i]? = some (ds.take n)[i] := by rw [List.getElem_take]; exact List.getElem?_eq_getElem (by omega)
        have := hw.ne h1 hb (by rw [he, hxt, ht])
        omega
      · exact ih (by omega)
  have h := this ds.length (Nat.le_refl _)
  rwa [List.take_length] at h
/-- two rising lists of the same things are one -/
theorem upW_eq : ∀ {l1 l2 : List Dn}, UpW l1 → UpW l2 → (∀ x, x ∈ l1 ↔ x ∈ l2) → l1 = l2
  | [], [], _, _, _ => rfl
  | [], b :: l2, _, _, h => by have := (h b).2 (by simp); simp at this
  | a :: l1, [], _, _, h => by have := (h a).1 (by simp); simp at this
  | a :: l1, b :: l2, h1, h2, h => by
    have c1 := List.pairwise_cons.1 h1
    have c2 := List.pairwise_cons.1 h2
    have hab : a = b := by
      rcases List.mem_cons.1 ((h a).1 (by simp)) with e | e
      · exact e
      · rcases List.mem_cons.1 ((h b).2 (by simp)) with e' | e'
        · exact e'.symm
        · have := c2.1 a e
          have := c1.1 b e'
          omega
    subst hab
    refine congrArg _ (upW_eq c1.2 c2.2 fun x => ?_)
    have hx := h x
    rw [List.mem_cons, List.mem_cons] at hx
    constructor
    · intro hm
      rcases hx.1 (.inr hm) with rfl | h'
      · have := c1.1 x hm; omega
      · exact h'
    · intro hm
      rcases hx.2 (.inr hm) with rfl | h'
      · have := c2.1 x hm; omega
      · exact h'
/-- what was collected of a track, in whatever order, and sorted, is what the document tells -/
theorem downs_sorted {t : Int} {ds out : List Dn} (hw : Uniq (fun d => (d.who, d.track)) ds) (hm : ∀ x, x ∈ out ↔ x ∈ ds ∧ x.track = t) (hn : out.Nodup) (hs : out.Pairwise (fun a b => a.who ≤ b.who)) : out = downsM t ds := by
  refine upW_eq ?_ (upW_downsM hw) (fun x => by rw [hm, mem_downsM])
  refine List.pairwise_iff_getElem.2 fun i j hi hj hij => ?_
  have h1 := List.pairwise_iff_getElem.1 hs i j hi hj hij
  have h2 := List.pairwise_iff_getElem.1 hn i j hi hj hij
  rcases Int.lt_or_eq_of_le h1 with h | h
  · exact h
  · obtain ⟨a1, a2⟩ := (hm _).1 (List.getElem_mem hi)
    obtain ⟨b1, b2⟩ := (hm _).1 (List.getElem_mem hj)
    exact absurd (hw.mem a1 b1 (by rw [h, a2, b2])) h2
end Go.Proofs.Yteljkdihlklliaa
/- The keys of table's maps: uint32, pair, api.Ref. Plain laws. -/
namespace Go.Proofs.Yteljkdihlklliaa
open Go Go.Maps Go.WideMaps Go.RowKit
set_option maxHeartbeats 400000
theorem laidT : laidOutB Try.prog = true := by kernel_rfl
theorem sizeT : ∃ n, Try.prog.types.size = n + 1 := ⟨Try.prog.types.size - 1, by
  have h : decide (0 < Try.prog.types.size) = true := by kernel_rfl
  have := of_decide_eq_true h
  omega⟩
theorem lawPair : KeyLaw Try.prog 69 := deep_law_laid laidT (m := 2) (by omega) (of_decide_eq_true (by kernel_rfl)) (by kernel_rfl) (by rw [Try.underlying69])
theorem lawRef : KeyLaw Try.prog 39 := deep_law_laid laidT (m := 2) (by omega) (of_decide_eq_true (by kernel_rfl)) (by kernel_rfl) (by rw [Try.underlying39])
theorem keyedU : Keyed Try.prog 25 := int_keyed Try.underlying25
theorem keyedP : Keyed Try.prog 69 := Keyed.of_law lawPair
theorem keyedR : Keyed Try.prog 39 := Keyed.of_law lawRef
def kU (x : Int) : Lit := .int .u32 x
def kP (a b : Int) : Lit := .string (keyBytes [.int .i64 a, .int .i64 b])
def kR (a b : Int) : Lit := .string (keyBytes [.int .i64 a, .int .u32 b])
theorem keyOf_U {x : Int} (h : (Lit.int .u32 x).wf = true) : keyOf Try.prog 25 (.int .u32 x) = some (kU x) := keyOf_int_mk Try.underlying25 h
theorem keyOf_P {a b : Int} (ha : (Lit.int .i64 a).wf = true) (hb : (Lit.int .i64 b).wf = true) : keyOf Try.prog 69 (.agg #[.int .i64 a, .int .i64 b]) = some (kP a b) := by
  obtain ⟨n, hn⟩ := sizeT
  have h1 : Try.prog.keyType 69 = true := by kernel_rfl
  have h2 : Try.prog.cellsOf 69 = 2 := by kernel_rfl
  have h3 : Try.prog.cellsOf 3 = 1 := by kernel_rfl
  unfold keyOf
  rw [Try.underlying69]
  dsimp only
  rw [hn, h1]
  simp [Value.formed, Try.underlying69, Try.underlying3, Program.keyLits, h2, h3, ha, hb, Value.cells, kP]
theorem keyOf_R {a b : Int} (ha : (Lit.int .i64 a).wf = true) (hb : (Lit.int .u32 b).wf = true) : keyOf Try.prog 39 (.agg #[.int .i64 a, .int .u32 b]) = some (kR a b) := by
  obtain ⟨n, hn⟩ := sizeT
  have h1 : Try.prog.keyType 39 = true := by kernel_rfl
  have h2 : Try.prog.cellsOf 39 = 2 := by kernel_rfl
  have h3 : Try.prog.cellsOf 3 = 1 := by kernel_rfl
  have h4 : Try.prog.cellsOf 25 = 1 := by kernel_rfl
  unfold keyOf
  rw [Try.underlying39]
  dsimp only
  rw [hn, h1]
  simp [Value.formed, Try.underlying39, Try.underlying3, Try.underlying25, Program.keyLits, h2, h3, h4, ha, hb, Value.cells, kR]
end Go.Proofs.Yteljkdihlklliaa
/- A region that draws its order: its first m operations only move a slot's value; those from m to n only read, or call what only reads (they may draw); the last ones come in one forced order: one walk of the order of the text serves every order.
   Conditions: the Bool over the region holds; each operation from m to n is quiet in the class of the worlds 'w behind some draws'; the rest is walked from each such world. -/
namespace Go.Proofs.Yteljkdihlklliaa
open Go

section
variable {P : Program} {ops : Array Oper} {md : Region.Mode} {C : World → Prop}

/-- each of the operations from m to n is waited for by a later one, up to the n-th -/
def sinkFrom (md : Region.Mode) (ops : Array Oper) (m n : Nat) : Bool :=
  (List.range n).all fun i => decide (i < m) || (List.range (n + 1)).any fun j => decide (i < j) && Region.waitsFor md ops j i

/-- each operation behind the n-th waits for one from the n-th on -/
def chainW (md : Region.Mode) (ops : Array Oper) (n : Nat) : Bool :=
  (List.range ops.size).all fun t => decide (t ≤ n) || (List.range t).any fun j => decide (n ≤ j) && Region.waitsFor md ops t j

/-- what holds of the marks while the head is under way -/
structure HeadOk (md : Region.Mode) (ops : Array Oper) (m n : Nat) (done : Array Bool) : Prop where
  inv : HeadInv md ops n done
  pre : ∀ i, i < m → done.getD i false = true

theorem HeadOk.set {m n i : Nat} {done : Array Bool} (h : HeadOk md ops m n done) (hi : i ∈ Region.ready md ops done) (hin : i < n) : HeadOk md ops m n (done.setIfInBounds i true) :=
  ⟨h.inv.set hi hin, fun k hk => getD_set_true (h.pre k hk)⟩

/-- as long as one of the head is still to come, none of the tail may come -/
theorem HeadOk.waits {m n : Nat} {done : Array Bool} (h : HeadOk md ops m n done) (hs : sinkFrom md ops m n = true) (hc : chainW md ops n = true) :
    ∀ (d i : Nat), n - i = d → i < n → done.getD i true = false → ∀ t, n ≤ t → t ∉ Region.ready md ops done := by
  intro d
  induction d using Nat.strongRecOn with
  | _ d ih =>
    intro i hd hi hun t ht hr
    obtain ⟨_, ot, hot, hall⟩ := mem_ready.1 hr
    have htlt : t < ops.size := (Array.getElem?_eq_some_iff.1 hot).1
    have him : ¬ i < m := fun him => by
      have h1 := h.pre i him
      rw [getD_both hun] at h1
      exact absurd h1 (by decide)
    by_cases htn : t = n
    · have h1 := List.all_eq_true.1 hs i (List.mem_range.2 hi)
      simp only [Bool.or_eq_true, decide_eq_true_eq, him, false_or] at h1
      obtain ⟨j, hj, hj2⟩ := List.any_eq_true.1 h1
      simp only [Bool.and_eq_true, decide_eq_true_eq] at hj2
      obtain ⟨oj, hoj, e, he, hb, hon⟩ := Region.waitsFor_spec hj2.2
      have hjle := List.mem_range.1 hj
      by_cases hjt : j = t
      · rw [hjt, hot] at hoj
        have h2 := hall e (by rw [Option.some.inj hoj]; exact he) hb
        rw [hon, getD_both hun] at h2
        exact absurd h2 (by decide)
      · cases hl : done.getD j false with
        | true =>
          have h2 := h.inv.closed j oj hoj hl e he hb
          rw [hon, getD_both hun] at h2
          exact absurd h2 (by decide)
        | false => exact ih (n - j) (by omega) j rfl (by omega) (getD_in (by rw [h.inv.size]; omega) hl) t ht hr
    · have h1 := List.all_eq_true.1 hc t (List.mem_range.2 htlt)
      simp only [Bool.or_eq_true, decide_eq_true_eq] at h1
      obtain ⟨j, hj, hj2⟩ := List.any_eq_true.1 (h1.resolve_left (by omega))
      simp only [Bool.and_eq_true, decide_eq_true_eq] at hj2
      have hjt := List.mem_range.1 hj
      obtain ⟨o', ho', e, he, hb, hon⟩ := Region.waitsFor_spec hj2.2
      rw [hot] at ho'
      have h3 := hall e (by rw [Option.some.inj ho']; exact he) hb
      rw [hon, getD_both (h.inv.tail j hj2.1 (by omega))] at h3
      exact absurd h3 (by decide)

/-- f operations of the head are still to come, in whatever order; then L. -/
def HeadAny (P : Program) (md : Region.Mode) (ops : Array Oper) (C : World → Prop) (n : Nat) (L : Array Bool → Act → Prop) : Nat → Array Bool → Act → Prop
  | 0, done, a => L done a
  | f + 1, done, a => Region.ready md ops done ≠ [] ∧ ∀ i ∈ Region.ready md ops done, i < n ∧ qOp P ops C i (HeadAny P md ops C n L f (done.setIfInBounds i true)) a

theorem HeadAny.any {n g : Nat} {L : Array Bool → Act → Prop} {Q : Exit → Act → World → Prop} (hL : ∀ done a w, C w → L done a → wpAny P md ops Q g done a w) :
    ∀ (f : Nat) (done : Array Bool) (a : Act) (w : World), C w → HeadAny P md ops C n L f done a → wpAny P md ops Q (f + g) done a w := by
  intro f
  induction f with
  | zero => intro done a w hw h; rw [Nat.zero_add]; exact hL done a w hw h
  | succ f ih =>
    intro done a w hw h
    rw [Nat.add_right_comm]
    exact ⟨fun h0 => (h.1 h0).elim, fun i hi => wpOp_of_qOp hw (fun a' w' hw' h' => ih _ a' w' hw' h') (h.2 i hi).2⟩

theorem HeadAny.first {m n i : Nat} {oi : Oper} {v : Value} {L : Array Bool → Act → Prop} (hi : ops[i]? = some oi) (hsel : Region.noSelect ops = true)
    (hs : sinkFrom md ops m n = true) (hc : chainW md ops n = true) (hin : i < n) (hL : ∀ done a, L done a → ∀ j ∈ Region.ready md ops done, n ≤ j) :
    ∀ (f : Nat) (done : Array Bool) (a : Act), HeadOk md ops m n done →
      (∀ j oj, ops[j]? = some oj → j ≠ i → done.getD j true = false → (∀ e ∈ oj.after, Region.binds md e = true → e.on ≠ i) → oi.apart ops oj = true) →
      i ∈ Region.ready md ops done → YieldsIn P ops C oi v a →
      HeadAny P md ops C n L f (done.setIfInBounds i true) (a.put oi.dst v) → HeadAny P md ops C n L (f + 1) done a := by
  have spec := Region.noSelect_spec hsel
  intro f
  induction f with
  | zero =>
    intro done a ok _ hr hy H
    refine ⟨List.ne_nil_of_mem hr, fun j hj => ?_⟩
    have hjn : j < n := Nat.lt_of_not_le fun hle => ok.waits hs hc _ i rfl hin (mem_ready.1 hr).1 j hle hj
    refine ⟨hjn, ?_⟩
    by_cases hji : j = i
    · rw [hji]; exact hy.qOp hi H
    · exact absurd (hL _ _ H j (ready_mono hj hji)) (Nat.not_le_of_lt hjn)
  | succ f ih =>
    intro done a ok hfree hr hy H
    have hun := (mem_ready.1 hr).1
    refine ⟨List.ne_nil_of_mem hr, fun j hj => ?_⟩
    have hjn : j < n := Nat.lt_of_not_le fun hle => ok.waits hs hc _ i rfl hin hun j hle hj
    refine ⟨hjn, ?_⟩
    by_cases hji : j = i
    · rw [hji]; exact hy.qOp hi H
    · obtain ⟨hjun, oj, hoj, hall⟩ := mem_ready.1 hj
      have hnot : ∀ e ∈ oj.after, Region.binds md e = true → e.on ≠ i := by
        intro e he hb heq
        have h1 := hall e he hb
        rw [heq, getD_both hun] at h1
        exact absurd h1 (by decide)
      have h2 := qOp_put hoj (hfree j oj hoj hji hjun hnot) (fun cs b => spec i oi cs b hi) (fun cs b => spec j oj cs b hoj) hy (H.2 j (ready_mono hj hji)).2
      refine qOp_mono (fun a' h3 => ?_) h2
      refine ih (done.setIfInBounds j true) a' (ok.set hj hjn) (fun k ok hk hki hku hno => hfree k ok hk hki ?_ hno) (ready_mono hr (Ne.symm hji)) h3.1 ?_
      · by_cases hjk : j = k
        · rw [← hjk]; exact hjun
        · rwa [getD_set_ne true hjk] at hku
      · rw [Array.setIfInBounds_comm _ _ hji]; exact h3.2

/-- the operation gives one value in whatever world: a slot's value, or a part of a tuple -/
def plainB (ops : Array Oper) (k : Nat) : Bool := match ops[k]? with
  | some o => match o.op with | .move _ => true | .assign _ => true | .extract _ _ => true | _ => false
  | none => false

theorem plain_yields {k : Nat} {o : Oper} {a : Act} {w : World} {K : Act → World → Prop} {Q : Exit → Act → World → Prop} (hk : ops[k]? = some o) (hm : plainB ops k = true)
    (h : wpOp P ops Q k K a w) : ∃ v, Yields P ops o v a ∧ K (a.put o.dst v) w := by
  unfold wpOp at h
  rw [hk] at h
  dsimp only at h
  by_cases hw : Region.wanted o (yielded ops a.tmps) = true
  · rw [if_pos hw] at h
    have run : (∃ v, (∀ w', (execOp a.eval o).run P w' = .ok (.value v) w') ∧ ((execOp a.eval o).runT P w #[]).2 = #[]) ∨ ((∃ s w', (execOp a.eval o).run P w = .halt (.stuck s) w') ∧ ((execOp a.eval o).runT P w #[]).2 = #[]) := by
      unfold plainB at hm
      rw [hk] at hm
      dsimp only at hm
      split at hm
      · rename_i x hx
        refine .inl ⟨a.eval x, fun w' => (BigFrame.run_move x hx) w', ?_⟩
        unfold execOp; rw [hx]; rfl
      · rename_i x hx
        refine .inl ⟨a.eval x, fun w' => (BigFrame.run_assign x hx) w', ?_⟩
        unfold execOp; rw [hx]; rfl
      · rename_i x i hx
        have e : execOp a.eval o = (do return .value (← Instr.extract (a.eval x) i)) := by unfold execOp; rw [hx]
        rw [e]
        unfold Instr.extract
        split
        · split
          · rename_i vs _ v hv; exact .inl ⟨v, fun w' => rfl, rfl⟩
          · exact .inr ⟨⟨_, _, rfl⟩, rfl⟩
        · exact .inr ⟨⟨_, _, rfl⟩, rfl⟩
      · exact absurd hm (by decide)
    rcases run with ⟨v, hv, hev⟩ | ⟨⟨s, w', hv⟩, hev⟩
    · refine ⟨v, .inl ⟨hw, hv⟩, ?_⟩
      rcases h with h | ⟨⟨h, _⟩, _⟩
      · unfold Oper.wp at h
        rw [hv w] at h
        exact h
      · rw [hev] at h; simp at h
    · exfalso
      rcases h with h | ⟨⟨h, _⟩, _⟩
      · unfold Oper.wp at h
        rw [hv] at h
        exact h
      · rw [hev] at h; simp at h
  · rw [if_neg hw] at h
    exact ⟨undef, .inr ⟨by simpa using hw, rfl⟩, h⟩

/-- the tail: at each point the one operation that may come; or one that gives its value in whatever world -/
def seqW (md : Region.Mode) (ops : Array Oper) : Nat → Nat → Array Bool → Bool
  | 0, _, done => (Region.ready md ops done).isEmpty
  | g + 1, k, done => (decide (Region.ready md ops done = [k]) || (plainB ops k && (Region.ready md ops done).contains k && Region.free md ops done k)) && seqW md ops g (k + 1) (done.setIfInBounds k true)

theorem wpAny_of_seqW {Q : Exit → Act → World → Prop} (hsel : Region.noSelect ops = true) (hQ : ∀ c tmps a w, Q (.panic c) { a with tmps := tmps } w → Q (.panic c) a w) :
    ∀ (l : List Oper) (k : Nat) (done : Array Bool) (a : Act) (w : World), (∀ j, j < l.length → l[j]? = ops[k + j]?) → seqW md ops l.length k done = true → wpList P ops Q l a w → wpAny P md ops Q l.length done a w := by
  intro l
  induction l with
  | nil => intro k done a w _ hB h; exact ⟨by simpa [seqW] using hB, h⟩
  | cons o l ih =>
    intro k done a w hl hB h
    have h0 : ops[k]? = some o := by simpa using (hl 0 (by simp)).symm
    have hl' : ∀ j, j < l.length → l[j]? = ops[k + 1 + j]? := fun j hj => by
      have h1 := hl (j + 1) (by simp; omega)
      rw [List.getElem?_cons_succ] at h1
      rw [h1, show k + 1 + j = k + (j + 1) by omega]
    simp only [List.length_cons, seqW, Bool.and_eq_true, Bool.or_eq_true, decide_eq_true_eq] at hB
    obtain ⟨hB1, hB2⟩ := hB
    have hw : wpOp P ops Q k (wpList P ops Q l) a w := by unfold wpOp; simp only [h0]; exact h
    rcases hB1 with hr | ⟨⟨hp, hr⟩, hf⟩
    · refine ⟨fun h1 => by rw [hr] at h1; exact absurd h1 (List.cons_ne_nil _ _), fun i hi => ?_⟩
      rw [hr] at hi
      obtain rfl : i = k := by simpa using hi
      exact wpOp_mono (fun a' w' h' => ih (i + 1) _ a' w' hl' hB2 h') hw
    · obtain ⟨v, hy, hK⟩ := plain_yields h0 hp hw
      exact wpAny_take h0 hsel hf hr (fun c a' w' h' => hQ c (a'.put o.dst v).tmps a' w' (by rw [show ({ a' with tmps := (a'.put o.dst v).tmps } : Act) = a'.put o.dst v by cases o.dst <;> rfl]; exact h')) hy (ih (k + 1) _ _ w hl' hB2 hK)

/-- the head in the order of the text, then the tail -/
def lexW (md : Region.Mode) (ops : Array Oper) (n g : Nat) : Nat → Nat → Array Bool → Bool
  | 0, k, done => ((Region.ready md ops done).all fun j => decide (n ≤ j)) && seqW md ops g k done
  | f + 1, k, done => (Region.ready md ops done).contains k && Region.free md ops done k && lexW md ops n g f (k + 1) (done.setIfInBounds k true)

theorem HeadAny.lex {m n g : Nat} {R : Act → Prop} (hsel : Region.noSelect ops = true) (hs : sinkFrom md ops m n = true) (hc : chainW md ops n = true) :
    ∀ (l : List Oper) (k : Nat) (done : Array Bool) (a : Act), (∀ j, j < l.length → l[j]? = ops[k + j]?) → k + l.length = n → HeadOk md ops m n done →
      lexW md ops n g l.length k done = true → wpQuiet P ops C R l a →
      HeadAny P md ops C n (fun done' a' => ((Region.ready md ops done').all fun j => decide (n ≤ j)) = true ∧ seqW md ops g n done' = true ∧ R a') l.length done a := by
  intro l
  induction l with
  | nil =>
    intro k done a _ hk _ hB h
    obtain rfl : k = n := by simpa using hk
    simp only [List.length_nil, lexW, Bool.and_eq_true] at hB
    exact ⟨hB.1, hB.2, h⟩
  | cons o l ih =>
    intro k done a hl hk ok hB h
    have h0 : ops[k]? = some o := by simpa using (hl 0 (by simp)).symm
    simp only [List.length_cons, lexW, Bool.and_eq_true] at hB
    obtain ⟨⟨hr, hf⟩, hB'⟩ := hB
    simp only [List.length_cons] at hk
    have hkn : k < n := by omega
    have hr' : k ∈ Region.ready md ops done := by simpa using hr
    have hq : qOp P ops C k (wpQuiet P ops C R l) a := by unfold qOp; simp only [h0]; exact h
    obtain ⟨v, hy, hK⟩ := yieldsIn_of_qOp h0 hq
    refine HeadAny.first h0 hsel hs hc hkn (fun done' a' hL j hj => by have := List.all_eq_true.1 hL.1 j hj; simpa using this) l.length done a ok (Region.free_spec h0 hf) hr' hy
      (ih (k + 1) _ _ (fun j hj => ?_) (by omega) (ok.set hr' hkn) hB' hK)
    have h1 := hl (j + 1) (by simp; omega)
    rw [List.getElem?_cons_succ] at h1
    rw [h1, show k + 1 + j = k + (j + 1) by omega]


/-- the operation only moves a slot's value -/
def movesB (ops : Array Oper) (k : Nat) : Bool := match ops[k]? with
  | some o => match o.op with | .move _ => true | .assign _ => true | _ => false
  | none => false

theorem yields_of_moves {k : Nat} {o : Oper} {v : Value} {a : Act} (hk : ops[k]? = some o) (hm : movesB ops k = true) (h : YieldsIn P ops (fun _ => True) o v a) : Yields P ops o v a := by
  rcases h with ⟨hw, h⟩ | ⟨hw, h⟩
  · refine .inl ⟨hw, fun w => ?_⟩
    have h1 := h w trivial
    unfold movesB at hm
    rw [hk] at hm
    dsimp only at hm
    unfold Oper.quietAt at h1
    split at hm
    · rename_i x hx
      rw [BigFrame.run_move x hx] at h1 ⊢
      obtain ⟨_, h2⟩ := h1
      rw [h2]
    · rename_i x hx
      rw [BigFrame.run_assign x hx] at h1 ⊢
      obtain ⟨_, h2⟩ := h1
      rw [h2]
    · exact absurd hm (by decide)
  · exact .inr ⟨hw, h⟩

/-- the first m, then the check of the rest -/
def preB (md : Region.Mode) (ops : Array Oper) (n g h : Nat) : Nat → Nat → Array Bool → Bool
  | 0, k, done => lexW md ops n g h k done
  | f + 1, k, done => movesB ops k && decide (k < n) && (Region.ready md ops done).contains k && Region.free md ops done k && preB md ops n g h f (k + 1) (done.setIfInBounds k true)

def tailB (md : Region.Mode) (ops : Array Oper) (m n : Nat) : Bool :=
  Region.noSelect ops && decide (n < ops.size) && decide (m ≤ n) && sinkFrom md ops m n && chainW md ops n && preB md ops n (ops.size - n) (n - m) m 0 (Array.replicate ops.size false)

theorem put_tmps (a : Act) (d : Option Tmp) (v : Value) : ({ a with tmps := (a.put d v).tmps } : Act) = a.put d v := by cases d <;> rfl

theorem pre_any {Q : Exit → Act → World → Prop} {m n g h F : Nat} {w : World} {R : Act → Prop} (hsel : Region.noSelect ops = true)
    (hR : ∀ (done : Array Bool) (a : Act), HeadOk md ops m n done → lexW md ops n g h m done = true → R a → wpAny P md ops Q F done a w) (hQ : ∀ c tmps a w, Q (.panic c) { a with tmps := tmps } w → Q (.panic c) a w) :
    ∀ (l : List Oper) (k : Nat) (done : Array Bool) (a : Act), (∀ j, j < l.length → l[j]? = ops[k + j]?) → k + l.length = m → HeadOk md ops k n done →
      preB md ops n g h l.length k done = true → wpQuiet P ops (fun _ => True) R l a → wpAny P md ops Q (l.length + F) done a w := by
  intro l
  induction l with
  | nil =>
    intro k done a _ hk ok hB hq
    obtain rfl : k = m := by simpa using hk
    simp only [List.length_nil, Nat.zero_add]
    exact hR done a ok hB hq
  | cons o l ih =>
    intro k done a hl hk ok hB hq
    have h0 : ops[k]? = some o := by simpa using (hl 0 (by simp)).symm
    simp only [List.length_cons, preB, Bool.and_eq_true, decide_eq_true_eq] at hB
    obtain ⟨⟨⟨⟨hmv, hkn⟩, hr⟩, hf⟩, hB'⟩ := hB
    have hr' : k ∈ Region.ready md ops done := by simpa using hr
    have hq' : qOp P ops (fun _ => True) k (wpQuiet P ops (fun _ => True) R l) a := by unfold qOp; simp only [h0]; exact hq
    obtain ⟨v, hy, hK⟩ := yieldsIn_of_qOp h0 hq'
    rw [show (o :: l).length + F = (l.length + F) + 1 by simp; omega]
    have ok' := ok.set hr' hkn
    refine wpAny_take h0 hsel hf hr (fun c a' w' h' => hQ c (a'.put o.dst v).tmps a' w' (by rw [put_tmps]; exact h')) (yields_of_moves h0 hmv hy) (ih (k + 1) _ _ (fun j hj => ?_) (by simp at hk; omega) ⟨ok'.inv, fun i hi => ?_⟩ hB' hK)
    · have h1 := hl (j + 1) (by simp; omega)
      rw [List.getElem?_cons_succ] at h1
      rw [h1, show k + 1 + j = k + (j + 1) by omega]
    · by_cases hik : i = k
      · subst hik
        have : i < done.size := by rw [ok.inv.size]; exact (Array.getElem?_eq_some_iff.1 h0).1
        simp [this]
      · exact getD_set_true (ok.pre i (by omega))

/-- THE REGION. -/
theorem wp_moves_quiet_tail {id : Nat} {Q : Exit → Act → World → Prop} {a : Act} {w : World} {l : List Oper} (m n : Nat) (hm : P.follows .mixedOrders = true) (hB : tailB .any l.toArray m n = true)
    (hQ : ∀ c tmps a w, Q (.panic c) { a with tmps := tmps } w → Q (.panic c) a w)
    (h : wpQuiet P l.toArray (fun _ => True) (fun a0 => wpQuiet P l.toArray (fun w' => ∃ m, w' = w.drewN m) (fun a' => ∀ w', (∃ m, w' = w.drewN m) → wpList P l.toArray Q (l.drop n) a' w') ((l.take n).drop m) a0) (l.take m) a) :
    (Code.region id l.toArray true).wp P Q a w := by
  simp only [tailB, Bool.and_eq_true, decide_eq_true_eq] at hB
  obtain ⟨⟨⟨⟨⟨hsel, hn⟩, hmn⟩, hs⟩, hc⟩, hpre⟩ := hB
  have hn' : n < l.length := by simpa using hn
  have hml : (l.take m).length = m := by rw [List.length_take]; omega
  have hhl : ((l.take n).drop m).length = n - m := by rw [List.length_drop, List.length_take]; omega
  have hsz : (l.drop n).length = l.toArray.size - n := by simp
  have inv0 : HeadInv .any l.toArray n (Array.replicate l.toArray.size false) :=
    ⟨by simp, fun j oj _ hl => by rw [getD_replicate_false] at hl; exact absurd hl (by decide), fun t _ ht => getD_in (by simpa using ht) (getD_replicate_false _ _)⟩
  refine wp_region_any hm ?_
  have K := pre_any (P := P) (md := .any) (Q := Q) (m := m) (F := n - m + (l.toArray.size - n)) (w := { w with drawn := w.drawn + 1 }) hsel (fun done a' ok hB' hq => ?_) hQ (l.take m) 0 _ a
    (fun j hj => by rw [hml] at hj; simp [hj]) (by simpa using hml) ⟨inv0, fun i hi => absurd hi (Nat.not_lt_zero i)⟩ (by rw [hml]; exact hpre) h
  · rw [hml, show m + (n - m + (l.toArray.size - n)) = l.toArray.size by omega] at K
    exact K
  · have H := HeadAny.lex (P := P) (md := .any) (g := l.toArray.size - n) hsel hs hc ((l.take n).drop m) m done a'
      (fun j hj => by
        rw [hhl] at hj
        have h1 : m + j < n := by omega
        simp [List.getElem?_drop, h1]) (by rw [hhl]; omega) ok (by rw [hhl]; exact hB') hq
    rw [hhl] at H
    exact HeadAny.any (Q := Q) (g := l.toArray.size - n) (fun done a' w' hw' hL => by
      have h1 := wpAny_of_seqW (md := .any) (Q := Q) hsel hQ (l.drop n) n done a' w' (fun j _ => by simp [List.getElem?_drop]) (by rw [hsz]; exact hL.2.1) (hL.2.2 w' hw')
      rwa [hsz] at h1) (n - m) done a' _ ⟨1, rfl⟩ H

/-- The same where no operation is moved ahead. -/
theorem wp_quiet_tail {id : Nat} {Q : Exit → Act → World → Prop} {a : Act} {w : World} {l : List Oper} (n : Nat) (hm : P.follows .mixedOrders = true) (hB : tailB .any l.toArray 0 n = true)
    (hQ : ∀ c tmps a w, Q (.panic c) { a with tmps := tmps } w → Q (.panic c) a w)
    (h : wpQuiet P l.toArray (fun w' => ∃ m, w' = w.drewN m) (fun a' => ∀ w', (∃ m, w' = w.drewN m) → wpList P l.toArray Q (l.drop n) a' w') (l.take n) a) : (Code.region id l.toArray true).wp P Q a w :=
  wp_moves_quiet_tail 0 n hm hB hQ h
end
end Go.Proofs.Yteljkdihlklliaa
/- Words for memory: a block known whole; what has changed between two worlds; a slice that came in and reads as a list of cells. Plain laws, no condition. -/
namespace Go.Proofs.Yteljkdihlklliaa
open Go Go.RowKit

/-- Block g is just these cells, none of them frozen. -/
def Blk (w : World) (g : Nat) (t : TypeId) (cs : Array Value) : Prop := w.heap[g]? = some (.cells cs t (0, 0))

section
variable {w w' : World} {g : Nat} {t : TypeId} {cs : Array Value}
theorem Blk.lt (h : Blk w g t cs) : g < w.heap.size := (Array.getElem?_eq_some_iff.1 h).1
theorem Blk.cell (h : Blk w g t cs) (i : Nat) : w.cell? ⟨g, i, none⟩ = cs[i]? := cell_of_row w g i cs t (0, 0) h
theorem Blk.frozen (h : Blk w g t cs) (i : Nat) : w.frozen? ⟨g, i, none⟩ = false := by
  have h' : w.heap[g]? = some (.cells cs t (0, 0)) := h
  simp [World.frozen?, h']
theorem Blk.new (w : World) (t : TypeId) (cs : Array Value) : Blk (w.alloc (.cells cs t)) w.heap.size t cs := heap_alloc_new w _
theorem Blk.drewN (h : Blk w g t cs) (n : Nat) : Blk (w.drewN n) g t cs := h
theorem Blk.alloc (h : Blk w g t cs) (o : Obj) : Blk (w.alloc o) g t cs := (Below.heap_alloc w o g h.lt).trans h
theorem Blk.store (h : Blk w g t cs) (i : Nat) (u : Value) : Blk (w.setCell ⟨g, i, none⟩ u) g t (cs.setIfInBounds i u) := by
  have h' : w.heap[g]? = some (.cells cs t (0, 0)) := h
  show (w.setCell ⟨g, i, none⟩ u).heap[g]? = _
  simp [World.setCell, Array.getElem?_modify, h']
theorem Blk.other (h : Blk w g t cs) {p : Addr} (hp : g ≠ p.block) (u : Value) : Blk (w.setCell p u) g t cs := (Below.heap_setCell w p u g hp).trans h
theorem Blk.below {B : Nat} (h : Blk w g t cs) (hb : Below B w w') (hg : g < B) : Blk w' g t cs := (hb.block g hg).trans h
theorem Blk.ne {g' : Nat} {t' : TypeId} {cs' : Array Value} (h : Blk w g t cs) (h' : Blk w g' t' cs') (hne : t ≠ t') : g ≠ g' := by
  intro e
  rw [e] at h
  have := (Option.some.inj (h.symm.trans h'))
  injection this with _ ht
  exact hne ht
end

/-- From w to w' only the blocks of S have changed, and new ones have come. -/
structure Upd (S : List Nat) (w w' : World) : Prop where
  os : w'.os = w.os
  tape : w'.tape = w.tape
  output : w'.output = w.output
  size : w.heap.size ≤ w'.heap.size
  block : ∀ k, k < w.heap.size → k ∉ S → w'.heap[k]? = w.heap[k]?

section
variable {S T : List Nat} {a b c w w' : World}
theorem Upd.refl (S : List Nat) (w : World) : Upd S w w := ⟨rfl, rfl, rfl, Nat.le_refl _, fun _ _ _ => rfl⟩
theorem Upd.trans (h : Upd S a b) (k : Upd T b c) (hT : ∀ t, t ∈ T → t ∈ S ∨ a.heap.size ≤ t) : Upd S a c :=
  ⟨k.os.trans h.os, k.tape.trans h.tape, k.output.trans h.output, Nat.le_trans h.size k.size, fun i hi hn =>
    (k.block i (Nat.lt_of_lt_of_le hi h.size) (fun ht => (hT i ht).elim hn (fun hle => Nat.not_le_of_lt hi hle))).trans (h.block i hi hn)⟩
theorem Upd.next (h : Upd S a b) (k : Upd S b c) : Upd S a c := h.trans k fun _ ht => .inl ht
theorem Upd.more (h : Upd S a b) (hS : ∀ s, s ∈ S → s ∈ T) : Upd T a b := ⟨h.os, h.tape, h.output, h.size, fun k hk hn => h.block k hk fun hs => hn (hS k hs)⟩
theorem Upd.drewN (h : Upd S a w) (n : Nat) : Upd S a (w.drewN n) := ⟨h.os, h.tape, h.output, h.size, h.block⟩
theorem Upd.alloc (h : Upd S a w) (o : Obj) : Upd S a (w.alloc o) :=
  ⟨h.os, h.tape, h.output, Nat.le_trans h.size (by simp), fun k hk hn => (Below.heap_alloc w o k (Nat.lt_of_lt_of_le hk h.size)).trans (h.block k hk hn)⟩
theorem Upd.setCell (h : Upd S a w) {p : Addr} (hp : p.block ∈ S ∨ a.heap.size ≤ p.block) (u : Value) : Upd S a (w.setCell p u) :=
  ⟨h.os, h.tape, h.output, by simpa [World.setCell] using h.size, fun k hk hn => (Below.heap_setCell w p u k (fun e => by
    subst e
    exact hp.elim hn (fun hle => Nat.not_le_of_lt hk hle))).trans (h.block k hk hn)⟩
theorem Upd.below {B : Nat} (h : Upd S w w') (hB : B ≤ w.heap.size) (hS : ∀ s, s ∈ S → B ≤ s) : Below B w w' :=
  ⟨h.os, h.tape, h.output, h.size, fun k hk => h.block k (by omega) (fun hs => by have := hS k hs; omega)⟩
theorem Upd.of_below (h : Below w.heap.size w w') : Upd S w w' := ⟨h.os, h.tape, h.output, h.size, fun k hk _ => h.block k hk⟩
theorem Upd.of_grown {row : Option Nat} (h : w.grownBy w' row) : Upd row.toList w w' :=
  ⟨h.os, h.tape, h.output, h.size, fun k hk hn => h.block k hk (fun e => hn (by rw [← e]; simp))⟩
theorem Blk.upd {g : Nat} {t : TypeId} {cs : Array Value} (h : Blk w g t cs) (u : Upd S w w') (hg : g ∉ S) : Blk w' g t cs := (u.block g h.lt hg).trans h
theorem Upd.cell (h : Upd S w w') {p : Addr} (hp : p.block < w.heap.size) (hS : p.block ∉ S) : w'.cell? p = w.cell? p := World.cell?_of_block (w := w) (h.block p.block hp hS)
theorem ownsRow_upd {base : Nat} {e : TypeId} {size n : Nat} {v : Value} {xs : List Value} (h : w.ownsRow base e size v n xs) (u : Upd S w w') (hS : ∀ s, s ∈ S → v.ownBlock ≠ some s) : w'.ownsRow base e size v n xs := by
  refine ⟨h.1, h.2.imp id fun ⟨g, cap, cur, hv, hg, hh, r⟩ => ⟨g, cap, cur, hv, hg, ?_, r⟩⟩
  have hgS : g ∉ S := fun hs => hS g hs (by rw [hv]; rfl)
  rw [u.block g (Array.getElem?_eq_some_iff.1 hh).1 hgS]; exact hh
end

/-- What the walk is told of the old cells in a later world. -/
theorem old_cells {W w : World} {B : Nat} (hb : Below B W w) : (∀ b o, b < B → w.cell? ⟨b, o, none⟩ = W.cell? ⟨b, o, none⟩) ∧ (∀ b o, b < B → w.frozen? ⟨b, o, none⟩ = W.frozen? ⟨b, o, none⟩) :=
  ⟨fun b o h => hb.cell (p := ⟨b, o, none⟩) h, fun b o h => hb.frozen (p := ⟨b, o, none⟩) h⟩

/-- A slice that came in: n elements of so many cells each, below block B. -/
def Cells (w : World) (B size : Nat) (A : Option Addr) (n : Nat) (xs : List Value) : Prop :=
  xs.length = n * size ∧ (0 < n → ∃ b off, A = some ⟨b, off, none⟩ ∧ b < B ∧ ∀ (j : Nat) (u : Value), xs[j]? = some u → w.cell? ⟨b, off + j, none⟩ = some u)
theorem Cells.below {w w' : World} {B B' size n : Nat} {A : Option Addr} {xs : List Value} (h : Cells w B size A n xs) (hb : Below B' w w') (hB : B ≤ B') : Cells w' B size A n xs :=
  ⟨h.1, fun hn => by
    obtain ⟨b, off, e, hlt, hc⟩ := h.2 hn
    exact ⟨b, off, e, hlt, fun j u hu => (hb.cell (p := ⟨b, off + j, none⟩) (Nat.lt_of_lt_of_le hlt hB)).trans (hc j u hu)⟩⟩

/-- The value of a slice of the call's own. -/
theorem own_form {w : World} {B : Nat} {e : TypeId} {size n : Nat} {v : Value} {xs : List Value} (h : w.ownsRow B e size v n xs) :
    ∃ A cap, v = .slice A n cap ∧ n ≤ cap ∧ (0 < n → ∃ g, A = some ⟨g, 0, none⟩ ∧ B ≤ g ∧ g < w.heap.size) ∧ (A = none → n = 0 ∧ cap = 0) := by
  rcases h.2 with ⟨hv, hn⟩ | ⟨g, cap, cur, hv, hg, hh, hc, _⟩
  · subst hn
    exact ⟨none, 0, hv, Nat.le_refl _, fun h => absurd h (Nat.lt_irrefl 0), fun _ => ⟨rfl, rfl⟩⟩
  · exact ⟨_, cap, hv, hc, fun _ => ⟨g, rfl, hg, (Array.getElem?_eq_some_iff.1 hh).1⟩, fun h => by cases h⟩

/-- append onto a slice of the call's own, from a source that may be nil or empty. -/
theorem wpList_append_src {P : Program} (w : World) {ops : Array Oper} {rest : List Oper} {o : Oper} {a : Act} {Q : Exit → Act → World → Prop} (hgd : o.guard = none) (s x : Operand) (t : TypeId)
    (ho : o.op = .call { callee := .builtin .append, args := #[s, x], argTypes := #[t, t] })
    (base : Nat) (e : TypeId) (i : TypeInfo) (z : Value) (size bytes : Nat) (ht : P.underlying t = some (.slice e)) (hi : P.info? e = some i) (hz : i.zero = some z) (hsize : i.size = size) (hby : i.bytes = bytes)
    (hzs : z.cells.size = size) (hsz : 0 < size) (v : Value) (n : Nat) (xs : List Value) (hs : a.eval s = v) (hown : w.ownsRow base e size v n xs)
    (A : Option Addr) (m c : Nat) (news : List Value) (hx : a.eval x = .slice A m c) (hA : A = none → m = 0 ∧ c = 0) (hn : news.length = m * size)
    (hcells : ∀ ad, A = some ad → ∀ (j : Nat) (u : Value), news[j]? = some u → w.cell? (ad.add j) = some u) (h1 : ∀ u ∈ news, u.oneCell' = true)
    (h63 : n + m ≤ maxLen) (hbytes : (n + m) * bytes ≤ 140737488355328) (hbase : base ≤ w.heap.size)
    (h : ∀ v' w', w'.ownsRow base e size v' (n + m) (xs ++ news) → w.grownBy w' v.ownBlock → (v'.ownBlock = v.ownBlock ∨ v'.ownBlock = some w.heap.size) → wpList P ops Q rest (a.put o.dst v') w') : wpList P ops Q (o :: rest) a w := by
  cases A with
  | none =>
    obtain ⟨hm, hc⟩ := hA rfl
    subst hm
    subst hc
    have hnil : news = [] := List.eq_nil_of_length_eq_zero (by simpa using hn)
    subst hnil
    refine wpList_append_own_none hgd s x t ho base e i size ht hi v n xs hs hown hx ?_
    exact h v w (by simpa using hown) (World.grownBy.refl w _) (.inl rfl)
  | some ad =>
    exact wpList_append_own_at w hgd s x t ho base e i z size bytes ht hi hz hsize hby hzs hsz v n xs hs hown ad m c news hx hn (hcells ad rfl) h1 h63 hbytes hbase (fun v' w' g1 g2 _ g4 => h v' w' g1 g2 g4)

/-- Two slices of the call's own that share no block. -/
def Apart (v u : Value) : Prop := ∀ g, v.ownBlock = some g → u.ownBlock ≠ some g
theorem Apart.symm {v u : Value} (h : Apart v u) : Apart u v := fun g h1 h2 => h g h2 h1
theorem Apart.nil (u : Value) : Apart (.slice none 0 0) u := fun g h => by simp [Value.ownBlock] at h
theorem own_block_lt {w : World} {B : Nat} {e : TypeId} {size n : Nat} {v : Value} {xs : List Value} (h : w.ownsRow B e size v n xs) {g : Nat} (hg : v.ownBlock = some g) : B ≤ g ∧ g < w.heap.size := by
  rcases h.2 with ⟨hv, _⟩ | ⟨g', cap, cur, hv, hb, hh, _⟩
  · rw [hv] at hg; simp [Value.ownBlock] at hg
  · rw [hv] at hg
    have : g' = g := by simpa [Value.ownBlock] using hg
    subst this
    exact ⟨hb, (Array.getElem?_eq_some_iff.1 hh).1⟩
/-- Behind an append: another slice stays apart, and owns what it owned. -/
theorem Apart.append {w : World} {B : Nat} {e : TypeId} {size n : Nat} {v v' u : Value} {ys : List Value} (hat : v'.ownBlock = v.ownBlock ∨ v'.ownBlock = some w.heap.size) (hu : w.ownsRow B e size u n ys) (h : Apart u v) : Apart u v' := by
  intro g hg h2
  rcases hat with e1 | e1
  · exact h g hg (e1 ▸ h2)
  · have := (own_block_lt hu hg).2
    rw [e1] at h2
    injection h2 with h2
    omega
theorem Apart.kept {w w' : World} {B : Nat} {e : TypeId} {size n : Nat} {v u : Value} {ys : List Value} (hu : w.ownsRow B e size u n ys) (hg : w.grownBy w' v.ownBlock) (h : Apart u v) : w'.ownsRow B e size u n ys := by
  refine hu.kept hg ?_
  cases hb : u.ownBlock with
  | none => exact .inl rfl
  | some g => exact .inr (fun e => h g hb e.symm)
/-- Behind an append onto a row of the call's own from block N on: what lies below N is as it was. -/
theorem grown_upd {w w' : World} {N : Nat} {e : TypeId} {size n : Nat} {v : Value} {xs : List Value} (hown : w.ownsRow N e size v n xs) (hg : w.grownBy w' v.ownBlock) (hN : N ≤ w.heap.size) : Below N w w' :=
  ⟨hg.os, hg.tape, hg.output, hg.size, fun k hk => hg.block k (by omega) (fun e => by have := (own_block_lt hown e.symm).1; omega)⟩

theorem ret_int {k : IntKind} {a b : Int} (h : a = b) : Ending.returned (.int k a) = .returned (.int k b) := by rw [h]
theorem ret_bool {a b : Bool} (h : a = b) : Ending.returned (.bool a) = .returned (.bool b) := by rw [h]

/-- A call in a region that only reads, behind other draws. -/
theorem quiet_more {P : Program} {f : FuncId} {args : Array Value} {w : World} {a n : Nat} {v : Value}
    (h : Calls P f args (w.drewN (a + n)) fun e w' => e = .returned v ∧ ∃ m, w' = (w.drewN (a + n)).drewN m) :
    Calls P f args (w.drewN (a + n)) fun e w' => e = .returned v ∧ ∃ m, w' = w.drewN (a + m) :=
  h.mono fun _ _ ⟨he, m, hm⟩ => ⟨he, n + m, by rw [hm, World.drewN_drewN, Nat.add_assoc]⟩
theorem quiet_more_same {P : Program} {f : FuncId} {args : Array Value} {w : World} {a n : Nat} {v : Value}
    (h : Calls P f args (w.drewN (a + n)) fun e w' => e = .returned v ∧ w.drewN (a + n) = w') :
    Calls P f args (w.drewN (a + n)) fun e w' => e = .returned v ∧ ∃ m, w' = w.drewN (a + m) :=
  h.mono fun _ _ ⟨he, hm⟩ => ⟨he, n, hm.symm⟩
theorem quiet_one {P : Program} {f : FuncId} {args : Array Value} {w : World} {n : Nat} {v : Value}
    (h : Calls P f args (w.drewN n) fun e w' => e = .returned v ∧ w.drewN n = w') : Calls P f args (w.drewN n) fun e w' => e = .returned v ∧ ∃ m, w' = w.drewN m :=
  h.mono fun _ _ ⟨he, hm⟩ => ⟨he, n, hm.symm⟩
end Go.Proofs.Yteljkdihlklliaa
/- m[k]++ on a map that the call makes: its three operations (mapEntry, lookup, entryStore), in whatever order. Plain laws on worlds. -/
namespace Go.Proofs.Yteljkdihlklliaa
open Go Go.Maps Go.RowKit Go.WideElems Go.MapKept Go.ChangeMaps
open Go.WideMaps (KeyLaw)
set_option maxHeartbeats 400000
theorem owns_congr {H : Type} {P : Program} {k : TypeId} {R : Value → Option (DataW H × List MemPlace)} {w w' : World} {b n : Nat} {D : DataW H} (h : w.ownsMap P k R b n D) (hb : w'.heap[b]? = w.heap[b]?) : w'.ownsMap P k R b n D := by
  obtain ⟨es, clock, h1, F, hs, hD⟩ := h
  exact ⟨es, clock, hb.trans h1, F, hs, hD⟩
theorem owns_upd {H : Type} {P : Program} {k : TypeId} {R : Value → Option (DataW H × List MemPlace)} {w w' : World} {b n : Nat} {D : DataW H} {S : List Nat} (h : w.ownsMap P k R b n D) (u : Upd S w w') (hb : b ∉ S) : w'.ownsMap P k R b n D :=
  owns_congr h (u.block b h.lt hb)
theorem grown_setBlock {w : World} {b : Nat} {o : Obj} {es : Array MapEntry} {clock : Nat} (hb : w.heap[b]? = some (.map es clock)) : w.grownBy (setBlock w b o) (some b) :=
  ⟨rfl, rfl, rfl, by simp [setBlock], fun i _ hi => heap_setBlock_other hb _ (fun e => hi (by rw [e]))⟩
section
variable {P : Program} {w : World} {t k e : TypeId} {b n : Nat} {D : DataW Value}
theorem entry_own (KL : KeyLaw P k) (ht : P.underlying t = some (.map k e)) (he : P.underlying e = some (.int .i64)) (hz : ∀ u : World, (zeroValue e).run P u = .ok (.int .i64 0) u) (h : w.ownsMap P k (plainElem P e) b n D) (hn : n < maxLen)
    {key : Value} {kl : Lit} (hkey : keyOf P k key = some kl) :
    ∃ (v0 : Value) (st : Nat) (w1 : World) (D1 : DataW Value), (Instr.mapEntry t (.map (some b)) key).run P w = .ok (.tuple #[v0, .int .i64 st]) w1 ∧ w1.ownsMap P k (plainElem P e) b (n + 1) D1 ∧ w.grownBy w1 (some b) ∧
      ∀ (w2 : World) (c : Int), w2.heap[b]? = w1.heap[b]? → (Lit.int .i64 c).wf = true → ∃ w3, (Instr.entryStore t (.map (some b)) (.int .i64 st) (.int .i64 c)).run P w2 = .ok () w3 ∧ w3.ownsMap P k (plainElem P e) b (n + 1) (D.put kl (.lit (.int .i64 c))) ∧ w2.grownBy w3 (some b) := by
  have hown := h
  have K : Keyed P k := Keyed.of_law KL
  obtain ⟨es, clock, hb, F, hs, hD⟩ := h
  obtain ⟨v0, st, es1, clock1, hrun, hcase, hst⟩ := entry_then_store KL ht hz hb F hkey
  have hb1 : (setBlock w b (.map es1 clock1)).heap[b]? = some (.map es1 clock1) := heap_setBlock_same hb _
  have hpart : ∃ D1, (setBlock w b (.map es1 clock1)).ownsMap P k (plainElem (H := Value) P e) b (n + 1) D1 := by
    rcases KL.find w hkey es.toList F.keys with ⟨h1, h2⟩ | ⟨j, e0, h1, h2, h3⟩
    · have hr : (Instr.mapEntry t (.map (some b)) key).run P w = .ok (.tuple #[.int .i64 0, goInt clock]) (setBlock w b (.map (es.push ⟨key, .int .i64 0, clock⟩) (clock + 1))) := by
        simp [Instr.mapEntry, run_underlying ht, MapKept.run_getObj_map hb, KL.check w false hkey, h1, hz, MapKept.run_setObj_map _ hb, Result.andThen, setBlock]
      have hu : (Instr.mapUpdate t (.map (some b)) key (.int .i64 0)).run P w = .ok () (setBlock w b (.map (es.push ⟨key, .int .i64 0, clock⟩) (clock + 1))) := by
        simp [Instr.mapUpdate, run_underlying ht, MapKept.run_getObj_map hb, KL.check w false hkey, h1, MapKept.run_setObj_map _ hb, Result.andThen, setBlock]
      obtain ⟨w', hu', how, _⟩ := hown.update K ht hn hkey (plainElem_int (H := Value) he (a := 0) (by decide))
      rw [hu] at hu'
      injection hu' with _ hu'
      rw [hr] at hrun
      injection hrun with _ hrun
      rw [← hrun, hu']
      exact ⟨_, how⟩
    · have hj : es[j]? = some e0 := by simpa using h2
      have hsame : es.modify j (fun e => { e with key := key }) = es := by
        apply Array.ext'
        rw [Array.toList_modify, modify_eq_set _ _ _ _ h2]
        have : ({ e0 with key := key } : MapEntry) = e0 := by rw [← h3]
        rw [this]
        exact set_self _ _ _ h2
      have hr : (Instr.mapEntry t (.map (some b)) key).run P w = .ok (.tuple #[e0.val, goInt e0.born]) (setBlock w b (.map es clock)) := by
        simp [Instr.mapEntry, run_underlying ht, MapKept.run_getObj_map hb, KL.check w false hkey, h1, hj, h3, KL.stays w hkey, hsame, MapKept.run_setObj_map _ hb, Result.andThen, setBlock]
      rw [hr] at hrun
      injection hrun with _ hrun
      rw [← hrun]
      exact ⟨D, (owns_congr hown (by rw [heap_setBlock_same hb, hb])).mono (Nat.le_succ _)⟩
  obtain ⟨D1, hD1⟩ := hpart
  refine ⟨v0, st, _, D1, hrun, hD1, grown_setBlock hb, fun w2 c hw2 hc => ?_⟩
  obtain ⟨es', clock', h1, h2⟩ := hst w2 (.int .i64 c) (hw2.trans hb1)
  obtain ⟨w', hu', how, _⟩ := hown.update K ht hn hkey (plainElem_int (H := Value) he hc)
  rw [h2] at hu'
  injection hu' with _ hu'
  have hb2 : w2.heap[b]? = some (.map es1 clock1) := hw2.trans hb1
  refine ⟨_, h1, owns_congr how ?_, grown_setBlock hb2⟩
  rw [← hu', heap_setBlock_same hb2, heap_setBlock_same hb]
end
end Go.Proofs.Yteljkdihlklliaa
/- A slice whose cells lie in blocks between two bounds. Plain laws on worlds. -/
namespace Go.Proofs.Yteljkdihlklliaa
open Go Go.RowKit

/-- A slice whose cells lie in blocks from lo to hi. -/
def CellsIn (w : World) (lo hi size : Nat) (A : Option Addr) (n : Nat) (xs : List Value) : Prop :=
  xs.length = n * size ∧ (0 < n → ∃ b off, A = some ⟨b, off, none⟩ ∧ lo ≤ b ∧ b < hi ∧ ∀ (j : Nat) (u : Value), xs[j]? = some u → w.cell? ⟨b, off + j, none⟩ = some u)
section
variable {w w' : World} {lo hi size n : Nat} {A : Option Addr} {xs : List Value}
theorem CellsIn.upd {S : List Nat} (h : CellsIn w lo hi size A n xs) (u : Upd S w w') (hh : hi ≤ w.heap.size) (hS : ∀ s, s ∈ S → s < lo ∨ hi ≤ s) : CellsIn w' lo hi size A n xs :=
  ⟨h.1, fun hn => by
    obtain ⟨b, off, e, h1, h2, hc⟩ := h.2 hn
    exact ⟨b, off, e, h1, h2, fun j v hv => (u.cell (p := ⟨b, off + j, none⟩) (Nat.lt_of_lt_of_le h2 hh) (fun hb => by have := hS b hb; omega)).trans (hc j v hv)⟩⟩
theorem CellsIn.below {B : Nat} (h : CellsIn w lo hi size A n xs) (u : Below B w w') (hh : hi ≤ B) : CellsIn w' lo hi size A n xs :=
  ⟨h.1, fun hn => by
    obtain ⟨b, off, e, h1, h2, hc⟩ := h.2 hn
    exact ⟨b, off, e, h1, h2, fun j v hv => (u.cell (p := ⟨b, off + j, none⟩) (Nat.lt_of_lt_of_le h2 hh)).trans (hc j v hv)⟩⟩
theorem CellsIn.more {lo' hi' : Nat} (h : CellsIn w lo hi size A n xs) (h1 : lo' ≤ lo) (h2 : hi ≤ hi') : CellsIn w lo' hi' size A n xs :=
  ⟨h.1, fun hn => by
    obtain ⟨b, off, e, h3, h4, hc⟩ := h.2 hn
    exact ⟨b, off, e, by omega, by omega, hc⟩⟩
theorem CellsIn.nil (w : World) (lo hi size : Nat) (A : Option Addr) : CellsIn w lo hi size A 0 [] := ⟨by simp, fun h => absurd h (Nat.lt_irrefl 0)⟩
theorem CellsIn.of_own {e : TypeId} {c : Nat} (h : w.ownsRow lo e size (.slice A n c) n xs) : CellsIn w lo w.heap.size size A n xs := by
  refine ⟨h.1, fun hn => ?_⟩
  obtain ⟨A', c', hv, _, hA, _⟩ := own_form h
  injection hv with h1 h2 h3
  subst h1
  obtain ⟨g, hg, hlo, hlt⟩ := hA hn
  subst hg
  refine ⟨g, 0, rfl, hlo, hlt, fun j u hu => ?_⟩
  have := h.cells (g := g) rfl j u hu
  rw [Nat.zero_add]
  by_cases hj : j = 0
  · subst hj; simpa [Addr.add] using this
  · simpa [Addr.add, hj] using this
/-- the slice lies in blocks from lo on -/
theorem CellsIn.fresh (h : CellsIn w lo hi size A n xs) (hn : 0 < n) : ∀ a, A = some a → lo ≤ a.block := by
  intro a ha
  obtain ⟨b, off, e, h1, _, _⟩ := h.2 hn
  rw [ha] at e
  obtain rfl := Option.some.inj e
  exact h1
/-- as '.upd', block by block -/
theorem CellsIn.upd2 {S : List Nat} (h : CellsIn w lo hi size A n xs) (u : Upd S w w') (hh : hi ≤ w.heap.size) (hS : ∀ s, s ∈ S → 0 < n → ∀ a, A = some a → a.block ≠ s) : CellsIn w' lo hi size A n xs :=
  ⟨h.1, fun hn => by
    obtain ⟨b, off, e, h1, h2, hc⟩ := h.2 hn
    exact ⟨b, off, e, h1, h2, fun j v hv => (u.cell (p := ⟨b, off + j, none⟩) (Nat.lt_of_lt_of_le h2 hh) (fun hb => hS b hb hn _ e rfl)).trans (hc j v hv)⟩⟩
/-- what an append wants of its source -/
theorem CellsIn.src (h : CellsIn w lo hi size A n xs) : ∀ ad, A = some ad → ∀ (j : Nat) (u : Value), xs[j]? = some u → w.cell? (ad.add j) = some u := by
  intro ad had j u hu
  have hj := (List.getElem?_eq_some_iff.1 hu).1
  have hn : 0 < n := by
    rcases Nat.eq_zero_or_pos n with h0 | h0
    · have := h.1; rw [h0, Nat.zero_mul] at this; omega
    · exact h0
  obtain ⟨b, off, e, _, _, hc⟩ := h.2 hn
  rw [had] at e
  injection e with e
  subst e
  have := hc j u hu
  unfold Addr.add
  by_cases hj0 : j = 0
  · subst hj0; simpa using this
  · simpa [hj0] using this
end

theorem own_cap {w : World} {B : Nat} {e : TypeId} {size n c : Nat} {A : Option Addr} {xs : List Value} (h : w.ownsRow B e size (.slice A n c) n xs) : c ≤ 9223372036854775807 := by
  rcases h.2 with ⟨hv, _⟩ | ⟨g, cap, cur, hv, _, _, _, hm, _⟩
  · injection hv with _ _ h3; omega
  · injection hv with _ _ h3; rw [h3]; exact hm

theorem bodyPost_res {P : Program} {fn : Func} {R : Ending → World → Prop} {a : Act} {w : World} {v : Value} (h : (results fn a.tmps).run P w = .ok v w) (hd : a.defers = []) (hR : R (.returned v) w) : bodyPost P fn R .ret a w :=
  bodyPost_ret h hd hR
end Go.Proofs.Yteljkdihlklliaa
/- Rows of elements of several cells. Plain laws on lists. -/
namespace Go.Proofs.Yteljkdihlklliaa
open Go Go.RowKit

section
variable {α : Type} {f : α → List Value} {size : Nat}
theorem flat_length (hf : ∀ z, (f z).length = size) (l : List α) : (l.flatMap f).length = l.length * size := by
  induction l with
  | nil => simp
  | cons a l ih => rw [List.flatMap_cons, List.length_append, ih, hf, List.length_cons, Nat.succ_mul, Nat.add_comm]
theorem flat_get (hf : ∀ z, (f z).length = size) (l : List α) (i j : Nat) (z : α) (h : l[i]? = some z) (hj : j < size) : (l.flatMap f)[i * size + j]? = (f z)[j]? := by
  induction l generalizing i with
  | nil => simp at h
  | cons a l ih =>
    rw [List.flatMap_cons]
    cases i with
    | zero =>
      obtain rfl : a = z := by simpa using h
      rw [Nat.zero_mul, Nat.zero_add, List.getElem?_append_left (by rw [hf]; exact hj)]
    | succ i =>
      rw [List.getElem?_append_right (by rw [hf, Nat.succ_mul]; omega), hf, Nat.succ_mul, show i * size + size + j - size = i * size + j by omega]
      exact ih i (by simpa using h)
theorem flat_set (hf : ∀ z, (f z).length = size) (l : List α) (i j : Nat) (z z' : α) (v : Value) (h : l[i]? = some z) (hj : j < size) (hz : f z' = (f z).set j v) : (l.flatMap f).set (i * size + j) v = (l.set i z').flatMap f := by
  induction l generalizing i with
  | nil => simp at h
  | cons a l ih =>
    cases i with
    | zero =>
      obtain rfl : a = z := by simpa using h
      rw [List.flatMap_cons, List.set_cons_zero, List.flatMap_cons, Nat.zero_mul, Nat.zero_add, hz, List.set_append_left _ _ (by rw [hf]; exact hj)]
    | succ i =>
      rw [List.flatMap_cons, List.set_cons_succ, List.flatMap_cons, List.set_append_right _ _ (by rw [hf, Nat.succ_mul]; omega), hf, Nat.succ_mul, show i * size + size + j - size = i * size + j by omega, ih i (by simpa using h)]
theorem flat_snoc (l : List α) (x : α) : (l ++ [x]).flatMap f = l.flatMap f ++ f x := by simp
theorem flat_take (hf : ∀ z, (f z).length = size) (l : List α) (k : Nat) : (l.flatMap f).take (k * size) = (l.take k).flatMap f := by
  induction l generalizing k with
  | nil => simp
  | cons a l ih =>
    cases k with
    | zero => simp
    | succ k =>
      rw [List.flatMap_cons, List.take_succ_cons, List.flatMap_cons, Nat.succ_mul, Nat.add_comm, List.take_append, hf]
      rw [List.take_of_length_le (by rw [hf]; omega), Nat.add_sub_cancel_left, ih]
end

/-- make of n elements of several cells, each the zero one. -/
theorem run_mkN {P : Program} (t e : TypeId) (zc : List Value) (size bytes : Nat) (ht : P.underlying t = some (.slice e)) (hi : (P.info? e).map (fun i => (i.zero, i.size, i.bytes)) = some (some (.agg zc.toArray), size, bytes))
    (hz : zc.length = size) (h0 : 0 < size) (n : Nat) (hb : bytes * n ≤ 281474976710656) (hn : n ≤ 65536) (w : World) :
    (Instr.makeSlice t (.int .i64 (n : Int)) (.int .i64 (n : Int))).run P w = .ok (.slice (some ⟨w.heap.size, 0, none⟩) n n) (w.alloc (.cells ((List.replicate n ()).flatMap fun _ => zc).toArray e)) := by
  obtain ⟨i0, hi0, hz0, hz1, hz2⟩ := info_parts hi
  have hb' : (i0.bytes : Int) * (n : Int) ≤ 281474976710656 := by
    rw [hz2]
    have : ((bytes * n : Nat) : Int) ≤ 281474976710656 := by omega
    rwa [Int.natCast_mul] at this
  have h := run_make (P := P) w t e i0 _ ht hi0 hz0 .i64 .i64 (n : Int) (n : Int) (by omega) (by omega) hb' (by omega)
  rw [Int.toNat_natCast, hz1] at h
  rw [h]
  congr 3
  unfold madeCells
  have hcs : (Value.agg zc.toArray).cells = zc.toArray := rfl
  rw [hcs]
  apply Array.ext
  · simp [flat_length (f := fun _ : Unit => zc) (fun _ => hz)]
  · intro i h1 h2
    simp only [Array.size_map, Array.size_range] at h1
    have hq : i = i / size * size + i % size := by rw [Nat.mul_comm]; exact (Nat.div_add_mod i size).symm
    have hm : i % size < size := Nat.mod_lt _ h0
    have hd : i / size < n := Nat.div_lt_of_lt_mul (by rw [Nat.mul_comm]; exact h1)
    have hg := flat_get (f := fun _ : Unit => zc) (fun _ => hz) (List.replicate n ()) (i / size) (i % size) () (by simp [hd]) hm
    rw [← hq] at hg
    simp only [Array.getElem_map, Array.getElem_range, List.getElem_toArray]
    rw [List.getElem?_eq_getElem (by simpa using h2), List.getElem?_eq_getElem (by omega)] at hg
    have hsz : zc.toArray.size = size := by simpa using hz
    rw [Option.some.inj hg, hsz, getElem!_pos zc.toArray (i % size) (by rw [hsz]; exact hm)]
    simp
end Go.Proofs.Yteljkdihlklliaa
/- The region of YteljkdihlklliaaTail over any class of worlds. -/
namespace Go.Proofs.Yteljkdihlklliaa
open Go

section
variable {P : Program}

/-- The worlds of a class, as a type of its own (so that a walk sees one name for "some world of it"). -/
structure Cls (C : World → Prop) where
  w : World
  h : C w

theorem quiet_cls {C : World → Prop} {f : FuncId} {args : Array Value} {x : Cls C} {v : Value} (h : Calls P f args x.w fun e w' => e = .returned v ∧ C w') : Calls P f args x.w fun e w' => e = .returned v ∧ ∃ m : Cls C, w' = m.w :=
  h.mono fun _ w' ⟨he, hm⟩ => ⟨he, ⟨w', hm⟩, rfl⟩

/-- THE REGION, over any class of worlds: its operations up to the n-th answer alike in each world of the class, and stay in it. -/
theorem wp_moves_class_tail {id : Nat} {Q : Exit → Act → World → Prop} {a : Act} {w : World} {l : List Oper} (C : World → Prop) (hC : C (w.drewN 1)) (m n : Nat) (hm : P.follows .mixedOrders = true) (hB : tailB .any l.toArray m n = true)
    (hQ : ∀ c tmps a w, Q (.panic c) { a with tmps := tmps } w → Q (.panic c) a w)
    (h : Nonempty (Cls C) → wpQuiet P l.toArray (fun _ => True) (fun a0 => wpQuiet P l.toArray (fun w' => ∃ x : Cls C, w' = x.w) (fun a' => ∀ w', (∃ x : Cls C, w' = x.w) → wpList P l.toArray Q (l.drop n) a' w') ((l.take n).drop m) a0) (l.take m) a) :
    (Code.region id l.toArray true).wp P Q a w := by
  have h := h ⟨⟨_, hC⟩⟩
  simp only [tailB, Bool.and_eq_true, decide_eq_true_eq] at hB
  obtain ⟨⟨⟨⟨⟨hsel, hn⟩, hmn⟩, hs⟩, hc⟩, hpre⟩ := hB
  have hn' : n < l.length := by simpa using hn
  have hml : (l.take m).length = m := by rw [List.length_take]; omega
  have hhl : ((l.take n).drop m).length = n - m := by rw [List.length_drop, List.length_take]; omega
  have hsz : (l.drop n).length = l.toArray.size - n := by simp
  have inv0 : HeadInv .any l.toArray n (Array.replicate l.toArray.size false) :=
    ⟨by simp, fun j oj _ hl => by rw [getD_replicate_false] at hl; exact absurd hl (by decide), fun t _ ht => getD_in (by simpa using ht) (getD_replicate_false _ _)⟩
  refine wp_region_any hm ?_
  have K := pre_any (P := P) (md := .any) (Q := Q) (m := m) (F := n - m + (l.toArray.size - n)) (w := { w with drawn := w.drawn + 1 }) hsel (fun done a' ok hB' hq => ?_) hQ (l.take m) 0 _ a
    (fun j hj => by rw [hml] at hj; simp [hj]) (by simpa using hml) ⟨inv0, fun i hi => absurd hi (Nat.not_lt_zero i)⟩ (by rw [hml]; exact hpre) h
  · rw [hml, show m + (n - m + (l.toArray.size - n)) = l.toArray.size by omega] at K
    exact K
  · have H := HeadAny.lex (P := P) (md := .any) (g := l.toArray.size - n) hsel hs hc ((l.take n).drop m) m done a'
      (fun j hj => by
        rw [hhl] at hj
        have h1 : m + j < n := by omega
        simp [List.getElem?_drop, h1]) (by rw [hhl]; omega) ok (by rw [hhl]; exact hB') hq
    rw [hhl] at H
    exact HeadAny.any (Q := Q) (g := l.toArray.size - n) (fun done a' w' hw' hL => by
      have h1 := wpAny_of_seqW (md := .any) (Q := Q) hsel hQ (l.drop n) n done a' w' (fun j _ => by simp [List.getElem?_drop]) (by rw [hsz]; exact hL.2.1) (hL.2.2 w' hw')
      rwa [hsz] at h1) (n - m) done a' _ ⟨⟨_, hC⟩, rfl⟩ H
theorem wp_class_tail {id : Nat} {Q : Exit → Act → World → Prop} {a : Act} {w : World} {l : List Oper} (C : World → Prop) (hC : C (w.drewN 1)) (n : Nat) (hm : P.follows .mixedOrders = true) (hB : tailB .any l.toArray 0 n = true)
    (hQ : ∀ c tmps a w, Q (.panic c) { a with tmps := tmps } w → Q (.panic c) a w)
    (h : Nonempty (Cls C) → wpQuiet P l.toArray (fun w' => ∃ x : Cls C, w' = x.w) (fun a' => ∀ w', (∃ x : Cls C, w' = x.w) → wpList P l.toArray Q (l.drop n) a' w') (l.take n) a) : (Code.region id l.toArray true).wp P Q a w :=
  wp_moves_class_tail C hC 0 n hm hB hQ h
end
end Go.Proofs.Yteljkdihlklliaa
/- A region that draws its order: some operations that give their value in whatever world are taken first, wherever they stand (nil checks, addresses, copies); then a head that stays in a class of worlds; then a tail in one forced order: one walk serves every order.
   Conditions: the Bool over the region holds; each operation of the head is quiet in the class; the tail is walked from each world of it. -/
namespace Go.Proofs.Yteljkdihlklliaa
open Go

section
variable {P : Program} {ops : Array Oper} {md : Region.Mode} {C : World → Prop}

/-- what runs so ends, if it ends, with a value -/
def ValueOnly (s : Sem Next) : Prop := ∀ (P : Program) (w : World) (n : Next) (w' : World), s.run P w = .ok n w' → ∃ u, n = .value u
theorem ValueOnly.pure (u : Value) : ValueOnly (Pure.pure (.value u)) := fun P w n w' h => by
  rw [Sem.run_pure] at h
  injection h with h
  exact ⟨u, h.symm⟩
theorem ValueOnly.bind {α : Type} {s : Sem α} {f : α → Sem Next} (hf : ∀ x, ValueOnly (f x)) : ValueOnly (s >>= f) := fun P w n w' h => by
  rw [Sem.run_bind] at h
  cases hs : s.run P w with
  | ok x w1 => rw [hs, Result.andThen_ok] at h; exact hf x P w1 n w' h
  | halt e w1 => rw [hs] at h; cases h

/-- the operation is of a kind that gives a value and leaves the world alone, if it is quiet -/
def pureB (ops : Array Oper) (k : Nat) : Bool := match ops[k]? with
  | some o => match o.op with | .move _ => true | .assign _ => true | .fieldAddr _ _ _ => true | .indexAddr _ _ _ => true | .extract _ _ => true | .nilCheck _ => true | _ => false
  | none => false
theorem pureB_value {k : Nat} {o : Oper} {a : Act} (hk : ops[k]? = some o) (hm : pureB ops k = true) : ValueOnly (execOp a.eval o) := by
  unfold pureB at hm
  rw [hk] at hm
  dsimp only at hm
  split at hm
  · rename_i x hx; unfold execOp; rw [hx]; exact ValueOnly.pure _
  · rename_i x hx; unfold execOp; rw [hx]; exact ValueOnly.pure _
  · rename_i hx; unfold execOp; rw [hx]; exact ValueOnly.bind fun _ => ValueOnly.pure _
  · rename_i hx; unfold execOp; rw [hx]; exact ValueOnly.bind fun _ => ValueOnly.pure _
  · rename_i hx; unfold execOp; rw [hx]; exact ValueOnly.bind fun _ => ValueOnly.pure _
  · rename_i x hx
    unfold execOp
    rw [hx]
    dsimp only
    split
    · intro P w n w' h; simp [runtimePanic] at h
    · intro P w n w' h; simp [runtimePanic] at h
    · intro P w n w' h; simp [runtimePanic] at h
    · split
      · intro P w n w' h; simp [runtimePanic] at h
      · refine ValueOnly.bind fun _ => ValueOnly.bind fun _ => ?_
        split
        · exact ValueOnly.bind fun _ => ValueOnly.pure _
        · exact ValueOnly.pure _
      · exact ValueOnly.pure _
    · exact ValueOnly.pure _
  · cases hm
theorem yields_of_pure {k : Nat} {o : Oper} {v : Value} {a : Act} (hk : ops[k]? = some o) (hm : pureB ops k = true) (h : YieldsIn P ops (fun _ => True) o v a) : Yields P ops o v a := by
  rcases h with ⟨hw, h⟩ | ⟨hw, h⟩
  · refine .inl ⟨hw, fun w => ?_⟩
    have h1 := h w trivial
    have hv := pureB_value (a := a) hk hm
    unfold Oper.quietAt at h1
    cases hr : (execOp a.eval o).run P w with
    | ok n w' =>
      obtain ⟨u, rfl⟩ := hv P w n w' hr
      rw [hr] at h1
      obtain ⟨h2, h3⟩ := h1
      rw [h2, h3]
    | halt e w' => rw [hr] at h1; exact h1.elim
  · exact .inr ⟨hw, h⟩

/-- each of the operations up to the n-th is taken first, or waited for by a later one, up to the n-th -/
def sink3 (md : Region.Mode) (ops : Array Oper) (F : List Nat) (n : Nat) : Bool :=
  (List.range n).all fun i => F.contains i || (List.range (n + 1)).any fun j => decide (i < j) && Region.waitsFor md ops j i
/-- each operation behind the n-th is taken first, or waits for one from the n-th on that is not -/
def chain3 (md : Region.Mode) (ops : Array Oper) (F : List Nat) (n : Nat) : Bool :=
  (List.range ops.size).all fun t => decide (t ≤ n) || F.contains t || (List.range t).any fun j => decide (n ≤ j) && !F.contains j && Region.waitsFor md ops t j
/-- what holds of the marks while the head is under way -/
structure HeadOk3 (md : Region.Mode) (ops : Array Oper) (F : List Nat) (n : Nat) (done : Array Bool) : Prop where
  size : done.size = ops.size
  closed : ∀ j oj, ops[j]? = some oj → done.getD j false = true → ∀ e ∈ oj.after, Region.binds md e = true → done.getD e.on false = true
  tail : ∀ t, n ≤ t → t < ops.size → ¬ t ∈ F → done.getD t true = false
  pre : ∀ i, i ∈ F → done.getD i false = true

theorem HeadOk3.set {F : List Nat} {n i : Nat} {done : Array Bool} (h : HeadOk3 md ops F n done) (hi : i ∈ Region.ready md ops done) (hin : i < n) : HeadOk3 md ops F n (done.setIfInBounds i true) := by
  obtain ⟨_, oi, hoi, hall⟩ := mem_ready.1 hi
  refine ⟨by simp [h.size], fun j oj hj hl e he hb => ?_, fun t ht ht' hf => by rw [getD_set_ne true (by omega)]; exact h.tail t ht ht' hf, fun k hk => getD_set_true (h.pre k hk)⟩
  by_cases hij : i = j
  · subst hij
    have : oj = oi := Option.some.inj (hj.symm.trans hoi)
    subst this
    exact getD_set_true (hall e he hb)
  · rw [getD_set_ne false hij] at hl
    exact getD_set_true (h.closed j oj hj hl e he hb)

/-- as long as one of the head is still to come, none of the tail may come -/
theorem HeadOk3.waits {F : List Nat} {n : Nat} {done : Array Bool} (h : HeadOk3 md ops F n done) (hs : sink3 md ops F n = true) (hc : chain3 md ops F n = true) :
    ∀ (d i : Nat), n - i = d → i < n → done.getD i true = false → ∀ t, n ≤ t → t ∉ Region.ready md ops done := by
  intro d
  induction d using Nat.strongRecOn with
  | _ d ih =>
    intro i hd hi hun t ht hr
    obtain ⟨htun, ot, hot, hall⟩ := mem_ready.1 hr
    have htlt : t < ops.size := (Array.getElem?_eq_some_iff.1 hot).1
    have hF : ∀ j, done.getD j true = false → ¬ j ∈ F := fun j hj hm => by
      have h1 := h.pre j hm
      rw [getD_both hj] at h1
      exact absurd h1 (by decide)
    by_cases htn : t = n
    · have h1 := List.all_eq_true.1 hs i (List.mem_range.2 hi)
      simp only [Bool.or_eq_true, List.contains_iff_mem, hF i hun, false_or] at h1
      obtain ⟨j, hj, hj2⟩ := List.any_eq_true.1 h1
      simp only [Bool.and_eq_true, decide_eq_true_eq] at hj2
      obtain ⟨oj, hoj, e, he, hb, hon⟩ := Region.waitsFor_spec hj2.2
      have hjle := List.mem_range.1 hj
      by_cases hjt : j = t
      · rw [hjt, hot] at hoj
        have h2 := hall e (by rw [Option.some.inj hoj]; exact he) hb
        rw [hon, getD_both hun] at h2
        exact absurd h2 (by decide)
      · cases hl : done.getD j false with
        | true =>
          have h2 := h.closed j oj hoj hl e he hb
          rw [hon, getD_both hun] at h2
          exact absurd h2 (by decide)
        | false => exact ih (n - j) (by omega) j rfl (by omega) (getD_in (by rw [h.size]; omega) hl) t ht hr
    · have h1 := List.all_eq_true.1 hc t (List.mem_range.2 htlt)
      simp only [Bool.or_eq_true, decide_eq_true_eq, List.contains_iff_mem, hF t htun, or_false] at h1
      obtain ⟨j, hj, hj2⟩ := List.any_eq_true.1 (h1.resolve_left (by omega))
      simp only [Bool.and_eq_true, decide_eq_true_eq, Bool.not_eq_true'] at hj2
      have hjt := List.mem_range.1 hj
      obtain ⟨o', ho', e, he, hb, hon⟩ := Region.waitsFor_spec hj2.2
      rw [hot] at ho'
      have h3 := hall e (by rw [Option.some.inj ho']; exact he) hb
      rw [hon, getD_both (h.tail j hj2.1.1 (by omega) (by simpa using hj2.1.2))] at h3
      exact absurd h3 (by decide)

theorem HeadAny.first3 {F : List Nat} {n i : Nat} {oi : Oper} {v : Value} {L : Array Bool → Act → Prop} (hi : ops[i]? = some oi) (hsel : Region.noSelect ops = true)
    (hs : sink3 md ops F n = true) (hc : chain3 md ops F n = true) (hin : i < n) (hL : ∀ done a, L done a → ∀ j ∈ Region.ready md ops done, n ≤ j) :
    ∀ (f : Nat) (done : Array Bool) (a : Act), HeadOk3 md ops F n done →
      (∀ j oj, ops[j]? = some oj → j ≠ i → done.getD j true = false → (∀ e ∈ oj.after, Region.binds md e = true → e.on ≠ i) → oi.apart ops oj = true) →
      i ∈ Region.ready md ops done → YieldsIn P ops C oi v a →
      HeadAny P md ops C n L f (done.setIfInBounds i true) (a.put oi.dst v) → HeadAny P md ops C n L (f + 1) done a := by
  have spec := Region.noSelect_spec hsel
  intro f
  induction f with
  | zero =>
    intro done a ok _ hr hy H
    refine ⟨List.ne_nil_of_mem hr, fun j hj => ?_⟩
    have hjn : j < n := Nat.lt_of_not_le fun hle => ok.waits hs hc _ i rfl hin (mem_ready.1 hr).1 j hle hj
    refine ⟨hjn, ?_⟩
    by_cases hji : j = i
    · rw [hji]; exact hy.qOp hi H
    · exact absurd (hL _ _ H j (ready_mono hj hji)) (Nat.not_le_of_lt hjn)
  | succ f ih =>
    intro done a ok hfree hr hy H
    have hun := (mem_ready.1 hr).1
    refine ⟨List.ne_nil_of_mem hr, fun j hj => ?_⟩
    have hjn : j < n := Nat.lt_of_not_le fun hle => ok.waits hs hc _ i rfl hin hun j hle hj
    refine ⟨hjn, ?_⟩
    by_cases hji : j = i
    · rw [hji]; exact hy.qOp hi H
    · obtain ⟨hjun, oj, hoj, hall⟩ := mem_ready.1 hj
      have hnot : ∀ e ∈ oj.after, Region.binds md e = true → e.on ≠ i := by
        intro e he hb heq
        have h1 := hall e he hb
        rw [heq, getD_both hun] at h1
        exact absurd h1 (by decide)
      have h2 := qOp_put hoj (hfree j oj hoj hji hjun hnot) (fun cs b => spec i oi cs b hi) (fun cs b => spec j oj cs b hoj) hy (H.2 j (ready_mono hj hji)).2
      refine qOp_mono (fun a' h3 => ?_) h2
      refine ih (done.setIfInBounds j true) a' (ok.set hj hjn) (fun k ok hk hki hku hno => hfree k ok hk hki ?_ hno) (ready_mono hr (Ne.symm hji)) h3.1 ?_
      · by_cases hjk : j = k
        · rw [← hjk]; exact hjun
        · rwa [getD_set_ne true hjk] at hku
      · rw [Array.setIfInBounds_comm _ _ hji]; exact h3.2

/-- those operations -/
def pick3 (l : List Oper) (is : List Nat) : List Oper := is.map fun i => (l[i]?).getD { dst := none, op := .move (.const undef), after := #[], guard := none, type := 0, pos := "" }
/-- the tail: at each point the one operation that may come; or one that gives its value in whatever world -/
def seq3 (md : Region.Mode) (ops : Array Oper) : List Nat → Array Bool → Bool
  | [], done => (Region.ready md ops done).isEmpty
  | k :: is, done => decide (k < ops.size) && (decide (Region.ready md ops done = [k]) || (plainB ops k && (Region.ready md ops done).contains k && Region.free md ops done k)) && seq3 md ops is (done.setIfInBounds k true)
theorem pick3_cons {l : List Oper} {k : Nat} {is : List Nat} {o : Oper} (h : l[k]? = some o) : pick3 l (k :: is) = o :: pick3 l is := by
  unfold pick3; rw [List.map_cons, h]; rfl

theorem wpAny_of_seq3 {l : List Oper} {Q : Exit → Act → World → Prop} (hsel : Region.noSelect l.toArray = true) (hQ : ∀ c tmps a w, Q (.panic c) { a with tmps := tmps } w → Q (.panic c) a w) :
    ∀ (is : List Nat) (done : Array Bool) (a : Act) (w : World), seq3 md l.toArray is done = true → wpList P l.toArray Q (pick3 l is) a w → wpAny P md l.toArray Q is.length done a w := by
  intro is
  induction is with
  | nil => intro done a w hB h; exact ⟨by simpa [seq3] using hB, h⟩
  | cons k is ih =>
    intro done a w hB h
    simp only [seq3, Bool.and_eq_true, Bool.or_eq_true, decide_eq_true_eq] at hB
    obtain ⟨⟨hk, hB1⟩, hB2⟩ := hB
    obtain ⟨o, h0⟩ : ∃ o, l[k]? = some o := ⟨_, List.getElem?_eq_getElem (by simpa using hk)⟩
    rw [pick3_cons h0] at h
    have h0' : l.toArray[k]? = some o := by simpa using h0
    have hw : wpOp P l.toArray Q k (wpList P l.toArray Q (pick3 l is)) a w := by unfold wpOp; simp only [h0']; exact h
    rcases hB1 with hr | ⟨⟨hp, hr⟩, hf⟩
    · refine ⟨fun h1 => by rw [hr] at h1; exact absurd h1 (List.cons_ne_nil _ _), fun i hi => ?_⟩
      rw [hr] at hi
      obtain rfl : i = k := by simpa using hi
      exact wpOp_mono (fun a' w' h' => ih _ a' w' hB2 h') hw
    · obtain ⟨v, hy, hK⟩ := plain_yields h0' hp hw
      exact wpAny_take h0' hsel hf hr (fun c a' w' h' => hQ c (a'.put o.dst v).tmps a' w' (by rw [put_tmps]; exact h')) hy (ih _ _ w hB2 hK)

/-- the head, in the order of the list, then the tail -/
def lex3 (md : Region.Mode) (ops : Array Oper) (n : Nat) (T : List Nat) : List Nat → Array Bool → Bool
  | [], done => ((Region.ready md ops done).all fun j => decide (n ≤ j)) && seq3 md ops T done
  | k :: is, done => decide (k < n) && decide (k < ops.size) && (Region.ready md ops done).contains k && Region.free md ops done k && lex3 md ops n T is (done.setIfInBounds k true)

theorem HeadAny.lex3 {l : List Oper} {F T : List Nat} {n : Nat} {R : Act → Prop} (hsel : Region.noSelect l.toArray = true) (hs : sink3 md l.toArray F n = true) (hc : chain3 md l.toArray F n = true) :
    ∀ (is : List Nat) (done : Array Bool) (a : Act), HeadOk3 md l.toArray F n done →
      lex3 md l.toArray n T is done = true → wpQuiet P l.toArray C R (pick3 l is) a →
      HeadAny P md l.toArray C n (fun done' a' => ((Region.ready md l.toArray done').all fun j => decide (n ≤ j)) = true ∧ seq3 md l.toArray T done' = true ∧ R a') is.length done a := by
  intro is
  induction is with
  | nil =>
    intro done a _ hB h
    simp only [Go.Proofs.Yteljkdihlklliaa.lex3, Bool.and_eq_true] at hB
    exact ⟨hB.1, hB.2, h⟩
  | cons k is ih =>
    intro done a ok hB h
    simp only [Go.Proofs.Yteljkdihlklliaa.lex3, Bool.and_eq_true, decide_eq_true_eq] at hB
    obtain ⟨⟨⟨⟨hkn, hks⟩, hr⟩, hf⟩, hB'⟩ := hB
    obtain ⟨o, h0⟩ : ∃ o, l[k]? = some o := ⟨_, List.getElem?_eq_getElem (by simpa using hks)⟩
    have h0' : l.toArray[k]? = some o := by simpa using h0
    rw [pick3_cons h0] at h
    have hr' : k ∈ Region.ready md l.toArray done := by simpa using hr
    have hq : qOp P l.toArray C k (wpQuiet P l.toArray C R (pick3 l is)) a := by unfold qOp; simp only [h0']; exact h
    obtain ⟨v, hy, hK⟩ := yieldsIn_of_qOp h0' hq
    exact HeadAny.first3 h0' hsel hs hc hkn (fun done' a' hL j hj => by have := List.all_eq_true.1 hL.1 j hj; simpa using this) is.length done a ok (Region.free_spec h0' hf) hr' hy
      (ih _ _ (ok.set hr' hkn) hB' hK)

/-- those taken first, then the check of the rest -/
def pre3 (md : Region.Mode) (ops : Array Oper) (n : Nat) (H T : List Nat) : List Nat → Array Bool → Bool
  | [], done => lex3 md ops n T H done
  | k :: is, done => pureB ops k && decide (k < ops.size) && (Region.ready md ops done).contains k && Region.free md ops done k && pre3 md ops n H T is (done.setIfInBounds k true)
def tail3 (md : Region.Mode) (ops : Array Oper) (F H T : List Nat) (n : Nat) : Bool :=
  Region.noSelect ops && decide (F.length + (H.length + T.length) = ops.size) && sink3 md ops F n && chain3 md ops F n && pre3 md ops n H T F (Array.replicate ops.size false)

theorem pre_any3 {l : List Oper} {H T : List Nat} {Q : Exit → Act → World → Prop} {n G : Nat} {w : World} {R : Act → Prop} (hsel : Region.noSelect l.toArray = true) (hQ : ∀ c tmps a w, Q (.panic c) { a with tmps := tmps } w → Q (.panic c) a w) :
    ∀ (is Fd : List Nat) (done : Array Bool) (a : Act), HeadOk3 md l.toArray Fd 0 done →
      (∀ (done : Array Bool) (a : Act), HeadOk3 md l.toArray (is.reverse ++ Fd) 0 done → lex3 md l.toArray n T H done = true → R a → wpAny P md l.toArray Q G done a w) →
      pre3 md l.toArray n H T is done = true → wpQuiet P l.toArray (fun _ => True) R (pick3 l is) a → wpAny P md l.toArray Q (is.length + G) done a w := by
  intro is
  induction is with
  | nil =>
    intro Fd done a ok hR hB hq
    simp only [List.length_nil, Nat.zero_add]
    exact hR done a (by simpa using ok) hB hq
  | cons k is ih =>
    intro Fd done a ok hR hB hq
    simp only [pre3, Bool.and_eq_true, decide_eq_true_eq] at hB
    obtain ⟨⟨⟨⟨hmv, hks⟩, hr⟩, hf⟩, hB'⟩ := hB
    obtain ⟨o, h0⟩ : ∃ o, l[k]? = some o := ⟨_, List.getElem?_eq_getElem (by simpa using hks)⟩
    have h0' : l.toArray[k]? = some o := by simpa using h0
    rw [pick3_cons h0] at hq
    have hr' : k ∈ Region.ready md l.toArray done := by simpa using hr
    have hq' : qOp P l.toArray (fun _ => True) k (wpQuiet P l.toArray (fun _ => True) R (pick3 l is)) a := by unfold qOp; simp only [h0']; exact hq
    obtain ⟨v, hy, hK⟩ := yieldsIn_of_qOp h0' hq'
    rw [show (k :: is).length + G = (is.length + G) + 1 by simp; omega]
    have ok' : HeadOk3 md l.toArray (k :: Fd) 0 (done.setIfInBounds k true) := by
      obtain ⟨_, oi, hoi, hall⟩ := mem_ready.1 hr'
      refine ⟨by simp [ok.size], fun j oj hj hl e he hb => ?_, fun t ht ht' hF => ?_, fun i hi => ?_⟩
      · by_cases hij : k = j
        · subst hij
          have : oj = oi := Option.some.inj (hj.symm.trans hoi)
          subst this
          exact getD_set_true (hall e he hb)
        · rw [getD_set_ne false hij] at hl
          exact getD_set_true (ok.closed j oj hj hl e he hb)
      · rw [getD_set_ne true (fun e => hF (by simp [e]))]
        exact ok.tail t ht ht' (fun h => hF (by simp [h]))
      · by_cases hik : i = k
        · subst hik
          have : i < done.size := by rw [ok.size]; exact hks
          simp [this]
        · exact getD_set_true (ok.pre i (by simpa [hik] using hi))
    exact wpAny_take h0' hsel hf hr (fun c a' w' h' => hQ c (a'.put o.dst v).tmps a' w' (by rw [put_tmps]; exact h')) (yields_of_pure h0' hmv hy)
      (ih (k :: Fd) _ _ ok' (fun done a h => hR done a (by simpa using h)) hB' hK)

/-- THE REGION: F is taken first, then H (its operations stay in the class), then T. n: the first of T. -/
theorem wp_float_tail {id : Nat} {Q : Exit → Act → World → Prop} {a : Act} {w : World} {l : List Oper} (C : World → Prop) (hC : C (w.drewN 1)) (F H T : List Nat) (n : Nat) (hm : P.follows .mixedOrders = true) (hB : tail3 .any l.toArray F H T n = true)
    (hQ : ∀ c tmps a w, Q (.panic c) { a with tmps := tmps } w → Q (.panic c) a w)
    (h : Nonempty (Cls C) → wpQuiet P l.toArray (fun _ => True) (fun a0 => wpQuiet P l.toArray (fun w' => ∃ x : Cls C, w' = x.w) (fun a' => ∀ w', (∃ x : Cls C, w' = x.w) → wpList P l.toArray Q (pick3 l T) a' w') (pick3 l H) a0) (pick3 l F) a) :
    (Code.region id l.toArray true).wp P Q a w := by
  have h := h ⟨⟨_, hC⟩⟩
  simp only [tail3, Bool.and_eq_true, decide_eq_true_eq] at hB
  obtain ⟨⟨⟨⟨hsel, hlen⟩, hs⟩, hc⟩, hpre⟩ := hB
  have inv0 : HeadOk3 .any l.toArray [] 0 (Array.replicate l.toArray.size false) :=
    ⟨by simp, fun j oj _ hl => by rw [getD_replicate_false] at hl; exact absurd hl (by decide), fun t _ ht _ => getD_in (by simpa using ht) (getD_replicate_false _ _), fun i hi => by cases hi⟩
  refine wp_region_any hm ?_
  have K := pre_any3 (P := P) (md := .any) (Q := Q) (H := H) (T := T) (n := n) (G := H.length + T.length) (w := { w with drawn := w.drawn + 1 }) hsel hQ F [] _ a inv0 (fun done a' ok hB' hq => ?_) hpre h
  · rw [hlen] at K
    exact K
  · have ok' : HeadOk3 .any l.toArray F n done := ⟨ok.size, ok.closed, fun t _ ht hF => ok.tail t (Nat.zero_le _) ht (by simpa using hF), fun i hi => ok.pre i (by simpa using hi)⟩
    have HH := HeadAny.lex3 (P := P) (md := .any) (C := fun w' => ∃ x : Cls C, w' = x.w) hsel hs hc H done a' ok' hB' hq
    exact HeadAny.any (Q := Q) (g := T.length) (fun done a' w' hw' hL => wpAny_of_seq3 (md := .any) (Q := Q) hsel hQ T done a' w' hL.2.1 (hL.2.2 w' hw')) H.length done a' _ ⟨⟨_, hC⟩, rfl⟩ HH
end
end Go.Proofs.Yteljkdihlklliaa
/- A region that draws its order: what only reads, and what gives its value in each world of a class, is taken first, wherever it stands; then a tail in one forced order, all of it but the last one within the class: one walk serves every order.
   Conditions: the Bool over the region holds; the class holds behind each operation of the tail but the last. -/
namespace Go.Proofs.Yteljkdihlklliaa
open Go

section
variable {P : Program} {ops : Array Oper} {md : Region.Mode} {S : World → Prop} {Q : Exit → Act → World → Prop}

/-- the operation is of a kind that gives a value and leaves the world alone, if it is quiet -/
def valB (ops : Array Oper) (k : Nat) : Bool := match ops[k]? with
  | some o => match o.op with
    | .load _ _ => true | .build _ _ => true | .field _ _ _ => true | .binOp _ _ _ _ _ => true | .unOp _ _ _ => true | .convert _ _ _ => true | .pick _ _ _ => true | .slice _ _ _ _ _ => true | .makeFunc _ _ _ => true | .index _ _ _ => true
    | .call c => match c.callee with | .builtin .len => true | _ => false
    | _ => pureB ops k
  | none => false
theorem valB_value {k : Nat} {o : Oper} {a : Act} (hk : ops[k]? = some o) (hm : valB ops k = true) : ValueOnly (execOp a.eval o) := by
  unfold valB at hm
  rw [hk] at hm
  dsimp only at hm
  split at hm
  · rename_i hx; unfold execOp; rw [hx]; exact ValueOnly.bind fun _ => ValueOnly.pure _
  · rename_i hx; unfold execOp; rw [hx]; exact ValueOnly.bind fun _ => ValueOnly.pure _
  · rename_i hx; unfold execOp; rw [hx]; exact ValueOnly.bind fun _ => ValueOnly.pure _
  · rename_i hx; unfold execOp; rw [hx]; exact ValueOnly.bind fun _ => ValueOnly.pure _
  · rename_i hx; unfold execOp; rw [hx]; exact ValueOnly.bind fun _ => ValueOnly.pure _
  · rename_i hx; unfold execOp; rw [hx]; exact ValueOnly.bind fun _ => ValueOnly.pure _
  · rename_i hx; unfold execOp; rw [hx]; exact ValueOnly.bind fun _ => ValueOnly.pure _
  · rename_i hx; unfold execOp; rw [hx]; exact ValueOnly.bind fun _ => ValueOnly.pure _
  · rename_i hx; unfold execOp; rw [hx]; exact ValueOnly.bind fun _ => ValueOnly.pure _
  · rename_i hx; unfold execOp; rw [hx]; exact ValueOnly.bind fun _ => ValueOnly.pure _
  · rename_i c hx
    split at hm
    · rename_i hc
      unfold execOp
      rw [hx]
      dsimp only
      unfold resolve
      rw [hc]
      intro P w n w' h
      simp only [Sem.run_bind, Sem.run_pure, Result.andThen_ok, invoke] at h
      exact (show ValueOnly (builtin .len _ _ _ _) from ValueOnly.bind fun _ => ValueOnly.pure _) P w n w' h
    · cases hm
  · exact pureB_value hk hm
theorem yieldsIf_of_val {k : Nat} {o : Oper} {v : Value} {a : Act} (hk : ops[k]? = some o) (hm : valB ops k = true) (h : YieldsIn P ops S o v a) : YieldsIf P ops S o v a := by
  rcases h with ⟨hw, h⟩ | ⟨hw, h⟩
  · refine .inl ⟨hw, fun w hS => ?_⟩
    have h1 := h w hS
    have hv := valB_value (a := a) hk hm
    unfold Oper.quietAt at h1
    cases hr : (execOp a.eval o).run P w with
    | ok n w' =>
      obtain ⟨u, rfl⟩ := hv P w n w' hr
      rw [hr] at h1
      obtain ⟨h2, h3⟩ := h1
      rw [h2, h3]
    | halt e w' => rw [hr] at h1; exact h1.elim
  · exact .inr ⟨hw, h⟩

/-- what is still to come comes in whatever order; behind each but the last one the class holds -/
def wpAnyD (P : Program) (md : Region.Mode) (ops : Array Oper) (Q : Exit → Act → World → Prop) (S : World → Prop) : Nat → Array Bool → Act → World → Prop
  | 0, done, a, w => Region.ready md ops done = [] ∧ Q .normal a w
  | fuel + 1, done, a, w =>
    (Region.ready md ops done = [] → Q .normal a w) ∧
    ∀ i ∈ Region.ready md ops done, wpOp P ops Q i (fun a' w' => ((∀ t, (done.setIfInBounds i true).getD t true = true) ∨ S w') ∧ wpAnyD P md ops Q S fuel (done.setIfInBounds i true) a' w') a w
theorem wpAny_of_D : ∀ (fuel : Nat) (done : Array Bool) (a : Act) (w : World), wpAnyD P md ops Q S fuel done a w → wpAny P md ops Q fuel done a w
  | 0, _, _, _, h => h
  | fuel + 1, _, _, _, h => ⟨h.1, fun i hi => wpOp_mono (fun a' w' h' => wpAny_of_D fuel _ a' w' h'.2) (h.2 i hi)⟩

/-- the marks agree with what waits for what -/
structure Marks4 (md : Region.Mode) (ops : Array Oper) (done : Array Bool) : Prop where
  size : done.size = ops.size
  closed : ∀ j oj, ops[j]? = some oj → done.getD j false = true → ∀ e ∈ oj.after, Region.binds md e = true → done.getD e.on false = true
theorem Marks4.set {i : Nat} {done : Array Bool} (h : Marks4 md ops done) (hi : i ∈ Region.ready md ops done) : Marks4 md ops (done.setIfInBounds i true) := by
  obtain ⟨_, oi, hoi, hall⟩ := mem_ready.1 hi
  refine ⟨by simp [h.size], fun j oj hj hl e he hb => ?_⟩
  by_cases hij : i = j
  · subst hij
    have : oj = oi := Option.some.inj (hj.symm.trans hoi)
    subst this
    exact getD_set_true (hall e he hb)
  · rw [getD_set_ne false hij] at hl
    exact getD_set_true (h.closed j oj hj hl e he hb)
/-- somebody waits for it -/
def awaited (md : Region.Mode) (ops : Array Oper) (i : Nat) : Bool := (List.range ops.size).any fun j => Region.waitsFor md ops j i

/-- if two may come now, and somebody waits for the first, they are not the last two -/
theorem not_last {i j : Nat} {done : Array Bool} (h : Marks4 md ops done) (ha : awaited md ops i = true) (hi : i ∈ Region.ready md ops done) (hj : j ∈ Region.ready md ops done) (hne : j ≠ i) :
    ¬ ∀ t, ((done.setIfInBounds i true).setIfInBounds j true).getD t true = true := by
  intro hall
  obtain ⟨k, hk, hw⟩ := List.any_eq_true.1 ha
  obtain ⟨ok, hok, e, he, hb, hon⟩ := Region.waitsFor_spec hw
  have hiu := (mem_ready.1 hi).1
  have hks : k < done.size := by rw [h.size]; exact List.mem_range.1 hk
  have hku : done.getD k true = false := by
    cases hd : done.getD k false with
    | true =>
      have := h.closed k ok hok hd e he hb
      rw [hon, getD_both hiu] at this
      cases this
    | false => exact getD_in hks hd
  have hki : k ≠ i := fun e' => by
    subst e'
    obtain ⟨_, oi, hoi, hal⟩ := mem_ready.1 hi
    rw [hok] at hoi
    have := hal e (by rw [← Option.some.inj hoi]; exact he) hb
    rw [hon, getD_both hiu] at this
    cases this
  have hkj : k ≠ j := fun e' => by
    subst e'
    obtain ⟨_, oj, hoj, hal⟩ := mem_ready.1 hj
    rw [hok] at hoj
    have := hal e (by rw [← Option.some.inj hoj]; exact he) hb
    rw [hon, getD_both hiu] at this
    cases this
  have h1 := hall k
  rw [getD_set_ne true (Ne.symm hkj), getD_set_ne true (Ne.symm hki), hku] at h1
  cases h1

theorem wpAnyD_first {i : Nat} {oi : Oper} {v : Value} (hi : ops[i]? = some oi) (hsel : ∀ (j : Nat) (o : Oper) cs b, ops[j]? = some o → o.op ≠ .select cs b) (haw : awaited md ops i = true)
    (hQ : ∀ c a w, Q (.panic c) (a.put oi.dst v) w → Q (.panic c) a w) :
    ∀ (fuel : Nat) (done : Array Bool) (a : Act) (w : World), Marks4 md ops done →
      (∀ j oj, ops[j]? = some oj → j ≠ i → done.getD j true = false → (∀ e ∈ oj.after, Region.binds md e = true → e.on ≠ i) → oi.apart ops oj = true) →
      i ∈ Region.ready md ops done → YieldsIf P ops S oi v a → S w →
      wpAnyD P md ops Q S fuel (done.setIfInBounds i true) (a.put oi.dst v) w → wpAnyD P md ops Q S (fuel + 1) done a w := by
  intro fuel
  induction fuel with
  | zero =>
    intro done a w _ _ hr hy hS H
    refine ⟨fun h => (by rw [h] at hr; cases hr), fun j hj => ?_⟩
    by_cases hji : j = i
    · subst hji; exact hy.wpOp hi hS ⟨.inr hS, H⟩
    · have := ready_mono hj hji
      rw [H.1] at this
      cases this
  | succ fuel ih =>
    intro done a w hM hfree hr hy hS H
    refine ⟨fun h => (by rw [h] at hr; cases hr), fun j hj => ?_⟩
    by_cases hji : j = i
    · subst hji; exact hy.wpOp hi hS ⟨.inr hS, H⟩
    · have h1 := H.2 j (ready_mono hj hji)
      obtain ⟨hjun, oj, hoj, hall⟩ := mem_ready.1 hj
      have hnot : ∀ e ∈ oj.after, Region.binds md e = true → e.on ≠ i := fun e he hb heq => by
        have h1 := hall e he hb
        rw [heq, getD_both (mem_ready.1 hr).1] at h1
        cases h1
      have h2 := wpOp_putIf hoj (hfree j oj hoj hji hjun hnot) (fun cs b => hsel i oi cs b hi) (fun cs b => hsel j oj cs b hoj) hQ hy h1
      have hfree' : ∀ k ok, ops[k]? = some ok → k ≠ i → (done.setIfInBounds j true).getD k true = false →
          (∀ e ∈ ok.after, Region.binds md e = true → e.on ≠ i) → oi.apart ops ok = true := fun k ok hk hki hun hno => by
        refine hfree k ok hk hki ?_ hno
        by_cases hjk : j = k
        · subst hjk; exact hjun
        · rw [getD_set_ne true hjk] at hun; exact hun
      refine wpOp_mono (fun a' w' h3 => ?_) h2
      have hS' : S w' := h3.2.1.resolve_left (not_last hM haw hr hj hji)
      refine ⟨.inr hS', ih (done.setIfInBounds j true) a' w' (hM.set hj) hfree' (ready_mono hr (Ne.symm hji)) h3.1 hS' ?_⟩
      rw [Array.setIfInBounds_comm _ _ hji]
      exact h3.2.2

/-- the tail, its last operation but within the class -/
def wpHeld (P : Program) (ops : Array Oper) (Q : Exit → Act → World → Prop) (S : World → Prop) : List Oper → Act → World → Prop
  | [], a, w => Q .normal a w
  | o :: rest, a, w =>
    if Region.wanted o (yielded ops a.tmps) then o.wp P a w (fun a' w' => (rest = [] ∨ S w') ∧ wpHeld P ops Q S rest a' w') Q ∨ (o.asks P a w ∧ LetsOut Q) else (rest = [] ∨ S w) ∧ wpHeld P ops Q S rest (a.put o.dst undef) w
theorem wpHeld_step {a : Act} {w : World} {o : Oper} {rest : List Oper} (hg : o.guard = none)
    (h : ∀ K : Act → World → Prop, RowKit.Hid (∀ a w, (rest = [] ∨ S w) → wpHeld P ops Q S rest a w → K a w) → Oper.wp P o a w K Q) : wpHeld P ops Q S (o :: rest) a w := by
  unfold wpHeld
  rw [if_pos (by simp [Region.wanted, hg])]
  exact .inl (h _ (Lib.hid (fun a w h1 h2 => ⟨h1, h2⟩)))
theorem wpHeld_last {a : Act} {w : World} {o : Oper} (h : wpList P ops Q [o] a w) : wpHeld P ops Q S [o] a w := by
  unfold wpHeld
  unfold wpList at h
  split
  · rename_i hw
    rw [if_pos hw] at h
    exact h.imp (Oper.wp_mono (fun a w h => ⟨.inl rfl, h⟩)) id
  · rename_i hw
    rw [if_neg hw] at h
    exact ⟨.inl rfl, h⟩

/-- at each point of the tail one operation may come -/
def seq4 (md : Region.Mode) (ops : Array Oper) : List Nat → Array Bool → Bool
  | [], done => (Region.ready md ops done).isEmpty && (List.range ops.size).all (fun t => done.getD t true)
  | k :: is, done => decide (k < ops.size) && decide (Region.ready md ops done = [k]) && seq4 md ops is (done.setIfInBounds k true)
theorem wpAnyD_of_seq4 {l : List Oper} : ∀ (is : List Nat) (done : Array Bool) (a : Act) (w : World), done.size = l.toArray.size → seq4 md l.toArray is done = true → wpHeld P l.toArray Q S (pick3 l is) a w → wpAnyD P md l.toArray Q S is.length done a w := by
  intro is
  induction is with
  | nil =>
    intro done a w _ hB h
    simp only [seq4, Bool.and_eq_true] at hB
    exact ⟨by simpa using hB.1, h⟩
  | cons k is ih =>
    intro done a w hsz hB h
    simp only [seq4, Bool.and_eq_true, decide_eq_true_eq] at hB
    obtain ⟨⟨hk, hr⟩, hB2⟩ := hB
    obtain ⟨o, h0⟩ : ∃ o, l[k]? = some o := ⟨_, List.getElem?_eq_getElem (by simpa using hk)⟩
    rw [pick3_cons h0] at h
    have h0' : l.toArray[k]? = some o := by simpa using h0
    refine ⟨fun h1 => by rw [hr] at h1; exact absurd h1 (List.cons_ne_nil _ _), fun i hi => ?_⟩
    rw [hr] at hi
    obtain rfl : i = k := by simpa using hi
    have hfin : is = [] → ∀ t, (done.setIfInBounds i true).getD t true = true := fun e t => by
      subst e
      simp only [seq4, Bool.and_eq_true] at hB2
      by_cases ht : t < l.toArray.size
      · exact List.all_eq_true.1 hB2.2 t (List.mem_range.2 ht)
      · have : ¬ t < (done.setIfInBounds i true).size := by rw [Array.size_setIfInBounds, hsz]; exact ht
        simp only [Array.getD_eq_getD_getElem?, Array.getElem?_eq_none (Nat.le_of_not_lt this)]
        rfl
    have hnil : ∀ is : List Nat, pick3 l is = [] → seq4 md l.toArray is (done.setIfInBounds i true) = true → is = [] := fun is hp hs => by
      cases is with
      | nil => rfl
      | cons k' is' =>
        simp only [seq4, Bool.and_eq_true, decide_eq_true_eq] at hs
        obtain ⟨o', ho'⟩ : ∃ o, l[k']? = some o := ⟨_, List.getElem?_eq_getElem (by simpa using hs.1.1)⟩
        rw [pick3_cons ho'] at hp
        cases hp
    have hK : ∀ a' w', ((pick3 l is = [] ∨ S w') ∧ wpHeld P l.toArray Q S (pick3 l is) a' w') → ((∀ t, (done.setIfInBounds i true).getD t true = true) ∨ S w') ∧ wpAnyD P md l.toArray Q S is.length (done.setIfInBounds i true) a' w' := fun a' w' h' =>
      ⟨h'.1.imp (fun e => hfin (hnil is e hB2)) id, ih _ a' w' (by rw [Array.size_setIfInBounds]; exact hsz) hB2 h'.2⟩
    unfold wpOp
    simp only [h0']
    unfold wpHeld at h
    split
    · rename_i hw
      rw [if_pos hw] at h
      exact h.imp (Oper.wp_mono hK) id
    · rename_i hw
      rw [if_neg hw] at h
      exact hK _ _ h

/-- those taken first, then the check of the tail -/
def pre4 (md : Region.Mode) (ops : Array Oper) (T : List Nat) : List Nat → Array Bool → Bool
  | [], done => seq4 md ops T done
  | k :: is, done => valB ops k && decide (k < ops.size) && awaited md ops k && (Region.ready md ops done).contains k && Region.free md ops done k && pre4 md ops T is (done.setIfInBounds k true)
def tail4 (md : Region.Mode) (ops : Array Oper) (F T : List Nat) : Bool :=
  Region.noSelect ops && decide (F.length + T.length = ops.size) && pre4 md ops T F (Array.replicate ops.size false)
theorem pre_anyD {l : List Oper} {T : List Nat} {w : World} (hsel : Region.noSelect l.toArray = true) (hQ : ∀ c tmps a w, Q (.panic c) { a with tmps := tmps } w → Q (.panic c) a w) (hS : S w) :
    ∀ (is : List Nat) (done : Array Bool) (a : Act), Marks4 md l.toArray done →
      pre4 md l.toArray T is done = true → wpQuiet P l.toArray S (fun a' => wpHeld P l.toArray Q S (pick3 l T) a' w) (pick3 l is) a → wpAnyD P md l.toArray Q S (is.length + T.length) done a w := by
  intro is
  induction is with
  | nil =>
    intro done a hM hB hq
    rw [List.length_nil, Nat.zero_add]
    exact wpAnyD_of_seq4 T done a w hM.size hB hq
  | cons k is ih =>
    intro done a hM hB hq
    simp only [pre4, Bool.and_eq_true, decide_eq_true_eq] at hB
    obtain ⟨⟨⟨⟨⟨hmv, hks⟩, haw⟩, hr⟩, hf⟩, hB'⟩ := hB
    obtain ⟨o, h0⟩ : ∃ o, l[k]? = some o := ⟨_, List.getElem?_eq_getElem (by simpa using hks)⟩
    have h0' : l.toArray[k]? = some o := by simpa using h0
    rw [pick3_cons h0] at hq
    have hr' : k ∈ Region.ready md l.toArray done := by simpa using hr
    have hq' : qOp P l.toArray S k (wpQuiet P l.toArray S (fun a' => wpHeld P l.toArray Q S (pick3 l T) a' w) (pick3 l is)) a := by unfold qOp; simp only [h0']; exact hq
    obtain ⟨v, hy, hK⟩ := yieldsIn_of_qOp h0' hq'
    rw [show (k :: is).length + T.length = (is.length + T.length) + 1 by simp; omega]
    exact wpAnyD_first h0' (Region.noSelect_spec hsel) haw (fun c a' w' h' => hQ c (a'.put o.dst v).tmps a' w' (by rw [put_tmps]; exact h')) (is.length + T.length) done a w hM (Region.free_spec h0' hf) hr' (yieldsIf_of_val h0' hmv hy) hS
      (ih _ _ (hM.set hr') hB' hK)

/-- THE REGION: F is taken first, then T; the class holds behind each of T but the last. -/
theorem wp_held_tail {id : Nat} {a : Act} {w : World} {l : List Oper} (C : World → Prop) (hC : C (w.drewN 1)) (F T : List Nat) (hm : P.follows .mixedOrders = true) (hB : tail4 .any l.toArray F T = true)
    (hQ : ∀ c tmps a w, Q (.panic c) { a with tmps := tmps } w → Q (.panic c) a w)
    (h : Nonempty (Cls C) → wpQuiet P l.toArray (fun w' => ∃ x : Cls C, w' = x.w) (fun a' => wpHeld P l.toArray Q (fun w' => ∃ x : Cls C, w' = x.w) (pick3 l T) a' (w.drewN 1)) (pick3 l F) a) :
    (Code.region id l.toArray true).wp P Q a w := by
  have h := h ⟨⟨_, hC⟩⟩
  simp only [tail4, Bool.and_eq_true, decide_eq_true_eq] at hB
  obtain ⟨⟨hsel, hlen⟩, hpre⟩ := hB
  have inv0 : Marks4 .any l.toArray (Array.replicate l.toArray.size false) :=
    ⟨by simp, fun j oj _ hl => by rw [getD_replicate_false] at hl; exact absurd hl (by decide)⟩
  have K := pre_anyD (P := P) (md := .any) (Q := Q) (T := T) (w := { w with drawn := w.drawn + 1 }) (S := fun w' => ∃ x : Cls C, w' = x.w) hsel hQ ⟨⟨_, hC⟩, rfl⟩ F _ a inv0 hpre h
  rw [hlen] at K
  exact wp_region_any hm (wpAny_of_D _ _ _ _ K)
end
end Go.Proofs.Yteljkdihlklliaa
