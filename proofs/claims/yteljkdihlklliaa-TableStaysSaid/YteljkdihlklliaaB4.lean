/- Parts of the proof, one behind the other: TStays, Open, Open2. No condition of their own. -/
import Derived.Test.YteljkdihlklliaaB3
import Derived.Test.YteljkdihlklliaaB1
import Derived.Deep.Slices
import Derived.Deep.Fields
import Derived.ChangeSame
import Derived.ProofKit
import Derived.OpenShut
/- TableStays: the walk. Conditions: slices that came in; numbers of their types. (Written by wip/gen/tablestays.py.) -/
namespace Go.Proofs.Yteljkdihlklliaa
open Go Go.RowKit Go.Maps
set_option maxHeartbeats 400000
/-- two slices of the call's own in two blocks -/
def Dis (a b : Value) : Prop := ∀ s, a.ownBlock = some s → b.ownBlock ≠ some s
theorem Dis.symm {a b : Value} (h : Dis a b) : Dis b a := fun s h1 h2 => h s h2 h1
theorem Dis.left {a a' b : Value} {K : Nat} (h : Dis a b) (hat : a'.ownBlock = a.ownBlock ∨ a'.ownBlock = some K) (hb : ∀ s, b.ownBlock = some s → s < K) : Dis a' b := fun s h1 h2 => by
  rcases hat with e | e
  · exact h s (e ▸ h1) h2
  · rw [e] at h1
    have := hb s h2
    have h3 := Option.some.inj h1
    omega
theorem Dis.kept {w w' : World} {N n size : Nat} {e : TypeId} {a b : Value} {xs : List Value} (h : Dis a b) (ho : w.ownsRow N e size b n xs) (hg : w.grownBy w' a.ownBlock) : w'.ownsRow N e size b n xs := by
  refine ho.kept hg ?_
  cases hb : b.ownBlock with
  | none => exact .inl rfl
  | some s => exact .inr (fun e => h s e.symm hb)
theorem Uniq.rev {α β : Type} {f : α → β} {l : List α} (h : Uniq f l) : Uniq f l.reverse := by
  unfold Uniq
  rw [List.map_reverse]
  exact (List.reverse_perm _).nodup_iff.2 h
theorem MayR.rev {rs : List Rt} (h : MayR rs) : MayR rs.reverse := ⟨fun r hr => h.low r (by simpa using hr), h.one.rev, h.lay.rev⟩
theorem MayD.rev {ds : List Dn} (h : MayD ds) : MayD ds.reverse := ⟨fun r hr => h.high r (by simpa using hr), h.one.rev, h.ref.rev, h.who.rev⟩
theorem may_rev {rs : List Rt} {ds : List Dn} (h : MayR rs.reverse ∧ MayD ds.reverse) : MayR rs ∧ MayD ds := by
  have h1 := h.1.rev
  have h2 := h.2.rev
  rw [List.reverse_reverse] at h1 h2
  exact ⟨h1, h2⟩
theorem route_of {rs : List Rt} (h : MayR rs) {r : Rt} (hr : r ∈ rs) : routeM rs r.ssrc = some r := find_one hr (by simp) (fun b hb hp => h.one.mem hb hr (by simpa using hp))
theorem own_of {ds : List Dn} (h : MayD ds) {d : Dn} (hd : d ∈ ds) : ownM ds d.ssrc = some d := find_one hd (by simp) (fun b hb hp => h.one.mem hb hd (by simpa using hp))
theorem downs_rev {t : Int} {ds : List Dn} (h : MayD ds) : downsM t ds.reverse = downsM t ds :=
  upW_eq (upW_downsM h.rev.who) (upW_downsM h.who) (fun x => by rw [mem_downsM, mem_downsM]; simp)
theorem take_snoc {α : Type} {l : List α} {i : Nat} {x : α} (h : l[i]? = some x) : l.take (i + 1) = l.take i ++ [x] := by rw [List.take_add_one, h]; rfl
theorem rev_at {α : Type} {l : List α} {i n : Nat} {x : α} (hn : n = l.length) (hi : i < n) (h : l[n - 1 - i]? = some x) : l.reverse[i]? = some x := by
  rw [List.getElem?_reverse (by omega), ← hn]
  exact h
theorem own_one {w : World} {N n : Nat} {e : TypeId} {v : Value} {l : List Rt} {r : Rt} (h : w.ownsRow N e 5 v (n + 1) (l.flatMap encRt ++ encRt r)) : w.ownsRow N e 5 v (n + 1) ((l ++ [r]).flatMap encRt) := by
  rw [List.flatMap_append]
  simpa using h
theorem own_oneD {w : World} {N n : Nat} {e : TypeId} {v : Value} {l : List Dn} {r : Dn} (h : w.ownsRow N e 10 v (n + 1) (l.flatMap encDn ++ encDn r)) : w.ownsRow N e 10 v (n + 1) ((l ++ [r]).flatMap encDn) := by
  rw [List.flatMap_append]
  simpa using h
theorem own_at {w : World} {N n size c : Nat} {e : TypeId} {A : Option Addr} {xs : List Value} (h : w.ownsRow N e size (.slice A n c) n xs) (hn : 0 < n) : ∃ g, A = some ⟨g, 0, none⟩ ∧ N ≤ g ∧ g < w.heap.size := by
  rcases h.2 with ⟨hv, rfl⟩ | ⟨g, cap, cur, hv, hg, hh, h1, h2, h3, h4⟩
  · exact absurd hn (Nat.lt_irrefl 0)
  · injection hv with e1 _ _
    exact ⟨g, e1, hg, (Array.getElem?_eq_some_iff.1 hh).1⟩
/-- one cell of a row of structs: what it holds, that it may be written, and what the row is then -/
theorem row_put {α : Type} {f : α → List Value} {size : Nat} (hf : ∀ z, (f z).length = size) {w : World} {N n g c i : Nat} {e : TypeId} {l : List α} {x : α} (h : w.ownsRow N e size (.slice (some ⟨g, 0, none⟩) n c) n (l.flatMap f)) (hx : l[i]? = some x) (j : Nat) (u : Value) (hj : j < size) (hu : (f x)[j]? = some u) (v : Value) (x' : α) (hv : f x' = (f x).set j v) :
    w.cell? ⟨g, i * size + j, none⟩ = some u ∧ w.frozen? ⟨g, i * size + j, none⟩ = false ∧ (w.setCell ⟨g, i * size + j, none⟩ v).ownsRow N e size (.slice (some ⟨g, 0, none⟩) n c) n ((l.set i x').flatMap f) := by
  have hcell := fun (k : Nat) (u : Value) (hu : (l.flatMap f)[k]? = some u) => (by
    have := h.cells (g := g) rfl k u hu
    by_cases hk : k = 0
    · subst hk; exact this
    · simpa [Addr.add, hk] using this : w.cell? ⟨g, k, none⟩ = some u)
  refine ⟨hcell _ _ ((flat_get hf l i j x hx hj).trans hu), ?_, ?_⟩
  · have := h.frozenAt (i * size + j)
    simpa [Addr.add] using this
  · have := (h.stored (i * size + j) v).1
    rw [flat_set hf l i j x x' v hx hj hv] at this
    exact this
theorem IsTb.above {w w' : World} {N : Nat} {v : Value} {ep : Int} {rs : List Rt} {ds : List Dn} {S : List Nat} (h : IsTb w N v ep rs ds) (u : Upd S w w') (hS : ∀ s, s ∈ S → s < N) : IsTb w' N v ep rs ds := by
  rcases h with h | ⟨T, mr, md, hv, h, h1, h2⟩
  · exact .inl h
  · refine .inr ⟨T, mr, md, hv, h.below u (fun s hs => ?_), h1, h2⟩
    have := hS s hs
    have := h.base
    omega
set_option maxRecDepth 100000 in
set_option maxHeartbeats 8000000 in
theorem stays_any (A B : Option Addr) (ca cb : Nat) (rs : List Rt) (ds : List Dn) (w : World) (hA : CellsIn w 0 w.heap.size 5 A rs.length (rs.flatMap encRt)) (hB : CellsIn w 0 w.heap.size 10 B ds.length (ds.flatMap encDn))
    (hr : ∀ r, r ∈ rs → r.Ok) (hd : ∀ d, d ∈ ds → d.Ok) :
    Calls Try.prog 4 #[.slice A rs.length ca, .slice B ds.length cb] w fun e w' => e = .returned (.bool true) ∧ Below w.heap.size w w' := by
  obtain ⟨j0, hj0, hy0, hy1, hy2⟩ := info_parts infoRt
  obtain ⟨k0, hk0, hx0, hx1, hx2⟩ := info_parts infoDn
  have HA := Lib.hid hA
  have HB := Lib.hid hB
  have HR := Lib.hid hr
  have HD := Lib.hid hd
  have HAW := Lib.hid (awake_any w)
  clear hA hB hr hd
  obtain ⟨n, hn⟩ : ∃ n, n = rs.length := ⟨_, rfl⟩
  obtain ⟨m, hm⟩ : ∃ m, m = ds.length := ⟨_, rfl⟩
  rw [← hn, ← hm]
  have HN := Lib.hid hn
  have HM := Lib.hid hm
  clear hn hm
  go_enter Try.func4, Try.ntmps4
  go_wp2_with fail
  refine HAW.out.mono ?_
  rintro _ w1 ⟨rfl, hu1⟩
  have HU1 := Lib.hid hu1
  clear hu1 HAW
  by_cases g1 : (60 : Int) < (n : Int)
  · go_wp2
    exact bodyPost_res (v := .bool true) (by simp [results, Try.results4, go_sem]) rfl ⟨rfl, HU1.out.below (Nat.le_refl _) (by simp)⟩
  by_cases g2 : (60 : Int) < (m : Int)
  · go_wp2
    exact bodyPost_res (v := .bool true) (by simp [results, Try.results4, go_sem]) rfl ⟨rfl, HU1.out.below (Nat.le_refl _) (by simp)⟩
  have hn60 : n ≤ 60 := by omega
  have hm60 : m ≤ 60 := by omega
  go_wp2
  go_loopg [6, 7, 10] n (fun gk xa xb xi wr => ∃ i : Nat, i ≤ n ∧ n ≤ i + gk ∧ xi = .int .i64 i ∧ wr.ownsRow w.heap.size 37 5 xa i ((rs.take i).flatMap encRt) ∧ wr.ownsRow w.heap.size 37 5 xb i ((rs.reverse.take i).flatMap encRt) ∧ Dis xa xb ∧ Upd [] w wr)
  case atStart => exact ⟨0, Nat.zero_le _, by omega, rfl, World.ownsRow_nil _ _ _ _, World.ownsRow_nil _ _ _ _, (fun s h => by cases h), HU1.out⟩
  case round =>
    obtain ⟨i, hi, hgi, rfl, hoa, hob, hdis, hu⟩ := hrel
    obtain ⟨Aa, xa, hve, -⟩ := own_form hoa
    subst hve
    obtain ⟨Ab, xb, hve, -⟩ := own_form hob
    subst hve
    clear HU1
    by_cases hlt : i < n
    · obtain ⟨r, hri⟩ : ∃ r, rs[i]? = some r := ⟨_, List.getElem?_eq_getElem (by rw [← HN.out]; exact hlt)⟩
      obtain ⟨j, hj⟩ : ∃ j, j = n - 1 - i := ⟨_, rfl⟩
      obtain ⟨q, hqi⟩ : ∃ q, rs[j]? = some q := ⟨_, List.getElem?_eq_getElem (by rw [← HN.out]; omega)⟩
      obtain ⟨b, off, hAe, -, hb2, hcc⟩ := HA.out.2 (by rw [← HN.out]; omega)
      subst hAe
      have HBB := Lib.hid hb2
      have HCC := Lib.hid hcc
      have HT1 := Lib.hid (take_snoc hri)
      have HT2 := Lib.hid (take_snoc (rev_at HN.out hlt (by rw [← hj]; exact hqi)))
      have HQI := Lib.hid hqi
      have c0 : wr.cell? ⟨b, off + (i * 5 + 0), none⟩ = some (.int .u32 r.ssrc) := (hu.cell (p := ⟨b, off + (i * 5 + 0), none⟩) HBB.out (by simp)).trans (HCC.out (i * 5 + 0) _ (flat_get encRt_len rs i 0 r hri (by omega)))
      have c1 : wr.cell? ⟨b, off + (i * 5 + 1), none⟩ = some (.int .i64 r.track) := (hu.cell (p := ⟨b, off + (i * 5 + 1), none⟩) HBB.out (by simp)).trans (HCC.out (i * 5 + 1) _ (flat_get encRt_len rs i 1 r hri (by omega)))
      have c2 : wr.cell? ⟨b, off + (i * 5 + 2), none⟩ = some (.int .i64 r.src) := (hu.cell (p := ⟨b, off + (i * 5 + 2), none⟩) HBB.out (by simp)).trans (HCC.out (i * 5 + 2) _ (flat_get encRt_len rs i 2 r hri (by omega)))
      have c3 : wr.cell? ⟨b, off + (i * 5 + 3), none⟩ = some (.int .i64 r.layer) := (hu.cell (p := ⟨b, off + (i * 5 + 3), none⟩) HBB.out (by simp)).trans (HCC.out (i * 5 + 3) _ (flat_get encRt_len rs i 3 r hri (by omega)))
      have c4 : wr.cell? ⟨b, off + (i * 5 + 4), none⟩ = some (.int .i64 r.shard) := (hu.cell (p := ⟨b, off + (i * 5 + 4), none⟩) HBB.out (by simp)).trans (HCC.out (i * 5 + 4) _ (flat_get encRt_len rs i 4 r hri (by omega)))
      simp only [← Nat.add_assoc, Nat.add_zero] at c0 c1 c2 c3 c4
      have hlti : (i : Int) < (n : Int) := by omega
      have hwi : IntKind.i64.wrap ((i : Int) + 1) = (i : Int) + 1 := IntWalk.i64_in _ (by omega)
      have hw1 : IntKind.i64.wrap ((n : Int) - 1) = (n : Int) - 1 := IntWalk.i64_in _ (by omega)
      have hw2 : IntKind.i64.wrap ((n : Int) - 1 - (i : Int)) = (j : Int) := by rw [IntWalk.i64_in _ (by omega)]; omega
      have hjl : (j : Int) < (n : Int) := by omega
      obtain ⟨la, hla⟩ : ∃ z, z = rs.take i := ⟨_, rfl⟩
      obtain ⟨lb, hlb⟩ : ∃ z, z = rs.reverse.take i := ⟨_, rfl⟩
      rw [← hla] at hoa HT1
      rw [← hlb] at hob HT2
      have HOA0 := Lib.hid hoa
      have HOB0 := Lib.hid hob
      have HDIS := Lib.hid hdis
      have HU := Lib.hid hu
      have HGI := Lib.hid hgi
      have HGR : Hid (w.heap.size ≤ wr.heap.size) := Lib.hid (hu.size)
      clear hoa hob hdis hu hgi hri hqi hb2 hcc hla hlb hj
      have HOA : Hid ((wr.alloc (.cells #[.int .u32 r.ssrc, .int .i64 r.track, .int .i64 r.src, .int .i64 r.layer, .int .i64 r.shard] 37)).ownsRow w.heap.size 37 5 (.slice Aa i xa) i (la.flatMap encRt)) := Lib.hid (HOA0.out.alloc _)
      have HU3 : Hid (Upd [] w (wr.alloc (.cells #[.int .u32 r.ssrc, .int .i64 r.track, .int .i64 r.src, .int .i64 r.layer, .int .i64 r.shard] 37))) := Lib.hid (HU.out.alloc _)
      have HNEW := Lib.hid (blk_srcT (Blk.new wr 37 #[.int .u32 r.ssrc, .int .i64 r.track, .int .i64 r.src, .int .i64 r.layer, .int .i64 r.shard]))
      have HONE : Hid (∀ u ∈ ([.int .u32 r.ssrc, .int .i64 r.track, .int .i64 r.src, .int .i64 r.layer, .int .i64 r.shard] : List Value), u.oneCell' = true) := Lib.hid (oneRt r)
      have HBS3 : Hid (w.heap.size ≤ (wr.alloc (.cells #[.int .u32 r.ssrc, .int .i64 r.track, .int .i64 r.src, .int .i64 r.layer, .int .i64 r.shard] 37)).heap.size) := Lib.hid (by have := HGR.out; simp; omega)
      go_wp2_with (at_builtin; refine wpList_append_own_at _ rfl (.tmp 48) (.tmp 53) 23 rfl w.heap.size 37 j0 _ 5 40 Try.underlying23 hj0 hy0 hy1 hy2 rfl (by decide) (.slice Aa i xa) i (la.flatMap encRt) rfl HOA.out ⟨wr.heap.size, 0, none⟩ 1 1 [.int .u32 r.ssrc, .int .i64 r.track, .int .i64 r.src, .int .i64 r.layer, .int .i64 r.shard] rfl rfl HNEW.out HONE.out (by unfold maxLen; omega) (by omega) HBS3.out ?_)
      intro v8 w8 hown8 hg8 _ hat8
      have HOA8 := Lib.hid (own_one hown8)
      have HOB8 := Lib.hid (HDIS.out.kept (HOB0.out.alloc _) hg8)
      have HD8 : Hid (Dis v8 (.slice Ab i xb)) := Lib.hid (HDIS.out.left hat8 (fun s hs => by have := (own_block_lt HOB0.out hs).2; simp; omega))
      have HU8 := Lib.hid (app_updT HU3.out HOA.out hg8 (Nat.le_refl _))
      have HGR8 : Hid (w.heap.size ≤ w8.heap.size) := Lib.hid (Nat.le_trans (by have := HGR.out; simp; omega) hg8.size)
      obtain ⟨Aa8, xa8, hv8, -⟩ := own_form hown8
      subst hv8
      clear hown8 hg8 hat8 HOA HU3 HNEW HONE HBS3 HOA0 HOB0 HDIS HU c0 c1 c2 c3 c4 HGR
      have HGR : Hid (w.heap.size ≤ w8.heap.size) := Lib.hid HGR8.out
      clear HGR8
      have c0 : w8.cell? ⟨b, off + (j * 5 + 0), none⟩ = some (.int .u32 q.ssrc) := (HU8.out.cell (p := ⟨b, off + (j * 5 + 0), none⟩) HBB.out (by simp)).trans (HCC.out (j * 5 + 0) _ (flat_get encRt_len rs j 0 q HQI.out (by omega)))
      have c1 : w8.cell? ⟨b, off + (j * 5 + 1), none⟩ = some (.int .i64 q.track) := (HU8.out.cell (p := ⟨b, off + (j * 5 + 1), none⟩) HBB.out (by simp)).trans (HCC.out (j * 5 + 1) _ (flat_get encRt_len rs j 1 q HQI.out (by omega)))
      have c2 : w8.cell? ⟨b, off + (j * 5 + 2), none⟩ = some (.int .i64 q.src) := (HU8.out.cell (p := ⟨b, off + (j * 5 + 2), none⟩) HBB.out (by simp)).trans (HCC.out (j * 5 + 2) _ (flat_get encRt_len rs j 2 q HQI.out (by omega)))
      have c3 : w8.cell? ⟨b, off + (j * 5 + 3), none⟩ = some (.int .i64 q.layer) := (HU8.out.cell (p := ⟨b, off + (j * 5 + 3), none⟩) HBB.out (by simp)).trans (HCC.out (j * 5 + 3) _ (flat_get encRt_len rs j 3 q HQI.out (by omega)))
      have c4 : w8.cell? ⟨b, off + (j * 5 + 4), none⟩ = some (.int .i64 q.shard) := (HU8.out.cell (p := ⟨b, off + (j * 5 + 4), none⟩) HBB.out (by simp)).trans (HCC.out (j * 5 + 4) _ (flat_get encRt_len rs j 4 q HQI.out (by omega)))
      simp only [← Nat.add_assoc, Nat.add_zero] at c0 c1 c2 c3 c4
      have HOA : Hid ((w8.alloc (.cells #[.int .u32 q.ssrc, .int .i64 q.track, .int .i64 q.src, .int .i64 q.layer, .int .i64 q.shard] 37)).ownsRow w.heap.size 37 5 (.slice Ab i xb) i (lb.flatMap encRt)) := Lib.hid (HOB8.out.alloc _)
      have HU3 : Hid (Upd [] w (w8.alloc (.cells #[.int .u32 q.ssrc, .int .i64 q.track, .int .i64 q.src, .int .i64 q.layer, .int .i64 q.shard] 37))) := Lib.hid (HU8.out.alloc _)
      have HNEW := Lib.hid (blk_srcT (Blk.new w8 37 #[.int .u32 q.ssrc, .int .i64 q.track, .int .i64 q.src, .int .i64 q.layer, .int .i64 q.shard]))
      have HONE : Hid (∀ u ∈ ([.int .u32 q.ssrc, .int .i64 q.track, .int .i64 q.src, .int .i64 q.layer, .int .i64 q.shard] : List Value), u.oneCell' = true) := Lib.hid (oneRt q)
      have HBS3 : Hid (w.heap.size ≤ (w8.alloc (.cells #[.int .u32 q.ssrc, .int .i64 q.track, .int .i64 q.src, .int .i64 q.layer, .int .i64 q.shard] 37)).heap.size) := Lib.hid (by have := HGR.out; simp; omega)
      go_wp2_with (at_builtin; refine wpList_append_own_at _ rfl (.tmp 55) (.tmp 64) 23 rfl w.heap.size 37 j0 _ 5 40 Try.underlying23 hj0 hy0 hy1 hy2 rfl (by decide) (.slice Ab i xb) i (lb.flatMap encRt) rfl HOA.out ⟨w8.heap.size, 0, none⟩ 1 1 [.int .u32 q.ssrc, .int .i64 q.track, .int .i64 q.src, .int .i64 q.layer, .int .i64 q.shard] rfl rfl HNEW.out HONE.out (by unfold maxLen; omega) (by omega) HBS3.out ?_)
      intro v8 w9 hown8 hg8 _ hat8
      have HOB9 := Lib.hid (own_one hown8)
      have HOA9 := Lib.hid (HD8.out.symm.kept (HOA8.out.alloc _) hg8)
      have HD9 : Hid (Dis (.slice Aa8 (i + 1) xa8) v8) := Lib.hid ((HD8.out.symm.left hat8 (fun s hs => by have := (own_block_lt HOA8.out hs).2; simp; omega)).symm)
      have HU9 := Lib.hid (app_updT HU3.out HOA.out hg8 (Nat.le_refl _))
      obtain ⟨Ab8, xb8, hv8, -⟩ := own_form hown8
      subst hv8
      clear hown8 hg8 hat8 HOA HU3 HNEW HONE HBS3 HOA8 HOB8 HD8 HU8 c0 c1 c2 c3 c4 HGR
      go_wp2
      go_roundg (gk - 1)
      case measure => have := HGI.out; omega
      case rel => exact ⟨i + 1, by omega, by have := HGI.out; omega, by go_num, by rw [HT1.out]; exact HOA9.out, by rw [HT2.out]; exact HOB9.out, HD9.out, HU9.out⟩
    obtain rfl : n = i := by omega
    have etk : rs.take n = rs := by rw [HN.out, List.take_length]
    have etr : rs.reverse.take n = rs.reverse := by rw [HN.out, ← List.length_reverse, List.take_length]
    rw [etk] at hoa
    rw [etr] at hob
    have HOA1 := Lib.hid hoa
    have HOB1 := Lib.hid hob
    have HU1 := Lib.hid hu
    obtain ⟨W2, rfl⟩ : ∃ z : World, z = wr := ⟨wr, rfl⟩
    obtain ⟨N2, hN2⟩ : ∃ k, k = W2.heap.size := ⟨_, rfl⟩
    have HN2 := Lib.hid hN2
    clear hoa hob hdis hu hlt hgi hi etk etr hN2
    go_wp2
    go_loopg [8, 9, 11] m (fun gk xa xb xi wr => ∃ i : Nat, i ≤ m ∧ m ≤ i + gk ∧ xi = .int .i64 i ∧ wr.ownsRow N2 41 10 xa i ((ds.take i).flatMap encDn) ∧ wr.ownsRow N2 41 10 xb i ((ds.reverse.take i).flatMap encDn) ∧ Dis xa xb ∧ Upd [] W2 wr)
    case atStart => exact ⟨0, Nat.zero_le _, by omega, rfl, World.ownsRow_nil _ _ _ _, World.ownsRow_nil _ _ _ _, (fun s h => by cases h), Upd.refl _ _⟩
    case round =>
      obtain ⟨i, hi, hgi, rfl, hoa, hob, hdis, hu⟩ := hrel
      obtain ⟨Ac, xc, hve, -⟩ := own_form hoa
      subst hve
      obtain ⟨Af, xf, hve, -⟩ := own_form hob
      subst hve
      by_cases hlt : i < m
      · obtain ⟨d, hri⟩ : ∃ r, ds[i]? = some r := ⟨_, List.getElem?_eq_getElem (by rw [← HM.out]; exact hlt)⟩
        obtain ⟨j, hj⟩ : ∃ j, j = m - 1 - i := ⟨_, rfl⟩
        obtain ⟨q, hqi⟩ : ∃ q, ds[j]? = some q := ⟨_, List.getElem?_eq_getElem (by rw [← HM.out]; omega)⟩
        obtain ⟨b, off, hAe, -, hb2, hcc⟩ := HB.out.2 (by rw [← HM.out]; omega)
        subst hAe
        have HBB := Lib.hid hb2
        have HCC := Lib.hid hcc
        have HT1 := Lib.hid (take_snoc hri)
        have HT2 := Lib.hid (take_snoc (rev_at HM.out hlt (by rw [← hj]; exact hqi)))
        have HQI := Lib.hid hqi
        have c0 : wr.cell? ⟨b, off + (i * 10 + 0), none⟩ = some (.int .u32 d.ssrc) := ((HU1.out.next hu).cell (p := ⟨b, off + (i * 10 + 0), none⟩) HBB.out (by simp)).trans (HCC.out (i * 10 + 0) _ (flat_get encDn_len ds i 0 d hri (by omega)))
        have c1 : wr.cell? ⟨b, off + (i * 10 + 1), none⟩ = some (.int .i64 d.slot) := ((HU1.out.next hu).cell (p := ⟨b, off + (i * 10 + 1), none⟩) HBB.out (by simp)).trans (HCC.out (i * 10 + 1) _ (flat_get encDn_len ds i 1 d hri (by omega)))
        have c2 : wr.cell? ⟨b, off + (i * 10 + 2), none⟩ = some (.int .u32 d.turn) := ((HU1.out.next hu).cell (p := ⟨b, off + (i * 10 + 2), none⟩) HBB.out (by simp)).trans (HCC.out (i * 10 + 2) _ (flat_get encDn_len ds i 2 d hri (by omega)))
        have c3 : wr.cell? ⟨b, off + (i * 10 + 3), none⟩ = some (.int .i64 d.who) := ((HU1.out.next hu).cell (p := ⟨b, off + (i * 10 + 3), none⟩) HBB.out (by simp)).trans (HCC.out (i * 10 + 3) _ (flat_get encDn_len ds i 3 d hri (by omega)))
        have c4 : wr.cell? ⟨b, off + (i * 10 + 4), none⟩ = some (.int .i64 d.track) := ((HU1.out.next hu).cell (p := ⟨b, off + (i * 10 + 4), none⟩) HBB.out (by simp)).trans (HCC.out (i * 10 + 4) _ (flat_get encDn_len ds i 4 d hri (by omega)))
        have c5 : wr.cell? ⟨b, off + (i * 10 + 5), none⟩ = some (.int .i64 d.shard) := ((HU1.out.next hu).cell (p := ⟨b, off + (i * 10 + 5), none⟩) HBB.out (by simp)).trans (HCC.out (i * 10 + 5) _ (flat_get encDn_len ds i 5 d hri (by omega)))
        have c6 : wr.cell? ⟨b, off + (i * 10 + 6), none⟩ = some (.int .i64 d.src) := ((HU1.out.next hu).cell (p := ⟨b, off + (i * 10 + 6), none⟩) HBB.out (by simp)).trans (HCC.out (i * 10 + 6) _ (flat_get encDn_len ds i 6 d hri (by omega)))
        have c7 : wr.cell? ⟨b, off + (i * 10 + 7), none⟩ = some (.int .i64 d.layer) := ((HU1.out.next hu).cell (p := ⟨b, off + (i * 10 + 7), none⟩) HBB.out (by simp)).trans (HCC.out (i * 10 + 7) _ (flat_get encDn_len ds i 7 d hri (by omega)))
        have c8 : wr.cell? ⟨b, off + (i * 10 + 8), none⟩ = some (.int .i64 d.tid) := ((HU1.out.next hu).cell (p := ⟨b, off + (i * 10 + 8), none⟩) HBB.out (by simp)).trans (HCC.out (i * 10 + 8) _ (flat_get encDn_len ds i 8 d hri (by omega)))
        have c9 : wr.cell? ⟨b, off + (i * 10 + 9), none⟩ = some (.bool d.muted) := ((HU1.out.next hu).cell (p := ⟨b, off + (i * 10 + 9), none⟩) HBB.out (by simp)).trans (HCC.out (i * 10 + 9) _ (flat_get encDn_len ds i 9 d hri (by omega)))
        simp only [← Nat.add_assoc, Nat.add_zero] at c0 c1 c2 c3 c4 c5 c6 c7 c8 c9
        have hlti : (i : Int) < (m : Int) := by omega
        have hwi : IntKind.i64.wrap ((i : Int) + 1) = (i : Int) + 1 := IntWalk.i64_in _ (by omega)
        have hw1 : IntKind.i64.wrap ((m : Int) - 1) = (m : Int) - 1 := IntWalk.i64_in _ (by omega)
        have hw2 : IntKind.i64.wrap ((m : Int) - 1 - (i : Int)) = (j : Int) := by rw [IntWalk.i64_in _ (by omega)]; omega
        have hjl : (j : Int) < (m : Int) := by omega
        obtain ⟨la, hla⟩ : ∃ z, z = ds.take i := ⟨_, rfl⟩
        obtain ⟨lb, hlb⟩ : ∃ z, z = ds.reverse.take i := ⟨_, rfl⟩
        rw [← hla] at hoa HT1
        rw [← hlb] at hob HT2
        have HOA0 := Lib.hid hoa
        have HOB0 := Lib.hid hob
        have HDIS := Lib.hid hdis
        have HU := Lib.hid hu
        have HGI := Lib.hid hgi
        have HGR : Hid (N2 ≤ wr.heap.size) := Lib.hid (by rw [HN2.out]; exact hu.size)
        clear hoa hob hdis hu hgi hri hqi hb2 hcc hla hlb hj
        have HOA : Hid ((wr.alloc (.cells #[.int .u32 d.ssrc, .int .i64 d.slot, .int .u32 d.turn, .int .i64 d.who, .int .i64 d.track, .int .i64 d.shard, .int .i64 d.src, .int .i64 d.layer, .int .i64 d.tid, .bool d.muted] 41)).ownsRow N2 41 10 (.slice Ac i xc) i (la.flatMap encDn)) := Lib.hid (HOA0.out.alloc _)
        have HU3 : Hid (Upd [] W2 (wr.alloc (.cells #[.int .u32 d.ssrc, .int .i64 d.slot, .int .u32 d.turn, .int .i64 d.who, .int .i64 d.track, .int .i64 d.shard, .int .i64 d.src, .int .i64 d.layer, .int .i64 d.tid, .bool d.muted] 41))) := Lib.hid (HU.out.alloc _)
        have HNEW := Lib.hid (blk_srcT (Blk.new wr 41 #[.int .u32 d.ssrc, .int .i64 d.slot, .int .u32 d.turn, .int .i64 d.who, .int .i64 d.track, .int .i64 d.shard, .int .i64 d.src, .int .i64 d.layer, .int .i64 d.tid, .bool d.muted]))
        have HONE : Hid (∀ u ∈ ([.int .u32 d.ssrc, .int .i64 d.slot, .int .u32 d.turn, .int .i64 d.who, .int .i64 d.track, .int .i64 d.shard, .int .i64 d.src, .int .i64 d.layer, .int .i64 d.tid, .bool d.muted] : List Value), u.oneCell' = true) := Lib.hid (oneDn d)
        have HBS3 : Hid (N2 ≤ (wr.alloc (.cells #[.int .u32 d.ssrc, .int .i64 d.slot, .int .u32 d.turn, .int .i64 d.who, .int .i64 d.track, .int .i64 d.shard, .int .i64 d.src, .int .i64 d.layer, .int .i64 d.tid, .bool d.muted] 41)).heap.size) := Lib.hid (by have := HGR.out; simp; omega)
        go_wp2_with (at_builtin; refine wpList_append_own_at _ rfl (.tmp 72) (.tmp 77) 24 rfl N2 41 k0 _ 10 80 Try.underlying24 hk0 hx0 hx1 hx2 rfl (by decide) (.slice Ac i xc) i (la.flatMap encDn) rfl HOA.out ⟨wr.heap.size, 0, none⟩ 1 1 [.int .u32 d.ssrc, .int .i64 d.slot, .int .u32 d.turn, .int .i64 d.who, .int .i64 d.track, .int .i64 d.shard, .int .i64 d.src, .int .i64 d.layer, .int .i64 d.tid, .bool d.muted] rfl rfl HNEW.out HONE.out (by unfold maxLen; omega) (by omega) HBS3.out ?_)
        intro v8 w8 hown8 hg8 _ hat8
        have HOA8 := Lib.hid (own_oneD hown8)
        have HOB8 := Lib.hid (HDIS.out.kept (HOB0.out.alloc _) hg8)
        have HD8 : Hid (Dis v8 (.slice Af i xf)) := Lib.hid (HDIS.out.left hat8 (fun s hs => by have := (own_block_lt HOB0.out hs).2; simp; omega))
        have HU8 := Lib.hid (app_updT HU3.out HOA.out hg8 (Nat.le_of_eq HN2.out.symm))
        have HGR8 : Hid (N2 ≤ w8.heap.size) := Lib.hid (Nat.le_trans (by have := HGR.out; simp; omega) hg8.size)
        obtain ⟨Aa8, xa8, hv8, -⟩ := own_form hown8
        subst hv8
        clear hown8 hg8 hat8 HOA HU3 HNEW HONE HBS3 HOA0 HOB0 HDIS HU c0 c1 c2 c3 c4 c5 c6 c7 c8 c9 HGR
        have HGR : Hid (N2 ≤ w8.heap.size) := Lib.hid HGR8.out
        clear HGR8
        have c0 : w8.cell? ⟨b, off + (j * 10 + 0), none⟩ = some (.int .u32 q.ssrc) := ((HU1.out.next HU8.out).cell (p := ⟨b, off + (j * 10 + 0), none⟩) HBB.out (by simp)).trans (HCC.out (j * 10 + 0) _ (flat_get encDn_len ds j 0 q HQI.out (by omega)))
        have c1 : w8.cell? ⟨b, off + (j * 10 + 1), none⟩ = some (.int .i64 q.slot) := ((HU1.out.next HU8.out).cell (p := ⟨b, off + (j * 10 + 1), none⟩) HBB.out (by simp)).trans (HCC.out (j * 10 + 1) _ (flat_get encDn_len ds j 1 q HQI.out (by omega)))
        have c2 : w8.cell? ⟨b, off + (j * 10 + 2), none⟩ = some (.int .u32 q.turn) := ((HU1.out.next HU8.out).cell (p := ⟨b, off + (j * 10 + 2), none⟩) HBB.out (by simp)).trans (HCC.out (j * 10 + 2) _ (flat_get encDn_len ds j 2 q HQI.out (by omega)))
        have c3 : w8.cell? ⟨b, off + (j * 10 + 3), none⟩ = some (.int .i64 q.who) := ((HU1.out.next HU8.out).cell (p := ⟨b, off + (j * 10 + 3), none⟩) HBB.out (by simp)).trans (HCC.out (j * 10 + 3) _ (flat_get encDn_len ds j 3 q HQI.out (by omega)))
        have c4 : w8.cell? ⟨b, off + (j * 10 + 4), none⟩ = some (.int .i64 q.track) := ((HU1.out.next HU8.out).cell (p := ⟨b, off + (j * 10 + 4), none⟩) HBB.out (by simp)).trans (HCC.out (j * 10 + 4) _ (flat_get encDn_len ds j 4 q HQI.out (by omega)))
        have c5 : w8.cell? ⟨b, off + (j * 10 + 5), none⟩ = some (.int .i64 q.shard) := ((HU1.out.next HU8.out).cell (p := ⟨b, off + (j * 10 + 5), none⟩) HBB.out (by simp)).trans (HCC.out (j * 10 + 5) _ (flat_get encDn_len ds j 5 q HQI.out (by omega)))
        have c6 : w8.cell? ⟨b, off + (j * 10 + 6), none⟩ = some (.int .i64 q.src) := ((HU1.out.next HU8.out).cell (p := ⟨b, off + (j * 10 + 6), none⟩) HBB.out (by simp)).trans (HCC.out (j * 10 + 6) _ (flat_get encDn_len ds j 6 q HQI.out (by omega)))
        have c7 : w8.cell? ⟨b, off + (j * 10 + 7), none⟩ = some (.int .i64 q.layer) := ((HU1.out.next HU8.out).cell (p := ⟨b, off + (j * 10 + 7), none⟩) HBB.out (by simp)).trans (HCC.out (j * 10 + 7) _ (flat_get encDn_len ds j 7 q HQI.out (by omega)))
        have c8 : w8.cell? ⟨b, off + (j * 10 + 8), none⟩ = some (.int .i64 q.tid) := ((HU1.out.next HU8.out).cell (p := ⟨b, off + (j * 10 + 8), none⟩) HBB.out (by simp)).trans (HCC.out (j * 10 + 8) _ (flat_get encDn_len ds j 8 q HQI.out (by omega)))
        have c9 : w8.cell? ⟨b, off + (j * 10 + 9), none⟩ = some (.bool q.muted) := ((HU1.out.next HU8.out).cell (p := ⟨b, off + (j * 10 + 9), none⟩) HBB.out (by simp)).trans (HCC.out (j * 10 + 9) _ (flat_get encDn_len ds j 9 q HQI.out (by omega)))
        simp only [← Nat.add_assoc, Nat.add_zero] at c0 c1 c2 c3 c4 c5 c6 c7 c8 c9
        have HOA : Hid ((w8.alloc (.cells #[.int .u32 q.ssrc, .int .i64 q.slot, .int .u32 q.turn, .int .i64 q.who, .int .i64 q.track, .int .i64 q.shard, .int .i64 q.src, .int .i64 q.layer, .int .i64 q.tid, .bool q.muted] 41)).ownsRow N2 41 10 (.slice Af i xf) i (lb.flatMap encDn)) := Lib.hid (HOB8.out.alloc _)
        have HU3 : Hid (Upd [] W2 (w8.alloc (.cells #[.int .u32 q.ssrc, .int .i64 q.slot, .int .u32 q.turn, .int .i64 q.who, .int .i64 q.track, .int .i64 q.shard, .int .i64 q.src, .int .i64 q.layer, .int .i64 q.tid, .bool q.muted] 41))) := Lib.hid (HU8.out.alloc _)
        have HNEW := Lib.hid (blk_srcT (Blk.new w8 41 #[.int .u32 q.ssrc, .int .i64 q.slot, .int .u32 q.turn, .int .i64 q.who, .int .i64 q.track, .int .i64 q.shard, .int .i64 q.src, .int .i64 q.layer, .int .i64 q.tid, .bool q.muted]))
        have HONE : Hid (∀ u ∈ ([.int .u32 q.ssrc, .int .i64 q.slot, .int .u32 q.turn, .int .i64 q.who, .int .i64 q.track, .int .i64 q.shard, .int .i64 q.src, .int .i64 q.layer, .int .i64 q.tid, .bool q.muted] : List Value), u.oneCell' = true) := Lib.hid (oneDn q)
        have HBS3 : Hid (N2 ≤ (w8.alloc (.cells #[.int .u32 q.ssrc, .int .i64 q.slot, .int .u32 q.turn, .int .i64 q.who, .int .i64 q.track, .int .i64 q.shard, .int .i64 q.src, .int .i64 q.layer, .int .i64 q.tid, .bool q.muted] 41)).heap.size) := Lib.hid (by have := HGR.out; simp; omega)
        go_wp2_with (at_builtin; refine wpList_append_own_at _ rfl (.tmp 79) (.tmp 88) 24 rfl N2 41 k0 _ 10 80 Try.underlying24 hk0 hx0 hx1 hx2 rfl (by decide) (.slice Af i xf) i (lb.flatMap encDn) rfl HOA.out ⟨w8.heap.size, 0, none⟩ 1 1 [.int .u32 q.ssrc, .int .i64 q.slot, .int .u32 q.turn, .int .i64 q.who, .int .i64 q.track, .int .i64 q.shard, .int .i64 q.src, .int .i64 q.layer, .int .i64 q.tid, .bool q.muted] rfl rfl HNEW.out HONE.out (by unfold maxLen; omega) (by omega) HBS3.out ?_)
        intro v8 w9 hown8 hg8 _ hat8
        have HOB9 := Lib.hid (own_oneD hown8)
        have HOA9 := Lib.hid (HD8.out.symm.kept (HOA8.out.alloc _) hg8)
        have HD9 : Hid (Dis (.slice Aa8 (i + 1) xa8) v8) := Lib.hid ((HD8.out.symm.left hat8 (fun s hs => by have := (own_block_lt HOA8.out hs).2; simp; omega)).symm)
        have HU9 := Lib.hid (app_updT HU3.out HOA.out hg8 (Nat.le_of_eq HN2.out.symm))
        obtain ⟨Ab8, xb8, hv8, -⟩ := own_form hown8
        subst hv8
        clear hown8 hg8 hat8 HOA HU3 HNEW HONE HBS3 HOA8 HOB8 HD8 HU8 c0 c1 c2 c3 c4 c5 c6 c7 c8 c9 HGR
        go_wp2
        go_roundg (gk - 1)
        case measure => have := HGI.out; omega
        case rel => exact ⟨i + 1, by omega, by have := HGI.out; omega, by go_num, by rw [HT1.out]; exact HOA9.out, by rw [HT2.out]; exact HOB9.out, HD9.out, HU9.out⟩
      obtain rfl : m = i := by omega
      have etk : ds.take m = ds := by rw [HM.out, List.take_length]
      have etr : ds.reverse.take m = ds.reverse := by rw [HM.out, ← List.length_reverse, List.take_length]
      rw [etk] at hoa
      rw [etr] at hob
      have HOC3 := Lib.hid hoa
      have HOF3 := Lib.hid hob
      have HDI3 := Lib.hid hdis
      have HU2 := Lib.hid hu
      clear hoa hob hdis hu hlt hgi hi etk etr
      obtain ⟨W3, rfl⟩ : ∃ z : World, z = wr := ⟨wr, rfl⟩
      have HOA3 := Lib.hid (ownsRow_upd HOA1.out HU2.out (by simp))
      have HOB3 := Lib.hid (ownsRow_upd HOB1.out HU2.out (by simp))
      have HU3 := Lib.hid (HU1.out.next HU2.out)
      have HDA : Hid (∀ s, (Value.slice Aa n xa).ownBlock = some s → s < N2) := Lib.hid (fun s hs => by rw [HN2.out]; exact (own_block_lt HOA1.out hs).2)
      clear HOA1 HOB1 HU2
      have HMK := Lib.hid (make_tb (A := Aa) (B := Ac) (ca := xa) (cb := xc) 1 (by rw [← HN.out]; exact .of_row HOA3.out) (by rw [← HM.out]; exact .of_row HOC3.out) HR.out HD.out (by rw [← HN.out]; omega) (by rw [← HM.out]; omega))
      rw [← HN.out, ← HM.out] at HMK
      go_wp2_with fail
      refine HMK.out.mono ?_
      rintro _ w4 ⟨v4, e4, rfl, hu4, hc4⟩
      have HC4 := Lib.hid hc4
      have HU4 := Lib.hid (HU3.out.next hu4)
      have HOA4 := Lib.hid (ownsRow_upd HOA3.out hu4 (by simp))
      have HOC4 := Lib.hid (ownsRow_upd HOC3.out hu4 (by simp))
      have HMK2 := Lib.hid (make_tb (A := Ab) (B := Af) (rs := rs.reverse) (ds := ds.reverse) (ca := xb) (cb := xf) 1 (by rw [List.length_reverse, ← HN.out]; exact .of_row (ownsRow_upd HOB3.out hu4 (by simp))) (by rw [List.length_reverse, ← HM.out]; exact .of_row (ownsRow_upd HOF3.out hu4 (by simp))) (fun r hr => HR.out r (by simpa using hr)) (fun d hd => HD.out d (by simpa using hd)) (by rw [List.length_reverse, ← HN.out]; omega) (by rw [List.length_reverse, ← HM.out]; omega))
      rw [List.length_reverse, List.length_reverse, ← HN.out, ← HM.out] at HMK2
      have HS4 := Lib.hid hu4.size
      have HBA : Hid (∀ s, (Value.slice Aa n xa).ownBlock = some s → s < W3.heap.size) := Lib.hid (fun s hs => (own_block_lt HOA3.out hs).2)
      have HBC : Hid (∀ s, (Value.slice Ac m xc).ownBlock = some s → s < W3.heap.size) := Lib.hid (fun s hs => (own_block_lt HOC3.out hs).2)
      clear hc4 hu4 HMK HOA3 HOB3 HOC3 HOF3 HDI3
      go_wp2_with fail
      refine HMK2.out.mono ?_
      rintro _ w5 ⟨v5, e5, rfl, hu5, hc5⟩
      have HU5 := Lib.hid (HU4.out.next hu5)
      have HOA5 := Lib.hid (ownsRow_upd HOA4.out hu5 (by simp))
      have HOC5 := Lib.hid (ownsRow_upd HOC4.out hu5 (by simp))
      have HCS : Hid (e5 = e4 ∧ ((e4 = 0 ∧ (MayR rs ∧ MayD ds) ∧ IsTb w5 W3.heap.size v4 1 rs ds ∧ IsTb w5 w4.heap.size v5 1 rs.reverse ds.reverse) ∨ e4 = 1)) := Lib.hid (by
        rcases HC4.out with ⟨rfl, hm4, ht4⟩ | ⟨rfl, hm4, -, -⟩
        · rcases hc5 with ⟨rfl, -, ht5⟩ | ⟨-, hm5, -, -⟩
          · exact ⟨rfl, .inl ⟨rfl, hm4, ht4.upd hu5, ht5⟩⟩
          · exact absurd ⟨hm4.1.rev, hm4.2.rev⟩ hm5
        · rcases hc5 with ⟨-, hm5, -⟩ | ⟨rfl, -, -, -⟩
          · exact absurd (may_rev hm5) hm4
          · exact ⟨rfl, .inr rfl⟩)
      obtain ⟨he5, hcs⟩ := HCS.out
      subst he5
      have HCASE := Lib.hid hcs
      clear hcs HCS hc5 hu5 HC4 HMK2 HOA4 HOC4 HU4
      have hee : (e5 == e5) = true := by simp
      obtain ⟨W5, rfl⟩ : ∃ z : World, z = w5 := ⟨w5, rfl⟩
      go_wp2
      go_loopg [16] n (fun gk x16 wr => ∃ i : Nat, i ≤ n ∧ n ≤ i + gk ∧ x16 = .int .i64 i ∧ (∃ l : List Rt, l.length = n ∧ wr.ownsRow w.heap.size 37 5 (.slice Aa n xa) n (l.flatMap encRt)) ∧ Upd (Value.slice Aa n xa).ownBlock.toList W5 wr)
      case atStart => exact ⟨0, Nat.zero_le _, by omega, rfl, ⟨rs, HN.out.symm, HOA5.out⟩, Upd.refl _ _⟩
      case round =>
        obtain ⟨i, hi, hgi, rfl, ⟨l, hl, hown⟩, hu⟩ := hrel
        by_cases hlt : i < n
        · obtain ⟨x, hx⟩ : ∃ x, l[i]? = some x := ⟨_, List.getElem?_eq_getElem (by omega)⟩
          have hlti : (i : Int) < (n : Int) := by omega
          have hwi : IntKind.i64.wrap ((i : Int) + 1) = (i : Int) + 1 := IntWalk.i64_in _ (by omega)
          obtain ⟨g, hAe, hgN, hgs⟩ := own_at hown (by omega)
          subst hAe
          obtain ⟨c1, f1, s1⟩ := row_put encRt_len hown hx 1 _ (by decide) rfl (.int .i64 77) { x with track := 77 } rfl
          obtain ⟨wx, hwx⟩ : ∃ z, z = wr.setCell ⟨g, i * 5 + 1, none⟩ (.int .i64 77) := ⟨_, rfl⟩
          rw [← hwx] at s1
          obtain ⟨c0, f0, s0⟩ := row_put encRt_len s1 (List.getElem?_set_self (by omega)) 0 _ (by decide) rfl (.int .u32 3) { x with track := 77, ssrc := 3 } rfl
          simp only [Nat.add_zero] at c0 f0 s0
          go_upto_region 28 with fail
          rw [← hwx]
          have s2 : Upd (Value.slice (some ⟨g, 0, none⟩) n xa).ownBlock.toList W5 (wx.setCell ⟨g, i * 5, none⟩ (.int .u32 3)) := by rw [hwx]; exact (hu.setCell (.inl (by simp [Value.ownBlock])) _).setCell (.inl (by simp [Value.ownBlock])) _
          have S0 := Lib.hid s0
          have S2 := Lib.hid s2
          have HGI := Lib.hid hgi
          have HL := Lib.hid hl
          clear s0 s1 s2 hgi hl hu hx hown c1 f1 hwx
          go_wp2
          go_roundg (gk - 1)
          case measure => have := HGI.out; omega
          case rel => exact ⟨i + 1, by omega, by have := HGI.out; omega, by go_num, ⟨_, by rw [List.length_set, List.length_set]; exact HL.out, S0.out⟩, S2.out⟩
        obtain rfl : n = i := by omega
        have HOC6 := Lib.hid (ownsRow_upd HOC5.out hu (fun s hs hc => by
          have h1 := HDA.out s (by simpa using hs)
          have h2 := (own_block_lt HOC5.out hc).1
          omega))
        have HU6 := Lib.hid hu
        have hu6 : Upd [] w wr := (HU5.out.trans hu fun s hs => .inr (own_block_lt HOA5.out (by simpa using hs)).1)
        have HV6 := Lib.hid hu6
        obtain ⟨W6, rfl⟩ : ∃ z : World, z = wr := ⟨wr, rfl⟩
        clear hu hown hl hgi hi hlt HU5 HOC5 hu6
        go_wp2
        go_loopg [17] m (fun gk x17 wr => ∃ i : Nat, i ≤ m ∧ m ≤ i + gk ∧ x17 = .int .i64 i ∧ (∃ l : List Dn, l.length = m ∧ wr.ownsRow N2 41 10 (.slice Ac m xc) m (l.flatMap encDn)) ∧ Upd (Value.slice Ac m xc).ownBlock.toList W6 wr)
        case atStart => exact ⟨0, Nat.zero_le _, by omega, rfl, ⟨ds, HM.out.symm, HOC6.out⟩, Upd.refl _ _⟩
        case round =>
          obtain ⟨i, hi, hgi, rfl, ⟨l, hl, hown⟩, hu⟩ := hrel
          by_cases hlt : i < m
          · obtain ⟨x, hx⟩ : ∃ x, l[i]? = some x := ⟨_, List.getElem?_eq_getElem (by omega)⟩
            have hlti : (i : Int) < (m : Int) := by omega
            have hwi : IntKind.i64.wrap ((i : Int) + 1) = (i : Int) + 1 := IntWalk.i64_in _ (by omega)
            obtain ⟨g, hAe, hgN, hgs⟩ := own_at hown (by omega)
            subst hAe
            obtain ⟨c1, f1, s1⟩ := row_put encDn_len hown hx 3 _ (by decide) rfl (.int .i64 55) { x with who := 55 } rfl
            obtain ⟨wx, hwx⟩ : ∃ z, z = wr.setCell ⟨g, i * 10 + 3, none⟩ (.int .i64 55) := ⟨_, rfl⟩
            rw [← hwx] at s1
            obtain ⟨c0, f0, s0⟩ := row_put encDn_len s1 (List.getElem?_set_self (by omega)) 9 _ (by decide) rfl (.bool (!x.muted)) { x with who := 55, muted := !x.muted } rfl
            have s2 : Upd (Value.slice (some ⟨g, 0, none⟩) m xc).ownBlock.toList W6 (wx.setCell ⟨g, i * 10 + 9, none⟩ (.bool (!x.muted))) := by rw [hwx]; exact (hu.setCell (.inl (by simp [Value.ownBlock])) _).setCell (.inl (by simp [Value.ownBlock])) _
            have S0 := Lib.hid s0
            have S2 := Lib.hid s2
            have HGI := Lib.hid hgi
            have HL := Lib.hid hl
            have HWX := Lib.hid hwx
            clear s0 s1 s2 hgi hl hu hx hown hwx
            go_upto_region 33 with fail
            rw [← HWX.out]
            go_wp2
            go_roundg (gk - 1)
            case measure => have := HGI.out; omega
            case rel => exact ⟨i + 1, by omega, by have := HGI.out; omega, by go_num, ⟨_, by rw [List.length_set, List.length_set]; exact HL.out, S0.out⟩, S2.out⟩
          obtain rfl : m = i := by omega
          have HU7 := Lib.hid (HV6.out.trans hu fun s hs => .inr (by
            have h1 := (own_block_lt HOC6.out (by simpa using hs)).1
            have h2 := HN2.out
            have h3 := HU1.out.size
            omega))
          have HT7 : Hid ((e5 = 0 ∧ (MayR rs ∧ MayD ds) ∧ IsTb wr W3.heap.size v4 1 rs ds ∧ IsTb wr w4.heap.size v5 1 rs.reverse ds.reverse) ∨ e5 = 1) := Lib.hid (by
            rcases HCASE.out with ⟨h1, h2, h3, h4⟩ | h1
            · refine .inl ⟨h1, h2, (h3.above HU6.out ?_).above hu ?_, (h4.above HU6.out ?_).above hu ?_⟩
              all_goals intro s hs
              · exact HBA.out s (by simpa using hs)
              · exact HBC.out s (by simpa using hs)
              · exact Nat.lt_of_lt_of_le (HBA.out s (by simpa using hs)) HS4.out
              · exact Nat.lt_of_lt_of_le (HBC.out s (by simpa using hs)) HS4.out
            · exact .inr h1)
          obtain ⟨W7, rfl⟩ : ∃ z : World, z = wr := ⟨wr, rfl⟩
          have HA7 := Lib.hid (HA.out.later HU7.out)
          have HB7 := Lib.hid (HB.out.later HU7.out)
          clear hu hown hl hgi hi hlt HV6 HOC6 HU6 HCASE HBA HBC HS4 HA HB
          rcases HT7.out with ⟨rfl, hmay, hta, htb⟩ | rfl
          rotate_left
          · clear HA7 HB7 HT7
            by_cases h0 : (0 : Int) < (n : Int)
            · by_cases h1 : (0 : Int) < (m : Int)
              · go_wp2
                go_loopg [18] 0 (fun gk x18 wr => x18 = .int .i64 0 ∧ wr = W7)
                case atStart => exact ⟨rfl, rfl⟩
                case round =>
                  obtain ⟨rfl, hwr⟩ := hrel
                  subst hwr
                  go_wp2
                  go_loopg [23] 0 (fun gk x23 wq => x23 = .int .i64 0 ∧ wq = wr)
                  case atStart => exact ⟨rfl, rfl⟩
                  case round =>
                    obtain ⟨rfl, hwr⟩ := hrel
                    subst hwr
                    go_wp2
                    exact bodyPost_res (v := .bool true) (by simp [results, Try.results4, go_sem]) rfl ⟨rfl, HU7.out.below (Nat.le_refl _) (by simp)⟩
              · go_wp2
                go_loopg [18] 0 (fun gk x18 wr => x18 = .int .i64 0 ∧ wr = W7)
                case atStart => exact ⟨rfl, rfl⟩
                case round =>
                  obtain ⟨rfl, hwr⟩ := hrel
                  subst hwr
                  go_wp2
                  go_loopg [23] 0 (fun gk x23 wq => x23 = .int .i64 0 ∧ wq = wr)
                  case atStart => exact ⟨rfl, rfl⟩
                  case round =>
                    obtain ⟨rfl, hwr⟩ := hrel
                    subst hwr
                    go_wp2
                    exact bodyPost_res (v := .bool true) (by simp [results, Try.results4, go_sem]) rfl ⟨rfl, HU7.out.below (Nat.le_refl _) (by simp)⟩
            · by_cases h1 : (0 : Int) < (m : Int)
              · go_wp2
                go_loopg [18] 0 (fun gk x18 wr => x18 = .int .i64 0 ∧ wr = W7)
                case atStart => exact ⟨rfl, rfl⟩
                case round =>
                  obtain ⟨rfl, hwr⟩ := hrel
                  subst hwr
                  go_wp2
                  go_loopg [23] 0 (fun gk x23 wq => x23 = .int .i64 0 ∧ wq = wr)
                  case atStart => exact ⟨rfl, rfl⟩
                  case round =>
                    obtain ⟨rfl, hwr⟩ := hrel
                    subst hwr
                    go_wp2
                    exact bodyPost_res (v := .bool true) (by simp [results, Try.results4, go_sem]) rfl ⟨rfl, HU7.out.below (Nat.le_refl _) (by simp)⟩
              · go_wp2
                go_loopg [18] 0 (fun gk x18 wr => x18 = .int .i64 0 ∧ wr = W7)
                case atStart => exact ⟨rfl, rfl⟩
                case round =>
                  obtain ⟨rfl, hwr⟩ := hrel
                  subst hwr
                  go_wp2
                  go_loopg [23] 0 (fun gk x23 wq => x23 = .int .i64 0 ∧ wq = wr)
                  case atStart => exact ⟨rfl, rfl⟩
                  case round =>
                    obtain ⟨rfl, hwr⟩ := hrel
                    subst hwr
                    go_wp2
                    exact bodyPost_res (v := .bool true) (by simp [results, Try.results4, go_sem]) rfl ⟨rfl, HU7.out.below (Nat.le_refl _) (by simp)⟩
          have HMAY := Lib.hid hmay
          have HTA := Lib.hid hta
          have HTB := Lib.hid htb
          clear hmay hta htb HT7
          go_wp2
          go_loopg [18] n (fun gk x18 wr => ∃ i : Nat, i ≤ n ∧ n ≤ i + gk ∧ x18 = .int .i64 i ∧ Upd [] W7 wr)
          case atStart => exact ⟨0, Nat.zero_le _, by omega, rfl, Upd.refl _ _⟩
          case round =>
            obtain ⟨i, hi, hgi, rfl, hu⟩ := hrel
            by_cases hlt : i < n
            · obtain ⟨r, hri⟩ : ∃ r, rs[i]? = some r := ⟨_, List.getElem?_eq_getElem (by rw [← HN.out]; exact hlt)⟩
              obtain ⟨b, off, hAe, -, hb2, hcc⟩ := HA7.out.2 (by rw [← HN.out]; omega)
              subst hAe
              have HBB := Lib.hid hb2
              have HCC := Lib.hid hcc
              have hmem := List.mem_of_getElem? hri
              have HR1 := Lib.hid (route_any (HTA.out.upd hu) (s := r.ssrc) (HR.out r hmem).ssrc)
              have HR2 := Lib.hid (fun (W : World) (hW : Upd [] W7 W) => route_any (HTB.out.upd hW) (s := r.ssrc) (HR.out r hmem).ssrc)
              rw [route_of HMAY.out.1 hmem] at HR1
              simp only [route_of HMAY.out.1.rev (List.mem_reverse.2 hmem)] at HR2
              simp only [Option.getD_some, Option.isSome_some, encRt] at HR1 HR2
              have c0 : wr.cell? ⟨b, off + (i * 5 + 0), none⟩ = some (.int .u32 r.ssrc) := (hu.cell (p := ⟨b, off + (i * 5 + 0), none⟩) HBB.out (by simp)).trans (HCC.out (i * 5 + 0) _ (flat_get encRt_len rs i 0 r hri (by omega)))
              have c1 : wr.cell? ⟨b, off + (i * 5 + 1), none⟩ = some (.int .i64 r.track) := (hu.cell (p := ⟨b, off + (i * 5 + 1), none⟩) HBB.out (by simp)).trans (HCC.out (i * 5 + 1) _ (flat_get encRt_len rs i 1 r hri (by omega)))
              have c2 : wr.cell? ⟨b, off + (i * 5 + 2), none⟩ = some (.int .i64 r.src) := (hu.cell (p := ⟨b, off + (i * 5 + 2), none⟩) HBB.out (by simp)).trans (HCC.out (i * 5 + 2) _ (flat_get encRt_len rs i 2 r hri (by omega)))
              have c3 : wr.cell? ⟨b, off + (i * 5 + 3), none⟩ = some (.int .i64 r.layer) := (hu.cell (p := ⟨b, off + (i * 5 + 3), none⟩) HBB.out (by simp)).trans (HCC.out (i * 5 + 3) _ (flat_get encRt_len rs i 3 r hri (by omega)))
              have c4 : wr.cell? ⟨b, off + (i * 5 + 4), none⟩ = some (.int .i64 r.shard) := (hu.cell (p := ⟨b, off + (i * 5 + 4), none⟩) HBB.out (by simp)).trans (HCC.out (i * 5 + 4) _ (flat_get encRt_len rs i 4 r hri (by omega)))
              simp only [← Nat.add_assoc, Nat.add_zero] at c0 c1 c2 c3 c4
              have hlti : (i : Int) < (n : Int) := by omega
              have hwi : IntKind.i64.wrap ((i : Int) + 1) = (i : Int) + 1 := IntWalk.i64_in _ (by omega)
              have HRI := Lib.hid hri
              have HU := Lib.hid hu
              have HGI := Lib.hid hgi
              clear hu hgi hri hb2 hcc hmem
              go_wp2_with fail
              refine HR1.out.mono ?_
              rintro _ wa ⟨rfl, hua⟩
              obtain ⟨ba, hba⟩ : ∃ b, b = wa.heap.size := ⟨_, rfl⟩
              obtain ⟨wb, hwb⟩ : ∃ z, z = wa.alloc (.cells #[.int .u32 r.ssrc, .int .i64 r.track, .int .i64 r.src, .int .i64 r.layer, .int .i64 r.shard] 37) := ⟨_, rfl⟩
              have hub : Upd [] wr wb := hua.next (by rw [hwb]; exact (Upd.refl [] wa).alloc _)
              have HBA : Hid (Blk wb ba 37 #[.int .u32 r.ssrc, .int .i64 r.track, .int .i64 r.src, .int .i64 r.layer, .int .i64 r.shard]) := Lib.hid (by rw [hwb, hba]; exact Blk.new _ _ _)
              have HUB := Lib.hid (HU.out.next hub)
              clear hua hub HR1 c0 c1 c2 c3 c4
              go_upto_region 38 with fail
              rw [← hwb, ← hba]
              clear hwb hba
              have c0 : wb.cell? ⟨b, off + (i * 5 + 0), none⟩ = some (.int .u32 r.ssrc) := (HUB.out.cell (p := ⟨b, off + (i * 5 + 0), none⟩) HBB.out (by simp)).trans (HCC.out (i * 5 + 0) _ (flat_get encRt_len rs i 0 r HRI.out (by omega)))
              have c1 : wb.cell? ⟨b, off + (i * 5 + 1), none⟩ = some (.int .i64 r.track) := (HUB.out.cell (p := ⟨b, off + (i * 5 + 1), none⟩) HBB.out (by simp)).trans (HCC.out (i * 5 + 1) _ (flat_get encRt_len rs i 1 r HRI.out (by omega)))
              have c2 : wb.cell? ⟨b, off + (i * 5 + 2), none⟩ = some (.int .i64 r.src) := (HUB.out.cell (p := ⟨b, off + (i * 5 + 2), none⟩) HBB.out (by simp)).trans (HCC.out (i * 5 + 2) _ (flat_get encRt_len rs i 2 r HRI.out (by omega)))
              have c3 : wb.cell? ⟨b, off + (i * 5 + 3), none⟩ = some (.int .i64 r.layer) := (HUB.out.cell (p := ⟨b, off + (i * 5 + 3), none⟩) HBB.out (by simp)).trans (HCC.out (i * 5 + 3) _ (flat_get encRt_len rs i 3 r HRI.out (by omega)))
              have c4 : wb.cell? ⟨b, off + (i * 5 + 4), none⟩ = some (.int .i64 r.shard) := (HUB.out.cell (p := ⟨b, off + (i * 5 + 4), none⟩) HBB.out (by simp)).trans (HCC.out (i * 5 + 4) _ (flat_get encRt_len rs i 4 r HRI.out (by omega)))
              simp only [← Nat.add_assoc, Nat.add_zero] at c0 c1 c2 c3 c4
              go_wp2_with fail
              refine (HR2.out _ HUB.out).mono ?_
              rintro _ wc ⟨rfl, huc⟩
              obtain ⟨bd, hbd⟩ : ∃ b, b = wc.heap.size := ⟨_, rfl⟩
              obtain ⟨wd, hwd⟩ : ∃ z, z = wc.alloc (.cells #[.int .u32 r.ssrc, .int .i64 r.track, .int .i64 r.src, .int .i64 r.layer, .int .i64 r.shard] 37) := ⟨_, rfl⟩
              have hud : Upd [] wb wd := huc.next (by rw [hwd]; exact (Upd.refl [] wc).alloc _)
              have HBD : Hid (Blk wd bd 37 #[.int .u32 r.ssrc, .int .i64 r.track, .int .i64 r.src, .int .i64 r.layer, .int .i64 r.shard]) := Lib.hid (by rw [hwd, hbd]; exact Blk.new _ _ _)
              have HBA2 := Lib.hid (HBA.out.upd hud (by simp))
              have HUD := Lib.hid (HUB.out.next hud)
              clear huc hud HR2 HBA HUB c0 c1 c2 c3 c4
              go_upto_region 39 with fail
              rw [← hwd, ← hbd]
              clear hwd hbd
              have c0 : wd.cell? ⟨b, off + (i * 5 + 0), none⟩ = some (.int .u32 r.ssrc) := (HUD.out.cell (p := ⟨b, off + (i * 5 + 0), none⟩) HBB.out (by simp)).trans (HCC.out (i * 5 + 0) _ (flat_get encRt_len rs i 0 r HRI.out (by omega)))
              have c1 : wd.cell? ⟨b, off + (i * 5 + 1), none⟩ = some (.int .i64 r.track) := (HUD.out.cell (p := ⟨b, off + (i * 5 + 1), none⟩) HBB.out (by simp)).trans (HCC.out (i * 5 + 1) _ (flat_get encRt_len rs i 1 r HRI.out (by omega)))
              have c2 : wd.cell? ⟨b, off + (i * 5 + 2), none⟩ = some (.int .i64 r.src) := (HUD.out.cell (p := ⟨b, off + (i * 5 + 2), none⟩) HBB.out (by simp)).trans (HCC.out (i * 5 + 2) _ (flat_get encRt_len rs i 2 r HRI.out (by omega)))
              have c3 : wd.cell? ⟨b, off + (i * 5 + 3), none⟩ = some (.int .i64 r.layer) := (HUD.out.cell (p := ⟨b, off + (i * 5 + 3), none⟩) HBB.out (by simp)).trans (HCC.out (i * 5 + 3) _ (flat_get encRt_len rs i 3 r HRI.out (by omega)))
              have c4 : wd.cell? ⟨b, off + (i * 5 + 4), none⟩ = some (.int .i64 r.shard) := (HUD.out.cell (p := ⟨b, off + (i * 5 + 4), none⟩) HBB.out (by simp)).trans (HCC.out (i * 5 + 4) _ (flat_get encRt_len rs i 4 r HRI.out (by omega)))
              simp only [← Nat.add_assoc, Nat.add_zero] at c0 c1 c2 c3 c4
              have d0 : wd.cell? ⟨bd, 0, none⟩ = some (.int .u32 r.ssrc) := HBD.out.cell 0
              have d1 : wd.cell? ⟨bd, 1, none⟩ = some (.int .i64 r.track) := HBD.out.cell 1
              have d2 : wd.cell? ⟨bd, 2, none⟩ = some (.int .i64 r.src) := HBD.out.cell 2
              have d3 : wd.cell? ⟨bd, 3, none⟩ = some (.int .i64 r.layer) := HBD.out.cell 3
              have d4 : wd.cell? ⟨bd, 4, none⟩ = some (.int .i64 r.shard) := HBD.out.cell 4
              have e0 : wd.cell? ⟨ba, 0, none⟩ = some (.int .u32 r.ssrc) := HBA2.out.cell 0
              have e1 : wd.cell? ⟨ba, 1, none⟩ = some (.int .i64 r.track) := HBA2.out.cell 1
              have e2 : wd.cell? ⟨ba, 2, none⟩ = some (.int .i64 r.src) := HBA2.out.cell 2
              have e3 : wd.cell? ⟨ba, 3, none⟩ = some (.int .i64 r.layer) := HBA2.out.cell 3
              have e4 : wd.cell? ⟨ba, 4, none⟩ = some (.int .i64 r.shard) := HBA2.out.cell 4
              refine wp_quiet_tail 21 (by kernel_rfl) (by kernel_rfl) (fun _ _ _ _ h => h) ?_
              simp only [List.take_succ_cons, List.take_zero, List.drop_succ_cons, List.drop_zero]
              repeat (go_big_quiet_step (fail))
              refine wpQuiet_nil ?_
              rintro _ ⟨nq, rfl⟩
              clear c0 c1 c2 c3 c4 d0 d1 d2 d3 d4 e0 e1 e2 e3 e4 HBD HBA2
              go_wp2
              go_roundg (gk - 1)
              case measure => have := HGI.out; omega
              case rel => exact ⟨i + 1, by omega, by have := HGI.out; omega, by go_num, HUD.out.drewN nq⟩
            obtain rfl : n = i := by omega
            have HU8 := Lib.hid hu
            obtain ⟨W8, rfl⟩ : ∃ z : World, z = wr := ⟨wr, rfl⟩
            have hnl : ¬ ((n : Int) < (n : Int)) := by omega
            clear hu hgi hi hlt HA7
            go_wp2
            go_loopg [23] m (fun gk x23 wr => ∃ i : Nat, i ≤ m ∧ m ≤ i + gk ∧ x23 = .int .i64 i ∧ Upd [] W7 wr)
            case atStart => exact ⟨0, Nat.zero_le _, by omega, rfl, HU8.out⟩
            case round =>
              obtain ⟨i, hi, hgi, rfl, hu⟩ := hrel
              clear HU8
              by_cases hlt : i < m
              · obtain ⟨d, hri⟩ : ∃ d, ds[i]? = some d := ⟨_, List.getElem?_eq_getElem (by rw [← HM.out]; exact hlt)⟩
                obtain ⟨b, off, hBe, -, hb2, hcc⟩ := HB7.out.2 (by rw [← HM.out]; omega)
                subst hBe
                have HBB := Lib.hid hb2
                have HCC := Lib.hid hcc
                have hmem := List.mem_of_getElem? hri
                obtain ⟨lst, hlst⟩ : ∃ l, l = downsM d.track ds := ⟨_, rfl⟩
                obtain ⟨L, hL⟩ : ∃ k, k = lst.length := ⟨_, rfl⟩
                have hLm : L ≤ m := by rw [hL, hlst, len_downsM, HM.out]; exact List.length_filter_le _ _
                have hdl : ds.length ≤ 1000 := by rw [← HM.out]; omega
                have HD1 := Lib.hid (downs_any (t := d.track) (HTA.out.upd hu) hdl)
                rw [← hlst, ← hL] at HD1
                have HD2 := Lib.hid (fun (W : World) (hW : Upd [] W7 W) => downs_any (t := d.track) (HTA.out.upd hW) hdl)
                simp only [← hlst, ← hL] at HD2
                have HD3 := Lib.hid (fun (W : World) (hW : Upd [] W7 W) => downs_any (t := d.track) (HTB.out.upd hW) (by rw [List.length_reverse]; exact hdl))
                simp only [downs_rev HMAY.out.2, ← hlst, ← hL] at HD3
                have HOW := Lib.hid (fun (W : World) (hW : Upd [] W7 W) => own_any (HTA.out.upd hW) (s := d.ssrc) (HD.out d hmem).ssrc)
                simp only [own_of HMAY.out.2 hmem, Option.getD_some, Option.isSome_some, encDn] at HOW
                have HLL := Lib.hid hL
                have HRI := Lib.hid hri
                have HU := Lib.hid hu
                have HGI := Lib.hid hgi
                have hlti : (i : Int) < (m : Int) := by omega
                have hwi : IntKind.i64.wrap ((i : Int) + 1) = (i : Int) + 1 := IntWalk.i64_in _ (by omega)
                have hee2 : ((L : Int) == (L : Int)) = true := by simp
                have hnn2 : ((L : Int) != (L : Int)) = false := by simp
                obtain ⟨wi, rfl⟩ : ∃ z : World, z = wr := ⟨wr, rfl⟩
                obtain ⟨g0, rfl⟩ : ∃ g : Nat, g = gk := ⟨gk, rfl⟩
                clear hu hgi hri hb2 hcc hmem hlst hL hdl
                have c0 : wi.cell? ⟨b, off + (i * 10 + 0), none⟩ = some (.int .u32 d.ssrc) := (HU.out.cell (p := ⟨b, off + (i * 10 + 0), none⟩) HBB.out (by simp)).trans (HCC.out (i * 10 + 0) _ (flat_get encDn_len ds i 0 d HRI.out (by omega)))
                have c1 : wi.cell? ⟨b, off + (i * 10 + 1), none⟩ = some (.int .i64 d.slot) := (HU.out.cell (p := ⟨b, off + (i * 10 + 1), none⟩) HBB.out (by simp)).trans (HCC.out (i * 10 + 1) _ (flat_get encDn_len ds i 1 d HRI.out (by omega)))
                have c2 : wi.cell? ⟨b, off + (i * 10 + 2), none⟩ = some (.int .u32 d.turn) := (HU.out.cell (p := ⟨b, off + (i * 10 + 2), none⟩) HBB.out (by simp)).trans (HCC.out (i * 10 + 2) _ (flat_get encDn_len ds i 2 d HRI.out (by omega)))
                have c3 : wi.cell? ⟨b, off + (i * 10 + 3), none⟩ = some (.int .i64 d.who) := (HU.out.cell (p := ⟨b, off + (i * 10 + 3), none⟩) HBB.out (by simp)).trans (HCC.out (i * 10 + 3) _ (flat_get encDn_len ds i 3 d HRI.out (by omega)))
                have c4 : wi.cell? ⟨b, off + (i * 10 + 4), none⟩ = some (.int .i64 d.track) := (HU.out.cell (p := ⟨b, off + (i * 10 + 4), none⟩) HBB.out (by simp)).trans (HCC.out (i * 10 + 4) _ (flat_get encDn_len ds i 4 d HRI.out (by omega)))
                have c5 : wi.cell? ⟨b, off + (i * 10 + 5), none⟩ = some (.int .i64 d.shard) := (HU.out.cell (p := ⟨b, off + (i * 10 + 5), none⟩) HBB.out (by simp)).trans (HCC.out (i * 10 + 5) _ (flat_get encDn_len ds i 5 d HRI.out (by omega)))
                have c6 : wi.cell? ⟨b, off + (i * 10 + 6), none⟩ = some (.int .i64 d.src) := (HU.out.cell (p := ⟨b, off + (i * 10 + 6), none⟩) HBB.out (by simp)).trans (HCC.out (i * 10 + 6) _ (flat_get encDn_len ds i 6 d HRI.out (by omega)))
                have c7 : wi.cell? ⟨b, off + (i * 10 + 7), none⟩ = some (.int .i64 d.layer) := (HU.out.cell (p := ⟨b, off + (i * 10 + 7), none⟩) HBB.out (by simp)).trans (HCC.out (i * 10 + 7) _ (flat_get encDn_len ds i 7 d HRI.out (by omega)))
                have c8 : wi.cell? ⟨b, off + (i * 10 + 8), none⟩ = some (.int .i64 d.tid) := (HU.out.cell (p := ⟨b, off + (i * 10 + 8), none⟩) HBB.out (by simp)).trans (HCC.out (i * 10 + 8) _ (flat_get encDn_len ds i 8 d HRI.out (by omega)))
                have c9 : wi.cell? ⟨b, off + (i * 10 + 9), none⟩ = some (.bool d.muted) := (HU.out.cell (p := ⟨b, off + (i * 10 + 9), none⟩) HBB.out (by simp)).trans (HCC.out (i * 10 + 9) _ (flat_get encDn_len ds i 9 d HRI.out (by omega)))
                simp only [← Nat.add_assoc, Nat.add_zero] at c0 c1 c2 c3 c4 c5 c6 c7 c8 c9
                go_wp2_with fail
                refine HD1.out.mono ?_
                rintro _ wl ⟨vl, rfl, hownl, hul⟩
                obtain ⟨Al, cl, hvl, -⟩ := own_form hownl
                subst hvl
                have HOL := Lib.hid hownl
                have HUL := Lib.hid hul
                clear hownl hul HD1 c0 c1 c2 c3 c4 c5 c6 c7 c8 c9
                go_wp2
                go_loopg [25] L (fun gq x25 wq => ∃ k : Nat, k ≤ L ∧ L ≤ k + gq ∧ x25 = .int .i64 k ∧ (∃ l : List Dn, l.length = L ∧ wq.ownsRow wi.heap.size 41 10 (.slice Al L cl) L (l.flatMap encDn)) ∧ Upd [] wi wq)
                case atStart => exact ⟨0, Nat.zero_le _, by omega, rfl, ⟨lst, HLL.out.symm, HOL.out⟩, HUL.out⟩
                case round =>
                  obtain ⟨k, hk, hgk, rfl, ⟨l, hl, hown⟩, huk⟩ := hrel
                  clear HOL HUL
                  by_cases hkl : k < L
                  · obtain ⟨x, hx⟩ : ∃ x, l[k]? = some x := ⟨_, List.getElem?_eq_getElem (by omega)⟩
                    have hlk : (k : Int) < (L : Int) := by omega
                    have hwk : IntKind.i64.wrap ((k : Int) + 1) = (k : Int) + 1 := IntWalk.i64_in _ (by omega)
                    obtain ⟨g, hAe, hgN, hgs⟩ := own_at hown (by omega)
                    subst hAe
                    obtain ⟨c1, f1, s1⟩ := row_put encDn_len hown hx 3 _ (by decide) rfl (.int .i64 99) { x with who := 99 } rfl
                    have S1 := Lib.hid s1
                    have S2 := Lib.hid (huk.setCell (p := ⟨g, k * 10 + 3, none⟩) (.inr hgN) (.int .i64 99))
                    have HGK := Lib.hid hgk
                    have HL := Lib.hid hl
                    clear s1 hgk hl huk hx hown
                    go_wp2
                    go_roundg (gk - 1)
                    case measure => have := HGK.out; omega
                    case rel => exact ⟨k + 1, by omega, by have := HGK.out; omega, by go_num, ⟨_, by rw [List.length_set]; exact HL.out, S1.out⟩, S2.out⟩
                  obtain rfl : L = k := by omega
                  have HUQ := Lib.hid (HU.out.next huk)
                  obtain ⟨wq, rfl⟩ : ∃ z : World, z = wr := ⟨wr, rfl⟩
                  clear huk hown hl hgk hk hkl HU
                  have c0 : wq.cell? ⟨b, off + (i * 10 + 0), none⟩ = some (.int .u32 d.ssrc) := (HUQ.out.cell (p := ⟨b, off + (i * 10 + 0), none⟩) HBB.out (by simp)).trans (HCC.out (i * 10 + 0) _ (flat_get encDn_len ds i 0 d HRI.out (by omega)))
                  have c1 : wq.cell? ⟨b, off + (i * 10 + 1), none⟩ = some (.int .i64 d.slot) := (HUQ.out.cell (p := ⟨b, off + (i * 10 + 1), none⟩) HBB.out (by simp)).trans (HCC.out (i * 10 + 1) _ (flat_get encDn_len ds i 1 d HRI.out (by omega)))
                  have c2 : wq.cell? ⟨b, off + (i * 10 + 2), none⟩ = some (.int .u32 d.turn) := (HUQ.out.cell (p := ⟨b, off + (i * 10 + 2), none⟩) HBB.out (by simp)).trans (HCC.out (i * 10 + 2) _ (flat_get encDn_len ds i 2 d HRI.out (by omega)))
                  have c3 : wq.cell? ⟨b, off + (i * 10 + 3), none⟩ = some (.int .i64 d.who) := (HUQ.out.cell (p := ⟨b, off + (i * 10 + 3), none⟩) HBB.out (by simp)).trans (HCC.out (i * 10 + 3) _ (flat_get encDn_len ds i 3 d HRI.out (by omega)))
                  have c4 : wq.cell? ⟨b, off + (i * 10 + 4), none⟩ = some (.int .i64 d.track) := (HUQ.out.cell (p := ⟨b, off + (i * 10 + 4), none⟩) HBB.out (by simp)).trans (HCC.out (i * 10 + 4) _ (flat_get encDn_len ds i 4 d HRI.out (by omega)))
                  have c5 : wq.cell? ⟨b, off + (i * 10 + 5), none⟩ = some (.int .i64 d.shard) := (HUQ.out.cell (p := ⟨b, off + (i * 10 + 5), none⟩) HBB.out (by simp)).trans (HCC.out (i * 10 + 5) _ (flat_get encDn_len ds i 5 d HRI.out (by omega)))
                  have c6 : wq.cell? ⟨b, off + (i * 10 + 6), none⟩ = some (.int .i64 d.src) := (HUQ.out.cell (p := ⟨b, off + (i * 10 + 6), none⟩) HBB.out (by simp)).trans (HCC.out (i * 10 + 6) _ (flat_get encDn_len ds i 6 d HRI.out (by omega)))
                  have c7 : wq.cell? ⟨b, off + (i * 10 + 7), none⟩ = some (.int .i64 d.layer) := (HUQ.out.cell (p := ⟨b, off + (i * 10 + 7), none⟩) HBB.out (by simp)).trans (HCC.out (i * 10 + 7) _ (flat_get encDn_len ds i 7 d HRI.out (by omega)))
                  have c8 : wq.cell? ⟨b, off + (i * 10 + 8), none⟩ = some (.int .i64 d.tid) := (HUQ.out.cell (p := ⟨b, off + (i * 10 + 8), none⟩) HBB.out (by simp)).trans (HCC.out (i * 10 + 8) _ (flat_get encDn_len ds i 8 d HRI.out (by omega)))
                  have c9 : wq.cell? ⟨b, off + (i * 10 + 9), none⟩ = some (.bool d.muted) := (HUQ.out.cell (p := ⟨b, off + (i * 10 + 9), none⟩) HBB.out (by simp)).trans (HCC.out (i * 10 + 9) _ (flat_get encDn_len ds i 9 d HRI.out (by omega)))
                  simp only [← Nat.add_assoc, Nat.add_zero] at c0 c1 c2 c3 c4 c5 c6 c7 c8 c9
                  go_wp2_with fail
                  refine (HD2.out _ HUQ.out).mono ?_
                  rintro _ wm ⟨vm, rfl, hownm, hum⟩
                  obtain ⟨Am, cm, hvm, -⟩ := own_form hownm
                  subst hvm
                  have HOM := Lib.hid hownm
                  have HUM := Lib.hid (HUQ.out.next hum)
                  clear hownm hum HD2 HUQ c0 c1 c2 c3 c4 c5 c6 c7 c8 c9
                  have c0 : wm.cell? ⟨b, off + (i * 10 + 0), none⟩ = some (.int .u32 d.ssrc) := (HUM.out.cell (p := ⟨b, off + (i * 10 + 0), none⟩) HBB.out (by simp)).trans (HCC.out (i * 10 + 0) _ (flat_get encDn_len ds i 0 d HRI.out (by omega)))
                  have c1 : wm.cell? ⟨b, off + (i * 10 + 1), none⟩ = some (.int .i64 d.slot) := (HUM.out.cell (p := ⟨b, off + (i * 10 + 1), none⟩) HBB.out (by simp)).trans (HCC.out (i * 10 + 1) _ (flat_get encDn_len ds i 1 d HRI.out (by omega)))
                  have c2 : wm.cell? ⟨b, off + (i * 10 + 2), none⟩ = some (.int .u32 d.turn) := (HUM.out.cell (p := ⟨b, off + (i * 10 + 2), none⟩) HBB.out (by simp)).trans (HCC.out (i * 10 + 2) _ (flat_get encDn_len ds i 2 d HRI.out (by omega)))
                  have c3 : wm.cell? ⟨b, off + (i * 10 + 3), none⟩ = some (.int .i64 d.who) := (HUM.out.cell (p := ⟨b, off + (i * 10 + 3), none⟩) HBB.out (by simp)).trans (HCC.out (i * 10 + 3) _ (flat_get encDn_len ds i 3 d HRI.out (by omega)))
                  have c4 : wm.cell? ⟨b, off + (i * 10 + 4), none⟩ = some (.int .i64 d.track) := (HUM.out.cell (p := ⟨b, off + (i * 10 + 4), none⟩) HBB.out (by simp)).trans (HCC.out (i * 10 + 4) _ (flat_get encDn_len ds i 4 d HRI.out (by omega)))
                  have c5 : wm.cell? ⟨b, off + (i * 10 + 5), none⟩ = some (.int .i64 d.shard) := (HUM.out.cell (p := ⟨b, off + (i * 10 + 5), none⟩) HBB.out (by simp)).trans (HCC.out (i * 10 + 5) _ (flat_get encDn_len ds i 5 d HRI.out (by omega)))
                  have c6 : wm.cell? ⟨b, off + (i * 10 + 6), none⟩ = some (.int .i64 d.src) := (HUM.out.cell (p := ⟨b, off + (i * 10 + 6), none⟩) HBB.out (by simp)).trans (HCC.out (i * 10 + 6) _ (flat_get encDn_len ds i 6 d HRI.out (by omega)))
                  have c7 : wm.cell? ⟨b, off + (i * 10 + 7), none⟩ = some (.int .i64 d.layer) := (HUM.out.cell (p := ⟨b, off + (i * 10 + 7), none⟩) HBB.out (by simp)).trans (HCC.out (i * 10 + 7) _ (flat_get encDn_len ds i 7 d HRI.out (by omega)))
                  have c8 : wm.cell? ⟨b, off + (i * 10 + 8), none⟩ = some (.int .i64 d.tid) := (HUM.out.cell (p := ⟨b, off + (i * 10 + 8), none⟩) HBB.out (by simp)).trans (HCC.out (i * 10 + 8) _ (flat_get encDn_len ds i 8 d HRI.out (by omega)))
                  have c9 : wm.cell? ⟨b, off + (i * 10 + 9), none⟩ = some (.bool d.muted) := (HUM.out.cell (p := ⟨b, off + (i * 10 + 9), none⟩) HBB.out (by simp)).trans (HCC.out (i * 10 + 9) _ (flat_get encDn_len ds i 9 d HRI.out (by omega)))
                  simp only [← Nat.add_assoc, Nat.add_zero] at c0 c1 c2 c3 c4 c5 c6 c7 c8 c9
                  go_wp2_with fail
                  refine (HD3.out _ HUM.out).mono ?_
                  rintro _ wn ⟨vn, rfl, hownn, hun⟩
                  obtain ⟨An, cn, hvn, -⟩ := own_form hownn
                  subst hvn
                  have HON := Lib.hid hownn
                  have HOM2 := Lib.hid (ownsRow_upd HOM.out hun (by simp))
                  have HUN := Lib.hid (HUM.out.next hun)
                  clear hownn hun HD3 HUM HOM c0 c1 c2 c3 c4 c5 c6 c7 c8 c9
                  have c0 : wn.cell? ⟨b, off + (i * 10 + 0), none⟩ = some (.int .u32 d.ssrc) := (HUN.out.cell (p := ⟨b, off + (i * 10 + 0), none⟩) HBB.out (by simp)).trans (HCC.out (i * 10 + 0) _ (flat_get encDn_len ds i 0 d HRI.out (by omega)))
                  have c1 : wn.cell? ⟨b, off + (i * 10 + 1), none⟩ = some (.int .i64 d.slot) := (HUN.out.cell (p := ⟨b, off + (i * 10 + 1), none⟩) HBB.out (by simp)).trans (HCC.out (i * 10 + 1) _ (flat_get encDn_len ds i 1 d HRI.out (by omega)))
                  have c2 : wn.cell? ⟨b, off + (i * 10 + 2), none⟩ = some (.int .u32 d.turn) := (HUN.out.cell (p := ⟨b, off + (i * 10 + 2), none⟩) HBB.out (by simp)).trans (HCC.out (i * 10 + 2) _ (flat_get encDn_len ds i 2 d HRI.out (by omega)))
                  have c3 : wn.cell? ⟨b, off + (i * 10 + 3), none⟩ = some (.int .i64 d.who) := (HUN.out.cell (p := ⟨b, off + (i * 10 + 3), none⟩) HBB.out (by simp)).trans (HCC.out (i * 10 + 3) _ (flat_get encDn_len ds i 3 d HRI.out (by omega)))
                  have c4 : wn.cell? ⟨b, off + (i * 10 + 4), none⟩ = some (.int .i64 d.track) := (HUN.out.cell (p := ⟨b, off + (i * 10 + 4), none⟩) HBB.out (by simp)).trans (HCC.out (i * 10 + 4) _ (flat_get encDn_len ds i 4 d HRI.out (by omega)))
                  have c5 : wn.cell? ⟨b, off + (i * 10 + 5), none⟩ = some (.int .i64 d.shard) := (HUN.out.cell (p := ⟨b, off + (i * 10 + 5), none⟩) HBB.out (by simp)).trans (HCC.out (i * 10 + 5) _ (flat_get encDn_len ds i 5 d HRI.out (by omega)))
                  have c6 : wn.cell? ⟨b, off + (i * 10 + 6), none⟩ = some (.int .i64 d.src) := (HUN.out.cell (p := ⟨b, off + (i * 10 + 6), none⟩) HBB.out (by simp)).trans (HCC.out (i * 10 + 6) _ (flat_get encDn_len ds i 6 d HRI.out (by omega)))
                  have c7 : wn.cell? ⟨b, off + (i * 10 + 7), none⟩ = some (.int .i64 d.layer) := (HUN.out.cell (p := ⟨b, off + (i * 10 + 7), none⟩) HBB.out (by simp)).trans (HCC.out (i * 10 + 7) _ (flat_get encDn_len ds i 7 d HRI.out (by omega)))
                  have c8 : wn.cell? ⟨b, off + (i * 10 + 8), none⟩ = some (.int .i64 d.tid) := (HUN.out.cell (p := ⟨b, off + (i * 10 + 8), none⟩) HBB.out (by simp)).trans (HCC.out (i * 10 + 8) _ (flat_get encDn_len ds i 8 d HRI.out (by omega)))
                  have c9 : wn.cell? ⟨b, off + (i * 10 + 9), none⟩ = some (.bool d.muted) := (HUN.out.cell (p := ⟨b, off + (i * 10 + 9), none⟩) HBB.out (by simp)).trans (HCC.out (i * 10 + 9) _ (flat_get encDn_len ds i 9 d HRI.out (by omega)))
                  simp only [← Nat.add_assoc, Nat.add_zero] at c0 c1 c2 c3 c4 c5 c6 c7 c8 c9
                  go_wp2_with fail
                  refine (HOW.out _ HUN.out).mono ?_
                  rintro _ wo ⟨rfl, huo⟩
                  obtain ⟨bp, hbp⟩ : ∃ b, b = wo.heap.size := ⟨_, rfl⟩
                  obtain ⟨wp, hwp⟩ : ∃ z, z = wo.alloc (.cells #[.int .u32 d.ssrc, .int .i64 d.slot, .int .u32 d.turn, .int .i64 d.who, .int .i64 d.track, .int .i64 d.shard, .int .i64 d.src, .int .i64 d.layer, .int .i64 d.tid, .bool d.muted] 41) := ⟨_, rfl⟩
                  have hup : Upd [] wn wp := huo.next (by rw [hwp]; exact (Upd.refl [] wo).alloc _)
                  have HBP : Hid (Blk wp bp 41 #[.int .u32 d.ssrc, .int .i64 d.slot, .int .u32 d.turn, .int .i64 d.who, .int .i64 d.track, .int .i64 d.shard, .int .i64 d.src, .int .i64 d.layer, .int .i64 d.tid, .bool d.muted]) := Lib.hid (by rw [hwp, hbp]; exact Blk.new _ _ _)
                  have HX := Lib.hid (CellsIn.of_row (ownsRow_upd HOM2.out hup (by simp)))
                  have HY := Lib.hid (CellsIn.of_row (ownsRow_upd HON.out hup (by simp)))
                  have HUP := Lib.hid (HUN.out.next hup)
                  clear huo hup HOW HUN HOM2 HON c0 c1 c2 c3 c4 c5 c6 c7 c8 c9
                  go_upto_region 52 with fail
                  rw [← hwp, ← hbp]
                  clear hwp hbp
                  have c0 : wp.cell? ⟨b, off + (i * 10 + 0), none⟩ = some (.int .u32 d.ssrc) := (HUP.out.cell (p := ⟨b, off + (i * 10 + 0), none⟩) HBB.out (by simp)).trans (HCC.out (i * 10 + 0) _ (flat_get encDn_len ds i 0 d HRI.out (by omega)))
                  have c1 : wp.cell? ⟨b, off + (i * 10 + 1), none⟩ = some (.int .i64 d.slot) := (HUP.out.cell (p := ⟨b, off + (i * 10 + 1), none⟩) HBB.out (by simp)).trans (HCC.out (i * 10 + 1) _ (flat_get encDn_len ds i 1 d HRI.out (by omega)))
                  have c2 : wp.cell? ⟨b, off + (i * 10 + 2), none⟩ = some (.int .u32 d.turn) := (HUP.out.cell (p := ⟨b, off + (i * 10 + 2), none⟩) HBB.out (by simp)).trans (HCC.out (i * 10 + 2) _ (flat_get encDn_len ds i 2 d HRI.out (by omega)))
                  have c3 : wp.cell? ⟨b, off + (i * 10 + 3), none⟩ = some (.int .i64 d.who) := (HUP.out.cell (p := ⟨b, off + (i * 10 + 3), none⟩) HBB.out (by simp)).trans (HCC.out (i * 10 + 3) _ (flat_get encDn_len ds i 3 d HRI.out (by omega)))
                  have c4 : wp.cell? ⟨b, off + (i * 10 + 4), none⟩ = some (.int .i64 d.track) := (HUP.out.cell (p := ⟨b, off + (i * 10 + 4), none⟩) HBB.out (by simp)).trans (HCC.out (i * 10 + 4) _ (flat_get encDn_len ds i 4 d HRI.out (by omega)))
                  have c5 : wp.cell? ⟨b, off + (i * 10 + 5), none⟩ = some (.int .i64 d.shard) := (HUP.out.cell (p := ⟨b, off + (i * 10 + 5), none⟩) HBB.out (by simp)).trans (HCC.out (i * 10 + 5) _ (flat_get encDn_len ds i 5 d HRI.out (by omega)))
                  have c6 : wp.cell? ⟨b, off + (i * 10 + 6), none⟩ = some (.int .i64 d.src) := (HUP.out.cell (p := ⟨b, off + (i * 10 + 6), none⟩) HBB.out (by simp)).trans (HCC.out (i * 10 + 6) _ (flat_get encDn_len ds i 6 d HRI.out (by omega)))
                  have c7 : wp.cell? ⟨b, off + (i * 10 + 7), none⟩ = some (.int .i64 d.layer) := (HUP.out.cell (p := ⟨b, off + (i * 10 + 7), none⟩) HBB.out (by simp)).trans (HCC.out (i * 10 + 7) _ (flat_get encDn_len ds i 7 d HRI.out (by omega)))
                  have c8 : wp.cell? ⟨b, off + (i * 10 + 8), none⟩ = some (.int .i64 d.tid) := (HUP.out.cell (p := ⟨b, off + (i * 10 + 8), none⟩) HBB.out (by simp)).trans (HCC.out (i * 10 + 8) _ (flat_get encDn_len ds i 8 d HRI.out (by omega)))
                  have c9 : wp.cell? ⟨b, off + (i * 10 + 9), none⟩ = some (.bool d.muted) := (HUP.out.cell (p := ⟨b, off + (i * 10 + 9), none⟩) HBB.out (by simp)).trans (HCC.out (i * 10 + 9) _ (flat_get encDn_len ds i 9 d HRI.out (by omega)))
                  simp only [← Nat.add_assoc, Nat.add_zero] at c0 c1 c2 c3 c4 c5 c6 c7 c8 c9
                  have e0 : wp.cell? ⟨bp, 0, none⟩ = some (.int .u32 d.ssrc) := HBP.out.cell 0
                  have e1 : wp.cell? ⟨bp, 1, none⟩ = some (.int .i64 d.slot) := HBP.out.cell 1
                  have e2 : wp.cell? ⟨bp, 2, none⟩ = some (.int .u32 d.turn) := HBP.out.cell 2
                  have e3 : wp.cell? ⟨bp, 3, none⟩ = some (.int .i64 d.who) := HBP.out.cell 3
                  have e4 : wp.cell? ⟨bp, 4, none⟩ = some (.int .i64 d.track) := HBP.out.cell 4
                  have e5 : wp.cell? ⟨bp, 5, none⟩ = some (.int .i64 d.shard) := HBP.out.cell 5
                  have e6 : wp.cell? ⟨bp, 6, none⟩ = some (.int .i64 d.src) := HBP.out.cell 6
                  have e7 : wp.cell? ⟨bp, 7, none⟩ = some (.int .i64 d.layer) := HBP.out.cell 7
                  have e8 : wp.cell? ⟨bp, 8, none⟩ = some (.int .i64 d.tid) := HBP.out.cell 8
                  have e9 : wp.cell? ⟨bp, 9, none⟩ = some (.bool d.muted) := HBP.out.cell 9
                  refine wp_quiet_tail 23 (by kernel_rfl) (by kernel_rfl) (fun _ _ _ _ h => h) ?_
                  simp only [List.take_succ_cons, List.take_zero, List.drop_succ_cons, List.drop_zero]
                  repeat (go_big_quiet_step (fail))
                  refine wpQuiet_nil ?_
                  rintro _ ⟨nq, rfl⟩
                  clear HBP c0 c1 c2 c3 c4 c5 c6 c7 c8 c9 e0 e1 e2 e3 e4 e5 e6 e7 e8 e9
                  go_wp2
                  go_loopg [30] L (fun gq x30 wq => ∃ k : Nat, k ≤ L ∧ L ≤ k + gq ∧ x30 = .int .i64 k ∧ Upd [] wp wq)
                  case atStart => exact ⟨0, Nat.zero_le _, by omega, rfl, (Upd.refl [] wp).drewN nq⟩
                  case round =>
                    obtain ⟨k, hk, hgk, rfl, huk⟩ := hrel
                    by_cases hkl : k < L
                    · obtain ⟨d, hri⟩ : ∃ d, lst[k]? = some d := ⟨_, List.getElem?_eq_getElem (by rw [← HLL.out]; exact hkl)⟩
                      obtain ⟨b1, o1, he1, -, hb1, hcc1⟩ := HX.out.2 (by omega)
                      obtain ⟨b2, o2, he2, -, hb2, hcc2⟩ := HY.out.2 (by omega)
                      subst he1
                      subst he2
                      have c0 : wr.cell? ⟨b1, o1 + (k * 10 + 0), none⟩ = some (.int .u32 d.ssrc) := (huk.cell (p := ⟨b1, o1 + (k * 10 + 0), none⟩) hb1 (by simp)).trans (hcc1 (k * 10 + 0) _ (flat_get encDn_len lst k 0 d hri (by omega)))
                      have c1 : wr.cell? ⟨b1, o1 + (k * 10 + 1), none⟩ = some (.int .i64 d.slot) := (huk.cell (p := ⟨b1, o1 + (k * 10 + 1), none⟩) hb1 (by simp)).trans (hcc1 (k * 10 + 1) _ (flat_get encDn_len lst k 1 d hri (by omega)))
                      have c2 : wr.cell? ⟨b1, o1 + (k * 10 + 2), none⟩ = some (.int .u32 d.turn) := (huk.cell (p := ⟨b1, o1 + (k * 10 + 2), none⟩) hb1 (by simp)).trans (hcc1 (k * 10 + 2) _ (flat_get encDn_len lst k 2 d hri (by omega)))
                      have c3 : wr.cell? ⟨b1, o1 + (k * 10 + 3), none⟩ = some (.int .i64 d.who) := (huk.cell (p := ⟨b1, o1 + (k * 10 + 3), none⟩) hb1 (by simp)).trans (hcc1 (k * 10 + 3) _ (flat_get encDn_len lst k 3 d hri (by omega)))
                      have c4 : wr.cell? ⟨b1, o1 + (k * 10 + 4), none⟩ = some (.int .i64 d.track) := (huk.cell (p := ⟨b1, o1 + (k * 10 + 4), none⟩) hb1 (by simp)).trans (hcc1 (k * 10 + 4) _ (flat_get encDn_len lst k 4 d hri (by omega)))
                      have c5 : wr.cell? ⟨b1, o1 + (k * 10 + 5), none⟩ = some (.int .i64 d.shard) := (huk.cell (p := ⟨b1, o1 + (k * 10 + 5), none⟩) hb1 (by simp)).trans (hcc1 (k * 10 + 5) _ (flat_get encDn_len lst k 5 d hri (by omega)))
                      have c6 : wr.cell? ⟨b1, o1 + (k * 10 + 6), none⟩ = some (.int .i64 d.src) := (huk.cell (p := ⟨b1, o1 + (k * 10 + 6), none⟩) hb1 (by simp)).trans (hcc1 (k * 10 + 6) _ (flat_get encDn_len lst k 6 d hri (by omega)))
                      have c7 : wr.cell? ⟨b1, o1 + (k * 10 + 7), none⟩ = some (.int .i64 d.layer) := (huk.cell (p := ⟨b1, o1 + (k * 10 + 7), none⟩) hb1 (by simp)).trans (hcc1 (k * 10 + 7) _ (flat_get encDn_len lst k 7 d hri (by omega)))
                      have c8 : wr.cell? ⟨b1, o1 + (k * 10 + 8), none⟩ = some (.int .i64 d.tid) := (huk.cell (p := ⟨b1, o1 + (k * 10 + 8), none⟩) hb1 (by simp)).trans (hcc1 (k * 10 + 8) _ (flat_get encDn_len lst k 8 d hri (by omega)))
                      have c9 : wr.cell? ⟨b1, o1 + (k * 10 + 9), none⟩ = some (.bool d.muted) := (huk.cell (p := ⟨b1, o1 + (k * 10 + 9), none⟩) hb1 (by simp)).trans (hcc1 (k * 10 + 9) _ (flat_get encDn_len lst k 9 d hri (by omega)))
                      simp only [← Nat.add_assoc, Nat.add_zero] at c0 c1 c2 c3 c4 c5 c6 c7 c8 c9
                      have e0 : wr.cell? ⟨b2, o2 + (k * 10 + 0), none⟩ = some (.int .u32 d.ssrc) := (huk.cell (p := ⟨b2, o2 + (k * 10 + 0), none⟩) hb2 (by simp)).trans (hcc2 (k * 10 + 0) _ (flat_get encDn_len lst k 0 d hri (by omega)))
                      have e1 : wr.cell? ⟨b2, o2 + (k * 10 + 1), none⟩ = some (.int .i64 d.slot) := (huk.cell (p := ⟨b2, o2 + (k * 10 + 1), none⟩) hb2 (by simp)).trans (hcc2 (k * 10 + 1) _ (flat_get encDn_len lst k 1 d hri (by omega)))
                      have e2 : wr.cell? ⟨b2, o2 + (k * 10 + 2), none⟩ = some (.int .u32 d.turn) := (huk.cell (p := ⟨b2, o2 + (k * 10 + 2), none⟩) hb2 (by simp)).trans (hcc2 (k * 10 + 2) _ (flat_get encDn_len lst k 2 d hri (by omega)))
                      have e3 : wr.cell? ⟨b2, o2 + (k * 10 + 3), none⟩ = some (.int .i64 d.who) := (huk.cell (p := ⟨b2, o2 + (k * 10 + 3), none⟩) hb2 (by simp)).trans (hcc2 (k * 10 + 3) _ (flat_get encDn_len lst k 3 d hri (by omega)))
                      have e4 : wr.cell? ⟨b2, o2 + (k * 10 + 4), none⟩ = some (.int .i64 d.track) := (huk.cell (p := ⟨b2, o2 + (k * 10 + 4), none⟩) hb2 (by simp)).trans (hcc2 (k * 10 + 4) _ (flat_get encDn_len lst k 4 d hri (by omega)))
                      have e5 : wr.cell? ⟨b2, o2 + (k * 10 + 5), none⟩ = some (.int .i64 d.shard) := (huk.cell (p := ⟨b2, o2 + (k * 10 + 5), none⟩) hb2 (by simp)).trans (hcc2 (k * 10 + 5) _ (flat_get encDn_len lst k 5 d hri (by omega)))
                      have e6 : wr.cell? ⟨b2, o2 + (k * 10 + 6), none⟩ = some (.int .i64 d.src) := (huk.cell (p := ⟨b2, o2 + (k * 10 + 6), none⟩) hb2 (by simp)).trans (hcc2 (k * 10 + 6) _ (flat_get encDn_len lst k 6 d hri (by omega)))
                      have e7 : wr.cell? ⟨b2, o2 + (k * 10 + 7), none⟩ = some (.int .i64 d.layer) := (huk.cell (p := ⟨b2, o2 + (k * 10 + 7), none⟩) hb2 (by simp)).trans (hcc2 (k * 10 + 7) _ (flat_get encDn_len lst k 7 d hri (by omega)))
                      have e8 : wr.cell? ⟨b2, o2 + (k * 10 + 8), none⟩ = some (.int .i64 d.tid) := (huk.cell (p := ⟨b2, o2 + (k * 10 + 8), none⟩) hb2 (by simp)).trans (hcc2 (k * 10 + 8) _ (flat_get encDn_len lst k 8 d hri (by omega)))
                      have e9 : wr.cell? ⟨b2, o2 + (k * 10 + 9), none⟩ = some (.bool d.muted) := (huk.cell (p := ⟨b2, o2 + (k * 10 + 9), none⟩) hb2 (by simp)).trans (hcc2 (k * 10 + 9) _ (flat_get encDn_len lst k 9 d hri (by omega)))
                      simp only [← Nat.add_assoc, Nat.add_zero] at e0 e1 e2 e3 e4 e5 e6 e7 e8 e9
                      have hlk : (k : Int) < (L : Int) := by omega
                      have hwk : IntKind.i64.wrap ((k : Int) + 1) = (k : Int) + 1 := IntWalk.i64_in _ (by omega)
                      have HUK := Lib.hid huk
                      have HGK := Lib.hid hgk
                      clear huk hri hcc1 hcc2 hb1 hb2 hgk
                      go_upto_region 57 with fail
                      refine wp_quiet_tail 8 (by kernel_rfl) (by kernel_rfl) (fun _ _ _ _ h => h) ?_
                      simp only [List.take_succ_cons, List.take_zero, List.drop_succ_cons, List.drop_zero]
                      repeat (go_big_quiet_step (fail))
                      refine wpQuiet_nil ?_
                      rintro _ ⟨nq2, rfl⟩
                      clear c0 c1 c2 c3 c4 c5 c6 c7 c8 c9 e0 e1 e2 e3 e4 e5 e6 e7 e8 e9
                      go_wp2
                      go_roundg (gk - 1)
                      case measure => have := HGK.out; omega
                      case rel => exact ⟨k + 1, by omega, by have := HGK.out; omega, by go_num, HUK.out.drewN nq2⟩
                    have HUZ := Lib.hid (HUP.out.next huk)
                    have hnk : ¬ ((k : Int) < (L : Int)) := by omega
                    clear huk hgk HX HY
                    go_wp2
                    go_roundg (g0 - 1)
                    case measure => have := HGI.out; omega
                    case rel => exact ⟨i + 1, by omega, by have := HGI.out; omega, by go_num, HUZ.out⟩
              have HUZ := Lib.hid (HU7.out.next hu)
              have hni : ¬ ((i : Int) < (m : Int)) := by omega
              clear hu hgi
              go_wp2
              exact bodyPost_res (v := .bool true) (by simp [results, Try.results4, go_sem]) rfl ⟨rfl, HUZ.out.below (Nat.le_refl _) (by simp)⟩
end Go.Proofs.Yteljkdihlklliaa
/- Arguments opened to cells: integers, slices of elements of so many one-cell parts. Plain laws on readings. -/
namespace Go.Proofs.Yteljkdihlklliaa
open Go Go.RowKit Go.ChangeShapes Go.WideShapes Go.Deep

theorem flat_one {α β : Type} (f : α → β) (l : List α) : l.flatMap (fun a => [f a]) = l.map f := by
  induction l with
  | nil => rfl
  | cons a l ih => rw [List.flatMap_cons, ih]; rfl

theorem cell_lt {w : World} {a : Addr} {v : Value} (h : w.cell? a = some v) : a.block < w.heap.size := by
  rcases Nat.lt_or_ge a.block w.heap.size with h1 | h1
  · exact h1
  · exfalso
    have h2 : w.heap[a.block]? = none := Array.getElem?_eq_none h1
    have h3 := World.cell?_of_block (w := w) (w' := { w with heap := #[] }) (a := a) (by rw [h2]; rfl)
    rw [h] at h3
    have h4 : (({ w with heap := #[] } : World).cell? a) = none := by simp [World.cell?]
    rw [h4] at h3
    cases h3

section
variable {H : Type} {enc : TypeId × Value → H} {P : Program} {w : World} {base : Nat} {spare : Nat → Bool} {held : Bool}

/-- A slice, element by element: whatever of an element's cells the reading tells. -/
theorem rd_slice {α : Type} {t e : TypeId} {size fuel : Nat} {cs : List Value} {x : DataW H × List MemPlace} (R : List Value → α → Prop) (ht : P.underlying t = some (.slice e)) (hC : P.cellsOf e = size) (h0 : 0 < size)
    (hR : ∀ n cs' y, cs'.length = size → DataW.trod enc P w base spare held n e cs' = some y → ∃ z, R cs' z) (hf : DataW.trod enc P w base spare held fuel t cs = some x) :
    ∃ (A : Option Addr) (len cap : Nat) (l : List α), cs = [.slice A len cap] ∧ len ≤ cap ∧ cap ≤ maxLen ∧ l.length = len ∧
      (0 < len → ∃ b off, A = some ⟨b, off, none⟩ ∧ b < w.heap.size ∧ ∀ (i : Nat) (z : α), l[i]? = some z → ∃ ci, R ci z ∧ ci.length = size ∧ ∀ j, j < size → w.cell? ⟨b, off + i * size + j, none⟩ = ci[j]?) := by
  rcases open_slice ht hf with ⟨hcs, _⟩ | ⟨a, len, cap, m, n, D, Pl, hcs, hb, hl, hm, hmm, hx, hi⟩
  · exact ⟨none, 0, 0, [], hcs, Nat.le_refl _, Nat.zero_le _, rfl, fun h => absurd h (Nat.lt_irrefl 0)⟩
  · have hlm : len ≤ m := by rw [hmm]; split <;> omega
    have each : ∀ i, i < len → ∃ z ci, R ci z ∧ ci.length = size ∧ ∀ j, j < size → w.cell? ((a.add (i * size)).add j) = ci[j]? := by
      intro i hil
      obtain ⟨cs', hc, ht'⟩ := hi i (by omega)
      rw [hC] at hc
      obtain ⟨_, hcl, hat⟩ := World.cells?_some hc
      obtain ⟨z, hz⟩ := hR n cs' _ hcl ht'
      exact ⟨z, cs', hz, hcl, hat⟩
    have list : ∀ k, k ≤ len → ∃ l : List α, l.length = k ∧ ∀ (i : Nat) (z : α), l[i]? = some z → ∃ ci, R ci z ∧ ci.length = size ∧ ∀ j, j < size → w.cell? ((a.add (i * size)).add j) = ci[j]? := by
      intro k
      induction k with
      | zero => intro _; exact ⟨[], rfl, fun i z h => by simp at h⟩
      | succ k ih =>
        intro hk
        obtain ⟨l, hll, hla⟩ := ih (by omega)
        obtain ⟨z, hz⟩ := each k (by omega)
        refine ⟨l ++ [z], by simp [hll], fun i y hy => ?_⟩
        rcases Nat.lt_or_ge i l.length with h1 | h1
        · rw [List.getElem?_append_left h1] at hy
          exact hla i y hy
        · rw [List.getElem?_append_right h1] at hy
          have h2 : i - l.length = 0 := by
            rcases Nat.eq_zero_or_pos (i - l.length) with h | h
            · exact h
            · rw [List.getElem?_eq_none (by simp; omega)] at hy; cases hy
          rw [h2] at hy
          obtain rfl : z = y := by simpa using hy
          obtain rfl : i = k := by omega
          exact hz
    obtain ⟨l, hll, hla⟩ := list len (Nat.le_refl _)
    refine ⟨some a, len, cap, l, hcs, hl, hm, hll, fun hpos => ?_⟩
    have hl0 : 0 < l.length := by omega
    obtain ⟨c0, _, hcl, h00⟩ := hla 0 l[0] (List.getElem?_eq_getElem hl0)
    have hcell := h00 0 h0
    rw [List.getElem?_eq_getElem (by omega)] at hcell
    have hadd : (a.add (0 * size)).add 0 = a := by simp [Addr.add]
    rw [hadd] at hcell
    have hspot := World.cell?_spot hcell
    obtain ⟨b, off, spot⟩ := a
    dsimp only at hspot
    subst hspot
    refine ⟨b, off, rfl, cell_lt hcell, fun i z hz => ?_⟩
    obtain ⟨ci, hr, hc1, hc2⟩ := hla i z hz
    refine ⟨ci, hr, hc1, fun j hj => ?_⟩
    have := hc2 j hj
    rw [← this]
    unfold Addr.add
    by_cases e1 : i * size = 0 <;> by_cases e2 : j = 0 <;> simp [e1, e2, Nat.add_assoc]

/-- .. where the cells are a function of what they read as. -/
theorem rd_cells {α : Type} {t e : TypeId} {size fuel : Nat} {cs : List Value} {x : DataW H × List MemPlace} (f : α → List Value) (ht : P.underlying t = some (.slice e)) (hC : P.cellsOf e = size) (h0 : 0 < size)
    (hR : ∀ n cs' y, cs'.length = size → DataW.trod enc P w base spare held n e cs' = some y → ∃ z, cs' = f z) (hlen : ∀ z, (f z).length = size) (hf : DataW.trod enc P w base spare held fuel t cs = some x) :
    ∃ (A : Option Addr) (len cap : Nat) (l : List α), cs = [.slice A len cap] ∧ len ≤ cap ∧ cap ≤ maxLen ∧ l.length = len ∧ Cells w w.heap.size size A len (l.flatMap f) := by
  obtain ⟨A, len, cap, l, h1, h2, h3, h4, h5⟩ := rd_slice (fun c z => c = f z) ht hC h0 hR hf
  have hfl : ∀ l : List α, (l.flatMap f).length = l.length * size := by
    intro l
    induction l with
    | nil => simp
    | cons a l ih => rw [List.flatMap_cons, List.length_append, ih, hlen, List.length_cons, Nat.succ_mul, Nat.add_comm]
  have hget : ∀ (l : List α) (i j : Nat) (z : α), l[i]? = some z → j < size → (l.flatMap f)[i * size + j]? = (f z)[j]? := by
    intro l
    induction l with
    | nil => intro i j z h; simp at h
    | cons a l ih =>
      intro i j z h hj
      rw [List.flatMap_cons]
      cases i with
      | zero =>
        obtain rfl : a = z := by simpa using h
        rw [Nat.zero_mul, Nat.zero_add, List.getElem?_append_left (by rw [hlen]; exact hj)]
      | succ i =>
        rw [List.getElem?_append_right (by rw [hlen, Nat.succ_mul]; omega), hlen, Nat.succ_mul, show i * size + size + j - size = i * size + j by omega]
        exact ih i j z (by simpa using h) hj
  refine ⟨A, len, cap, l, h1, h2, h3, h4, by rw [hfl, h4], fun hpos => ?_⟩
  obtain ⟨b, off, hA, hb, hc⟩ := h5 hpos
  refine ⟨b, off, hA, hb, fun j u hu => ?_⟩
  have hjl : j < l.length * size := by
    rcases Nat.lt_or_ge j (l.length * size) with h | h
    · exact h
    · rw [List.getElem?_eq_none (by rw [hfl]; exact h)] at hu; cases hu
  have hdiv : j / size < l.length := Nat.div_lt_of_lt_mul (by rw [Nat.mul_comm]; exact hjl)
  have hmod : j % size < size := Nat.mod_lt _ h0
  have hj : j = j / size * size + j % size := by rw [Nat.mul_comm]; exact (Nat.div_add_mod j size).symm
  obtain ⟨ci, hci, _, hcj⟩ := hc (j / size) l[j / size] (List.getElem?_eq_getElem hdiv)
  have h6 := hcj (j % size) hmod
  rw [Nat.add_assoc, ← hj] at h6
  rw [h6, hci]
  rw [hj, hget l _ _ _ (List.getElem?_eq_getElem hdiv) hmod] at hu
  exact hu

theorem rd_int {t : TypeId} {n : Nat} {cs : List Value} {y : DataW H × List MemPlace} {k : IntKind} (ht : P.underlying t = some (.int k)) (h : DataW.trod enc P w base spare held n t cs = some y) :
    ∃ z : Int, cs = [.int k z] ∧ (Lit.int k z).wf = true := by
  obtain ⟨z, h1, _, h3⟩ := DataW.trod_int ht h
  exact ⟨z, h1, h3⟩

/-- A struct of one-cell fields: each field's cell, with its own reading. -/
theorem rd_struct {t : TypeId} {fs : Array Field} {n : Nat} {cs : List Value} {y : DataW H × List MemPlace} (ht : P.underlying t = some (.struct fs)) (hone : oneCellFields P fs = true)
    (h : DataW.trod enc P w base spare held n t cs = some y) : ∃ m, ∀ (j : Nat) (f : Field) (v : Value), fs[j]? = some f → cs[j]? = some v → ∃ z, DataW.trod enc P w base spare held m f.type [v] = some z := by
  obtain ⟨ys, n', _, _, _, hyl, hf⟩ := DataW.trod_struct ht h
  refine ⟨n', fun j f v hj hv => ?_⟩
  obtain ⟨ho, hk⟩ := hone_of hone j f hj
  have h1 := hf j f hj
  rw [ho, hk] at h1
  have hjl : j < fs.size := (Array.getElem?_eq_some_iff.1 hj).1
  obtain ⟨hjc, hv'⟩ := List.getElem?_eq_some_iff.1 hv
  have h2 : (cs.drop j).take 1 = [v] := by
    rw [List.drop_eq_getElem_cons hjc, hv']; rfl
  rw [h2, List.getElem?_eq_getElem (by omega)] at h1
  exact ⟨_, h1⟩
end

end Go.Proofs.Yteljkdihlklliaa
/- A struct with fields of several cells, field by field. Plain law on readings. -/
namespace Go.Proofs.Yteljkdihlklliaa
open Go Go.RowKit Go.ChangeShapes Go.WideShapes Go.Deep

section
variable {H : Type} {enc : TypeId × Value → H} {P : Program} {w : World} {base : Nat} {spare : Nat → Bool} {held : Bool}
theorem rd_fields {t : TypeId} {fs : Array Field} {n : Nat} {cs : List Value} {y : DataW H × List MemPlace} (ht : P.underlying t = some (.struct fs))
    (h : DataW.trod enc P w base spare held n t cs = some y) : ∃ m, ∀ (j : Nat) (f : Field) (e : TypeId) (o k : Nat), fs[j]? = some f → f.type = e → f.offset = o → P.cellsOf e = k → ∃ z, DataW.trod enc P w base spare held m e ((cs.drop o).take k) = some z := by
  obtain ⟨ys, n', _, _, _, hyl, hf⟩ := DataW.trod_struct ht h
  refine ⟨n', fun j f e o k hj he ho hk => ?_⟩
  have h1 := hf j f hj
  rw [ho, he, hk] at h1
  have hjl : j < fs.size := (Array.getElem?_eq_some_iff.1 hj).1
  rw [List.getElem?_eq_getElem (by omega)] at h1
  exact ⟨_, h1⟩
end
end Go.Proofs.Yteljkdihlklliaa
