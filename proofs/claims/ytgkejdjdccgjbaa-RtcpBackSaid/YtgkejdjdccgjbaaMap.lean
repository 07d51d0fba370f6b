/- rtcp's map of closures: what the seven inserts leave, and what is found in it. No condition. -/
import Derived.Test.YtgkejdjdccgjbaaRdr
import Derived.WideMake
namespace Go.Proofs.Ytgkejdjdccgjbaa
open Go Go.RowKit
set_option maxHeartbeats 400000

theorem run_update_int {P : Program} (w : World) (mty kt et : TypeId) (r clock : Nat) (es : Array MapEntry) (k : Int) (val : Value) (hm : P.underlying mty = some (.map kt et)) (hk : P.underlying kt = some (.int .i64)) (hb : w.heap[r]? = some (.map es clock)) (hf : Instr.findNow (.int .i64) (.int .i64 k) es.toList 0 = some none) :
    (Instr.mapUpdate mty (.map (some r)) (.int .i64 k) val).run P w = .ok () { w with heap := w.heap.setIfInBounds r (.map (es.push { key := .int .i64 k, val := val, born := clock }) (clock + 1)) } := by
  have hc : (Instr.checkKey false 10000 kt (.int .i64 k)).run P w = .ok () w := MapKept.run_checkKey (k := .int .i64 k) hk (by simp [MapKept.IsKey]) false 9999
  simp [Instr.mapUpdate, run_underlying hm, MapKept.run_getObj_map hb, hc, MapKept.run_findKey hk hf, MapKept.run_setObj_map _ hb, Result.andThen]
theorem run_lookup_int {P : Program} (w : World) (mty kt et : TypeId) (r clock i : Nat) (es : Array MapEntry) (k : Int) (val : Value) (hm : P.underlying mty = some (.map kt et)) (hk : P.underlying kt = some (.int .i64)) (hb : w.heap[r]? = some (.map es clock)) (hf : Instr.findNow (.int .i64) (.int .i64 k) es.toList 0 = some (some (i, val))) :
    (Instr.lookup mty (.map (some r)) (.int .i64 k) false).run P w = .ok val w := by
  have hc : (Instr.checkKey es.isEmpty 10000 kt (.int .i64 k)).run P w = .ok () w := MapKept.run_checkKey (k := .int .i64 k) hk (by simp [MapKept.IsKey]) es.isEmpty 9999
  simp [Instr.lookup, run_underlying hm, MapKept.run_getObj_map hb, hc, MapKept.run_findKey hk hf, Result.andThen]

/-- a map's block is written -/
def mset (w : World) (r : Nat) (o : Obj) : World := { w with heap := w.heap.setIfInBounds r o }
theorem mset_at {w : World} {r : Nat} {o : Obj} (h : r < w.heap.size) : (mset w r o).heap[r]? = some o := by simp [mset, h]
theorem mset_upd (w : World) (r : Nat) (o : Obj) : Upd [r] w (mset w r o) := ⟨rfl, rfl, rfl, by simp [mset], fun k hk hn => by simp [mset]; rw [Array.getElem?_setIfInBounds_ne (by simp at hn; omega)]⟩
def fv (f : FuncId) (cs : Array Value) : Value := .func (.func f) #[] cs
/-- the map's entries, so many of them -/
def ents (bx rv : Nat) : List MapEntry :=
  [⟨.int .i64 0, fv 42 #[.pointer (some ⟨rv, 0, none⟩)], 0⟩, ⟨.int .i64 1, fv 46 #[.pointer (some ⟨rv, 0, none⟩)], 1⟩, ⟨.int .i64 2, fv 47 #[.pointer (some ⟨rv, 0, none⟩)], 2⟩,
   ⟨.int .i64 3, fv 48 #[.pointer (some ⟨rv, 0, none⟩)], 3⟩, ⟨.int .i64 4, fv 49 #[.pointer (some ⟨rv, 0, none⟩)], 4⟩, ⟨.int .i64 5, fv 50 #[.pointer (some ⟨rv, 0, none⟩)], 5⟩,
   ⟨.int .i64 6, fv 51 #[.pointer (some ⟨bx, 0, none⟩), .pointer (some ⟨rv, 0, none⟩)], 6⟩]
theorem fill_step {M : World} {r : Nat} {l : List MapEntry} (hb : M.heap[r]? = some (.map l.toArray l.length)) (k : Int) (val : Value) (hf : Instr.findNow (.int .i64) (.int .i64 k) l 0 = some none) :
    ∃ M', (Instr.mapUpdate 111 (.map (some r)) (.int .i64 k) val).run Try.prog M = .ok () M' ∧ M'.heap[r]? = some (.map (l ++ [(⟨.int .i64 k, val, l.length⟩ : MapEntry)]).toArray (l ++ [(⟨.int .i64 k, val, l.length⟩ : MapEntry)]).length) ∧ Upd [r] M M' := by
  have hlt : r < M.heap.size := (Array.getElem?_eq_some_iff.1 hb).1
  have h := run_update_int (P := Try.prog) M _ _ _ r l.length l.toArray k val Try.underlying111 Try.underlying3 hb hf
  refine ⟨_, h, ?_, mset_upd M r _⟩
  have := mset_at (w := M) (r := r) (o := .map (l.toArray.push { key := .int .i64 k, val := val, born := l.length }) (l.length + 1)) hlt
  simpa [mset] using this
theorem fill (w : World) (bx rv : Nat) : ∃ M1 M2 M3 M4 M5 M6 M7 : World, (Instr.mapUpdate 111 (.map (some w.heap.size)) (.int .i64 0) (fv 42 #[.pointer (some ⟨rv, 0, none⟩)])).run Try.prog (w.alloc (.map #[] 0)) = .ok () M1 ∧ (Instr.mapUpdate 111 (.map (some w.heap.size)) (.int .i64 1) (fv 46 #[.pointer (some ⟨rv, 0, none⟩)])).run Try.prog M1 = .ok () M2 ∧ (Instr.mapUpdate 111 (.map (some w.heap.size)) (.int .i64 2) (fv 47 #[.pointer (some ⟨rv, 0, none⟩)])).run Try.prog M2 = .ok () M3 ∧ (Instr.mapUpdate 111 (.map (some w.heap.size)) (.int .i64 3) (fv 48 #[.pointer (some ⟨rv, 0, none⟩)])).run Try.prog M3 = .ok () M4 ∧ (Instr.mapUpdate 111 (.map (some w.heap.size)) (.int .i64 4) (fv 49 #[.pointer (some ⟨rv, 0, none⟩)])).run Try.prog M4 = .ok () M5 ∧ (Instr.mapUpdate 111 (.map (some w.heap.size)) (.int .i64 5) (fv 50 #[.pointer (some ⟨rv, 0, none⟩)])).run Try.prog M5 = .ok () M6 ∧ (Instr.mapUpdate 111 (.map (some w.heap.size)) (.int .i64 6) (fv 51 #[.pointer (some ⟨bx, 0, none⟩), .pointer (some ⟨rv, 0, none⟩)])).run Try.prog M6 = .ok () M7 ∧ M7.heap[w.heap.size]? = some (.map (ents bx rv).toArray 7) ∧ Upd [] w M7 := by
  have b0 : (w.alloc (.map #[] 0)).heap[w.heap.size]? = some (.map ([] : List MapEntry).toArray ([] : List MapEntry).length) := heap_alloc_new w _
  obtain ⟨M1, r1, b1, u1⟩ := fill_step b0 0 (fv 42 #[.pointer (some ⟨rv, 0, none⟩)]) rfl
  obtain ⟨M2, r2, b2, u2⟩ := fill_step b1 1 (fv 46 #[.pointer (some ⟨rv, 0, none⟩)]) rfl
  obtain ⟨M3, r3, b3, u3⟩ := fill_step b2 2 (fv 47 #[.pointer (some ⟨rv, 0, none⟩)]) rfl
  obtain ⟨M4, r4, b4, u4⟩ := fill_step b3 3 (fv 48 #[.pointer (some ⟨rv, 0, none⟩)]) rfl
  obtain ⟨M5, r5, b5, u5⟩ := fill_step b4 4 (fv 49 #[.pointer (some ⟨rv, 0, none⟩)]) rfl
  obtain ⟨M6, r6, b6, u6⟩ := fill_step b5 5 (fv 50 #[.pointer (some ⟨rv, 0, none⟩)]) rfl
  obtain ⟨M7, r7, b7, u7⟩ := fill_step b6 6 (fv 51 #[.pointer (some ⟨bx, 0, none⟩), .pointer (some ⟨rv, 0, none⟩)]) rfl
  refine ⟨M1, M2, M3, M4, M5, M6, M7, r1, r2, r3, r4, r5, r6, r7, b7, ?_⟩
  exact ((Upd.refl [] w).alloc _).trans ((((((u1.next u2).next u3).next u4).next u5).next u6).next u7) (fun s hs => .inr (by rw [List.mem_singleton] at hs; omega))
theorem look {M : World} {r bx rv : Nat} (hb : M.heap[r]? = some (.map (ents bx rv).toArray 7)) (k : Int) (i : Nat) (val : Value) (hf : Instr.findNow (.int .i64) (.int .i64 k) (ents bx rv) 0 = some (some (i, val))) :
    (Instr.lookup 111 (.map (some r)) (.int .i64 k) false).run Try.prog M = .ok val M :=
  run_lookup_int (P := Try.prog) M _ _ _ r 7 i (ents bx rv).toArray k val Try.underlying111 Try.underlying3 hb hf
end Go.Proofs.Ytgkejdjdccgjbaa
