/-
  A map keyed by int whose elements are function values: a store under a new key, a look-up with ok. Over any program.
-/
import Derived.MapKept
import Derived.Carry
import Derived.RangeFuncRecord
namespace Go.Proofs.YtnigpmbpipmgfaaDoor
open Go.MapKept

/-- No key of these is n. -/
def NoKey (es : Array MapEntry) (n : Int) : Prop := ∀ x ∈ es.toList, ∃ m : Int, x.key = .int .i64 m ∧ m ≠ n

theorem find_none {es : Array MapEntry} {n : Int} (h : NoKey es n) : Instr.findNow (.int .i64) (.int .i64 n) es.toList 0 = some none := by
  rcases findNow_spec (d := .int .i64) (k := .int .i64 n) (by simp [IsKey]) es.toList 0 (fun x hx => by obtain ⟨m, e, _⟩ := h x hx; rw [e]; simp [IsKey]) with ⟨h1, _⟩ | ⟨j, e, _, h2, h3⟩
  · exact h1
  · obtain ⟨m, e1, e2⟩ := h e (List.mem_of_getElem? h2)
    rw [h3] at e1
    simp at e1
    exact absurd e1.symm e2

theorem run_insert_new {P : Program} {T K E : TypeId} {w : World} {r clock : Nat} {es : Array MapEntry} (n : Int) (v : Value) (hT : P.underlying T = some (.map K E)) (hK : P.underlying K = some (.int .i64))
    (hb : w.heap[r]? = some (.map es clock)) (h : NoKey es n) :
    (Instr.mapUpdate T (.map (some r)) (.int .i64 n) v).run P w = .ok () (w.putObj r (.map (es.push { key := .int .i64 n, val := v, born := clock }) (clock + 1))) := by
  unfold Instr.mapUpdate
  simp [run_underlying hT, MapKept.run_getObj_map hb, run_checkKey hK (show IsKey (.int .i64) (.int .i64 n) by simp [IsKey]), run_findKey hK (find_none h), Result.andThen, run_setObj_map _ hb, World.putObj]

theorem run_look_none {P : Program} {T K E : TypeId} {w : World} {r clock : Nat} {es : Array MapEntry} (n : Int) (z : Value) (hT : P.underlying T = some (.map K E)) (hK : P.underlying K = some (.int .i64))
    (hb : w.heap[r]? = some (.map es clock)) (h : NoKey es n) (hz : (zeroValue E).run P w = .ok z w) :
    (Instr.lookup T (.map (some r)) (.int .i64 n) true).run P w = .ok (.tuple #[z, .bool false]) w := by
  unfold Instr.lookup
  simp [run_underlying hT, MapKept.run_getObj_map hb, run_checkKey hK (show IsKey (.int .i64) (.int .i64 n) by simp [IsKey]), run_findKey hK (find_none h), Result.andThen, hz]

theorem run_look_some {P : Program} {T K E : TypeId} {w : World} {r clock : Nat} {es : Array MapEntry} (n : Int) (j : Nat) (e : MapEntry) (hT : P.underlying T = some (.map K E)) (hK : P.underlying K = some (.int .i64))
    (hb : w.heap[r]? = some (.map es clock)) (hf : Instr.findNow (.int .i64) (.int .i64 n) es.toList 0 = some (some (j, e.val))) :
    (Instr.lookup T (.map (some r)) (.int .i64 n) true).run P w = .ok (.tuple #[e.val, .bool true]) w := by
  unfold Instr.lookup
  simp [run_underlying hT, MapKept.run_getObj_map hb, run_checkKey hK (show IsKey (.int .i64) (.int .i64 n) by simp [IsKey]), run_findKey hK hf, Result.andThen]

theorem putObj_alloc (W : World) (o o' : Obj) : (W.alloc o).putObj W.heap.size o' = W.alloc o' := by
  simp only [World.putObj, World.alloc]
  congr 1
  apply Array.ext_getElem?
  intro i
  rw [Array.getElem?_setIfInBounds, Array.getElem?_push, Array.getElem?_push, Array.size_push]
  by_cases hi : W.heap.size = i
  · subst hi; simp
  · rw [if_neg hi, if_neg (Ne.symm hi), if_neg (Ne.symm hi)]

/-- A store under a new key, into the map that lies last. -/
theorem insert_last {P : Program} {T K E : TypeId} (W : World) {clock : Nat} {es : Array MapEntry} (n : Int) (v : Value) (hT : P.underlying T = some (.map K E)) (hK : P.underlying K = some (.int .i64)) (h : NoKey es n) :
    (Instr.mapUpdate T (.map (some W.heap.size)) (.int .i64 n) v).run P (W.alloc (.map es clock)) = .ok () (W.alloc (.map (es.push { key := .int .i64 n, val := v, born := clock }) (clock + 1))) := by
  rw [run_insert_new n v hT hK (World.alloc_heap_new W _) h, putObj_alloc]

def fnEntry (n : Int) (f : FuncId) (born : Nat) : MapEntry := { key := .int .i64 n, val := .func (.func f) #[] #[], born := born }
/-- Three functions under 1, 2, 3. -/
def fn3 (f g h : FuncId) : Array MapEntry := #[fnEntry 1 f 0, fnEntry 2 g 1, fnEntry 3 h 2]
theorem insert3 {P : Program} {T K E : TypeId} (W : World) (f g h : FuncId) (hT : P.underlying T = some (.map K E)) (hK : P.underlying K = some (.int .i64)) :
    (Instr.mapUpdate T (.map (some W.heap.size)) (.int .i64 1) (.func (.func f) #[] #[])).run P (W.alloc (.map #[] 0)) = .ok () (W.alloc (.map #[fnEntry 1 f 0] 1)) ∧
    (Instr.mapUpdate T (.map (some W.heap.size)) (.int .i64 2) (.func (.func g) #[] #[])).run P (W.alloc (.map #[fnEntry 1 f 0] 1)) = .ok () (W.alloc (.map #[fnEntry 1 f 0, fnEntry 2 g 1] 2)) ∧
    (Instr.mapUpdate T (.map (some W.heap.size)) (.int .i64 3) (.func (.func h) #[] #[])).run P (W.alloc (.map #[fnEntry 1 f 0, fnEntry 2 g 1] 2)) = .ok () (W.alloc (.map (fn3 f g h) 3)) := by
  refine ⟨?_, ?_, ?_⟩
  · exact insert_last W 1 _ hT hK (fun x hx => by simp at hx)
  · exact insert_last W 2 _ hT hK (fun x hx => by simp at hx; subst hx; exact ⟨1, rfl, by decide⟩)
  · exact insert_last W 3 _ hT hK (fun x hx => by simp at hx; rcases hx with rfl | rfl; exact ⟨1, rfl, by decide⟩; exact ⟨2, rfl, by decide⟩)

theorem look3_none {P : Program} {T K E : TypeId} (W : World) (f g h : FuncId) (n : Int) (z : Value) (hT : P.underlying T = some (.map K E)) (hK : P.underlying K = some (.int .i64)) (hz : ∀ w, (zeroValue E).run P w = .ok z w)
    (h1 : n ≠ 1) (h2 : n ≠ 2) (h3 : n ≠ 3) : (Instr.lookup T (.map (some W.heap.size)) (.int .i64 n) true).run P (W.alloc (.map (fn3 f g h) 3)) = .ok (.tuple #[z, .bool false]) (W.alloc (.map (fn3 f g h) 3)) := by
  refine run_look_none n z hT hK (World.alloc_heap_new W _) (fun x hx => ?_) (hz _)
  simp [fn3] at hx
  rcases hx with rfl | rfl | rfl
  · exact ⟨1, rfl, Ne.symm h1⟩
  · exact ⟨2, rfl, Ne.symm h2⟩
  · exact ⟨3, rfl, Ne.symm h3⟩
theorem look3 {P : Program} {T K E : TypeId} (W : World) (f g h : FuncId) (hT : P.underlying T = some (.map K E)) (hK : P.underlying K = some (.int .i64)) :
    (Instr.lookup T (.map (some W.heap.size)) (.int .i64 1) true).run P (W.alloc (.map (fn3 f g h) 3)) = .ok (.tuple #[.func (.func f) #[] #[], .bool true]) (W.alloc (.map (fn3 f g h) 3)) ∧
    (Instr.lookup T (.map (some W.heap.size)) (.int .i64 2) true).run P (W.alloc (.map (fn3 f g h) 3)) = .ok (.tuple #[.func (.func g) #[] #[], .bool true]) (W.alloc (.map (fn3 f g h) 3)) ∧
    (Instr.lookup T (.map (some W.heap.size)) (.int .i64 3) true).run P (W.alloc (.map (fn3 f g h) 3)) = .ok (.tuple #[.func (.func h) #[] #[], .bool true]) (W.alloc (.map (fn3 f g h) 3)) :=
  ⟨run_look_some 1 0 (fnEntry 1 f 0) hT hK (World.alloc_heap_new W _) rfl, run_look_some 2 1 (fnEntry 2 g 1) hT hK (World.alloc_heap_new W _) rfl, run_look_some 3 2 (fnEntry 3 h 2) hT hK (World.alloc_heap_new W _) rfl⟩
end Go.Proofs.YtnigpmbpipmgfaaDoor
