/-
  A map from keys to containers in memory: what is there; a new key; a look-up.
-/
import Derived.Test.YtnigpmbpipmgfaaDoorMapFn
import Derived.Test.YtnigpmbpipmgfaaDoorAt7
namespace Go.Proofs.YtnigpmbpipmgfaaDoor
open Go.RowKit Go.MapKept Tess

/-- BLOCK r IS A MAP THAT HOLDS, AT EACH KEY, WHAT F SAYS. -/
def MapC (W : World) (r : Nat) (F : Nat → Option (Int × ByteArray)) : Prop :=
  ∃ es clock, W.heap[r]? = some (.map es clock) ∧
    (∀ x ∈ es.toList, ∃ (k : Nat) (f : Int) (D : ByteArray), x.key = .int .i64 (k : Int) ∧ x.val = .agg #[.int .i64 f, .string D] ∧ F k = some (f, D)) ∧
    (∀ (k : Nat) p, F k = some p → ∃ x ∈ es.toList, x.key = .int .i64 (k : Int))
/-- F, and one key more. -/
def putF (F : Nat → Option (Int × ByteArray)) (k : Nat) (p : Int × ByteArray) : Nat → Option (Int × ByteArray) := fun j => if j = k then some p else F j
section
variable {W W' : World} {r : Nat} {F : Nat → Option (Int × ByteArray)}
theorem MapC.lt (h : MapC W r F) : r < W.heap.size := by obtain ⟨es, clock, h, _⟩ := h; exact lt_of_heap h
theorem MapC.below {B : Nat} (h : MapC W r F) (hb : Below B W W') (hr : r < B) : MapC W' r F := by
  obtain ⟨es, clock, h1, h2, h3⟩ := h
  exact ⟨es, clock, (hb.block r hr).trans h1, h2, h3⟩
theorem MapC.later (h : MapC W r F) (hb : Below W.heap.size W W') : MapC W' r F := h.below hb h.lt
theorem MapC.alloc (h : MapC W r F) (o : Obj) : MapC (W.alloc o) r F := h.later ((Below.refl _ W).alloc (Nat.le_refl _) _)
theorem MapC.grown {row : Option Nat} (h : MapC W r F) (hg : W.grownBy W' row) (hne : some r ≠ row) : MapC W' r F := by
  have hlt := h.lt
  obtain ⟨es, clock, h1, h2, h3⟩ := h
  exact ⟨es, clock, (hg.block r hlt hne).trans h1, h2, h3⟩
theorem MapC.made (W : World) : MapC (W.alloc (.map #[] 0)) W.heap.size (fun _ => none) := ⟨#[], 0, heap_alloc_map W, by simp, by simp⟩
  where heap_alloc_map (W : World) : (W.alloc (.map #[] 0)).heap[W.heap.size]? = some (.map #[] 0) := World.alloc_heap_new W _
theorem MapC.isKey {es : Array MapEntry} (h2 : ∀ x ∈ es.toList, ∃ (k : Nat) (f : Int) (D : ByteArray), x.key = .int .i64 (k : Int) ∧ x.val = .agg #[.int .i64 f, .string D] ∧ F k = some (f, D)) : ∀ x ∈ es.toList, IsKey (.int .i64) x.key := fun x hx => by
  obtain ⟨k, _, _, e, _⟩ := h2 x hx; rw [e]; simp [IsKey]
/-- A look-up: none. -/
theorem MapC.look_none {T K E : TypeId} (h : MapC W r F) (hT : Tryd.prog.underlying T = some (.map K E)) (hK : Tryd.prog.underlying K = some (.int .i64)) {z : Value} (hz : ∀ w, (zeroValue E).run Tryd.prog w = .ok z w) {k : Nat} (hk : F k = none) :
    (Instr.lookup T (.map (some r)) (.int .i64 (k : Int)) true).run Tryd.prog W = .ok (.tuple #[z, .bool false]) W := by
  obtain ⟨es, clock, h1, h2, h3⟩ := h
  refine run_look_none (k : Int) z hT hK h1 (fun x hx => ?_) (hz _)
  obtain ⟨j, f, D, e, _, hj⟩ := h2 x hx
  refine ⟨(j : Int), e, fun hjk => ?_⟩
  obtain rfl : j = k := by omega
  rw [hk] at hj; cases hj
/-- A look-up: a container. -/
theorem MapC.look_some {T K E : TypeId} (h : MapC W r F) (hT : Tryd.prog.underlying T = some (.map K E)) (hK : Tryd.prog.underlying K = some (.int .i64)) {k : Nat} {f : Int} {D : ByteArray} (hk : F k = some (f, D)) :
    (Instr.lookup T (.map (some r)) (.int .i64 (k : Int)) true).run Tryd.prog W = .ok (.tuple #[.agg #[.int .i64 f, .string D], .bool true]) W := by
  obtain ⟨es, clock, h1, h2, h3⟩ := h
  rcases findNow_spec (d := .int .i64) (k := .int .i64 (k : Int)) (by simp [IsKey]) es.toList 0 (MapC.isKey h2) with ⟨_, hn⟩ | ⟨j, e, hf, hj, hke⟩
  · obtain ⟨x, hx, hxk⟩ := h3 k _ hk
    exact absurd hxk (hn x hx)
  · obtain ⟨k', f', D', e1, e2, e3⟩ := h2 e (List.mem_of_getElem? hj)
    rw [hke] at e1
    have : k' = k := by simp at e1; omega
    subst this
    rw [hk] at e3
    cases e3
    rw [← e2]
    exact run_look_some (k' : Int) (0 + j) e hT hK h1 hf
/-- A store under a new key. -/
theorem MapC.insert {T K E : TypeId} (h : MapC W r F) (hT : Tryd.prog.underlying T = some (.map K E)) (hK : Tryd.prog.underlying K = some (.int .i64)) {k : Nat} (f : Int) (D : ByteArray) (hk : F k = none) :
    ∃ o, (Instr.mapUpdate T (.map (some r)) (.int .i64 (k : Int)) (.agg #[.int .i64 f, .string D])).run Tryd.prog W = .ok () (W.putObj r o) ∧ MapC (W.putObj r o) r (putF F k (f, D)) := by
  have hlt := h.lt
  obtain ⟨es, clock, h1, h2, h3⟩ := h
  refine ⟨_, run_insert_new (k : Int) _ hT hK h1 (fun x hx => ?_), ⟨_, _, World.putObj_heap_same hlt, ?_, ?_⟩⟩
  · obtain ⟨j, f', D', e, _, hj⟩ := h2 x hx
    refine ⟨(j : Int), e, fun hjk => ?_⟩
    obtain rfl : j = k := by omega
    rw [hk] at hj; cases hj
  · intro x hx
    simp only [Array.toList_push, List.mem_append, List.mem_singleton] at hx
    rcases hx with hx | rfl
    · obtain ⟨j, f', D', e1, e2, e3⟩ := h2 x hx
      refine ⟨j, f', D', e1, e2, ?_⟩
      unfold putF
      rw [if_neg]
      · exact e3
      · rintro rfl; rw [hk] at e3; cases e3
    · exact ⟨k, f, D, rfl, rfl, by unfold putF; rw [if_pos rfl]⟩
  · intro j p hp
    unfold putF at hp
    by_cases hjk : j = k
    · subst hjk
      exact ⟨_, by simp only [Array.toList_push]; exact List.mem_append_right _ (List.mem_singleton.2 rfl), rfl⟩
    · rw [if_neg hjk] at hp
      obtain ⟨x, hx, e⟩ := h3 j p hp
      exact ⟨x, by simp only [Array.toList_push]; exact List.mem_append_left _ hx, e⟩
end
theorem below_putObj {B : Nat} {w A : World} (h : Below B w A) {r : Nat} (hr : B ≤ r) (o : Obj) : Below B w (A.putObj r o) := by
  refine h.trans ⟨rfl, rfl, rfl, by simp [World.putObj], fun k hk => ?_⟩
  have : ¬ r = k := by omega
  simp [World.putObj, this]
theorem grown_putObj (w : World) (r : Nat) (o : Obj) : w.grownBy (w.putObj r o) (some r) :=
  ⟨rfl, rfl, rfl, by simp [World.putObj], fun k _ hne => by
    have : ¬ r = k := fun e => hne (by rw [e])
    simp [World.putObj, this]⟩
theorem zero_cont (w : World) : (zeroValue 75).run Tryd.prog w = .ok (.agg #[.int .i64 0, .string ⟨#[]⟩]) w := by kernel_rfl

/-- The bitmap of containers, of the first n keys. -/
def ofTo (F : Nat → Option (Int × ByteArray)) (n : Nat) : List Ch :=
  (List.range n).filterMap fun k => match F k with
    | some (f, D) => if 0 < ci f D then some ⟨k, f, D⟩ else none
    | none => none
theorem ofTo_zero (F : Nat → Option (Int × ByteArray)) : ofTo F 0 = [] := rfl
theorem ofTo_none {F : Nat → Option (Int × ByteArray)} {n : Nat} (h : F n = none) : ofTo F (n + 1) = ofTo F n := by
  unfold ofTo
  rw [List.range_succ, List.filterMap_append, List.filterMap_cons, h]; simp
theorem ofTo_empty {F : Nat → Option (Int × ByteArray)} {n : Nat} {f : Int} {D : ByteArray} (h : F n = some (f, D)) (hc : ¬ 0 < ci f D) : ofTo F (n + 1) = ofTo F n := by
  unfold ofTo
  rw [List.range_succ, List.filterMap_append, List.filterMap_cons, h]; simp [hc]
theorem ofTo_more {F : Nat → Option (Int × ByteArray)} {n : Nat} {f : Int} {D : ByteArray} (h : F n = some (f, D)) (hc : 0 < ci f D) : ofTo F (n + 1) = ofTo F n ++ [⟨n, f, D⟩] := by
  unfold ofTo
  rw [List.range_succ, List.filterMap_append, List.filterMap_cons, h]; simp [hc]
theorem ofTo_len (F : Nat → Option (Int × ByteArray)) (n : Nat) : (ofTo F n).length ≤ n := by
  have := List.length_filterMap_le (fun k => match F k with
    | some (f, D) => if 0 < ci f D then some (⟨(k : Int), f, D⟩ : Ch) else none
    | none => none) (List.range n)
  simpa [ofTo] using this
/-- … of sets in their best forms. -/
theorem ofTo_canon {F : Nat → Option (Int × ByteArray)} {M : Nat → Nat} : ∀ {n : Nat}, (∀ k, k < n → M k < big) → (∀ k, k < n → F k = some ((best (M k)).form, bs (best (M k)).data) ∨ (F k = none ∧ M k = 0)) → ofTo F n = canonFrom M 0 n
  | 0, _, _ => rfl
  | n + 1, hM, hF => by
    have ih := ofTo_canon (n := n) (fun k hk => hM k (by omega)) fun k hk => hF k (by omega)
    rw [canonFrom_snoc, ← ih, Nat.zero_add]
    rcases hF n (by omega) with h | ⟨h, h0⟩
    · have hci : ci (best (M n)).form (bs (best (M n)).data) = (count (M n) : Int) := by unfold ci; rw [ofRes_best (hM n (by omega))]
      by_cases h0 : M n = 0
      · rw [if_pos h0, List.append_nil]
        refine ofTo_empty h ?_
        rw [hci, h0, count_zero]; omega
      · rw [if_neg h0]
        refine ofTo_more h ?_
        rw [hci]
        have := (count_pos (hM n (by omega))).2 h0
        omega
    · rw [if_pos h0, List.append_nil]
      exact ofTo_none h
end Go.Proofs.YtnigpmbpipmgfaaDoor
