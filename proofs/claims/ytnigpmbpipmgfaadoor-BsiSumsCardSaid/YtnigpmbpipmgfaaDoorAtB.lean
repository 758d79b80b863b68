/-
  Right7, At7, MapC, Of7, IsAll: several texts in one (merge.py).
-/
import Derived.Test.YtnigpmbpipmgfaaDoorBmB
import Derived.Test.YtnigpmbpipmgfaaDoorFormsB

/-
  roar's Right.
-/
namespace Go.Proofs.YtnigpmbpipmgfaaDoor
open Go.RowKit Tess

theorem rightF_drop {l : List Ch} {k : Nat} (h : k < l.length) (last : Int) : rightF last (l.drop k) = (decide (last < l[k].key) && decide (l[k].key < 256) && isBestB l[k].form l[k].data && rightF l[k].key (l.drop (k + 1))) := by
  rw [List.drop_eq_getElem_cons h]; rfl

set_option maxRecDepth 100000 in
set_option maxHeartbeats 4000000 in
theorem right_any {l : List Ch} {v : Value} {w : World} (h : HC w v l) (hl : l.length ≤ 4611686018427387904) (hsz : ∀ x ∈ l, x.data.size ≤ 1000000) (hT : Tab w) :
    Calls Tryd.prog 48 #[.agg #[v]] w fun e W' => e = .returned (.bool (rightL l)) ∧ Below w.heap.size w W' := by
  have hR : Below w.heap.size w (w.alloc (.cells #[v] 28)) := (Below.refl _ w).alloc (Nat.le_refl _) _
  obtain ⟨p, cap, rfl, hcap, hc⟩ := h.out
  have hc' := Lib.hid hc
  have hsz' := Lib.hid hsz
  clear h hc hsz
  go_enter Tryd.func48, Tryd.ntmps48
  go_wp2
  go_loopw [3, 9] (fun la i wr => ∃ (k : Nat) (last : Int), k ≤ l.length ∧ i = .int .i64 k ∧ la = .int .i64 last ∧ Hid (rightF last (l.drop k) = rightL l) ∧ Hid (Below w.heap.size w wr))
    (fun _ i _ => l.length - (intOf i).toNat)
  case atStart => exact ⟨0, -1, Nat.zero_le _, rfl, rfl, rfl, Lib.hid hR⟩
  case round =>
    obtain ⟨k, last, hk, rfl, rfl, hrf, hB⟩ := hrel
    by_cases hlt : k < l.length
    · obtain ⟨b, off, rfl, hb, h1, h2, h3⟩ := hc'.out k hlt
      have y1 := (hB.out.cell (p := ⟨b, off + k * 3, none⟩) hb).trans h1
      have y2 := (hB.out.cell (p := ⟨b, off + k * 3 + 1, none⟩) hb).trans h2
      have y3 := (hB.out.cell (p := ⟨b, off + k * 3 + 2, none⟩) hb).trans h3
      have hkd : decide (k < l.length) = true := by simpa using hlt
      have hxs := hsz'.out l[k] (List.getElem_mem hlt)
      have hst := rightF_drop hlt last
      rw [hrf.out] at hst
      clear h1 h2 h3
      generalize l[k] = x at y1 y2 y3 hxs hst
      obtain ⟨ky, f, D⟩ := x
      simp only at y1 y2 y3 hxs hst
      by_cases c1 : last < ky
      · have c1' : decide (last < ky) = true := decide_eq_true c1
        by_cases c2 : ky < 256
        · have c2' : decide (ky < 256) = true := decide_eq_true c2
          have hB2 := Lib.hid (hB.out.alloc hB.out.size (.cells #[.int .i64 ky, .int .i64 f, .string D] 91))
          have hib := Lib.hid (isBest_any f D (wr.alloc (.cells #[.int .i64 ky, .int .i64 f, .string D] 91)) hxs (hT.below hB2.out hT.lt))
          have hK := KBox.new wr ⟨ky, f, D⟩
          rw [c1', c2'] at hst
          simp only [Bool.true_and] at hst
          have hst' := Lib.hid hst
          have hsz'' := hsz'
          clear hst hsz'
          go_wp2_with fail
          refine (hib.out).mono ?_
          rintro e W2 ⟨rfl, hb2⟩
          have hB3 := Lib.hid (hB2.out.trans (hb2.mono hB2.out.size))
          obtain ⟨z1, z2, z3⟩ := (hK.later hb2).cells
          simp only at z1 z2 z3
          clear hb2 hib y1 y2 y3
          cases hbb : isBestB f D with
          | false =>
            rw [hbb] at hst'
            go_wp2
            exact bodyPost_ret (v := .bool false) (by simp [results, Tryd.results48, go_sem]) rfl ⟨by rw [hst'.out]; rfl, hB3.out⟩
          | true =>
            rw [hbb] at hst'
            go_wp2
            go_roundw
            case rel => exact ⟨k + 1, ky, by omega, by go_num, rfl, Lib.hid (by rw [hst'.out]; rfl), hB3⟩
            case measure => simp [intOf]; omega
        · have c2' : decide (ky < 256) = false := decide_eq_false c2
          have c2'' : decide (256 ≤ ky) = true := decide_eq_true (by omega)
          rw [c1', c2'] at hst
          have hst' : Hid (rightL l = false) := by show _ = _; rw [hst]; rfl
          clear hst
          go_wp2
          exact bodyPost_ret (v := .bool false) (by simp [results, Tryd.results48, go_sem]) rfl ⟨by rw [hst'.out], hB.out.alloc hB.out.size _⟩
      · have c1' : decide (last < ky) = false := decide_eq_false c1
        have c1'' : decide (ky ≤ last) = true := decide_eq_true (by omega)
        rw [c1'] at hst
        have hst' : Hid (rightL l = false) := by show _ = _; rw [hst]; rfl
        clear hst
        go_wp2
        exact bodyPost_ret (v := .bool false) (by simp [results, Tryd.results48, go_sem]) rfl ⟨by rw [hst'.out], hB.out.alloc hB.out.size _⟩
    · have hkd : decide (k < l.length) = false := by simpa using hlt
      have hfin : Hid (rightL l = true) := by
        show _ = _
        rw [← hrf.out, List.drop_eq_nil_of_le (by omega)]; rfl
      go_wp2
      exact bodyPost_ret (v := .bool true) (by simp [results, Tryd.results48, go_sem]) rfl ⟨by rw [hfin.out], hB.out⟩
end Go.Proofs.YtnigpmbpipmgfaaDoor

/-
  roar's at, empty: a bitmap's container of a key. Two chunks compared.
-/
namespace Go.Proofs.YtnigpmbpipmgfaaDoor
open Go.RowKit Tess

/-- Are two chunks the same? -/
def sameCh (x y : Ch) : Bool := x.key == y.key && sameC x.form x.data y.form y.data
theorem sameCh_iff {x y : Ch} : sameCh x y = true ↔ x = y := by
  obtain ⟨k1, f1, D1⟩ := x
  obtain ⟨k2, f2, D2⟩ := y
  unfold sameCh
  simp only [Bool.and_eq_true, beq_iff_eq, sameC_iff, Ch.mk.injEq]
theorem chunk_eq (k1 f1 k2 f2 : Int) (D1 D2 : ByteArray) (w : World) :
    (binOp .eql 91 (.agg #[.int .i64 k1, .int .i64 f1, .string D1]) (.agg #[.int .i64 k2, .int .i64 f2, .string D2])).run Tryd.prog w = .ok (.bool (sameCh ⟨k1, f1, D1⟩ ⟨k2, f2, D2⟩)) w := by
  have u3 := Tryd.underlying3
  have u9 := Tryd.underlying9
  have a3 := Tryd.isAgg3
  have z3 := Tryd.sizeOf3
  have a9 := Tryd.isAgg9
  have z9 := Tryd.sizeOf9
  have ac := Tryd.isAgg75
  have zc := Tryd.sizeOf75
  have hS : Tryd.prog.underlying 91 = some (.struct (Tryd.prog.fieldsOf 91)) := by kernel_rfl
  have hp : Tryd.prog.stoodInHeld 91 = false := by kernel_rfl
  have hS2 : Tryd.prog.underlying 75 = some (.struct (Tryd.prog.fieldsOf 75)) := by kernel_rfl
  have hp2 : Tryd.prog.stoodInHeld 75 = false := by kernel_rfl
  have hin : ∀ w, (Op.equalIn 9999 75 (.agg #[.int .i64 f1, .string D1]) (.agg #[.int .i64 f2, .string D2])).run Tryd.prog w = .ok (sameC f1 D1 f2 D2) w := by
    intro w
    rw [show (9999 : Nat) = 9998 + 1 from rfl, run_equalIn_agg w 9998 75 _ _ hS2 hp2]
    simp only [Program.fieldsOf, Tryd.underlying75]
    go_simp
    unfold sameC
    by_cases h1 : f1 = f2 <;> by_cases h2 : D1.toList = D2.toList <;> simp [h1, h2]
  rw [run_eql_struct, show (10000 : Nat) = 9999 + 1 from rfl, run_equalIn_agg w 9999 91 _ _ hS hp]
  simp only [Program.fieldsOf, Tryd.underlying91]
  clear hS2
  go_simp
  unfold sameCh
  by_cases h1 : k1 = k2 <;> cases sameC f1 D1 f2 D2 <;> simp [h1]
theorem chunk_neq (k1 f1 k2 f2 : Int) (D1 D2 : ByteArray) (w : World) :
    (binOp .neq 91 (.agg #[.int .i64 k1, .int .i64 f1, .string D1]) (.agg #[.int .i64 k2, .int .i64 f2, .string D2])).run Tryd.prog w = .ok (.bool (!sameCh ⟨k1, f1, D1⟩ ⟨k2, f2, D2⟩)) w := by
  have h := chunk_eq k1 f1 k2 f2 D1 D2 w
  rw [run_eql_struct] at h
  rw [run_neq_struct]
  cases hq : (Op.equalIn 10000 91 (.agg #[.int .i64 k1, .int .i64 f1, .string D1]) (.agg #[.int .i64 k2, .int .i64 f2, .string D2])).run Tryd.prog w with
  | ok b w' =>
    rw [hq] at h
    simp [Result.andThen] at h ⊢
    exact h
  | halt x w' => rw [hq] at h; simp [Result.andThen] at h
theorem chunk_guard (op : BinOp) (x y : Operand) (xs ys : Array Value) (w : World) : (eqGuard op 91 x y (.agg xs) (.agg ys)).run Tryd.prog w = .ok () w := run_eqGuard_agg w op 91 x y xs ys (by kernel_rfl)

/-- A bitmap's container of a key. -/
def atC (l : List Ch) (k : Int) : Int × ByteArray := match l.find? (fun x => x.key == k) with | some x => (x.form, x.data) | none => (1, bs [])
theorem atC_nil (k : Int) : atC [] k = (1, bs []) := rfl
theorem atC_cons (x : Ch) (l : List Ch) (k : Int) : atC (x :: l) k = if x.key = k then (x.form, x.data) else atC l k := by
  unfold atC
  rw [List.find?_cons]
  by_cases h : x.key = k
  · have : (x.key == k) = true := by simpa using h
    rw [this, if_pos h]
  · have : (x.key == k) = false := by simpa using h
    rw [this, if_neg h]
theorem atC_drop {l : List Ch} {j : Nat} (h : j < l.length) (k : Int) : atC (l.drop j) k = if l[j].key = k then (l[j].form, l[j].data) else atC (l.drop (j + 1)) k := by
  rw [List.drop_eq_getElem_cons h, atC_cons]
theorem ofRes_empty : ofRes 1 (bs []) = (0, true) := by decide +kernel
theorem atC_ok {l : List Ch} (hr : rightL l = true) (k : Nat) : ofRes (atC l k).1 (atC l k).2 = (setAt l k, true) := by
  have gen : ∀ (l : List Ch) (b : Int), rightF b l = true → ofRes (atC l k).1 (atC l k).2 = (setAt l k, true) := by
    intro l
    induction l with
    | nil => intro _ _; exact ofRes_empty
    | cons x l ih =>
      intro b h
      simp only [rightF, Bool.and_eq_true, decide_eq_true_eq] at h
      rw [atC_cons, setAt_cons]
      by_cases e : x.key = (k : Int)
      · rw [if_pos e, if_pos e]
        obtain ⟨s, hs, _, hf, hD⟩ := isBest_ex h.1.2
        unfold Ch.set
        rw [hf, hD, ofRes_best hs]
      · rw [if_neg e, if_neg e]
        exact ih _ h.2
  exact gen l _ hr
theorem atC_size {l : List Ch} (h : ∀ x ∈ l, x.data.size ≤ 1000000) (k : Int) : (atC l k).2.size ≤ 1000000 := by
  unfold atC
  split
  · rename_i x hx; exact h x (List.mem_of_find?_eq_some hx)
  · decide +kernel

theorem empty_any (w : World) : Calls Tryd.prog 80 #[] w fun e W' => e = .returned (.agg #[.int .i64 1, .string (bs [])]) ∧ Below w.heap.size w W' := by
  go_enter Tryd.func80, Tryd.ntmps80
  go_wp2
  exact bodyPost_ret (v := .agg #[.int .i64 1, .string (bs [])]) (by simp [results, Tryd.results80, go_sem]; rfl) rfl ⟨rfl, (Below.refl _ w).alloc (Nat.le_refl _) _⟩

set_option maxRecDepth 100000 in
set_option maxHeartbeats 4000000 in
theorem at_any {l : List Ch} {v : Value} (key : Int) {w : World} (h : HC w v l) (hl : l.length ≤ 4611686018427387904) :
    Calls Tryd.prog 46 #[.agg #[v], .int .i64 key] w fun e W' => e = .returned (.agg #[.int .i64 (atC l key).1, .string (atC l key).2]) ∧ Below w.heap.size w W' := by
  have hR : Below w.heap.size w ((w.alloc (.cells #[v] 28)).alloc (.cells #[.int .i64 0, .string ⟨#[]⟩] 75)) := ((Below.refl _ w).alloc (Nat.le_refl _) _).alloc (by simp) _
  have hM := Lib.hid (blk2_new (w.alloc (.cells #[v] 28)) (.int .i64 0) (.string ⟨#[]⟩) 75 (.cells #[] 75))
  have hres0 : Hid (CBox ((w.alloc (.cells #[v] 28)).alloc (.cells #[.int .i64 0, .string ⟨#[]⟩] 75)) (w.heap.size + 1) 0 ⟨#[]⟩) := by
    have := CBox.new (w.alloc (.cells #[v] 28)) 0 ⟨#[]⟩
    rw [World.size_alloc] at this; exact this
  clear hM
  obtain ⟨p, cap, rfl, hcap, hc⟩ := h.out
  have hc' := Lib.hid hc
  clear h hc
  go_enter Tryd.func46, Tryd.ntmps46
  go_wp2
  go_loopw [11] (fun i wr => ∃ (k : Nat), k ≤ l.length ∧ i = .int .i64 k ∧ Hid (atC (l.drop k) key = atC l key) ∧ Hid (Below w.heap.size w wr) ∧ Hid (CBox wr (w.heap.size + 1) 0 ⟨#[]⟩))
    (fun i _ => l.length - (intOf i).toNat)
  case atStart => exact ⟨0, Nat.zero_le _, rfl, rfl, Lib.hid hR, hres0⟩
  case round =>
    obtain ⟨k, hk, rfl, hrf, hB, hX⟩ := hrel
    by_cases hlt : k < l.length
    · obtain ⟨b, off, rfl, hb, h1, h2, h3⟩ := hc'.out k hlt
      have y1 := (hB.out.cell (p := ⟨b, off + k * 3, none⟩) hb).trans h1
      have y2 := (hB.out.cell (p := ⟨b, off + k * 3 + 1, none⟩) hb).trans h2
      have y3 := (hB.out.cell (p := ⟨b, off + k * 3 + 2, none⟩) hb).trans h3
      have hkd : decide (k < l.length) = true := by simpa using hlt
      have hst := atC_drop hlt key
      rw [hrf.out] at hst
      clear h1 h2 h3 hres0
      generalize l[k] = x at y1 y2 y3 hst
      obtain ⟨ky, f, D⟩ := x
      simp only at y1 y2 y3 hst
      have heq := chunk_eq ky f key f D D
      have hgd := chunk_guard
      by_cases c1 : ky = key
      · subst c1
        rw [if_pos rfl] at hst
        have hst' := Lib.hid hst
        rw [sameCh_iff.2 rfl] at heq
        obtain ⟨r0, r1, p0, p1⟩ := blk2_cells ((hX.out.alloc (.cells #[.int .i64 ky, .int .i64 f, .string D] 91)).alloc (.cells #[.int .i64 ky, .int .i64 f, .string D] 91))
        clear hst
        go_wp2
        have hrs := blk2_cells (heap_set2 ((hX.out.alloc (.cells #[.int .i64 ky, .int .i64 f, .string D] 91)).alloc (.cells #[.int .i64 ky, .int .i64 f, .string D] 91)) (.int .i64 f) (.string D))
        refine bodyPost_ret (v := .agg #[.int .i64 f, .string D]) ?_ rfl ⟨by rw [hst'.out], below_set2 ((hB.out.alloc hB.out.size _).alloc (by have := hB.out.size; simp; omega) _) (Nat.le_succ _) _ _⟩
        simp [results, Tryd.results46, go_sem, hrs.1, hrs.2.1]
      · rw [if_neg c1] at hst
        have hst' := Lib.hid hst
        have hne : sameCh ⟨ky, f, D⟩ ⟨key, f, D⟩ = false := by
          cases hq : sameCh ⟨ky, f, D⟩ ⟨key, f, D⟩
          · rfl
          · have := sameCh_iff.1 hq; simp at this; exact absurd this c1
        rw [hne] at heq
        clear hst hne c1
        go_wp2
        go_roundw
        case rel => exact ⟨k + 1, by omega, by go_num, Lib.hid hst'.out.symm, Lib.hid ((hB.out.alloc hB.out.size _).alloc (by have := hB.out.size; simp; omega) _), Lib.hid ((hX.out.alloc _).alloc _)⟩
        case measure => simp [intOf]; omega
    · have hkd : decide (k < l.length) = false := by simpa using hlt
      have hfin : Hid (atC l key = (1, bs [])) := by
        show _ = _
        rw [← hrf.out, List.drop_eq_nil_of_le (by omega)]; rfl
      have hem := Lib.hid (empty_any wr)
      go_wp2_with fail
      refine (hem.out).mono ?_
      rintro e W2 ⟨rfl, hb2⟩
      have hX2 := hX.out.later hb2
      obtain ⟨r0, r1, p0, p1⟩ := blk2_cells hX2
      have hB2 := hB.out.trans (hb2.mono hB.out.size)
      go_wp2
      have hrs := blk2_cells (heap_set2 hX2 (.int .i64 1) (.string (bs [])))
      refine bodyPost_ret (v := .agg #[.int .i64 1, .string (bs [])]) ?_ rfl ⟨by rw [hfin.out], below_set2 hB2 (Nat.le_succ _) _ _⟩
      simp [results, Tryd.results46, go_sem, hrs.1, hrs.2.1]
end Go.Proofs.YtnigpmbpipmgfaaDoor

/-
  A map from keys to containers in memory: what is there; a new key; a look-up.
-/
namespace Go.Proofs.YtnigpmbpipmgfaaDoor
open Go.RowKit Go.MapKept Tess

/-- BLOCK r IS A MAP THAT HOLDS, AT EACH KEY, WHAT F SAYS. -/
def MapC (W : World) (r : Nat) (F : Nat → Option (Int × ByteArray)) : Prop :=
  ∃ es clock, W.heap[r]? = some (.map es clock) ∧
    (∀ x ∈ es.toList, ∃ (k : Nat) (f : Int) (D : ByteArray), x.key = .int .i64 (k : Int) ∧ x.val = .agg #[.int .i64 f, .string D] ∧ F k = some (f, D)) ∧
    (∀ (k : Nat) p, F k = some p → ∃ x ∈ es.toList, x.key = .int .i64 (k : Int))
/-- F, and one key more. -/
def putF (F : Nat → Option (Int × ByteArray)) (k : Nat) (p : Int × ByteArray) : Nat → Option (Int × ByteArray) := fun j => if j = k then some p else F j
section
variable {W W' : World} {r : Nat} {F : Nat → Option (Int × ByteArray)}
theorem MapC.lt (h : MapC W r F) : r < W.heap.size := by obtain ⟨es, clock, h, _⟩ := h; exact lt_of_heap h
theorem MapC.below {B : Nat} (h : MapC W r F) (hb : Below B W W') (hr : r < B) : MapC W' r F := by
  obtain ⟨es, clock, h1, h2, h3⟩ := h
  exact ⟨es, clock, (hb.block r hr).trans h1, h2, h3⟩
theorem MapC.later (h : MapC W r F) (hb : Below W.heap.size W W') : MapC W' r F := h.below hb h.lt
theorem MapC.alloc (h : MapC W r F) (o : Obj) : MapC (W.alloc o) r F := h.later ((Below.refl _ W).alloc (Nat.le_refl _) _)
theorem MapC.grown {row : Option Nat} (h : MapC W r F) (hg : W.grownBy W' row) (hne : some r ≠ row) : MapC W' r F := by
  have hlt := h.lt
  obtain ⟨es, clock, h1, h2, h3⟩ := h
  exact ⟨es, clock, (hg.block r hlt hne).trans h1, h2, h3⟩
theorem MapC.made (W : World) : MapC (W.alloc (.map #[] 0)) W.heap.size (fun _ => none) := ⟨#[], 0, heap_alloc_map W, by simp, by simp⟩
  where heap_alloc_map (W : World) : (W.alloc (.map #[] 0)).heap[W.heap.size]? = some (.map #[] 0) := World.alloc_heap_new W _
theorem MapC.isKey {es : Array MapEntry} (h2 : ∀ x ∈ es.toList, ∃ (k : Nat) (f : Int) (D : ByteArray), x.key = .int .i64 (k : Int) ∧ x.val = .agg #[.int .i64 f, .string D] ∧ F k = some (f, D)) : ∀ x ∈ es.toList, IsKey (.int .i64) x.key := fun x hx => by
  obtain ⟨k, _, _, e, _⟩ := h2 x hx; rw [e]; simp [IsKey]
/-- A look-up: none. -/
theorem MapC.look_none {T K E : TypeId} (h : MapC W r F) (hT : Tryd.prog.underlying T = some (.map K E)) (hK : Tryd.prog.underlying K = some (.int .i64)) {z : Value} (hz : ∀ w, (zeroValue E).run Tryd.prog w = .ok z w) {k : Nat} (hk : F k = none) :
    (Instr.lookup T (.map (some r)) (.int .i64 (k : Int)) true).run Tryd.prog W = .ok (.tuple #[z, .bool false]) W := by
  obtain ⟨es, clock, h1, h2, h3⟩ := h
  refine run_look_none (k : Int) z hT hK h1 (fun x hx => ?_) (hz _)
  obtain ⟨j, f, D, e, _, hj⟩ := h2 x hx
  refine ⟨(j : Int), e, fun hjk => ?_⟩
  obtain rfl : j = k := by omega
  rw [hk] at hj; cases hj
/-- A look-up: a container. -/
theorem MapC.look_some {T K E : TypeId} (h : MapC W r F) (hT : Tryd.prog.underlying T = some (.map K E)) (hK : Tryd.prog.underlying K = some (.int .i64)) {k : Nat} {f : Int} {D : ByteArray} (hk : F k = some (f, D)) :
    (Instr.lookup T (.map (some r)) (.int .i64 (k : Int)) true).run Tryd.prog W = .ok (.tuple #[.agg #[.int .i64 f, .string D], .bool true]) W := by
  obtain ⟨es, clock, h1, h2, h3⟩ := h
  rcases findNow_spec (d := .int .i64) (k := .int .i64 (k : Int)) (by simp [IsKey]) es.toList 0 (MapC.isKey h2) with ⟨_, hn⟩ | ⟨j, e, hf, hj, hke⟩
  · obtain ⟨x, hx, hxk⟩ := h3 k _ hk
    exact absurd hxk (hn x hx)
  · obtain ⟨k', f', D', e1, e2, e3⟩ := h2 e (List.mem_of_getElem? hj)
    rw [hke] at e1
    have : k' = k := by simp at e1; omega
    subst this
    rw [hk] at e3
    cases e3
    rw [← e2]
    exact run_look_some (k' : Int) (0 + j) e hT hK h1 hf
/-- A store under a new key. -/
theorem MapC.insert {T K E : TypeId} (h : MapC W r F) (hT : Tryd.prog.underlying T = some (.map K E)) (hK : Tryd.prog.underlying K = some (.int .i64)) {k : Nat} (f : Int) (D : ByteArray) (hk : F k = none) :
    ∃ o, (Instr.mapUpdate T (.map (some r)) (.int .i64 (k : Int)) (.agg #[.int .i64 f, .string D])).run Tryd.prog W = .ok () (W.putObj r o) ∧ MapC (W.putObj r o) r (putF F k (f, D)) := by
  have hlt := h.lt
  obtain ⟨es, clock, h1, h2, h3⟩ := h
  refine ⟨_, run_insert_new (k : Int) _ hT hK h1 (fun x hx => ?_), ⟨_, _, World.putObj_heap_same hlt, ?_, ?_⟩⟩
  · obtain ⟨j, f', D', e, _, hj⟩ := h2 x hx
    refine ⟨(j : Int), e, fun hjk => ?_⟩
    obtain rfl : j = k := by omega
    rw [hk] at hj; cases hj
  · intro x hx
    simp only [Array.toList_push, List.mem_append, List.mem_singleton] at hx
    rcases hx with hx | rfl
    · obtain ⟨j, f', D', e1, e2, e3⟩ := h2 x hx
      refine ⟨j, f', D', e1, e2, ?_⟩
      unfold putF
      rw [if_neg]
      · exact e3
      · rintro rfl; rw [hk] at e3; cases e3
    · exact ⟨k, f, D, rfl, rfl, by unfold putF; rw [if_pos rfl]⟩
  · intro j p hp
    unfold putF at hp
    by_cases hjk : j = k
    · subst hjk
      exact ⟨_, by simp only [Array.toList_push]; exact List.mem_append_right _ (List.mem_singleton.2 rfl), rfl⟩
    · rw [if_neg hjk] at hp
      obtain ⟨x, hx, e⟩ := h3 j p hp
      exact ⟨x, by simp only [Array.toList_push]; exact List.mem_append_left _ hx, e⟩
end
theorem below_putObj {B : Nat} {w A : World} (h : Below B w A) {r : Nat} (hr : B ≤ r) (o : Obj) : Below B w (A.putObj r o) := by
  refine h.trans ⟨rfl, rfl, rfl, by simp [World.putObj], fun k hk => ?_⟩
  have : ¬ r = k := by omega
  simp [World.putObj, this]
theorem grown_putObj (w : World) (r : Nat) (o : Obj) : w.grownBy (w.putObj r o) (some r) :=
  ⟨rfl, rfl, rfl, by simp [World.putObj], fun k _ hne => by
    have : ¬ r = k := fun e => hne (by rw [e])
    simp [World.putObj, this]⟩
theorem zero_cont (w : World) : (zeroValue 75).run Tryd.prog w = .ok (.agg #[.int .i64 0, .string ⟨#[]⟩]) w := by kernel_rfl

/-- The bitmap of containers, of the first n keys. -/
def ofTo (F : Nat → Option (Int × ByteArray)) (n : Nat) : List Ch :=
  (List.range n).filterMap fun k => match F k with
    | some (f, D) => if 0 < ci f D then some ⟨k, f, D⟩ else none
    | none => none
theorem ofTo_zero (F : Nat → Option (Int × ByteArray)) : ofTo F 0 = [] := rfl
theorem ofTo_none {F : Nat → Option (Int × ByteArray)} {n : Nat} (h : F n = none) : ofTo F (n + 1) = ofTo F n := by
  unfold ofTo
  rw [List.range_succ, List.filterMap_append, List.filterMap_cons, h]; simp
theorem ofTo_empty {F : Nat → Option (Int × ByteArray)} {n : Nat} {f : Int} {D : ByteArray} (h : F n = some (f, D)) (hc : ¬ 0 < ci f D) : ofTo F (n + 1) = ofTo F n := by
  unfold ofTo
  rw [List.range_succ, List.filterMap_append, List.filterMap_cons, h]; simp [hc]
theorem ofTo_more {F : Nat → Option (Int × ByteArray)} {n : Nat} {f : Int} {D : ByteArray} (h : F n = some (f, D)) (hc : 0 < ci f D) : ofTo F (n + 1) = ofTo F n ++ [⟨n, f, D⟩] := by
  unfold ofTo
  rw [List.range_succ, List.filterMap_append, List.filterMap_cons, h]; simp [hc]
theorem ofTo_len (F : Nat → Option (Int × ByteArray)) (n : Nat) : (ofTo F n).length ≤ n := by
  have := List.length_filterMap_le (fun k => match F k with
    | some (f, D) => if 0 < ci f D then some (⟨(k : Int), f, D⟩ : Ch) else none
    | none => none) (List.range n)
  simpa [ofTo] using this
/-- … of sets in their best forms. -/
theorem ofTo_canon {F : Nat → Option (Int × ByteArray)} {M : Nat → Nat} : ∀ {n : Nat}, (∀ k, k < n → M k < big) → (∀ k, k < n → F k = some ((best (M k)).form, bs (best (M k)).data) ∨ (F k = none ∧ M k = 0)) → ofTo F n = canonFrom M 0 n
  | 0, _, _ => rfl
  | n + 1, hM, hF => by
    have ih := ofTo_canon (n := n) (fun k hk => hM k (by omega)) fun k hk => hF k (by omega)
    rw [canonFrom_snoc, ← ih, Nat.zero_add]
    rcases hF n (by omega) with h | ⟨h, h0⟩
    · have hci : ci (best (M n)).form (bs (best (M n)).data) = (count (M n) : Int) := by unfold ci; rw [ofRes_best (hM n (by omega))]
      by_cases h0 : M n = 0
      · rw [if_pos h0, List.append_nil]
        refine ofTo_empty h ?_
        rw [hci, h0, count_zero]; omega
      · rw [if_neg h0]
        refine ofTo_more h ?_
        rw [hci]
        have := (count_pos (hM n (by omega))).2 h0
        omega
    · rw [if_pos h0, List.append_nil]
      exact ofTo_none h
end Go.Proofs.YtnigpmbpipmgfaaDoor

/-
  roar's of: the bitmap of a map's containers.
-/
namespace Go.Proofs.YtnigpmbpipmgfaaDoor
open Go.RowKit Tess

theorem cells_three_new (W : World) (a b c : Value) (t : TypeId) : ∀ (j : Nat) (u : Value), [a, b, c][j]? = some u → (W.alloc (.cells #[a, b, c] t)).cell? ((⟨W.heap.size, 0, none⟩ : Addr).add j) = some u := by
  intro j u hu
  match j, hu with
  | 0, hu => simp at hu; subst hu; simp [Addr.add]
  | 1, hu => simp at hu; subst hu; simp [Addr.add]
  | 2, hu => simp at hu; subst hu; simp [Addr.add]
  | j + 3, hu => simp at hu
theorem grown_of_below {W W' : World} (h : Below W.heap.size W W') : W.grownBy W' none := ⟨h.os, h.tape, h.output, h.size, fun k hk _ => h.block k hk⟩
theorem own_later {W W' : World} {base n size : Nat} {e : TypeId} {v : Value} {xs : List Value} (h : W.ownsRow base e size v n xs) (hb : Below W.heap.size W W') : W'.ownsRow base e size v n xs :=
  h.kept (grown_of_below hb) (by cases v.ownBlock <;> simp)

theorem grown_cell (W : World) (p : Addr) (u : Value) : W.grownBy (W.setCell p u) (some p.block) := ⟨rfl, rfl, rfl, by simp, fun k _ hne => Below.heap_setCell W p u k (fun e => hne (by rw [e]))⟩

/-- The slice lies in a block from n on, or nowhere. -/
def Fr (n : Nat) (v : Value) : Prop := ∀ g, v.ownBlock = some g → n ≤ g

/-- What lies in memory while `of` works. -/
structure OfAt7 (w W : World) (v : Value) (l : List Ch) : Prop where
  res : RBox W w.heap.size (.slice none 0 0)
  out : RBox W (w.heap.size + 1) v
  row : W.ownsRow (w.heap.size + 2) 91 3 v l.length (chvs l)
  below : Below w.heap.size w W
theorem OfAt7.later {w wr W : World} {v : Value} {l : List Ch} (h : OfAt7 w wr v l) (hb : Below wr.heap.size wr W) : OfAt7 w W v l :=
  ⟨h.res.later hb, h.out.later hb, own_later h.row hb, h.below.trans (hb.mono h.below.size)⟩
theorem OfAt7.alloc {w wr : World} {v : Value} {l : List Ch} (h : OfAt7 w wr v l) (o : Obj) : OfAt7 w (wr.alloc o) v l := h.later ((Below.refl _ wr).alloc (Nat.le_refl _) _)
theorem OfAt7.start (w : World) : OfAt7 w ((w.alloc (.cells #[.slice none 0 0] 28)).alloc (.cells #[.slice none 0 0] 28)) (.slice none 0 0) [] := by
  have h2 := RBox.new (w.alloc (.cells #[.slice none 0 0] 28)) (.slice none 0 0)
  rw [World.size_alloc] at h2
  exact ⟨(RBox.new w _).alloc _, h2, World.ownsRow_nil _ _ _ _, ((Below.refl _ w).alloc (Nat.le_refl _) _).alloc (by simp) _⟩
/-- One chunk more. -/
theorem OfAt7.appended {w wr W : World} {v v' : Value} {l : List Ch} (h : OfAt7 w wr v l) (x : Ch) (hown : W.ownsRow (w.heap.size + 2) 91 3 v' (l.length + 1) (chvs l ++ [.int .i64 x.key, .int .i64 x.form, .string x.data])) (hg : wr.grownBy W v.ownBlock) :
    OfAt7 w (W.setCell ⟨w.heap.size + 1, 0, none⟩ v') v' (l ++ [x]) := by
  have hne : ∀ g, v.ownBlock = some g → w.heap.size + 2 ≤ g := fun g hg => (h.row.lt g hg).1
  have hne' : ∀ g, v'.ownBlock = some g → w.heap.size + 2 ≤ g := fun g hg => (hown.lt g hg).1
  have r1 := h.res.grown hg (fun e => by have := hne _ e.symm; omega)
  have r2 := h.out.grown hg (fun e => by have := hne _ e.symm; omega)
  refine ⟨r1.far (by show w.heap.size ≠ w.heap.size + 1; omega) _, r2.set _, ?_, (h.below.grown hg h.below.size (fun g hg => by have := hne g hg; omega)).setCell (p := ⟨w.heap.size + 1, 0, none⟩) (Nat.le_succ _) _⟩
  rw [chvs_append, List.length_append]
  refine World.ownsRow.kept hown (grown_cell W ⟨w.heap.size + 1, 0, none⟩ _) ?_
  cases hv : v'.ownBlock with
  | none => left; rfl
  | some g => right; have := hne' g hv; simp; omega

set_option maxRecDepth 100000 in
set_option maxHeartbeats 8000000 in
theorem of7_fr {F : Nat → Option (Int × ByteArray)} {r : Nat} {w : World} (h : MapC w r F) (hsz : ∀ k p, F k = some p → p.2.size ≤ 1000000) (hT : Tab w) :
    Calls Tryd.prog 43 #[.map (some r)] w fun e W' => ∃ v, e = .returned (.agg #[v]) ∧ HC W' v (ofTo F 256) ∧ Below w.heap.size w W' ∧ Fr w.heap.size v := by
  obtain ⟨i0, hi, hz0, hz1, hz2⟩ := info_parts info_chunk
  have hT1 := Tryd.underlying73
  have hK1 := Tryd.underlying3
  have hA0 := Lib.hid (OfAt7.start w)
  have hm := Lib.hid h
  have hsz' := Lib.hid hsz
  clear h hsz
  go_enter Tryd.func43, Tryd.ntmps43
  go_wp2
  go_loopw [7] (fun i wr => ∃ (k : Nat) (v : Value), k ≤ 256 ∧ i = .int .i64 k ∧ Hid (OfAt7 w wr v (ofTo F k)))
    (fun i _ => 256 - (intOf i).toNat)
  case atStart => exact ⟨0, _, Nat.zero_le _, rfl, hA0⟩
  case round =>
    obtain ⟨k, v, hk, rfl, hA⟩ := hrel
    clear hA0
    by_cases hlt : k < 256
    · have hkd : decide ((k : Int) < 256) = true := by simp; omega
      have hmr := hm.out.below hA.out.below hm.out.lt
      cases hF : F k with
      | none =>
        have hlk := hmr.look_none hT1 hK1 zero_cont hF
        have hst := Lib.hid (ofTo_none hF)
        clear hmr hF
        go_wp2
        go_roundw
        case rel => exact ⟨k + 1, v, by omega, by go_num, by rw [hst.out]; exact Lib.hid (hA.out.alloc _)⟩
        case measure => simp [intOf]; omega
      | some p =>
        obtain ⟨f, D⟩ := p
        have hlk := hmr.look_some hT1 hK1 hF
        have hD := hsz'.out _ _ hF
        have hA1 := Lib.hid (hA.out.alloc (.cells #[.int .i64 f, .string D] 75))
        have hx := CBox.new wr f D
        have hcr := ci_range f D
        have hct := Lib.hid (Count_ci f D (wr.alloc (.cells #[.int .i64 f, .string D] 75)) hD (hT.below hA1.out.below hT.lt))
        have hs0 : Hid (¬ 0 < ci f D → ofTo F (k + 1) = ofTo F k) := fun h => ofTo_empty hF h
        have hs1 : Hid (0 < ci f D → ofTo F (k + 1) = ofTo F k ++ [⟨k, f, D⟩]) := fun h => ofTo_more hF h
        clear hmr hF hA
        generalize ci f D = n at hcr hct hs0 hs1
        go_wp2_with fail
        refine (hct.out).mono ?_
        rintro e W2 ⟨rfl, hb2⟩
        have hA2 := Lib.hid (hA1.out.later hb2)
        obtain ⟨d0, d1, -, -⟩ := blk2_cells (hx.later hb2)
        clear hx hct hb2 hlk hA1
        by_cases hn : 0 < n
        · have hn' : decide (0 < n) = true := decide_eq_true hn
          have hst := Lib.hid (hs1.out hn)
          have hol := ofTo_len F k
          have hrow := hA2.out.row
          have oc := hA2.out.out.cell
          have hsz2 := Lib.hid hA2.out.out.lt
          generalize ofTo F k = l at hA2 hst hol hrow
          clear hs0 hs1 hn
          go_wp2_with (at_builtin; refine wpList_append_own _ rfl _ _ 26 rfl (w.heap.size + 2) 91 i0 (.agg #[.int .i64 0, .int .i64 0, .string ⟨#[]⟩]) 3 32 Tryd.underlying26 hi hz0 hz1 hz2 rfl (by decide) _ _ _ rfl (hrow.alloc _) ⟨W2.heap.size, 0, none⟩ 1 1 [.int .i64 (k : Int), .int .i64 f, .string D] rfl rfl (cells_three_new _ _ _ _ _) (by simp [Value.oneCell']) (by unfold maxLen; omega) (by omega) (by have := hsz2.out; simp; omega) ?_; intro v' w1 hown' hgrow _; have oc1 := ((hA2.out.alloc (.cells #[.int .i64 (k : Int), .int .i64 f, .string D] 91)).out.grown hgrow (fun e => by have := (hrow.lt _ e.symm).1; omega)).cell; have of1 := ((hA2.out.alloc (.cells #[.int .i64 (k : Int), .int .i64 f, .string D] 91)).out.grown hgrow (fun e => by have := (hrow.lt _ e.symm).1; omega)).frozen; obtain ⟨g', cap', rfl⟩ := ownsRow_succ hown')
          go_roundw
          case rel => exact ⟨k + 1, _, by omega, by go_num, Lib.hid (by rw [hst.out]; exact (hA2.out.alloc (.cells #[.int .i64 (k : Int), .int .i64 f, .string D] 91)).appended ⟨k, f, D⟩ hown' hgrow)⟩
          case measure => simp [intOf]; omega
        · have hn' : decide (0 < n) = false := decide_eq_false hn
          have hst := Lib.hid (hs0.out (by omega))
          clear hs0 hs1 hn
          go_wp2
          go_roundw
          case rel => exact ⟨k + 1, v, by omega, by go_num, by rw [hst.out]; exact hA2⟩
          case measure => simp [intOf]; omega
    · have hkd : decide ((k : Int) < 256) = false := by simp; omega
      obtain rfl : k = 256 := by omega
      have oc := hA.out.out.cell
      have rc := hA.out.res.cell
      have rf := hA.out.res.frozen
      have hfin := HC.of_row hA.out.row
      obtain ⟨p, cap, rfl, -, -⟩ := Hid.out hfin
      have hfin' := Lib.hid hfin
      clear hfin
      go_wp2
      have hB := (Below.refl wr.heap.size wr)
      refine bodyPost_ret (v := .agg #[.slice p (ofTo F 256).length cap]) ?_ rfl ⟨_, rfl, ?_, hA.out.below.setCell (p := ⟨w.heap.size, 0, none⟩) (Nat.le_refl _) _, fun g hg => by have := (hA.out.row.lt g hg).1; omega⟩
      case refine_2 => exact HC.of_row ((hA.out.row).kept (grown_cell wr ⟨w.heap.size, 0, none⟩ _) (by
        cases hv : Value.ownBlock (.slice p (ofTo F 256).length cap) with
        | none => left; rfl
        | some g => right; have := (hA.out.row.lt g hv).1; simp; omega))
      have hrs := (hA.out.res.set (.slice p (ofTo F 256).length cap)).cell
      simp [results, Tryd.results43, go_sem, hrs]
theorem of7_any {F : Nat → Option (Int × ByteArray)} {r : Nat} {w : World} (h : MapC w r F) (hsz : ∀ k p, F k = some p → p.2.size ≤ 1000000) (hT : Tab w) :
    Calls Tryd.prog 43 #[.map (some r)] w fun e W' => ∃ v, e = .returned (.agg #[v]) ∧ HC W' v (ofTo F 256) ∧ Below w.heap.size w W' :=
  (of7_fr h hsz hT).mono fun _ _ ⟨v, h1, h2, h3, _⟩ => ⟨v, h1, h2, h3⟩
end Go.Proofs.YtnigpmbpipmgfaaDoor

/-
  roar's isAll.
-/
namespace Go.Proofs.YtnigpmbpipmgfaaDoor
open Go.RowKit Tess

/-- Chunks that no machine finds too many, with bytes that no container's walk finds too long. -/
def Small (l : List Ch) : Prop := l.length ≤ 4611686018427387904 ∧ ∀ x ∈ l, x.data.size ≤ 1000000
theorem small_canon {M : Nat → Nat} {a n : Nat} (hn : n ≤ 256) : Small (canonFrom M a n) := by
  refine ⟨Nat.le_trans (canonFrom_len _ _ _) (by omega), fun x hx => ?_⟩
  unfold canonFrom at hx
  obtain ⟨k, _, hk⟩ := List.mem_filterMap.1 hx
  split at hk
  · cases hk
  · cases hk
    show (bs (best (M k)).data).size ≤ _
    rw [bs_size]
    exact Nat.le_trans (best_length_le _) (by decide)
theorem small_right {l : List Ch} (h : rightL l = true) : Small l := by rw [right_canon h]; exact small_canon (by decide)
theorem small_nil : Small [] := ⟨Nat.zero_le _, fun x hx => by cases hx⟩

theorem notRight_any {l : List Ch} {v : Value} {w : World} (h : HC w v l) (hs : Small l) (hT : Tab w) :
    Calls Tryd.prog 78 #[.agg #[v]] w fun e W' => e = .returned (.bool (!rightL l)) ∧ Below w.heap.size w W' := by
  have hR : Below w.heap.size w (w.alloc (.cells #[v] 28)) := (Below.refl _ w).alloc (Nat.le_refl _) _
  have hr := Lib.hid (right_any (h.alloc (.cells #[v] 28)) hs.1 hs.2 (hT.below hR hT.lt))
  have hx := (RBox.new w v).cell
  obtain ⟨p, cap, rfl, -, -⟩ := Hid.out h
  clear h
  go_enter Tryd.func78, Tryd.ntmps78
  go_wp2_with fail
  refine (hr.out).mono ?_
  rintro e W2 ⟨rfl, hb2⟩
  go_wp2
  exact bodyPost_ret (v := .bool (!rightL l)) (by simp [results, Tryd.results78, go_sem]) rfl ⟨rfl, hR.trans (hb2.mono hR.size)⟩

/-- The slice's cells hold bitmaps. -/
def Roars (W : World) (b off : Nat) (rs : List (Value × List Ch)) : Prop :=
  b < W.heap.size ∧ ∀ j (hj : j < rs.length), W.cell? ⟨b, off + j, none⟩ = some rs[j].1 ∧ HC W rs[j].1 rs[j].2 ∧ Small rs[j].2
theorem Roars.later {W W' : World} {b off : Nat} {rs : List (Value × List Ch)} (h : Roars W b off rs) (hb : Below W.heap.size W W') : Roars W' b off rs :=
  ⟨Nat.lt_of_lt_of_le h.1 hb.size, fun j hj => by
    obtain ⟨h1, h2, h3⟩ := h.2 j hj
    exact ⟨(hb.cell (p := ⟨b, off + j, none⟩) h.1).trans h1, h2.later hb, h3⟩⟩

set_option maxRecDepth 100000 in
set_option maxHeartbeats 2000000 in
theorem indexRoar_any (rs : List (Value × List Ch)) (b off cap : Nat) (w : World) (h : Roars w b off rs) (hl : rs.length ≤ 4611686018427387904) (hT : Tab w) :
    Calls Tryd.prog 102 #[.slice (some ⟨b, off, none⟩) rs.length cap, .func (.func 78) #[] #[]] w fun e W' => (∃ r : Int, e = .returned (.int .i64 r) ∧ decide (0 ≤ r) = !rs.all fun p => rightL p.2) ∧ Below w.heap.size w W' := by
  have h0 := Lib.hid h
  clear h
  go_enter Tryd.func102, Tryd.ntmps102
  go_wp2
  go_loopw [8] (fun i wr => ∃ k : Nat, k ≤ rs.length ∧ i = .int .i64 k ∧ Hid (((rs.take k).all fun p => rightL p.2) = true) ∧ Hid (Below w.heap.size w wr) ∧ Hid (Roars wr b off rs))
    (fun i _ => rs.length - (intOf i).toNat)
  case atStart => exact ⟨0, Nat.zero_le _, rfl, by show _ = _; simp, Lib.hid (Below.refl _ _), h0⟩
  case round =>
    obtain ⟨k, hk, rfl, hA, hB, hRs⟩ := hrel
    clear h0
    by_cases hlt : k < rs.length
    · obtain ⟨hcx, hv, hs⟩ := hRs.out.2 k hlt
      have hkd : decide (k < rs.length) = true := by simpa using hlt
      have hstep : Hid (((rs.take (k + 1)).all fun p => rightL p.2) = rightL rs[k].2) := by
        show _ = _
        rw [List.take_succ_eq_append_getElem hlt, List.all_append, hA.out]; simp
      have hin : Hid (rightL rs[k].2 = false → (rs.all fun p => rightL p.2) = false) := by
        show _ → _
        intro h
        exact List.all_eq_false.2 ⟨rs[k], List.getElem_mem hlt, by simp [h]⟩
      have hcl := Lib.hid (notRight_any hv hs (hT.below hB.out hT.lt))
      generalize rs[k] = x at hcx hstep hin hcl
      obtain ⟨v, l⟩ := x
      simp only at hcx hcl hstep hin
      clear hv hs
      go_wp2_with fail
      refine (hcl.out).mono ?_
      rintro e W2 ⟨rfl, hb2⟩
      have hg2 := Lib.hid (hB.out.trans (hb2.mono hB.out.size))
      have hRs2 := Lib.hid (hRs.out.later hb2)
      clear hb2 hcx hcl
      cases hn : rightL l with
      | false =>
        have hfin := Lib.hid (hin.out hn)
        clear hin hn hstep
        go_wp2
        exact bodyPost_ret (v := .int .i64 k) (by simp [results, Tryd.results102, go_sem]) rfl ⟨⟨_, rfl, by rw [hfin.out]; simp⟩, hg2.out⟩
      | true =>
        rw [hn] at hstep
        clear hin hn
        go_wp2
        go_roundw
        case rel => exact ⟨k + 1, by omega, by go_num, hstep, hg2, hRs2⟩
        case measure => simp [intOf]; omega
    · have hge : rs.length ≤ k := by omega
      have hkd : decide (k < rs.length) = false := by simpa using hlt
      have hall : Hid ((rs.all fun p => rightL p.2) = true) := by
        have : rs.take k = rs := List.take_of_length_le hge
        have h := hA.out
        rw [this] at h
        exact h
      go_wp2
      exact bodyPost_ret (v := .int .i64 (-1)) (by simp [results, Tryd.results102, go_sem]) rfl ⟨⟨_, rfl, by rw [hall.out]; decide⟩, hB.out⟩

theorem isAll_any (rs : List (Value × List Ch)) (b off cap : Nat) (w : World) (h : Roars w b off rs) (hl : rs.length ≤ 4611686018427387904) (hT : Tab w) :
    Calls Tryd.prog 44 #[.slice (some ⟨b, off, none⟩) rs.length cap] w fun e W' => e = .returned (.bool (rs.all fun p => rightL p.2)) ∧ Below w.heap.size w W' := by
  have hc : Hid (Calls Tryd.prog 77 #[.slice (some ⟨b, off, none⟩) rs.length cap, .func (.func 78) #[] #[]] w fun e W' => e = .returned (.bool (!rs.all fun p => rightL p.2)) ∧ Below w.heap.size w W') := by
    have hi := Lib.hid (indexRoar_any rs b off cap w h hl hT)
    show Calls _ _ _ _ _
    clear h
    go_enter Tryd.func77, Tryd.ntmps77
    go_wp2_with fail
    refine (hi.out).mono ?_
    rintro e W2 ⟨⟨r, rfl, hr⟩, hb2⟩
    go_wp2
    exact bodyPost_ret (v := .bool (!rs.all fun p => rightL p.2)) (by simp [results, Tryd.results77, go_sem]) rfl ⟨rfl, hb2⟩
  clear h
  generalize (rs.all fun p => rightL p.2) = q at hc ⊢
  go_enter Tryd.func44, Tryd.ntmps44
  go_wp2_with fail
  refine (hc.out).mono ?_
  rintro e W2 ⟨rfl, hb2⟩
  go_wp2
  exact bodyPost_ret (v := .bool q) (by simp [results, Tryd.results44, go_sem]) rfl ⟨rfl, hb2⟩
/-- … of one, of two. -/
theorem isAll1 {v : Value} {l : List Ch} {b : Nat} {w : World} (hb : b < w.heap.size) (hc : w.cell? ⟨b, 0, none⟩ = some v) (h : HC w v l) (hs : Small l) (hT : Tab w) :
    Calls Tryd.prog 44 #[.slice (some ⟨b, 0, none⟩) 1 1] w fun e W' => e = .returned (.bool (rightL l)) ∧ Below w.heap.size w W' := by
  have := isAll_any [(v, l)] b 0 1 w ⟨hb, fun j hj => by
    have hj' : j < 1 := hj
    obtain rfl : j = 0 := by omega
    exact ⟨hc, h, hs⟩⟩ (by simp) hT
  simpa using this
theorem isAll2 {v1 v2 : Value} {l1 l2 : List Ch} {b : Nat} {w : World} (hb : b < w.heap.size) (hc1 : w.cell? ⟨b, 0, none⟩ = some v1) (hc2 : w.cell? ⟨b, 1, none⟩ = some v2) (h1 : HC w v1 l1) (h2 : HC w v2 l2) (hs1 : Small l1) (hs2 : Small l2) (hT : Tab w) :
    Calls Tryd.prog 44 #[.slice (some ⟨b, 0, none⟩) 2 2] w fun e W' => e = .returned (.bool (rightL l1 && rightL l2)) ∧ Below w.heap.size w W' := by
  have := isAll_any [(v1, l1), (v2, l2)] b 0 2 w ⟨hb, fun j hj => by
    have hj' : j < 2 := hj
    rcases (show j = 0 ∨ j = 1 by omega) with rfl | rfl
    · exact ⟨hc1, h1, hs1⟩
    · exact ⟨hc2, h2, hs2⟩⟩ (by simp) hT
  simpa using this
end Go.Proofs.YtnigpmbpipmgfaaDoor
