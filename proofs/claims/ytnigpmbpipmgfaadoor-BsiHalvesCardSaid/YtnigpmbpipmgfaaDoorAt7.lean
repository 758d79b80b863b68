/-
  roar's at, empty: a bitmap's container of a key. Two chunks compared.
-/
import Derived.Test.YtnigpmbpipmgfaaDoorRight7
namespace Go.Proofs.YtnigpmbpipmgfaaDoor
open Go.RowKit Tess

/-- Are two chunks the same? -/
def sameCh (x y : Ch) : Bool := x.key == y.key && sameC x.form x.data y.form y.data
theorem sameCh_iff {x y : Ch} : sameCh x y = true ↔ x = y := by
  obtain ⟨k1, f1, D1⟩ := x
  obtain ⟨k2, f2, D2⟩ := y
  unfold sameCh
  simp only [Bool.and_eq_true, beq_iff_eq, sameC_iff, Ch.mk.injEq]
theorem chunk_eq (k1 f1 k2 f2 : Int) (D1 D2 : ByteArray) (w : World) :
    (binOp .eql 91 (.agg #[.int .i64 k1, .int .i64 f1, .string D1]) (.agg #[.int .i64 k2, .int .i64 f2, .string D2])).run Tryd.prog w = .ok (.bool (sameCh ⟨k1, f1, D1⟩ ⟨k2, f2, D2⟩)) w := by
  have u3 := Tryd.underlying3
  have u9 := Tryd.underlying9
  have a3 := Tryd.isAgg3
  have z3 := Tryd.sizeOf3
  have a9 := Tryd.isAgg9
  have z9 := Tryd.sizeOf9
  have ac := Tryd.isAgg75
  have zc := Tryd.sizeOf75
  have hS : Tryd.prog.underlying 91 = some (.struct (Tryd.prog.fieldsOf 91)) := by kernel_rfl
  have hp : Tryd.prog.stoodInHeld 91 = false := by kernel_rfl
  have hS2 : Tryd.prog.underlying 75 = some (.struct (Tryd.prog.fieldsOf 75)) := by kernel_rfl
  have hp2 : Tryd.prog.stoodInHeld 75 = false := by kernel_rfl
  have hin : ∀ w, (Op.equalIn 9999 75 (.agg #[.int .i64 f1, .string D1]) (.agg #[.int .i64 f2, .string D2])).run Tryd.prog w = .ok (sameC f1 D1 f2 D2) w := by
    intro w
    rw [show (9999 : Nat) = 9998 + 1 from rfl, run_equalIn_agg w 9998 75 _ _ hS2 hp2]
    simp only [Program.fieldsOf, Tryd.underlying75]
    go_simp
    unfold sameC
    by_cases h1 : f1 = f2 <;> by_cases h2 : D1.toList = D2.toList <;> simp [h1, h2]
  rw [run_eql_struct, show (10000 : Nat) = 9999 + 1 from rfl, run_equalIn_agg w 9999 91 _ _ hS hp]
  simp only [Program.fieldsOf, Tryd.underlying91]
  clear hS2
  go_simp
  unfold sameCh
  by_cases h1 : k1 = k2 <;> cases sameC f1 D1 f2 D2 <;> simp [h1]
theorem chunk_neq (k1 f1 k2 f2 : Int) (D1 D2 : ByteArray) (w : World) :
    (binOp .neq 91 (.agg #[.int .i64 k1, .int .i64 f1, .string D1]) (.agg #[.int .i64 k2, .int .i64 f2, .string D2])).run Tryd.prog w = .ok (.bool (!sameCh ⟨k1, f1, D1⟩ ⟨k2, f2, D2⟩)) w := by
  have h := chunk_eq k1 f1 k2 f2 D1 D2 w
  rw [run_eql_struct] at h
  rw [run_neq_struct]
  cases hq : (Op.equalIn 10000 91 (.agg #[.int .i64 k1, .int .i64 f1, .string D1]) (.agg #[.int .i64 k2, .int .i64 f2, .string D2])).run Tryd.prog w with
  | ok b w' =>
    rw [hq] at h
    simp [Result.andThen] at h ⊢
    exact h
  | halt x w' => rw [hq] at h; simp [Result.andThen] at h
theorem chunk_guard (op : BinOp) (x y : Operand) (xs ys : Array Value) (w : World) : (eqGuard op 91 x y (.agg xs) (.agg ys)).run Tryd.prog w = .ok () w := run_eqGuard_agg w op 91 x y xs ys (by kernel_rfl)

/-- A bitmap's container of a key. -/
def atC (l : List Ch) (k : Int) : Int × ByteArray := match l.find? (fun x => x.key == k) with | some x => (x.form, x.data) | none => (1, bs [])
theorem atC_nil (k : Int) : atC [] k = (1, bs []) := rfl
theorem atC_cons (x : Ch) (l : List Ch) (k : Int) : atC (x :: l) k = if x.key = k then (x.form, x.data) else atC l k := by
  unfold atC
  rw [List.find?_cons]
  by_cases h : x.key = k
  · have : (x.key == k) = true := by simpa using h
    rw [this, if_pos h]
  · have : (x.key == k) = false := by simpa using h
    rw [this, if_neg h]
theorem atC_drop {l : List Ch} {j : Nat} (h : j < l.length) (k : Int) : atC (l.drop j) k = if l[j].key = k then (l[j].form, l[j].data) else atC (l.drop (j + 1)) k := by
  rw [List.drop_eq_getElem_cons h, atC_cons]
theorem ofRes_empty : ofRes 1 (bs []) = (0, true) := by decide +kernel
theorem atC_ok {l : List Ch} (hr : rightL l = true) (k : Nat) : ofRes (atC l k).1 (atC l k).2 = (setAt l k, true) := by
  have gen : ∀ (l : List Ch) (b : Int), rightF b l = true → ofRes (atC l k).1 (atC l k).2 = (setAt l k, true) := by
    intro l
    induction l with
    | nil => intro _ _; exact ofRes_empty
    | cons x l ih =>
      intro b h
      simp only [rightF, Bool.and_eq_true, decide_eq_true_eq] at h
      rw [atC_cons, setAt_cons]
      by_cases e : x.key = (k : Int)
      · rw [if_pos e, if_pos e]
        obtain ⟨s, hs, _, hf, hD⟩ := isBest_ex h.1.2
        unfold Ch.set
        rw [hf, hD, ofRes_best hs]
      · rw [if_neg e, if_neg e]
        exact ih _ h.2
  exact gen l _ hr
theorem atC_size {l : List Ch} (h : ∀ x ∈ l, x.data.size ≤ 1000000) (k : Int) : (atC l k).2.size ≤ 1000000 := by
  unfold atC
  split
  · rename_i x hx; exact h x (List.mem_of_find?_eq_some hx)
  · decide +kernel

theorem empty_any (w : World) : Calls Tryd.prog 80 #[] w fun e W' => e = .returned (.agg #[.int .i64 1, .string (bs [])]) ∧ Below w.heap.size w W' := by
  go_enter Tryd.func80, Tryd.ntmps80
  go_wp2
  exact bodyPost_ret (v := .agg #[.int .i64 1, .string (bs [])]) (by simp [results, Tryd.results80, go_sem]; rfl) rfl ⟨rfl, (Below.refl _ w).alloc (Nat.le_refl _) _⟩

set_option maxRecDepth 100000 in
set_option maxHeartbeats 4000000 in
theorem at_any {l : List Ch} {v : Value} (key : Int) {w : World} (h : HC w v l) (hl : l.length ≤ 4611686018427387904) :
    Calls Tryd.prog 46 #[.agg #[v], .int .i64 key] w fun e W' => e = .returned (.agg #[.int .i64 (atC l key).1, .string (atC l key).2]) ∧ Below w.heap.size w W' := by
  have hR : Below w.heap.size w ((w.alloc (.cells #[v] 28)).alloc (.cells #[.int .i64 0, .string ⟨#[]⟩] 75)) := ((Below.refl _ w).alloc (Nat.le_refl _) _).alloc (by simp) _
  have hM := Lib.hid (blk2_new (w.alloc (.cells #[v] 28)) (.int .i64 0) (.string ⟨#[]⟩) 75 (.cells #[] 75))
  have hres0 : Hid (CBox ((w.alloc (.cells #[v] 28)).alloc (.cells #[.int .i64 0, .string ⟨#[]⟩] 75)) (w.heap.size + 1) 0 ⟨#[]⟩) := by
    have := CBox.new (w.alloc (.cells #[v] 28)) 0 ⟨#[]⟩
    rw [World.size_alloc] at this; exact this
  clear hM
  obtain ⟨p, cap, rfl, hcap, hc⟩ := h.out
  have hc' := Lib.hid hc
  clear h hc
  go_enter Tryd.func46, Tryd.ntmps46
  go_wp2
  go_loopw [11] (fun i wr => ∃ (k : Nat), k ≤ l.length ∧ i = .int .i64 k ∧ Hid (atC (l.drop k) key = atC l key) ∧ Hid (Below w.heap.size w wr) ∧ Hid (CBox wr (w.heap.size + 1) 0 ⟨#[]⟩))
    (fun i _ => l.length - (intOf i).toNat)
  case atStart => exact ⟨0, Nat.zero_le _, rfl, rfl, Lib.hid hR, hres0⟩
  case round =>
    obtain ⟨k, hk, rfl, hrf, hB, hX⟩ := hrel
    by_cases hlt : k < l.length
    · obtain ⟨b, off, rfl, hb, h1, h2, h3⟩ := hc'.out k hlt
      have y1 := (hB.out.cell (p := ⟨b, off + k * 3, none⟩) hb).trans h1
      have y2 := (hB.out.cell (p := ⟨b, off + k * 3 + 1, none⟩) hb).trans h2
      have y3 := (hB.out.cell (p := ⟨b, off + k * 3 + 2, none⟩) hb).trans h3
      have hkd : decide (k < l.length) = true := by simpa using hlt
      have hst := atC_drop hlt key
      rw [hrf.out] at hst
      clear h1 h2 h3 hres0
      generalize l[k] = x at y1 y2 y3 hst
      obtain ⟨ky, f, D⟩ := x
      simp only at y1 y2 y3 hst
      have heq := chunk_eq ky f key f D D
      have hgd := chunk_guard
      by_cases c1 : ky = key
      · subst c1
        rw [if_pos rfl] at hst
        have hst' := Lib.hid hst
        rw [sameCh_iff.2 rfl] at heq
        obtain ⟨r0, r1, p0, p1⟩ := blk2_cells ((hX.out.alloc (.cells #[.int .i64 ky, .int .i64 f, .string D] 91)).alloc (.cells #[.int .i64 ky, .int .i64 f, .string D] 91))
        clear hst
        go_wp2
        have hrs := blk2_cells (heap_set2 ((hX.out.alloc (.cells #[.int .i64 ky, .int .i64 f, .string D] 91)).alloc (.cells #[.int .i64 ky, .int .i64 f, .string D] 91)) (.int .i64 f) (.string D))
        refine bodyPost_ret (v := .agg #[.int .i64 f, .string D]) ?_ rfl ⟨by rw [hst'.out], below_set2 ((hB.out.alloc hB.out.size _).alloc (by have := hB.out.size; simp; omega) _) (Nat.le_succ _) _ _⟩
        simp [results, Tryd.results46, go_sem, hrs.1, hrs.2.1]
      · rw [if_neg c1] at hst
        have hst' := Lib.hid hst
        have hne : sameCh ⟨ky, f, D⟩ ⟨key, f, D⟩ = false := by
          cases hq : sameCh ⟨ky, f, D⟩ ⟨key, f, D⟩
          · rfl
          · have := sameCh_iff.1 hq; simp at this; exact absurd this c1
        rw [hne] at heq
        clear hst hne c1
        go_wp2
        go_roundw
        case rel => exact ⟨k + 1, by omega, by go_num, Lib.hid hst'.out.symm, Lib.hid ((hB.out.alloc hB.out.size _).alloc (by have := hB.out.size; simp; omega) _), Lib.hid ((hX.out.alloc _).alloc _)⟩
        case measure => simp [intOf]; omega
    · have hkd : decide (k < l.length) = false := by simpa using hlt
      have hfin : Hid (atC l key = (1, bs [])) := by
        show _ = _
        rw [← hrf.out, List.drop_eq_nil_of_le (by omega)]; rfl
      have hem := Lib.hid (empty_any wr)
      go_wp2_with fail
      refine (hem.out).mono ?_
      rintro e W2 ⟨rfl, hb2⟩
      have hX2 := hX.out.later hb2
      obtain ⟨r0, r1, p0, p1⟩ := blk2_cells hX2
      have hB2 := hB.out.trans (hb2.mono hB.out.size)
      go_wp2
      have hrs := blk2_cells (heap_set2 hX2 (.int .i64 1) (.string (bs [])))
      refine bodyPost_ret (v := .agg #[.int .i64 1, .string (bs [])]) ?_ rfl ⟨by rw [hfin.out], below_set2 hB2 (Nat.le_succ _) _ _⟩
      simp [results, Tryd.results46, go_sem, hrs.1, hrs.2.1]
end Go.Proofs.YtnigpmbpipmgfaaDoor
