/-
  cont's Right and As.
-/
import Derived.ChangeKeysEq
import Derived.Test.YtiannfegjbbpfaaDoorPlain
namespace Go.Proofs.YtiannfegjbbpfaaDoor
open Go.RowKit Tess

theorem limbs_zero {s : Nat} (hs : s < big) (h : ∀ j, j < 4 → limb s j = 0) : s = 0 := by
  refine Nat.eq_of_testBit_eq fun i => ?_
  rw [Nat.zero_testBit]
  by_cases hi : i < 256
  · have h1 := testBit_limb s (i / 64) (i % 64)
    rw [h (i / 64) (by omega), show 64 * (i / 64) + i % 64 = i by omega] at h1
    simpa [show i % 64 < 64 by omega] using h1.symm
  · exact Nat.testBit_lt_two_pow (Nat.lt_of_lt_of_le hs (by show 2 ^ 256 ≤ 2 ^ i; exact Nat.pow_le_pow_right (by decide) (by omega)))

theorem words_neq (s : Nat) (hs : s < big) (w : World) :
    (binOp .neq 51 (.agg #[.int .u64 (limb s 0 : Int), .int .u64 (limb s 1 : Int), .int .u64 (limb s 2 : Int), .int .u64 (limb s 3 : Int)]) (.agg #[.int .u64 0, .int .u64 0, .int .u64 0, .int .u64 0])).run Tryd.prog w = .ok (.bool (s != 0)) w := by
  have u := Tryd.underlying49
  have hz := Tryd.sizeOf49
  have ha := Tryd.isAgg49
  have hi : ∃ i, Tryd.prog.info? 49 = some i := Option.isSome_iff_exists.1 (by kernel_rfl)
  obtain ⟨i, hi⟩ := hi
  have hc : Tryd.prog.cellsOf 49 = 1 := by kernel_rfl
  rw [run_neq_struct, show (10000 : Nat) = 9999 + 1 from rfl, run_equalIn_array w 9999 _ _ Tryd.underlying51 hi]
  rw [show List.range 4 = [0, 1, 2, 3] from rfl, hc]
  simp only [Op.eqItems]
  go_simp
  by_cases h0 : s = 0
  · subst h0; simp [limb_zero]
  · have hne : ¬ (limb s 0 = 0 ∧ limb s 1 = 0 ∧ limb s 2 = 0 ∧ limb s 3 = 0) := by
      rintro ⟨a, b, c, d⟩
      exact h0 (limbs_zero hs fun j hj => by
        match j, hj with
        | 0, _ => exact a
        | 1, _ => exact b
        | 2, _ => exact c
        | 3, _ => exact d)
    have e : (s != 0) = true := by simpa using h0
    rw [e]
    by_cases a : limb s 0 = 0 <;> by_cases b : limb s 1 = 0 <;> by_cases c : limb s 2 = 0 <;> by_cases d : limb s 3 = 0 <;> simp_all
theorem words_guard (op : BinOp) (x y : Operand) (xs ys : Array Value) (w : World) : (eqGuard op 51 x y (.agg xs) (.agg ys)).run Tryd.prog w = .ok () w := run_eqGuard_agg w op 51 x y xs ys (by kernel_rfl)

theorem ofRes_lt (f : Int) (D : ByteArray) : (ofRes f D).1 < big := by
  unfold ofRes ofC
  split
  · rename_i s h
    split at h
    · cases h; exact readTo_lt (dn_get_lt D) _
    · cases h
  · decide +kernel

set_option maxRecDepth 100000 in
set_option maxHeartbeats 4000000 in
/-- **Right(c)** -/
theorem Right_any (f : Int) (D : ByteArray) (w : World) (hD : D.size ≤ 1000000) (hT : Tab w) :
    Calls Tryd.prog 24 #[.agg #[.int .i64 f, .string D]] w fun e W' => e = .returned (.bool (rightRes f D)) ∧ Below w.heap.size w W' := by
  have hR : Below w.heap.size w (w.alloc (.cells #[.int .i64 f, .string D] 25)) := ((Below.refl _ w).alloc (Nat.le_refl _) _)
  have ho := Lib.hid (of_any f D _ hD (hT.below hR hT.lt))
  have hx := CBox.new w f D
  have hlt := Lib.hid (ofRes_lt f D)
  go_enter Tryd.func24, Tryd.ntmps24
  go_wp2_with fail
  refine (ho.out).mono ?_
  rintro e W1 ⟨rfl, hb1⟩
  obtain ⟨hw, hB⟩ := of_words (ofRes f D).1 hb1
  have hx2 := (hx.later hb1).alloc (.cells #[.int .u64 (limb (ofRes f D).1 0 : Int), .int .u64 (limb (ofRes f D).1 1 : Int), .int .u64 (limb (ofRes f D).1 2 : Int), .int .u64 (limb (ofRes f D).1 3 : Int)] 51)
  obtain ⟨d0, d1, _, _⟩ := blk2_cells hx2
  have c0 := hw.cell (i := 0) (by decide)
  have c1 := hw.cell (i := 1) (by decide)
  have c2 := hw.cell (i := 2) (by decide)
  have c3 := hw.cell (i := 3) (by decide)
  have hres : Hid (rightRes f D = ((ofRes f D).2 && (((ofRes f D).1 != 0 || D.toList.isEmpty) || f == 2))) := by show _ = _; rfl
  generalize (ofRes f D).1 = s at hlt hw hB hx2 d0 d1 c0 c1 c2 c3 hres ⊢
  generalize (ofRes f D).2 = ok at hres ⊢
  have hneq := words_neq s hlt.out
  have hgd := words_guard
  have hB' := Lib.hid hB
  clear hb1 hx hw hB hx2
  simp only [wv, wcs, lv]
  cases ok with
  | false =>
    go_wp2
    exact bodyPost_ret (v := .bool false) (by simp [results, Tryd.results24, go_sem]) rfl ⟨by rw [hres.out]; rfl, hB'.out⟩
  | true =>
    cases h0 : (s != 0) with
    | true =>
      rw [h0] at hneq hres
      go_wp2
      all_goals exact bodyPost_ret (v := .bool true) (by simp [results, Tryd.results24, go_sem]) rfl ⟨by rw [hres.out]; rfl, hB'.out⟩
    | false =>
      rw [h0] at hneq hres
      go_wp2
      all_goals exact bodyPost_ret (v := .bool (D.toList.isEmpty || f == 2)) (by simp [results, Tryd.results24, go_sem, *]) rfl ⟨by rw [hres.out]; rfl, hB'.out⟩
end Go.Proofs.YtiannfegjbbpfaaDoor
