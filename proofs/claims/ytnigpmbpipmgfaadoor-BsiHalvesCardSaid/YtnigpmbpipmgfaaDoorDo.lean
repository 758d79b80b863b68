/-
  cont's Op: the four word functions; the map of four functions; a set of which the first words are another's.
-/
import Derived.RangeFuncCalls
import Derived.RangeFuncNested
import Derived.Test.YtnigpmbpipmgfaaDoorPlain
namespace Go.Proofs.YtnigpmbpipmgfaaDoor
open Go.RowKit Go.MapKept Tess

theorem minus_word {x y : Nat} (hx : x < 18446744073709551616) (hy : y < 18446744073709551616) : x &&& (18446744073709551615 - y) = minus x y := by
  apply Nat.eq_of_testBit_eq
  intro n
  rw [testBit_minus, Nat.testBit_and, show (18446744073709551615 - y : Nat) = 2 ^ 64 - (y + 1) by omega, Nat.testBit_two_pow_sub_succ hy]
  by_cases hn : n < 64
  · simp [hn]
  · rw [Nat.testBit_lt_two_pow (Nat.lt_of_lt_of_le hx (show 18446744073709551616 ≤ 2 ^ n from Nat.pow_le_pow_right (n := 2) (i := 64) (by decide) (by omega)))]
    simp
theorem do1 (x y : Nat) (hx : x < 18446744073709551616) (hy : y < 18446744073709551616) (w : World) : Calls Tryd.prog 96 #[.int .u64 x, .int .u64 y] w fun e W' => e = .returned (.int .u64 ((opOf 1 x y : Nat) : Int)) ∧ w = W' := by
  have h := u64_and_nat x y hx hy
  go_enter Tryd.func96, Tryd.ntmps96
  go_wp2
  exact bodyPost_ret (v := .int .u64 ((x &&& y : Nat) : Int)) (by simp [results, Tryd.results96, go_sem]) rfl ⟨rfl, rfl⟩
theorem do2 (x y : Nat) (hx : x < 18446744073709551616) (hy : y < 18446744073709551616) (w : World) : Calls Tryd.prog 97 #[.int .u64 x, .int .u64 y] w fun e W' => e = .returned (.int .u64 ((opOf 2 x y : Nat) : Int)) ∧ w = W' := by
  have h := u64_or_nat x y hx hy
  go_enter Tryd.func97, Tryd.ntmps97
  go_wp2
  exact bodyPost_ret (v := .int .u64 ((x ||| y : Nat) : Int)) (by simp [results, Tryd.results97, go_sem]) rfl ⟨rfl, rfl⟩
theorem do3 (x y : Nat) (hx : x < 18446744073709551616) (hy : y < 18446744073709551616) (w : World) : Calls Tryd.prog 98 #[.int .u64 x, .int .u64 y] w fun e W' => e = .returned (.int .u64 ((opOf 3 x y : Nat) : Int)) ∧ w = W' := by
  have h := u64_xor_nat x y hx hy
  go_enter Tryd.func98, Tryd.ntmps98
  go_wp2
  exact bodyPost_ret (v := .int .u64 ((x ^^^ y : Nat) : Int)) (by simp [results, Tryd.results98, go_sem]) rfl ⟨rfl, rfl⟩
theorem do4 (x y : Nat) (hx : x < 18446744073709551616) (hy : y < 18446744073709551616) (w : World) : Calls Tryd.prog 99 #[.int .u64 x, .int .u64 y] w fun e W' => e = .returned (.int .u64 ((opOf 4 x y : Nat) : Int)) ∧ w = W' := by
  have h := u64_andNot_nat x y hx hy
  rw [minus_word hx hy] at h
  go_enter Tryd.func99, Tryd.ntmps99
  go_wp2
  exact bodyPost_ret (v := .int .u64 ((minus x y : Nat) : Int)) (by simp [results, Tryd.results99, go_sem]) rfl ⟨rfl, rfl⟩

/-- Four functions under 1 to 4. -/
def fn4 (f g h k : FuncId) : Array MapEntry := #[fnEntry 1 f 0, fnEntry 2 g 1, fnEntry 3 h 2, fnEntry 4 k 3]
theorem insert4 {P : Program} {T K E : TypeId} (W : World) (f g h k : FuncId) (hT : P.underlying T = some (.map K E)) (hK : P.underlying K = some (.int .i64)) :
    (Instr.mapUpdate T (.map (some W.heap.size)) (.int .i64 1) (.func (.func f) #[] #[])).run P (W.alloc (.map #[] 0)) = .ok () (W.alloc (.map #[fnEntry 1 f 0] 1)) ∧
    (Instr.mapUpdate T (.map (some W.heap.size)) (.int .i64 2) (.func (.func g) #[] #[])).run P (W.alloc (.map #[fnEntry 1 f 0] 1)) = .ok () (W.alloc (.map #[fnEntry 1 f 0, fnEntry 2 g 1] 2)) ∧
    (Instr.mapUpdate T (.map (some W.heap.size)) (.int .i64 3) (.func (.func h) #[] #[])).run P (W.alloc (.map #[fnEntry 1 f 0, fnEntry 2 g 1] 2)) = .ok () (W.alloc (.map #[fnEntry 1 f 0, fnEntry 2 g 1, fnEntry 3 h 2] 3)) ∧
    (Instr.mapUpdate T (.map (some W.heap.size)) (.int .i64 4) (.func (.func k) #[] #[])).run P (W.alloc (.map #[fnEntry 1 f 0, fnEntry 2 g 1, fnEntry 3 h 2] 3)) = .ok () (W.alloc (.map (fn4 f g h k) 4)) := by
  refine ⟨?_, ?_, ?_, ?_⟩
  · exact insert_last W 1 _ hT hK (fun x hx => by simp at hx)
  · exact insert_last W 2 _ hT hK (fun x hx => by simp at hx; subst hx; exact ⟨1, rfl, by decide⟩)
  · exact insert_last W 3 _ hT hK (fun x hx => by simp at hx; rcases hx with rfl | rfl; exact ⟨1, rfl, by decide⟩; exact ⟨2, rfl, by decide⟩)
  · exact insert_last W 4 _ hT hK (fun x hx => by simp at hx; rcases hx with rfl | rfl | rfl; exact ⟨1, rfl, by decide⟩; exact ⟨2, rfl, by decide⟩; exact ⟨3, rfl, by decide⟩)
theorem zero_do (w : World) : (zeroValue 134).run Tryd.prog w = .ok .nilFunc w := by kernel_rfl

/-- WHAT THE LOOK-UP GIVES: a value, whether it is there; and if so, a function that does the operation word by word. -/
def DoLook (op : Int) (fv : Value) (there : Bool) : Prop :=
  (there = false ∧ ¬ (1 ≤ op ∧ op ≤ 4)) ∨ (there = true ∧ 1 ≤ op ∧ op ≤ 4 ∧ ∃ g : FuncId, fv = .func (.func g) #[] #[] ∧ (∀ args w, (callFunc g args).run Tryd.prog w = .ok (.enter g args) w) ∧
    ∀ (x y : Nat) (w : World), x < 18446744073709551616 → y < 18446744073709551616 → Calls Tryd.prog g #[.int .u64 x, .int .u64 y] w fun e W' => e = .returned (.int .u64 ((opOf op x y : Nat) : Int)) ∧ w = W')
theorem look4 (op : Int) : ∃ fv there, DoLook op fv there ∧ ∀ W : World,
    (Instr.lookup 136 (.map (some W.heap.size)) (.int .i64 op) true).run Tryd.prog (W.alloc (.map (fn4 96 97 98 99) 4)) = .ok (.tuple #[fv, .bool there]) (W.alloc (.map (fn4 96 97 98 99) 4)) := by
  have hT := Tryd.underlying136
  have hK := Tryd.underlying3
  by_cases h1 : op = 1
  · subst h1
    exact ⟨.func (.func 96) #[] #[], true, .inr ⟨rfl, by decide, by decide, _, rfl, enters_of Tryd.func96 (by kernel_rfl) rfl, fun x y w hx hy => do1 x y hx hy w⟩, fun W => run_look_some 1 0 (fnEntry 1 _ 0) hT hK (World.alloc_heap_new W _) rfl⟩
  by_cases h2 : op = 2
  · subst h2
    exact ⟨.func (.func 97) #[] #[], true, .inr ⟨rfl, by decide, by decide, _, rfl, enters_of Tryd.func97 (by kernel_rfl) rfl, fun x y w hx hy => do2 x y hx hy w⟩, fun W => run_look_some 2 1 (fnEntry 2 _ 1) hT hK (World.alloc_heap_new W _) rfl⟩
  by_cases h3 : op = 3
  · subst h3
    exact ⟨.func (.func 98) #[] #[], true, .inr ⟨rfl, by decide, by decide, _, rfl, enters_of Tryd.func98 (by kernel_rfl) rfl, fun x y w hx hy => do3 x y hx hy w⟩, fun W => run_look_some 3 2 (fnEntry 3 _ 2) hT hK (World.alloc_heap_new W _) rfl⟩
  by_cases h4 : op = 4
  · subst h4
    exact ⟨.func (.func 99) #[] #[], true, .inr ⟨rfl, by decide, by decide, _, rfl, enters_of Tryd.func99 (by kernel_rfl) rfl, fun x y w hx hy => do4 x y hx hy w⟩, fun W => run_look_some 4 3 (fnEntry 4 _ 3) hT hK (World.alloc_heap_new W _) rfl⟩
  · refine ⟨.nilFunc, false, .inl ⟨rfl, by omega⟩, fun W => run_look_none op _ hT hK (World.alloc_heap_new W _) (fun x hx => ?_) (zero_do _)⟩
    simp [fn4] at hx
    rcases hx with rfl | rfl | rfl | rfl
    · exact ⟨1, rfl, Ne.symm h1⟩
    · exact ⟨2, rfl, Ne.symm h2⟩
    · exact ⟨3, rfl, Ne.symm h3⟩
    · exact ⟨4, rfl, Ne.symm h4⟩

/-! ## the first k words of r, the others of s -/
def mixTo (r s k : Nat) : Nat := r % 2 ^ (64 * k) ||| ((s >>> (64 * k)) <<< (64 * k))
theorem testBit_mixTo (r s k n : Nat) : (mixTo r s k).testBit n = if n < 64 * k then r.testBit n else s.testBit n := by
  unfold mixTo
  rw [Nat.testBit_or, Nat.testBit_mod_two_pow, Nat.testBit_shiftLeft, Nat.testBit_shiftRight]
  by_cases h : n < 64 * k
  · have h' : ¬ 64 * k ≤ n := by omega
    simp [h, h']
  · have h' : 64 * k ≤ n := by omega
    simp [h, h', show 64 * k + (n - 64 * k) = n by omega]
theorem limb_mixTo (r s k j : Nat) : limb (mixTo r s k) j = if j < k then limb r j else limb s j := by
  refine limb_eq_of (by split <;> exact limb_lt _ _) fun i hi => ?_
  rw [testBit_mixTo]
  by_cases h : j < k
  · have h' : 64 * j + i < 64 * k := by omega
    simp only [h, h', if_true, testBit_limb, hi, decide_true, Bool.true_and]
  · have h' : ¬ 64 * j + i < 64 * k := by omega
    simp only [h, h', if_false, testBit_limb, hi, decide_true, Bool.true_and]
theorem mixTo_zero (r s : Nat) : mixTo r s 0 = s := Nat.eq_of_testBit_eq fun n => by rw [testBit_mixTo]; simp
theorem mixTo_four {r s : Nat} (hr : r < big) (hs : s < big) : mixTo r s 4 = r := Nat.eq_of_testBit_eq fun n => by
  rw [testBit_mixTo]
  by_cases h : n < 64 * 4
  · simp [h]
  · rw [if_neg h, testBit_big hr (by omega), testBit_big hs (by omega)]
end Go.Proofs.YtnigpmbpipmgfaaDoor
