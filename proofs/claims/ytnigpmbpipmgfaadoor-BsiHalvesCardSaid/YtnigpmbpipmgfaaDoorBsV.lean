/-
  wide's Mul and Shift.
-/
import Derived.Test.YtnigpmbpipmgfaaDoorBsW
namespace Go.Proofs.YtnigpmbpipmgfaaDoor
open Go.RowKit Tess

theorem wrap_sub (x y : Int) : wrap64 (wrap64 x - y) = wrap64 (x - y) := by rw [wrap_eq, wrap_eq, wrap_eq]; omega
theorem mul_halves {n m : Int} (hn : -9223372036854775808 ≤ n ∧ n ≤ 9223372036854775807) (hm : -9223372036854775808 ≤ m ∧ m ≤ 9223372036854775807) (x y : Nat) (hx : (x : Int) = n % 18446744073709551616) (hy : (y : Int) = m % 18446744073709551616) :
    ((x * y % 18446744073709551616 : Nat) : Int) = loW (n * m) ∧
    (((x * y / 18446744073709551616 : Nat) : Int) - (if n < 0 then m else 0) - (if m < 0 then n else 0) - (n * m) / 18446744073709551616) % 18446744073709551616 = 0 := by
  obtain ⟨p, hp⟩ : ∃ p, n * m = p := ⟨_, rfl⟩
  have hxy : ((x * y : Nat) : Int) = p + (if n < 0 then 18446744073709551616 * m else 0) + (if m < 0 then 18446744073709551616 * n else 0) + (if n < 0 ∧ m < 0 then 340282366920938463463374607431768211456 else 0) := by
    have ex : (x : Int) = n + (if n < 0 then 18446744073709551616 else 0) := by split <;> omega
    have ey : (y : Int) = m + (if m < 0 then 18446744073709551616 else 0) := by split <;> omega
    rw [Int.natCast_mul, ex, ey, Int.add_mul, Int.mul_add, Int.mul_add, hp]
    by_cases h1 : n < 0 <;> by_cases h2 : m < 0 <;> simp only [h1, h2, if_true, if_false, and_self, and_true, and_false] <;> omega
  rw [hp]
  unfold loW
  generalize x * y = q at *
  by_cases h1 : n < 0 <;> by_cases h2 : m < 0 <;> simp only [h1, h2, if_true, if_false, and_self, and_true, and_false] at hxy ⊢ <;> omega

set_option maxRecDepth 100000 in
set_option maxHeartbeats 4000000 in
theorem wideMul_any (n m : Int) (w : World) (hn : -9223372036854775808 ≤ n ∧ n ≤ 9223372036854775807) (hm : -9223372036854775808 ≤ m ∧ m ≤ 9223372036854775807) :
    Calls Tryd.prog 50 #[.int .i64 n, .int .i64 m] w fun e w' => e = .returned (wdV (n * m)) ∧ Below w.heap.size w w' := by
  obtain ⟨x, hx⟩ : ∃ x : Nat, (x : Int) = n % 18446744073709551616 := ⟨(n % 18446744073709551616).toNat, by omega⟩
  obtain ⟨y, hy⟩ : ∃ y : Nat, (y : Int) = m % 18446744073709551616 := ⟨(m % 18446744073709551616).toNat, by omega⟩
  have e1 : IntKind.u64.wrap n = (x : Int) := by rw [IntKind.wrap_u64]; omega
  have e2 : IntKind.u64.wrap m = (y : Int) := by rw [IntKind.wrap_u64]; omega
  have e1' := hx.symm
  have e2' := hy.symm
  have hk := Lib.hid (fun w => mul64_any x y (by omega) (by omega) w)
  obtain ⟨hlo, hhi⟩ := mul_halves hn hm x y hx hy
  obtain ⟨h, hh⟩ : ∃ h : Nat, x * y / 18446744073709551616 = h := ⟨_, rfl⟩
  obtain ⟨l, hl⟩ : ∃ l : Nat, x * y % 18446744073709551616 = l := ⟨_, rfl⟩
  rw [hh] at hhi
  rw [hl] at hlo
  rw [hh, hl] at hk
  have hW : Hid (hiW (n * m) = (h - (if n < 0 then m else 0) - (if m < 0 then n else 0) + 9223372036854775808) % 18446744073709551616 - 9223372036854775808) := by
    show _ = _
    rw [hiW_eq]
    generalize (n * m) / 18446744073709551616 = t at *
    generalize (if n < 0 then m else 0) = t1 at *
    generalize (if m < 0 then n else 0) = t2 at *
    omega
  have hlo' := Lib.hid hlo
  clear hh hl hhi hlo hx hy
  unfold wdV
  have hx := WBox.new (w.alloc (.cells #[.int .i64 (hiW (n * m)), .int .u64 (loW (n * m))] 43)) (n * m)
  have c0 := hx.c0
  have c1 := hx.c1
  simp only [World.size_alloc] at c0 c1
  have hx0 := (WBox.new w (n * m)).alloc (.cells #[.int .i64 (hiW (n * m)), .int .u64 (loW (n * m))] 43)
  have d0 := hx0.c0
  have d1 := hx0.c1
  by_cases h1 : n < 0 <;> by_cases h2 : m < 0 <;> simp only [h1, h2, if_true, if_false] at hW
  · have hq : Hid (wrap64 (wrap64 (wrap64 h - m) - n) = hiW (n * m)) := by show _ = _; rw [hW.out]; (try simp only [wrap_sub]); (try simp only [Int.sub_zero]); rw [wrap_eq]
    have hxx := Lib.hid (And.intro c0 (And.intro c1 (And.intro d0 d1)))
    clear hx hx0 c0 c1 d0 d1 hW
    go_enter Tryd.func50, Tryd.ntmps50
    go_wp2_with fail
    refine (hk.out _).mono ?_
    rintro e W ⟨rfl, rfl⟩
    go_wp2
    rw [hlo'.out]
    rw [hq.out]
    obtain ⟨-, -, d0, d1⟩ := hxx.out
    refine bodyPost_ret (v := .agg #[.int .i64 (hiW (n * m)), .int .u64 (loW (n * m))]) ?_ rfl ⟨rfl, ((Below.refl w.heap.size w).alloc (Nat.le_refl _) _).alloc (by simp) _⟩
    simp [results, Tryd.results50, go_sem, d0, d1]
  · have hq : Hid (wrap64 (wrap64 h - m) = hiW (n * m)) := by show _ = _; rw [hW.out]; (try simp only [wrap_sub]); (try simp only [Int.sub_zero]); rw [wrap_eq]
    have hxx := Lib.hid (And.intro c0 (And.intro c1 (And.intro d0 d1)))
    clear hx hx0 c0 c1 d0 d1 hW
    go_enter Tryd.func50, Tryd.ntmps50
    go_wp2_with fail
    refine (hk.out _).mono ?_
    rintro e W ⟨rfl, rfl⟩
    go_wp2
    rw [hlo'.out]
    rw [hq.out]
    obtain ⟨-, -, d0, d1⟩ := hxx.out
    refine bodyPost_ret (v := .agg #[.int .i64 (hiW (n * m)), .int .u64 (loW (n * m))]) ?_ rfl ⟨rfl, ((Below.refl w.heap.size w).alloc (Nat.le_refl _) _).alloc (by simp) _⟩
    simp [results, Tryd.results50, go_sem, d0, d1]
  · have hq : Hid (wrap64 (wrap64 h - n) = hiW (n * m)) := by show _ = _; rw [hW.out]; (try simp only [wrap_sub]); (try simp only [Int.sub_zero]); rw [wrap_eq]
    have hxx := Lib.hid (And.intro c0 (And.intro c1 (And.intro d0 d1)))
    clear hx hx0 c0 c1 d0 d1 hW
    go_enter Tryd.func50, Tryd.ntmps50
    go_wp2_with fail
    refine (hk.out _).mono ?_
    rintro e W ⟨rfl, rfl⟩
    go_wp2
    rw [hlo'.out]
    rw [hq.out]
    obtain ⟨-, -, d0, d1⟩ := hxx.out
    refine bodyPost_ret (v := .agg #[.int .i64 (hiW (n * m)), .int .u64 (loW (n * m))]) ?_ rfl ⟨rfl, ((Below.refl w.heap.size w).alloc (Nat.le_refl _) _).alloc (by simp) _⟩
    simp [results, Tryd.results50, go_sem, d0, d1]
  · have hq : Hid (wrap64 h = hiW (n * m)) := by show _ = _; rw [hW.out]; (try simp only [wrap_sub]); (try simp only [Int.sub_zero]); rw [wrap_eq]
    have hxx := Lib.hid (And.intro c0 (And.intro c1 (And.intro d0 d1)))
    clear hx hx0 c0 c1 d0 d1 hW
    go_enter Tryd.func50, Tryd.ntmps50
    go_wp2_with fail
    refine (hk.out _).mono ?_
    rintro e W ⟨rfl, rfl⟩
    go_wp2
    rw [hlo'.out]
    rw [hq.out]
    obtain ⟨-, -, d0, d1⟩ := hxx.out
    refine bodyPost_ret (v := .agg #[.int .i64 (hiW (n * m)), .int .u64 (loW (n * m))]) ?_ rfl ⟨rfl, ((Below.refl w.heap.size w).alloc (Nat.le_refl _) _).alloc (by simp) _⟩
    simp [results, Tryd.results50, go_sem, d0, d1]

theorem i64_or_zero (z : Nat) (hz : z ≤ 65536) : bits .or .i64 0 (z : Int) = z := by
  show IntKind.i64.wrap ((BitVec.ofInt 64 0 ||| BitVec.ofInt 64 (z : Int)).toNat : Int) = _
  rw [BitVec.toNat_or, ofInt_u64 _ (by omega), show (BitVec.ofInt 64 (0 : Int)).toNat = 0 from rfl, Nat.zero_or, IntKind.wrap_i64]
  omega
theorem shift_halves {a k : Nat} (ha : a ≤ 65536) (hk : k ≤ 63) : bits .or .i64 0 (wrap64 ((a : Int) / 2 ^ (64 - k))) = hiW ((a : Int) * 2 ^ k) ∧ IntKind.u64.wrap ((a : Int) * 2 ^ k) = loW ((a : Int) * 2 ^ k) := by
  have hp : (18446744073709551616 : Nat) = 2 ^ (64 - k) * 2 ^ k := by
    rw [← Nat.pow_add, show 64 - k + k = 64 by omega]
  have h1 : a * 2 ^ k / 18446744073709551616 = a / 2 ^ (64 - k) := by
    rw [hp]; exact Nat.mul_div_mul_right a _ (Nat.pow_pos (by decide))
  have h2 : a / 2 ^ (64 - k) ≤ 65536 := Nat.le_trans (Nat.div_le_self _ _) ha
  have e1 : (a : Int) / 2 ^ (64 - k) = ((a / 2 ^ (64 - k) : Nat) : Int) := by simp
  have e2 : (a : Int) * 2 ^ k = ((a * 2 ^ k : Nat) : Int) := by simp
  rw [e1, e2]
  generalize a / 2 ^ (64 - k) = q at *
  generalize a * 2 ^ k = r at *
  refine ⟨?_, by rw [IntKind.wrap_u64]; rfl⟩
  have e3 : wrap64 (q : Int) = (q : Int) := by rw [wrap_eq]; omega
  rw [e3, i64_or_zero q h2, hiW_eq]
  omega

set_option maxRecDepth 100000 in
set_option maxHeartbeats 4000000 in
theorem wideShift_any (a k : Nat) (w : World) (ha : a ≤ 65536) (hk : k ≤ 63) :
    Calls Tryd.prog 51 #[wdV a, .int .i64 k] w fun e w' => e = .returned (wdV ((a : Int) * 2 ^ k)) ∧ Below w.heap.size w w' := by
  obtain ⟨q1, q2⟩ := shift_halves ha hk
  have k1 : decide ((k : Int) < 0) = false := decide_eq_false (by omega)
  have k2 : decide (127 < k) = false := decide_eq_false (by omega)
  have k3 : decide (64 ≤ k) = false := decide_eq_false (by omega)
  have x1 := (WBox.new w a).alloc (.cells #[.int .i64 0, .int .u64 0] 43)
  have y1 := x1.c0; have y2 := x1.c1
  have eh : hiW a = 0 := by rw [hiW_eq]; omega
  have el : loW a = a := by unfold loW; omega
  unfold wdV
  simp only [eh, el] at y1 y2 ⊢
  have x3 := Lib.hid (WBox.new (w.alloc (.cells #[.int .i64 0, .int .u64 (a : Int)] 43)) ((a : Int) * 2 ^ k))
  have q1' := Lib.hid q1
  have q2' := Lib.hid q2
  clear x1 q1 q2
  go_enter Tryd.func51, Tryd.ntmps51
  go_wp2
  go_region
  all_goals
    rw [q1'.out, q2'.out]
    have c0 := x3.out.c0
    have c1 := x3.out.c1
    simp only [World.size_alloc] at c0 c1
    go_wp2
    refine bodyPost_ret (v := .agg #[.int .i64 (hiW ((a : Int) * 2 ^ k)), .int .u64 (loW ((a : Int) * 2 ^ k))]) ?_ rfl ⟨rfl, (((Below.refl w.heap.size w).alloc (Nat.le_refl _) _).alloc (by simp) _).drew⟩
    simp [results, Tryd.results51, go_sem, c0, c1]
end Go.Proofs.YtnigpmbpipmgfaaDoor
