/-
  BsW, BsV: several texts in one (merge.py).
-/
import Derived.Test.YtnigpmbpipmgfaaDoorBsM
import Derived.Laws.Externs
import Derived.Laws.Bits64b
import Derived.Lib.Mul64
import Derived.Lib.BitFns
import Derived.Lib.ItoaNum

/-
  math/bits' Add64, Mul64, Len64, and wide's Of, Add, Mul, Shift: numbers of 128 bits.
-/
namespace Go.Proofs.YtnigpmbpipmgfaaDoor
open Go.RowKit Tess

theorem lenB_eq {x : Nat} (h : x < 18446744073709551616) : Lib.bitLen x = lenB x := by
  by_cases h0 : x = 0
  · subst h0; decide
  · obtain ⟨h1, h2, h3⟩ := Lib.bitLenAux_bounds 64 x (by simpa using h) h0
    change Lib.bitLenAux 64 x = _
    generalize Lib.bitLenAux 64 x = k at *
    have a : lenB x ≤ k := lenB_le.2 h3
    have b : ¬ lenB x ≤ k - 1 := fun hh => by have := lenB_le.1 hh; omega
    omega

theorem len8_size : Lib.len8tab.size = 256 := by decide +kernel
theorem len8_fin : ∀ n : Fin 256, (Lib.len8tab[n.val]'(by rw [len8_size]; exact n.isLt)).toNat = Lib.bitLen n.val := by decide +kernel
theorem len8_get (i : Int) (h0 : 0 ≤ i) (h1 : i < 256) (hb : i.toNat < Lib.len8tab.size) : (Lib.len8tab[i.toNat]'hb).toNat = Lib.bitLen i.toNat ∧ Lib.bitLen i.toNat ≤ 8 :=
  ⟨len8_fin ⟨i.toNat, by omega⟩, Lib.bitLen_le8' i h0 (by omega)⟩
theorem wrap_eq (x : Int) : wrap64 x = (x + 9223372036854775808) % 18446744073709551616 - 9223372036854775808 := by unfold wrap64; rfl
theorem len_arm {i : Int} {n k : Nat} {s : Int} (h0 : 0 ≤ i) (h1 : i < 256) (hb : i.toNat < Lib.len8tab.size) (he : n = k + Lib.bitLen i.toNat) (hk : k ≤ 56) (hs : s = k) : wrap64 (s + wrap64 ((Lib.len8tab[i.toNat]'hb).toNat : Int)) = (n : Int) := by
  obtain ⟨e0, e8⟩ := len8_get i h0 h1 hb
  rw [e0, he, hs, wrap_eq, wrap_eq]
  generalize Lib.bitLen i.toNat = m at *
  omega
theorem len_arm0 {i : Int} (h0 : 0 ≤ i) (h1 : i < 256) (hb : i.toNat < Lib.len8tab.size) : wrap64 (wrap64 ((Lib.len8tab[i.toNat]'hb).toNat : Int)) = (Lib.bitLen i.toNat : Int) := by
  obtain ⟨e0, e8⟩ := len8_get i h0 h1 hb
  rw [e0, wrap_eq, wrap_eq]
  generalize Lib.bitLen i.toNat = m at *
  omega
theorem len_e56 {x : Int} (h0 : 72057594037927936 ≤ x) (h1 : x ≤ 18446744073709551615) : Lib.bitLen x.toNat = 56 + Lib.bitLen (x / 4294967296 / 65536 / 256).toNat := by
  rw [show (x / 4294967296 / 65536 / 256).toNat = x.toNat / 72057594037927936 by omega]
  exact Lib.bitLen_shift56 x.toNat (by omega) (by omega)
theorem len_e48 {x : Int} (h0 : 281474976710656 ≤ x) (h1 : x ≤ 18446744073709551615) : Lib.bitLen x.toNat = 48 + Lib.bitLen (x / 4294967296 / 65536).toNat := by
  rw [show (x / 4294967296 / 65536).toNat = x.toNat / 281474976710656 by omega]
  exact Lib.bitLen_shift48 x.toNat (by omega) (by omega)
theorem len_e40 {x : Int} (h0 : 1099511627776 ≤ x) (h1 : x ≤ 18446744073709551615) : Lib.bitLen x.toNat = 40 + Lib.bitLen (x / 4294967296 / 256).toNat := by
  rw [show (x / 4294967296 / 256).toNat = x.toNat / 1099511627776 by omega]
  exact Lib.bitLen_shift40 x.toNat (by omega) (by omega)
theorem len_e32 {x : Int} (h0 : 4294967296 ≤ x) (h1 : x ≤ 18446744073709551615) : Lib.bitLen x.toNat = 32 + Lib.bitLen (x / 4294967296).toNat := by
  rw [show (x / 4294967296).toNat = x.toNat / 4294967296 by omega]
  exact Lib.bitLen_shift32 x.toNat (by omega) (by omega)
theorem len_e24 {x : Int} (h0 : 16777216 ≤ x) (h1 : x ≤ 18446744073709551615) : Lib.bitLen x.toNat = 24 + Lib.bitLen (x / 65536 / 256).toNat := by
  rw [show (x / 65536 / 256).toNat = x.toNat / 16777216 by omega]
  exact Lib.bitLen_shift24 x.toNat (by omega) (by omega)
theorem len_e16 {x : Int} (h0 : 65536 ≤ x) (h1 : x ≤ 18446744073709551615) : Lib.bitLen x.toNat = 16 + Lib.bitLen (x / 65536).toNat := by
  rw [show (x / 65536).toNat = x.toNat / 65536 by omega]
  exact Lib.bitLen_shift16 x.toNat (by omega) (by omega)
theorem len_e8 {x : Int} (h0 : 256 ≤ x) (h1 : x ≤ 18446744073709551615) : Lib.bitLen x.toNat = 8 + Lib.bitLen (x / 256).toNat := by
  rw [show (x / 256).toNat = x.toNat / 256 by omega]
  exact Lib.bitLen_shift8 x.toNat (by omega) (by omega)

set_option maxRecDepth 100000 in
set_option maxHeartbeats 4000000 in
theorem len64_any (x : Int) (w : World) (h0 : 0 ≤ x) (h1 : x ≤ 18446744073709551615) :
    Calls Tryd.prog 41 #[.int .u64 x] w fun e w' => e = .returned (.int .i64 (lenB x.toNat)) ∧ w' = w := by
  rw [← lenB_eq (by omega)]
  go_enter Tryd.func41, Tryd.ntmps41
  go_wp2
  all_goals first
    | (exfalso; have hsz := len8_size; omega)
    | skip
  all_goals (go_ret; refine ⟨congrArg Ending.returned (congrArg (Value.int IntKind.i64) ?_), rfl⟩)
  · exact len_arm (i := x / 4294967296 / 65536 / 256) (k := 56) (s := 56) (by omega) (by omega) _ (len_e56 (by omega) h1) (by decide) rfl
  · exact len_arm (i := x / 4294967296 / 65536) (k := 48) (s := 48) (by omega) (by omega) _ (len_e48 (by omega) h1) (by decide) rfl
  · exact len_arm (i := x / 4294967296 / 256) (k := 40) (s := 40) (by omega) (by omega) _ (len_e40 (by omega) h1) (by decide) rfl
  · exact len_arm (i := x / 4294967296) (k := 32) (s := 32) (by omega) (by omega) _ (len_e32 (by omega) h1) (by decide) rfl
  · exact len_arm (i := x / 65536 / 256) (k := 24) (s := 24) (by omega) (by omega) _ (len_e24 (by omega) h1) (by decide) rfl
  · exact len_arm (i := x / 65536) (k := 16) (s := 16) (by omega) (by omega) _ (len_e16 (by omega) h1) (by decide) rfl
  · exact len_arm (i := x / 256) (k := 8) (s := 8) (by omega) (by omega) _ (len_e8 (by omega) h1) (by decide) rfl
  · exact len_arm0 h0 (by omega) _

theorem add64_run (x y c : Int) (hx : 0 ≤ x) (hy : 0 ≤ y) (hc0 : 0 ≤ c) (hc : c ≤ 1) (w : World) :
    (callFunc 52 #[.int .u64 x, .int .u64 y, .int .u64 c]).run Tryd.prog w = .ok (.value (.tuple #[.int .u64 ((x + y + c) % 18446744073709551616), .int .u64 ((x + y + c) / 18446744073709551616)])) w := by
  rw [run_callFunc_extern Tryd.func52 (by kernel_rfl) (by kernel_rfl) (by kernel_rfl) (e := add64Entry) (by kernel_rfl), run_add64 x y c hx hy hc0 hc]
  rfl

namespace Mul64
theorem maskN (a : Nat) (ha : a < 18446744073709551616) : bits .and .u64 (a : Int) 4294967295 = ((a % 4294967296 : Nat) : Int) := by
  have h := bits_and_u64_nat a 4294967295 ha (by omega)
  have e : a &&& 4294967295 = a % 4294967296 := Nat.and_two_pow_sub_one_eq_mod a 32
  rw [e] at h
  exact h
theorem divN (a : Nat) : (a : Int) / 4294967296 = ((a / 4294967296 : Nat) : Int) := by omega
theorem mulN (a b : Nat) : (a : Int) * (b : Int) = ((a * b : Nat) : Int) := (Int.natCast_mul a b).symm
theorem addN (a b : Nat) : (a : Int) + (b : Int) = ((a + b : Nat) : Int) := (Int.natCast_add a b).symm
theorem wrapN (a : Nat) (ha : a < 18446744073709551616) : IntKind.u64.wrap (a : Int) = (a : Int) := by rw [IntKind.wrap_u64]; omega
theorem wrapM (a : Nat) : IntKind.u64.wrap (a : Int) = ((a % 18446744073709551616 : Nat) : Int) := by rw [IntKind.wrap_u64]; omega
end Mul64
set_option maxRecDepth 100000 in
set_option maxHeartbeats 4000000 in
theorem mul64_any (x y : Nat) (hx : x < 18446744073709551616) (hy : y < 18446744073709551616) (w : World) :
    Calls Tryd.prog 83 #[.int .u64 x, .int .u64 y] w fun e w' => e = .returned (.tuple #[.int .u64 ((x * y / 18446744073709551616 : Nat) : Int), .int .u64 ((x * y % 18446744073709551616 : Nat) : Int)]) ∧ w' = w := by
  obtain ⟨bd, bt, bw, hhi⟩ := Lib.mul64_hi x y hx hy
  have ba := Lib.half_mul_le (a := x / 4294967296) (b := y / 4294967296) (by omega) (by omega)
  have bb := Lib.half_mul_le (a := x / 4294967296) (b := y % 4294967296) (by omega) (by omega)
  have bc := Lib.half_mul_le (a := x % 4294967296) (b := y / 4294967296) (by omega) (by omega)
  have ba' : x / 4294967296 * (y / 4294967296) < 18446744073709551616 := by omega
  have bb' : x / 4294967296 * (y % 4294967296) < 18446744073709551616 := by omega
  have bc' : x % 4294967296 * (y / 4294967296) < 18446744073709551616 := by omega
  have bh1 : x / 4294967296 * (y / 4294967296) + (x / 4294967296 * (y % 4294967296) + x % 4294967296 * (y % 4294967296) / 4294967296) / 4294967296 < 18446744073709551616 := by omega
  have bh : x / 4294967296 * (y / 4294967296) + (x / 4294967296 * (y % 4294967296) + x % 4294967296 * (y % 4294967296) / 4294967296) / 4294967296 + ((x / 4294967296 * (y % 4294967296) + x % 4294967296 * (y % 4294967296) / 4294967296) % 4294967296 + x % 4294967296 * (y / 4294967296)) / 4294967296 < 18446744073709551616 := by omega
  go_enter Tryd.func83, Tryd.ntmps83
  go_wp2
  simp only [Mul64.maskN x hx, Mul64.maskN y hy, Mul64.divN, Mul64.mulN, Mul64.addN, Mul64.wrapN _ bd, Mul64.wrapN _ bb', Mul64.wrapN _ bt, Mul64.maskN _ bt, Mul64.wrapN _ bc', Mul64.wrapN _ bw, Mul64.wrapN _ ba', Mul64.wrapN _ bh1, Mul64.wrapN _ bh, Mul64.wrapM (x * y)]
  rw [hhi]
  go_ret2
  exact ⟨rfl, rfl⟩

/-- A NUMBER OF 128 BITS: its halves. -/
def hiW (z : Int) : Int := IntKind.i64.wrap (z / 18446744073709551616)
def loW (z : Int) : Int := z % 18446744073709551616
def wdV (z : Int) : Value := .agg #[.int .i64 (hiW z), .int .u64 (loW z)]
/-- A variable that holds one. -/
def WBox (W : World) (b : Nat) (z : Int) : Prop := W.heap[b]? = some (.cells #[.int .i64 (hiW z), .int .u64 (loW z)] 43 (0, 0))
theorem WBox.new (W : World) (z : Int) : WBox (W.alloc (.cells #[.int .i64 (hiW z), .int .u64 (loW z)] 43)) W.heap.size z := heap_alloc_new W _
theorem WBox.lt {W : World} {b : Nat} {z : Int} (h : WBox W b z) : b < W.heap.size := lt_of_heap h
theorem WBox.later {W W' : World} {b : Nat} {z : Int} (h : WBox W b z) (hb : Below W.heap.size W W') : WBox W' b z := (hb.block b h.lt).trans h
theorem WBox.alloc {W : World} {b : Nat} {z : Int} (h : WBox W b z) (o : Obj) : WBox (W.alloc o) b z := h.later ((Below.refl _ W).alloc (Nat.le_refl _) _)
theorem WBox.c0 {W : World} {b : Nat} {z : Int} (h : WBox W b z) : W.cell? ⟨b, 0, none⟩ = some (.int .i64 (hiW z)) := by rw [cell_of_row W b 0 _ _ (0, 0) h]; rfl
theorem WBox.c1 {W : World} {b : Nat} {z : Int} (h : WBox W b z) : W.cell? ⟨b, 1, none⟩ = some (.int .u64 (loW z)) := by rw [cell_of_row W b 1 _ _ (0, 0) h]; rfl
theorem WBox.frozen {W : World} {b : Nat} {z : Int} (h : WBox W b z) (i : Nat) : W.frozen? ⟨b, i, none⟩ = false := by
  unfold WBox at h
  simp [World.frozen?, h]
theorem hiW_eq (z : Int) : hiW z = (z / 18446744073709551616 + 9223372036854775808) % 18446744073709551616 - 9223372036854775808 := by unfold hiW; rw [IntKind.wrap_i64]
theorem loW_range (z : Int) : 0 ≤ loW z ∧ loW z < 18446744073709551616 := by unfold loW; omega
/-- They tell numbers of the range apart. -/
theorem wd_same {a b : Int} (h1 : hiW a = hiW b) (h2 : loW a = loW b) : (a - b) % 340282366920938463463374607431768211456 = 0 := by
  rw [hiW_eq, hiW_eq] at h1
  unfold loW at h2
  omega
theorem hi_add (a b : Int) : IntKind.i64.wrap ((IntKind.u64.wrap (hiW a) + IntKind.u64.wrap (hiW b) + (loW a + loW b + 0) / 18446744073709551616) % 18446744073709551616) = hiW (a + b) := by
  simp only [hiW_eq, IntKind.wrap_i64, IntKind.wrap_u64, loW]
  omega
theorem lo_add (a b : Int) : (loW a + loW b + 0) % 18446744073709551616 = loW (a + b) := by unfold loW; omega

set_option maxRecDepth 100000 in
set_option maxHeartbeats 4000000 in
theorem wideOf_any (n : Int) (w : World) (h0 : -9223372036854775808 ≤ n) (h1 : n ≤ 9223372036854775807) :
    Calls Tryd.prog 38 #[.int .i64 n] w fun e w' => e = .returned (wdV n) ∧ Below w.heap.size w w' := by
  have e1 : n / 9223372036854775808 = hiW n := by rw [hiW_eq]; omega
  have e2 : IntKind.u64.wrap n = loW n := by rw [IntKind.wrap_u64]; rfl
  have e2' : n % 18446744073709551616 = loW n := rfl
  go_enter Tryd.func38, Tryd.ntmps38
  go_wp2
  have hx := WBox.new w n
  refine bodyPost_ret (v := wdV n) ?_ rfl ⟨rfl, (Below.refl _ w).alloc (Nat.le_refl _) _⟩
  simp [results, Tryd.results38, go_sem, hx.c0, hx.c1, wdV]

def uW (z : Int) : Int := hiW z % 18446744073709551616
theorem uW_range (z : Int) : 0 ≤ uW z ∧ uW z < 18446744073709551616 := by unfold uW; omega

set_option maxRecDepth 100000 in
set_option maxHeartbeats 4000000 in
theorem wideAdd_any (a b : Int) (w : World) :
    Calls Tryd.prog 17 #[wdV a, wdV b] w fun e w' => e = .returned (wdV (a + b)) ∧ Below w.heap.size w w' := by
  have ra := loW_range a
  have rb := loW_range b
  have ua := uW_range a
  have ub := uW_range b
  have e1 : ∀ z, IntKind.u64.wrap (hiW z) = uW z := fun z => by rw [IntKind.wrap_u64]; rfl
  have e1' : ∀ z, hiW z % 18446744073709551616 = uW z := fun z => rfl
  obtain ⟨c, hc⟩ : ∃ c, (loW a + loW b + 0) / 18446744073709551616 = c := ⟨_, rfl⟩
  have hc01 : 0 ≤ c ∧ c ≤ 1 := by omega
  obtain ⟨hh, hhe⟩ : ∃ hh, (uW a + uW b + c) % 18446744073709551616 = hh := ⟨_, rfl⟩
  have hd1 := fun w => add64_run (loW a) (loW b) 0 ra.1 rb.1 (by decide) (by decide) w
  have hd2 := fun w => add64_run (uW a) (uW b) c ua.1 ub.1 hc01.1 hc01.2 w
  have h3 : IntKind.i64.wrap hh = hiW (a + b) := by rw [← hhe, ← hc, ← e1, ← e1]; exact hi_add a b
  have h3' : wrap64 hh = hiW (a + b) := by rw [wrap_eq, ← h3, IntKind.wrap_i64]
  rw [hc, lo_add] at hd1
  rw [hhe] at hd2
  generalize (uW a + uW b + c) / 18446744073709551616 = c2 at hd2
  clear hhe hc hc01 ra rb ua ub
  have x1 := (WBox.new w a).alloc (.cells #[.int .i64 (hiW b), .int .u64 (loW b)] 43)
  have x2 := WBox.new (w.alloc (.cells #[.int .i64 (hiW a), .int .u64 (loW a)] 43)) b
  have x3 := WBox.new ((w.alloc (.cells #[.int .i64 (hiW a), .int .u64 (loW a)] 43)).alloc (.cells #[.int .i64 (hiW b), .int .u64 (loW b)] 43)) (a + b)
  simp only [World.size_alloc] at x2 x3
  have y1 := x1.c0; have y2 := x1.c1; have y3 := x2.c0; have y4 := x2.c1; have y5 := x3.c0; have y6 := x3.c1
  unfold wdV
  go_enter Tryd.func17, Tryd.ntmps17
  go_wp2
  refine bodyPost_ret (v := .agg #[.int .i64 (hiW (a + b)), .int .u64 (loW (a + b))]) ?_ rfl ⟨rfl, (((Below.refl w.heap.size w).alloc (Nat.le_refl _) _).alloc (by simp) _).alloc (by simp; omega) _⟩
  simp [results, Tryd.results17, go_sem, y5, y6]
end Go.Proofs.YtnigpmbpipmgfaaDoor

/-
  wide's Mul and Shift.
-/
namespace Go.Proofs.YtnigpmbpipmgfaaDoor
open Go.RowKit Tess

theorem wrap_sub (x y : Int) : wrap64 (wrap64 x - y) = wrap64 (x - y) := by rw [wrap_eq, wrap_eq, wrap_eq]; omega
theorem mul_halves {n m : Int} (hn : -9223372036854775808 ≤ n ∧ n ≤ 9223372036854775807) (hm : -9223372036854775808 ≤ m ∧ m ≤ 9223372036854775807) (x y : Nat) (hx : (x : Int) = n % 18446744073709551616) (hy : (y : Int) = m % 18446744073709551616) :
    ((x * y % 18446744073709551616 : Nat) : Int) = loW (n * m) ∧
    (((x * y / 18446744073709551616 : Nat) : Int) - (if n < 0 then m else 0) - (if m < 0 then n else 0) - (n * m) / 18446744073709551616) % 18446744073709551616 = 0 := by
  obtain ⟨p, hp⟩ : ∃ p, n * m = p := ⟨_, rfl⟩
  have hxy : ((x * y : Nat) : Int) = p + (if n < 0 then 18446744073709551616 * m else 0) + (if m < 0 then 18446744073709551616 * n else 0) + (if n < 0 ∧ m < 0 then 340282366920938463463374607431768211456 else 0) := by
    have ex : (x : Int) = n + (if n < 0 then 18446744073709551616 else 0) := by split <;> omega
    have ey : (y : Int) = m + (if m < 0 then 18446744073709551616 else 0) := by split <;> omega
    rw [Int.natCast_mul, ex, ey, Int.add_mul, Int.mul_add, Int.mul_add, hp]
    by_cases h1 : n < 0 <;> by_cases h2 : m < 0 <;> simp only [h1, h2, if_true, if_false, and_self, and_true, and_false] <;> omega
  rw [hp]
  unfold loW
  generalize x * y = q at *
  by_cases h1 : n < 0 <;> by_cases h2 : m < 0 <;> simp only [h1, h2, if_true, if_false, and_self, and_true, and_false] at hxy ⊢ <;> omega

set_option maxRecDepth 100000 in
set_option maxHeartbeats 4000000 in
theorem wideMul_any (n m : Int) (w : World) (hn : -9223372036854775808 ≤ n ∧ n ≤ 9223372036854775807) (hm : -9223372036854775808 ≤ m ∧ m ≤ 9223372036854775807) :
    Calls Tryd.prog 50 #[.int .i64 n, .int .i64 m] w fun e w' => e = .returned (wdV (n * m)) ∧ Below w.heap.size w w' := by
  obtain ⟨x, hx⟩ : ∃ x : Nat, (x : Int) = n % 18446744073709551616 := ⟨(n % 18446744073709551616).toNat, by omega⟩
  obtain ⟨y, hy⟩ : ∃ y : Nat, (y : Int) = m % 18446744073709551616 := ⟨(m % 18446744073709551616).toNat, by omega⟩
  have e1 : IntKind.u64.wrap n = (x : Int) := by rw [IntKind.wrap_u64]; omega
  have e2 : IntKind.u64.wrap m = (y : Int) := by rw [IntKind.wrap_u64]; omega
  have e1' := hx.symm
  have e2' := hy.symm
  have hk := Lib.hid (fun w => mul64_any x y (by omega) (by omega) w)
  obtain ⟨hlo, hhi⟩ := mul_halves hn hm x y hx hy
  obtain ⟨h, hh⟩ : ∃ h : Nat, x * y / 18446744073709551616 = h := ⟨_, rfl⟩
  obtain ⟨l, hl⟩ : ∃ l : Nat, x * y % 18446744073709551616 = l := ⟨_, rfl⟩
  rw [hh] at hhi
  rw [hl] at hlo
  rw [hh, hl] at hk
  have hW : Hid (hiW (n * m) = (h - (if n < 0 then m else 0) - (if m < 0 then n else 0) + 9223372036854775808) % 18446744073709551616 - 9223372036854775808) := by
    show _ = _
    rw [hiW_eq]
    generalize (n * m) / 18446744073709551616 = t at *
    generalize (if n < 0 then m else 0) = t1 at *
    generalize (if m < 0 then n else 0) = t2 at *
    omega
  have hlo' := Lib.hid hlo
  clear hh hl hhi hlo hx hy
  unfold wdV
  have hx := WBox.new (w.alloc (.cells #[.int .i64 (hiW (n * m)), .int .u64 (loW (n * m))] 43)) (n * m)
  have c0 := hx.c0
  have c1 := hx.c1
  simp only [World.size_alloc] at c0 c1
  have hx0 := (WBox.new w (n * m)).alloc (.cells #[.int .i64 (hiW (n * m)), .int .u64 (loW (n * m))] 43)
  have d0 := hx0.c0
  have d1 := hx0.c1
  by_cases h1 : n < 0 <;> by_cases h2 : m < 0 <;> simp only [h1, h2, if_true, if_false] at hW
  · have hq : Hid (wrap64 (wrap64 (wrap64 h - m) - n) = hiW (n * m)) := by show _ = _; rw [hW.out]; (try simp only [wrap_sub]); (try simp only [Int.sub_zero]); rw [wrap_eq]
    have hxx := Lib.hid (And.intro c0 (And.intro c1 (And.intro d0 d1)))
    clear hx hx0 c0 c1 d0 d1 hW
    go_enter Tryd.func50, Tryd.ntmps50
    go_wp2_with fail
    refine (hk.out _).mono ?_
    rintro e W ⟨rfl, rfl⟩
    go_wp2
    rw [hlo'.out]
    rw [hq.out]
    obtain ⟨-, -, d0, d1⟩ := hxx.out
    refine bodyPost_ret (v := .agg #[.int .i64 (hiW (n * m)), .int .u64 (loW (n * m))]) ?_ rfl ⟨rfl, ((Below.refl w.heap.size w).alloc (Nat.le_refl _) _).alloc (by simp) _⟩
    simp [results, Tryd.results50, go_sem, d0, d1]
  · have hq : Hid (wrap64 (wrap64 h - m) = hiW (n * m)) := by show _ = _; rw [hW.out]; (try simp only [wrap_sub]); (try simp only [Int.sub_zero]); rw [wrap_eq]
    have hxx := Lib.hid (And.intro c0 (And.intro c1 (And.intro d0 d1)))
    clear hx hx0 c0 c1 d0 d1 hW
    go_enter Tryd.func50, Tryd.ntmps50
    go_wp2_with fail
    refine (hk.out _).mono ?_
    rintro e W ⟨rfl, rfl⟩
    go_wp2
    rw [hlo'.out]
    rw [hq.out]
    obtain ⟨-, -, d0, d1⟩ := hxx.out
    refine bodyPost_ret (v := .agg #[.int .i64 (hiW (n * m)), .int .u64 (loW (n * m))]) ?_ rfl ⟨rfl, ((Below.refl w.heap.size w).alloc (Nat.le_refl _) _).alloc (by simp) _⟩
    simp [results, Tryd.results50, go_sem, d0, d1]
  · have hq : Hid (wrap64 (wrap64 h - n) = hiW (n * m)) := by show _ = _; rw [hW.out]; (try simp only [wrap_sub]); (try simp only [Int.sub_zero]); rw [wrap_eq]
    have hxx := Lib.hid (And.intro c0 (And.intro c1 (And.intro d0 d1)))
    clear hx hx0 c0 c1 d0 d1 hW
    go_enter Tryd.func50, Tryd.ntmps50
    go_wp2_with fail
    refine (hk.out _).mono ?_
    rintro e W ⟨rfl, rfl⟩
    go_wp2
    rw [hlo'.out]
    rw [hq.out]
    obtain ⟨-, -, d0, d1⟩ := hxx.out
    refine bodyPost_ret (v := .agg #[.int .i64 (hiW (n * m)), .int .u64 (loW (n * m))]) ?_ rfl ⟨rfl, ((Below.refl w.heap.size w).alloc (Nat.le_refl _) _).alloc (by simp) _⟩
    simp [results, Tryd.results50, go_sem, d0, d1]
  · have hq : Hid (wrap64 h = hiW (n * m)) := by show _ = _; rw [hW.out]; (try simp only [wrap_sub]); (try simp only [Int.sub_zero]); rw [wrap_eq]
    have hxx := Lib.hid (And.intro c0 (And.intro c1 (And.intro d0 d1)))
    clear hx hx0 c0 c1 d0 d1 hW
    go_enter Tryd.func50, Tryd.ntmps50
    go_wp2_with fail
    refine (hk.out _).mono ?_
    rintro e W ⟨rfl, rfl⟩
    go_wp2
    rw [hlo'.out]
    rw [hq.out]
    obtain ⟨-, -, d0, d1⟩ := hxx.out
    refine bodyPost_ret (v := .agg #[.int .i64 (hiW (n * m)), .int .u64 (loW (n * m))]) ?_ rfl ⟨rfl, ((Below.refl w.heap.size w).alloc (Nat.le_refl _) _).alloc (by simp) _⟩
    simp [results, Tryd.results50, go_sem, d0, d1]

theorem i64_or_zero (z : Nat) (hz : z ≤ 65536) : bits .or .i64 0 (z : Int) = z := by
  show IntKind.i64.wrap ((BitVec.ofInt 64 0 ||| BitVec.ofInt 64 (z : Int)).toNat : Int) = _
  rw [BitVec.toNat_or, ofInt_u64 _ (by omega), show (BitVec.ofInt 64 (0 : Int)).toNat = 0 from rfl, Nat.zero_or, IntKind.wrap_i64]
  omega
theorem shift_halves {a k : Nat} (ha : a ≤ 65536) (hk : k ≤ 63) : bits .or .i64 0 (wrap64 ((a : Int) / 2 ^ (64 - k))) = hiW ((a : Int) * 2 ^ k) ∧ IntKind.u64.wrap ((a : Int) * 2 ^ k) = loW ((a : Int) * 2 ^ k) := by
  have hp : (18446744073709551616 : Nat) = 2 ^ (64 - k) * 2 ^ k := by
    rw [← Nat.pow_add, show 64 - k + k = 64 by omega]
  have h1 : a * 2 ^ k / 18446744073709551616 = a / 2 ^ (64 - k) := by
    rw [hp]; exact Nat.mul_div_mul_right a _ (Nat.pow_pos (by decide))
  have h2 : a / 2 ^ (64 - k) ≤ 65536 := Nat.le_trans (Nat.div_le_self _ _) ha
  have e1 : (a : Int) / 2 ^ (64 - k) = ((a / 2 ^ (64 - k) : Nat) : Int) := by simp
  have e2 : (a : Int) * 2 ^ k = ((a * 2 ^ k : Nat) : Int) := by simp
  rw [e1, e2]
  generalize a / 2 ^ (64 - k) = q at *
  generalize a * 2 ^ k = r at *
  refine ⟨?_, by rw [IntKind.wrap_u64]; rfl⟩
  have e3 : wrap64 (q : Int) = (q : Int) := by rw [wrap_eq]; omega
  rw [e3, i64_or_zero q h2, hiW_eq]
  omega

set_option maxRecDepth 100000 in
set_option maxHeartbeats 4000000 in
theorem wideShift_any (a k : Nat) (w : World) (ha : a ≤ 65536) (hk : k ≤ 63) :
    Calls Tryd.prog 51 #[wdV a, .int .i64 k] w fun e w' => e = .returned (wdV ((a : Int) * 2 ^ k)) ∧ Below w.heap.size w w' := by
  obtain ⟨q1, q2⟩ := shift_halves ha hk
  have k1 : decide ((k : Int) < 0) = false := decide_eq_false (by omega)
  have k2 : decide (127 < k) = false := decide_eq_false (by omega)
  have k3 : decide (64 ≤ k) = false := decide_eq_false (by omega)
  have x1 := (WBox.new w a).alloc (.cells #[.int .i64 0, .int .u64 0] 43)
  have y1 := x1.c0; have y2 := x1.c1
  have eh : hiW a = 0 := by rw [hiW_eq]; omega
  have el : loW a = a := by unfold loW; omega
  unfold wdV
  simp only [eh, el] at y1 y2 ⊢
  have x3 := Lib.hid (WBox.new (w.alloc (.cells #[.int .i64 0, .int .u64 (a : Int)] 43)) ((a : Int) * 2 ^ k))
  have q1' := Lib.hid q1
  have q2' := Lib.hid q2
  clear x1 q1 q2
  go_enter Tryd.func51, Tryd.ntmps51
  go_wp2
  go_region
  all_goals
    rw [q1'.out, q2'.out]
    have c0 := x3.out.c0
    have c1 := x3.out.c1
    simp only [World.size_alloc] at c0 c1
    go_wp2
    refine bodyPost_ret (v := .agg #[.int .i64 (hiW ((a : Int) * 2 ^ k)), .int .u64 (loW ((a : Int) * 2 ^ k))]) ?_ rfl ⟨rfl, (((Below.refl w.heap.size w).alloc (Nat.le_refl _) _).alloc (by simp) _).drew⟩
    simp [results, Tryd.results51, go_sem, c0, c1]
end Go.Proofs.YtnigpmbpipmgfaaDoor
