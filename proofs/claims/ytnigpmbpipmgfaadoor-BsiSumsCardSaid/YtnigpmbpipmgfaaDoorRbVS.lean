/-
  RbV, Rb3: several texts in one (merge.py).
-/
import Derived.Test.YtnigpmbpipmgfaaDoorBsU
import Derived.Test.YtnigpmbpipmgfaaDoorRefV
import Derived.Test.YtnigpmbpipmgfaaDoorBsOR
import Derived.Test.YtnigpmbpipmgfaaDoorRbB

/-
  A slice that was made: a block of n cells, written at places.
-/
namespace Go.Proofs.YtnigpmbpipmgfaaDoor
open Go.RowKit Tess

/-- BLOCK g HOLDS n CELLS F. -/
def Vec (W : World) (g : Nat) (t : TypeId) (n : Nat) (F : Nat → Value) : Prop := ∃ cur : Array Value, W.heap[g]? = some (.cells cur t (0, 0)) ∧ cur.size = n ∧ ∀ j, j < n → cur[j]? = some (F j)
section
variable {W W' : World} {g n : Nat} {t : TypeId} {F : Nat → Value}
theorem Vec.lt (h : Vec W g t n F) : g < W.heap.size := by obtain ⟨_, h, _⟩ := h; exact lt_of_heap h
theorem Vec.cell (h : Vec W g t n F) {j : Nat} (hj : j < n) : W.cell? ⟨g, j, none⟩ = some (F j) := by
  obtain ⟨cur, h, _, hc⟩ := h
  rw [cell_of_row W g j _ _ (0, 0) h, hc j hj]
theorem Vec.frozen (h : Vec W g t n F) (i : Nat) : W.frozen? ⟨g, i, none⟩ = false := by
  obtain ⟨cur, h, _⟩ := h
  simp [World.frozen?, h]
theorem Vec.later (h : Vec W g t n F) (hb : Below W.heap.size W W') : Vec W' g t n F := by
  have hl := h.lt
  obtain ⟨cur, h, r⟩ := h
  exact ⟨cur, (hb.block g hl).trans h, r⟩
theorem Vec.alloc (h : Vec W g t n F) (o : Obj) : Vec (W.alloc o) g t n F := h.later ((Below.refl _ W).alloc (Nat.le_refl _) _)
theorem Vec.far (h : Vec W g t n F) {p : Addr} (hp : g ≠ p.block) (u : Value) : Vec (W.setCell p u) g t n F := by
  obtain ⟨cur, h, r⟩ := h
  exact ⟨cur, (Below.heap_setCell W p u g hp).trans h, r⟩
theorem Vec.congr (h : Vec W g t n F) {F' : Nat → Value} (hB : ∀ j, j < n → F j = F' j) : Vec W g t n F' := by
  obtain ⟨cur, h, hs, hc⟩ := h
  exact ⟨cur, h, hs, fun j hj => by rw [hc j hj, hB j hj]⟩
theorem Vec.set (h : Vec W g t n F) {i : Nat} (hi : i < n) (v : Value) : Vec (W.setCell ⟨g, i, none⟩ v) g t n (fun j => if j = i then v else F j) := by
  obtain ⟨cur, h, hs, hc⟩ := h
  refine ⟨cur.setIfInBounds i v, ?_, by simpa using hs, fun j hj => ?_⟩
  · simp [World.setCell, Array.getElem?_modify, h]
  · rw [Array.getElem?_setIfInBounds]
    by_cases e : i = j
    · subst e; simp [hs, hi]
    · have e' : ¬ j = i := fun h => e h.symm
      simp [e, e', hc j hj]
end
theorem Vec.new (W : World) (t : TypeId) (z : Value) (n : Nat) : Vec (W.alloc (.cells (madeCells #[z] n) t)) W.heap.size t n (fun _ => z) := by
  refine ⟨_, heap_alloc_new W _, size_madeCells _ _, fun j hj => ?_⟩
  simp [madeCells, hj, Nat.mod_one]
theorem make64 (w : World) {n : Int} {N : Nat} (hn : n = N) (hN : N ≤ 1000) : (Instr.makeSlice 22 (.int .i64 n) (.int .i64 n)).run Tryd.prog w = .ok (.slice (some ⟨w.heap.size, 0, none⟩) N N) (w.alloc (.cells (madeCells #[.int .i64 0] N) 2)) := by
  subst hn
  obtain ⟨i0, hi, hz0, hz1, hz2⟩ := info_parts info_int64
  have h := run_make (P := Tryd.prog) w 22 2 i0 (.int .i64 0) Tryd.underlying22 hi hz0 .i64 .i64 (N : Int) (N : Int) (by omega) (by omega) (by rw [hz2]; omega) (by omega)
  rw [hz1, Int.toNat_natCast, Nat.mul_one] at h
  exact h
theorem makeB (w : World) {n : Int} {N : Nat} (hn : n = N) (hN : N ≤ 1000) : (Instr.makeSlice 23 (.int .i64 n) (.int .i64 n)).run Tryd.prog w = .ok (.slice (some ⟨w.heap.size, 0, none⟩) N N) (w.alloc (.cells (madeCells #[.bool false] N) 4)) := by
  subst hn
  obtain ⟨i0, hi, hz0, hz1, hz2⟩ := info_parts info_bool
  have h := run_make (P := Tryd.prog) w 23 4 i0 (.bool false) Tryd.underlying23 hi hz0 .i64 .i64 (N : Int) (N : Int) (by omega) (by omega) (by rw [hz2]; omega) (by omega)
  rw [hz1, Int.toNat_natCast, Nat.mul_one] at h
  exact h
theorem Ints.far {n₀ : Nat} {W : World} {sv : Value} {zs : List Int} (h : Ints n₀ W sv zs) {q : Addr} (hq : ∀ g, sv.ownBlock = some g → g ≠ q.block) (u : Value) : Ints n₀ (W.setCell q u) sv zs := by
  rcases h with h | ⟨b, off, cap, rfl, hb, hc⟩
  · exact .inl h
  · have hne := hq b rfl
    refine .inr ⟨b, off, cap, rfl, hb, fun j hj => ?_⟩
    have hh := Below.heap_setCell W q u b hne
    rw [← hc j hj]
    unfold World.cell?
    dsimp only
    rw [hh]
/-- A made slice of numbers, of truths, as an argument. -/
theorem Vec.ints {W : World} {g n : Nat} {f : Nat → Int} {zs : List Int} (h : Vec W g 2 n (fun j => .int .i64 (f j))) (e : zs.length = n) (hf : ∀ j, j < n → f j = vI zs j) : Ints W.heap.size W (.slice (some ⟨g, 0, none⟩) n n) zs := by
  subst e
  exact .inr ⟨g, 0, zs.length, rfl, h.lt, fun j hj => by rw [Nat.zero_add, h.cell hj, hf j hj]; rfl⟩
theorem Vec.bools {W : World} {g n : Nat} {f : Nat → Bool} {hs : List Bool} (h : Vec W g 4 n (fun j => .bool (f j))) (e : hs.length = n) (hf : ∀ j, j < n → f j = hs[j]?.getD false) : BoolsAt W.heap.size W (.slice (some ⟨g, 0, none⟩) n n) hs := by
  subst e
  exact ⟨_, _, rfl, fun j hj => ⟨g, 0, rfl, h.lt, by rw [Nat.zero_add, h.cell hj, hf j hj]⟩⟩

/-- What lies in memory while Column works. -/
structure CoA (w W : World) (n : Int) (N : Nat) (least : Int) (vE vB : Value) (L H : Nat) (f : Nat → Int) (h : Nat → Bool) : Prop where
  sb : SBox W 31 w.heap.size n least vE vB
  vl : Vec W L 2 N (fun j => .int .i64 (f j))
  vh : Vec W H 4 N (fun j => .bool (h j))
  bl : Below w.heap.size w W
  l1 : w.heap.size < L
  l2 : w.heap.size < H
  l3 : L ≠ H
section
variable {w W W' : World} {n : Int} {N : Nat} {least : Int} {vE vB : Value} {L H : Nat} {f : Nat → Int} {h : Nat → Bool}
theorem CoA.later (c : CoA w W n N least vE vB L H f h) (hb : Below W.heap.size W W') : CoA w W' n N least vE vB L H f h :=
  ⟨c.sb.later hb, c.vl.later hb, c.vh.later hb, c.bl.trans (hb.mono c.bl.size), c.l1, c.l2, c.l3⟩
theorem CoA.drew (c : CoA w W n N least vE vB L H f h) : CoA w W.drew n N least vE vB L H f h := ⟨c.sb, c.vl, c.vh, c.bl.drew, c.l1, c.l2, c.l3⟩
theorem CoA.congr (c : CoA w W n N least vE vB L H f h) {f' : Nat → Int} {h' : Nat → Bool} (h1 : ∀ j, j < N → f j = f' j) (h2 : ∀ j, j < N → h j = h' j) : CoA w W n N least vE vB L H f' h' :=
  ⟨c.sb, c.vl.congr fun j hj => by rw [h1 j hj], c.vh.congr fun j hj => by rw [h2 j hj], c.bl, c.l1, c.l2, c.l3⟩
theorem CoA.setH (c : CoA w W n N least vE vB L H f h) {i : Nat} (hi : i < N) (u : Bool) : CoA w (W.setCell ⟨H, i, none⟩ (.bool u)) n N least vE vB L H f (fun j => if j = i then u else h j) :=
  ⟨c.sb.far (fun e => Nat.ne_of_lt c.l2 e) _, c.vl.far c.l3 _, (c.vh.set hi (.bool u)).congr fun j _ => by split <;> rfl, c.bl.setCell (p := ⟨H, i, none⟩) (Nat.le_of_lt c.l2) _, c.l1, c.l2, c.l3⟩
theorem CoA.setL (c : CoA w W n N least vE vB L H f h) {i : Nat} (hi : i < N) (u : Int) : CoA w (W.setCell ⟨L, i, none⟩ (.int .i64 u)) n N least vE vB L H (fun j => if j = i then u else f j) h :=
  ⟨c.sb.far (fun e => Nat.ne_of_lt c.l1 e) _, (c.vl.set hi (.int .i64 u)).congr fun j _ => by split <;> rfl, c.vh.far (fun e => c.l3 e.symm) _, c.bl.setCell (p := ⟨L, i, none⟩) (Nat.le_of_lt c.l1) _, c.l1, c.l2, c.l3⟩
theorem CoA.both {b : Sl} (c : CoA w W n N least vE vB L H (upK b b.bits.length) (bitL b.ex)) (hN : b.n = N) : Ints W.heap.size W (.slice (some ⟨L, 0, none⟩) N N) (colK b) ∧ BoolsAt W.heap.size W (.slice (some ⟨H, 0, none⟩) N N) (hasK b) := by
  have e : b.n.toNat = N := by omega
  refine ⟨c.vl.ints (by unfold colK numK; rw [List.length_map, List.length_range, e]) fun j hj => ?_, c.vh.bools (by unfold hasK; rw [List.length_map, List.length_range, e]) fun j hj => ?_⟩
  · unfold colK numK
    rw [vI_map, e, if_pos hj]
  · unfold hasK
    rw [e]
    simp [hj]
theorem CoA.start {w W : World} {n : Int} {N : Nat} {least : Int} {vE vB : Value} (hs : SBox W 31 w.heap.size n least vE vB) (hb : Below w.heap.size w W) (hl : w.heap.size < W.heap.size) :
    CoA w ((W.alloc (.cells (madeCells #[.int .i64 0] N) 2)).alloc (.cells (madeCells #[.bool false] N) 4)) n N least vE vB W.heap.size (W.heap.size + 1) (fun _ => 0) (fun _ => false) := by
  have h2 := Vec.new (W.alloc (.cells (madeCells #[.int .i64 0] N) 2)) 4 (.bool false) N
  rw [World.size_alloc] at h2
  exact ⟨(hs.alloc _).alloc _, (Vec.new W _ _ N).alloc _, h2, (hb.alloc hb.size _).alloc (by simp; have := hb.size; omega) _, hl, by omega, by omega⟩
end
theorem not_right {b : Sl} (hl : -9223372036854775808 ≤ b.least ∧ b.least ≤ 9223372036854775807) (h : ¬ IsCol b) : isRightB b = false := by
  cases e : isRightB b
  · rfl
  · exact absurd ((right_iff hl).1 e) h
/-- The places and numbers behind k of the rows. -/
theorem mem_take_succ {xs : List Nat} {k : Nat} (h : k < xs.length) (j : Nat) : j ∈ xs.take (k + 1) ↔ j ∈ xs.take k ∨ j = xs[k] := by
  rw [List.take_succ_eq_append_getElem h, List.mem_append, List.mem_singleton]
theorem upK_zero {b : Sl} (hl : -9223372036854775808 ≤ b.least ∧ b.least ≤ 9223372036854775807) (r : Nat) : upK b 0 r = if bitL b.ex r = true then b.least else 0 := by
  unfold upK
  rw [IntKind.wrap_i64]
  show _ = _
  simp only [valU]
  split <;> omega
theorem upK_succ {b : Sl} {k : Nat} (hx : rightL (b.bits[k]?.getD []) = true) {r : Nat} (hr : r < 65536) : upK b (k + 1) r = IntKind.i64.wrap (upK b k r + if bitL (b.bits[k]?.getD []) r = true then 2 ^ k else 0) := by
  unfold upK
  rw [show valU b.bits (r : Int) (k + 1) = valU b.bits (r : Int) k + (hasL (b.bits[k]?.getD []) (r : Int)).toNat * 2 ^ k from rfl, hasL_bits hx, decide_eq_true (by omega), Bool.true_and, Int.toNat_natCast]
  generalize (if bitL b.ex r = true then b.least else 0) = z
  generalize valU b.bits (r : Int) k = y
  cases bitL (b.bits[k]?.getD []) r
  · simp only [Bool.toNat_false, Nat.zero_mul, Nat.add_zero, Bool.false_eq_true, if_false, Int.add_zero]
    rw [IntKind.wrap_i64, IntKind.wrap_i64]
    omega
  · simp only [Bool.toNat_true, Nat.one_mul, if_true]
    push_cast
    generalize (2 : Int) ^ k = p
    rw [IntKind.wrap_i64, IntKind.wrap_i64, IntKind.wrap_i64]
    omega
theorem upK_range (b : Sl) (k r : Nat) : -9223372036854775808 ≤ upK b k r ∧ upK b k r ≤ 9223372036854775807 := by
  unfold upK
  rw [IntKind.wrap_i64]
  omega
theorem rows_rising {l : List Ch} (h : rightL l = true) : (valL l).Pairwise (· < ·) := by
  unfold valL
  rw [if_pos h, allN_bits h]
  exact List.Pairwise.filter _ (List.pairwise_lt_range)
theorem rows_mem {l : List Ch} (h : rightL l = true) (r : Nat) : r ∈ valL l ↔ r < 65536 ∧ bitL l r = true := by
  unfold valL
  rw [if_pos h, allN_bits h, List.mem_filter, List.mem_range]
theorem rows_len (l : List Ch) : (valL l).length ≤ 65536 := by
  unfold valL
  by_cases h : rightL l = true
  · rw [if_pos h, allN_bits h]
    have := List.length_filter_le (bitL l) (List.range 65536)
    rwa [List.length_range] at this
  · rw [if_neg h]; exact Nat.zero_le _
theorem not_mem_take {xs : List Nat} (hp : xs.Pairwise (· < ·)) {k : Nat} (h : k < xs.length) : xs[k] ∉ xs.take k := by
  intro hm
  obtain ⟨i, hi, e⟩ := List.mem_take_iff_getElem.1 hm
  have := List.pairwise_iff_getElem.1 hp i k (by omega) h (by omega)
  omega
end Go.Proofs.YtnigpmbpipmgfaaDoor

/-
  The reference's Same of two columns' slices. (Printed by genrb3.py.)
-/
namespace Go.Proofs.YtnigpmbpipmgfaaDoor
open Go.RowKit Go.Shelf Tess

theorem sl_ext {x y : Sl} (h1 : x.n = y.n) (h2 : x.least = y.least) (h3 : x.ex = y.ex) (h4 : x.bits = y.bits) : x = y := by
  cases x; cases y
  simp only at h1 h2 h3 h4
  subst h1 h2 h3 h4
  rfl
def sameS (x y : Sl) : Bool := decide (x.n = y.n) && decide (x.least = y.least) && decide (x.ex = y.ex) && decide (x.bits = y.bits)
theorem sameS_iff {x y : Sl} : sameS x y = true ↔ x = y := by
  cases x; cases y
  unfold sameS
  simp only [Bool.and_eq_true, decide_eq_true_eq, Sl.mk.injEq]
  constructor
  · rintro ⟨⟨⟨a, b⟩, c⟩, d⟩; exact ⟨a, b, c, d⟩
  · rintro ⟨a, b, c, d⟩; exact ⟨⟨⟨a, b⟩, c⟩, d⟩
theorem sameS_false {x y : Sl} (h : x ≠ y) : sameS x y = false := by
  cases hs : sameS x y
  · rfl
  · exact absurd (sameS_iff.1 hs) h

set_option linter.unusedSimpArgs false in
set_option maxRecDepth 100000 in
set_option maxHeartbeats 4000000 in
theorem rsame_any {x y : Sl} {vE1 vB1 vE2 vB2 : Value} {w : World} (h1 : HC w vE1 x.ex) (h2 : HR w vB1 x.bits) (h3 : HC w vE2 y.ex) (h4 : HR w vB2 y.bits) (hs : x.ex.length ≤ 4611686018427387904) (hsb : ∀ z ∈ x.bits, z.length ≤ 4611686018427387904) (hxl : x.bits.length ≤ 1000000) :
    Calls Tryd.prog 23 #[.agg #[.int .i64 x.n, .int .i64 x.least, vE1, vB1], .agg #[.int .i64 y.n, .int .i64 y.least, vE2, vB2]] w fun e W' => e = .returned (.bool (sameS x y)) ∧ Below w.heap.size w W' := by
  obtain ⟨pE1, cE1, rfl, -, -⟩ := Hid.out h1
  obtain ⟨pB1, cB1, rfl, -, -⟩ := Hid.out h2
  obtain ⟨pE2, cE2, rfl, -, -⟩ := Hid.out h3
  obtain ⟨pB2, cB2, rfl, -, -⟩ := Hid.out h4
  have x1 := (SBox.new w 31 x.n x.least (.slice pE1 x.ex.length cE1) (.slice pB1 x.bits.length cB1)).alloc (.cells #[.int .i64 y.n, .int .i64 y.least, .slice pE2 y.ex.length cE2, .slice pB2 y.bits.length cB2] 31)
  have x2 := SBox.new (w.alloc (.cells #[.int .i64 x.n, .int .i64 x.least, .slice pE1 x.ex.length cE1, .slice pB1 x.bits.length cB1] 31)) 31 y.n y.least (.slice pE2 y.ex.length cE2) (.slice pB2 y.bits.length cB2)
  simp only [World.size_alloc] at x2
  have hR := Lib.hid (((Below.refl w.heap.size w).alloc (Nat.le_refl _) (.cells #[.int .i64 x.n, .int .i64 x.least, .slice pE1 x.ex.length cE1, .slice pB1 x.bits.length cB1] 31)).alloc (by simp) (.cells #[.int .i64 y.n, .int .i64 y.least, .slice pE2 y.ex.length cE2, .slice pB2 y.bits.length cB2] 31))
  have km := Lib.hid (same7_any (h1.later hR.out) (h3.later hR.out) hs)
  have h2' := h2.later hR.out
  have h4' := h4.later hR.out
  have c0 := x1.c0; have c1 := x1.c1; have c2 := x1.c2; have c3 := x1.c3
  have d0 := x2.c0; have d1 := x2.c1; have d2 := x2.c2; have d3 := x2.c3
  have x1' := Lib.hid x1
  have x2' := Lib.hid x2
  have hsb' := Lib.hid hsb
  clear h1 h2 h3 h4 hs x1 x2 hsb
  by_cases a1 : x.n = y.n
  · have q11 : (x.n == y.n) = true := beq_iff_eq.2 a1
    have q12 : (x.n != y.n) = false := by rw [bne, q11]; rfl
    have a1' := Lib.hid a1
    clear a1
    by_cases a2 : x.least = y.least
    · have q21 : (x.least == y.least) = true := beq_iff_eq.2 a2
      have q22 : (x.least != y.least) = false := by rw [bne, q21]; rfl
      have a2' := Lib.hid a2
      clear a2
      by_cases a3 : x.ex = y.ex
      · rw [decide_eq_true a3] at km
        have a3' := Lib.hid a3
        clear a3
        by_cases a4 : x.bits.length = y.bits.length
        · have q41 : ((x.bits.length : Int) == (y.bits.length : Int)) = true := beq_iff_eq.2 (by omega)
          have q42 : ((x.bits.length : Int) != (y.bits.length : Int)) = false := by rw [bne, q41]; rfl
          have a4' := Lib.hid a4
          clear a4
          go_enter Tryd.func23, Tryd.ntmps23
          go_wp2_with (go_at_call 34; refine (km.out).mono ?_; rintro e W2 ⟨rfl, hb2⟩; clear km c0 c1 c2 c3 d0 d1 d2 d3; have y1 := Lib.hid (x1'.out.later hb2); have y2 := Lib.hid (x2'.out.later hb2); have hB2 := Lib.hid (hR.out.trans (hb2.mono hR.out.size)); have c3 := y1.out.c3; have d3 := y2.out.c3)
          go_loopw [5] (fun i wr => ∃ k : Nat, k ≤ x.bits.length ∧ i = .int .i64 k ∧ Hid (x.bits.take k = y.bits.take k) ∧ Hid (Below W2.heap.size W2 wr))
            (fun i _ => x.bits.length - (intOf i).toNat)
          case atStart => exact ⟨0, Nat.zero_le _, rfl, by show _ = _; rw [List.take_zero, List.take_zero], Lib.hid (Below.refl _ _)⟩
          case round =>
            obtain ⟨k, hk, rfl, hst, hB⟩ := hrel
            clear c3 d3
            have z1 := Lib.hid (y1.out.later hB.out)
            have z2 := Lib.hid (y2.out.later hB.out)
            have hBB := Lib.hid (hb2.trans (hB.out.mono hb2.size))
            have hBw := Lib.hid (hB2.out.trans (hB.out.mono hB2.out.size))
            have c3 := z1.out.c3
            have d3 := z2.out.c3
            by_cases hlt : k < x.bits.length
            · have hlt2 : k < y.bits.length := by have := a4'.out; omega
              have hkd : decide ((k : Int) < (x.bits.length : Int)) = true := decide_eq_true (by omega)
              have hkd2 : decide (k < x.bits.length) = true := decide_eq_true hlt
              have hkl : (k : Int) < (x.bits.length : Int) := by omega
              have hkl2 : (k : Int) < (y.bits.length : Int) := by omega
              obtain ⟨b1, o1, p1, e1, rfl, hbb1, m1, g1⟩ := (h2'.later hBB.out).at k hlt
              obtain ⟨b2, o2, p2, e2, rfl, hbb2, m2, g2⟩ := (h4'.later hBB.out).at k hlt2
              have hzl : (x.bits[k]?.getD []).length ≤ 4611686018427387904 := by
                rw [List.getElem?_eq_getElem hlt]
                exact hsb'.out _ (List.getElem_mem hlt)
              have hyes : x.bits[k]?.getD [] = y.bits[k]?.getD [] → x.bits.take (k + 1) = y.bits.take (k + 1) := fun e => by
                rw [List.getElem?_eq_getElem hlt, List.getElem?_eq_getElem hlt2] at e
                rw [List.take_succ_eq_append_getElem hlt, List.take_succ_eq_append_getElem hlt2, hst.out]
                simp only [Option.getD_some] at e
                rw [e]
              have hno : x.bits[k]?.getD [] ≠ y.bits[k]?.getD [] → x ≠ y := fun e h => e (by rw [h])
              generalize x.bits[k]?.getD [] = xk at *
              generalize y.bits[k]?.getD [] = yk at *
              have km2 : Hid (∀ W, Below wr.heap.size wr W → Calls Tryd.prog 34 #[.agg #[.slice p1 xk.length e1], .agg #[.slice p2 yk.length e2]] W fun e W' => e = .returned (.bool (decide (xk = yk))) ∧ Below W.heap.size W W') := fun W h => same7_any (g1.later h) (g2.later h) hzl
              have hMd : (fun W' : World => Hid (Below wr.heap.size wr W') ∧ W'.cell? ⟨w.heap.size, 3, none⟩ = some (.slice (some ⟨b1, o1, none⟩) x.bits.length cB1) ∧ W'.cell? ⟨w.heap.size + 1, 3, none⟩ = some (.slice (some ⟨b2, o2, none⟩) y.bits.length cB2) ∧ W'.cell? ⟨b1, o1 + k, none⟩ = some (.slice p1 xk.length e1) ∧ W'.cell? ⟨b2, o2 + k, none⟩ = some (.slice p2 yk.length e2)) wr.drew := ⟨Lib.hid (Below.refl _ wr).drew, c3, d3, m1, m2⟩
              clear g1 g2 m1 m2 z1 z2 hbb1 hbb2 hlt hlt2 hzl hBB hst
              by_cases he : xk = yk
              · rw [decide_eq_true he] at km2
                have hst2 := Lib.hid (hyes he)
                clear hyes hno he
                go_wp2
                refine region_late (S := (fun W' : World => Hid (Below wr.heap.size wr W') ∧ W'.cell? ⟨w.heap.size, 3, none⟩ = some (.slice (some ⟨b1, o1, none⟩) x.bits.length cB1) ∧ W'.cell? ⟨w.heap.size + 1, 3, none⟩ = some (.slice (some ⟨b2, o2, none⟩) y.bits.length cB2) ∧ W'.cell? ⟨b1, o1 + k, none⟩ = some (.slice p1 xk.length e1) ∧ W'.cell? ⟨b2, o2 + k, none⟩ = some (.slice p2 yk.length e2))) (fun n => n == 999) (by kernel_rfl) hMd (fun hHeld => ?_)
                clear hMd
                generalize World.drew wr = Wd at *
                refine wpAnyL_take (i := 0) (oi := { dst := some 42, op := _, type := _, pos := _, after := _, guard := _ }) (v := ?v1) rfl (by kernel_rfl) (by kernel_rfl) (by kernel_rfl) (by kernel_rfl) (fun _ _ _ h => h) (Or.inl ⟨by kernel_rfl, ?y1⟩) hHeld ?r1
                case y1 =>
                  intro w hSw
                  try dsimp only at hSw
                  try simp only [List.getElem_toArray, List.getElem_cons_zero, List.getElem_cons_succ]
                  go_simp
                  try with_reducible rfl
                try simp only [List.getElem_toArray, List.getElem_cons_zero, List.getElem_cons_succ, Act.put, List.setIfInBounds_toArray, List.set_cons_zero, List.set_cons_succ]
                refine wpAnyL_take (i := 1) (oi := { dst := some 43, op := _, type := _, pos := _, after := _, guard := _ }) (v := ?v2) rfl (by kernel_rfl) (by kernel_rfl) (by kernel_rfl) (by kernel_rfl) (fun _ _ _ h => h) (Or.inl ⟨by kernel_rfl, ?y2⟩) hHeld ?r2
                case y2 =>
                  intro w hSw
                  try dsimp only at hSw
                  try simp only [List.getElem_toArray, List.getElem_cons_zero, List.getElem_cons_succ]
                  go_simp
                  try with_reducible rfl
                try simp only [List.getElem_toArray, List.getElem_cons_zero, List.getElem_cons_succ, Act.put, List.setIfInBounds_toArray, List.set_cons_zero, List.set_cons_succ]
                refine wpAnyL_take (i := 2) (oi := { dst := some 44, op := _, type := _, pos := _, after := _, guard := _ }) (v := ?v3) rfl (by kernel_rfl) (by kernel_rfl) (by kernel_rfl) (by kernel_rfl) (fun _ _ _ h => h) (Or.inl ⟨by kernel_rfl, ?y3⟩) hHeld ?r3
                case y3 =>
                  intro w hSw
                  try dsimp only at hSw
                  try simp only [List.getElem_toArray, List.getElem_cons_zero, List.getElem_cons_succ]
                  go_simp
                  try with_reducible rfl
                try simp only [List.getElem_toArray, List.getElem_cons_zero, List.getElem_cons_succ, Act.put, List.setIfInBounds_toArray, List.set_cons_zero, List.set_cons_succ]
                refine wpAnyL_take (i := 3) (oi := { dst := some 45, op := _, type := _, pos := _, after := _, guard := _ }) (v := ?v4) rfl (by kernel_rfl) (by kernel_rfl) (by kernel_rfl) (by kernel_rfl) (fun _ _ _ h => h) (Or.inl ⟨by kernel_rfl, ?y4⟩) hHeld ?r4
                case y4 =>
                  intro w hSw
                  try dsimp only at hSw
                  try simp only [List.getElem_toArray, List.getElem_cons_zero, List.getElem_cons_succ]
                  go_simp
                  try with_reducible rfl
                try simp only [List.getElem_toArray, List.getElem_cons_zero, List.getElem_cons_succ, Act.put, List.setIfInBounds_toArray, List.set_cons_zero, List.set_cons_succ]
                refine wpAnyL_take (i := 4) (oi := { dst := some 46, op := _, type := _, pos := _, after := _, guard := _ }) (v := ?v5) rfl (by kernel_rfl) (by kernel_rfl) (by kernel_rfl) (by kernel_rfl) (fun _ _ _ h => h) (Or.inl ⟨by kernel_rfl, ?y5⟩) hHeld ?r5
                case y5 =>
                  intro w hSw
                  try dsimp only at hSw
                  try simp only [List.getElem_toArray, List.getElem_cons_zero, List.getElem_cons_succ]
                  go_simp
                  try with_reducible rfl
                try simp only [List.getElem_toArray, List.getElem_cons_zero, List.getElem_cons_succ, Act.put, List.setIfInBounds_toArray, List.set_cons_zero, List.set_cons_succ]
                refine wpAnyL_take (i := 5) (oi := { dst := some 47, op := _, type := _, pos := _, after := _, guard := _ }) (v := ?v6) rfl (by kernel_rfl) (by kernel_rfl) (by kernel_rfl) (by kernel_rfl) (fun _ _ _ h => h) (Or.inl ⟨by kernel_rfl, ?y6⟩) hHeld ?r6
                case y6 =>
                  intro w hSw
                  try dsimp only at hSw
                  try simp only [List.getElem_toArray, List.getElem_cons_zero, List.getElem_cons_succ]
                  go_simp
                  try with_reducible rfl
                try simp only [List.getElem_toArray, List.getElem_cons_zero, List.getElem_cons_succ, Act.put, List.setIfInBounds_toArray, List.set_cons_zero, List.set_cons_succ]
                refine wpAnyL_take (i := 6) (oi := { dst := some 48, op := _, type := _, pos := _, after := _, guard := _ }) (v := ?v7) rfl (by kernel_rfl) (by kernel_rfl) (by kernel_rfl) (by kernel_rfl) (fun _ _ _ h => h) (Or.inl ⟨by kernel_rfl, ?y7⟩) hHeld ?r7
                case y7 =>
                  intro w hSw
                  try dsimp only at hSw
                  try simp only [List.getElem_toArray, List.getElem_cons_zero, List.getElem_cons_succ]
                  go_simp
                  try with_reducible rfl
                try simp only [List.getElem_toArray, List.getElem_cons_zero, List.getElem_cons_succ, Act.put, List.setIfInBounds_toArray, List.set_cons_zero, List.set_cons_succ]
                refine wpAnyL_take (i := 7) (oi := { dst := some 49, op := _, type := _, pos := _, after := _, guard := _ }) (v := ?v8) rfl (by kernel_rfl) (by kernel_rfl) (by kernel_rfl) (by kernel_rfl) (fun _ _ _ h => h) (Or.inl ⟨by kernel_rfl, ?y8⟩) hHeld ?r8
                case y8 =>
                  intro w hSw
                  try dsimp only at hSw
                  try simp only [List.getElem_toArray, List.getElem_cons_zero, List.getElem_cons_succ]
                  go_simp
                  try with_reducible rfl
                try simp only [List.getElem_toArray, List.getElem_cons_zero, List.getElem_cons_succ, Act.put, List.setIfInBounds_toArray, List.set_cons_zero, List.set_cons_succ]
                refine wpAnyL_take (i := 8) (oi := { dst := some 50, op := _, type := _, pos := _, after := _, guard := _ }) (v := ?v9) rfl (by kernel_rfl) (by kernel_rfl) (by kernel_rfl) (by kernel_rfl) (fun _ _ _ h => h) (Or.inl ⟨by kernel_rfl, ?y9⟩) hHeld ?r9
                case y9 =>
                  intro w hSw
                  try dsimp only at hSw
                  try simp only [List.getElem_toArray, List.getElem_cons_zero, List.getElem_cons_succ]
                  go_simp
                  try with_reducible rfl
                try simp only [List.getElem_toArray, List.getElem_cons_zero, List.getElem_cons_succ, Act.put, List.setIfInBounds_toArray, List.set_cons_zero, List.set_cons_succ]
                refine wpAnyL_take (i := 9) (oi := { dst := some 51, op := _, type := _, pos := _, after := _, guard := _ }) (v := ?v10) rfl (by kernel_rfl) (by kernel_rfl) (by kernel_rfl) (by kernel_rfl) (fun _ _ _ h => h) (Or.inl ⟨by kernel_rfl, ?y10⟩) hHeld ?r10
                case y10 =>
                  intro w hSw
                  try dsimp only at hSw
                  try simp only [List.getElem_toArray, List.getElem_cons_zero, List.getElem_cons_succ]
                  go_simp
                  try with_reducible rfl
                try simp only [List.getElem_toArray, List.getElem_cons_zero, List.getElem_cons_succ, Act.put, List.setIfInBounds_toArray, List.set_cons_zero, List.set_cons_succ]
                refine wpAnyL_one (i := 10) (by kernel_rfl) rfl (fun K hK => ?_)
                try simp only [List.getElem_toArray, List.getElem_cons_zero, List.getElem_cons_succ]
                go_simp
                go_at_call 34
                refine (km2.out _ hHeld.1.out).mono ?_
                rintro e Wn10 ⟨rfl, hbn⟩
                have hnew := Lib.hid (keep5 hbn hHeld)
                refine hK.out _ _ (fun _ => hnew.out) ?_
                have hHeld' := hnew.out
                clear hHeld hnew hK K hbn
                have hHeld := hHeld'
                clear hHeld'
                try simp only [List.getElem_toArray, List.getElem_cons_zero, List.getElem_cons_succ, Act.put, List.setIfInBounds_toArray, List.set_cons_zero, List.set_cons_succ]
                refine wpAnyL_take (i := 11) (oi := { dst := some 53, op := _, type := _, pos := _, after := _, guard := _ }) (v := ?v11) rfl (by kernel_rfl) (by kernel_rfl) (by kernel_rfl) (by kernel_rfl) (fun _ _ _ h => h) (Or.inl ⟨by kernel_rfl, ?y11⟩) hHeld ?r11
                case y11 =>
                  intro w hSw
                  try dsimp only at hSw
                  try simp only [List.getElem_toArray, List.getElem_cons_zero, List.getElem_cons_succ]
                  go_simp
                  try with_reducible rfl
                try simp only [List.getElem_toArray, List.getElem_cons_zero, List.getElem_cons_succ, Act.put, List.setIfInBounds_toArray, List.set_cons_zero, List.set_cons_succ]
                refine wpAnyL_done (by kernel_rfl) (OnlyN.normal ?_) _
                go_wp2
                have hbx := Lib.hid hHeld.1.out
                go_roundw
                case rel => exact ⟨k + 1, by omega, by go_num, hst2, Lib.hid (hB.out.trans (hbx.out.mono hB.out.size))⟩
                case measure => simp [intOf]; omega
              · rw [decide_eq_false he] at km2
                have hfin : Hid (sameS x y = false) := Lib.hid (sameS_false (hno he))
                clear hyes hno he
                go_wp2
                refine region_late (S := (fun W' : World => Hid (Below wr.heap.size wr W') ∧ W'.cell? ⟨w.heap.size, 3, none⟩ = some (.slice (some ⟨b1, o1, none⟩) x.bits.length cB1) ∧ W'.cell? ⟨w.heap.size + 1, 3, none⟩ = some (.slice (some ⟨b2, o2, none⟩) y.bits.length cB2) ∧ W'.cell? ⟨b1, o1 + k, none⟩ = some (.slice p1 xk.length e1) ∧ W'.cell? ⟨b2, o2 + k, none⟩ = some (.slice p2 yk.length e2))) (fun n => n == 999) (by kernel_rfl) hMd (fun hHeld => ?_)
                clear hMd
                generalize World.drew wr = Wd at *
                refine wpAnyL_take (i := 0) (oi := { dst := some 42, op := _, type := _, pos := _, after := _, guard := _ }) (v := ?v12) rfl (by kernel_rfl) (by kernel_rfl) (by kernel_rfl) (by kernel_rfl) (fun _ _ _ h => h) (Or.inl ⟨by kernel_rfl, ?y12⟩) hHeld ?r12
                case y12 =>
                  intro w hSw
                  try dsimp only at hSw
                  try simp only [List.getElem_toArray, List.getElem_cons_zero, List.getElem_cons_succ]
                  go_simp
                  try with_reducible rfl
                try simp only [List.getElem_toArray, List.getElem_cons_zero, List.getElem_cons_succ, Act.put, List.setIfInBounds_toArray, List.set_cons_zero, List.set_cons_succ]
                refine wpAnyL_take (i := 1) (oi := { dst := some 43, op := _, type := _, pos := _, after := _, guard := _ }) (v := ?v13) rfl (by kernel_rfl) (by kernel_rfl) (by kernel_rfl) (by kernel_rfl) (fun _ _ _ h => h) (Or.inl ⟨by kernel_rfl, ?y13⟩) hHeld ?r13
                case y13 =>
                  intro w hSw
                  try dsimp only at hSw
                  try simp only [List.getElem_toArray, List.getElem_cons_zero, List.getElem_cons_succ]
                  go_simp
                  try with_reducible rfl
                try simp only [List.getElem_toArray, List.getElem_cons_zero, List.getElem_cons_succ, Act.put, List.setIfInBounds_toArray, List.set_cons_zero, List.set_cons_succ]
                refine wpAnyL_take (i := 2) (oi := { dst := some 44, op := _, type := _, pos := _, after := _, guard := _ }) (v := ?v14) rfl (by kernel_rfl) (by kernel_rfl) (by kernel_rfl) (by kernel_rfl) (fun _ _ _ h => h) (Or.inl ⟨by kernel_rfl, ?y14⟩) hHeld ?r14
                case y14 =>
                  intro w hSw
                  try dsimp only at hSw
                  try simp only [List.getElem_toArray, List.getElem_cons_zero, List.getElem_cons_succ]
                  go_simp
                  try with_reducible rfl
                try simp only [List.getElem_toArray, List.getElem_cons_zero, List.getElem_cons_succ, Act.put, List.setIfInBounds_toArray, List.set_cons_zero, List.set_cons_succ]
                refine wpAnyL_take (i := 3) (oi := { dst := some 45, op := _, type := _, pos := _, after := _, guard := _ }) (v := ?v15) rfl (by kernel_rfl) (by kernel_rfl) (by kernel_rfl) (by kernel_rfl) (fun _ _ _ h => h) (Or.inl ⟨by kernel_rfl, ?y15⟩) hHeld ?r15
                case y15 =>
                  intro w hSw
                  try dsimp only at hSw
                  try simp only [List.getElem_toArray, List.getElem_cons_zero, List.getElem_cons_succ]
                  go_simp
                  try with_reducible rfl
                try simp only [List.getElem_toArray, List.getElem_cons_zero, List.getElem_cons_succ, Act.put, List.setIfInBounds_toArray, List.set_cons_zero, List.set_cons_succ]
                refine wpAnyL_take (i := 4) (oi := { dst := some 46, op := _, type := _, pos := _, after := _, guard := _ }) (v := ?v16) rfl (by kernel_rfl) (by kernel_rfl) (by kernel_rfl) (by kernel_rfl) (fun _ _ _ h => h) (Or.inl ⟨by kernel_rfl, ?y16⟩) hHeld ?r16
                case y16 =>
                  intro w hSw
                  try dsimp only at hSw
                  try simp only [List.getElem_toArray, List.getElem_cons_zero, List.getElem_cons_succ]
                  go_simp
                  try with_reducible rfl
                try simp only [List.getElem_toArray, List.getElem_cons_zero, List.getElem_cons_succ, Act.put, List.setIfInBounds_toArray, List.set_cons_zero, List.set_cons_succ]
                refine wpAnyL_take (i := 5) (oi := { dst := some 47, op := _, type := _, pos := _, after := _, guard := _ }) (v := ?v17) rfl (by kernel_rfl) (by kernel_rfl) (by kernel_rfl) (by kernel_rfl) (fun _ _ _ h => h) (Or.inl ⟨by kernel_rfl, ?y17⟩) hHeld ?r17
                case y17 =>
                  intro w hSw
                  try dsimp only at hSw
                  try simp only [List.getElem_toArray, List.getElem_cons_zero, List.getElem_cons_succ]
                  go_simp
                  try with_reducible rfl
                try simp only [List.getElem_toArray, List.getElem_cons_zero, List.getElem_cons_succ, Act.put, List.setIfInBounds_toArray, List.set_cons_zero, List.set_cons_succ]
                refine wpAnyL_take (i := 6) (oi := { dst := some 48, op := _, type := _, pos := _, after := _, guard := _ }) (v := ?v18) rfl (by kernel_rfl) (by kernel_rfl) (by kernel_rfl) (by kernel_rfl) (fun _ _ _ h => h) (Or.inl ⟨by kernel_rfl, ?y18⟩) hHeld ?r18
                case y18 =>
                  intro w hSw
                  try dsimp only at hSw
                  try simp only [List.getElem_toArray, List.getElem_cons_zero, List.getElem_cons_succ]
                  go_simp
                  try with_reducible rfl
                try simp only [List.getElem_toArray, List.getElem_cons_zero, List.getElem_cons_succ, Act.put, List.setIfInBounds_toArray, List.set_cons_zero, List.set_cons_succ]
                refine wpAnyL_take (i := 7) (oi := { dst := some 49, op := _, type := _, pos := _, after := _, guard := _ }) (v := ?v19) rfl (by kernel_rfl) (by kernel_rfl) (by kernel_rfl) (by kernel_rfl) (fun _ _ _ h => h) (Or.inl ⟨by kernel_rfl, ?y19⟩) hHeld ?r19
                case y19 =>
                  intro w hSw
                  try dsimp only at hSw
                  try simp only [List.getElem_toArray, List.getElem_cons_zero, List.getElem_cons_succ]
                  go_simp
                  try with_reducible rfl
                try simp only [List.getElem_toArray, List.getElem_cons_zero, List.getElem_cons_succ, Act.put, List.setIfInBounds_toArray, List.set_cons_zero, List.set_cons_succ]
                refine wpAnyL_take (i := 8) (oi := { dst := some 50, op := _, type := _, pos := _, after := _, guard := _ }) (v := ?v20) rfl (by kernel_rfl) (by kernel_rfl) (by kernel_rfl) (by kernel_rfl) (fun _ _ _ h => h) (Or.inl ⟨by kernel_rfl, ?y20⟩) hHeld ?r20
                case y20 =>
                  intro w hSw
                  try dsimp only at hSw
                  try simp only [List.getElem_toArray, List.getElem_cons_zero, List.getElem_cons_succ]
                  go_simp
                  try with_reducible rfl
                try simp only [List.getElem_toArray, List.getElem_cons_zero, List.getElem_cons_succ, Act.put, List.setIfInBounds_toArray, List.set_cons_zero, List.set_cons_succ]
                refine wpAnyL_take (i := 9) (oi := { dst := some 51, op := _, type := _, pos := _, after := _, guard := _ }) (v := ?v21) rfl (by kernel_rfl) (by kernel_rfl) (by kernel_rfl) (by kernel_rfl) (fun _ _ _ h => h) (Or.inl ⟨by kernel_rfl, ?y21⟩) hHeld ?r21
                case y21 =>
                  intro w hSw
                  try dsimp only at hSw
                  try simp only [List.getElem_toArray, List.getElem_cons_zero, List.getElem_cons_succ]
                  go_simp
                  try with_reducible rfl
                try simp only [List.getElem_toArray, List.getElem_cons_zero, List.getElem_cons_succ, Act.put, List.setIfInBounds_toArray, List.set_cons_zero, List.set_cons_succ]
                refine wpAnyL_one (i := 10) (by kernel_rfl) rfl (fun K hK => ?_)
                try simp only [List.getElem_toArray, List.getElem_cons_zero, List.getElem_cons_succ]
                go_simp
                go_at_call 34
                refine (km2.out _ hHeld.1.out).mono ?_
                rintro e Wn10 ⟨rfl, hbn⟩
                have hnew := Lib.hid (keep5 hbn hHeld)
                refine hK.out _ _ (fun _ => hnew.out) ?_
                have hHeld' := hnew.out
                clear hHeld hnew hK K hbn
                have hHeld := hHeld'
                clear hHeld'
                try simp only [List.getElem_toArray, List.getElem_cons_zero, List.getElem_cons_succ, Act.put, List.setIfInBounds_toArray, List.set_cons_zero, List.set_cons_succ]
                refine wpAnyL_take (i := 11) (oi := { dst := some 53, op := _, type := _, pos := _, after := _, guard := _ }) (v := ?v22) rfl (by kernel_rfl) (by kernel_rfl) (by kernel_rfl) (by kernel_rfl) (fun _ _ _ h => h) (Or.inl ⟨by kernel_rfl, ?y22⟩) hHeld ?r22
                case y22 =>
                  intro w hSw
                  try dsimp only at hSw
                  try simp only [List.getElem_toArray, List.getElem_cons_zero, List.getElem_cons_succ]
                  go_simp
                  try with_reducible rfl
                try simp only [List.getElem_toArray, List.getElem_cons_zero, List.getElem_cons_succ, Act.put, List.setIfInBounds_toArray, List.set_cons_zero, List.set_cons_succ]
                refine wpAnyL_done (by kernel_rfl) (OnlyN.normal ?_) _
                go_wp2
                exact bodyPost_ret (v := .bool false) (by simp [results, Tryd.results23, go_sem]) rfl ⟨by rw [hfin.out], hBw.out.trans (hHeld.1.out.mono hBw.out.size)⟩
            · have hkd : decide ((k : Int) < (x.bits.length : Int)) = false := decide_eq_false (by omega)
              have hkd2 : decide (k < x.bits.length) = false := decide_eq_false hlt
              have hfin : Hid (sameS x y = true) := Lib.hid (sameS_iff.2 (by
                have h5 := hst.out
                rw [List.take_of_length_le (by omega), List.take_of_length_le (by have := a4'.out; omega)] at h5
                exact sl_ext a1'.out a2'.out a3'.out h5))
              go_wp2
              exact bodyPost_ret (v := .bool true) (by simp [results, Tryd.results23, go_sem]) rfl ⟨by rw [hfin.out], hBw.out⟩
        · have q41 : ((x.bits.length : Int) == (y.bits.length : Int)) = false := beq_false_of_ne (by omega)
          have q42 : ((x.bits.length : Int) != (y.bits.length : Int)) = true := by rw [bne, q41]; rfl
          have hfin : Hid (sameS x y = false) := Lib.hid (sameS_false fun e => a4 (by rw [e]))
          go_enter Tryd.func23, Tryd.ntmps23
          go_wp2_with (go_at_call 34; refine (km.out).mono ?_; rintro e W2 ⟨rfl, hb2⟩; clear km c0 c1 c2 c3 d0 d1 d2 d3; have y1 := Lib.hid (x1'.out.later hb2); have y2 := Lib.hid (x2'.out.later hb2); have hB2 := Lib.hid (hR.out.trans (hb2.mono hR.out.size)); have c3 := y1.out.c3; have d3 := y2.out.c3)
          exact bodyPost_ret (v := .bool false) (by simp [results, Tryd.results23, go_sem]) rfl ⟨by rw [hfin.out], hB2.out⟩
      · rw [decide_eq_false a3] at km
        have hfin : Hid (sameS x y = false) := Lib.hid (sameS_false fun e => a3 (by rw [e]))
        go_enter Tryd.func23, Tryd.ntmps23
        go_wp2_with (go_at_call 34; refine (km.out).mono ?_; rintro e W2 ⟨rfl, hb2⟩; clear km c0 c1 c2 c3 d0 d1 d2 d3; have y1 := Lib.hid (x1'.out.later hb2); have y2 := Lib.hid (x2'.out.later hb2); have hB2 := Lib.hid (hR.out.trans (hb2.mono hR.out.size)); have c3 := y1.out.c3; have d3 := y2.out.c3)
        exact bodyPost_ret (v := .bool false) (by simp [results, Tryd.results23, go_sem]) rfl ⟨by rw [hfin.out], hB2.out⟩
    · have q21 : (x.least == y.least) = false := beq_false_of_ne a2
      have q22 : (x.least != y.least) = true := by rw [bne, q21]; rfl
      have hfin : Hid (sameS x y = false) := Lib.hid (sameS_false fun e => a2 (by rw [e]))
      go_enter Tryd.func23, Tryd.ntmps23
      go_wp2
      exact bodyPost_ret (v := .bool false) (by simp [results, Tryd.results23, go_sem]) rfl ⟨by rw [hfin.out], hR.out⟩
  · have q11 : (x.n == y.n) = false := beq_false_of_ne a1
    have q12 : (x.n != y.n) = true := by rw [bne, q11]; rfl
    have hfin : Hid (sameS x y = false) := Lib.hid (sameS_false fun e => a1 (by rw [e]))
    go_enter Tryd.func23, Tryd.ntmps23
    go_wp2
    exact bodyPost_ret (v := .bool false) (by simp [results, Tryd.results23, go_sem]) rfl ⟨by rw [hfin.out], hR.out⟩
end Go.Proofs.YtnigpmbpipmgfaaDoor
