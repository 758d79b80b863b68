/-
  The least and the greatest number of some rows: column.least, column.greatest.
-/
import Derived.Test.YtnigpmbpipmgfaaDoorBsD
namespace Go.Proofs.YtnigpmbpipmgfaaDoor
open Go.RowKit Go.Shelf Tess

attribute [local go_sem] Oper.semAt_some

theorem cell_is {W : World} {b i : Nat} {x : Value} (h : W.cell? ⟨b, i, none⟩ = some x) {o : Obj} (ho : W.heap[b]? = some o) : o.isCells = true := by
  unfold World.cell? at h
  simp only [ho] at h
  cases o <;> first | rfl | (exfalso; simp_all; done)
theorem own_cell {W W' : World} {row : Option Nat} {b i : Nat} {x : Value} (h : W.cell? ⟨b, i, none⟩ = some x) (hb : b < W.heap.size) (hg : W.grownBy W' row) (hr : ∀ r, row = some r → ∃ o : Obj, W.heap[r]? = some o ∧ o.isCells = false) : W'.cell? ⟨b, i, none⟩ = some x := by
  refine (World.cell?_of_block (a := ⟨b, i, none⟩) (hg.block b hb fun e => ?_)).trans h
  obtain ⟨o, ho, hc⟩ := hr b e.symm
  rw [cell_is h ho] at hc
  cases hc
theorem HC.grown {W W' : World} {row : Option Nat} {v : Value} {l : List Ch} (h : HC W v l) (hg : W.grownBy W' row) (hr : ∀ r, row = some r → ∃ o : Obj, W.heap[r]? = some o ∧ o.isCells = false) : HC W' v l := by
  obtain ⟨p, cap, hv, hc, h⟩ := Hid.out h
  refine Lib.hid ⟨p, cap, hv, hc, fun j hj => ?_⟩
  obtain ⟨b, off, hp, hb, h1, h2, h3⟩ := h j hj
  exact ⟨b, off, hp, Nat.lt_of_lt_of_le hb hg.size, own_cell h1 hb hg hr, own_cell h2 hb hg hr, own_cell h3 hb hg hr⟩
theorem RBox.own {W W' : World} {row : Option Nat} {b : Nat} {v : Value} (h : RBox W b v) (hg : W.grownBy W' row) (hr : ∀ r, row = some r → ∃ o : Obj, W.heap[r]? = some o ∧ o.isCells = false) : RBox W' b v :=
  (hg.block b h.lt fun e => by
    obtain ⟨o, ho, hc⟩ := hr b e.symm
    rw [cell_is h.cell ho] at hc; cases hc).trans h
/-- A variable of type uint64. -/
def UBox (W : World) (b k : Nat) : Prop := W.heap[b]? = some (.cells #[.int .u64 k] 41 (0, 0))
theorem UBox.new (W : World) (k : Nat) : UBox (W.alloc (.cells #[.int .u64 k] 41)) W.heap.size k := heap_alloc_new W _
theorem UBox.lt {W : World} {b k : Nat} (h : UBox W b k) : b < W.heap.size := lt_of_heap h
theorem UBox.later {W W' : World} {b k : Nat} (h : UBox W b k) (hb : Below W.heap.size W W') : UBox W' b k := (hb.block b h.lt).trans h
theorem UBox.alloc {W : World} {b k : Nat} (h : UBox W b k) (o : Obj) : UBox (W.alloc o) b k := h.later ((Below.refl _ W).alloc (Nat.le_refl _) _)
theorem UBox.far {W : World} {b k : Nat} (h : UBox W b k) {p : Addr} (hp : b ≠ p.block) (u : Value) : UBox (W.setCell p u) b k := (Below.heap_setCell W p u b hp).trans h
theorem UBox.cell {W : World} {b k : Nat} (h : UBox W b k) : W.cell? ⟨b, 0, none⟩ = some (.int .u64 k) := by rw [cell_of_row W b 0 _ _ (0, 0) h]; rfl
theorem UBox.frozen {W : World} {b k : Nat} (h : UBox W b k) : W.frozen? ⟨b, 0, none⟩ = false := by
  unfold UBox at h
  simp [World.frozen?, h]
theorem UBox.own {W W' : World} {row : Option Nat} {b k : Nat} (h : UBox W b k) (hg : W.grownBy W' row) (hr : ∀ r, row = some r → ∃ o : Obj, W.heap[r]? = some o ∧ o.isCells = false) : UBox W' b k :=
  (hg.block b h.lt fun e => by
    obtain ⟨o, ho, hc⟩ := hr b e.symm
    rw [cell_is h.cell ho] at hc; cases hc).trans h
theorem keepsFrom_below {B : Nat} {W W' : World} (h : Below W.heap.size W W') : KeepsFrom B W W' := ⟨h.size, fun k _ _ hk _ => (h.block k (lt_of_heap hk)).trans hk⟩
theorem keepsFrom_set {B : Nat} {W : World} {p : Addr} (hp : p.block < B) (v : Value) : KeepsFrom B W (W.setCell p v) := ⟨by simp, fun k _ hB hk _ => (Below.heap_setCell W p v k (by omega)).trans hk⟩
theorem keepB_below {n₀ : Nat} {S : Nat → Prop} {W W' : World} (h : Below W.heap.size W W') (hn : n₀ ≤ W.heap.size) (hS : ∀ b, S b → b < W.heap.size) : KeepB n₀ S W W' := ⟨h.mono hn, fun b hb => h.block b (hS b hb)⟩
theorem keepB_set {n₀ : Nat} {S : Nat → Prop} {W : World} {p : Addr} (hp : n₀ ≤ p.block) (hS : ¬ S p.block) (v : Value) : KeepB n₀ S W (W.setCell p v) :=
  ⟨(Below.refl _ W).setCell hp v, fun b hb => Below.heap_setCell W p v b (fun e => hS (e ▸ hb))⟩

def stepDown (s : List Ch × Nat) (b : List Ch) : List Ch × Nat := if wiL s.1 b = [] then (s.1, 2 * s.2 + 1) else (wiL s.1 b, 2 * s.2)
def stepUp (s : List Ch × Nat) (b : List Ch) : List Ch × Nat := if andL s.1 b = [] then (s.1, 2 * s.2) else (andL s.1 b, 2 * s.2 + 1)
theorem downD_fold : ∀ (ds : List (List Ch)) (rows : List Ch) (k : Nat), downD ds rows k = (ds.foldl stepDown (rows, k)).2
  | [], _, _ => rfl
  | b :: ds, rows, k => by
    show (if wiL rows b = [] then downD ds rows (2 * k + 1) else downD ds (wiL rows b) (2 * k)) = (ds.foldl stepDown (if wiL rows b = [] then (rows, 2 * k + 1) else (wiL rows b, 2 * k))).2
    split <;> exact downD_fold ds _ _
theorem upD_fold : ∀ (ds : List (List Ch)) (rows : List Ch) (k : Nat), upD ds rows k = (ds.foldl stepUp (rows, k)).2
  | [], _, _ => rfl
  | b :: ds, rows, k => by
    show (if andL rows b = [] then upD ds rows (2 * k) else upD ds (andL rows b) (2 * k + 1)) = (ds.foldl stepUp (if andL rows b = [] then (rows, 2 * k) else (andL rows b, 2 * k + 1))).2
    split <;> exact upD_fold ds _ _
theorem u64_or_one {k : Nat} (hk : k < 9223372036854775808) : Go.bits .or .u64 ((2 * k : Nat) : Int) 1 = ((2 * k + 1 : Nat) : Int) := by
  have h1 := Nat.two_pow_add_eq_or_of_lt (i := 1) (b := 1) (by decide) k
  show IntKind.u64.wrap ((BitVec.ofInt 64 ((2 * k : Nat) : Int) ||| BitVec.ofInt 64 ((1 : Nat) : Int)).toNat : Int) = _
  rw [BitVec.toNat_or, ofInt_u64 _ (by omega), ofInt_u64 _ (by omega), show (2 * k : Nat) = 2 ^ 1 * k by omega, ← h1, IntKind.wrap_u64]
  omega

theorem UBox.set {W : World} {b k : Nat} (h : UBox W b k) (j : Nat) : UBox (W.setCell ⟨b, 0, none⟩ (.int .u64 j)) b j := Boxed.set (.int .u64 (j : Int)) h
/-- A store into a number's box leaves chunks alone. -/
theorem HC.setU {W : World} {v : Value} {l : List Ch} {b k : Nat} (h : HC W v l) (hx : UBox W b k) (u' : Value) : HC (W.setCell ⟨b, 0, none⟩ u') v l := by
  obtain ⟨p, cap, hv, hc, hh⟩ := Hid.out h
  refine Lib.hid ⟨p, cap, hv, hc, fun j hj => ?_⟩
  obtain ⟨g, off, hp, hb1, h1, h2, h3⟩ := hh j hj
  have hne : g ≠ b := by
    rintro rfl
    rw [cell_of_row W g _ _ _ (0, 0) hx] at h2
    simp at h2
  have hk : ∀ i, (W.setCell ⟨b, 0, none⟩ u').cell? ⟨g, i, none⟩ = W.cell? ⟨g, i, none⟩ := fun i => World.cell?_setCell_other W ⟨b, 0, none⟩ ⟨g, i, none⟩ u' (fun e => by
    have := congrArg Addr.block e
    first | exact hne this | exact hne this.symm)
  exact ⟨g, off, hp, by simpa using hb1, (hk _).trans h1, (hk _).trans h2, (hk _).trans h3⟩

def goDown {w : World} (s : List Ch × Nat) (y : DX w) : List Ch × Nat := stepDown s y.1.2.2
def goUp {w : World} (s : List Ch × Nat) (y : DX w) : List Ch × Nat := stepUp s y.1.2.2
theorem goDown_right {w : World} : ∀ (pre : List (DX w)) (s : List Ch × Nat), rightL s.1 = true → rightL (pre.foldl goDown s).1 = true
  | [], _, h => h
  | y :: pre, s, h => goDown_right pre _ (by
    unfold goDown stepDown
    split
    · exact h
    · exact (wi_some h y.2.2).2.1)
theorem goUp_right {w : World} : ∀ (pre : List (DX w)) (s : List Ch × Nat), rightL s.1 = true → rightL (pre.foldl goUp s).1 = true
  | [], _, h => h
  | y :: pre, s, h => goUp_right pre _ (by
    unfold goUp stepUp
    split
    · exact h
    · exact (and_some h y.2.2).2.1)
theorem goDown_lt {w : World} : ∀ (pre : List (DX w)) (s : List Ch × Nat), (pre.foldl goDown s).2 < (s.2 + 1) * 2 ^ pre.length
  | [], s => by simp
  | y :: pre, s => by
    have h := goDown_lt pre (goDown s y)
    have h2 : (goDown s y).2 + 1 ≤ 2 * (s.2 + 1) := by unfold goDown stepDown; split <;> simp <;> omega
    have h3 := Nat.mul_le_mul_right (2 ^ pre.length) h2
    show (pre.foldl goDown (goDown s y)).2 < (s.2 + 1) * 2 ^ (pre.length + 1)
    have h4 : 2 * (s.2 + 1) * 2 ^ pre.length = (s.2 + 1) * 2 ^ (pre.length + 1) := by rw [Nat.pow_succ, Nat.mul_comm 2, Nat.mul_assoc, Nat.mul_comm 2]
    exact Nat.lt_of_lt_of_le (Nat.lt_of_lt_of_le h h3) (Nat.le_of_eq h4)
theorem goUp_lt {w : World} : ∀ (pre : List (DX w)) (s : List Ch × Nat), (pre.foldl goUp s).2 < (s.2 + 1) * 2 ^ pre.length
  | [], s => by simp
  | y :: pre, s => by
    have h := goUp_lt pre (goUp s y)
    have h2 : (goUp s y).2 + 1 ≤ 2 * (s.2 + 1) := by unfold goUp stepUp; split <;> simp <;> omega
    have h3 := Nat.mul_le_mul_right (2 ^ pre.length) h2
    show (pre.foldl goUp (goUp s y)).2 < (s.2 + 1) * 2 ^ (pre.length + 1)
    have h4 : 2 * (s.2 + 1) * 2 ^ pre.length = (s.2 + 1) * 2 ^ (pre.length + 1) := by rw [Nat.pow_succ, Nat.mul_comm 2, Nat.mul_assoc, Nat.mul_comm 2]
    exact Nat.lt_of_lt_of_le (Nat.lt_of_lt_of_le h h3) (Nat.le_of_eq h4)
theorem fold_map {w : World} (f : List Ch × Nat → List Ch → List Ch × Nat) (g : List Ch × Nat → DX w → List Ch × Nat) (hg : ∀ s y, g s y = f s y.1.2.2) : ∀ (xs : List (DX w)) (s : List Ch × Nat), xs.foldl g s = (xs.map (fun d => d.1.2.2)).foldl f s
  | [], _ => rfl
  | y :: xs, s => by
    show xs.foldl g (g s y) = (xs.map _).foldl f (f s y.1.2.2)
    rw [hg]
    exact fold_map f g hg xs _
theorem digits_lists {w : World} {xs : List (DX w)} {bits : List (List Ch)} {x : Nat} (h : xs.map (fun d => (d.1.1, d.1.2.2)) = digD bits x) : xs.map (fun d => d.1.2.2) = bits.reverse := by
  rw [← digD_snd bits x, ← h, List.map_map]; rfl
/-- What the rounds leave behind. -/
def LW {w : World} (g : List Ch × Nat → DX w → List Ch × Nat) (rows : List Ch) (pre : List (DX w)) (W : World) : Prop :=
  ∃ v', RBox W (w.heap.size + 1) v' ∧ HC W v' (pre.foldl g (rows, 0)).1 ∧ UBox W (w.heap.size + 1 + 1) (pre.foldl g (rows, 0)).2 ∧ Below w.heap.size w W ∧ w.heap.size + 5 ≤ W.heap.size
theorem LW.later {w : World} {g : List Ch × Nat → DX w → List Ch × Nat} {rows : List Ch} {pre : List (DX w)} {W W' : World} (h : LW g rows pre W) (hb : Below W.heap.size W W') : LW g rows pre W' := by
  obtain ⟨v', h1, h2, h3, h4, h5⟩ := h
  exact ⟨v', h1.later hb, h2.later hb, h3.later hb, h4.trans (hb.mono h4.size), Nat.le_trans h5 hb.size⟩
theorem LW.own {w : World} {g : List Ch × Nat → DX w → List Ch × Nat} {rows : List Ch} {B : Nat} (hB : w.heap.size ≤ B) : OwnFrom B (LW g rows) := by
  rintro pre W W' row ⟨v', h1, h2, h3, h4, h5⟩ hg hr
  exact ⟨v', h1.own hg (fun r e => (hr r e).2), h2.grown hg (fun r e => (hr r e).2), h3.own hg (fun r e => (hr r e).2), h4.grown hg h4.size (fun k e => Nat.le_trans hB (hr k e).1), Nat.le_trans h5 hg.size⟩

set_option maxRecDepth 100000 in
set_option maxHeartbeats 8000000 in
theorem least_any {N least : Int} {vE vB v : Value} {bits : List (List Ch)} {rows : List Ch} (w : World) (hB : HR w vB bits) (hr : ∀ x ∈ bits, rightL x = true) (hl64 : bits.length ≤ 64) (hv : HC w v rows) (hrr : rightL rows = true) (hT : Tab w) :
    Calls Tryd.prog 61 #[.agg #[.int .i64 N, .int .i64 least, vE, vB], .agg #[v]] w fun e W' => e = .returned (.int .u64 (downD bits.reverse rows 0 : Nat)) ∧ Below w.heap.size w W' := by
  obtain ⟨xs, hxs, hm⟩ := digits_ex hB hr 0
  have hvB : ∃ p c, vB = .slice p bits.length c := by obtain ⟨p, c, h, -, -⟩ := Hid.out hB; exact ⟨p, c, h⟩
  obtain ⟨pv, cv, rfl, -, -⟩ := Hid.out hv
  refine (callsIn_wide (n := 9)).1 ?_
  refine callsIn_of_wp_marks Tryd.func61 rfl trivial ?_ rfl
  simp only [Tryd.ntmps61, List.size_toArray, List.length_cons, List.length_nil, Nat.reduceAdd, Nat.reduceSub, Array.replicate_succ, Array.replicate_zero, List.push_toArray, List.append_toArray, List.nil_append, List.cons_append]
  have b0 := SBox.new w 83 N least vE vB
  have b0' := b0.c0; have b1' := b0.c1; have b2' := b0.c2; have b3' := b0.c3
  gi_wp2_with (refine ⟨trivial, ?_⟩; gi_at_call 93; refine (digits_in _ _ _ _ _ 0 _).mono ?_; rintro e w' ⟨rfl, rfl⟩)
  clear b0' b1' b2' b3'
  have r1 := (((RBox.new (w.alloc (.cells #[.int .i64 N, .int .i64 least, vE, vB] 83)) (.slice pv rows.length cv)).alloc (.cells #[.int .u64 0] 41)).alloc (.cells #[.int .i64 N, .int .i64 least, vE, vB] 83)).alloc (.cells #[.int .u64 0] 41)
  have r2 := ((UBox.new ((w.alloc (.cells #[.int .i64 N, .int .i64 least, vE, vB] 83)).alloc (.cells #[.slice pv rows.length cv] 28)) 0).alloc (.cells #[.int .i64 N, .int .i64 least, vE, vB] 83)).alloc (.cells #[.int .u64 0] 41)
  have r3 := (SBox.new (((w.alloc (.cells #[.int .i64 N, .int .i64 least, vE, vB] 83)).alloc (.cells #[.slice pv rows.length cv] 28)).alloc (.cells #[.int .u64 0] 41)) 83 N least vE vB).alloc (.cells #[.int .u64 0] 41)
  have r4 := UBox.new ((((w.alloc (.cells #[.int .i64 N, .int .i64 least, vE, vB] 83)).alloc (.cells #[.slice pv rows.length cv] 28)).alloc (.cells #[.int .u64 0] 41)).alloc (.cells #[.int .i64 N, .int .i64 least, vE, vB] 83)) 0
  have r5 : Below w.heap.size w (((((w.alloc (.cells #[.int .i64 N, .int .i64 least, vE, vB] 83)).alloc (.cells #[.slice pv rows.length cv] 28)).alloc (.cells #[.int .u64 0] 41)).alloc (.cells #[.int .i64 N, .int .i64 least, vE, vB] 83)).alloc (.cells #[.int .u64 0] 41)) :=
    (((((Below.refl _ w).alloc (Nat.le_refl _) _).alloc (by simp) _).alloc (by simp; omega) _).alloc (by simp; omega) _).alloc (by simp; omega) _
  have r6 : (((((w.alloc (.cells #[.int .i64 N, .int .i64 least, vE, vB] 83)).alloc (.cells #[.slice pv rows.length cv] 28)).alloc (.cells #[.int .u64 0] 41)).alloc (.cells #[.int .i64 N, .int .i64 least, vE, vB] 83)).alloc (.cells #[.int .u64 0] 41)).heap.size = w.heap.size + 5 := by simp
  simp only [World.size_alloc] at r1 r2 r3 r4
  change UBox _ _ 0 at r2
  generalize (((((w.alloc (.cells #[.int .i64 N, .int .i64 least, vE, vB] 83)).alloc (.cells #[.slice pv rows.length cv] 28)).alloc (.cells #[.int .u64 0] 41)).alloc (.cells #[.int .i64 N, .int .i64 least, vE, vB] 83)).alloc (.cells #[.int .u64 0] 41)) = w5 at *
  refine wpIn_rangeFunc_ownH rfl (by omega) (gf := 110) (lb := #[.pointer (some ⟨w.heap.size + 1 + 1 + 1, 0, none⟩), .pointer (some ⟨w.heap.size + 1 + 1 + 1 + 1, 0, none⟩)]) rfl trivial (enters_of Tryd.func110 (by kernel_rfl) rfl)
    (digits_stops _ (by omega) (w.heap.size + 1 + 1 + 1) (w.heap.size + 1 + 1 + 1 + 1) w.heap.size (N := N) (least := least) (vE := vE) (vB := vB) (bits := bits) w w5 xs 0 (by decide) hl64 hxs r3 r4.cell r4.lt (by omega) hvB
      (fun j hj => by obtain ⟨b, off, h1, h2, h3⟩ := hm j hj; exact ⟨b, off, h1, h2, (r5.cell (p := ⟨b, _, none⟩) h2).trans h3⟩))
    (fun h k => KeepB.trans h k) (keepB_b (by omega) (by rintro b (rfl | rfl) <;> omega)) (Below.refl _ _) (fun _ => rfl)
    (LW goDown rows) (fun _ _ _ => False) (LW.own (by omega)) (fun _ _ _ _ _ hs _ _ => hs)
    ⟨_, r1, hv.later r5, r2, r5, by omega⟩
    (fun y a' W => ∃ b, RBox W b y.1.2.1 ∧ w.heap.size + 5 ≤ b ∧ a' = { tmps := #[.agg #[.int .i64 N, .int .i64 least, vE, vB], .agg #[.slice pv rows.length cv], .pointer (some ⟨w.heap.size, 0, none⟩), .pointer (some ⟨w.heap.size + 1, 0, none⟩), .int .u64 0, .pointer (some ⟨w.heap.size + 1 + 1, 0, none⟩), undef, .pointer (some ⟨b, 0, none⟩), undef, .agg #[.int .i64 N, .int .i64 least, vE, vB],
      .func (.func 110) #[] #[.pointer (some ⟨w.heap.size + 1 + 1 + 1, 0, none⟩), .pointer (some ⟨w.heap.size + 1 + 1 + 1 + 1, 0, none⟩)], .bool y.1.1, .agg #[y.1.2.1], undef, undef, undef, undef, undef, undef, undef, undef, undef, undef, undef, undef, undef], defers := [] })
    (fun y a' _ W W' row ⟨b, h1, h2, h3⟩ hg hr => ⟨b, h1.own hg (fun r e => (hr r e).2), h2, h3⟩) ?assign ?body ?done ?stop
  case assign =>
    rintro l pre ⟨⟨bb, u, lb⟩, hu, hrb⟩ W K hI hK
    dsimp only at hu hrb
    obtain ⟨p, c, rfl, -, -⟩ := Hid.out hu
    have hsz : w.heap.size + 5 ≤ W.heap.size := by obtain ⟨_, _, _, _, _, h⟩ := hI; exact h
    have hbl : Below W.heap.size W (W.alloc (.cells #[.slice p lb.length c] 28)) := (Below.refl _ W).alloc (Nat.le_refl _) _
    gi_wp2
    exact hK _ _ (keepsFrom_below hbl) (keepB_below hbl (by omega) (by rintro b (rfl | rfl) <;> omega)) (hI.later hbl) ⟨_, RBox.new W _, hsz, rfl⟩
  case body =>
    rintro l pre ⟨⟨bb, u, lb⟩, hu, hrb⟩ a' W hl - hI ⟨b, hb, hb5, rfl⟩ hlt
    dsimp only at hu hrb hb ⊢
    obtain ⟨v', q1, q2, q3, q4, q5⟩ := hI
    have hrr' := goDown_right pre (rows, 0) hrr
    have hkk := goDown_lt pre (rows, 0)
    have hpw : (2 : Nat) ^ pre.length ≤ 2 ^ 63 := Nat.pow_le_pow_right (by decide) (by omega)
    have hst : (pre ++ [(⟨(bb, u, lb), hu, hrb⟩ : DX w)]).foldl goDown (rows, 0) = stepDown (pre.foldl goDown (rows, 0)) lb := by rw [List.foldl_append]; rfl
    simp only [Nat.zero_add, Nat.one_mul] at hkk
    generalize hsk : pre.foldl goDown (rows, 0) = sk at *
    obtain ⟨rw', k⟩ := sk
    dsimp only at q2 q3 hrr' hkk
    have hk63 : k < 9223372036854775808 := by
      have : (2 : Nat) ^ 63 = 9223372036854775808 := by decide
      omega
    have c3 := q3.cell
    have f3 := q3.frozen
    have hor0 := u64_or_one hk63
    obtain ⟨K2, hK2⟩ : ∃ K2 : Nat, 2 * k = K2 := ⟨_, rfl⟩
    obtain ⟨K3, hK3⟩ : ∃ K3 : Nat, 2 * k + 1 = K3 := ⟨_, rfl⟩
    rw [hK3, hK2] at hor0
    have e2 : IntKind.u64.wrap ((k : Int) * 2) = (K2 : Int) := by rw [IntKind.wrap_u64]; omega
    have hK2' := Lib.hid hK2
    have hK3' := Lib.hid hK3
    have d1 := q1.cell
    have db := hb.cell
    have d1f := q1.frozen
    have g3 := q3.set K2
    have g1 := q1.far (p := ⟨w.heap.size + 1 + 1, 0, none⟩) (by simp) (.int .u64 (K2 : Int))
    have gb := hb.far (p := ⟨w.heap.size + 1 + 1, 0, none⟩) (by simp; omega) (.int .u64 (K2 : Int))
    have g2 := q2.setU q3 (.int .u64 (K2 : Int))
    have g4 := q4.setCell (p := ⟨w.heap.size + 1 + 1, 0, none⟩) (by simp; omega) (.int .u64 (K2 : Int))
    have gs : (W.setCell ⟨w.heap.size + 1 + 1, 0, none⟩ (.int .u64 (K2 : Int))).heap.size = W.heap.size := by simp
    have glb := (hu.later q4).setU q3 (.int .u64 (K2 : Int))
    have hT1 := hT.below g4 hT.lt
    have hk := Lib.hid (without_any g2 glb (small_right hrr') (small_right hrb) hT1)
    have s1 : KeepsFrom w5.heap.size W (W.setCell ⟨w.heap.size + 1 + 1, 0, none⟩ (.int .u64 (K2 : Int))) := keepsFrom_set (by show w.heap.size + 1 + 1 < _; omega) _
    have s2 : KeepB w.heap.size (fun b => b = w.heap.size + 1 + 1 + 1 ∨ b = w.heap.size + 1 + 1 + 1 + 1) W (W.setCell ⟨w.heap.size + 1 + 1, 0, none⟩ (.int .u64 (K2 : Int))) := keepB_set (by show _ ≤ w.heap.size + 1 + 1; omega) (by simp) _
    have s1' := Lib.hid s1
    have s2' := Lib.hid s2
    have hst' := Lib.hid hst
    have q2' := Lib.hid q2
    have q3' := Lib.hid q3
    clear s1 s2 hst hT1 glb q1 q2 hb hsk hkk hpw hK2 hK3 hk63 hlt
    gi_wp2_with (refine ⟨trivial, ?_⟩; gi_at_call 94; refine (callsIn_wide.2 hk.out).mono ?_; rintro e W2 ⟨v2, rfl, hv2, hb2⟩; obtain ⟨p2, cp2, rfl, -, -⟩ := Hid.out hv2; have y1 := (RBox.new W2 (.slice p2 (wiL rw' lb).length cp2)).cell; have y3 := ((g3.later hb2).alloc (.cells #[.slice p2 (wiL rw' lb).length cp2] 28)).cell; have yf3 := ((g3.later hb2).alloc (.cells #[.slice p2 (wiL rw' lb).length cp2] 28)).frozen; have yf1 := ((g1.later hb2).alloc (.cells #[.slice p2 (wiL rw' lb).length cp2] 28)).frozen; have yc1 := ((g1.later hb2).alloc (.cells #[.slice p2 (wiL rw' lb).length cp2] 28)).cell)
    · rename_i hpos
      have hb3 := hb2.alloc hb2.size (.cells #[.slice p2 (wiL rw' lb).length cp2] 28)
      have g1l := (g1.later hb2).alloc (.cells #[.slice p2 (wiL rw' lb).length cp2] 28)
      have g3l := (g3.later hb2).alloc (.cells #[.slice p2 (wiL rw' lb).length cp2] 28)
      have hvl := hv2.alloc (.cells #[.slice p2 (wiL rw' lb).length cp2] 28)
      have hB4 := g4.trans (hb3.mono g4.size)
      have hsz := hb3.size
      rw [gs] at hsz
      have he : wiL rw' lb ≠ [] := fun e => by rw [e] at hpos; simp at hpos
      refine ⟨(s1'.out.trans (keepsFrom_below hb3)).trans (keepsFrom_set (by show w.heap.size + 1 < _; omega) _), KeepB.trans (KeepB.trans s2'.out (keepB_below hb3 (by rw [gs]; omega) (by rintro b (rfl | rfl) <;> rw [gs] <;> omega))) (keepB_set (by show _ ≤ w.heap.size + 1; omega) (by show ¬ (w.heap.size + 1 = _ ∨ w.heap.size + 1 = _); omega) _), ?_⟩
      unfold LW
      rw [hst'.out]
      unfold stepDown
      rw [if_neg he, hK2'.out]
      exact ⟨_, g1l.set _, hvl.setR g1l _, g3l.far (p := ⟨w.heap.size + 1, 0, none⟩) (by simp) _, hB4.setCell (p := ⟨w.heap.size + 1, 0, none⟩) (by simp) _, by simp at hsz ⊢; omega⟩
    · rename_i hpos
      have hb3 := hb2.alloc hb2.size (.cells #[.slice p2 (wiL rw' lb).length cp2] 28)
      have g1l := (g1.later hb2).alloc (.cells #[.slice p2 (wiL rw' lb).length cp2] 28)
      have g3l := (g3.later hb2).alloc (.cells #[.slice p2 (wiL rw' lb).length cp2] 28)
      have hvl := hv2.alloc (.cells #[.slice p2 (wiL rw' lb).length cp2] 28)
      have hB4 := g4.trans (hb3.mono g4.size)
      have hsz := hb3.size
      rw [gs] at hsz
      have he : wiL rw' lb = [] := by
        cases hw : wiL rw' lb with
        | nil => rfl
        | cons x t => rw [hw] at hpos; exact absurd (by simp) hpos
      have hvo := ((q2'.out.setU q3'.out (.int .u64 (K2 : Int))).later hb3)
      refine ⟨(s1'.out.trans (keepsFrom_below hb3)).trans (keepsFrom_set (by show w.heap.size + 1 + 1 < _; omega) _), KeepB.trans (KeepB.trans s2'.out (keepB_below hb3 (by rw [gs]; omega) (by rintro b (rfl | rfl) <;> rw [gs] <;> omega))) (keepB_set (by show _ ≤ w.heap.size + 1 + 1; omega) (by show ¬ (w.heap.size + 1 + 1 = _ ∨ w.heap.size + 1 + 1 = _); omega) _), ?_⟩
      unfold LW
      rw [hst'.out]
      unfold stepDown
      rw [if_pos he, hK3'.out]
      exact ⟨_, g1l.far (p := ⟨w.heap.size + 1 + 1, 0, none⟩) (by simp) _, hvo.setU g3l _, g3l.set K3, hB4.setCell (p := ⟨w.heap.size + 1 + 1, 0, none⟩) (by show _ ≤ w.heap.size + 1 + 1; omega) _, by simp at hsz ⊢; omega⟩
  case done =>
    rintro D ys W hD rfl ⟨v', h1, h2, h3, h4, h5⟩ hK
    have hc := h3.cell
    gi_wp2
    refine ⟨by simp, .inl ⟨_, _, rfl, run_takeDeferred hK, ?_⟩⟩
    refine ⟨_, results_tmp rfl _ _ _, ?_, h4.trans (belowK_b (w := w) (Nat.le_refl _) W D _ _ (by omega) hK rfl rfl)⟩
    rw [downD_fold, ← digits_lists hxs, ← fold_map stepDown goDown (fun _ _ => rfl)]
    rfl
  case stop =>
    intro D c pre W _ _ h
    exact h.elim
end Go.Proofs.YtnigpmbpipmgfaaDoor
