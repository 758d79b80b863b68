/-
  BsD, BsG, BsH: several texts in one (merge.py).
-/
import Derived.RangeFuncNested
import Derived.RangeFuncBound
import Derived.RangeFuncCalls
import Derived.RangeFuncLeaves
import Derived.Shelf.Abstract
import Derived.WalkKit
import Derived.OwnWalkIn
import Derived.TacticsInMore
import Derived.LoopNIn
import Derived.LoopIn
import Derived.Shelf.RegionOpen
import Derived.Stop.RegionWithIn
import Derived.Test.YtnigpmbpipmgfaaDoorBsM

/-
  bsi's iterator over a column's digits.
-/
namespace Go.Proofs.YtnigpmbpipmgfaaDoor
open Go.RowKit Go.Shelf Tess

attribute [local go_sem] Oper.semAt_some

/-- A variable that holds a column (as api.Slices, or as bsi's column). -/
def SBox (W : World) (t : TypeId) (b : Nat) (n least : Int) (vE vB : Value) : Prop := W.heap[b]? = some (.cells #[.int .i64 n, .int .i64 least, vE, vB] t (0, 0))
theorem SBox.new (W : World) (t : TypeId) (n least : Int) (vE vB : Value) : SBox (W.alloc (.cells #[.int .i64 n, .int .i64 least, vE, vB] t)) t W.heap.size n least vE vB := heap_alloc_new W _
theorem SBox.lt {W : World} {t : TypeId} {b : Nat} {n least : Int} {vE vB : Value} (h : SBox W t b n least vE vB) : b < W.heap.size := lt_of_heap h
theorem SBox.later {W W' : World} {t : TypeId} {b : Nat} {n least : Int} {vE vB : Value} (h : SBox W t b n least vE vB) (hb : Below W.heap.size W W') : SBox W' t b n least vE vB := (hb.block b h.lt).trans h
theorem SBox.alloc {W : World} {t : TypeId} {b : Nat} {n least : Int} {vE vB : Value} (h : SBox W t b n least vE vB) (o : Obj) : SBox (W.alloc o) t b n least vE vB := h.later ((Below.refl _ W).alloc (Nat.le_refl _) _)
theorem SBox.c0 {W : World} {t : TypeId} {b : Nat} {n least : Int} {vE vB : Value} (h : SBox W t b n least vE vB) : W.cell? ⟨b, 0, none⟩ = some (.int .i64 n) := by rw [cell_of_row W b 0 _ _ (0, 0) h]; rfl
theorem SBox.c1 {W : World} {t : TypeId} {b : Nat} {n least : Int} {vE vB : Value} (h : SBox W t b n least vE vB) : W.cell? ⟨b, 1, none⟩ = some (.int .i64 least) := by rw [cell_of_row W b 1 _ _ (0, 0) h]; rfl
theorem SBox.c2 {W : World} {t : TypeId} {b : Nat} {n least : Int} {vE vB : Value} (h : SBox W t b n least vE vB) : W.cell? ⟨b, 2, none⟩ = some vE := by rw [cell_of_row W b 2 _ _ (0, 0) h]; rfl
theorem SBox.c3 {W : World} {t : TypeId} {b : Nat} {n least : Int} {vE vB : Value} (h : SBox W t b n least vE vB) : W.cell? ⟨b, 3, none⟩ = some vB := by rw [cell_of_row W b 3 _ _ (0, 0) h]; rfl
theorem SBox.frozen {W : World} {t : TypeId} {b : Nat} {n least : Int} {vE vB : Value} (h : SBox W t b n least vE vB) (i : Nat) : W.frozen? ⟨b, i, none⟩ = false := by
  unfold SBox at h
  simp [World.frozen?, h]

/-- A digit, and its rows in memory. -/
abbrev DX (w : World) := { x : Bool × Value × List Ch // HC w x.2.1 x.2.2 ∧ rightL x.2.2 = true }
/-- Blocks that a round leaves alone. -/
def KeepB (n₀ : Nat) (S : Nat → Prop) (W W' : World) : Prop := Below n₀ W W' ∧ ∀ b, S b → W'.heap[b]? = W.heap[b]?
theorem KeepB.trans {n₀ : Nat} {S : Nat → Prop} {A B C : World} (h : KeepB n₀ S A B) (k : KeepB n₀ S B C) : KeepB n₀ S A C := ⟨h.1.trans k.1, fun b hb => (k.2 b hb).trans (h.2 b hb)⟩
theorem keepB_b {n₀ : Nat} {S : Nat → Prop} {w : World} (hn : n₀ ≤ w.heap.size) (hS : ∀ b, S b → b < w.heap.size) (W : World) (l : Nat) (o o' : Obj) (hl : w.heap.size ≤ l) (h : W.heap[l]? = some o) (hc : o.isCells = false) (hw : o.isWalk = false) : KeepB n₀ S W (W.putObj l o') :=
  ⟨belowK_b hn W l o o' hl h hc hw, fun b hb => World.putObj_heap_other (by have := hS b hb; omega)⟩

/-- The digits of a column that lies in memory. -/
theorem digits_ex {w : World} {vB : Value} {bits : List (List Ch)} (h : HR w vB bits) (hr : ∀ x ∈ bits, rightL x = true) (x : Nat) :
    ∃ xs : List (DX w), xs.map (fun d => (d.1.1, d.1.2.2)) = digD bits x ∧ ∀ j (hj : j < xs.length), ∃ b off, (∃ c, vB = .slice (some ⟨b, off, none⟩) bits.length c) ∧ b < w.heap.size ∧ w.cell? ⟨b, off + (bits.length - 1 - j), none⟩ = some xs[j].1.2.1 := by
  obtain ⟨p, cap, rfl, hcap, hc⟩ := Hid.out h
  have key : ∀ n, n ≤ bits.length → ∃ xs : List (DX w), xs.length = n ∧ xs.map (fun d => (d.1.1, d.1.2.2)) = (digD bits x).take n ∧ ∀ j (hj : j < xs.length), ∃ b off, p = some ⟨b, off, none⟩ ∧ b < w.heap.size ∧ w.cell? ⟨b, off + (bits.length - 1 - j), none⟩ = some xs[j].1.2.1 := by
    intro n
    induction n with
    | zero => exact fun _ => ⟨[], rfl, rfl, fun j hj => by cases hj⟩
    | succ n ih =>
      intro hn
      obtain ⟨xs, hl, hm, hx⟩ := ih (by omega)
      obtain ⟨b, off, u, hp, hb, hu, hch⟩ := hc (bits.length - 1 - n) (by omega)
      have hdn : n < (digD bits x).length := by rw [digD_len]; omega
      have hge : bits[bits.length - 1 - n]?.getD [] = bits[bits.length - 1 - n]'(by omega) := by rw [List.getElem?_eq_getElem (by omega)]; rfl
      refine ⟨xs ++ [⟨(x.testBit (bits.length - 1 - n), u, bits[bits.length - 1 - n]'(by omega)), Lib.hid hch, hr _ (List.getElem_mem _)⟩], by rw [List.length_append, hl]; rfl, ?_, fun j hj => ?_⟩
      · rw [List.map_append, hm, List.take_succ_eq_append_getElem hdn, digD_get hdn, hge]; rfl
      · by_cases h : j < xs.length
        · rw [List.getElem_append_left h]; exact hx j h
        · have hjn : j = n := by rw [List.length_append] at hj; simp at hj; omega
          subst hjn
          rw [List.getElem_append_right (by omega)]
          simp only [hl, Nat.sub_self, List.getElem_cons_zero]
          exact ⟨b, off, hp, hb, hu⟩
  obtain ⟨xs, hl, hm, hx⟩ := key bits.length (Nat.le_refl _)
  refine ⟨xs, by rw [hm, List.take_of_length_le (by rw [digD_len]; exact Nat.le_refl _)], fun j hj => ?_⟩
  obtain ⟨b, off, rfl, hb, hu⟩ := hx j hj
  exact ⟨b, off, ⟨cap, rfl⟩, hb, hu⟩

set_option maxHeartbeats 1000000 in
/-- c.digits(x): both are boxed; the function value captures the boxes. -/
theorem digits_in (n : Nat) (N least : Int) (vE vB : Value) (x : Nat) (w : World) :
    CallsIn Fence.wide n Tryd.prog 93 #[.agg #[.int .i64 N, .int .i64 least, vE, vB], .int .u64 x] w fun e w' => e = .returned (.func (.func 110) #[] #[.pointer (some ⟨w.heap.size, 0, none⟩), .pointer (some ⟨w.heap.size + 1, 0, none⟩)]) ∧ w' = (w.alloc (.cells #[.int .i64 N, .int .i64 least, vE, vB] 83)).alloc (.cells #[.int .u64 x] 41) := by
  refine callsIn_of_wp Tryd.func93 rfl trivial ?_ rfl
  simp only [Tryd.ntmps93, List.size_toArray, List.length_cons, List.length_nil, Nat.reduceAdd, Nat.reduceSub, Array.replicate_succ, Array.replicate_zero, List.push_toArray, List.append_toArray, List.nil_append, List.cons_append]
  gi_wp2
  go_ret
  exact ⟨rfl, rfl⟩

set_option maxRecDepth 100000 in
set_option maxHeartbeats 4000000 in
theorem digits1_in (n : Nat) (hn : 1 ≤ n) (l B1 B2 n₀ : Nat) {N least : Int} {vE vB : Value} {bits : List (List Ch)} (w0 : World) (xs : List (DX w0)) (x : Nat) (hx64 : x < 18446744073709551616) (hl64 : bits.length ≤ 64)
    (hxs : xs.map (fun d => (d.1.1, d.1.2.2)) = digD bits x) (J Jx : List (DX w0) → World → Prop) (hJd : ∀ pre W, J pre W → J pre W.drew)
    (hY : ∀ pre y W, J pre W → pre.length < bits.length → YieldAt Fence.wide (n - 1) Tryd.prog l #[.bool y.1.1, .agg #[y.1.2.1]] W fun e W' =>
      (e = .returned (.bool true) ∧ J (pre ++ [y]) W' ∧ KeepB n₀ (fun b => b = B1 ∨ b = B2) W W') ∨ (e = .returned (.bool false) ∧ Jx (pre ++ [y]) W'))
    (W : World) (h1 : SBox W 83 B1 N least vE vB) (h2 : W.cell? ⟨B2, 0, none⟩ = some (.int .u64 x))
    (hvB : ∃ p c, vB = .slice p bits.length c) (hm : ∀ j (hj : j < xs.length), ∃ b off, (∃ c, vB = .slice (some ⟨b, off, none⟩) bits.length c) ∧ b < n₀ ∧ W.cell? ⟨b, off + (bits.length - 1 - j), none⟩ = some xs[j].1.2.1) (h0 : J [] W) :
    CallsIn Fence.wide n Tryd.prog 110 #[.func (.yield l) #[] #[], .pointer (some ⟨B1, 0, none⟩), .pointer (some ⟨B2, 0, none⟩)] W fun e W' => (∃ v, e = .returned v) ∧
      ((∃ ys, ys = xs ∧ J ys W') ∨ (∃ pre, pre <+: xs ∧ Jx pre W')) := by
  obtain ⟨p, c, rfl⟩ := hvB
  have hlx : xs.length = bits.length := by have := congrArg List.length hxs; rwa [List.length_map, digD_len] at this
  have hm' := Lib.hid hm
  have hxs' := Lib.hid hxs
  have hlx' := Lib.hid hlx
  clear hm hxs hlx
  refine callsIn_of_wp Tryd.func110 rfl trivial ?_ rfl
  simp only [Tryd.ntmps110, List.size_toArray, List.length_cons, List.length_nil, Nat.reduceAdd, Nat.reduceSub, Array.replicate_succ, Array.replicate_zero, List.push_toArray, List.append_toArray, List.nil_append, List.cons_append]
  have y3 := h1.c3
  gi_wp2
  gi_loopw [10] (fun i wr => ∃ k : Nat, k ≤ bits.length ∧ i = .int .i64 k ∧ J (xs.take k) wr ∧ Hid (KeepB n₀ (fun b => b = B1 ∨ b = B2) W wr))
    (fun i _ => bits.length - (intOf i).toNat)
  case atStart => exact ⟨0, Nat.zero_le _, rfl, by rw [List.take_zero]; exact h0, Lib.hid ⟨Below.refl _ _, fun _ _ => rfl⟩⟩
  case round =>
    obtain ⟨k, hk, rfl, hJs, hK⟩ := hrel
    have z1 : SBox wr 83 B1 N least vE (.slice p bits.length c) := (hK.out.2 B1 (.inl rfl)).trans h1
    have z2 : wr.cell? ⟨B2, 0, none⟩ = some (.int .u64 x) := (World.cell?_of_block (a := ⟨B2, 0, none⟩) (hK.out.2 B2 (.inr rfl))).trans h2
    have y3 := z1.c3
    by_cases hlt : k < bits.length
    · have hkd : decide (k < bits.length) = true := decide_eq_true hlt
      have hkx : k < xs.length := by rw [hlx'.out]; exact hlt
      obtain ⟨b, off, ⟨c', hpe⟩, hb, hcell⟩ := hm'.out k hkx
      simp only [Value.slice.injEq] at hpe
      obtain ⟨rfl, -, rfl⟩ := hpe
      have hc2 := (hK.out.1.cell (p := ⟨b, off + (bits.length - 1 - k), none⟩) hb).trans hcell
      have hdg : xs[k].1.1 = x.testBit (bits.length - 1 - k) := by
        have h3 : (xs.map (fun d => (d.1.1, d.1.2.2)))[k]'(by rw [List.length_map]; exact hkx) = (digD bits x)[k]'(by rw [digD_len]; exact hlt) := by
          simp only [hxs'.out]
        rw [List.getElem_map, digD_get] at h3
        exact congrArg Prod.fst h3
      obtain ⟨q, hq⟩ : ∃ q, bits.length - 1 - k = q := ⟨_, rfl⟩
      rw [hq] at hc2 hdg
      have hqe : ((bits.length : Int) - 1 - (k : Int)) = (q : Int) := by omega
      have hql : q < bits.length := by omega
      have hq64 : q < 64 := by omega
      have hb5 : (Go.bits .and .u64 ((x : Int) / 2 ^ q) 1 == 1) = xs[k].1.1 := by
        have e1 : ((x : Int) / 2 ^ q) = ((x / 2 ^ q : Nat) : Int) := by simp
        have e2 := u64_and_nat (x / 2 ^ q) 1 (Nat.lt_of_le_of_lt (Nat.div_le_self _ _) hx64) (by decide)
        rw [Nat.and_one_is_mod] at e2
        have e3 : Go.bits .and .u64 ((x : Int) / 2 ^ q) 1 = ((x / 2 ^ q % 2 : Nat) : Int) := by rw [e1]; exact e2
        rw [hdg, Nat.testBit_eq_decide_div_mod_eq, e3]
        by_cases h : x / 2 ^ q % 2 = 1
        · rw [h]; rfl
        · rw [decide_eq_false h]
          generalize x / 2 ^ q % 2 = m at *
          rw [beq_eq_false_iff_ne]
          omega
      have hsnoc : xs.take (k + 1) = xs.take k ++ [xs[k]] := List.take_succ_eq_append_getElem hkx
      have hJd' : J (xs.take k) wr.drew := hJd _ _ hJs
      have htl : (xs.take k).length < bits.length := by rw [List.length_take]; omega
      obtain ⟨fn, tmps, assign, body, hyy, hR⟩ := hY (xs.take k) xs[k] wr.drew hJd' htl
      rw [← hsnoc] at hR
      rw [← hb5] at hyy
      clear hb5 hdg
      have hR2 := hR.mono (R' := fun e W' => ∃ bb : Bool, e = .returned (.bool bb) ∧ ((bb = true ∧ J (xs.take (k + 1)) W' ∧ KeepB n₀ (fun b => b = B1 ∨ b = B2) wr.drew W') ∨ (bb = false ∧ Jx (xs.take (k + 1)) W')))
        (fun e W' h => by
          rcases h with ⟨rfl, h1, h2⟩ | ⟨rfl, h1⟩
          · exact ⟨true, rfl, .inl ⟨rfl, h1, h2⟩⟩
          · exact ⟨false, rfl, .inr ⟨rfl, h1⟩⟩)
      clear hR
      gi_wp2
      gi_region_with (refine hR2.mono ?_; rintro e W3 ⟨bb, rfl, hP⟩)
      all_goals
        rcases hP with ⟨rfl, hJ3, hK3⟩ | ⟨rfl, hJx3⟩
        · have hK4 : Hid (KeepB n₀ (fun b => b = B1 ∨ b = B2) W W3) := Lib.hid (KeepB.trans ⟨hK.out.1.drew, fun b hb => hK.out.2 b hb⟩ hK3)
          gi_wp2
          go_roundw
          case rel => exact ⟨k + 1, by omega, by go_num, hJ3, hK4⟩
          case measure => simp [intOf]; omega
        · gi_wp2
          refine bodyPost_ret (results_none rfl _ _ _) rfl ?_
          exact ⟨⟨_, rfl⟩, .inr ⟨_, List.take_prefix _ _, hJx3⟩⟩
    · have hkd : decide (k < bits.length) = false := decide_eq_false hlt
      have hkk : xs.take k = xs := List.take_of_length_le (by rw [hlx'.out]; omega)
      rw [hkk] at hJs
      gi_wp2
      go_end0
      exact ⟨⟨_, rfl⟩, .inl ⟨xs, rfl, hJs⟩⟩

/-- All digits, the greatest first; or the first of them. -/
theorem digits_stops (n : Nat) (hn : 1 ≤ n) (B1 B2 n₀ : Nat) {N least : Int} {vE vB : Value} {bits : List (List Ch)} (w0 w : World) (xs : List (DX w0)) (x : Nat) (hx64 : x < 18446744073709551616) (hl64 : bits.length ≤ 64)
    (hxs : xs.map (fun d => (d.1.1, d.1.2.2)) = digD bits x) (h1 : SBox w 83 B1 N least vE vB) (h2 : w.cell? ⟨B2, 0, none⟩ = some (.int .u64 x)) (hB2 : B2 < w.heap.size) (hn₀ : n₀ ≤ w.heap.size)
    (hvB : ∃ p c, vB = .slice p bits.length c) (hm : ∀ j (hj : j < xs.length), ∃ b off, (∃ c, vB = .slice (some ⟨b, off, none⟩) bits.length c) ∧ b < n₀ ∧ w.cell? ⟨b, off + (bits.length - 1 - j), none⟩ = some xs[j].1.2.1) :
    SeqStopsK Fence.wide n Tryd.prog 110 #[.pointer (some ⟨B1, 0, none⟩), .pointer (some ⟨B2, 0, none⟩)] (fun y : DX w0 => #[.bool y.1.1, .agg #[y.1.2.1]]) (KeepB n₀ (fun b => b = B1 ∨ b = B2)) (fun ys => ys = xs) (fun pre => pre <+: xs) bits.length w := fun l J Jx W hW hJ _ hY h0 =>
  digits1_in n hn l B1 B2 n₀ w0 xs x hx64 hl64 hxs J Jx (fun pre W' h => hJ pre W' W'.drew none h ⟨rfl, rfl, rfl, Nat.le_refl _, fun _ _ _ => rfl⟩ (fun _ e => by cases e)) hY W (h1.later hW)
    ((hW.cell (p := ⟨B2, 0, none⟩) hB2).trans h2) hvB (fun j hj => by
      obtain ⟨b, off, hc, hb, hu⟩ := hm j hj
      exact ⟨b, off, hc, hb, (hW.cell (p := ⟨b, _, none⟩) (by show b < _; omega)).trans hu⟩) h0
end Go.Proofs.YtnigpmbpipmgfaaDoor

/-
  The least and the greatest number of some rows: column.least, column.greatest.
-/
namespace Go.Proofs.YtnigpmbpipmgfaaDoor
open Go.RowKit Go.Shelf Tess

attribute [local go_sem] Oper.semAt_some

theorem cell_is {W : World} {b i : Nat} {x : Value} (h : W.cell? ⟨b, i, none⟩ = some x) {o : Obj} (ho : W.heap[b]? = some o) : o.isCells = true := by
  unfold World.cell? at h
  simp only [ho] at h
  cases o <;> first | rfl | (exfalso; simp_all; done)
theorem own_cell {W W' : World} {row : Option Nat} {b i : Nat} {x : Value} (h : W.cell? ⟨b, i, none⟩ = some x) (hb : b < W.heap.size) (hg : W.grownBy W' row) (hr : ∀ r, row = some r → ∃ o : Obj, W.heap[r]? = some o ∧ o.isCells = false) : W'.cell? ⟨b, i, none⟩ = some x := by
  refine (World.cell?_of_block (a := ⟨b, i, none⟩) (hg.block b hb fun e => ?_)).trans h
  obtain ⟨o, ho, hc⟩ := hr b e.symm
  rw [cell_is h ho] at hc
  cases hc
theorem HC.grown {W W' : World} {row : Option Nat} {v : Value} {l : List Ch} (h : HC W v l) (hg : W.grownBy W' row) (hr : ∀ r, row = some r → ∃ o : Obj, W.heap[r]? = some o ∧ o.isCells = false) : HC W' v l := by
  obtain ⟨p, cap, hv, hc, h⟩ := Hid.out h
  refine Lib.hid ⟨p, cap, hv, hc, fun j hj => ?_⟩
  obtain ⟨b, off, hp, hb, h1, h2, h3⟩ := h j hj
  exact ⟨b, off, hp, Nat.lt_of_lt_of_le hb hg.size, own_cell h1 hb hg hr, own_cell h2 hb hg hr, own_cell h3 hb hg hr⟩
theorem RBox.own {W W' : World} {row : Option Nat} {b : Nat} {v : Value} (h : RBox W b v) (hg : W.grownBy W' row) (hr : ∀ r, row = some r → ∃ o : Obj, W.heap[r]? = some o ∧ o.isCells = false) : RBox W' b v :=
  (hg.block b h.lt fun e => by
    obtain ⟨o, ho, hc⟩ := hr b e.symm
    rw [cell_is h.cell ho] at hc; cases hc).trans h
/-- A variable of type uint64. -/
def UBox (W : World) (b k : Nat) : Prop := W.heap[b]? = some (.cells #[.int .u64 k] 41 (0, 0))
theorem UBox.new (W : World) (k : Nat) : UBox (W.alloc (.cells #[.int .u64 k] 41)) W.heap.size k := heap_alloc_new W _
theorem UBox.lt {W : World} {b k : Nat} (h : UBox W b k) : b < W.heap.size := lt_of_heap h
theorem UBox.later {W W' : World} {b k : Nat} (h : UBox W b k) (hb : Below W.heap.size W W') : UBox W' b k := (hb.block b h.lt).trans h
theorem UBox.alloc {W : World} {b k : Nat} (h : UBox W b k) (o : Obj) : UBox (W.alloc o) b k := h.later ((Below.refl _ W).alloc (Nat.le_refl _) _)
theorem UBox.far {W : World} {b k : Nat} (h : UBox W b k) {p : Addr} (hp : b ≠ p.block) (u : Value) : UBox (W.setCell p u) b k := (Below.heap_setCell W p u b hp).trans h
theorem UBox.cell {W : World} {b k : Nat} (h : UBox W b k) : W.cell? ⟨b, 0, none⟩ = some (.int .u64 k) := by rw [cell_of_row W b 0 _ _ (0, 0) h]; rfl
theorem UBox.frozen {W : World} {b k : Nat} (h : UBox W b k) : W.frozen? ⟨b, 0, none⟩ = false := by
  unfold UBox at h
  simp [World.frozen?, h]
theorem UBox.own {W W' : World} {row : Option Nat} {b k : Nat} (h : UBox W b k) (hg : W.grownBy W' row) (hr : ∀ r, row = some r → ∃ o : Obj, W.heap[r]? = some o ∧ o.isCells = false) : UBox W' b k :=
  (hg.block b h.lt fun e => by
    obtain ⟨o, ho, hc⟩ := hr b e.symm
    rw [cell_is h.cell ho] at hc; cases hc).trans h
theorem keepsFrom_below {B : Nat} {W W' : World} (h : Below W.heap.size W W') : KeepsFrom B W W' := ⟨h.size, fun k _ _ hk _ => (h.block k (lt_of_heap hk)).trans hk⟩
theorem keepsFrom_set {B : Nat} {W : World} {p : Addr} (hp : p.block < B) (v : Value) : KeepsFrom B W (W.setCell p v) := ⟨by simp, fun k _ hB hk _ => (Below.heap_setCell W p v k (by omega)).trans hk⟩
theorem keepB_below {n₀ : Nat} {S : Nat → Prop} {W W' : World} (h : Below W.heap.size W W') (hn : n₀ ≤ W.heap.size) (hS : ∀ b, S b → b < W.heap.size) : KeepB n₀ S W W' := ⟨h.mono hn, fun b hb => h.block b (hS b hb)⟩
theorem keepB_set {n₀ : Nat} {S : Nat → Prop} {W : World} {p : Addr} (hp : n₀ ≤ p.block) (hS : ¬ S p.block) (v : Value) : KeepB n₀ S W (W.setCell p v) :=
  ⟨(Below.refl _ W).setCell hp v, fun b hb => Below.heap_setCell W p v b (fun e => hS (e ▸ hb))⟩

def stepDown (s : List Ch × Nat) (b : List Ch) : List Ch × Nat := if wiL s.1 b = [] then (s.1, 2 * s.2 + 1) else (wiL s.1 b, 2 * s.2)
def stepUp (s : List Ch × Nat) (b : List Ch) : List Ch × Nat := if andL s.1 b = [] then (s.1, 2 * s.2) else (andL s.1 b, 2 * s.2 + 1)
theorem downD_fold : ∀ (ds : List (List Ch)) (rows : List Ch) (k : Nat), downD ds rows k = (ds.foldl stepDown (rows, k)).2
  | [], _, _ => rfl
  | b :: ds, rows, k => by
    show (if wiL rows b = [] then downD ds rows (2 * k + 1) else downD ds (wiL rows b) (2 * k)) = (ds.foldl stepDown (if wiL rows b = [] then (rows, 2 * k + 1) else (wiL rows b, 2 * k))).2
    split <;> exact downD_fold ds _ _
theorem upD_fold : ∀ (ds : List (List Ch)) (rows : List Ch) (k : Nat), upD ds rows k = (ds.foldl stepUp (rows, k)).2
  | [], _, _ => rfl
  | b :: ds, rows, k => by
    show (if andL rows b = [] then upD ds rows (2 * k) else upD ds (andL rows b) (2 * k + 1)) = (ds.foldl stepUp (if andL rows b = [] then (rows, 2 * k) else (andL rows b, 2 * k + 1))).2
    split <;> exact upD_fold ds _ _
theorem u64_or_one {k : Nat} (hk : k < 9223372036854775808) : Go.bits .or .u64 ((2 * k : Nat) : Int) 1 = ((2 * k + 1 : Nat) : Int) := by
  have h1 := Nat.two_pow_add_eq_or_of_lt (i := 1) (b := 1) (by decide) k
  show IntKind.u64.wrap ((BitVec.ofInt 64 ((2 * k : Nat) : Int) ||| BitVec.ofInt 64 ((1 : Nat) : Int)).toNat : Int) = _
  rw [BitVec.toNat_or, ofInt_u64 _ (by omega), ofInt_u64 _ (by omega), show (2 * k : Nat) = 2 ^ 1 * k by omega, ← h1, IntKind.wrap_u64]
  omega

theorem UBox.set {W : World} {b k : Nat} (h : UBox W b k) (j : Nat) : UBox (W.setCell ⟨b, 0, none⟩ (.int .u64 j)) b j := Boxed.set (.int .u64 (j : Int)) h
/-- A store into a number's box leaves chunks alone. -/
theorem HC.setU {W : World} {v : Value} {l : List Ch} {b k : Nat} (h : HC W v l) (hx : UBox W b k) (u' : Value) : HC (W.setCell ⟨b, 0, none⟩ u') v l := by
  obtain ⟨p, cap, hv, hc, hh⟩ := Hid.out h
  refine Lib.hid ⟨p, cap, hv, hc, fun j hj => ?_⟩
  obtain ⟨g, off, hp, hb1, h1, h2, h3⟩ := hh j hj
  have hne : g ≠ b := by
    rintro rfl
    rw [cell_of_row W g _ _ _ (0, 0) hx] at h2
    simp at h2
  have hk : ∀ i, (W.setCell ⟨b, 0, none⟩ u').cell? ⟨g, i, none⟩ = W.cell? ⟨g, i, none⟩ := fun i => World.cell?_setCell_other W ⟨b, 0, none⟩ ⟨g, i, none⟩ u' (fun e => by
    have := congrArg Addr.block e
    first | exact hne this | exact hne this.symm)
  exact ⟨g, off, hp, by simpa using hb1, (hk _).trans h1, (hk _).trans h2, (hk _).trans h3⟩

def goDown {w : World} (s : List Ch × Nat) (y : DX w) : List Ch × Nat := stepDown s y.1.2.2
def goUp {w : World} (s : List Ch × Nat) (y : DX w) : List Ch × Nat := stepUp s y.1.2.2
theorem goDown_right {w : World} : ∀ (pre : List (DX w)) (s : List Ch × Nat), rightL s.1 = true → rightL (pre.foldl goDown s).1 = true
  | [], _, h => h
  | y :: pre, s, h => goDown_right pre _ (by
    unfold goDown stepDown
    split
    · exact h
    · exact (wi_some h y.2.2).2.1)
theorem goUp_right {w : World} : ∀ (pre : List (DX w)) (s : List Ch × Nat), rightL s.1 = true → rightL (pre.foldl goUp s).1 = true
  | [], _, h => h
  | y :: pre, s, h => goUp_right pre _ (by
    unfold goUp stepUp
    split
    · exact h
    · exact (and_some h y.2.2).2.1)
theorem goDown_lt {w : World} : ∀ (pre : List (DX w)) (s : List Ch × Nat), (pre.foldl goDown s).2 < (s.2 + 1) * 2 ^ pre.length
  | [], s => by simp
  | y :: pre, s => by
    have h := goDown_lt pre (goDown s y)
    have h2 : (goDown s y).2 + 1 ≤ 2 * (s.2 + 1) := by unfold goDown stepDown; split <;> simp <;> omega
    have h3 := Nat.mul_le_mul_right (2 ^ pre.length) h2
    show (pre.foldl goDown (goDown s y)).2 < (s.2 + 1) * 2 ^ (pre.length + 1)
    have h4 : 2 * (s.2 + 1) * 2 ^ pre.length = (s.2 + 1) * 2 ^ (pre.length + 1) := by rw [Nat.pow_succ, Nat.mul_comm 2, Nat.mul_assoc, Nat.mul_comm 2]
    exact Nat.lt_of_lt_of_le (Nat.lt_of_lt_of_le h h3) (Nat.le_of_eq h4)
theorem goUp_lt {w : World} : ∀ (pre : List (DX w)) (s : List Ch × Nat), (pre.foldl goUp s).2 < (s.2 + 1) * 2 ^ pre.length
  | [], s => by simp
  | y :: pre, s => by
    have h := goUp_lt pre (goUp s y)
    have h2 : (goUp s y).2 + 1 ≤ 2 * (s.2 + 1) := by unfold goUp stepUp; split <;> simp <;> omega
    have h3 := Nat.mul_le_mul_right (2 ^ pre.length) h2
    show (pre.foldl goUp (goUp s y)).2 < (s.2 + 1) * 2 ^ (pre.length + 1)
    have h4 : 2 * (s.2 + 1) * 2 ^ pre.length = (s.2 + 1) * 2 ^ (pre.length + 1) := by rw [Nat.pow_succ, Nat.mul_comm 2, Nat.mul_assoc, Nat.mul_comm 2]
    exact Nat.lt_of_lt_of_le (Nat.lt_of_lt_of_le h h3) (Nat.le_of_eq h4)
theorem fold_map {w : World} (f : List Ch × Nat → List Ch → List Ch × Nat) (g : List Ch × Nat → DX w → List Ch × Nat) (hg : ∀ s y, g s y = f s y.1.2.2) : ∀ (xs : List (DX w)) (s : List Ch × Nat), xs.foldl g s = (xs.map (fun d => d.1.2.2)).foldl f s
  | [], _ => rfl
  | y :: xs, s => by
    show xs.foldl g (g s y) = (xs.map _).foldl f (f s y.1.2.2)
    rw [hg]
    exact fold_map f g hg xs _
theorem digits_lists {w : World} {xs : List (DX w)} {bits : List (List Ch)} {x : Nat} (h : xs.map (fun d => (d.1.1, d.1.2.2)) = digD bits x) : xs.map (fun d => d.1.2.2) = bits.reverse := by
  rw [← digD_snd bits x, ← h, List.map_map]; rfl
/-- What the rounds leave behind. -/
def LW {w : World} (g : List Ch × Nat → DX w → List Ch × Nat) (rows : List Ch) (pre : List (DX w)) (W : World) : Prop :=
  ∃ v', RBox W (w.heap.size + 1) v' ∧ HC W v' (pre.foldl g (rows, 0)).1 ∧ UBox W (w.heap.size + 1 + 1) (pre.foldl g (rows, 0)).2 ∧ Below w.heap.size w W ∧ w.heap.size + 5 ≤ W.heap.size
theorem LW.later {w : World} {g : List Ch × Nat → DX w → List Ch × Nat} {rows : List Ch} {pre : List (DX w)} {W W' : World} (h : LW g rows pre W) (hb : Below W.heap.size W W') : LW g rows pre W' := by
  obtain ⟨v', h1, h2, h3, h4, h5⟩ := h
  exact ⟨v', h1.later hb, h2.later hb, h3.later hb, h4.trans (hb.mono h4.size), Nat.le_trans h5 hb.size⟩
theorem LW.own {w : World} {g : List Ch × Nat → DX w → List Ch × Nat} {rows : List Ch} {B : Nat} (hB : w.heap.size ≤ B) : OwnFrom B (LW g rows) := by
  rintro pre W W' row ⟨v', h1, h2, h3, h4, h5⟩ hg hr
  exact ⟨v', h1.own hg (fun r e => (hr r e).2), h2.grown hg (fun r e => (hr r e).2), h3.own hg (fun r e => (hr r e).2), h4.grown hg h4.size (fun k e => Nat.le_trans hB (hr k e).1), Nat.le_trans h5 hg.size⟩

set_option maxRecDepth 100000 in
set_option maxHeartbeats 8000000 in
theorem least_any {N least : Int} {vE vB v : Value} {bits : List (List Ch)} {rows : List Ch} (w : World) (hB : HR w vB bits) (hr : ∀ x ∈ bits, rightL x = true) (hl64 : bits.length ≤ 64) (hv : HC w v rows) (hrr : rightL rows = true) (hT : Tab w) :
    Calls Tryd.prog 61 #[.agg #[.int .i64 N, .int .i64 least, vE, vB], .agg #[v]] w fun e W' => e = .returned (.int .u64 (downD bits.reverse rows 0 : Nat)) ∧ Below w.heap.size w W' := by
  obtain ⟨xs, hxs, hm⟩ := digits_ex hB hr 0
  have hvB : ∃ p c, vB = .slice p bits.length c := by obtain ⟨p, c, h, -, -⟩ := Hid.out hB; exact ⟨p, c, h⟩
  obtain ⟨pv, cv, rfl, -, -⟩ := Hid.out hv
  refine (callsIn_wide (n := 9)).1 ?_
  refine callsIn_of_wp_marks Tryd.func61 rfl trivial ?_ rfl
  simp only [Tryd.ntmps61, List.size_toArray, List.length_cons, List.length_nil, Nat.reduceAdd, Nat.reduceSub, Array.replicate_succ, Array.replicate_zero, List.push_toArray, List.append_toArray, List.nil_append, List.cons_append]
  have b0 := SBox.new w 83 N least vE vB
  have b0' := b0.c0; have b1' := b0.c1; have b2' := b0.c2; have b3' := b0.c3
  gi_wp2_with (refine ⟨trivial, ?_⟩; gi_at_call 93; refine (digits_in _ _ _ _ _ 0 _).mono ?_; rintro e w' ⟨rfl, rfl⟩)
  clear b0' b1' b2' b3'
  have r1 := (((RBox.new (w.alloc (.cells #[.int .i64 N, .int .i64 least, vE, vB] 83)) (.slice pv rows.length cv)).alloc (.cells #[.int .u64 0] 41)).alloc (.cells #[.int .i64 N, .int .i64 least, vE, vB] 83)).alloc (.cells #[.int .u64 0] 41)
  have r2 := ((UBox.new ((w.alloc (.cells #[.int .i64 N, .int .i64 least, vE, vB] 83)).alloc (.cells #[.slice pv rows.length cv] 28)) 0).alloc (.cells #[.int .i64 N, .int .i64 least, vE, vB] 83)).alloc (.cells #[.int .u64 0] 41)
  have r3 := (SBox.new (((w.alloc (.cells #[.int .i64 N, .int .i64 least, vE, vB] 83)).alloc (.cells #[.slice pv rows.length cv] 28)).alloc (.cells #[.int .u64 0] 41)) 83 N least vE vB).alloc (.cells #[.int .u64 0] 41)
  have r4 := UBox.new ((((w.alloc (.cells #[.int .i64 N, .int .i64 least, vE, vB] 83)).alloc (.cells #[.slice pv rows.length cv] 28)).alloc (.cells #[.int .u64 0] 41)).alloc (.cells #[.int .i64 N, .int .i64 least, vE, vB] 83)) 0
  have r5 : Below w.heap.size w (((((w.alloc (.cells #[.int .i64 N, .int .i64 least, vE, vB] 83)).alloc (.cells #[.slice pv rows.length cv] 28)).alloc (.cells #[.int .u64 0] 41)).alloc (.cells #[.int .i64 N, .int .i64 least, vE, vB] 83)).alloc (.cells #[.int .u64 0] 41)) :=
    (((((Below.refl _ w).alloc (Nat.le_refl _) _).alloc (by simp) _).alloc (by simp; omega) _).alloc (by simp; omega) _).alloc (by simp; omega) _
  have r6 : (((((w.alloc (.cells #[.int .i64 N, .int .i64 least, vE, vB] 83)).alloc (.cells #[.slice pv rows.length cv] 28)).alloc (.cells #[.int .u64 0] 41)).alloc (.cells #[.int .i64 N, .int .i64 least, vE, vB] 83)).alloc (.cells #[.int .u64 0] 41)).heap.size = w.heap.size + 5 := by simp
  simp only [World.size_alloc] at r1 r2 r3 r4
  change UBox _ _ 0 at r2
  generalize (((((w.alloc (.cells #[.int .i64 N, .int .i64 least, vE, vB] 83)).alloc (.cells #[.slice pv rows.length cv] 28)).alloc (.cells #[.int .u64 0] 41)).alloc (.cells #[.int .i64 N, .int .i64 least, vE, vB] 83)).alloc (.cells #[.int .u64 0] 41)) = w5 at *
  refine wpIn_rangeFunc_ownH rfl (by omega) (gf := 110) (lb := #[.pointer (some ⟨w.heap.size + 1 + 1 + 1, 0, none⟩), .pointer (some ⟨w.heap.size + 1 + 1 + 1 + 1, 0, none⟩)]) rfl trivial (enters_of Tryd.func110 (by kernel_rfl) rfl)
    (digits_stops _ (by omega) (w.heap.size + 1 + 1 + 1) (w.heap.size + 1 + 1 + 1 + 1) w.heap.size (N := N) (least := least) (vE := vE) (vB := vB) (bits := bits) w w5 xs 0 (by decide) hl64 hxs r3 r4.cell r4.lt (by omega) hvB
      (fun j hj => by obtain ⟨b, off, h1, h2, h3⟩ := hm j hj; exact ⟨b, off, h1, h2, (r5.cell (p := ⟨b, _, none⟩) h2).trans h3⟩))
    (fun h k => KeepB.trans h k) (keepB_b (by omega) (by rintro b (rfl | rfl) <;> omega)) (Below.refl _ _) (fun _ => rfl)
    (LW goDown rows) (fun _ _ _ => False) (LW.own (by omega)) (fun _ _ _ _ _ hs _ _ => hs)
    ⟨_, r1, hv.later r5, r2, r5, by omega⟩
    (fun y a' W => ∃ b, RBox W b y.1.2.1 ∧ w.heap.size + 5 ≤ b ∧ a' = { tmps := #[.agg #[.int .i64 N, .int .i64 least, vE, vB], .agg #[.slice pv rows.length cv], .pointer (some ⟨w.heap.size, 0, none⟩), .pointer (some ⟨w.heap.size + 1, 0, none⟩), .int .u64 0, .pointer (some ⟨w.heap.size + 1 + 1, 0, none⟩), undef, .pointer (some ⟨b, 0, none⟩), undef, .agg #[.int .i64 N, .int .i64 least, vE, vB],
      .func (.func 110) #[] #[.pointer (some ⟨w.heap.size + 1 + 1 + 1, 0, none⟩), .pointer (some ⟨w.heap.size + 1 + 1 + 1 + 1, 0, none⟩)], .bool y.1.1, .agg #[y.1.2.1], undef, undef, undef, undef, undef, undef, undef, undef, undef, undef, undef, undef, undef], defers := [] })
    (fun y a' _ W W' row ⟨b, h1, h2, h3⟩ hg hr => ⟨b, h1.own hg (fun r e => (hr r e).2), h2, h3⟩) ?assign ?body ?done ?stop
  case assign =>
    rintro l pre ⟨⟨bb, u, lb⟩, hu, hrb⟩ W K hI hK
    dsimp only at hu hrb
    obtain ⟨p, c, rfl, -, -⟩ := Hid.out hu
    have hsz : w.heap.size + 5 ≤ W.heap.size := by obtain ⟨_, _, _, _, _, h⟩ := hI; exact h
    have hbl : Below W.heap.size W (W.alloc (.cells #[.slice p lb.length c] 28)) := (Below.refl _ W).alloc (Nat.le_refl _) _
    gi_wp2
    exact hK _ _ (keepsFrom_below hbl) (keepB_below hbl (by omega) (by rintro b (rfl | rfl) <;> omega)) (hI.later hbl) ⟨_, RBox.new W _, hsz, rfl⟩
  case body =>
    rintro l pre ⟨⟨bb, u, lb⟩, hu, hrb⟩ a' W hl - hI ⟨b, hb, hb5, rfl⟩ hlt
    dsimp only at hu hrb hb ⊢
    obtain ⟨v', q1, q2, q3, q4, q5⟩ := hI
    have hrr' := goDown_right pre (rows, 0) hrr
    have hkk := goDown_lt pre (rows, 0)
    have hpw : (2 : Nat) ^ pre.length ≤ 2 ^ 63 := Nat.pow_le_pow_right (by decide) (by omega)
    have hst : (pre ++ [(⟨(bb, u, lb), hu, hrb⟩ : DX w)]).foldl goDown (rows, 0) = stepDown (pre.foldl goDown (rows, 0)) lb := by rw [List.foldl_append]; rfl
    simp only [Nat.zero_add, Nat.one_mul] at hkk
    generalize hsk : pre.foldl goDown (rows, 0) = sk at *
    obtain ⟨rw', k⟩ := sk
    dsimp only at q2 q3 hrr' hkk
    have hk63 : k < 9223372036854775808 := by
      have : (2 : Nat) ^ 63 = 9223372036854775808 := by decide
      omega
    have c3 := q3.cell
    have f3 := q3.frozen
    have hor0 := u64_or_one hk63
    obtain ⟨K2, hK2⟩ : ∃ K2 : Nat, 2 * k = K2 := ⟨_, rfl⟩
    obtain ⟨K3, hK3⟩ : ∃ K3 : Nat, 2 * k + 1 = K3 := ⟨_, rfl⟩
    rw [hK3, hK2] at hor0
    have e2 : IntKind.u64.wrap ((k : Int) * 2) = (K2 : Int) := by rw [IntKind.wrap_u64]; omega
    have hK2' := Lib.hid hK2
    have hK3' := Lib.hid hK3
    have d1 := q1.cell
    have db := hb.cell
    have d1f := q1.frozen
    have g3 := q3.set K2
    have g1 := q1.far (p := ⟨w.heap.size + 1 + 1, 0, none⟩) (by simp) (.int .u64 (K2 : Int))
    have gb := hb.far (p := ⟨w.heap.size + 1 + 1, 0, none⟩) (by simp; omega) (.int .u64 (K2 : Int))
    have g2 := q2.setU q3 (.int .u64 (K2 : Int))
    have g4 := q4.setCell (p := ⟨w.heap.size + 1 + 1, 0, none⟩) (by simp; omega) (.int .u64 (K2 : Int))
    have gs : (W.setCell ⟨w.heap.size + 1 + 1, 0, none⟩ (.int .u64 (K2 : Int))).heap.size = W.heap.size := by simp
    have glb := (hu.later q4).setU q3 (.int .u64 (K2 : Int))
    have hT1 := hT.below g4 hT.lt
    have hk := Lib.hid (without_any g2 glb (small_right hrr') (small_right hrb) hT1)
    have s1 : KeepsFrom w5.heap.size W (W.setCell ⟨w.heap.size + 1 + 1, 0, none⟩ (.int .u64 (K2 : Int))) := keepsFrom_set (by show w.heap.size + 1 + 1 < _; omega) _
    have s2 : KeepB w.heap.size (fun b => b = w.heap.size + 1 + 1 + 1 ∨ b = w.heap.size + 1 + 1 + 1 + 1) W (W.setCell ⟨w.heap.size + 1 + 1, 0, none⟩ (.int .u64 (K2 : Int))) := keepB_set (by show _ ≤ w.heap.size + 1 + 1; omega) (by simp) _
    have s1' := Lib.hid s1
    have s2' := Lib.hid s2
    have hst' := Lib.hid hst
    have q2' := Lib.hid q2
    have q3' := Lib.hid q3
    clear s1 s2 hst hT1 glb q1 q2 hb hsk hkk hpw hK2 hK3 hk63 hlt
    gi_wp2_with (refine ⟨trivial, ?_⟩; gi_at_call 94; refine (callsIn_wide.2 hk.out).mono ?_; rintro e W2 ⟨v2, rfl, hv2, hb2⟩; obtain ⟨p2, cp2, rfl, -, -⟩ := Hid.out hv2; have y1 := (RBox.new W2 (.slice p2 (wiL rw' lb).length cp2)).cell; have y3 := ((g3.later hb2).alloc (.cells #[.slice p2 (wiL rw' lb).length cp2] 28)).cell; have yf3 := ((g3.later hb2).alloc (.cells #[.slice p2 (wiL rw' lb).length cp2] 28)).frozen; have yf1 := ((g1.later hb2).alloc (.cells #[.slice p2 (wiL rw' lb).length cp2] 28)).frozen; have yc1 := ((g1.later hb2).alloc (.cells #[.slice p2 (wiL rw' lb).length cp2] 28)).cell)
    · rename_i hpos
      have hb3 := hb2.alloc hb2.size (.cells #[.slice p2 (wiL rw' lb).length cp2] 28)
      have g1l := (g1.later hb2).alloc (.cells #[.slice p2 (wiL rw' lb).length cp2] 28)
      have g3l := (g3.later hb2).alloc (.cells #[.slice p2 (wiL rw' lb).length cp2] 28)
      have hvl := hv2.alloc (.cells #[.slice p2 (wiL rw' lb).length cp2] 28)
      have hB4 := g4.trans (hb3.mono g4.size)
      have hsz := hb3.size
      rw [gs] at hsz
      have he : wiL rw' lb ≠ [] := fun e => by rw [e] at hpos; simp at hpos
      refine ⟨(s1'.out.trans (keepsFrom_below hb3)).trans (keepsFrom_set (by show w.heap.size + 1 < _; omega) _), KeepB.trans (KeepB.trans s2'.out (keepB_below hb3 (by rw [gs]; omega) (by rintro b (rfl | rfl) <;> rw [gs] <;> omega))) (keepB_set (by show _ ≤ w.heap.size + 1; omega) (by show ¬ (w.heap.size + 1 = _ ∨ w.heap.size + 1 = _); omega) _), ?_⟩
      unfold LW
      rw [hst'.out]
      unfold stepDown
      rw [if_neg he, hK2'.out]
      exact ⟨_, g1l.set _, hvl.setR g1l _, g3l.far (p := ⟨w.heap.size + 1, 0, none⟩) (by simp) _, hB4.setCell (p := ⟨w.heap.size + 1, 0, none⟩) (by simp) _, by simp at hsz ⊢; omega⟩
    · rename_i hpos
      have hb3 := hb2.alloc hb2.size (.cells #[.slice p2 (wiL rw' lb).length cp2] 28)
      have g1l := (g1.later hb2).alloc (.cells #[.slice p2 (wiL rw' lb).length cp2] 28)
      have g3l := (g3.later hb2).alloc (.cells #[.slice p2 (wiL rw' lb).length cp2] 28)
      have hvl := hv2.alloc (.cells #[.slice p2 (wiL rw' lb).length cp2] 28)
      have hB4 := g4.trans (hb3.mono g4.size)
      have hsz := hb3.size
      rw [gs] at hsz
      have he : wiL rw' lb = [] := by
        cases hw : wiL rw' lb with
        | nil => rfl
        | cons x t => rw [hw] at hpos; exact absurd (by simp) hpos
      have hvo := ((q2'.out.setU q3'.out (.int .u64 (K2 : Int))).later hb3)
      refine ⟨(s1'.out.trans (keepsFrom_below hb3)).trans (keepsFrom_set (by show w.heap.size + 1 + 1 < _; omega) _), KeepB.trans (KeepB.trans s2'.out (keepB_below hb3 (by rw [gs]; omega) (by rintro b (rfl | rfl) <;> rw [gs] <;> omega))) (keepB_set (by show _ ≤ w.heap.size + 1 + 1; omega) (by show ¬ (w.heap.size + 1 + 1 = _ ∨ w.heap.size + 1 + 1 = _); omega) _), ?_⟩
      unfold LW
      rw [hst'.out]
      unfold stepDown
      rw [if_pos he, hK3'.out]
      exact ⟨_, g1l.far (p := ⟨w.heap.size + 1 + 1, 0, none⟩) (by simp) _, hvo.setU g3l _, g3l.set K3, hB4.setCell (p := ⟨w.heap.size + 1 + 1, 0, none⟩) (by show _ ≤ w.heap.size + 1 + 1; omega) _, by simp at hsz ⊢; omega⟩
  case done =>
    rintro D ys W hD rfl ⟨v', h1, h2, h3, h4, h5⟩ hK
    have hc := h3.cell
    gi_wp2
    refine ⟨by simp, .inl ⟨_, _, rfl, run_takeDeferred hK, ?_⟩⟩
    refine ⟨_, results_tmp rfl _ _ _, ?_, h4.trans (belowK_b (w := w) (Nat.le_refl _) W D _ _ (by omega) hK rfl rfl)⟩
    rw [downD_fold, ← digits_lists hxs, ← fold_map stepDown goDown (fun _ _ => rfl)]
    rfl
  case stop =>
    intro D c pre W _ _ h
    exact h.elim
end Go.Proofs.YtnigpmbpipmgfaaDoor

/-
  The greatest number of some rows: column.greatest.
-/
namespace Go.Proofs.YtnigpmbpipmgfaaDoor
open Go.RowKit Go.Shelf Tess

attribute [local go_sem] Oper.semAt_some

/-- A fresh row of one bitmap. -/
theorem HR.one {W : World} {u : Value} {l : List Ch} {b : Nat} (h : HC W u l) (hb : RBox W b u) : HR W (.slice (some ⟨b, 0, none⟩) 1 1) [l] := by
  refine Lib.hid ⟨_, 1, rfl, Nat.le_refl _, fun j hj => ?_⟩
  obtain rfl : j = 0 := by simpa using hj
  exact ⟨b, 0, u, rfl, hb.lt, hb.cell, Hid.out h⟩

set_option maxRecDepth 100000 in
set_option maxHeartbeats 8000000 in
theorem greatest_any {N least : Int} {vE vB v : Value} {bits : List (List Ch)} {rows : List Ch} (w : World) (hB : HR w vB bits) (hr : ∀ x ∈ bits, rightL x = true) (hl64 : bits.length ≤ 64) (hv : HC w v rows) (hrr : rightL rows = true) (hT : Tab w) :
    Calls Tryd.prog 62 #[.agg #[.int .i64 N, .int .i64 least, vE, vB], .agg #[v]] w fun e W' => e = .returned (.int .u64 (upD bits.reverse rows 0 : Nat)) ∧ Below w.heap.size w W' := by
  obtain ⟨xs, hxs, hm⟩ := digits_ex hB hr 0
  have hvB : ∃ p c, vB = .slice p bits.length c := by obtain ⟨p, c, h, -, -⟩ := Hid.out hB; exact ⟨p, c, h⟩
  obtain ⟨pv, cv, rfl, -, -⟩ := Hid.out hv
  refine (callsIn_wide (n := 9)).1 ?_
  refine callsIn_of_wp_marks Tryd.func62 rfl trivial ?_ rfl
  simp only [Tryd.ntmps62, List.size_toArray, List.length_cons, List.length_nil, Nat.reduceAdd, Nat.reduceSub, Array.replicate_succ, Array.replicate_zero, List.push_toArray, List.append_toArray, List.nil_append, List.cons_append]
  have b0 := SBox.new w 83 N least vE vB
  have b0' := b0.c0; have b1' := b0.c1; have b2' := b0.c2; have b3' := b0.c3
  gi_wp2_with (refine ⟨trivial, ?_⟩; gi_at_call 93; refine (digits_in _ _ _ _ _ 0 _).mono ?_; rintro e w' ⟨rfl, rfl⟩)
  clear b0' b1' b2' b3'
  have r1 := (((RBox.new (w.alloc (.cells #[.int .i64 N, .int .i64 least, vE, vB] 83)) (.slice pv rows.length cv)).alloc (.cells #[.int .u64 0] 41)).alloc (.cells #[.int .i64 N, .int .i64 least, vE, vB] 83)).alloc (.cells #[.int .u64 0] 41)
  have r2 := ((UBox.new ((w.alloc (.cells #[.int .i64 N, .int .i64 least, vE, vB] 83)).alloc (.cells #[.slice pv rows.length cv] 28)) 0).alloc (.cells #[.int .i64 N, .int .i64 least, vE, vB] 83)).alloc (.cells #[.int .u64 0] 41)
  have r3 := (SBox.new (((w.alloc (.cells #[.int .i64 N, .int .i64 least, vE, vB] 83)).alloc (.cells #[.slice pv rows.length cv] 28)).alloc (.cells #[.int .u64 0] 41)) 83 N least vE vB).alloc (.cells #[.int .u64 0] 41)
  have r4 := UBox.new ((((w.alloc (.cells #[.int .i64 N, .int .i64 least, vE, vB] 83)).alloc (.cells #[.slice pv rows.length cv] 28)).alloc (.cells #[.int .u64 0] 41)).alloc (.cells #[.int .i64 N, .int .i64 least, vE, vB] 83)) 0
  have r5 : Below w.heap.size w (((((w.alloc (.cells #[.int .i64 N, .int .i64 least, vE, vB] 83)).alloc (.cells #[.slice pv rows.length cv] 28)).alloc (.cells #[.int .u64 0] 41)).alloc (.cells #[.int .i64 N, .int .i64 least, vE, vB] 83)).alloc (.cells #[.int .u64 0] 41)) :=
    (((((Below.refl _ w).alloc (Nat.le_refl _) _).alloc (by simp) _).alloc (by simp; omega) _).alloc (by simp; omega) _).alloc (by simp; omega) _
  have r6 : (((((w.alloc (.cells #[.int .i64 N, .int .i64 least, vE, vB] 83)).alloc (.cells #[.slice pv rows.length cv] 28)).alloc (.cells #[.int .u64 0] 41)).alloc (.cells #[.int .i64 N, .int .i64 least, vE, vB] 83)).alloc (.cells #[.int .u64 0] 41)).heap.size = w.heap.size + 5 := by simp
  simp only [World.size_alloc] at r1 r2 r3 r4
  change UBox _ _ 0 at r2
  generalize (((((w.alloc (.cells #[.int .i64 N, .int .i64 least, vE, vB] 83)).alloc (.cells #[.slice pv rows.length cv] 28)).alloc (.cells #[.int .u64 0] 41)).alloc (.cells #[.int .i64 N, .int .i64 least, vE, vB] 83)).alloc (.cells #[.int .u64 0] 41)) = w5 at *
  refine wpIn_rangeFunc_ownH rfl (by omega) (gf := 110) (lb := #[.pointer (some ⟨w.heap.size + 1 + 1 + 1, 0, none⟩), .pointer (some ⟨w.heap.size + 1 + 1 + 1 + 1, 0, none⟩)]) rfl trivial (enters_of Tryd.func110 (by kernel_rfl) rfl)
    (digits_stops _ (by omega) (w.heap.size + 1 + 1 + 1) (w.heap.size + 1 + 1 + 1 + 1) w.heap.size (N := N) (least := least) (vE := vE) (vB := vB) (bits := bits) w w5 xs 0 (by decide) hl64 hxs r3 r4.cell r4.lt (by omega) hvB
      (fun j hj => by obtain ⟨b, off, h1, h2, h3⟩ := hm j hj; exact ⟨b, off, h1, h2, (r5.cell (p := ⟨b, _, none⟩) h2).trans h3⟩))
    (fun h k => KeepB.trans h k) (keepB_b (by omega) (by rintro b (rfl | rfl) <;> omega)) (Below.refl _ _) (fun _ => rfl)
    (LW goUp rows) (fun _ _ _ => False) (LW.own (by omega)) (fun _ _ _ _ _ hs _ _ => hs)
    ⟨_, r1, hv.later r5, r2, r5, by omega⟩
    (fun y a' W => ∃ b, RBox W b y.1.2.1 ∧ w.heap.size + 5 ≤ b ∧ a' = { tmps := #[.agg #[.int .i64 N, .int .i64 least, vE, vB], .agg #[.slice pv rows.length cv], .pointer (some ⟨w.heap.size, 0, none⟩), .pointer (some ⟨w.heap.size + 1, 0, none⟩), .int .u64 0, .pointer (some ⟨w.heap.size + 1 + 1, 0, none⟩), undef, .pointer (some ⟨b, 0, none⟩), undef, .agg #[.int .i64 N, .int .i64 least, vE, vB],
      .func (.func 110) #[] #[.pointer (some ⟨w.heap.size + 1 + 1 + 1, 0, none⟩), .pointer (some ⟨w.heap.size + 1 + 1 + 1 + 1, 0, none⟩)], .bool y.1.1, .agg #[y.1.2.1], undef, undef, undef, undef, undef, undef, undef, undef, undef, undef, undef, undef, undef, undef], defers := [] })
    (fun y a' _ W W' row ⟨b, h1, h2, h3⟩ hg hr => ⟨b, h1.own hg (fun r e => (hr r e).2), h2, h3⟩) ?assign ?body ?done ?stop
  case assign =>
    rintro l pre ⟨⟨bb, u, lb⟩, hu, hrb⟩ W K hI hK
    dsimp only at hu hrb
    obtain ⟨p, c, rfl, -, -⟩ := Hid.out hu
    have hsz : w.heap.size + 5 ≤ W.heap.size := by obtain ⟨_, _, _, _, _, h⟩ := hI; exact h
    have hbl : Below W.heap.size W (W.alloc (.cells #[.slice p lb.length c] 28)) := (Below.refl _ W).alloc (Nat.le_refl _) _
    gi_wp2
    exact hK _ _ (keepsFrom_below hbl) (keepB_below hbl (by omega) (by rintro b (rfl | rfl) <;> omega)) (hI.later hbl) ⟨_, RBox.new W _, hsz, rfl⟩
  case body =>
    rintro l pre ⟨⟨bb, u, lb⟩, hu, hrb⟩ a' W hl - hI ⟨b, hb, hb5, rfl⟩ hlt
    dsimp only at hu hrb hb ⊢
    obtain ⟨v', q1, q2, q3, q4, q5⟩ := hI
    have hrr' := goUp_right pre (rows, 0) hrr
    have hkk := goUp_lt pre (rows, 0)
    have hpw : (2 : Nat) ^ pre.length ≤ 2 ^ 63 := Nat.pow_le_pow_right (by decide) (by omega)
    have hst : (pre ++ [(⟨(bb, u, lb), hu, hrb⟩ : DX w)]).foldl goUp (rows, 0) = stepUp (pre.foldl goUp (rows, 0)) lb := by rw [List.foldl_append]; rfl
    simp only [Nat.zero_add, Nat.one_mul] at hkk
    generalize hsk : pre.foldl goUp (rows, 0) = sk at *
    obtain ⟨rw', k⟩ := sk
    dsimp only at q2 q3 hrr' hkk
    have hk63 : k < 9223372036854775808 := by
      have : (2 : Nat) ^ 63 = 9223372036854775808 := by decide
      omega
    have c3 := q3.cell
    have f3 := q3.frozen
    have hor0 := u64_or_one hk63
    obtain ⟨K2, hK2⟩ : ∃ K2 : Nat, 2 * k = K2 := ⟨_, rfl⟩
    obtain ⟨K3, hK3⟩ : ∃ K3 : Nat, 2 * k + 1 = K3 := ⟨_, rfl⟩
    rw [hK3, hK2] at hor0
    have e2 : IntKind.u64.wrap ((k : Int) * 2) = (K2 : Int) := by rw [IntKind.wrap_u64]; omega
    have hK2' := Lib.hid hK2
    have hK3' := Lib.hid hK3
    have d1 := q1.cell
    have db := hb.cell
    have d1f := q1.frozen
    have g3 := q3.set K2
    have g1 := q1.far (p := ⟨w.heap.size + 1 + 1, 0, none⟩) (by simp) (.int .u64 (K2 : Int))
    have gb := hb.far (p := ⟨w.heap.size + 1 + 1, 0, none⟩) (by simp; omega) (.int .u64 (K2 : Int))
    have g2 := q2.setU q3 (.int .u64 (K2 : Int))
    have g4 := q4.setCell (p := ⟨w.heap.size + 1 + 1, 0, none⟩) (by simp; omega) (.int .u64 (K2 : Int))
    have gs : (W.setCell ⟨w.heap.size + 1 + 1, 0, none⟩ (.int .u64 (K2 : Int))).heap.size = W.heap.size := by simp
    have glb := (hu.later q4).setU q3 (.int .u64 (K2 : Int))
    have hT1 := hT.below g4 hT.lt
    obtain ⟨pu, cu, rfl, -, -⟩ := Hid.out glb
    have hR1 := (Below.refl _ (W.setCell ⟨w.heap.size + 1 + 1, 0, none⟩ (.int .u64 (K2 : Int)))).alloc (Nat.le_refl _) (.cells #[.slice pu lb.length cu] 28)
    have hone : HR ((W.setCell ⟨w.heap.size + 1 + 1, 0, none⟩ (.int .u64 (K2 : Int))).alloc (.cells #[.slice pu lb.length cu] 28)) (.slice (some ⟨(W.setCell ⟨w.heap.size + 1 + 1, 0, none⟩ (.int .u64 (K2 : Int))).heap.size, 0, none⟩) 1 1) [lb] :=
      HR.one (glb.later hR1) (RBox.new _ _)
    have hk := Lib.hid (and_any (g2.later hR1) hone (small_right hrr') (small_right hrb) (hT1.below hR1 hT1.lt))
    rw [gs] at hk
    have s1 : KeepsFrom w5.heap.size W (W.setCell ⟨w.heap.size + 1 + 1, 0, none⟩ (.int .u64 (K2 : Int))) := keepsFrom_set (by show w.heap.size + 1 + 1 < _; omega) _
    have s2 : KeepB w.heap.size (fun b => b = w.heap.size + 1 + 1 + 1 ∨ b = w.heap.size + 1 + 1 + 1 + 1) W (W.setCell ⟨w.heap.size + 1 + 1, 0, none⟩ (.int .u64 (K2 : Int))) := keepB_set (by show _ ≤ w.heap.size + 1 + 1; omega) (by simp) _
    have s1' := Lib.hid s1
    have s2' := Lib.hid s2
    have hst' := Lib.hid hst
    have q2' := Lib.hid q2
    have q3' := Lib.hid q3
    clear s1 s2 hst hT1 glb q1 q2 hb hsk hkk hpw hK2 hK3 hk63 hlt
    have g1a := g1.later hR1
    have g3a := g3.later hR1
    have g4a := g4.trans (hR1.mono g4.size)
    have gsa : ((W.setCell ⟨w.heap.size + 1 + 1, 0, none⟩ (.int .u64 (K2 : Int))).alloc (.cells #[.slice pu lb.length cu] 28)).heap.size = W.heap.size + 1 := by simp
    have hR1' := Lib.hid hR1
    clear hR1
    gi_wp2_with (refine ⟨trivial, ?_⟩; gi_at_call 49; refine (callsIn_wide.2 hk.out).mono ?_; rintro e W2 ⟨v2, rfl, hv2, hb2⟩; obtain ⟨p2, cp2, rfl, -, -⟩ := Hid.out hv2; have y1 := (RBox.new W2 (.slice p2 (andL rw' lb).length cp2)).cell; have y3 := ((g3a.later hb2).alloc (.cells #[.slice p2 (andL rw' lb).length cp2] 28)).cell; have yf3 := ((g3a.later hb2).alloc (.cells #[.slice p2 (andL rw' lb).length cp2] 28)).frozen; have yf1 := ((g1a.later hb2).alloc (.cells #[.slice p2 (andL rw' lb).length cp2] 28)).frozen; have yc1 := ((g1a.later hb2).alloc (.cells #[.slice p2 (andL rw' lb).length cp2] 28)).cell)
    · rename_i hpos
      have hfin : Hid (ownPostG w5.heap.size (KeepB w.heap.size fun b => b = w.heap.size + 1 + 1 + 1 ∨ b = w.heap.size + 1 + 1 + 1 + 1) (LW goUp rows) (fun _ _ _ => False) (pre ++ [(⟨(bb, .slice pu lb.length cu, lb), hu, hrb⟩ : DX w)]) W Exit.normal { tmps := #[], defers := [] } (((W2.alloc (.cells #[.slice p2 (andL rw' lb).length cp2] 28)).setCell ⟨w.heap.size + 1, 0, none⟩ (.slice p2 (andL rw' lb).length cp2)).setCell ⟨w.heap.size + 1 + 1, 0, none⟩ (.int .u64 (K3 : Int))).drew) := by
        have hb3 := hb2.alloc hb2.size (.cells #[.slice p2 (andL rw' lb).length cp2] 28)
        have g1l := (g1a.later hb2).alloc (.cells #[.slice p2 (andL rw' lb).length cp2] 28)
        have g3l := (g3a.later hb2).alloc (.cells #[.slice p2 (andL rw' lb).length cp2] 28)
        have hvl := hv2.alloc (.cells #[.slice p2 (andL rw' lb).length cp2] 28)
        have hB4 := g4a.trans (hb3.mono g4a.size)
        have hsz := hb3.size
        rw [gsa] at hsz
        have he : andL rw' lb ≠ [] := fun e => by rw [e] at hpos; simp at hpos
        have n1 := g1l.set (.slice p2 (andL rw' lb).length cp2)
        have n3 := g3l.far (p := ⟨w.heap.size + 1, 0, none⟩) (by simp) (.slice p2 (andL rw' lb).length cp2)
        have n2 := hvl.setR g1l (.slice p2 (andL rw' lb).length cp2)
        have n4 := hB4.setCell (p := ⟨w.heap.size + 1, 0, none⟩) (by simp) (.slice p2 (andL rw' lb).length cp2)
        have kf := ((s1'.out.trans (keepsFrom_below hR1'.out)).trans (keepsFrom_below hb3)).trans ((keepsFrom_set (W := W2.alloc (.cells #[.slice p2 (andL rw' lb).length cp2] 28)) (p := ⟨w.heap.size + 1, 0, none⟩) (by show w.heap.size + 1 < _; omega) (.slice p2 (andL rw' lb).length cp2)).trans (keepsFrom_set (p := ⟨w.heap.size + 1 + 1, 0, none⟩) (by show w.heap.size + 1 + 1 < _; omega) (.int .u64 (K3 : Int))))
        have kb := KeepB.trans (KeepB.trans (KeepB.trans s2'.out (keepB_below hR1'.out (by rw [gs]; omega) (by rintro b (rfl | rfl) <;> rw [gs] <;> omega))) (keepB_below hb3 (by rw [gsa]; omega) (by rintro b (rfl | rfl) <;> rw [gsa] <;> omega)))
          (KeepB.trans (keepB_set (W := W2.alloc (.cells #[.slice p2 (andL rw' lb).length cp2] 28)) (p := ⟨w.heap.size + 1, 0, none⟩) (by show _ ≤ w.heap.size + 1; omega) (by show ¬ (w.heap.size + 1 = _ ∨ w.heap.size + 1 = _); omega) (.slice p2 (andL rw' lb).length cp2)) (keepB_set (p := ⟨w.heap.size + 1 + 1, 0, none⟩) (by show _ ≤ w.heap.size + 1 + 1; omega) (by show ¬ (w.heap.size + 1 + 1 = _ ∨ w.heap.size + 1 + 1 = _); omega) (.int .u64 (K3 : Int))))
        refine ⟨⟨kf.size, kf.same⟩, ⟨kb.1.drew, kb.2⟩, ?_⟩
        refine LW.later ?_ ((Below.refl _ (((W2.alloc (.cells #[.slice p2 (andL rw' lb).length cp2] 28)).setCell ⟨w.heap.size + 1, 0, none⟩ (.slice p2 (andL rw' lb).length cp2)).setCell ⟨w.heap.size + 1 + 1, 0, none⟩ (.int .u64 (K3 : Int)))).drew)
        unfold LW
        rw [hst'.out]
        unfold stepUp
        rw [if_neg he, hK3'.out]
        exact ⟨_, n1.far (p := ⟨w.heap.size + 1 + 1, 0, none⟩) (by simp) _, n2.setU n3 _, n3.set K3, n4.setCell (p := ⟨w.heap.size + 1 + 1, 0, none⟩) (by show _ ≤ w.heap.size + 1 + 1; omega) _, by simp at hsz ⊢; omega⟩
      gi_region
      all_goals exact hfin.out
    · rename_i hpos
      have hb3 := hb2.alloc hb2.size (.cells #[.slice p2 (andL rw' lb).length cp2] 28)
      have g1l := (g1a.later hb2).alloc (.cells #[.slice p2 (andL rw' lb).length cp2] 28)
      have g3l := (g3a.later hb2).alloc (.cells #[.slice p2 (andL rw' lb).length cp2] 28)
      have hB4 := g4a.trans (hb3.mono g4a.size)
      have hsz := hb3.size
      rw [gsa] at hsz
      have he : andL rw' lb = [] := by
        cases hw : andL rw' lb with
        | nil => rfl
        | cons x t => rw [hw] at hpos; exact absurd (by simp) hpos
      have hvo := (((q2'.out.setU q3'.out (.int .u64 (K2 : Int))).later hR1'.out).later hb3)
      refine ⟨(s1'.out.trans (keepsFrom_below hR1'.out)).trans (keepsFrom_below hb3), KeepB.trans (KeepB.trans s2'.out (keepB_below hR1'.out (by rw [gs]; omega) (by rintro b (rfl | rfl) <;> rw [gs] <;> omega))) (keepB_below hb3 (by rw [gsa]; omega) (by rintro b (rfl | rfl) <;> rw [gsa] <;> omega)), ?_⟩
      unfold LW
      rw [hst'.out]
      unfold stepUp
      rw [if_pos he, hK2'.out]
      exact ⟨_, g1l, hvo, g3l, hB4, by simp at hsz ⊢; omega⟩
  case done =>
    rintro D ys W hD rfl ⟨v', h1, h2, h3, h4, h5⟩ hK
    have hc := h3.cell
    gi_wp2
    refine ⟨by simp, .inl ⟨_, _, rfl, run_takeDeferred hK, ?_⟩⟩
    refine ⟨_, results_tmp rfl _ _ _, ?_, h4.trans (belowK_b (w := w) (Nat.le_refl _) W D _ _ (by omega) hK rfl rfl)⟩
    rw [upD_fold, ← digits_lists hxs, ← fold_map stepUp goUp (fun _ _ => rfl)]
    rfl
  case stop =>
    intro D c pre W _ _ h
    exact h.elim
end Go.Proofs.YtnigpmbpipmgfaaDoor
