/-
  bsi's iterator over a column's digits.
-/
import Derived.RangeFuncNested
import Derived.RangeFuncBound
import Derived.RangeFuncCalls
import Derived.RangeFuncLeaves
import Derived.Shelf.Abstract
import Derived.WalkKit
import Derived.OwnWalkIn
import Derived.TacticsInMore
import Derived.LoopNIn
import Derived.LoopIn
import Derived.Shelf.RegionOpen
import Derived.Stop.RegionWithIn
import Derived.Test.YtnigpmbpipmgfaaDoorBsM
namespace Go.Proofs.YtnigpmbpipmgfaaDoor
open Go.RowKit Go.Shelf Tess

attribute [local go_sem] Oper.semAt_some

/-- A variable that holds a column (as api.Slices, or as bsi's column). -/
def SBox (W : World) (t : TypeId) (b : Nat) (n least : Int) (vE vB : Value) : Prop := W.heap[b]? = some (.cells #[.int .i64 n, .int .i64 least, vE, vB] t (0, 0))
theorem SBox.new (W : World) (t : TypeId) (n least : Int) (vE vB : Value) : SBox (W.alloc (.cells #[.int .i64 n, .int .i64 least, vE, vB] t)) t W.heap.size n least vE vB := heap_alloc_new W _
theorem SBox.lt {W : World} {t : TypeId} {b : Nat} {n least : Int} {vE vB : Value} (h : SBox W t b n least vE vB) : b < W.heap.size := lt_of_heap h
theorem SBox.later {W W' : World} {t : TypeId} {b : Nat} {n least : Int} {vE vB : Value} (h : SBox W t b n least vE vB) (hb : Below W.heap.size W W') : SBox W' t b n least vE vB := (hb.block b h.lt).trans h
theorem SBox.alloc {W : World} {t : TypeId} {b : Nat} {n least : Int} {vE vB : Value} (h : SBox W t b n least vE vB) (o : Obj) : SBox (W.alloc o) t b n least vE vB := h.later ((Below.refl _ W).alloc (Nat.le_refl _) _)
theorem SBox.c0 {W : World} {t : TypeId} {b : Nat} {n least : Int} {vE vB : Value} (h : SBox W t b n least vE vB) : W.cell? ⟨b, 0, none⟩ = some (.int .i64 n) := by rw [cell_of_row W b 0 _ _ (0, 0) h]; rfl
theorem SBox.c1 {W : World} {t : TypeId} {b : Nat} {n least : Int} {vE vB : Value} (h : SBox W t b n least vE vB) : W.cell? ⟨b, 1, none⟩ = some (.int .i64 least) := by rw [cell_of_row W b 1 _ _ (0, 0) h]; rfl
theorem SBox.c2 {W : World} {t : TypeId} {b : Nat} {n least : Int} {vE vB : Value} (h : SBox W t b n least vE vB) : W.cell? ⟨b, 2, none⟩ = some vE := by rw [cell_of_row W b 2 _ _ (0, 0) h]; rfl
theorem SBox.c3 {W : World} {t : TypeId} {b : Nat} {n least : Int} {vE vB : Value} (h : SBox W t b n least vE vB) : W.cell? ⟨b, 3, none⟩ = some vB := by rw [cell_of_row W b 3 _ _ (0, 0) h]; rfl
theorem SBox.frozen {W : World} {t : TypeId} {b : Nat} {n least : Int} {vE vB : Value} (h : SBox W t b n least vE vB) (i : Nat) : W.frozen? ⟨b, i, none⟩ = false := by
  unfold SBox at h
  simp [World.frozen?, h]

/-- A digit, and its rows in memory. -/
abbrev DX (w : World) := { x : Bool × Value × List Ch // HC w x.2.1 x.2.2 ∧ rightL x.2.2 = true }
/-- Blocks that a round leaves alone. -/
def KeepB (n₀ : Nat) (S : Nat → Prop) (W W' : World) : Prop := Below n₀ W W' ∧ ∀ b, S b → W'.heap[b]? = W.heap[b]?
theorem KeepB.trans {n₀ : Nat} {S : Nat → Prop} {A B C : World} (h : KeepB n₀ S A B) (k : KeepB n₀ S B C) : KeepB n₀ S A C := ⟨h.1.trans k.1, fun b hb => (k.2 b hb).trans (h.2 b hb)⟩
theorem keepB_b {n₀ : Nat} {S : Nat → Prop} {w : World} (hn : n₀ ≤ w.heap.size) (hS : ∀ b, S b → b < w.heap.size) (W : World) (l : Nat) (o o' : Obj) (hl : w.heap.size ≤ l) (h : W.heap[l]? = some o) (hc : o.isCells = false) (hw : o.isWalk = false) : KeepB n₀ S W (W.putObj l o') :=
  ⟨belowK_b hn W l o o' hl h hc hw, fun b hb => World.putObj_heap_other (by have := hS b hb; omega)⟩

/-- The digits of a column that lies in memory. -/
theorem digits_ex {w : World} {vB : Value} {bits : List (List Ch)} (h : HR w vB bits) (hr : ∀ x ∈ bits, rightL x = true) (x : Nat) :
    ∃ xs : List (DX w), xs.map (fun d => (d.1.1, d.1.2.2)) = digD bits x ∧ ∀ j (hj : j < xs.length), ∃ b off, (∃ c, vB = .slice (some ⟨b, off, none⟩) bits.length c) ∧ b < w.heap.size ∧ w.cell? ⟨b, off + (bits.length - 1 - j), none⟩ = some xs[j].1.2.1 := by
  obtain ⟨p, cap, rfl, hcap, hc⟩ := Hid.out h
  have key : ∀ n, n ≤ bits.length → ∃ xs : List (DX w), xs.length = n ∧ xs.map (fun d => (d.1.1, d.1.2.2)) = (digD bits x).take n ∧ ∀ j (hj : j < xs.length), ∃ b off, p = some ⟨b, off, none⟩ ∧ b < w.heap.size ∧ w.cell? ⟨b, off + (bits.length - 1 - j), none⟩ = some xs[j].1.2.1 := by
    intro n
    induction n with
    | zero => exact fun _ => ⟨[], rfl, rfl, fun j hj => by cases hj⟩
    | succ n ih =>
      intro hn
      obtain ⟨xs, hl, hm, hx⟩ := ih (by omega)
      obtain ⟨b, off, u, hp, hb, hu, hch⟩ := hc (bits.length - 1 - n) (by omega)
      have hdn : n < (digD bits x).length := by rw [digD_len]; omega
      have hge : bits[bits.length - 1 - n]?.getD [] = bits[bits.length - 1 - n]'(by omega) := by rw [List.getElem?_eq_getElem (by omega)]; rfl
      refine ⟨xs ++ [⟨(x.testBit (bits.length - 1 - n), u, bits[bits.length - 1 - n]'(by omega)), Lib.hid hch, hr _ (List.getElem_mem _)⟩], by rw [List.length_append, hl]; rfl, ?_, fun j hj => ?_⟩
      · rw [List.map_append, hm, List.take_succ_eq_append_getElem hdn, digD_get hdn, hge]; rfl
      · by_cases h : j < xs.length
        · rw [List.getElem_append_left h]; exact hx j h
        · have hjn : j = n := by rw [List.length_append] at hj; simp at hj; omega
          subst hjn
          rw [List.getElem_append_right (by omega)]
          simp only [hl, Nat.sub_self, List.getElem_cons_zero]
          exact ⟨b, off, hp, hb, hu⟩
  obtain ⟨xs, hl, hm, hx⟩ := key bits.length (Nat.le_refl _)
  refine ⟨xs, by rw [hm, List.take_of_length_le (by rw [digD_len]; exact Nat.le_refl _)], fun j hj => ?_⟩
  obtain ⟨b, off, rfl, hb, hu⟩ := hx j hj
  exact ⟨b, off, ⟨cap, rfl⟩, hb, hu⟩

set_option maxHeartbeats 1000000 in
/-- c.digits(x): both are boxed; the function value captures the boxes. -/
theorem digits_in (n : Nat) (N least : Int) (vE vB : Value) (x : Nat) (w : World) :
    CallsIn Fence.wide n Tryd.prog 93 #[.agg #[.int .i64 N, .int .i64 least, vE, vB], .int .u64 x] w fun e w' => e = .returned (.func (.func 110) #[] #[.pointer (some ⟨w.heap.size, 0, none⟩), .pointer (some ⟨w.heap.size + 1, 0, none⟩)]) ∧ w' = (w.alloc (.cells #[.int .i64 N, .int .i64 least, vE, vB] 83)).alloc (.cells #[.int .u64 x] 41) := by
  refine callsIn_of_wp Tryd.func93 rfl trivial ?_ rfl
  simp only [Tryd.ntmps93, List.size_toArray, List.length_cons, List.length_nil, Nat.reduceAdd, Nat.reduceSub, Array.replicate_succ, Array.replicate_zero, List.push_toArray, List.append_toArray, List.nil_append, List.cons_append]
  gi_wp2
  go_ret
  exact ⟨rfl, rfl⟩

set_option maxRecDepth 100000 in
set_option maxHeartbeats 4000000 in
theorem digits1_in (n : Nat) (hn : 1 ≤ n) (l B1 B2 n₀ : Nat) {N least : Int} {vE vB : Value} {bits : List (List Ch)} (w0 : World) (xs : List (DX w0)) (x : Nat) (hx64 : x < 18446744073709551616) (hl64 : bits.length ≤ 64)
    (hxs : xs.map (fun d => (d.1.1, d.1.2.2)) = digD bits x) (J Jx : List (DX w0) → World → Prop) (hJd : ∀ pre W, J pre W → J pre W.drew)
    (hY : ∀ pre y W, J pre W → pre.length < bits.length → YieldAt Fence.wide (n - 1) Tryd.prog l #[.bool y.1.1, .agg #[y.1.2.1]] W fun e W' =>
      (e = .returned (.bool true) ∧ J (pre ++ [y]) W' ∧ KeepB n₀ (fun b => b = B1 ∨ b = B2) W W') ∨ (e = .returned (.bool false) ∧ Jx (pre ++ [y]) W'))
    (W : World) (h1 : SBox W 83 B1 N least vE vB) (h2 : W.cell? ⟨B2, 0, none⟩ = some (.int .u64 x))
    (hvB : ∃ p c, vB = .slice p bits.length c) (hm : ∀ j (hj : j < xs.length), ∃ b off, (∃ c, vB = .slice (some ⟨b, off, none⟩) bits.length c) ∧ b < n₀ ∧ W.cell? ⟨b, off + (bits.length - 1 - j), none⟩ = some xs[j].1.2.1) (h0 : J [] W) :
    CallsIn Fence.wide n Tryd.prog 110 #[.func (.yield l) #[] #[], .pointer (some ⟨B1, 0, none⟩), .pointer (some ⟨B2, 0, none⟩)] W fun e W' => (∃ v, e = .returned v) ∧
      ((∃ ys, ys = xs ∧ J ys W') ∨ (∃ pre, pre <+: xs ∧ Jx pre W')) := by
  obtain ⟨p, c, rfl⟩ := hvB
  have hlx : xs.length = bits.length := by have := congrArg List.length hxs; rwa [List.length_map, digD_len] at this
  have hm' := Lib.hid hm
  have hxs' := Lib.hid hxs
  have hlx' := Lib.hid hlx
  clear hm hxs hlx
  refine callsIn_of_wp Tryd.func110 rfl trivial ?_ rfl
  simp only [Tryd.ntmps110, List.size_toArray, List.length_cons, List.length_nil, Nat.reduceAdd, Nat.reduceSub, Array.replicate_succ, Array.replicate_zero, List.push_toArray, List.append_toArray, List.nil_append, List.cons_append]
  have y3 := h1.c3
  gi_wp2
  gi_loopw [10] (fun i wr => ∃ k : Nat, k ≤ bits.length ∧ i = .int .i64 k ∧ J (xs.take k) wr ∧ Hid (KeepB n₀ (fun b => b = B1 ∨ b = B2) W wr))
    (fun i _ => bits.length - (intOf i).toNat)
  case atStart => exact ⟨0, Nat.zero_le _, rfl, by rw [List.take_zero]; exact h0, Lib.hid ⟨Below.refl _ _, fun _ _ => rfl⟩⟩
  case round =>
    obtain ⟨k, hk, rfl, hJs, hK⟩ := hrel
    have z1 : SBox wr 83 B1 N least vE (.slice p bits.length c) := (hK.out.2 B1 (.inl rfl)).trans h1
    have z2 : wr.cell? ⟨B2, 0, none⟩ = some (.int .u64 x) := (World.cell?_of_block (a := ⟨B2, 0, none⟩) (hK.out.2 B2 (.inr rfl))).trans h2
    have y3 := z1.c3
    by_cases hlt : k < bits.length
    · have hkd : decide (k < bits.length) = true := decide_eq_true hlt
      have hkx : k < xs.length := by rw [hlx'.out]; exact hlt
      obtain ⟨b, off, ⟨c', hpe⟩, hb, hcell⟩ := hm'.out k hkx
      simp only [Value.slice.injEq] at hpe
      obtain ⟨rfl, -, rfl⟩ := hpe
      have hc2 := (hK.out.1.cell (p := ⟨b, off + (bits.length - 1 - k), none⟩) hb).trans hcell
      have hdg : xs[k].1.1 = x.testBit (bits.length - 1 - k) := by
        have h3 : (xs.map (fun d => (d.1.1, d.1.2.2)))[k]'(by rw [List.length_map]; exact hkx) = (digD bits x)[k]'(by rw [digD_len]; exact hlt) := by
          simp only [hxs'.out]
        rw [List.getElem_map, digD_get] at h3
        exact congrArg Prod.fst h3
      obtain ⟨q, hq⟩ : ∃ q, bits.length - 1 - k = q := ⟨_, rfl⟩
      rw [hq] at hc2 hdg
      have hqe : ((bits.length : Int) - 1 - (k : Int)) = (q : Int) := by omega
      have hql : q < bits.length := by omega
      have hq64 : q < 64 := by omega
      have hb5 : (Go.bits .and .u64 ((x : Int) / 2 ^ q) 1 == 1) = xs[k].1.1 := by
        have e1 : ((x : Int) / 2 ^ q) = ((x / 2 ^ q : Nat) : Int) := by simp
        have e2 := u64_and_nat (x / 2 ^ q) 1 (Nat.lt_of_le_of_lt (Nat.div_le_self _ _) hx64) (by decide)
        rw [Nat.and_one_is_mod] at e2
        have e3 : Go.bits .and .u64 ((x : Int) / 2 ^ q) 1 = ((x / 2 ^ q % 2 : Nat) : Int) := by rw [e1]; exact e2
        rw [hdg, Nat.testBit_eq_decide_div_mod_eq, e3]
        by_cases h : x / 2 ^ q % 2 = 1
        · rw [h]; rfl
        · rw [decide_eq_false h]
          generalize x / 2 ^ q % 2 = m at *
          rw [beq_eq_false_iff_ne]
          omega
      have hsnoc : xs.take (k + 1) = xs.take k ++ [xs[k]] := List.take_succ_eq_append_getElem hkx
      have hJd' : J (xs.take k) wr.drew := hJd _ _ hJs
      have htl : (xs.take k).length < bits.length := by rw [List.length_take]; omega
      obtain ⟨fn, tmps, assign, body, hyy, hR⟩ := hY (xs.take k) xs[k] wr.drew hJd' htl
      rw [← hsnoc] at hR
      rw [← hb5] at hyy
      clear hb5 hdg
      have hR2 := hR.mono (R' := fun e W' => ∃ bb : Bool, e = .returned (.bool bb) ∧ ((bb = true ∧ J (xs.take (k + 1)) W' ∧ KeepB n₀ (fun b => b = B1 ∨ b = B2) wr.drew W') ∨ (bb = false ∧ Jx (xs.take (k + 1)) W')))
        (fun e W' h => by
          rcases h with ⟨rfl, h1, h2⟩ | ⟨rfl, h1⟩
          · exact ⟨true, rfl, .inl ⟨rfl, h1, h2⟩⟩
          · exact ⟨false, rfl, .inr ⟨rfl, h1⟩⟩)
      clear hR
      gi_wp2
      gi_region_with (refine hR2.mono ?_; rintro e W3 ⟨bb, rfl, hP⟩)
      all_goals
        rcases hP with ⟨rfl, hJ3, hK3⟩ | ⟨rfl, hJx3⟩
        · have hK4 : Hid (KeepB n₀ (fun b => b = B1 ∨ b = B2) W W3) := Lib.hid (KeepB.trans ⟨hK.out.1.drew, fun b hb => hK.out.2 b hb⟩ hK3)
          gi_wp2
          go_roundw
          case rel => exact ⟨k + 1, by omega, by go_num, hJ3, hK4⟩
          case measure => simp [intOf]; omega
        · gi_wp2
          refine bodyPost_ret (results_none rfl _ _ _) rfl ?_
          exact ⟨⟨_, rfl⟩, .inr ⟨_, List.take_prefix _ _, hJx3⟩⟩
    · have hkd : decide (k < bits.length) = false := decide_eq_false hlt
      have hkk : xs.take k = xs := List.take_of_length_le (by rw [hlx'.out]; omega)
      rw [hkk] at hJs
      gi_wp2
      go_end0
      exact ⟨⟨_, rfl⟩, .inl ⟨xs, rfl, hJs⟩⟩

/-- All digits, the greatest first; or the first of them. -/
theorem digits_stops (n : Nat) (hn : 1 ≤ n) (B1 B2 n₀ : Nat) {N least : Int} {vE vB : Value} {bits : List (List Ch)} (w0 w : World) (xs : List (DX w0)) (x : Nat) (hx64 : x < 18446744073709551616) (hl64 : bits.length ≤ 64)
    (hxs : xs.map (fun d => (d.1.1, d.1.2.2)) = digD bits x) (h1 : SBox w 83 B1 N least vE vB) (h2 : w.cell? ⟨B2, 0, none⟩ = some (.int .u64 x)) (hB2 : B2 < w.heap.size) (hn₀ : n₀ ≤ w.heap.size)
    (hvB : ∃ p c, vB = .slice p bits.length c) (hm : ∀ j (hj : j < xs.length), ∃ b off, (∃ c, vB = .slice (some ⟨b, off, none⟩) bits.length c) ∧ b < n₀ ∧ w.cell? ⟨b, off + (bits.length - 1 - j), none⟩ = some xs[j].1.2.1) :
    SeqStopsK Fence.wide n Tryd.prog 110 #[.pointer (some ⟨B1, 0, none⟩), .pointer (some ⟨B2, 0, none⟩)] (fun y : DX w0 => #[.bool y.1.1, .agg #[y.1.2.1]]) (KeepB n₀ (fun b => b = B1 ∨ b = B2)) (fun ys => ys = xs) (fun pre => pre <+: xs) bits.length w := fun l J Jx W hW hJ _ hY h0 =>
  digits1_in n hn l B1 B2 n₀ w0 xs x hx64 hl64 hxs J Jx (fun pre W' h => hJ pre W' W'.drew none h ⟨rfl, rfl, rfl, Nat.le_refl _, fun _ _ _ => rfl⟩ (fun _ e => by cases e)) hY W (h1.later hW)
    ((hW.cell (p := ⟨B2, 0, none⟩) hB2).trans h2) hvB (fun j hj => by
      obtain ⟨b, off, hc, hb, hu⟩ := hm j hj
      exact ⟨b, off, hc, hb, (hW.cell (p := ⟨b, _, none⟩) (by show b < _; omega)).trans hu⟩) h0
end Go.Proofs.YtnigpmbpipmgfaaDoor
