/-
  roar's iterator over a bitmap's numbers: for whatever loop body that keeps what lay below n₀, and all cells but its own collecting slice.
-/
import Derived.Maps.OwnIn
import Derived.Test.YtalnfbkmlllfhaaDoorAsk8
namespace Go.Proofs.YtalnfbkmlllfhaaDoor
open Go.RowKit Go.Shelf Tess

attribute [local go_sem] Oper.semAt_some

/-! ## a body that collects into a slice in box B0 -/
def rowOf (W : World) (B0 : Nat) : Option Nat := match W.cell? ⟨B0, 0, none⟩ with | some v => v.ownBlock | none => none
theorem rowOf_cell {W : World} {B0 : Nat} {v : Value} (h : W.cell? ⟨B0, 0, none⟩ = some v) : rowOf W B0 = v.ownBlock := by unfold rowOf; rw [h]
theorem rowOf_block {W W' : World} {B0 : Nat} (h : W'.heap[B0]? = W.heap[B0]?) : rowOf W' B0 = rowOf W B0 := by
  have e : W'.cell? ⟨B0, 0, none⟩ = W.cell? ⟨B0, 0, none⟩ := World.cell?_of_block (a := ⟨B0, 0, none⟩) h
  unfold rowOf; rw [e]
/-- WHAT SUCH A ROUND KEEPS. -/
structure KeepC (n₀ B0 : Nat) (W W' : World) : Prop where
  below : Below n₀ W W'
  cells : ∀ (b : Nat) (cs : Array Value) (t : TypeId) (fr : Nat × Nat), W.heap[b]? = some (.cells cs t fr) → b ≠ B0 → rowOf W B0 ≠ some b → W'.heap[b]? = W.heap[b]?
  row : rowOf W' B0 = rowOf W B0 ∨ ∃ g, rowOf W' B0 = some g ∧ W.heap.size ≤ g ∧ g < W'.heap.size
theorem KeepC.trans {n₀ B0 : Nat} {A B C : World} (h : KeepC n₀ B0 A B) (k : KeepC n₀ B0 B C) : KeepC n₀ B0 A C := by
  refine ⟨h.below.trans k.below, fun b cs t fr hb hne hr => ?_, ?_⟩
  · have e := h.cells b cs t fr hb hne hr
    refine (k.cells b cs t fr (e.trans hb) hne ?_).trans e
    rcases h.row with h1 | ⟨g, h1, h2, _⟩
    · rw [h1]; exact hr
    · rw [h1]; intro e1; cases e1; have := lt_of_heap hb; omega
  · rcases k.row with k1 | ⟨g, k1, k2, k3⟩
    · rcases h.row with h1 | ⟨g, h1, h2, h3⟩
      · exact .inl (k1.trans h1)
      · exact .inr ⟨g, k1.trans h1, h2, Nat.lt_of_lt_of_le h3 k.below.size⟩
    · exact .inr ⟨g, k1, Nat.le_trans h.below.size k2, k3⟩
theorem keepC_b {n₀ B0 : Nat} {w : World} (hn : n₀ ≤ w.heap.size) (hB : B0 < w.heap.size) (W : World) (l : Nat) (o o' : Obj) (hl : w.heap.size ≤ l) (h : W.heap[l]? = some o) (hc : o.isCells = false) (hw : o.isWalk = false) : KeepC n₀ B0 W (W.putObj l o') := by
  refine ⟨belowK_b hn W l o o' hl h hc hw, fun b cs t fr hb hne _ => ?_, .inl (rowOf_block ?_)⟩
  · refine World.putObj_heap_other ?_
    intro e
    subst e
    rw [h] at hb
    cases hb; cases hc
  · exact World.putObj_heap_other (by omega)
/-- The collecting slice lies in a block that is there. -/
def OkB (W : World) (B0 : Nat) : Prop := ∀ g, rowOf W B0 = some g → g < W.heap.size
theorem OkB.keep {n₀ B0 : Nat} {W W' : World} (h : OkB W B0) (k : KeepC n₀ B0 W W') : OkB W' B0 := by
  intro g hg
  rcases k.row with h1 | ⟨g', h1, _, h3⟩
  · rw [h1] at hg; exact Nat.lt_of_lt_of_le (h g hg) k.below.size
  · rw [h1] at hg; cases hg; exact h3
theorem OkB.later {B0 : Nat} {W W' : World} (h : OkB W B0) (hB : B0 < W.heap.size) (hb : Below W.heap.size W W') : OkB W' B0 := by
  intro g hg
  rw [rowOf_block (hb.block B0 hB)] at hg
  exact Nat.lt_of_lt_of_le (h g hg) hb.size
/-- A block of cells that no such round touches. -/
def Safe (W : World) (B0 b : Nat) : Prop := b ≠ B0 ∧ rowOf W B0 ≠ some b ∧ b < W.heap.size
theorem Safe.keep {n₀ B0 b : Nat} {W W' : World} (h : Safe W B0 b) (k : KeepC n₀ B0 W W') : Safe W' B0 b := by
  refine ⟨h.1, ?_, Nat.lt_of_lt_of_le h.2.2 k.below.size⟩
  rcases k.row with h1 | ⟨g', h1, h2, _⟩
  · rw [h1]; exact h.2.1
  · rw [h1]; intro e; cases e; have := h.2.2; omega
theorem Safe.later {B0 b : Nat} {W W' : World} (h : Safe W B0 b) (hB : B0 < W.heap.size) (hb : Below W.heap.size W W') : Safe W' B0 b :=
  ⟨h.1, by rw [rowOf_block (hb.block B0 hB)]; exact h.2.1, Nat.lt_of_lt_of_le h.2.2 hb.size⟩
theorem Safe.new {B0 b : Nat} {W W' : World} (hok : OkB W B0) (hB : B0 < W.heap.size) (hb : Below W.heap.size W W') (h1 : W.heap.size ≤ b) (h2 : b < W'.heap.size) : Safe W' B0 b :=
  ⟨by omega, by rw [rowOf_block (hb.block B0 hB)]; intro e; have := hok b e; omega, h2⟩
theorem KBox.keep {n₀ B0 b : Nat} {W W' : World} {x : Ch} (h : KBox W b x) (hs : Safe W B0 b) (k : KeepC n₀ B0 W W') : KBox W' b x := (k.cells b _ _ _ h hs.1 hs.2.1).trans h
theorem own_keep {n₀ B0 base n size : Nat} {e : TypeId} {W W' : World} {v : Value} {xs : List Value} (h : W.ownsRow base e size v n xs) (hs : ∀ g, v.ownBlock = some g → Safe W B0 g) (k : KeepC n₀ B0 W W') : W'.ownsRow base e size v n xs := by
  refine ⟨h.1, ?_⟩
  rcases h.2 with h0 | ⟨g, cap, cur, rfl, hg, hh, rest⟩
  · exact .inl h0
  · have hs' := hs g rfl
    exact .inr ⟨g, cap, cur, rfl, hg, (k.cells g _ _ _ hh hs'.1 hs'.2.1).trans hh, rest⟩

/-! ## the numbers -/
abbrev N16 := Fin 65536
def vals16 (l : List N16) : List Nat := l.map (·.val)
theorem vals16_snoc (l : List N16) (x : N16) : vals16 (l ++ [x]) = vals16 l ++ [x.val] := by simp [vals16]
/-- A chunk's numbers; those of all chunks. -/
def chN (x : Ch) : List Nat := (nums x.set).map fun m => x.key.toNat * 256 + m
def allN (l : List Ch) : List Nat := l.flatMap chN
theorem allN_take {l : List Ch} {k : Nat} (h : k < l.length) : allN (l.take (k + 1)) = allN (l.take k) ++ chN l[k] := by
  unfold allN; rw [List.take_succ_eq_append_getElem h, List.flatMap_append]; simp
theorem allN_prefix (l : List Ch) (k : Nat) : allN (l.take k) <+: allN l := by
  unfold allN
  conv => rhs; rw [← List.take_append_drop k l, List.flatMap_append]
  exact List.prefix_append _ _
theorem chN_len (x : Ch) : (chN x).length ≤ 256 := by unfold chN; rw [List.length_map]; exact count_le _
theorem allN_len (l : List Ch) : (allN l).length ≤ 256 * l.length := by
  induction l with
  | nil => exact Nat.le_refl _
  | cons x l ih => show (chN x ++ allN l).length ≤ _; rw [List.length_append, List.length_cons]; have := chN_len x; omega

theorem rowVal {W : World} {base : Nat} {v : Value} {s : Nat} (h : W.ownsRow base 3 1 v (nums s).length ((nums s).map iv)) {j : Nat} (hj : j < (nums s).length) : ∃ g cap, v = .slice (some ⟨g, 0, none⟩) (nums s).length cap ∧ W.cell? ⟨g, j, none⟩ = some (.int .i64 (((nums s)[j] : Nat) : Int)) := by
  have h0 := h
  rcases h.2 with ⟨_, h1⟩ | ⟨g, cap, cur, rfl, _, _, _⟩
  · omega
  · refine ⟨g, cap, rfl, ?_⟩
    have hcx := h0.cellAt j (by omega)
    rw [List.getElem?_map, List.getElem?_eq_getElem hj] at hcx
    simpa [iv] using hcx
theorem rowSlice {W : World} {base n : Nat} {e : TypeId} {size : Nat} {v : Value} {xs : List Value} (h : W.ownsRow base e size v n xs) : ∃ p cap, v = .slice p n cap := by
  rcases h.2 with ⟨rfl, rfl⟩ | ⟨g, cap, cur, rfl, _⟩
  · exact ⟨_, _, rfl⟩
  · exact ⟨_, _, rfl⟩

set_option maxRecDepth 100000 in
set_option maxHeartbeats 8000000 in
theorem numbers7_in (n : Nat) (hn : 1 ≤ n) (lf Bw n₀ B0 : Nat) {l : List Ch} {v : Value} (hg : 4 < n₀) (J Jx : List N16 → World → Prop) (hJg : ∀ pre W W', J pre W → W.grownBy W' none → J pre W') (hr : rightL l = true)
    (hY : ∀ pre x W, J pre W → pre.length < 65536 → YieldAt Fence.wide (n - 1) Tryd.prog lf #[.int .i64 (x.val : Int)] W fun e W' =>
      (e = .returned (.bool true) ∧ J (pre ++ [x]) W' ∧ KeepC n₀ B0 W W') ∨ (e = .returned (.bool false) ∧ Jx (pre ++ [x]) W'))
    (W : World) (hBw : W.cell? ⟨Bw, 0, none⟩ = some v) (hv : Chs n₀ W v l) (hT : Tab W) (hB0 : B0 < W.heap.size) (hok : OkB W B0) (hn₀ : n₀ ≤ W.heap.size) (h0 : J [] W) :
    CallsIn Fence.wide n Tryd.prog 81 #[.func (.yield lf) #[] #[], .pointer (some ⟨Bw, 0, none⟩)] W fun e W' => (∃ v, e = .returned v) ∧
      ((∃ ys, vals16 ys = allN l ∧ J ys W') ∨ (∃ pre, vals16 pre <+: allN l ∧ Jx pre W')) := by
  have hl := right_len hr
  have hr' := Lib.hid hr
  obtain ⟨p, cap, rfl, -, hc⟩ := hv
  have hc' := Lib.hid hc
  clear hc hr
  refine callsIn_of_wp Tryd.func81 rfl trivial ?_ rfl
  simp only [Tryd.ntmps81, List.size_toArray, List.length_cons, List.length_nil, Nat.reduceAdd, Nat.reduceSub, Array.replicate_succ, Array.replicate_zero, List.push_toArray, List.append_toArray, List.nil_append, List.cons_append]
  refine scopeIn ?_
  gi_wp2
  refine wpIn_label ?_
  gi_wp2
  gi_loopw [10] (fun i wr => ∃ (k : Nat) (pre : List N16), k ≤ l.length ∧ i = .int .i64 k ∧ Hid (vals16 pre = allN (l.take k)) ∧ J pre wr ∧ Hid (Below n₀ W wr) ∧ OkB wr B0 ∧ B0 < wr.heap.size)
    (fun i _ => l.length - (intOf i).toNat)
  case atStart => exact ⟨0, [], Nat.zero_le _, rfl, rfl, h0, Lib.hid (Below.refl _ _), hok, hB0⟩
  case round =>
    obtain ⟨k, pre, hk, rfl, hvp, hJs, hB, hokr, hBr⟩ := hrel
    by_cases hlt : k < l.length
    · obtain ⟨b, off, rfl, hb, h1, h2, h3⟩ := hc'.out k hlt
      have y1 := (hB.out.cell (p := ⟨b, off + k * 3, none⟩) hb).trans h1
      have y2 := (hB.out.cell (p := ⟨b, off + k * 3 + 1, none⟩) hb).trans h2
      have y3 := (hB.out.cell (p := ⟨b, off + k * 3 + 2, none⟩) hb).trans h3
      have hkd : decide (k < l.length) = true := by simpa using hlt
      have hxs := right_mem hr'.out (List.getElem_mem hlt)
      have hat := Lib.hid (allN_take hlt)
      clear h1 h2 h3
      generalize hx : l[k] = x at y1 y2 y3 hxs hat
      clear hx
      obtain ⟨ky, f, D⟩ := x
      simp only at y1 y2 y3 hxs
      obtain ⟨hk0, hk1, hD⟩ := hxs
      obtain ⟨kk, rfl⟩ : ∃ kk : Nat, ky = kk := ⟨ky.toNat, by omega⟩
      have hkk : kk < 256 := by omega
      have hal : Hid ((Below.refl wr.heap.size wr).alloc (Nat.le_refl _) (.cells #[.int .i64 (kk : Int), .int .i64 f, .string D] 59) = (Below.refl wr.heap.size wr).alloc (Nat.le_refl _) (.cells #[.int .i64 (kk : Int), .int .i64 f, .string D] 59)) := rfl
      clear hal
      have hbA : Below wr.heap.size wr (wr.alloc (.cells #[.int .i64 (kk : Int), .int .i64 f, .string D] 59)) := (Below.refl wr.heap.size wr).alloc (Nat.le_refl _) _
      have hJ1 := hJg _ _ _ hJs (grown_of_below hbA)
      have hB1 := Lib.hid (hB.out.alloc (by have := hB.out.size; omega) (.cells #[.int .i64 (kk : Int), .int .i64 f, .string D] 59))
      have hK1 := KBox.new wr ⟨(kk : Int), f, D⟩
      have hok1 := hokr.later hBr hbA
      have hs1 : Safe (wr.alloc (.cells #[.int .i64 (kk : Int), .int .i64 f, .string D] 59)) B0 wr.heap.size := Safe.new hokr hBr hbA (Nat.le_refl _) (by simp)
      have hBr1 : B0 < (wr.alloc (.cells #[.int .i64 (kk : Int), .int .i64 f, .string D] 59)).heap.size := by simp; omega
      have hva := Lib.hid (Values_any f D (wr.alloc (.cells #[.int .i64 (kk : Int), .int .i64 f, .string D] 59)) hD (hT.below hB1.out hg))
      have hK1' := Lib.hid hK1
      have hok1' := Lib.hid hok1
      have hs1' := Lib.hid hs1
      have hbA' := Lib.hid hbA
      clear hokr hK1 hok1 hs1 hbA
      gi_wp2_with (refine ⟨trivial, ?_⟩; gi_at_call 79; refine CallsIn.mono (callsIn_wide.2 hva.out) ?_; rintro e W2 ⟨v2, rfl, hown2, hb2⟩; obtain ⟨p2, cap2, rfl⟩ := rowSlice hown2)
      have hBs1 := hB1.out.size
      have hJ2 := hJg _ _ _ hJ1 (grown_of_below hb2)
      have hB2 := Lib.hid (hB1.out.trans (hb2.mono (by omega)))
      have hok2 := hok1'.out.later hBr1 hb2
      have hBr2 : B0 < W2.heap.size := Nat.lt_of_lt_of_le hBr1 hb2.size
      have hK2 := Lib.hid (hK1'.out.later hb2)
      have hs2 := Lib.hid (hs1'.out.later hBr1 hb2)
      have hsr : Hid (∀ g, Value.ownBlock (.slice p2 (nums (ofRes f D).1).length cap2) = some g → Safe W2 B0 g) := fun g e => Safe.new hok1'.out hBr1 hb2 (hown2.lt g e).1 (hown2.lt g e).2
      have hown2' := Lib.hid hown2
      change Hid (allN (l.take (k + 1)) = allN (l.take k) ++ (nums (ofRes f D).1).map fun m => kk * 256 + m) at hat
      have hnl := count_le (ofRes f D).1
      change (nums (ofRes f D).1).length ≤ 256 at hnl
      have hnm : Hid (∀ m ∈ nums (ofRes f D).1, m < 256) := fun m hm => (mem_nums.1 hm).1
      obtain ⟨base, hbase⟩ : ∃ base, base = (wr.alloc (.cells #[.int .i64 (kk : Int), .int .i64 f, .string D] 59)).heap.size := ⟨_, rfl⟩
      rw [← hbase] at hown2'
      generalize (ofRes f D).1 = s at hown2' hat hsr hnl hnm
      clear hown2 hb2 hva hJ1 hB1 hK1' hok1' hs1' hbA' hBr1 hBs1 hbase y1 y2 y3 hJs hB
      obtain ⟨wo, rfl⟩ : ∃ wo : World, wo = wr := ⟨_, rfl⟩
      gi_wp2
      gi_loopw [18] (fun i wi => ∃ (j : Nat) (pi : List N16), j ≤ (nums s).length ∧ i = .int .i64 j ∧ Hid (vals16 pi = allN (l.take k) ++ ((nums s).take j).map fun m => kk * 256 + m) ∧ J pi wi ∧ Hid (Below n₀ W wi) ∧ OkB wi B0 ∧ B0 < wi.heap.size ∧ Hid (KBox wi wo.heap.size ⟨(kk : Int), f, D⟩) ∧ Hid (Safe wi B0 wo.heap.size) ∧
          Hid (wi.ownsRow base 3 1 (.slice p2 (nums s).length cap2) (nums s).length ((nums s).map iv)) ∧ Hid (∀ g, Value.ownBlock (.slice p2 (nums s).length cap2) = some g → Safe wi B0 g))
        (fun i _ => (nums s).length - (intOf i).toNat)
      case atStart => exact ⟨0, pre, Nat.zero_le _, rfl, by show _ = _; rw [hvp.out]; simp, hJ2, hB2, hok2, hBr2, hK2, hs2, hown2', hsr⟩
      case round =>
        obtain ⟨j, pi, hj, rfl, hvi, hJi, hBi, hoki, hBri, hKi, hsi, howni, hsri⟩ := hrel
        clear hJ2 hB2 hok2 hBr2 hK2 hs2 hown2' hsr
        by_cases hjl : j < (nums s).length
        · obtain ⟨g, cap3, hpe, hcell⟩ := rowVal howni.out hjl
          simp only [Value.slice.injEq] at hpe
          obtain ⟨rfl, -, rfl⟩ := hpe
          obtain ⟨z1, -, -⟩ := hKi.out.cells
          simp only at z1
          have hm256 := hnm.out _ (List.getElem_mem hjl)
          have hvn : Hid (((nums s).take (j + 1)).map (fun m => kk * 256 + m) = ((nums s).take j).map (fun m => kk * 256 + m) ++ [kk * 256 + (nums s)[j]]) := by
            show _ = _
            rw [List.take_succ_eq_append_getElem hjl, List.map_append]; rfl
          have hjd : decide (j < (nums s).length) = true := by simpa using hjl
          have hlen : pi.length < 65536 := by
            have h1 := congrArg List.length hvi.out
            have h2 := allN_len (l.take k)
            rw [List.length_take] at h2
            simp only [vals16, List.length_map, List.length_append, List.length_take] at h1
            omega
          generalize (nums s)[j] = m at hcell hm256 hvn
          have hb16 : kk * 256 + m < 65536 := by omega
          obtain ⟨fn, tmps, assign, body, hyy, hR⟩ := hY pi ⟨kk * 256 + m, hb16⟩ wr hJi hlen
          have ev : (((⟨kk * 256 + m, hb16⟩ : N16).val : Nat) : Int) = (kk : Int) * 256 + m := by simp
          rw [ev] at hyy
          have hor := i64_or_key kk m hkk hm256
          clear ev hlen
          gi_wp2
          refine hR.mono ?_
          rintro e W3 (⟨rfl, hJ3, hk3⟩ | ⟨rfl, hJx3⟩)
          · have q1 : Hid (vals16 (pi ++ [⟨kk * 256 + m, hb16⟩]) = allN (l.take k) ++ ((nums s).take (j + 1)).map fun m => kk * 256 + m) := by
              show _ = _
              rw [vals16_snoc, hvi.out, hvn.out]; simp
            have q2 := Lib.hid (hBi.out.trans hk3.below)
            have q3 := hoki.keep hk3
            have q4 : B0 < W3.heap.size := Nat.lt_of_lt_of_le hBri hk3.below.size
            have q5 := Lib.hid (hKi.out.keep hsi.out hk3)
            have q6 := Lib.hid (hsi.out.keep hk3)
            have q7 := Lib.hid (own_keep howni.out hsri.out hk3)
            have q8 : Hid (∀ g', Value.ownBlock (.slice (some ⟨g, 0, none⟩) (nums s).length cap2) = some g' → Safe W3 B0 g') := fun g' e => (hsri.out g' e).keep hk3
            clear hvi hJi hBi hoki hBri hKi hsi howni hsri hvn
            gi_wp2
            go_roundw
            case rel => exact ⟨j + 1, _, by omega, by go_num, q1, hJ3, q2, q3, q4, q5, q6, q7, q8⟩
            case measure => simp [intOf]; omega
          · gi_wp2
            rw [Exit.noGoto_normal]
            go_end0
            refine ⟨⟨_, rfl⟩, .inr ⟨pi ++ [⟨kk * 256 + m, hb16⟩], ?_, hJx3⟩⟩
            rw [vals16_snoc, hvi.out]
            have h2 : allN (l.take k) ++ ((nums s).take j).map (fun m => kk * 256 + m) ++ [kk * 256 + m] <+: allN (l.take (k + 1)) := by
              rw [hat.out, List.append_assoc, ← hvn.out]
              refine (List.prefix_append_right_inj _).2 ?_
              exact (List.take_prefix _ _).map _
            exact h2.trans (allN_prefix l (k + 1))
        · have hjd : decide (j < (nums s).length) = false := by simpa using hjl
          have q1 : Hid (vals16 pi = allN (l.take (k + 1))) := by
            show _ = _
            rw [hvi.out, hat.out, show (nums s).take j = nums s from List.take_of_length_le (by omega)]
          clear hvi hKi hsi howni hsri
          gi_wp2
          go_roundw
          case rel => exact ⟨k + 1, pi, by omega, by go_num, q1, hJi, hBi, hoki, hBri⟩
          case measure => simp [intOf]; omega
    · have hkd : decide (k < l.length) = false := by simpa using hlt
      have hfin : Hid (vals16 pre = allN l) := by
        show _ = _
        rw [hvp.out, List.take_of_length_le (by omega)]
      gi_wp2
      rw [Exit.noGoto_normal]
      go_end0
      exact ⟨⟨_, rfl⟩, .inl ⟨pre, hfin.out, hJs⟩⟩

/-- All numbers, rising; or the first of them. -/
theorem numbers7_stops (n : Nat) (hn : 1 ≤ n) (Bw n₀ B0 : Nat) {l : List Ch} {v : Value} (hg : 4 < n₀) (hr : rightL l = true) (w : World) (hBl : Bw < w.heap.size) (hBw : w.cell? ⟨Bw, 0, none⟩ = some v) (hv : Chs n₀ w v l) (hT : Tab w) (hB0 : B0 < w.heap.size) (hok : OkB w B0) (hn₀ : n₀ ≤ w.heap.size) :
    SeqStopsK Fence.wide n Tryd.prog 81 #[.pointer (some ⟨Bw, 0, none⟩)] (fun x : N16 => #[Value.int .i64 (x.val : Int)]) (KeepC n₀ B0) (fun ys => vals16 ys = allN l) (fun pre => vals16 pre <+: allN l) 65536 w := fun lf J Jx W hW hJ _ hY h0 =>
  numbers7_in n hn lf Bw n₀ B0 hg J Jx (fun pre W1 W2 h hg => hJ pre W1 W2 none h hg (fun _ e => by cases e)) hr hY W ((hW.cell (p := ⟨Bw, 0, none⟩) hBl).trans hBw)
    (hv.below hW hn₀) (hT.below hW (by omega)) (Nat.lt_of_lt_of_le hB0 hW.size) (hok.later hB0 hW) (Nat.le_trans hn₀ hW.size) h0
end Go.Proofs.YtalnfbkmlllfhaaDoor
