/-
  BsA, RowR: several texts in one (merge.py).
-/
import Derived.Test.YtnigpmbpipmgfaaDoorBsF
import Derived.Test.YtnigpmbpipmgfaaDoorMkG
import Derived.Test.YtnigpmbpipmgfaaDoorRMake7
import Derived.Deep.AppendLies

/-
  made; the iterator over rows.
-/
namespace Go.Proofs.YtnigpmbpipmgfaaDoor
open Go.RowKit Go.Shelf Tess

attribute [local go_sem] Oper.semAt_some

set_option maxRecDepth 100000 in
set_option maxHeartbeats 2000000 in
theorem made_any {zs : List Int} {sv : Value} {w : World} (h : Ints w.heap.size w sv zs) (hl : zs.length ≤ 1000000) (hT : Tab w) :
    Calls Tryd.prog 40 #[sv] w fun e W' => ∃ v, e = .returned (.agg #[v]) ∧ HC W' v (mkL zs).1 ∧ Below w.heap.size w W' ∧ Fr w.heap.size v := by
  have r0 := Lib.hid (RBox.new w (.slice none 0 0))
  have hR := Lib.hid ((Below.refl w.heap.size w).alloc (Nat.le_refl _) (.cells #[.slice none 0 0] 28))
  have hk := Lib.hid (make7_fr ((h.below hR.out (Nat.le_refl _)).more hR.out.size) hl (hT.below hR.out hT.lt))
  clear h hT
  generalize mkL zs = g at *
  go_enter Tryd.func40, Tryd.ntmps40
  go_wp2_with (go_at_call 13; refine (hk.out).mono ?_; rintro e W2 ⟨v, rfl, hv, hb, hfr⟩; obtain ⟨p, c, rfl, -, -⟩ := Hid.out hv; have y1 := (r0.out.later hb).alloc (.cells #[.slice p g.1.length c] 28); have f1 := y1.frozen; have e1 := y1.cell)
  have d1 := (y1.set (.slice p g.1.length c)).cell
  have hB2 := hR.out.trans (hb.mono hR.out.size)
  refine bodyPost_ret (v := .agg #[.slice p g.1.length c]) ?_ rfl ⟨_, rfl, (hv.alloc _).setR y1 _, (hB2.alloc hB2.size _).setCell (p := ⟨w.heap.size, 0, none⟩) (Nat.le_refl _) _, fun g hg => Nat.le_trans hR.out.size (hfr g hg)⟩
  simp [results, Tryd.results40, go_sem, d1]

/-- THE SLICE VALUE HOLDS THE BOOLS. -/
def BoolsAt (n₀ : Nat) (W : World) (sv : Value) (hs : List Bool) : Prop :=
  ∃ p cap, sv = .slice p hs.length cap ∧ ∀ j, j < hs.length → ∃ b off, p = some ⟨b, off, none⟩ ∧ b < n₀ ∧ W.cell? ⟨b, off + j, none⟩ = some (.bool (hs[j]?.getD false))
theorem BoolsAt.below {n₀ n₁ : Nat} {A B : World} {sv : Value} {hs : List Bool} (h : BoolsAt n₀ A sv hs) (hb : Below n₁ A B) (hn : n₀ ≤ n₁) : BoolsAt n₀ B sv hs := by
  obtain ⟨p, cap, hv, hc⟩ := h
  refine ⟨p, cap, hv, fun j hj => ?_⟩
  obtain ⟨b, off, hp, hb1, h1⟩ := hc j hj
  exact ⟨b, off, hp, hb1, (hb.cell (p := ⟨b, _, none⟩) (Nat.lt_of_lt_of_le hb1 hn)).trans h1⟩
theorem BoolsAt.more {n₀ n₁ : Nat} {A : World} {sv : Value} {hs : List Bool} (h : BoolsAt n₀ A sv hs) (hn : n₀ ≤ n₁) : BoolsAt n₁ A sv hs := by
  obtain ⟨p, cap, hv, hc⟩ := h
  refine ⟨p, cap, hv, fun j hj => ?_⟩
  obtain ⟨b, off, hp, hb1, h1⟩ := hc j hj
  exact ⟨b, off, hp, Nat.lt_of_lt_of_le hb1 hn, h1⟩
/-- Where they are true. -/
def idxB (hs : List Bool) : List Nat := (List.range hs.length).filter fun i => hs[i]?.getD false
def idxTo (hs : List Bool) (k : Nat) : List Nat := (List.range k).filter fun i => hs[i]?.getD false
theorem idxTo_yes {hs : List Bool} {k : Nat} (h : hs[k]?.getD false = true) : idxTo hs (k + 1) = idxTo hs k ++ [k] := by
  unfold idxTo; rw [List.range_succ, List.filter_append]; simp [h]
theorem idxTo_no {hs : List Bool} {k : Nat} (h : hs[k]?.getD false = false) : idxTo hs (k + 1) = idxTo hs k := by
  unfold idxTo; rw [List.range_succ, List.filter_append]; simp [h]
theorem idxTo_prefix {hs : List Bool} {k : Nat} (h : k ≤ hs.length) : idxTo hs k <+: idxB hs := by
  obtain ⟨d, hd⟩ : ∃ d, hs.length = k + d := ⟨hs.length - k, by omega⟩
  unfold idxTo idxB
  rw [hd, List.range_add, List.filter_append]
  exact List.prefix_append _ _
theorem idxTo_len (hs : List Bool) (k : Nat) : (idxTo hs k).length ≤ k := by
  have := List.length_filter_le (fun i => hs[i]?.getD false) (List.range k)
  rwa [List.length_range] at this
theorem idxB_lt {hs : List Bool} {i : Nat} (h : i ∈ idxB hs) : i < hs.length := List.mem_range.1 (List.mem_filter.1 h).1

set_option maxHeartbeats 1000000 in
theorem rows_in (n : Nat) (p : Option Addr) (m c : Nat) (w : World) :
    CallsIn Fence.wide n Tryd.prog 39 #[.slice p m c] w fun e w' => e = .returned (.func (.func 72) #[] #[.pointer (some ⟨w.heap.size, 0, none⟩)]) ∧ w' = w.alloc (.cells #[.slice p m c] 23) := by
  refine callsIn_of_wp Tryd.func39 rfl trivial ?_ rfl
  simp only [Tryd.ntmps39, List.size_toArray, List.length_cons, List.length_nil, Nat.reduceAdd, Nat.reduceSub, Array.replicate_succ, Array.replicate_zero, List.push_toArray, List.append_toArray, List.nil_append, List.cons_append]
  gi_wp2
  go_ret
  exact ⟨rfl, rfl⟩

set_option maxRecDepth 100000 in
set_option maxHeartbeats 4000000 in
theorem rows1_in (n : Nat) (hn : 1 ≤ n) (l B n₀ : Nat) {sv : Value} {hs : List Bool} (hl64 : hs.length ≤ 1000000) (J Jx : List (Fin hs.length) → World → Prop)
    (hY : ∀ pre y W, J pre W → pre.length < hs.length → YieldAt Fence.wide (n - 1) Tryd.prog l #[.int .i64 (y.val : Nat)] W fun e W' =>
      (e = .returned (.bool true) ∧ J (pre ++ [y]) W' ∧ KeepB n₀ (fun b => b = B) W W') ∨ (e = .returned (.bool false) ∧ Jx (pre ++ [y]) W'))
    (W : World) (h1 : W.cell? ⟨B, 0, none⟩ = some sv) (hb : BoolsAt n₀ W sv hs) (h0 : J [] W) :
    CallsIn Fence.wide n Tryd.prog 72 #[.func (.yield l) #[] #[], .pointer (some ⟨B, 0, none⟩)] W fun e W' => (∃ v, e = .returned v) ∧
      ((∃ ys, ys.map (·.val) = idxB hs ∧ J ys W') ∨ (∃ pre, pre.map (·.val) <+: idxB hs ∧ Jx pre W')) := by
  obtain ⟨p, cap, rfl, hc⟩ := hb
  have hc' := Lib.hid hc
  clear hc
  refine callsIn_of_wp Tryd.func72 rfl trivial ?_ rfl
  simp only [Tryd.ntmps72, List.size_toArray, List.length_cons, List.length_nil, Nat.reduceAdd, Nat.reduceSub, Array.replicate_succ, Array.replicate_zero, List.push_toArray, List.append_toArray, List.nil_append, List.cons_append]
  refine scopeIn ?_
  gi_wp2
  refine wpIn_label ?_
  gi_wp2
  gi_loopw [6] (fun i wr => ∃ (k : Nat) (pre : List (Fin hs.length)), k ≤ hs.length ∧ i = .int .i64 k ∧ pre.map (·.val) = idxTo hs k ∧ J pre wr ∧ Hid (KeepB n₀ (fun b => b = B) W wr))
    (fun i _ => hs.length - (intOf i).toNat)
  case atStart => exact ⟨0, [], Nat.zero_le _, rfl, rfl, h0, Lib.hid ⟨Below.refl _ _, fun _ _ => rfl⟩⟩
  case round =>
    obtain ⟨k, pre, hk, rfl, hpr, hJs, hK⟩ := hrel
    have y3 : wr.cell? ⟨B, 0, none⟩ = some (.slice p hs.length cap) := (World.cell?_of_block (a := ⟨B, 0, none⟩) (hK.out.2 B rfl)).trans h1
    by_cases hlt : k < hs.length
    · have hkd : decide (k < hs.length) = true := decide_eq_true hlt
      obtain ⟨b, off, rfl, hb, hcell⟩ := hc'.out k hlt
      have hc2 := (hK.out.1.cell (p := ⟨b, off + k, none⟩) hb).trans hcell
      have hyes := Lib.hid (@idxTo_yes hs k)
      have hno := Lib.hid (@idxTo_no hs k)
      have hpre := Lib.hid (@idxTo_prefix hs (k + 1) (by omega))
      have htl : pre.length < hs.length := by
        have h1 := congrArg List.length hpr
        rw [List.length_map] at h1
        have h2 := idxTo_len hs k
        omega
      have hpr' := Lib.hid hpr
      clear hpr
      cases hbv : hs[k]?.getD false with
      | false =>
        have hst := Lib.hid (hno.out hbv)
        rw [hbv] at hc2
        clear hyes hno hcell hbv htl
        gi_wp2
        refine ⟨(fun f h => by cases h), ?_⟩
        gi_wp2
        go_roundw
        case rel => exact ⟨k + 1, pre, by omega, by go_num, by rw [hst.out]; exact hpr'.out, hJs, hK⟩
        case measure => simp [intOf]; omega
      | true =>
        have hst := Lib.hid (hyes.out hbv)
        rw [hbv] at hc2
        obtain ⟨fn, tmps, assign, body, hyy, hR⟩ := hY pre ⟨k, hlt⟩ wr hJs htl
        have hR2 := hR.mono (R' := fun e W' => ∃ bb : Bool, e = .returned (.bool bb) ∧ ((bb = true ∧ J (pre ++ [⟨k, hlt⟩]) W' ∧ KeepB n₀ (fun b => b = B) wr W') ∨ (bb = false ∧ Jx (pre ++ [⟨k, hlt⟩]) W')))
          (fun e W' h => by
            rcases h with ⟨rfl, h1, h2⟩ | ⟨rfl, h1⟩
            · exact ⟨true, rfl, .inl ⟨rfl, h1, h2⟩⟩
            · exact ⟨false, rfl, .inr ⟨rfl, h1⟩⟩)
        have hpn : Hid ((pre ++ [(⟨k, hlt⟩ : Fin hs.length)]).map (·.val) = idxTo hs (k + 1)) := by
          show _ = _
          rw [List.map_append, hpr'.out, hst.out]; rfl
        clear hR hyes hno hcell hbv htl hJs hst
        generalize pre ++ [(⟨k, hlt⟩ : Fin hs.length)] = pn at *
        have hyy' : (W : World) → True := fun _ => trivial
        clear hyy'
        gi_wp2
        refine hR2.mono ?_
        rintro e W3 ⟨bb, rfl, hP⟩
        rcases hP with ⟨rfl, hJ3, hK3⟩ | ⟨rfl, hJx3⟩
        · have hK4 := Lib.hid (KeepB.trans hK.out hK3)
          gi_wp2
          go_roundw
          case rel => exact ⟨k + 1, pn, by omega, by go_num, hpn.out, hJ3, hK4⟩
          case measure => simp [intOf]; omega
        · gi_wp2
          rw [Exit.noGoto_normal]
          go_end0
          exact ⟨⟨_, rfl⟩, .inr ⟨pn, by rw [hpn.out]; exact hpre.out, hJx3⟩⟩
    · have hkd : decide (k < hs.length) = false := decide_eq_false hlt
      have hkk : k = hs.length := by omega
      subst hkk
      gi_wp2
      rw [Exit.noGoto_normal]
      go_end0
      exact ⟨⟨_, rfl⟩, .inl ⟨_, hpr, hJs⟩⟩

theorem rows_stops (n : Nat) (hn : 1 ≤ n) (B n₀ : Nat) {sv : Value} {hs : List Bool} (hl : hs.length ≤ 1000000) (w : World) (h1 : w.cell? ⟨B, 0, none⟩ = some sv) (hB : B < w.heap.size) (hn₀ : n₀ ≤ w.heap.size) (hb : BoolsAt n₀ w sv hs) :
    SeqStopsK Fence.wide n Tryd.prog 72 #[.pointer (some ⟨B, 0, none⟩)] (fun y : Fin hs.length => #[.int .i64 (y.val : Nat)]) (KeepB n₀ (fun b => b = B)) (fun ys => ys.map (·.val) = idxB hs) (fun pre => pre.map (·.val) <+: idxB hs) hs.length w := fun l J Jx W hW _ _ hY h0 =>
  rows1_in n hn l B n₀ hl J Jx hY W ((hW.cell (p := ⟨B, 0, none⟩) hB).trans h1) (hb.below hW hn₀) h0
end Go.Proofs.YtnigpmbpipmgfaaDoor

/-
  A row of bitmaps that grows; Build in plain.
-/
namespace Go.Proofs.YtnigpmbpipmgfaaDoor
open Go.RowKit Tess

theorem info_roar : (Tryd.prog.info? 28).map (fun i => (i.zero, i.size, i.bytes)) = some (some (.agg #[.slice none 0 0]), 1, 24) := by kernel_rfl
theorem info_int64 : (Tryd.prog.info? 2).map (fun i => (i.zero, i.size, i.bytes)) = some (some (.int .i64 0), 1, 8) := by kernel_rfl

theorem HC.grown_row {W W' : World} {row : Option Nat} {u : Value} {l : List Ch} (h : HC W u l) (hg : W.grownBy W' row) (hne : l ≠ [] → ∀ g, row = some g → u.ownBlock ≠ some g) : HC W' u l := by
  obtain ⟨p, cap, hv, hc, hh⟩ := Hid.out h
  refine Lib.hid ⟨p, cap, hv, hc, fun j hj => ?_⟩
  obtain ⟨b, off, hp, hb, h1, h2, h3⟩ := hh j hj
  have hl : l ≠ [] := fun e => by subst e; cases hj
  have hk : ∀ i, W'.cell? ⟨b, i, none⟩ = W.cell? ⟨b, i, none⟩ := fun i => World.cell?_of_block (a := ⟨b, i, none⟩) (hg.block b hb fun e => hne hl b e.symm (by rw [hv, hp]; rfl))
  exact ⟨b, off, hp, Nat.lt_of_lt_of_le hb hg.size, (hk _).trans h1, (hk _).trans h2, (hk _).trans h3⟩
/-- A store into a box with a column leaves chunks alone. -/
theorem HC.setS {W : World} {v : Value} {l : List Ch} {t : TypeId} {b i : Nat} {n least : Int} {vE vB : Value} (h : HC W v l) (hx : SBox W t b n least vE vB) (hE : ∃ p m c, vE = .slice p m c) (hB : ∃ p m c, vB = .slice p m c) (u' : Value) : HC (W.setCell ⟨b, i, none⟩ u') v l := by
  obtain ⟨p, cap, hv, hc, hh⟩ := Hid.out h
  obtain ⟨_, _, _, rfl⟩ := hE
  obtain ⟨_, _, _, rfl⟩ := hB
  refine Lib.hid ⟨p, cap, hv, hc, fun j hj => ?_⟩
  obtain ⟨g, off, hp, hb1, h1, h2, h3⟩ := hh j hj
  have hne : g ≠ b := by
    rintro rfl
    rw [cell_of_row W g _ _ _ (0, 0) hx] at h3
    have : off + j * 3 + 2 = (off + j * 3) + 2 := rfl
    rw [this] at h3
    generalize off + j * 3 = q at *
    match q with
    | 0 => simp at h3
    | 1 => simp at h3
    | q + 2 => simp at h3
  have hk : ∀ k, (W.setCell ⟨b, i, none⟩ u').cell? ⟨g, k, none⟩ = W.cell? ⟨g, k, none⟩ := fun k => World.cell?_setCell_far W ⟨b, i, none⟩ ⟨g, k, none⟩ u' (fun e => hne e.symm)
  exact ⟨g, off, hp, by simpa using hb1, (hk _).trans h1, (hk _).trans h2, (hk _).trans h3⟩
theorem SBox.setB {W : World} {t : TypeId} {b : Nat} {n least : Int} {vE vB : Value} (h : SBox W t b n least vE vB) (u : Value) : SBox (W.setCell ⟨b, 3, none⟩ u) t b n least vE u := by
  unfold SBox at *
  rw [Go.heap_setCell_same W b 3 _ _ u h]
  simp

/-- A row of bitmaps, all the row's own; their chunks lie elsewhere. -/
def RowR (W : World) (base : Nat) (v : Value) (ls : List (List Ch)) : Prop :=
  ∃ us : List Value, W.ownsRow base 28 1 v ls.length us ∧ ∀ j (hj : j < ls.length), ∃ u, us[j]? = some u ∧ HC W u ls[j] ∧ (ls[j] ≠ [] → ∀ g, v.ownBlock = some g → u.ownBlock ≠ some g)
theorem RowR.nil (W : World) (base : Nat) : RowR W base (.slice none 0 0) [] := ⟨[], World.ownsRow_nil _ _ _ _, fun j hj => by cases hj⟩
theorem RowR.later {W W' : World} {base : Nat} {v : Value} {ls : List (List Ch)} (h : RowR W base v ls) (hb : Below W.heap.size W W') : RowR W' base v ls := by
  obtain ⟨us, h1, h2⟩ := h
  refine ⟨us, own_later h1 hb, fun j hj => ?_⟩
  obtain ⟨u, k1, k2, k3⟩ := h2 j hj
  exact ⟨u, k1, k2.later hb, k3⟩
theorem RowR.slice {W : World} {base : Nat} {v : Value} {ls : List (List Ch)} (h : RowR W base v ls) : ∃ p c, v = .slice p ls.length c := by
  obtain ⟨us, h1, -⟩ := h
  exact row_slice h1
theorem RowR.hr {W : World} {base : Nat} {v : Value} {ls : List (List Ch)} (h : RowR W base v ls) : HR W v ls := by
  obtain ⟨us, ⟨hl, ⟨rfl, h0⟩ | ⟨g, cap, cur, rfl, _, hg, hn, hc, hs, ht⟩⟩, h2⟩ := h
  · have : ls = [] := List.length_eq_zero_iff.1 h0
    subst this
    exact HR.nil W _ _
  · refine Lib.hid ⟨_, cap, rfl, hn, fun j hj => ?_⟩
    obtain ⟨u, k1, k2, -⟩ := h2 j hj
    refine ⟨g, 0, u, rfl, lt_of_heap hg, ?_, Hid.out k2⟩
    have e : (cur.toList.take (ls.length * 1))[j]? = some u := by rw [ht]; exact k1
    rw [List.getElem?_take_of_lt (by omega)] at e
    simp [World.cell?, hg]
    simpa using e
/-- A store into a column's box leaves the row alone. -/
theorem RowR.setS {W : World} {base : Nat} {v : Value} {ls : List (List Ch)} {t : TypeId} {b i : Nat} {n least : Int} {vE vB : Value} (h : RowR W base v ls) (hx : SBox W t b n least vE vB) (hE : ∃ p m c, vE = .slice p m c) (hB : ∃ p m c, vB = .slice p m c) (hlt : b < base) (u' : Value) : RowR (W.setCell ⟨b, i, none⟩ u') base v ls := by
  obtain ⟨us, h1, h2⟩ := h
  refine ⟨us, h1.kept (grown_cell W ⟨b, i, none⟩ u') ?_, fun j hj => ?_⟩
  · cases hv : v.ownBlock with
    | none => left; rfl
    | some g => right; have := (h1.lt g hv).1; simp; omega
  · obtain ⟨u, k1, k2, k3⟩ := h2 j hj
    exact ⟨u, k1, k2.setS hx hE hB u', k3⟩
/-- One bitmap more. -/
theorem RowR.appended {W0 W2 W3 : World} {base : Nat} {v : Value} {ls : List (List Ch)} (hb : Below W0.heap.size W0 W2) {u : Value} {l : List Ch} (hu : HC W2 u l) (hfr : Fr W0.heap.size u) {g cap : Nat} {us : List Value}
    (hus : W0.ownsRow base 28 1 v ls.length us ∧ ∀ j (hj : j < ls.length), ∃ u, us[j]? = some u ∧ HC W0 u ls[j] ∧ (ls[j] ≠ [] → ∀ g, v.ownBlock = some g → u.ownBlock ≠ some g))
    (hown : W3.ownsRow base 28 1 (.slice (some ⟨g, 0, none⟩) (ls.length + 1) cap) (ls.length + 1) (us ++ [u])) (hg : W2.grownBy W3 v.ownBlock) (hloc : v.ownBlock = some g ∨ g = W2.heap.size) :
    RowR W3 base (.slice (some ⟨g, 0, none⟩) (ls.length + 1) cap) (ls ++ [l]) := by
  have hul : us.length = ls.length := by have := hus.1.1; omega
  have hlt : ∀ g', v.ownBlock = some g' → g' < W0.heap.size := fun g' e => (hus.1.lt g' e).2
  have hdat : ∀ {x : Value} {m : List Ch}, HC W2 x m → m ≠ [] → ∀ b, x.ownBlock = some b → b < W2.heap.size := by
    intro x m hx hm b hb'
    obtain ⟨p, c, rfl, -, hh⟩ := Hid.out hx
    obtain ⟨b', off, rfl, hlt', -⟩ := hh 0 (List.length_pos_iff.2 hm)
    cases hb'
    exact hlt'
  refine ⟨us ++ [u], by rw [List.length_append]; exact hown, fun j hj => ?_⟩
  by_cases h' : j < ls.length
  · obtain ⟨x, k1, k2, k3⟩ := hus.2 j h'
    have k2' := k2.later hb
    refine ⟨x, by rw [List.getElem?_append_left (by omega)]; exact k1, ?_, ?_⟩
    · rw [List.getElem_append_left h']
      exact k2'.grown_row hg (fun hne g' e => k3 hne g' e)
    · rw [List.getElem_append_left h']
      intro hne g' e
      have e' : g = g' := by simpa [Value.ownBlock] using e
      subst e'
      rcases hloc with hl | hl
      · exact k3 hne g hl
      · intro hx
        have := hdat k2' hne g hx
        omega
  · have hjl : j = ls.length := by rw [List.length_append] at hj; simp at hj; omega
    subst hjl
    refine ⟨u, by rw [List.getElem?_append_right (by omega)]; simp [hul], ?_, ?_⟩
    · rw [List.getElem_append_right (by omega)]
      simp only [Nat.sub_self, List.getElem_cons_zero]
      refine hu.grown_row hg (fun _ g' e hx => ?_)
      have h1 := hfr g' hx
      have h2 := hlt g' e
      omega
    · rw [List.getElem_append_right (by omega)]
      simp only [Nat.sub_self, List.getElem_cons_zero]
      intro hne g' e hx
      have e' : g = g' := by simpa [Value.ownBlock] using e
      subst e'
      rcases hloc with hl | hl
      · have h1 := hfr g hx
        have h2 := hlt g hl
        omega
      · have := hdat hu hne g hx
        omega

/-! ### Build -/
def loO (v : Nat → Int) (xs : List Nat) : Option Int := xs.foldl (fun (o : Option Int) i => some (match o with | none => v i | some m => if v i < m then v i else m)) none
def hiO (v : Nat → Int) (xs : List Nat) : Option Int := xs.foldl (fun (o : Option Int) i => some (match o with | none => v i | some m => if m < v i then v i else m)) none
/-- The least, the greatest of some numbers; 0 of none. -/
def loS (v : Nat → Int) (xs : List Nat) : Int := (loO v xs).getD 0
def hiS (v : Nat → Int) (xs : List Nat) : Int := (hiO v xs).getD 0
theorem loO_snoc (v : Nat → Int) (xs : List Nat) (i : Nat) : loO v (xs ++ [i]) = some (match loO v xs with | none => v i | some m => if v i < m then v i else m) := by unfold loO; rw [List.foldl_append]; rfl
theorem hiO_snoc (v : Nat → Int) (xs : List Nat) (i : Nat) : hiO v (xs ++ [i]) = some (match hiO v xs with | none => v i | some m => if m < v i then v i else m) := by unfold hiO; rw [List.foldl_append]; rfl
theorem foldO_none (f : Option Int → Nat → Int) : ∀ (xs : List Nat) (o : Option Int), (xs.foldl (fun o i => some (f o i)) o = none ↔ xs = [] ∧ o = none)
  | [], o => by simp
  | x :: xs, o => by
    show xs.foldl (fun o i => some (f o i)) (some (f o x)) = none ↔ _
    rw [foldO_none f xs]
    simp
theorem loS_nil (v : Nat → Int) : loS v [] = 0 := rfl
theorem hiS_nil (v : Nat → Int) : hiS v [] = 0 := rfl
theorem loS_one (v : Nat → Int) (i : Nat) : loS v [i] = v i := rfl
theorem hiS_one (v : Nat → Int) (i : Nat) : hiS v [i] = v i := rfl
theorem loS_snoc (v : Nat → Int) {xs : List Nat} (h : xs ≠ []) (i : Nat) : loS v (xs ++ [i]) = if v i < loS v xs then v i else loS v xs := by
  unfold loS
  rw [loO_snoc]
  cases ho : loO v xs with
  | none => exact absurd ((foldO_none _ xs none).1 ho).1 h
  | some m => rfl
theorem hiS_snoc (v : Nat → Int) {xs : List Nat} (h : xs ≠ []) (i : Nat) : hiS v (xs ++ [i]) = if hiS v xs < v i then v i else hiS v xs := by
  unfold hiS
  rw [hiO_snoc]
  cases ho : hiO v xs with
  | none => exact absurd ((foldO_none _ xs none).1 ho).1 h
  | some m => rfl
theorem snoc_ind {P : List Nat → Prop} (h0 : P []) (hs : ∀ xs i, P xs → P (xs ++ [i])) (xs : List Nat) : P xs := by
  have : ∀ l : List Nat, P l.reverse := by
    intro l
    induction l with
    | nil => exact h0
    | cons a l ih => rw [List.reverse_cons]; exact hs _ _ ih
  have h := this xs.reverse
  rwa [List.reverse_reverse] at h
theorem loS_spec (v : Nat → Int) (xs : List Nat) : (xs ≠ [] → ∃ i ∈ xs, v i = loS v xs) ∧ ∀ i ∈ xs, loS v xs ≤ v i := by
  refine snoc_ind (P := fun xs => (xs ≠ [] → ∃ i ∈ xs, v i = loS v xs) ∧ ∀ i ∈ xs, loS v xs ≤ v i) ⟨fun h => absurd rfl h, fun i h => by cases h⟩ ?_ xs
  rintro xs i ⟨h1, h2⟩
  by_cases hx : xs = []
  · subst hx
    exact ⟨fun _ => ⟨i, by simp, by simp [loS_one]⟩, fun j hj => by simp at hj; subst hj; exact Int.le_refl _⟩
  · rw [loS_snoc v hx]
    obtain ⟨j, hj, ej⟩ := h1 hx
    refine ⟨fun _ => ?_, fun k hk => ?_⟩
    · by_cases h : v i < loS v xs
      · rw [if_pos h]; exact ⟨i, by simp, rfl⟩
      · rw [if_neg h]; exact ⟨j, by simp [hj], ej⟩
    · rcases List.mem_append.1 hk with hk | hk
      · have := h2 k hk
        split <;> omega
      · simp at hk; subst hk
        split <;> omega
theorem hiS_spec (v : Nat → Int) (xs : List Nat) : (xs ≠ [] → ∃ i ∈ xs, v i = hiS v xs) ∧ ∀ i ∈ xs, v i ≤ hiS v xs := by
  refine snoc_ind (P := fun xs => (xs ≠ [] → ∃ i ∈ xs, v i = hiS v xs) ∧ ∀ i ∈ xs, v i ≤ hiS v xs) ⟨fun h => absurd rfl h, fun i h => by cases h⟩ ?_ xs
  rintro xs i ⟨h1, h2⟩
  by_cases hx : xs = []
  · subst hx
    exact ⟨fun _ => ⟨i, by simp, by simp [hiS_one]⟩, fun j hj => by simp at hj; subst hj; exact Int.le_refl _⟩
  · rw [hiS_snoc v hx]
    obtain ⟨j, hj, ej⟩ := h1 hx
    refine ⟨fun _ => ?_, fun k hk => ?_⟩
    · by_cases h : hiS v xs < v i
      · rw [if_pos h]; exact ⟨i, by simp, rfl⟩
      · rw [if_neg h]; exact ⟨j, by simp [hj], ej⟩
    · rcases List.mem_append.1 hk with hk | hk
      · have := h2 k hk
        split <;> omega
      · simp at hk; subst hk
        split <;> omega
/-- A column's numbers. -/
def vI (l : List Int) (i : Nat) : Int := l[i]?.getD 0
/-- What a row's number is greater by. -/
def upBy (l : List Int) (hs : List Bool) (i : Nat) : Nat := (vI l i - loS (vI l) (idxB hs)).toNat
/-- How many digits. -/
def digN (l : List Int) (hs : List Bool) : Nat := lenB (hiS (vI l) (idxB hs) - loS (vI l) (idxB hs)).toNat
def rowsD (l : List Int) (hs : List Bool) (k : Nat) : List Nat := (idxB hs).filter fun i => (upBy l hs i).testBit k
def mkN (xs : List Nat) : List Ch := (mkL (xs.map Int.ofNat)).1
def mkB (l : List Int) (hs : List Bool) : Sl := ⟨(l.length : Int), loS (vI l) (idxB hs), mkN (idxB hs), (List.range (digN l hs)).map fun k => mkN (rowsD l hs k)⟩
/-- Build(l, has). -/
def buildB (l : List Int) (hs : List Bool) : Sl × Int := if l.length ≤ 1000 ∧ l.length = hs.length then (mkB l hs, 0) else (⟨0, 0, [], []⟩, 80)
end Go.Proofs.YtnigpmbpipmgfaaDoor
