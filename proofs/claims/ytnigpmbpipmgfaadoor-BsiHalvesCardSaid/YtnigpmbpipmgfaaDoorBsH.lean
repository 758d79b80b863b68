/-
  The greatest number of some rows: column.greatest.
-/
import Derived.Test.YtnigpmbpipmgfaaDoorBsG
namespace Go.Proofs.YtnigpmbpipmgfaaDoor
open Go.RowKit Go.Shelf Tess

attribute [local go_sem] Oper.semAt_some

/-- A fresh row of one bitmap. -/
theorem HR.one {W : World} {u : Value} {l : List Ch} {b : Nat} (h : HC W u l) (hb : RBox W b u) : HR W (.slice (some ⟨b, 0, none⟩) 1 1) [l] := by
  refine Lib.hid ⟨_, 1, rfl, Nat.le_refl _, fun j hj => ?_⟩
  obtain rfl : j = 0 := by simpa using hj
  exact ⟨b, 0, u, rfl, hb.lt, hb.cell, Hid.out h⟩

set_option maxRecDepth 100000 in
set_option maxHeartbeats 8000000 in
theorem greatest_any {N least : Int} {vE vB v : Value} {bits : List (List Ch)} {rows : List Ch} (w : World) (hB : HR w vB bits) (hr : ∀ x ∈ bits, rightL x = true) (hl64 : bits.length ≤ 64) (hv : HC w v rows) (hrr : rightL rows = true) (hT : Tab w) :
    Calls Tryd.prog 62 #[.agg #[.int .i64 N, .int .i64 least, vE, vB], .agg #[v]] w fun e W' => e = .returned (.int .u64 (upD bits.reverse rows 0 : Nat)) ∧ Below w.heap.size w W' := by
  obtain ⟨xs, hxs, hm⟩ := digits_ex hB hr 0
  have hvB : ∃ p c, vB = .slice p bits.length c := by obtain ⟨p, c, h, -, -⟩ := Hid.out hB; exact ⟨p, c, h⟩
  obtain ⟨pv, cv, rfl, -, -⟩ := Hid.out hv
  refine (callsIn_wide (n := 9)).1 ?_
  refine callsIn_of_wp_marks Tryd.func62 rfl trivial ?_ rfl
  simp only [Tryd.ntmps62, List.size_toArray, List.length_cons, List.length_nil, Nat.reduceAdd, Nat.reduceSub, Array.replicate_succ, Array.replicate_zero, List.push_toArray, List.append_toArray, List.nil_append, List.cons_append]
  have b0 := SBox.new w 83 N least vE vB
  have b0' := b0.c0; have b1' := b0.c1; have b2' := b0.c2; have b3' := b0.c3
  gi_wp2_with (refine ⟨trivial, ?_⟩; gi_at_call 93; refine (digits_in _ _ _ _ _ 0 _).mono ?_; rintro e w' ⟨rfl, rfl⟩)
  clear b0' b1' b2' b3'
  have r1 := (((RBox.new (w.alloc (.cells #[.int .i64 N, .int .i64 least, vE, vB] 83)) (.slice pv rows.length cv)).alloc (.cells #[.int .u64 0] 41)).alloc (.cells #[.int .i64 N, .int .i64 least, vE, vB] 83)).alloc (.cells #[.int .u64 0] 41)
  have r2 := ((UBox.new ((w.alloc (.cells #[.int .i64 N, .int .i64 least, vE, vB] 83)).alloc (.cells #[.slice pv rows.length cv] 28)) 0).alloc (.cells #[.int .i64 N, .int .i64 least, vE, vB] 83)).alloc (.cells #[.int .u64 0] 41)
  have r3 := (SBox.new (((w.alloc (.cells #[.int .i64 N, .int .i64 least, vE, vB] 83)).alloc (.cells #[.slice pv rows.length cv] 28)).alloc (.cells #[.int .u64 0] 41)) 83 N least vE vB).alloc (.cells #[.int .u64 0] 41)
  have r4 := UBox.new ((((w.alloc (.cells #[.int .i64 N, .int .i64 least, vE, vB] 83)).alloc (.cells #[.slice pv rows.length cv] 28)).alloc (.cells #[.int .u64 0] 41)).alloc (.cells #[.int .i64 N, .int .i64 least, vE, vB] 83)) 0
  have r5 : Below w.heap.size w (((((w.alloc (.cells #[.int .i64 N, .int .i64 least, vE, vB] 83)).alloc (.cells #[.slice pv rows.length cv] 28)).alloc (.cells #[.int .u64 0] 41)).alloc (.cells #[.int .i64 N, .int .i64 least, vE, vB] 83)).alloc (.cells #[.int .u64 0] 41)) :=
    (((((Below.refl _ w).alloc (Nat.le_refl _) _).alloc (by simp) _).alloc (by simp; omega) _).alloc (by simp; omega) _).alloc (by simp; omega) _
  have r6 : (((((w.alloc (.cells #[.int .i64 N, .int .i64 least, vE, vB] 83)).alloc (.cells #[.slice pv rows.length cv] 28)).alloc (.cells #[.int .u64 0] 41)).alloc (.cells #[.int .i64 N, .int .i64 least, vE, vB] 83)).alloc (.cells #[.int .u64 0] 41)).heap.size = w.heap.size + 5 := by simp
  simp only [World.size_alloc] at r1 r2 r3 r4
  change UBox _ _ 0 at r2
  generalize (((((w.alloc (.cells #[.int .i64 N, .int .i64 least, vE, vB] 83)).alloc (.cells #[.slice pv rows.length cv] 28)).alloc (.cells #[.int .u64 0] 41)).alloc (.cells #[.int .i64 N, .int .i64 least, vE, vB] 83)).alloc (.cells #[.int .u64 0] 41)) = w5 at *
  refine wpIn_rangeFunc_ownH rfl (by omega) (gf := 110) (lb := #[.pointer (some ⟨w.heap.size + 1 + 1 + 1, 0, none⟩), .pointer (some ⟨w.heap.size + 1 + 1 + 1 + 1, 0, none⟩)]) rfl trivial (enters_of Tryd.func110 (by kernel_rfl) rfl)
    (digits_stops _ (by omega) (w.heap.size + 1 + 1 + 1) (w.heap.size + 1 + 1 + 1 + 1) w.heap.size (N := N) (least := least) (vE := vE) (vB := vB) (bits := bits) w w5 xs 0 (by decide) hl64 hxs r3 r4.cell r4.lt (by omega) hvB
      (fun j hj => by obtain ⟨b, off, h1, h2, h3⟩ := hm j hj; exact ⟨b, off, h1, h2, (r5.cell (p := ⟨b, _, none⟩) h2).trans h3⟩))
    (fun h k => KeepB.trans h k) (keepB_b (by omega) (by rintro b (rfl | rfl) <;> omega)) (Below.refl _ _) (fun _ => rfl)
    (LW goUp rows) (fun _ _ _ => False) (LW.own (by omega)) (fun _ _ _ _ _ hs _ _ => hs)
    ⟨_, r1, hv.later r5, r2, r5, by omega⟩
    (fun y a' W => ∃ b, RBox W b y.1.2.1 ∧ w.heap.size + 5 ≤ b ∧ a' = { tmps := #[.agg #[.int .i64 N, .int .i64 least, vE, vB], .agg #[.slice pv rows.length cv], .pointer (some ⟨w.heap.size, 0, none⟩), .pointer (some ⟨w.heap.size + 1, 0, none⟩), .int .u64 0, .pointer (some ⟨w.heap.size + 1 + 1, 0, none⟩), undef, .pointer (some ⟨b, 0, none⟩), undef, .agg #[.int .i64 N, .int .i64 least, vE, vB],
      .func (.func 110) #[] #[.pointer (some ⟨w.heap.size + 1 + 1 + 1, 0, none⟩), .pointer (some ⟨w.heap.size + 1 + 1 + 1 + 1, 0, none⟩)], .bool y.1.1, .agg #[y.1.2.1], undef, undef, undef, undef, undef, undef, undef, undef, undef, undef, undef, undef, undef, undef], defers := [] })
    (fun y a' _ W W' row ⟨b, h1, h2, h3⟩ hg hr => ⟨b, h1.own hg (fun r e => (hr r e).2), h2, h3⟩) ?assign ?body ?done ?stop
  case assign =>
    rintro l pre ⟨⟨bb, u, lb⟩, hu, hrb⟩ W K hI hK
    dsimp only at hu hrb
    obtain ⟨p, c, rfl, -, -⟩ := Hid.out hu
    have hsz : w.heap.size + 5 ≤ W.heap.size := by obtain ⟨_, _, _, _, _, h⟩ := hI; exact h
    have hbl : Below W.heap.size W (W.alloc (.cells #[.slice p lb.length c] 28)) := (Below.refl _ W).alloc (Nat.le_refl _) _
    gi_wp2
    exact hK _ _ (keepsFrom_below hbl) (keepB_below hbl (by omega) (by rintro b (rfl | rfl) <;> omega)) (hI.later hbl) ⟨_, RBox.new W _, hsz, rfl⟩
  case body =>
    rintro l pre ⟨⟨bb, u, lb⟩, hu, hrb⟩ a' W hl - hI ⟨b, hb, hb5, rfl⟩ hlt
    dsimp only at hu hrb hb ⊢
    obtain ⟨v', q1, q2, q3, q4, q5⟩ := hI
    have hrr' := goUp_right pre (rows, 0) hrr
    have hkk := goUp_lt pre (rows, 0)
    have hpw : (2 : Nat) ^ pre.length ≤ 2 ^ 63 := Nat.pow_le_pow_right (by decide) (by omega)
    have hst : (pre ++ [(⟨(bb, u, lb), hu, hrb⟩ : DX w)]).foldl goUp (rows, 0) = stepUp (pre.foldl goUp (rows, 0)) lb := by rw [List.foldl_append]; rfl
    simp only [Nat.zero_add, Nat.one_mul] at hkk
    generalize hsk : pre.foldl goUp (rows, 0) = sk at *
    obtain ⟨rw', k⟩ := sk
    dsimp only at q2 q3 hrr' hkk
    have hk63 : k < 9223372036854775808 := by
      have : (2 : Nat) ^ 63 = 9223372036854775808 := by decide
      omega
    have c3 := q3.cell
    have f3 := q3.frozen
    have hor0 := u64_or_one hk63
    obtain ⟨K2, hK2⟩ : ∃ K2 : Nat, 2 * k = K2 := ⟨_, rfl⟩
    obtain ⟨K3, hK3⟩ : ∃ K3 : Nat, 2 * k + 1 = K3 := ⟨_, rfl⟩
    rw [hK3, hK2] at hor0
    have e2 : IntKind.u64.wrap ((k : Int) * 2) = (K2 : Int) := by rw [IntKind.wrap_u64]; omega
    have hK2' := Lib.hid hK2
    have hK3' := Lib.hid hK3
    have d1 := q1.cell
    have db := hb.cell
    have d1f := q1.frozen
    have g3 := q3.set K2
    have g1 := q1.far (p := ⟨w.heap.size + 1 + 1, 0, none⟩) (by simp) (.int .u64 (K2 : Int))
    have gb := hb.far (p := ⟨w.heap.size + 1 + 1, 0, none⟩) (by simp; omega) (.int .u64 (K2 : Int))
    have g2 := q2.setU q3 (.int .u64 (K2 : Int))
    have g4 := q4.setCell (p := ⟨w.heap.size + 1 + 1, 0, none⟩) (by simp; omega) (.int .u64 (K2 : Int))
    have gs : (W.setCell ⟨w.heap.size + 1 + 1, 0, none⟩ (.int .u64 (K2 : Int))).heap.size = W.heap.size := by simp
    have glb := (hu.later q4).setU q3 (.int .u64 (K2 : Int))
    have hT1 := hT.below g4 hT.lt
    obtain ⟨pu, cu, rfl, -, -⟩ := Hid.out glb
    have hR1 := (Below.refl _ (W.setCell ⟨w.heap.size + 1 + 1, 0, none⟩ (.int .u64 (K2 : Int)))).alloc (Nat.le_refl _) (.cells #[.slice pu lb.length cu] 28)
    have hone : HR ((W.setCell ⟨w.heap.size + 1 + 1, 0, none⟩ (.int .u64 (K2 : Int))).alloc (.cells #[.slice pu lb.length cu] 28)) (.slice (some ⟨(W.setCell ⟨w.heap.size + 1 + 1, 0, none⟩ (.int .u64 (K2 : Int))).heap.size, 0, none⟩) 1 1) [lb] :=
      HR.one (glb.later hR1) (RBox.new _ _)
    have hk := Lib.hid (and_any (g2.later hR1) hone (small_right hrr') (small_right hrb) (hT1.below hR1 hT1.lt))
    rw [gs] at hk
    have s1 : KeepsFrom w5.heap.size W (W.setCell ⟨w.heap.size + 1 + 1, 0, none⟩ (.int .u64 (K2 : Int))) := keepsFrom_set (by show w.heap.size + 1 + 1 < _; omega) _
    have s2 : KeepB w.heap.size (fun b => b = w.heap.size + 1 + 1 + 1 ∨ b = w.heap.size + 1 + 1 + 1 + 1) W (W.setCell ⟨w.heap.size + 1 + 1, 0, none⟩ (.int .u64 (K2 : Int))) := keepB_set (by show _ ≤ w.heap.size + 1 + 1; omega) (by simp) _
    have s1' := Lib.hid s1
    have s2' := Lib.hid s2
    have hst' := Lib.hid hst
    have q2' := Lib.hid q2
    have q3' := Lib.hid q3
    clear s1 s2 hst hT1 glb q1 q2 hb hsk hkk hpw hK2 hK3 hk63 hlt
    have g1a := g1.later hR1
    have g3a := g3.later hR1
    have g4a := g4.trans (hR1.mono g4.size)
    have gsa : ((W.setCell ⟨w.heap.size + 1 + 1, 0, none⟩ (.int .u64 (K2 : Int))).alloc (.cells #[.slice pu lb.length cu] 28)).heap.size = W.heap.size + 1 := by simp
    have hR1' := Lib.hid hR1
    clear hR1
    gi_wp2_with (refine ⟨trivial, ?_⟩; gi_at_call 49; refine (callsIn_wide.2 hk.out).mono ?_; rintro e W2 ⟨v2, rfl, hv2, hb2⟩; obtain ⟨p2, cp2, rfl, -, -⟩ := Hid.out hv2; have y1 := (RBox.new W2 (.slice p2 (andL rw' lb).length cp2)).cell; have y3 := ((g3a.later hb2).alloc (.cells #[.slice p2 (andL rw' lb).length cp2] 28)).cell; have yf3 := ((g3a.later hb2).alloc (.cells #[.slice p2 (andL rw' lb).length cp2] 28)).frozen; have yf1 := ((g1a.later hb2).alloc (.cells #[.slice p2 (andL rw' lb).length cp2] 28)).frozen; have yc1 := ((g1a.later hb2).alloc (.cells #[.slice p2 (andL rw' lb).length cp2] 28)).cell)
    · rename_i hpos
      have hfin : Hid (ownPostG w5.heap.size (KeepB w.heap.size fun b => b = w.heap.size + 1 + 1 + 1 ∨ b = w.heap.size + 1 + 1 + 1 + 1) (LW goUp rows) (fun _ _ _ => False) (pre ++ [(⟨(bb, .slice pu lb.length cu, lb), hu, hrb⟩ : DX w)]) W Exit.normal { tmps := #[], defers := [] } (((W2.alloc (.cells #[.slice p2 (andL rw' lb).length cp2] 28)).setCell ⟨w.heap.size + 1, 0, none⟩ (.slice p2 (andL rw' lb).length cp2)).setCell ⟨w.heap.size + 1 + 1, 0, none⟩ (.int .u64 (K3 : Int))).drew) := by
        have hb3 := hb2.alloc hb2.size (.cells #[.slice p2 (andL rw' lb).length cp2] 28)
        have g1l := (g1a.later hb2).alloc (.cells #[.slice p2 (andL rw' lb).length cp2] 28)
        have g3l := (g3a.later hb2).alloc (.cells #[.slice p2 (andL rw' lb).length cp2] 28)
        have hvl := hv2.alloc (.cells #[.slice p2 (andL rw' lb).length cp2] 28)
        have hB4 := g4a.trans (hb3.mono g4a.size)
        have hsz := hb3.size
        rw [gsa] at hsz
        have he : andL rw' lb ≠ [] := fun e => by rw [e] at hpos; simp at hpos
        have n1 := g1l.set (.slice p2 (andL rw' lb).length cp2)
        have n3 := g3l.far (p := ⟨w.heap.size + 1, 0, none⟩) (by simp) (.slice p2 (andL rw' lb).length cp2)
        have n2 := hvl.setR g1l (.slice p2 (andL rw' lb).length cp2)
        have n4 := hB4.setCell (p := ⟨w.heap.size + 1, 0, none⟩) (by simp) (.slice p2 (andL rw' lb).length cp2)
        have kf := ((s1'.out.trans (keepsFrom_below hR1'.out)).trans (keepsFrom_below hb3)).trans ((keepsFrom_set (W := W2.alloc (.cells #[.slice p2 (andL rw' lb).length cp2] 28)) (p := ⟨w.heap.size + 1, 0, none⟩) (by show w.heap.size + 1 < _; omega) (.slice p2 (andL rw' lb).length cp2)).trans (keepsFrom_set (p := ⟨w.heap.size + 1 + 1, 0, none⟩) (by show w.heap.size + 1 + 1 < _; omega) (.int .u64 (K3 : Int))))
        have kb := KeepB.trans (KeepB.trans (KeepB.trans s2'.out (keepB_below hR1'.out (by rw [gs]; omega) (by rintro b (rfl | rfl) <;> rw [gs] <;> omega))) (keepB_below hb3 (by rw [gsa]; omega) (by rintro b (rfl | rfl) <;> rw [gsa] <;> omega)))
          (KeepB.trans (keepB_set (W := W2.alloc (.cells #[.slice p2 (andL rw' lb).length cp2] 28)) (p := ⟨w.heap.size + 1, 0, none⟩) (by show _ ≤ w.heap.size + 1; omega) (by show ¬ (w.heap.size + 1 = _ ∨ w.heap.size + 1 = _); omega) (.slice p2 (andL rw' lb).length cp2)) (keepB_set (p := ⟨w.heap.size + 1 + 1, 0, none⟩) (by show _ ≤ w.heap.size + 1 + 1; omega) (by show ¬ (w.heap.size + 1 + 1 = _ ∨ w.heap.size + 1 + 1 = _); omega) (.int .u64 (K3 : Int))))
        refine ⟨⟨kf.size, kf.same⟩, ⟨kb.1.drew, kb.2⟩, ?_⟩
        refine LW.later ?_ ((Below.refl _ (((W2.alloc (.cells #[.slice p2 (andL rw' lb).length cp2] 28)).setCell ⟨w.heap.size + 1, 0, none⟩ (.slice p2 (andL rw' lb).length cp2)).setCell ⟨w.heap.size + 1 + 1, 0, none⟩ (.int .u64 (K3 : Int)))).drew)
        unfold LW
        rw [hst'.out]
        unfold stepUp
        rw [if_neg he, hK3'.out]
        exact ⟨_, n1.far (p := ⟨w.heap.size + 1 + 1, 0, none⟩) (by simp) _, n2.setU n3 _, n3.set K3, n4.setCell (p := ⟨w.heap.size + 1 + 1, 0, none⟩) (by show _ ≤ w.heap.size + 1 + 1; omega) _, by simp at hsz ⊢; omega⟩
      gi_region
      all_goals exact hfin.out
    · rename_i hpos
      have hb3 := hb2.alloc hb2.size (.cells #[.slice p2 (andL rw' lb).length cp2] 28)
      have g1l := (g1a.later hb2).alloc (.cells #[.slice p2 (andL rw' lb).length cp2] 28)
      have g3l := (g3a.later hb2).alloc (.cells #[.slice p2 (andL rw' lb).length cp2] 28)
      have hB4 := g4a.trans (hb3.mono g4a.size)
      have hsz := hb3.size
      rw [gsa] at hsz
      have he : andL rw' lb = [] := by
        cases hw : andL rw' lb with
        | nil => rfl
        | cons x t => rw [hw] at hpos; exact absurd (by simp) hpos
      have hvo := (((q2'.out.setU q3'.out (.int .u64 (K2 : Int))).later hR1'.out).later hb3)
      refine ⟨(s1'.out.trans (keepsFrom_below hR1'.out)).trans (keepsFrom_below hb3), KeepB.trans (KeepB.trans s2'.out (keepB_below hR1'.out (by rw [gs]; omega) (by rintro b (rfl | rfl) <;> rw [gs] <;> omega))) (keepB_below hb3 (by rw [gsa]; omega) (by rintro b (rfl | rfl) <;> rw [gsa] <;> omega)), ?_⟩
      unfold LW
      rw [hst'.out]
      unfold stepUp
      rw [if_pos he, hK2'.out]
      exact ⟨_, g1l, hvo, g3l, hB4, by simp at hsz ⊢; omega⟩
  case done =>
    rintro D ys W hD rfl ⟨v', h1, h2, h3, h4, h5⟩ hK
    have hc := h3.cell
    gi_wp2
    refine ⟨by simp, .inl ⟨_, _, rfl, run_takeDeferred hK, ?_⟩⟩
    refine ⟨_, results_tmp rfl _ _ _, ?_, h4.trans (belowK_b (w := w) (Nat.le_refl _) W D _ _ (by omega) hK rfl rfl)⟩
    rw [upD_fold, ← digits_lists hxs, ← fold_map stepUp goUp (fun _ _ => rfl)]
    rfl
  case stop =>
    intro D c pre W _ _ h
    exact h.elim
end Go.Proofs.YtnigpmbpipmgfaaDoor
