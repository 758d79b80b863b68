/-
  Rb0, Rb1: several texts in one (merge.py).
-/
import Derived.Test.YtnigpmbpipmgfaaDoorBsU

/-
  For the reference's Build, the law's Cut: a struct written field by field; digits in plain.
-/
namespace Go.Proofs.YtnigpmbpipmgfaaDoor
open Go.RowKit Tess

theorem SBox.setE {W : World} {t : TypeId} {b : Nat} {n least : Int} {vE vB : Value} (h : SBox W t b n least vE vB) (u : Value) : SBox (W.setCell ⟨b, 2, none⟩ u) t b n least u vB := by
  unfold SBox at *
  rw [Go.heap_setCell_same W b 2 _ _ u h]
  simp
theorem row_set4 {W : World} {base : Nat} {v : Value} {ls : List (List Ch)} {t : TypeId} {b : Nat} {n least : Int} {vE vB : Value} (h : RowR W base v ls) (hx : SBox W t b n least vE vB) (hE : ∃ p m c, vE = .slice p m c) (hB : ∃ p m c, vB = .slice p m c) (hlt : b < base) (n' least' : Int) {vE' : Value} (hE' : ∃ p m c, vE' = .slice p m c) (vB' : Value) :
    RowR ((((W.setCell ⟨b, 0, none⟩ (.int .i64 n')).setCell ⟨b, 1, none⟩ (.int .i64 least')).setCell ⟨b, 2, none⟩ vE').setCell ⟨b, 3, none⟩ vB') base v ls := by
  have s1 : SBox (W.setCell ⟨b, 0, none⟩ (.int .i64 n')) t b n' least vE vB := by
    unfold SBox at *
    rw [Go.heap_setCell_same W b 0 _ _ (.int .i64 n') hx]; simp
  have s2 : SBox ((W.setCell ⟨b, 0, none⟩ (.int .i64 n')).setCell ⟨b, 1, none⟩ (.int .i64 least')) t b n' least' vE vB := by
    unfold SBox at *
    rw [Go.heap_setCell_same _ b 1 _ _ (.int .i64 least') s1]; simp
  have s3 := s2.setE vE'
  exact (((h.setS (i := 0) hx hE hB hlt _).setS (i := 1) s1 hE hB hlt _).setS (i := 2) s2 hE hB hlt _).setS (i := 3) s3 hE' hB hlt _
/-- Is a digit left? -/
theorem any_dig {l : List Int} {hs : List Bool} (k : Nat) : (idxB hs).any (fun i => decide (upBy l hs i / 2 ^ k ≠ 0)) = decide (k < digN l hs) := by
  have hhs := hiS_spec (vI l) (idxB hs)
  have hd : digN l hs ≤ k ↔ (hiS (vI l) (idxB hs) - loS (vI l) (idxB hs)).toNat < 2 ^ k := lenB_le
  have hz : ∀ x : Nat, x / 2 ^ k ≠ 0 ↔ 2 ^ k ≤ x := fun x => by
    have hp := Nat.pow_pos (n := k) (show 0 < 2 by decide)
    constructor
    · intro h
      by_cases hx : x < 2 ^ k
      · exact absurd (Nat.div_eq_of_lt hx) h
      · omega
    · intro h e
      have := (Nat.div_eq_zero_iff).1 e
      omega
  rw [Bool.eq_iff_iff, List.any_eq_true, decide_eq_true_eq]
  constructor
  · rintro ⟨i, hi, h⟩
    rw [decide_eq_true_eq, hz] at h
    have := upBy_le (l := l) hi
    have : ¬ digN l hs ≤ k := fun hh => by have := hd.1 hh; omega
    omega
  · intro h
    have h1 : ¬ (hiS (vI l) (idxB hs) - loS (vI l) (idxB hs)).toNat < 2 ^ k := fun hh => by have := hd.2 hh; omega
    have hne : idxB hs ≠ [] := fun e => by
      rw [e] at h1
      exact h1 (Nat.pow_pos (by decide))
    obtain ⟨c, hc, ec⟩ := hhs.1 hne
    refine ⟨c, hc, ?_⟩
    rw [decide_eq_true_eq, hz]
    unfold upBy
    rw [ec]
    omega
theorem dig64 {l : List Int} {hs : List Bool} (hrg : ∀ i, -9223372036854775808 ≤ vI l i ∧ vI l i ≤ 9223372036854775807) : digN l hs ≤ 64 ∧ ∀ i ∈ idxB hs, upBy l hs i < 18446744073709551616 ∧ IntKind.u64.wrap (IntKind.u64.wrap (vI l i) - IntKind.u64.wrap (loS (vI l) (idxB hs))) = (upBy l hs i : Int) := by
  have hls := loS_spec (vI l) (idxB hs)
  have hhs := hiS_spec (vI l) (idxB hs)
  have h64 : (2 : Nat) ^ 64 = 18446744073709551616 := by decide
  refine ⟨lenB_le.2 ?_, fun i hi => ?_⟩
  · by_cases he : idxB hs = []
    · rw [he, loS_nil, hiS_nil]; decide
    · obtain ⟨a, ha, ea⟩ := hls.1 he
      obtain ⟨c, hc, ec⟩ := hhs.1 he
      have := hrg a; have := hrg c
      omega
  · have he : idxB hs ≠ [] := fun e => by rw [e] at hi; cases hi
    obtain ⟨a, ha, ea⟩ := hls.1 he
    have := hrg a; have := hrg i
    have := hls.2 i hi
    unfold upBy
    rw [IntKind.wrap_u64, IntKind.wrap_u64, IntKind.wrap_u64]
    omega
theorem idxTo_all {hs : List Bool} {k : Nat} (h : k = hs.length) : idxTo hs k = idxB hs := by subst h; rfl
theorem idxTo_le (hs : List Bool) (k : Nat) : (idxTo hs k).length ≤ k := by
  have := List.length_filter_le (fun i => hs[i]?.getD false) (List.range k)
  rw [List.length_range] at this
  exact this
end Go.Proofs.YtnigpmbpipmgfaaDoor

/-
  The reference's Build. (Printed by genrb.py.)
-/
namespace Go.Proofs.YtnigpmbpipmgfaaDoor
open Go.RowKit Tess

set_option linter.unusedSimpArgs false in
set_option maxRecDepth 100000 in
set_option maxHeartbeats 8000000 in
theorem rbuild_any {l : List Int} {hs : List Bool} {lv sv : Value} {w : World} (hl : Ints w.heap.size w lv l) (hb : BoolsAt w.heap.size w sv hs) (hrg : ∀ i, -9223372036854775808 ≤ vI l i ∧ vI l i ≤ 9223372036854775807) :
    Calls Tryd.prog 20 #[lv, sv] w fun e W' => ∃ vE vB, e = .returned (.tuple #[.agg #[.int .i64 (buildB l hs).1.n, .int .i64 (buildB l hs).1.least, vE, vB], .int .i64 (buildB l hs).2]) ∧ HC W' vE (buildB l hs).1.ex ∧ HR W' vB (buildB l hs).1.bits ∧ Below w.heap.size w W' := by
  obtain ⟨i0, hi, hz0, hz1, hz2⟩ := info_parts info_int
  obtain ⟨ir, hir, hr0, hr1, hr2⟩ := info_parts info_roar
  obtain ⟨pl, cl, rfl, hcell⟩ := hl.slice
  obtain ⟨ph, ch, rfl, hbc⟩ := hb
  have hcell' := Lib.hid hcell
  have hbc' := Lib.hid hbc
  have r0 := SBox.new w 31 0 0 (.slice none 0 0) (.slice none 0 0)
  have hR : Below w.heap.size w (w.alloc (.cells #[.int .i64 0, .int .i64 0, .slice none 0 0, .slice none 0 0] 31)) := (Below.refl _ w).alloc (Nat.le_refl _) _
  have hsz1 : w.heap.size < (w.alloc (.cells #[.int .i64 0, .int .i64 0, .slice none 0 0, .slice none 0 0] 31)).heap.size := by rw [World.size_alloc]; omega
  clear hl hcell hbc
  by_cases hok : l.length ≤ 1000 ∧ l.length = hs.length
  · have eB : buildB l hs = (mkB l hs, 0) := if_pos hok
    rw [eB]
    clear eB
    show Calls _ _ _ _ fun e W' => ∃ vE vB, e = .returned (.tuple #[.agg #[.int .i64 (l.length : Int), .int .i64 (loS (vI l) (idxB hs)), vE, vB], .int .i64 0]) ∧ HC W' vE (mkN (idxB hs)) ∧ HR W' vB ((List.range (digN l hs)).map fun k => mkN (rowsD l hs k)) ∧ Below w.heap.size w W'
    obtain ⟨hk1, hk2⟩ := hok
    have hk2' := Lib.hid hk2
    have g1 : decide (1000 < l.length) = false := decide_eq_false (by omega)
    have g2 : decide ((1000 : Int) < (l.length : Int)) = false := decide_eq_false (by omega)
    have g3 : ((l.length : Int) != (hs.length : Int)) = false := by rw [hk2]; simp
    have g4 : decide ((l.length : Int) > 1000) = false := decide_eq_false (by omega)
    clear hk2
    have hdg := Lib.hid (dig64 (hs := hs) hrg)
    have hany := Lib.hid (@any_dig l hs)
    have hrg' := Lib.hid hrg
    clear hrg
    go_enter Tryd.func20, Tryd.ntmps20
    go_wp2
    have r1 := Lib.hid r0
    have hR1 := Lib.hid hR
    have hS1 := Lib.hid hsz1
    clear r0 hR hsz1 g1 g2 g3 g4
    generalize w.alloc (.cells #[.int .i64 0, .int .i64 0, .slice none 0 0, .slice none 0 0] 31) = W1 at *
    go_loopw [6, 7, 8] (fun v le i wr => ∃ k : Nat, k ≤ l.length ∧ i = .int .i64 k ∧ le = .int .i64 (loS (vI l) (idxTo hs k)) ∧ Hid (wr.ownsRow W1.heap.size 3 1 v (idxTo hs k).length ((idxTo hs k).map fun n : Nat => .int .i64 (n : Int))) ∧ Hid (Below W1.heap.size W1 wr))
      (fun _ _ i _ => l.length - (intOf i).toNat)
    case atStart => exact ⟨0, Nat.zero_le _, rfl, rfl, World.ownsRow_nil _ _ _ _, Lib.hid (Below.refl _ _)⟩
    case round =>
      obtain ⟨k, hk, rfl, rfl, hrow, hB⟩ := hrel
      have hBw := Lib.hid (hR1.out.trans (hB.out.mono hR1.out.size))
      have hil := Lib.hid (idxTo_le hs k)
      by_cases hlt : k < l.length
      · have hkd : decide ((k : Int) < (l.length : Int)) = true := decide_eq_true (by omega)
        have hkd2 : decide (k < l.length) = true := decide_eq_true hlt
        have hkh : (k : Int) < (hs.length : Int) := by have := hk2'.out; omega
        have hkl : (k : Int) < (l.length : Int) := by omega
        obtain ⟨b, off, rfl, hb1, d1⟩ := hcell'.out k hlt
        obtain ⟨b', off', rfl, hb2, d2⟩ := hbc'.out k (by have := hk2'.out; omega)
        have z1 : wr.cell? ⟨b, off + k, none⟩ = some (.int .i64 (vI l k)) := (hBw.out.cell (p := ⟨b, off + k, none⟩) hb1).trans d1
        have z2 := (hBw.out.cell (p := ⟨b', off' + k, none⟩) hb2).trans d2
        have hyes := Lib.hid (@idxTo_yes hs k)
        have hno := Lib.hid (@idxTo_no hs k)
        have hsz := Lib.hid hB.out.size
        have hls := Lib.hid (fun h => @loS_snoc (vI l) (idxTo hs k) h k)
        obtain ⟨lo, hlo⟩ : ∃ z, loS (vI l) (idxTo hs k) = z := ⟨_, rfl⟩
        obtain ⟨x, hx⟩ : ∃ z, vI l k = z := ⟨_, rfl⟩
        rw [hlo] at hls ⊢
        rw [hx] at hls z1
        have hlx := Lib.hid (show loS (vI l) [k] = x by rw [loS_one, hx])
        obtain ⟨px, cx, rfl⟩ := row_slice hrow.out
        have hrow' := hrow.out
        have hlo' := Lib.hid hlo
        clear d1 d2 hb1 hb2 hcell' hbc' hx hlo
        generalize hs[k]?.getD false = t at *
        cases t with
        | false =>
          have hst := Lib.hid (hno.out rfl)
          clear hyes hno
          go_wp2
          go_roundw
          case rel => exact ⟨k + 1, by omega, by go_num, by rw [hst.out, hlo'.out], by rw [hst.out]; exact hrow, hB⟩
          case measure => simp [intOf]; omega
        | true =>
          have hst := Lib.hid (hyes.out rfl)
          clear hyes hno
          obtain ⟨xs, hxs⟩ : ∃ z, idxTo hs k = z := ⟨_, rfl⟩
          rw [hxs] at hst hls hrow' hil ⊢
          clear hxs hrow
          cases xs with
          | nil =>
            go_wp2_with (at_builtin; refine wpList_append_own _ rfl _ _ 24 rfl W1.heap.size 3 i0 (.int .i64 0) 1 8 Tryd.underlying24 hi hz0 hz1 hz2 rfl (by decide) _ _ _ rfl (hrow'.alloc _) ⟨wr.heap.size, 0, none⟩ 1 1 [.int .i64 (k : Int)] rfl rfl (cell_one_new _ _ _) (ints_one _) (by have := hil.out; unfold maxLen; omega) (by have := hil.out; omega) (by simp; have := hsz.out; omega) ?_; intro v' w1 hown' hgrow _)
            have hne' : ∀ g, Value.ownBlock _ = some g → W1.heap.size ≤ g := fun g hg => ((hrow'.lt) g hg).1
            have hBB := Lib.hid ((hB.out.alloc hB.out.size (.cells #[.int .i64 (k : Int)] 3)).grown hgrow (by simp; have := hB.out.size; omega) (fun g hg => hne' g hg))
            go_roundw
            case rel => exact ⟨k + 1, by omega, by go_num, by rw [hst.out]; exact congrArg (Value.int .i64) hlx.out.symm, by rw [hst.out, List.length_append, List.map_append]; exact hown', hBB⟩
            case measure => simp [intOf]; omega
          | cons a xs =>
            have hne : ((((a :: xs).length : Nat) : Int) == 0) = false := by simp; omega
            have hls2 := hls.out (by simp)
            generalize hys : a :: xs = ys at *
            by_cases hle : x < lo
            · rw [if_pos hle] at hls2
              have hd : decide (x < lo) = true := decide_eq_true hle
              go_wp2_with (at_builtin; refine wpList_append_own _ rfl _ _ 24 rfl W1.heap.size 3 i0 (.int .i64 0) 1 8 Tryd.underlying24 hi hz0 hz1 hz2 rfl (by decide) _ _ _ rfl (hrow'.alloc _) ⟨wr.heap.size, 0, none⟩ 1 1 [.int .i64 (k : Int)] rfl rfl (cell_one_new _ _ _) (ints_one _) (by have := hil.out; unfold maxLen; omega) (by have := hil.out; omega) (by simp; have := hsz.out; omega) ?_; intro v' w1 hown' hgrow _)
              have hne' : ∀ g, Value.ownBlock _ = some g → W1.heap.size ≤ g := fun g hg => ((hrow'.lt) g hg).1
              have hBB := Lib.hid ((hB.out.alloc hB.out.size (.cells #[.int .i64 (k : Int)] 3)).grown hgrow (by simp; have := hB.out.size; omega) (fun g hg => hne' g hg))
              go_roundw
              case rel => exact ⟨k + 1, by omega, by go_num, by rw [hst.out]; exact congrArg (Value.int .i64) hls2.symm, by rw [hst.out, List.length_append, List.map_append]; exact hown', hBB⟩
              case measure => simp [intOf]; omega
            · rw [if_neg hle] at hls2
              have hd : decide (x < lo) = false := decide_eq_false hle
              go_wp2_with (at_builtin; refine wpList_append_own _ rfl _ _ 24 rfl W1.heap.size 3 i0 (.int .i64 0) 1 8 Tryd.underlying24 hi hz0 hz1 hz2 rfl (by decide) _ _ _ rfl (hrow'.alloc _) ⟨wr.heap.size, 0, none⟩ 1 1 [.int .i64 (k : Int)] rfl rfl (cell_one_new _ _ _) (ints_one _) (by have := hil.out; unfold maxLen; omega) (by have := hil.out; omega) (by simp; have := hsz.out; omega) ?_; intro v' w1 hown' hgrow _)
              have hne' : ∀ g, Value.ownBlock _ = some g → W1.heap.size ≤ g := fun g hg => ((hrow'.lt) g hg).1
              have hBB := Lib.hid ((hB.out.alloc hB.out.size (.cells #[.int .i64 (k : Int)] 3)).grown hgrow (by simp; have := hB.out.size; omega) (fun g hg => hne' g hg))
              go_roundw
              case rel => exact ⟨k + 1, by omega, by go_num, by rw [hst.out]; exact congrArg (Value.int .i64) hls2.symm, by rw [hst.out, List.length_append, List.map_append]; exact hown', hBB⟩
              case measure => simp [intOf]; omega
      · have hkd : decide ((k : Int) < (l.length : Int)) = false := decide_eq_false (by omega)
        have hkd2 : decide (k < l.length) = false := decide_eq_false hlt
        have hxx := idxTo_all (hs := hs) (k := k) (by have := hk2'.out; omega)
        have hlen : Hid ((idxB hs).length ≤ 1000) := by have := hil.out; rw [hxx] at this; show _ ≤ _; omega
        rw [hxx] at hrow ⊢
        have hIall := Lib.hid (ints_of_row (zs := (idxB hs).map Int.ofNat) hrow.out (by rw [List.map_map]; rfl))
        obtain ⟨px, cx, rfl⟩ := row_slice hrow.out
        obtain ⟨lo, hlo⟩ : ∃ z, loS (vI l) (idxB hs) = z := ⟨_, rfl⟩
        obtain ⟨dn, hdn⟩ : ∃ z, digN l hs = z := ⟨_, rfl⟩
        have hlo' := Lib.hid hlo
        have hdn' := Lib.hid hdn
        rw [hlo, hdn] at hdg
        rw [hlo]
        rw [hdn] at hany
        have hd64 := Lib.hid hdg.out.1
        have hupF := Lib.hid hdg.out.2
        have kM : Hid (∀ W', Below wr.heap.size wr W' → Calls Tryd.prog 54 #[.slice px (idxB hs).length cx] W' fun e W'' => ∃ er u, e = .returned (.tuple #[.agg #[u], .int .i64 er]) ∧ HC W'' u (mkN (idxB hs)) ∧ Below W'.heap.size W' W'') := fun W' h =>
          (rmake7_any ((hIall.out.below h (Nat.le_refl _)).more h.size) (by rw [List.length_map]; have := hlen.out; omega)).mono fun _ _ ⟨u, h1, h2, h3⟩ => ⟨_, u, h1, h2, h3⟩
        obtain ⟨dgs, hdgs⟩ : ∃ dgs : Nat → List (List Ch), dgs = fun k => (List.range k).map fun k => mkN (rowsD l hs k) := ⟨_, rfl⟩
        have hdl : Hid (∀ k, (dgs k).length = k ∧ dgs (k + 1) = dgs k ++ [mkN (rowsD l hs k)]) := fun k => by
          subst hdgs
          exact ⟨by simp, by simp [List.range_succ]⟩
        have hdgs' := Lib.hid hdgs
        clear hdgs hxx hrow hil hdg hlo hdn hlt
        have hA9 := (Below.refl _ wr).alloc (Nat.le_refl _) (.cells #[.int .i64 (l.length : Int), .int .i64 lo, .slice none 0 0, .slice none 0 0] 31)
        have x9 := Lib.hid (SBox.new wr 31 (l.length : Int) lo (.slice none 0 0) (.slice none 0 0))
        have hA9' := Lib.hid hA9
        clear hA9
        go_wp2_with (go_at_call 54; refine (kM.out _ hA9'.out).mono ?_; rintro e W2 ⟨er, u, rfl, hu2, hb2⟩; obtain ⟨pu, cu, rfl, -, -⟩ := Hid.out hu2; have y9 := x9.out.later hb2; have c2 := y9.c2; have f2 := y9.frozen 2)
        have hB3 := Lib.hid ((hA9'.out.trans (hb2.mono hA9'.out.size)).setCell (p := ⟨wr.heap.size, 2, none⟩) (Nat.le_refl _) (.slice pu (mkN (idxB hs)).length cu))
        have hu3 := Lib.hid (hu2.setS (i := 2) y9 ⟨_, _, _, rfl⟩ ⟨_, _, _, rfl⟩ (.slice pu (mkN (idxB hs)).length cu))
        have x3 := Lib.hid (y9.setE (.slice pu (mkN (idxB hs)).length cu))
        clear c2 f2 y9 hu2 hb2 x9 hA9' kM
        generalize W2.setCell ⟨wr.heap.size, 2, none⟩ (.slice pu (mkN (idxB hs)).length cu) = W3 at *
        obtain ⟨Wm, rfl⟩ : ∃ V, V = wr := ⟨_, rfl⟩
        have hB1 := hB
        have hBw1 := hBw
        have hb9 : Hid (Wm.heap.size < W3.heap.size) := x3.out.lt
        clear hB hBw
        go_loopw [10] (fun i wr => ∃ (k : Nat) (vb : Value), k ≤ dn ∧ i = .int .i64 k ∧ Hid (SBox wr 31 Wm.heap.size (l.length : Int) lo (.slice pu (mkN (idxB hs)).length cu) vb) ∧ Hid (HC wr (.slice pu (mkN (idxB hs)).length cu) (mkN (idxB hs))) ∧ Hid (RowR wr W3.heap.size vb (dgs k)) ∧ Hid (Below Wm.heap.size Wm wr) ∧ Hid (W3.heap.size ≤ wr.heap.size))
          (fun i _ => 64 - (intOf i).toNat)
        case atStart => exact ⟨0, _, Nat.zero_le _, rfl, x3, hu3, (by have := hdgs'.out; show RowR _ _ _ _; rw [this]; exact RowR.nil _ _), hB3, Lib.hid (Nat.le_refl _)⟩
        case round =>
          obtain ⟨k, vb, hkn, rfl, hbx, hu, hrw, hB, hsz⟩ := hrel
          clear hkd hkd2 hk
          have hua : Hid (∀ {x : Nat}, mkN (idxB hs) ≠ [] → Value.ownBlock (.slice pu (mkN (idxB hs)).length cu) = some x → x < W3.heap.size) := fun hne hx => hc_block hu3.out hne hx
          by_cases h64 : k < 64
          · have hkd : decide ((k : Int) < 64) = true := decide_eq_true (by omega)
            go_wp2
            obtain ⟨wo, rfl⟩ : ∃ V, V = wr := ⟨_, rfl⟩
            have hanyk := Lib.hid (hany.out k)
            go_loopw [11, 12, 13] (fun v11 mo j wi => ∃ m : Nat, m ≤ (idxB hs).length ∧ j = .int .i64 m ∧ mo = .bool (((idxB hs).take m).any fun i => decide (upBy l hs i / 2 ^ k ≠ 0)) ∧ Hid (wi.ownsRow wo.heap.size 3 1 v11 (((idxB hs).take m).filter fun i => (upBy l hs i).testBit k).length ((((idxB hs).take m).filter fun i => (upBy l hs i).testBit k).map fun n : Nat => .int .i64 (n : Int))) ∧ Hid (Below wo.heap.size wo wi))
              (fun _ _ j _ => (idxB hs).length - (intOf j).toNat)
            case atStart => exact ⟨0, Nat.zero_le _, rfl, rfl, World.ownsRow_nil _ _ _ _, Lib.hid (Below.refl _ _)⟩
            case round =>
              obtain ⟨m, hm, rfl, rfl, hr11, hBi⟩ := hrel
              by_cases hmt : m < (idxB hs).length
              · have hmd : decide (m < (idxB hs).length) = true := decide_eq_true hmt
                have hmd2 : decide ((m : Int) < ((idxB hs).length : Int)) = true := decide_eq_true (by omega)
                obtain ⟨pa, ca, hpa, hca⟩ := Ints.slice hIall.out
                simp only [Value.slice.injEq] at hpa
                obtain ⟨rfl, -, rfl⟩ := hpa
                obtain ⟨ba, oa, rfl, hba, hcc⟩ := hca m (by rw [List.length_map]; exact hmt)
                obtain ⟨i, hi'⟩ : ∃ i, (idxB hs)[m] = i := ⟨_, rfl⟩
                have him : i ∈ idxB hs := by rw [← hi']; exact List.getElem_mem hmt
                have hcv : ((idxB hs).map Int.ofNat)[m]?.getD 0 = (i : Int) := by simp [hmt, hi']
                rw [hcv] at hcc
                have hBz := hB.out.trans (hBi.out.mono hB.out.size)
                have hcm := (hBz.cell (p := ⟨ba, oa + m, none⟩) hba).trans hcc
                have hil : i < l.length := by have := idxB_lt him; have := hk2'.out; omega
                obtain ⟨b, off, rfl, hbw, hlc⟩ := hcell'.out i hil
                have hlm : wr.cell? ⟨b, off + i, none⟩ = some (.int .i64 (vI l i)) := ((hBw1.out.trans (hBz.mono hBw1.out.size)).cell (p := ⟨b, off + i, none⟩) hbw).trans hlc
                obtain ⟨hu64, hup⟩ := hupF.out i him
                obtain ⟨x, hx⟩ : ∃ x, vI l i = x := ⟨_, rfl⟩
                rw [hx] at hlm hup
                obtain ⟨U, hU⟩ : ∃ U, upBy l hs i = U := ⟨_, rfl⟩
                rw [hU] at hup hu64
                have hst : Hid ((((idxB hs).take (m + 1)).filter fun i => (upBy l hs i).testBit k) = (((idxB hs).take m).filter fun i => (upBy l hs i).testBit k) ++ if U.testBit k = true then [i] else []) := by
                  show _ = _
                  rw [List.take_succ_eq_append_getElem hmt, List.filter_append, hi']
                  congr 1
                  rw [List.filter_cons, List.filter_nil, hU]
                have hmo : Hid ((((idxB hs).take (m + 1)).any fun i => decide (upBy l hs i / 2 ^ k ≠ 0)) = ((((idxB hs).take m).any fun i => decide (upBy l hs i / 2 ^ k ≠ 0)) || decide (U / 2 ^ k ≠ 0))) := by
                  show _ = _
                  rw [List.take_succ_eq_append_getElem hmt, List.any_append, hi']
                  congr 1
                  rw [List.any_cons, List.any_nil, Bool.or_false, hU]
                have hmk : min k 64 = k := Nat.min_eq_left (by omega)
                have e1 : ((U : Int) / 2 ^ k) = ((U / 2 ^ k : Nat) : Int) := by simp
                have htn : U.testBit k = true → U / 2 ^ k ≠ 0 := fun h e => by
                  rw [Nat.testBit_eq_decide_div_mod_eq, e] at h; cases h
                have htq : U.testBit k = decide (U / 2 ^ k % 2 = 1) := Nat.testBit_eq_decide_div_mod_eq
                obtain ⟨Q, hQ⟩ : ∃ z, U / 2 ^ k = z := ⟨_, rfl⟩
                have hQ64 : Q < 18446744073709551616 := by rw [← hQ]; exact Nat.lt_of_le_of_lt (Nat.div_le_self _ _) hu64
                rw [hQ] at e1 hmo htn htq
                obtain ⟨tb, htb⟩ : ∃ tb, U.testBit k = tb := ⟨_, rfl⟩
                obtain ⟨mo, hmoo⟩ : ∃ z, (((idxB hs).take m).any fun i => decide (upBy l hs i / 2 ^ k ≠ 0)) = z := ⟨_, rfl⟩
                rw [hmoo] at hmo ⊢
                rw [htb] at hst htn htq
                have hil2 : (i : Int) < (l.length : Int) := by omega
                have hr11' := hr11.out
                have hle : Hid ((((idxB hs).take m).filter fun i => (upBy l hs i).testBit k).length ≤ 1000) := by
                  show _ ≤ _
                  refine Nat.le_trans (List.length_filter_le _ _) ?_
                  rw [List.length_take]
                  have := hlen.out; omega
                have hmb : m ≤ 1000 := by have := hlen.out; omega
                have hszi := Lib.hid hBi.out.size
                have n1 : ((Q : Int) % 2 == 1) = tb := by
                  rw [htq]
                  by_cases h : Q % 2 = 1
                  · rw [decide_eq_true h, beq_iff_eq]; omega
                  · rw [decide_eq_false h, beq_eq_false_iff_ne]; omega
                have n2 : ((Q : Int).tmod 2 == 1) = tb := by rw [← n1, Int.tmod_eq_emod_of_nonneg (by omega)]
                clear hi' him hcv hcc hlc hx hU htb htq hBz hbw hba hil hca hmoo
                cases tb with
                | true =>
                  have hq0 := htn rfl
                  rw [decide_eq_true hq0] at hmo
                  have n3 : ((Q : Int) != 0) = true := by simp; omega
                  have n4 : ((Q : Int) == 0) = false := by simp; omega
                  rw [if_pos rfl] at hst
                  cases mo with
                  | true =>
                    go_wp2_with (at_builtin; refine wpList_append_own _ rfl _ _ 24 rfl wo.heap.size 3 i0 (.int .i64 0) 1 8 Tryd.underlying24 hi hz0 hz1 hz2 rfl (by decide) _ _ _ rfl (hr11'.alloc _) ⟨wr.heap.size, 0, none⟩ 1 1 [.int .i64 (i : Int)] rfl rfl (cell_one_new _ _ _) (ints_one _) (by have := hle.out; unfold maxLen; omega) (by have := hle.out; omega) (by have := hszi.out; simp; omega) ?_; intro v' w1 hown' hgrow _)
                    have hne : ∀ g, Value.ownBlock _ = some g → wo.heap.size ≤ g := fun g hg => ((hr11'.lt) g hg).1
                    have hBB := Lib.hid ((hBi.out.alloc hBi.out.size (.cells #[.int .i64 (i : Int)] 3)).grown hgrow (by simp; have := hBi.out.size; omega) (fun g hg => hne g hg))
                    go_roundw
                    case rel => exact ⟨m + 1, by omega, by go_num, by rw [hmo.out] <;> rfl, by rw [hst.out, List.length_append, List.map_append]; exact hown', hBB⟩
                    case measure => simp [intOf]; omega
                  | false =>
                    go_wp2_with (at_builtin; refine wpList_append_own _ rfl _ _ 24 rfl wo.heap.size 3 i0 (.int .i64 0) 1 8 Tryd.underlying24 hi hz0 hz1 hz2 rfl (by decide) _ _ _ rfl (hr11'.alloc _) ⟨wr.heap.size, 0, none⟩ 1 1 [.int .i64 (i : Int)] rfl rfl (cell_one_new _ _ _) (ints_one _) (by have := hle.out; unfold maxLen; omega) (by have := hle.out; omega) (by have := hszi.out; simp; omega) ?_; intro v' w1 hown' hgrow _)
                    have hne : ∀ g, Value.ownBlock _ = some g → wo.heap.size ≤ g := fun g hg => ((hr11'.lt) g hg).1
                    have hBB := Lib.hid ((hBi.out.alloc hBi.out.size (.cells #[.int .i64 (i : Int)] 3)).grown hgrow (by simp; have := hBi.out.size; omega) (fun g hg => hne g hg))
                    go_roundw
                    case rel => exact ⟨m + 1, by omega, by go_num, by rw [hmo.out] <;> rfl, by rw [hst.out, List.length_append, List.map_append]; exact hown', hBB⟩
                    case measure => simp [intOf]; omega
                | false =>
                  rw [if_neg (by decide)] at hst
                  cases mo with
                  | true =>
                    rw [Bool.true_or] at hmo
                    rw [List.append_nil] at hst
                    go_wp2
                    go_roundw
                    case rel => exact ⟨m + 1, by omega, by go_num, by rw [hmo.out] <;> rfl, by rw [hst.out]; exact hr11, hBi⟩
                    case measure => simp [intOf]; omega
                  | false =>
                    by_cases hq0 : Q ≠ 0
                    · rw [decide_eq_true hq0] at hmo
                      have n3 : ((Q : Int) != 0) = true := by simp; omega
                      have n4 : ((Q : Int) == 0) = false := by simp; omega
                      rw [List.append_nil] at hst
                      go_wp2
                      go_roundw
                      case rel => exact ⟨m + 1, by omega, by go_num, by rw [hmo.out] <;> rfl, by rw [hst.out]; exact hr11, hBi⟩
                      case measure => simp [intOf]; omega
                    · rw [decide_eq_false hq0] at hmo
                      have n3 : ((Q : Int) != 0) = false := by simp; omega
                      have n4 : ((Q : Int) == 0) = true := by simp; omega
                      rw [List.append_nil] at hst
                      go_wp2
                      go_roundw
                      case rel => exact ⟨m + 1, by omega, by go_num, by rw [hmo.out] <;> rfl, by rw [hst.out]; exact hr11, hBi⟩
                      case measure => simp [intOf]; omega
              · have hmd : decide (m < (idxB hs).length) = false := decide_eq_false hmt
                have hmd2 : decide ((m : Int) < ((idxB hs).length : Int)) = false := decide_eq_false (by omega)
                have htk : (idxB hs).take m = idxB hs := List.take_of_length_le (by omega)
                rw [htk] at hr11 ⊢
                rw [hanyk.out]
                by_cases hkn2 : k < dn
                · have hdk : decide (k < dn) = true := decide_eq_true hkn2
                  rw [hdk]
                  have hrd : ((idxB hs).filter fun i => (upBy l hs i).testBit k) = rowsD l hs k := rfl
                  rw [hrd] at hr11
                  try rw [hrd]
                  obtain ⟨p11, c11, rfl⟩ := row_slice hr11.out
                  have hI11 := Lib.hid (ints_of_row (zs := (rowsD l hs k).map Int.ofNat) hr11.out (by rw [List.map_map]; rfl))
                  have hlr : (rowsD l hs k).length ≤ 1000 := by
                    have h1 : (rowsD l hs k).length ≤ (idxB hs).length := List.length_filter_le _ _
                    have := hlen.out; omega
                  have kf : Hid (Calls Tryd.prog 54 #[.slice p11 (rowsD l hs k).length c11] wr fun e W'' => ∃ er u, e = .returned (.tuple #[.agg #[u], .int .i64 er]) ∧ HC W'' u (mkN (rowsD l hs k)) ∧ Below wr.heap.size wr W'' ∧ Fr wr.heap.size u) :=
                    Lib.hid ((rmake7_fr hI11.out (by rw [List.length_map]; omega)).mono fun _ _ ⟨u, h1, h2, h3, h4⟩ => ⟨_, u, h1, h2, h3, h4⟩)
                  replace hbx := Lib.hid (hbx.out.later hBi.out)
                  replace hu := Lib.hid (hu.out.later hBi.out)
                  replace hrw := Lib.hid (hrw.out.later hBi.out)
                  replace hB := Lib.hid (hB.out.trans (hBi.out.mono hB.out.size))
                  replace hsz : Hid (W3.heap.size ≤ wr.heap.size) := Lib.hid (Nat.le_trans hsz.out hBi.out.size)
                  obtain ⟨pb, cb, hvb⟩ := hrw.out.slice
                  rw [(hdl.out k).1] at hvb
                  subst hvb
                  obtain ⟨us, hus⟩ := hrw.out
                  have hus' := Lib.hid hus
                  have hrowk := Lib.hid hus.1
                  have hlk := Lib.hid (hdl.out k).1
                  have hlk1 := Lib.hid (hdl.out k).2
                  clear hus hr11 hI11 hrw htk hanyk hd64 hm
                  generalize rowsD l hs k = rk at *
                  have hk1000 : k < 64 := h64
                  go_wp2_with (first
                    | (go_at_call 54
                       refine (kf.out).mono ?_
                       rintro e Wn ⟨er2, u2, rfl, hu2, hbn, hfr⟩
                       clear kf
                       obtain ⟨p2, c2, rfl, -, -⟩ := Hid.out hu2
                       have y9 := (hbx.out.later hbn).alloc (.cells #[.slice p2 (mkN rk).length c2] 28)
                       have y9c := y9.c3
                       have y9f := y9.frozen 3
                       have hA4 := Lib.hid (((Below.refl _ Wn).alloc (Nat.le_refl _) (.cells #[.slice p2 (mkN rk).length c2] 28)).alloc (by simp) (.cells #[.slice p2 (mkN rk).length c2] 28))
                       have hrow5 := own_later (by have := hrowk.out; rw [hlk.out] at this; exact this) (hbn.trans (hA4.out.mono hbn.size))
                       have hcn := cell_one_new (Wn.alloc (.cells #[.slice p2 (mkN rk).length c2] 28)) (.slice p2 (mkN rk).length c2) 28
                       have y10 := Lib.hid (y9.alloc (.cells #[.slice p2 (mkN rk).length c2] 28))
                       rw [World.size_alloc] at hcn
                       have hsn := Lib.hid hbn.size
                       have hs4 := Lib.hid hA4.out.size)
                    | (at_builtin
                       refine wpList_append_lies _ rfl _ _ 29 rfl W3.heap.size 28 ir (.agg #[.slice none 0 0]) 1 24 Tryd.underlying29 hir hr0 hr1 hr2 rfl (by decide) _ _ _ rfl hrow5 ⟨Wn.heap.size + 1, 0, none⟩ 1 1 [.slice p2 (mkN rk).length c2] rfl rfl hcn (by simp [Value.oneCell']) (by decide) (by unfold maxLen; omega) (by omega) (by have h1 := hsz.out; have h2 := hsn.out; simp; omega) _ rfl ?_
                       intro g cap w1 hown' hgrow hloc hlt
                       have hne1 : ∀ y, Value.ownBlock (.slice pb k cb) = some y → W3.heap.size ≤ y := fun y hy => ((hrow5.lt) y hy).1
                       have z5 : SBox w1 31 Wm.heap.size (l.length : Int) lo (.slice pu (mkN (idxB hs)).length cu) (.slice pb k cb) := (hgrow.block _ y10.out.lt (fun e => by have := hne1 _ e.symm; have := hb9.out; omega)).trans y10.out
                       have z5c := z5.c3
                       have z5f := z5.frozen 3))
                  have hu5 : HC w1 (.slice pu (mkN (idxB hs)).length cu) (mkN (idxB hs)) := ((hu.out.later hbn).later hA4.out).grown_row hgrow (fun hne x hx e => by have := hne1 x hx; have := hua.out hne e; omega)
                  have hu6 := Lib.hid (hu5.setS (i := 3) z5 ⟨_, _, _, rfl⟩ ⟨_, _, _, rfl⟩ (.slice (some ⟨g, 0, none⟩) (k + 1) cap))
                  have hbx6 := Lib.hid (z5.setB (.slice (some ⟨g, 0, none⟩) (k + 1) cap))
                  have hown2 : w1.ownsRow W3.heap.size 28 1 (.slice (some ⟨g, 0, none⟩) ((dgs k).length + 1) cap) ((dgs k).length + 1) (us ++ [.slice p2 (mkN rk).length c2]) := by rw [hlk.out]; exact hown'
                  have hrw5 := RowR.appended (W3 := w1) (base := W3.heap.size) (v := .slice pb k cb) (ls := dgs k) (hbn.trans (hA4.out.mono hbn.size)) (hu2.later hA4.out) hfr hus'.out hown2 hgrow hloc
                  rw [hlk.out, ← hlk1.out] at hrw5
                  have hrw6 := Lib.hid (hrw5.setS (i := 3) z5 ⟨_, _, _, rfl⟩ ⟨_, _, _, rfl⟩ hb9.out (.slice (some ⟨g, 0, none⟩) (k + 1) cap))
                  have hB5 := ((hB.out.trans ((hbn.trans (hA4.out.mono hbn.size)).mono hB.out.size)).grown hgrow (by have h1 := hB.out.size; have h2 := hbn.size; have h3 := hs4.out; omega) (fun y hy => by have := hne1 y hy; have := hb9.out; omega))
                  have hB6 := Lib.hid (hB5.setCell (p := ⟨Wm.heap.size, 3, none⟩) (Nat.le_refl _) (.slice (some ⟨g, 0, none⟩) (k + 1) cap))
                  have hsz6 : Hid (W3.heap.size ≤ (w1.setCell ⟨Wm.heap.size, 3, none⟩ (.slice (some ⟨g, 0, none⟩) (k + 1) cap)).heap.size) := by
                    have h1 := hsz.out; have h2 := hsn.out; have h3 := hs4.out; have h4 := hgrow.size
                    show _ ≤ _
                    rw [World.size_setCell]
                    omega
                  clear hu5 z5 hown2 hrw5 hB5 hu2 hfr hus' hown' hrow5 hcn hgrow hloc hu hB hbx y10 hsz hsn hs4
                  go_wp2
                  go_roundw
                  case rel => exact ⟨k + 1, _, by omega, by go_num, hbx6, hu6, hrw6, hB6, hsz6⟩
                  case measure => simp [intOf]; omega
                · have hdk : decide (k < dn) = false := decide_eq_false hkn2
                  rw [hdk]
                  have hkk : k = dn := by omega
                  subst hkk
                  replace hbx := Lib.hid (hbx.out.later hBi.out)
                  replace hu := Lib.hid (hu.out.later hBi.out)
                  replace hrw := Lib.hid (hrw.out.later hBi.out)
                  replace hB := Lib.hid (hB.out.trans (hBi.out.mono hB.out.size))
                  have hrs := r1.out.later (hB1.out.trans (hB.out.mono hB1.out.size))
                  obtain ⟨pb, cb, hvb⟩ := hrw.out.slice
                  rw [(hdl.out k).1] at hvb
                  subst hvb
                  have hlt1 : w.heap.size < W3.heap.size := by have h1 := hS1.out; have h2 := hB1.out.size; have h3 := hB3.out.size; omega
                  have hEx : ∃ p m c, (Value.slice none 0 0 : Value) = .slice p m c := ⟨_, _, _, rfl⟩
                  have hF1 := Lib.hid (hu.out.set4 hrs hEx hEx (l.length : Int) lo ⟨pu, (mkN (idxB hs)).length, cu, rfl⟩ (.slice pb k cb))
                  have hF2 := Lib.hid (row_set4 hrw.out hrs hEx hEx hlt1 (l.length : Int) lo ⟨pu, (mkN (idxB hs)).length, cu, rfl⟩ (.slice pb k cb))
                  have hF3 := hrs.set4 (l.length : Int) lo (.slice pu (mkN (idxB hs)).length cu) (.slice pb k cb)
                  have hBw := hR1.out.trans ((hB1.out.trans (hB.out.mono hB1.out.size)).mono hR1.out.size)
                  have hF4 := Lib.hid ((((hBw.setCell (p := ⟨w.heap.size, 0, none⟩) (Nat.le_refl _) (.int .i64 (l.length : Int))).setCell (p := ⟨w.heap.size, 1, none⟩) (Nat.le_refl _) (.int .i64 lo)).setCell (p := ⟨w.heap.size, 2, none⟩) (Nat.le_refl _) (.slice pu (mkN (idxB hs)).length cu)).setCell (p := ⟨w.heap.size, 3, none⟩) (Nat.le_refl _) (.slice pb k cb))
                  have c0 := hbx.out.c0; have c1 := hbx.out.c1; have c2 := hbx.out.c2; have c3 := hbx.out.c3
                  have e0 := hrs.c0; have e1 := hrs.c1; have e2 := hrs.c2; have e3 := hrs.c3
                  have f0 := hrs.frozen 0; have f1 := hrs.frozen 1; have f2 := hrs.frozen 2; have f3 := hrs.frozen 3
                  have d0 := hF3.c0; have d1 := hF3.c1; have d2 := hF3.c2; have d3 := hF3.c3
                  have hdd := hdgs'.out
                  clear hrs hBw hF3 hbx hu hrw hB hEx
                  go_wp2
                  rw [hlo'.out, hdn'.out]
                  refine bodyPost_ret (v := .tuple #[.agg #[.int .i64 (l.length : Int), .int .i64 lo, .slice pu (mkN (idxB hs)).length cu, .slice pb k cb], .int .i64 0]) ?_ rfl ⟨_, _, rfl, hF1.out, by have := hF2.out.hr; rw [hdd] at this; exact this, hF4.out⟩
                  simp [results, Tryd.results20, go_sem, d0, d1, d2, d3]
          · have hkk : k = dn := by have := hd64.out; omega
            subst hkk
            have hkd : decide ((k : Int) < 64) = false := decide_eq_false (by omega)
            have hrs := r1.out.later (hB1.out.trans (hB.out.mono hB1.out.size))
            obtain ⟨pb, cb, hvb⟩ := hrw.out.slice
            rw [(hdl.out k).1] at hvb
            subst hvb
            have hlt1 : w.heap.size < W3.heap.size := by have h1 := hS1.out; have h2 := hB1.out.size; have h3 := hB3.out.size; omega
            have hEx : ∃ p m c, (Value.slice none 0 0 : Value) = .slice p m c := ⟨_, _, _, rfl⟩
            have hF1 := Lib.hid (hu.out.set4 hrs hEx hEx (l.length : Int) lo ⟨pu, (mkN (idxB hs)).length, cu, rfl⟩ (.slice pb k cb))
            have hF2 := Lib.hid (row_set4 hrw.out hrs hEx hEx hlt1 (l.length : Int) lo ⟨pu, (mkN (idxB hs)).length, cu, rfl⟩ (.slice pb k cb))
            have hF3 := hrs.set4 (l.length : Int) lo (.slice pu (mkN (idxB hs)).length cu) (.slice pb k cb)
            have hBw := hR1.out.trans ((hB1.out.trans (hB.out.mono hB1.out.size)).mono hR1.out.size)
            have hF4 := Lib.hid ((((hBw.setCell (p := ⟨w.heap.size, 0, none⟩) (Nat.le_refl _) (.int .i64 (l.length : Int))).setCell (p := ⟨w.heap.size, 1, none⟩) (Nat.le_refl _) (.int .i64 lo)).setCell (p := ⟨w.heap.size, 2, none⟩) (Nat.le_refl _) (.slice pu (mkN (idxB hs)).length cu)).setCell (p := ⟨w.heap.size, 3, none⟩) (Nat.le_refl _) (.slice pb k cb))
            have c0 := hbx.out.c0; have c1 := hbx.out.c1; have c2 := hbx.out.c2; have c3 := hbx.out.c3
            have e0 := hrs.c0; have e1 := hrs.c1; have e2 := hrs.c2; have e3 := hrs.c3
            have f0 := hrs.frozen 0; have f1 := hrs.frozen 1; have f2 := hrs.frozen 2; have f3 := hrs.frozen 3
            have d0 := hF3.c0; have d1 := hF3.c1; have d2 := hF3.c2; have d3 := hF3.c3
            have hdd := hdgs'.out
            clear hrs hBw hF3 hbx hu hrw hB hEx
            go_wp2
            rw [hlo'.out, hdn'.out]
            refine bodyPost_ret (v := .tuple #[.agg #[.int .i64 (l.length : Int), .int .i64 lo, .slice pu (mkN (idxB hs)).length cu, .slice pb k cb], .int .i64 0]) ?_ rfl ⟨_, _, rfl, hF1.out, by have := hF2.out.hr; rw [hdd] at this; exact this, hF4.out⟩
            simp [results, Tryd.results20, go_sem, d0, d1, d2, d3]
  · have eB : buildB l hs = (⟨0, 0, [], []⟩, 80) := if_neg hok
    rw [eB]
    dsimp only
    have c0 := r0.c0; have c1 := r0.c1; have c2 := r0.c2; have c3 := r0.c3
    have q0 := r0.frozen 0; have q1 := r0.frozen 1; have q2 := r0.frozen 2; have q3 := r0.frozen 3
    have hF3 := r0.set4 0 0 (.slice none 0 0) (.slice none 0 0)
    have hF4 := Lib.hid ((((hR.setCell (p := ⟨w.heap.size, 0, none⟩) (Nat.le_refl _) (.int .i64 0)).setCell (p := ⟨w.heap.size, 1, none⟩) (Nat.le_refl _) (.int .i64 0)).setCell (p := ⟨w.heap.size, 2, none⟩) (Nat.le_refl _) (.slice none 0 0)).setCell (p := ⟨w.heap.size, 3, none⟩) (Nat.le_refl _) (.slice none 0 0))
    have d0 := hF3.c0; have d1 := hF3.c1; have d2 := hF3.c2; have d3 := hF3.c3
    clear hF3
    go_enter Tryd.func20, Tryd.ntmps20
    by_cases h1 : 1000 < l.length
    · have n1 : decide (1000 < l.length) = true := decide_eq_true h1
      have n2 : decide ((1000 : Int) < (l.length : Int)) = true := decide_eq_true (by omega)
      clear hok h1
      go_wp2
      refine bodyPost_ret (v := .tuple #[.agg #[.int .i64 0, .int .i64 0, .slice none 0 0, .slice none 0 0], .int .i64 80]) ?_ rfl ⟨_, _, rfl, HC.nil _ _ _, HR.nil _ _ _, (by first | exact hF4.out | exact hR)⟩
      simp [results, Tryd.results20, go_sem, c0, c1, c2, c3]
    · have n1 : decide (1000 < l.length) = false := decide_eq_false h1
      have n2 : decide ((1000 : Int) < (l.length : Int)) = false := decide_eq_false (by omega)
      have hne : ((l.length : Int) != (hs.length : Int)) = true := by
        rw [bne_iff_ne]
        intro e
        exact hok ⟨by omega, by omega⟩
      clear hok h1
      go_wp2
      refine bodyPost_ret (v := .tuple #[.agg #[.int .i64 0, .int .i64 0, .slice none 0 0, .slice none 0 0], .int .i64 80]) ?_ rfl ⟨_, _, rfl, HC.nil _ _ _, HR.nil _ _ _, (by first | exact hF4.out | exact hR)⟩
      simp [results, Tryd.results20, go_sem, c0, c1, c2, c3]
end Go.Proofs.YtnigpmbpipmgfaaDoor
