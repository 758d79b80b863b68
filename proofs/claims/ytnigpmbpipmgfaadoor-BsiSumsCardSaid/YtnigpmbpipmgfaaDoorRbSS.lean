/-
  Rb7, Rb8, Rb9, RbS: several texts in one (merge.py).
-/
import Derived.Test.YtnigpmbpipmgfaaDoorRbY
import Derived.Test.YtnigpmbpipmgfaaDoorBsS
import Derived.Test.YtnigpmbpipmgfaaDoorBsAR
import Derived.Test.YtnigpmbpipmgfaaDoorHeldX
import Derived.Test.YtnigpmbpipmgfaaDoorBsX
import Derived.Test.YtnigpmbpipmgfaaDoorRb2

/-
  The reference's some: the numbers of those of some rows that have one.
-/
namespace Go.Proofs.YtnigpmbpipmgfaaDoor
open Go.RowKit Tess

theorem ints_of_row64 {W : World} {base n : Nat} {v : Value} {zs : List Int} {xs : List Value} (h : W.ownsRow base 2 1 v n xs) (hx : xs = zs.map (Value.int .i64)) : Ints W.heap.size W v zs := by
  subst hx
  obtain ⟨hl, ⟨rfl, rfl⟩ | ⟨g, cap, cur, rfl, _, hg, hn, hc, hs, ht⟩⟩ := h
  · left
    exact ⟨⟨_, rfl⟩, List.length_eq_zero_iff.1 (by simpa using hl)⟩
  · right
    have hzl : zs.length = n := by simpa using hl
    subst hzl
    refine ⟨g, 0, cap, rfl, lt_of_heap hg, fun j hj => ?_⟩
    have e : cur[j]? = some (.int .i64 (zs[j]?.getD 0)) := by
      have h1 : (cur.toList.take (zs.length * 1))[j]? = (zs.map (Value.int .i64))[j]? := by rw [ht]
      rw [List.getElem?_take_of_lt (by omega)] at h1
      simpa [hj] using h1
    simp [World.cell?, hg, e]
/-- What Column answers of right slices, its parts named. -/
theorem rcol_named {b : Sl} {vE vB : Value} {w : World} (hE : HC w vE b.ex) (hB : HR w vB b.bits) (hs : SmallB b) (hri : isRightB b = true) :
    Calls Tryd.prog 57 #[.agg #[.int .i64 b.n, .int .i64 b.least, vE, vB]] w fun e W' => ∃ pl cl ph ch, e = .returned (.tuple #[.slice pl (colK b).length cl, .slice ph (colK b).length ch, .bool true]) ∧ (∀ j, j < (colK b).length → ∃ b' off, pl = some ⟨b', off, none⟩ ∧ b' < W'.heap.size ∧ W'.cell? ⟨b', off + j, none⟩ = some (.int .i64 (vI (colK b) j))) ∧ (∀ j, j < (colK b).length → ∃ b' off, ph = some ⟨b', off, none⟩ ∧ b' < W'.heap.size ∧ W'.cell? ⟨b', off + j, none⟩ = some (.bool ((hasK b)[j]?.getD false))) ∧ Below w.heap.size w W' := by
  have e1 : (hasK b).length = (colK b).length := by rw [len_colK, len_hasK]
  have k1 := rcol_any hE hB hs
  rw [hri] at k1
  refine k1.mono fun e W' h => ?_
  obtain ⟨vl, vh, rfl, hh, hb⟩ := h
  obtain ⟨hi, hbo⟩ := hh rfl
  obtain ⟨pl, cl, rfl, h1⟩ := Ints.slice hi
  obtain ⟨ph, ch, rfl, h2⟩ := hbo
  rw [e1] at h2
  exact ⟨pl, cl, ph, ch, by rw [e1], h1, h2, hb⟩
theorem vI_col {b : Sl} (hl : -9223372036854775808 ≤ b.least ∧ b.least ≤ 9223372036854775807) (hri : isRightB b = true) {r : Nat} (hr : r < (colK b).length) : (hasK b)[r]?.getD false = bitL b.ex r ∧ (bitL b.ex r = true → vI (colK b) r = numB b r) := by
  have hc := (right_iff hl).1 hri
  rw [len_colK] at hr
  have h1 := hc.n1
  refine ⟨get_hasK b hr, fun h => ?_⟩
  rw [vI_colK hc hl r (by omega), if_pos h]
theorem take_filter_yes {P : Nat → Bool} {X : List Nat} {k : Nat} (h : k < X.length) (hp : P X[k] = true) : (X.take (k + 1)).filter P = (X.take k).filter P ++ [X[k]] := by
  rw [List.take_succ_eq_append_getElem h, List.filter_append]; simp [hp]
theorem take_filter_no {P : Nat → Bool} {X : List Nat} {k : Nat} (h : k < X.length) (hp : P X[k] = false) : (X.take (k + 1)).filter P = (X.take k).filter P := by
  rw [List.take_succ_eq_append_getElem h, List.filter_append]; simp [hp]
/-- Behind a row that is too great, there is none. -/
theorem take_filter_stop {P : Nat → Bool} {X : List Nat} {k M : Nat} (hp : X.Pairwise (· < ·)) (h : k < X.length) (hk : M ≤ X[k]) (hP : ∀ x ∈ X, P x = true → x < M) : (X.take k).filter P = X.filter P := by
  have e : X.filter P = (X.take k).filter P ++ (X.drop k).filter P := by rw [← List.filter_append, List.take_append_drop]
  rw [e, show (X.drop k).filter P = [] from ?_, List.append_nil]
  refine List.filter_eq_nil_iff.2 fun x hx hpx => ?_
  obtain ⟨j, hj, ej⟩ := List.mem_drop_iff_getElem.1 hx
  have h1 := hP x (List.mem_of_mem_drop hx) hpx
  by_cases hj0 : j = 0
  · subst hj0
    simp only [Nat.add_zero] at ej
    omega
  · have := List.pairwise_iff_getElem.1 hp k (k + j) h (by omega) (by omega)
    have ej' : X[k + j] = x := by simpa [Nat.add_comm] using ej
    omega

set_option linter.unusedSimpArgs false in
set_option maxRecDepth 100000 in
set_option maxHeartbeats 8000000 in
theorem rsome_any {b : Sl} {rows : List Ch} {vE vB vr : Value} {w : World} (hE : HC w vE b.ex) (hB : HR w vB b.bits) (hr : HC w vr rows) (hs : SmallB b) (hsr : Small rows) :
    Calls Tryd.prog 58 #[.agg #[.int .i64 b.n, .int .i64 b.least, vE, vB], .agg #[vr]] w fun e W' => ∃ v, e = .returned (.tuple #[v, .bool (isRightB b && rightL rows)]) ∧ Ints W'.heap.size W' v (someC b rows) ∧ Below w.heap.size w W' := by
  obtain ⟨i0, hi, hz0, hz1, hz2⟩ := info_parts info_int64
  obtain ⟨pE, cE, rfl, -, -⟩ := Hid.out hE
  obtain ⟨pB, cB, rfl, -, -⟩ := Hid.out hB
  obtain ⟨pr, cr, rfl, -, -⟩ := Hid.out hr
  have x1 := (SBox.new w 31 b.n b.least (.slice pE b.ex.length cE) (.slice pB b.bits.length cB)).alloc (.cells #[.slice pr rows.length cr] 28)
  have r1 := RBox.new (w.alloc (.cells #[.int .i64 b.n, .int .i64 b.least, .slice pE b.ex.length cE, .slice pB b.bits.length cB] 31)) (.slice pr rows.length cr)
  simp only [World.size_alloc] at r1
  have hR : Below w.heap.size w ((w.alloc (.cells #[.int .i64 b.n, .int .i64 b.least, .slice pE b.ex.length cE, .slice pB b.bits.length cB] 31)).alloc (.cells #[.slice pr rows.length cr] 28)) := ((Below.refl w.heap.size w).alloc (Nat.le_refl _) _).alloc (by simp) _
  have c0 := x1.c0; have c1 := x1.c1; have c2 := x1.c2; have c3 := x1.c3
  have hR' := Lib.hid hR
  have r1' := Lib.hid r1
  have hl := And.intro hs.lo hs.hi
  have k1 := rcol_any (hE.later hR) (hB.later hR) hs
  have kn := rcol_named (hE.later hR) (hB.later hR) hs
  have kR := fun (W : World) (h : Below w.heap.size w W) => rright7_any (hr.later h) hsr
  have kV := fun (W : World) (h : Below w.heap.size w W) => rvalues7_any (hr.later h) hsr
  clear x1 hR hE hB hs r1 hr hsr
  cases hri : isRightB b with
  | false =>
    have hfin := Lib.hid (show someC b rows = [] from if_neg (by rw [hri]; rintro ⟨h, -⟩; cases h))
    rw [hri] at k1
    have k1' := Lib.hid k1
    clear k1 kn hri hl kR kV
    go_enter Tryd.func58, Tryd.ntmps58
    go_wp2_with (go_at_call 57; refine (k1'.out).mono ?_; rintro e W2 ⟨vl, vh, rfl, -, hb⟩; clear k1' c0 c1 c2 c3)
    exact bodyPost_ret (v := .tuple #[.slice none 0 0, .bool false]) (by simp [results, Tryd.results58, go_sem]) rfl ⟨.slice none 0 0, by simp, by rw [hfin.out]; exact .inl ⟨⟨none, rfl⟩, rfl⟩, hR'.out.trans (hb.mono hR'.out.size)⟩
  | true =>
    have kn' := Lib.hid (kn hri)
    clear k1 kn
    cases hrr : rightL rows with
    | false =>
      have hfin := Lib.hid (show someC b rows = [] from if_neg (by rw [hrr]; rintro ⟨-, h⟩; cases h))
      rw [hrr] at kR
      have kR' := Lib.hid kR
      clear kR hri hl kV hrr
      go_enter Tryd.func58, Tryd.ntmps58
      go_wp2_with (first
        | (go_at_call 57
           refine (kn'.out).mono ?_
           rintro e W2 ⟨pl, cl, ph, ch, rfl, -, -, hb⟩
           have r2 := Lib.hid (r1'.out.later hb)
           have hB2 := Lib.hid (hR'.out.trans (hb.mono hR'.out.size))
           have s2 := r2.out.cell
           have kR2 := Lib.hid (kR'.out _ hB2.out)
           clear c0 c1 c2 c3 kn' hb)
        | (go_at_call 89
           refine (kR2.out).mono ?_
           rintro e W3 ⟨rfl, hb3⟩
           clear s2 kR2))
      exact bodyPost_ret (v := .tuple #[.slice none 0 0, .bool false]) (by simp [results, Tryd.results58, go_sem]) rfl ⟨.slice none 0 0, by simp, by rw [hfin.out]; exact .inl ⟨⟨none, rfl⟩, rfl⟩, hB2.out.trans (hb3.mono hB2.out.size)⟩
    | true =>
      have hic := (right_iff hl).1 hri
      obtain ⟨P, hPe⟩ : ∃ P : Nat → Bool, bitL b.ex = P := ⟨_, rfl⟩
      obtain ⟨g, hge⟩ : ∃ g : Nat → Int, numB b = g := ⟨_, rfl⟩
      obtain ⟨X, hX⟩ : ∃ X, valL rows = X := ⟨_, rfl⟩
      have hXe : allN rows = X := by rw [← hX]; unfold valL; rw [if_pos hrr]
      have hfin : Hid (someC b rows = (X.filter P).map g) := Lib.hid (by
        rw [show someC b rows = (someR b rows).map (numB b) from if_pos ⟨hri, hrr⟩]
        unfold someR
        rw [hXe, hPe, hge])
      have hXp := Lib.hid (rows_rising hrr)
      have hXl := rows_len rows
      have hPM : Hid (∀ x ∈ X, P x = true → x < (colK b).length) := Lib.hid (fun x hx hp => by
        rw [← hX] at hx
        have h1 := ((rows_mem hrr x).1 hx).1
        rw [← hPe] at hp
        have h2 := hic.rows x h1 hp
        rw [len_colK]
        omega)
      have hM1 : (colK b).length ≤ 1000 := by rw [len_colK]; have := hic.n1; omega
      have hcl : Hid (∀ r, r < (colK b).length → (hasK b)[r]?.getD false = P r ∧ (P r = true → vI (colK b) r = g r)) := Lib.hid (fun r h => by
        rw [← hPe, ← hge]
        exact vI_col hl hri h)
      rw [hrr] at kR
      rw [hX] at kV hXp hXl
      have kR' := Lib.hid kR
      have kV' := Lib.hid kV
      clear kR hri hl kV hrr hic hPe hge hX hXe
      generalize colK b = l at *
      generalize hasK b = hs at *
      go_enter Tryd.func58, Tryd.ntmps58
      go_wp2_with (first
        | (go_at_call 57
           refine (kn'.out).mono ?_
           rintro e W2 ⟨pl, cl, ph, ch, rfl, hl0, hh0, hb⟩
           have r2 := Lib.hid (r1'.out.later hb)
           have hB2 := Lib.hid (hR'.out.trans (hb.mono hR'.out.size))
           have hl2 := Lib.hid hl0
           have hh2 := Lib.hid hh0
           have s2 := r2.out.cell
           have kR2 := Lib.hid (kR'.out _ hB2.out)
           clear c0 c1 c2 c3 kn' hb hl0 hh0)
        | (go_at_call 89
           refine (kR2.out).mono ?_
           rintro e W3 ⟨rfl, hb3⟩
           have r3 := Lib.hid (r2.out.later hb3)
           have hB3 := Lib.hid (hB2.out.trans (hb3.mono hB2.out.size))
           have hb3' := Lib.hid hb3
           have s3 := r3.out.cell
           clear s2 kR2 hb3))
      refine (kV'.out _ hB3.out).mono ?_
      rintro e W4 ⟨v', rfl, hI, -, hb4⟩
      obtain ⟨pX, cX, hv, hcX⟩ := Ints.slice (Hid.out hI)
      rw [List.length_map] at hv hcX
      subst hv
      have hB24 := Lib.hid (hb3'.out.trans (hb4.mono hb3'.out.size))
      have hB4 := Lib.hid (hB3.out.trans (hb4.mono hB3.out.size))
      have hcX' := Lib.hid hcX
      clear hI hb4 hb3' hcX kR' kV' r1' r2 r3 s3 hR' hB2 hB3
      go_wp2
      go_loopw [9, 11] (fun v i wr => ∃ k : Nat, k ≤ X.length ∧ i = .int .i64 k ∧ Hid (wr.ownsRow W4.heap.size 2 1 v ((X.take k).filter P).length (((X.take k).filter P).map fun r : Nat => .int .i64 (g r))) ∧ Hid (Below W4.heap.size W4 wr))
        (fun _ i _ => X.length - (intOf i).toNat)
      case atStart => exact ⟨0, Nat.zero_le _, rfl, World.ownsRow_nil _ _ _ _, Lib.hid (Below.refl _ _)⟩
      case round =>
        obtain ⟨k, hk, rfl, hrow, hB⟩ := hrel
        have hBf := Lib.hid (hB4.out.trans (hB.out.mono hB4.out.size))
        by_cases hlt : k < X.length
        · have hkd : decide ((k : Int) < (X.length : Int)) = true := decide_eq_true (by omega)
          have hkd2 : decide (k < X.length) = true := decide_eq_true hlt
          have hkl : (k : Int) < (X.length : Int) := by omega
          obtain ⟨b3, o3, rfl, hb3, e3⟩ := hcX'.out k hlt
          obtain ⟨x, hx⟩ : ∃ x, X[k] = x := ⟨_, rfl⟩
          have hcv : (X.map Int.ofNat)[k]?.getD 0 = (x : Int) := by simp [hlt, hx]
          rw [hcv] at e3
          have z3 := (hB.out.cell (p := ⟨b3, o3 + k, none⟩) hb3).trans e3
          have h0x : (0 : Int) ≤ (x : Int) := by omega
          by_cases hxM : x < l.length
          · have d1 : decide ((x : Int) < (l.length : Int)) = true := decide_eq_true (by omega)
            have d2 : decide (x < l.length) = true := decide_eq_true hxM
            have hx1 : (x : Int) < (l.length : Int) := by omega
            have hB2 := hB24.out.trans (hB.out.mono hB24.out.size)
            obtain ⟨b1, o1, rfl, hb1, e1⟩ := hl2.out x hxM
            obtain ⟨b2, o2, rfl, hb2, e2⟩ := hh2.out x hxM
            have z1 := (hB2.cell (p := ⟨b1, o1 + x, none⟩) hb1).trans e1
            have z2 := (hB2.cell (p := ⟨b2, o2 + x, none⟩) hb2).trans e2
            obtain ⟨g1, g2⟩ := hcl.out x hxM
            rw [g1] at z2
            have hyes := Lib.hid (fun h => take_filter_yes (P := P) hlt h)
            have hno := Lib.hid (fun h => take_filter_no (P := P) hlt h)
            rw [hx] at hyes hno
            have hil : Hid (((X.take k).filter P).length ≤ 65536) := Lib.hid (Nat.le_trans (List.length_filter_le _ _) (by rw [List.length_take]; omega))
            have hsz := Lib.hid hB.out.size
            have hrow' := hrow.out
            obtain ⟨px, cx, rfl⟩ := row_slice hrow.out
            clear e1 e2 e3 hb1 hb2 hb3 hcv hx hB2 g1
            cases hp : P x with
            | true =>
              rw [g2 hp] at z1
              rw [hp] at z2
              have hst := Lib.hid (hyes.out hp)
              clear hyes hno hp g2
              obtain ⟨z, hz⟩ : ∃ z, g x = z := ⟨_, rfl⟩
              rw [hz] at z1
              have hz' := Lib.hid hz
              clear hz
              go_wp2_with (at_builtin; refine wpList_append_own _ rfl _ _ 22 rfl W4.heap.size 2 i0 (.int .i64 0) 1 8 Tryd.underlying22 hi hz0 hz1 hz2 rfl (by decide) _ _ _ rfl (hrow'.alloc _) ⟨wr.heap.size, 0, none⟩ 1 1 [.int .i64 z] rfl rfl (cell_one_new _ _ _) (ints_one _) (by have := hil.out; unfold maxLen; omega) (by have := hil.out; omega) (by simp; have := hsz.out; omega) ?_; intro v' w1 hown' hgrow _)
              have hne : ∀ y, Value.ownBlock _ = some y → W4.heap.size ≤ y := fun y hy => ((hrow'.lt) y hy).1
              have hBB := Lib.hid ((hB.out.alloc hB.out.size (.cells #[.int .i64 z] 2)).grown hgrow (by simp; have := hB.out.size; omega) (fun y hy => hne y hy))
              go_roundw
              case rel => exact ⟨k + 1, by omega, by go_num, by rw [hst.out, List.length_append, List.map_append, List.map_cons, List.map_nil, hz'.out]; exact hown', hBB⟩
              case measure => simp [intOf]; omega
            | false =>
              rw [hp] at z2
              have hst := Lib.hid (hno.out hp)
              clear hyes hno hp g2
              go_wp2
              go_roundw
              case rel => exact ⟨k + 1, by omega, by go_num, by rw [hst.out]; exact hrow, hB⟩
              case measure => simp [intOf]; omega
          · have d1 : decide ((x : Int) < (l.length : Int)) = false := decide_eq_false (by omega)
            have d2 : decide (x < l.length) = false := decide_eq_false hxM
            have hst := Lib.hid (take_filter_stop (P := P) (M := l.length) hXp.out hlt (by rw [hx]; omega) hPM.out)
            obtain ⟨px, cx, rfl⟩ := row_slice hrow.out
            have hin := Lib.hid (ints_of_row64 (zs := ((X.take k).filter P).map g) hrow.out (by rw [List.map_map]; rfl))
            clear hrow hB hx hcv e3 hb3 hxM hlt
            go_wp2
            exact bodyPost_ret (v := .tuple #[.slice px ((X.take k).filter P).length cx, .bool true]) (by simp [results, Tryd.results58, go_sem]) rfl ⟨.slice px ((X.take k).filter P).length cx, by simp, by rw [hfin.out, ← hst.out]; exact hin.out, hBf.out⟩
        · have hkd : decide ((k : Int) < (X.length : Int)) = false := decide_eq_false (by omega)
          have hkd2 : decide (k < X.length) = false := decide_eq_false hlt
          have htk : X.take k = X := List.take_of_length_le (by omega)
          rw [htk] at hrow
          obtain ⟨px, cx, hv⟩ := row_slice hrow.out
          subst hv
          have hin := Lib.hid (ints_of_row64 (zs := (X.filter P).map g) hrow.out (by rw [List.map_map]; rfl))
          clear hrow hB htk hlt
          go_wp2
          exact bodyPost_ret (v := .tuple #[.slice px (X.filter P).length cx, .bool true]) (by simp [results, Tryd.results58, go_sem]) rfl ⟨.slice px (X.filter P).length cx, by simp, by rw [hfin.out]; exact hin.out, hBf.out⟩
end Go.Proofs.YtnigpmbpipmgfaaDoor

/-
  The reference's wide numbers: Of, half, Add, Sum.
-/
namespace Go.Proofs.YtnigpmbpipmgfaaDoor
open Go.RowKit Go.Shelf Tess

theorem two_new (W : World) (a b : Value) (t : TypeId) : (W.alloc (.cells #[a, b] t)).cell? ⟨W.heap.size, 0, none⟩ = some a ∧ (W.alloc (.cells #[a, b] t)).cell? ⟨W.heap.size, 1, none⟩ = some b := by
  have h := heap_alloc_new W (.cells #[a, b] t)
  exact ⟨by rw [cell_of_row _ _ 0 _ _ (0, 0) h]; rfl, by rw [cell_of_row _ _ 1 _ _ (0, 0) h]; rfl⟩
set_option maxHeartbeats 2000000 in
theorem rOf_any (n : Int) (w : World) (h0 : -9223372036854775808 ≤ n) (h1 : n ≤ 9223372036854775807) :
    Calls Tryd.prog 92 #[.int .i64 n] w fun e W' => e = .returned (wdV n) ∧ Below w.heap.size w W' := by
  have e2 : IntKind.u64.wrap n = loW n := by rw [IntKind.wrap_u64]; rfl
  have e2' : n % 18446744073709551616 = loW n := rfl
  by_cases hn : n < 0
  · have d : decide (n < 0) = true := decide_eq_true hn
    have e1 := Lib.hid (show hiW n = -1 by rw [hiW_eq]; omega)
    have hx := two_new w (.int .i64 (-1)) (.int .u64 (loW n)) 43
    go_enter Tryd.func92, Tryd.ntmps92
    go_wp2
    refine bodyPost_ret (v := .agg #[.int .i64 (-1), .int .u64 (loW n)]) ?_ rfl ⟨by rw [wdV, e1.out], (Below.refl _ w).alloc (Nat.le_refl _) _⟩
    simp [results, Tryd.results92, go_sem, hx.1, hx.2]
  · have d : decide (n < 0) = false := decide_eq_false hn
    have e1 := Lib.hid (show hiW n = 0 by rw [hiW_eq]; omega)
    have hx := two_new w (.int .i64 0) (.int .u64 (loW n)) 43
    go_enter Tryd.func92, Tryd.ntmps92
    go_wp2
    refine bodyPost_ret (v := .agg #[.int .i64 0, .int .u64 (loW n)]) ?_ rfl ⟨by rw [wdV, e1.out], (Below.refl _ w).alloc (Nat.le_refl _) _⟩
    simp [results, Tryd.results92, go_sem, hx.1, hx.2]
set_option maxHeartbeats 2000000 in
theorem half_any (a b : Int) (w : World) (a0 : 0 ≤ a) (a1 : a < 18446744073709551616) (b0 : 0 ≤ b) (b1 : b < 18446744073709551616) :
    Calls Tryd.prog 109 #[.int .u64 a, .int .u64 b] w fun e W' => e = .returned (.tuple #[.int .u64 ((a + b) % 18446744073709551616), .int .u64 ((a + b) / 18446744073709551616)]) ∧ w = W' := by
  have e1 := Lib.hid (show (a / 4294967296 + b / 4294967296 + (a % 4294967296 + b % 4294967296) / 4294967296) % 4294967296 * 4294967296 + (a + b) % 4294967296 = (a + b) % 18446744073709551616 by omega)
  have e2 := Lib.hid (show (a / 4294967296 + b / 4294967296 + (a % 4294967296 + b % 4294967296) / 4294967296) / 4294967296 = (a + b) / 18446744073709551616 by omega)
  go_enter Tryd.func109, Tryd.ntmps109
  go_wp2
  rw [e1.out, e2.out]
  exact bodyPost_ret (v := .tuple #[.int .u64 ((a + b) % 18446744073709551616), .int .u64 ((a + b) / 18446744073709551616)]) (by simp [results, Tryd.results109, go_sem]) rfl ⟨rfl, rfl⟩
set_option linter.unusedSimpArgs false in
set_option maxRecDepth 100000 in
set_option maxHeartbeats 4000000 in
theorem radd_any (a b : Int) (w : World) :
    Calls Tryd.prog 91 #[wdV a, wdV b] w fun e w' => e = .returned (wdV (a + b)) ∧ Below w.heap.size w w' := by
  have ra := loW_range a
  have rb := loW_range b
  have ua := uW_range a
  have ub := uW_range b
  have e1 : ∀ z, IntKind.u64.wrap (hiW z) = uW z := fun z => by rw [IntKind.wrap_u64]; rfl
  have e1' : ∀ z, hiW z % 18446744073709551616 = uW z := fun z => rfl
  have k1 := fun W => half_any (loW a) (loW b) W ra.1 ra.2 rb.1 rb.2
  have k2 := fun W => half_any (uW a) (uW b) W ua.1 ua.2 ub.1 ub.2
  have k3 := fun W => half_any ((uW a + uW b) % 18446744073709551616) ((loW a + loW b) / 18446744073709551616) W (by omega) (by omega) (by omega) (by omega)
  have hlo : (loW a + loW b) % 18446744073709551616 = loW (a + b) := by have := lo_add a b; rwa [Int.add_zero] at this
  have h3' : wrap64 (((uW a + uW b) % 18446744073709551616 + (loW a + loW b) / 18446744073709551616) % 18446744073709551616) = hiW (a + b) := by
    have h := hi_add a b
    rw [e1, e1, Int.add_zero] at h
    rw [← h, wrap_eq, IntKind.wrap_i64]
    omega
  rw [hlo] at k1
  generalize (uW a + uW b) / 18446744073709551616 = q2 at k2
  generalize (uW a + uW b) % 18446744073709551616 = q1 at *
  generalize (loW a + loW b) / 18446744073709551616 = c at *
  generalize (q1 + c) / 18446744073709551616 = q4 at k3
  obtain ⟨hh, hhe⟩ : ∃ hh, (q1 + c) % 18446744073709551616 = hh := ⟨_, rfl⟩
  rw [hhe] at k3 h3'
  have k1' := Lib.hid k1
  have k2' := Lib.hid k2
  have k3' := Lib.hid k3
  clear hhe hlo ra rb ua ub k1 k2 k3
  have x1 := (WBox.new w a).alloc (.cells #[.int .i64 (hiW b), .int .u64 (loW b)] 43)
  have x2 := WBox.new (w.alloc (.cells #[.int .i64 (hiW a), .int .u64 (loW a)] 43)) b
  simp only [World.size_alloc] at x2
  have x1a := x1.alloc (.cells #[.int .i64 0, .int .u64 0] 43)
  have x2a := x2.alloc (.cells #[.int .i64 0, .int .u64 0] 43)
  have x3 := WBox.new ((w.alloc (.cells #[.int .i64 (hiW a), .int .u64 (loW a)] 43)).alloc (.cells #[.int .i64 (hiW b), .int .u64 (loW b)] 43)) (a + b)
  have x0 := two_new ((w.alloc (.cells #[.int .i64 (hiW a), .int .u64 (loW a)] 43)).alloc (.cells #[.int .i64 (hiW b), .int .u64 (loW b)] 43)) (.int .i64 0) (.int .u64 0) 43
  simp only [World.size_alloc] at x3 x0
  have y1 := x1.c0; have y2 := x1.c1; have y3 := x2.c0; have y4 := x2.c1; have y5 := x3.c0; have y6 := x3.c1
  have w1 := x1a.c0; have w2 := x1a.c1; have w3 := x2a.c0; have w4 := x2a.c1
  unfold wdV
  go_enter Tryd.func91, Tryd.ntmps91
  go_wp2_with (first
    | (go_at_call 109; refine (k1'.out _).mono ?_; rintro e w9 ⟨rfl, hw⟩; subst hw; clear k1')
    | (go_at_call 109; refine (k2'.out _).mono ?_; rintro e w9 ⟨rfl, hw⟩; subst hw; clear k2')
    | (go_at_call 109; refine (k3'.out _).mono ?_; rintro e w9 ⟨rfl, hw⟩; subst hw; clear k3'))
  refine bodyPost_ret (v := .agg #[.int .i64 (hiW (a + b)), .int .u64 (loW (a + b))]) ?_ rfl ⟨rfl, (((Below.refl w.heap.size w).alloc (Nat.le_refl _) _).alloc (by simp) _).alloc (by simp; omega) _⟩
  simp [results, Tryd.results91, go_sem, y5, y6]
end Go.Proofs.YtnigpmbpipmgfaaDoor

/-
  The reference's Sum of numbers; its Sum, Least, Most of rows. (Printed by genrb9.py.)
-/
namespace Go.Proofs.YtnigpmbpipmgfaaDoor
open Go.RowKit Go.Shelf Tess

/-- What Sum's loop holds. -/
structure SumW (w wr : World) (z : Int) : Prop where
  res : WBox wr w.heap.size 0
  acc : WBox wr (w.heap.size + 1) z
  below : Below w.heap.size w wr
theorem SumW.step {w wr Wn : World} {z : Int} (h : SumW w wr z) (hb : Below wr.heap.size wr Wn) (y : Int) : SumW w ((Wn.setCell ⟨w.heap.size + 1, 0, none⟩ (.int .i64 (hiW y))).setCell ⟨w.heap.size + 1, 1, none⟩ (.int .u64 (loW y))) y :=
  ⟨((h.res.later hb).far (p := ⟨w.heap.size + 1, 0, none⟩) (by dsimp only; omega) _).far (p := ⟨w.heap.size + 1, 1, none⟩) (by dsimp only; omega) _, (h.acc.later hb).set y,
    ((h.below.trans (hb.mono h.below.size)).setCell (p := ⟨w.heap.size + 1, 0, none⟩) (by dsimp only; omega) _).setCell (p := ⟨w.heap.size + 1, 1, none⟩) (by dsimp only; omega) _⟩
theorem hiW0 : hiW 0 = 0 := by decide
theorem loW0 : loW 0 = 0 := by decide
theorem WBox.zero (W : World) : WBox (W.alloc (.cells #[.int .i64 0, .int .u64 0] 43)) W.heap.size 0 := by
  have h := WBox.new W 0
  rw [hiW0, loW0] at h
  exact h
theorem SumW.start (w : World) : SumW w ((w.alloc (.cells #[.int .i64 0, .int .u64 0] 43)).alloc (.cells #[.int .i64 0, .int .u64 0] 43)) 0 := by
  have h2 := WBox.zero (w.alloc (.cells #[.int .i64 0, .int .u64 0] 43))
  rw [World.size_alloc] at h2
  exact ⟨(WBox.zero w).alloc _, h2, ((Below.refl _ w).alloc (Nat.le_refl _) _).alloc (by simp) _⟩

set_option linter.unusedSimpArgs false in
set_option maxRecDepth 100000 in
set_option maxHeartbeats 4000000 in
theorem rsumW_any {zs : List Int} {sv : Value} {w : World} (h : Ints w.heap.size w sv zs) (hrg : ∀ z ∈ zs, -9223372036854775808 ≤ z ∧ z ≤ 9223372036854775807) (hlen : zs.length ≤ 1000000) :
    Calls Tryd.prog 59 #[sv] w fun e W' => e = .returned (wdV zs.sum) ∧ Below w.heap.size w W' := by
  obtain ⟨p, cap, rfl, hcell⟩ := h.slice
  have hc := Lib.hid hcell
  have hrg' := Lib.hid hrg
  have hA0 := Lib.hid (SumW.start w)
  clear h hcell hrg
  unfold wdV
  go_enter Tryd.func59, Tryd.ntmps59
  go_wp2
  go_loopw [4] (fun i wr => ∃ k : Nat, k ≤ zs.length ∧ i = .int .i64 k ∧ Hid (SumW w wr (zs.take k).sum))
    (fun i _ => zs.length - (intOf i).toNat)
  case atStart => exact ⟨0, Nat.zero_le _, rfl, hA0⟩
  case round =>
    obtain ⟨k, hk, rfl, hM⟩ := hrel
    clear hA0
    by_cases hlt : k < zs.length
    · have hkd : decide ((k : Int) < (zs.length : Int)) = true := decide_eq_true (by omega)
      have hkd2 : decide (k < zs.length) = true := decide_eq_true hlt
      have hkl : (k : Int) < (zs.length : Int) := by omega
      obtain ⟨b, off, rfl, hb, hx⟩ := hc.out k hlt
      obtain ⟨z, hz⟩ : ∃ z, zs[k]?.getD 0 = z := ⟨_, rfl⟩
      rw [hz] at hx
      have hzr := hrg'.out z (by rw [← hz, List.getElem?_eq_getElem hlt]; exact List.getElem_mem hlt)
      have hst : Hid ((zs.take (k + 1)).sum = (zs.take k).sum + z) := Lib.hid (by
        rw [List.take_succ_eq_append_getElem hlt, List.sum_append, ← hz, List.getElem?_eq_getElem hlt]
        simp)
      have z1 := (hM.out.below.cell (p := ⟨b, off + k, none⟩) hb).trans hx
      obtain ⟨y, hy⟩ : ∃ y, (zs.take k).sum = y := ⟨_, rfl⟩
      rw [hy] at hst hM
      have kof : Hid (∀ W, Calls Tryd.prog 92 #[.int .i64 z] W fun e W' => e = .returned (wdV z) ∧ Below W.heap.size W W') := fun W => rOf_any z W hzr.1 hzr.2
      have kadd : Hid (∀ W, Calls Tryd.prog 91 #[.agg #[.int .i64 (hiW y), .int .u64 (loW y)], wdV z] W fun e W' => e = .returned (wdV (y + z)) ∧ Below W.heap.size W W') := fun W => radd_any y z W
      have hMd : (fun W' : World => Hid (Below wr.heap.size wr W') ∧ W'.cell? ⟨w.heap.size + 1, 0, none⟩ = some (.int .i64 (hiW y)) ∧ W'.cell? ⟨w.heap.size + 1, 1, none⟩ = some (.int .u64 (loW y)) ∧ W'.cell? ⟨b, off + k, none⟩ = some (.int .i64 z)) wr.drew := ⟨Lib.hid (Below.refl _ wr).drew, hM.out.acc.c0, hM.out.acc.c1, z1⟩
      clear hx hb hz hzr hy z1
      go_wp2
      refine region_late (S := (fun W' : World => Hid (Below wr.heap.size wr W') ∧ W'.cell? ⟨w.heap.size + 1, 0, none⟩ = some (.int .i64 (hiW y)) ∧ W'.cell? ⟨w.heap.size + 1, 1, none⟩ = some (.int .u64 (loW y)) ∧ W'.cell? ⟨b, off + k, none⟩ = some (.int .i64 z))) (fun n => n == 7) (by kernel_rfl) hMd (fun hHeld => ?_)
      clear hMd
      generalize World.drew wr = Wd at *
      refine wpAnyL_take (i := 0) (oi := { dst := some 12, op := _, type := _, pos := _, after := _, guard := _ }) (v := ?v1) rfl (by kernel_rfl) (by kernel_rfl) (by kernel_rfl) (by kernel_rfl) (fun _ _ _ h => h) (Or.inl ⟨by kernel_rfl, ?y1⟩) hHeld ?r1
      case y1 =>
        intro w hSw
        try dsimp only at hSw
        try simp only [List.getElem_toArray, List.getElem_cons_zero, List.getElem_cons_succ]
        go_simp
        try with_reducible rfl
      try simp only [List.getElem_toArray, List.getElem_cons_zero, List.getElem_cons_succ, Act.put, List.setIfInBounds_toArray, List.set_cons_zero, List.set_cons_succ]
      refine wpAnyL_take (i := 1) (oi := { dst := some 13, op := _, type := _, pos := _, after := _, guard := _ }) (v := ?v2) rfl (by kernel_rfl) (by kernel_rfl) (by kernel_rfl) (by kernel_rfl) (fun _ _ _ h => h) (Or.inl ⟨by kernel_rfl, ?y2⟩) hHeld ?r2
      case y2 =>
        intro w hSw
        try dsimp only at hSw
        try simp only [List.getElem_toArray, List.getElem_cons_zero, List.getElem_cons_succ]
        go_simp
        try with_reducible rfl
      try simp only [List.getElem_toArray, List.getElem_cons_zero, List.getElem_cons_succ, Act.put, List.setIfInBounds_toArray, List.set_cons_zero, List.set_cons_succ]
      refine wpAnyL_take (i := 2) (oi := { dst := some 14, op := _, type := _, pos := _, after := _, guard := _ }) (v := ?v3) rfl (by kernel_rfl) (by kernel_rfl) (by kernel_rfl) (by kernel_rfl) (fun _ _ _ h => h) (Or.inl ⟨by kernel_rfl, ?y3⟩) hHeld ?r3
      case y3 =>
        intro w hSw
        try dsimp only at hSw
        try simp only [List.getElem_toArray, List.getElem_cons_zero, List.getElem_cons_succ]
        go_simp
        try with_reducible rfl
      try simp only [List.getElem_toArray, List.getElem_cons_zero, List.getElem_cons_succ, Act.put, List.setIfInBounds_toArray, List.set_cons_zero, List.set_cons_succ]
      refine wpAnyL_take (i := 3) (oi := { dst := some 15, op := _, type := _, pos := _, after := _, guard := _ }) (v := ?v4) rfl (by kernel_rfl) (by kernel_rfl) (by kernel_rfl) (by kernel_rfl) (fun _ _ _ h => h) (Or.inl ⟨by kernel_rfl, ?y4⟩) hHeld ?r4
      case y4 =>
        intro w hSw
        try dsimp only at hSw
        try simp only [List.getElem_toArray, List.getElem_cons_zero, List.getElem_cons_succ]
        go_simp
        try with_reducible rfl
      try simp only [List.getElem_toArray, List.getElem_cons_zero, List.getElem_cons_succ, Act.put, List.setIfInBounds_toArray, List.set_cons_zero, List.set_cons_succ]
      refine wpAnyL_take (i := 4) (oi := { dst := some 16, op := _, type := _, pos := _, after := _, guard := _ }) (v := ?v5) rfl (by kernel_rfl) (by kernel_rfl) (by kernel_rfl) (by kernel_rfl) (fun _ _ _ h => h) (Or.inl ⟨by kernel_rfl, ?y5⟩) hHeld ?r5
      case y5 =>
        intro w hSw
        try dsimp only at hSw
        try simp only [List.getElem_toArray, List.getElem_cons_zero, List.getElem_cons_succ]
        go_simp
        try with_reducible rfl
      try simp only [List.getElem_toArray, List.getElem_cons_zero, List.getElem_cons_succ, Act.put, List.setIfInBounds_toArray, List.set_cons_zero, List.set_cons_succ]
      refine wpAnyL_one (i := 5) (by kernel_rfl) rfl (fun K hK => ?_)
      try simp only [List.getElem_toArray, List.getElem_cons_zero, List.getElem_cons_succ]
      go_simp
      go_at_call 92
      refine (kof.out _).mono ?_
      rintro e Wn5 ⟨rfl, hbn⟩
      have hnew := Lib.hid (keep4 hbn hHeld)
      refine hK.out _ _ (fun _ => hnew.out) ?_
      have hHeld' := hnew.out
      clear hHeld hnew hK K hbn
      have hHeld := hHeld'
      clear hHeld'
      try simp only [List.getElem_toArray, List.getElem_cons_zero, List.getElem_cons_succ, Act.put, List.setIfInBounds_toArray, List.set_cons_zero, List.set_cons_succ]
      refine wpAnyL_one (i := 6) (by kernel_rfl) rfl (fun K hK => ?_)
      try simp only [List.getElem_toArray, List.getElem_cons_zero, List.getElem_cons_succ]
      go_simp
      go_at_call 91
      refine (kadd.out _).mono ?_
      rintro e Wn6 ⟨rfl, hbn⟩
      unfold wdV
      have hnew := Lib.hid (keep4 hbn hHeld)
      refine hK.out _ _ (fun _ => hnew.out) ?_
      have hHeld' := hnew.out
      clear hHeld hnew hK K hbn
      have hHeld := hHeld'
      clear hHeld'
      try simp only [List.getElem_toArray, List.getElem_cons_zero, List.getElem_cons_succ, Act.put, List.setIfInBounds_toArray, List.set_cons_zero, List.set_cons_succ]
      refine wpAnyL_one (i := 7) (by kernel_rfl) rfl (fun K hK => ?_)
      have y4 := hM.out.acc.later hHeld.1.out
      have f4 := y4.frozen 0
      have f5 := y4.frozen 1
      have e4 := y4.c0
      have e5 := y4.c1
      try simp only [List.getElem_toArray, List.getElem_cons_zero, List.getElem_cons_succ]
      go_simp
      refine hK.out _ _ (fun h => by cases h) ?_
      clear hK K
      try simp only [List.getElem_toArray, List.getElem_cons_zero, List.getElem_cons_succ, Act.put, List.setIfInBounds_toArray, List.set_cons_zero, List.set_cons_succ]
      refine wpAnyL_done (by kernel_rfl) (OnlyN.normal ?_) _
      have hstep := Lib.hid (hM.out.step hHeld.1.out (y + z))
      clear hHeld y4 f4 f5 e4 e5
      go_wp2
      go_roundw
      case rel => exact ⟨k + 1, by omega, by go_num, by rw [hst.out]; exact hstep⟩
      case measure => simp [intOf]; omega
    · have hkd : decide ((k : Int) < (zs.length : Int)) = false := decide_eq_false (by omega)
      have hkd2 : decide (k < zs.length) = false := decide_eq_false hlt
      have htk : zs.take k = zs := List.take_of_length_le (by omega)
      rw [htk] at hM
      obtain ⟨S, hS⟩ : ∃ S, zs.sum = S := ⟨_, rfl⟩
      rw [hS] at hM
      have hS' := Lib.hid hS
      clear hS
      have c0 := hM.out.acc.c0; have c1 := hM.out.acc.c1
      have f0 := hM.out.res.frozen 0; have f1 := hM.out.res.frozen 1
      have e0 := hM.out.res.c0; have e1 := hM.out.res.c1
      have y4 := hM.out.res.set S
      have d0 := y4.c0; have d1 := y4.c1
      have hBf := (hM.out.below.setCell (p := ⟨w.heap.size, 0, none⟩) (Nat.le_refl _) (.int .i64 (hiW S))).setCell (p := ⟨w.heap.size, 1, none⟩) (Nat.le_refl _) (.int .u64 (loW S))
      go_wp2
      refine bodyPost_ret (v := .agg #[.int .i64 (hiW S), .int .u64 (loW S)]) ?_ rfl ⟨by rw [hS'.out], hBf⟩
      simp [results, Tryd.results59, go_sem, d0, d1]
theorem someC_len (b : Sl) (rows : List Ch) : (someC b rows).length ≤ 65536 := by
  unfold someC
  by_cases h : isRightB b = true ∧ rightL rows = true
  · rw [if_pos h, List.length_map]
    unfold someR
    refine Nat.le_trans (List.length_filter_le _ _) ?_
    have := rows_len rows
    unfold valL at this
    rwa [if_pos h.2] at this
  · rw [if_neg h]; exact Nat.zero_le _
theorem someC_range {b : Sl} (hl : -9223372036854775808 ≤ b.least ∧ b.least ≤ 9223372036854775807) (rows : List Ch) : ∀ z ∈ someC b rows, -9223372036854775808 ≤ z ∧ z ≤ 9223372036854775807 := by
  intro z hz
  unfold someC at hz
  by_cases h : isRightB b = true ∧ rightL rows = true
  · rw [if_pos h] at hz
    obtain ⟨r, hr, rfl⟩ := List.mem_map.1 hz
    obtain ⟨h1, h2, h3⟩ := (someR_mem h.2).1 hr
    exact num_range hl ((right_iff hl).1 h.1) h1 h3
  · rw [if_neg h] at hz; cases hz

set_option linter.unusedSimpArgs false in
set_option maxRecDepth 100000 in
set_option maxHeartbeats 4000000 in
theorem rsumS_any {b : Sl} {rows : List Ch} {vE vB vr : Value} {w : World} (hE : HC w vE b.ex) (hB : HR w vB b.bits) (hr : HC w vr rows) (hs : SmallB b) (hsr : Small rows) :
    Calls Tryd.prog 27 #[.agg #[.int .i64 b.n, .int .i64 b.least, vE, vB], .agg #[vr]] w fun e W' => e = .returned (.tuple #[wdV (sumB b rows).1, .int .i64 (sumB b rows).2.1, .int .i64 (sumB b rows).2.2]) ∧ Below w.heap.size w W' := by
  obtain ⟨pE, cE, rfl, -, -⟩ := Hid.out hE
  obtain ⟨pB, cB, rfl, -, -⟩ := Hid.out hB
  obtain ⟨pr, cr, rfl, -, -⟩ := Hid.out hr
  have x1 := (SBox.new w 31 b.n b.least (.slice pE b.ex.length cE) (.slice pB b.bits.length cB)).alloc (.cells #[.slice pr rows.length cr] 28)
  have r1 := RBox.new (w.alloc (.cells #[.int .i64 b.n, .int .i64 b.least, .slice pE b.ex.length cE, .slice pB b.bits.length cB] 31)) (.slice pr rows.length cr)
  simp only [World.size_alloc] at r1
  have hR2 : Below w.heap.size w ((w.alloc (.cells #[.int .i64 b.n, .int .i64 b.least, .slice pE b.ex.length cE, .slice pB b.bits.length cB] 31)).alloc (.cells #[.slice pr rows.length cr] 28)) := ((Below.refl w.heap.size w).alloc (Nat.le_refl _) _).alloc (by simp) _
  have hR : Below w.heap.size w (((w.alloc (.cells #[.int .i64 b.n, .int .i64 b.least, .slice pE b.ex.length cE, .slice pB b.bits.length cB] 31)).alloc (.cells #[.slice pr rows.length cr] 28)).alloc (.cells #[.int .i64 0, .int .u64 0] 43)) := hR2.alloc (by simp; omega) _
  have z1 := WBox.zero ((w.alloc (.cells #[.int .i64 b.n, .int .i64 b.least, .slice pE b.ex.length cE, .slice pB b.bits.length cB] 31)).alloc (.cells #[.slice pr rows.length cr] 28))
  simp only [World.size_alloc] at z1
  have x2 := x1.alloc (.cells #[.int .i64 0, .int .u64 0] 43)
  have r2 := r1.alloc (.cells #[.int .i64 0, .int .u64 0] 43)
  have c0 := x2.c0; have c1 := x2.c1; have c2 := x2.c2; have c3 := x2.c3; have s1 := r2.cell
  have hR' := Lib.hid hR
  have z1' := Lib.hid z1
  have hl := And.intro hs.lo hs.hi
  have k1 := rsome_any (hE.later hR) (hB.later hR) (hr.later hR) hs hsr
  have hlen := someC_len b rows
  have hrg := Lib.hid (someC_range hl rows)
  clear x1 x2 r1 r2 z1 hR hR2 hE hB hs hr hsr
  by_cases hok : isRightB b = true ∧ rightL rows = true
  · have hfin := Lib.hid (sum_ref hl hok)
    have k1' : Hid (Calls Tryd.prog 58 #[.agg #[.int .i64 b.n, .int .i64 b.least, .slice pE b.ex.length cE, .slice pB b.bits.length cB], .agg #[.slice pr rows.length cr]] _ _) := Lib.hid (by
      rw [hok.1, hok.2] at k1
      exact k1)
    rw [hfin.out]
    dsimp only
    clear k1 hok hl hfin
    generalize someC b rows = l at *
    unfold wdV
    go_enter Tryd.func27, Tryd.ntmps27
    go_wp2_with (first
      | (go_at_call 58
         refine (k1'.out).mono ?_
         rintro e W2 ⟨v, rfl, hi, hb⟩
         obtain ⟨pl, cl, rfl, -⟩ := Ints.slice hi
         have kS := Lib.hid (rsumW_any hi hrg.out (by omega))
         have z2 := Lib.hid (z1'.out.later hb)
         have hB2 := Lib.hid (hR'.out.trans (hb.mono hR'.out.size))
         clear c0 c1 c2 c3 s1 k1' hi hb)
      | (go_at_call 59
         refine (kS.out).mono ?_
         rintro e W3 ⟨rfl, hb3⟩
         have z3 := z2.out.later hb3
         have f0 := z3.frozen 0
         have f1 := z3.frozen 1
         have e0 := z3.c0
         have e1 := z3.c1
         have hB3 := Lib.hid (hB2.out.trans (hb3.mono hB2.out.size))
         clear kS hb3
         unfold wdV))
    have y4 := z3.set l.sum
    have d0 := y4.c0; have d1 := y4.c1
    have hBf := (hB3.out.setCell (p := ⟨w.heap.size + 1 + 1, 0, none⟩) (by dsimp only; omega) (.int .i64 (hiW l.sum))).setCell (p := ⟨w.heap.size + 1 + 1, 1, none⟩) (by dsimp only; omega) (.int .u64 (loW l.sum))
    refine bodyPost_ret (v := .tuple #[.agg #[.int .i64 (hiW l.sum), .int .u64 (loW l.sum)], .int .i64 (l.length : Int), .int .i64 0]) ?_ rfl ⟨rfl, hBf⟩
    simp [results, Tryd.results27, go_sem, d0, d1]
  · have hfin := Lib.hid (sumB_no hok)
    have k1' : Hid (Calls Tryd.prog 58 #[.agg #[.int .i64 b.n, .int .i64 b.least, .slice pE b.ex.length cE, .slice pB b.bits.length cB], .agg #[.slice pr rows.length cr]] _ _) := Lib.hid (by
      rw [show (isRightB b && rightL rows) = false by cases h1 : isRightB b <;> cases h2 : rightL rows <;> simp_all] at k1
      exact k1)
    rw [hfin.out]
    dsimp only
    clear k1 hok hl hfin
    unfold wdV
    rw [hiW0, loW0]
    go_enter Tryd.func27, Tryd.ntmps27
    go_wp2_with (go_at_call 58; refine (k1'.out).mono ?_; rintro e W2 ⟨v, rfl, -, hb⟩; have z3 := z1'.out.later hb; have f0 := z3.frozen 0; have f1 := z3.frozen 1; have e0 := z3.c0; have e1 := z3.c1; have hB3 := Lib.hid (hR'.out.trans (hb.mono hR'.out.size)); clear c0 c1 c2 c3 s1 k1' hb)
    have y4 := z3.set 0
    rw [hiW0, loW0] at y4
    have d0 := y4.c0; have d1 := y4.c1
    have hBf := (hB3.out.setCell (p := ⟨w.heap.size + 1 + 1, 0, none⟩) (by dsimp only; omega) (.int .i64 0)).setCell (p := ⟨w.heap.size + 1 + 1, 1, none⟩) (by dsimp only; omega) (.int .u64 0)
    refine bodyPost_ret (v := .tuple #[.agg #[.int .i64 0, .int .u64 0], .int .i64 0, .int .i64 80]) ?_ rfl ⟨rfl, hBf⟩
    simp [results, Tryd.results27, go_sem, d0, d1, hiW0, loW0]

set_option linter.unusedSimpArgs false in
set_option maxRecDepth 100000 in
set_option maxHeartbeats 4000000 in
theorem rleast_any {b : Sl} {rows : List Ch} {vE vB vr : Value} {w : World} (hE : HC w vE b.ex) (hB : HR w vB b.bits) (hr : HC w vr rows) (hs : SmallB b) (hsr : Small rows) :
    Calls Tryd.prog 29 #[.agg #[.int .i64 b.n, .int .i64 b.least, vE, vB], .agg #[vr]] w fun e W' => e = .returned (.tuple #[.int .i64 (lstB b rows).1, .bool (lstB b rows).2]) ∧ Below w.heap.size w W' := by
  obtain ⟨pE, cE, rfl, -, -⟩ := Hid.out hE
  obtain ⟨pB, cB, rfl, -, -⟩ := Hid.out hB
  obtain ⟨pr, cr, rfl, -, -⟩ := Hid.out hr
  have x1 := (SBox.new w 31 b.n b.least (.slice pE b.ex.length cE) (.slice pB b.bits.length cB)).alloc (.cells #[.slice pr rows.length cr] 28)
  have r1 := RBox.new (w.alloc (.cells #[.int .i64 b.n, .int .i64 b.least, .slice pE b.ex.length cE, .slice pB b.bits.length cB] 31)) (.slice pr rows.length cr)
  simp only [World.size_alloc] at r1
  have hR : Below w.heap.size w ((w.alloc (.cells #[.int .i64 b.n, .int .i64 b.least, .slice pE b.ex.length cE, .slice pB b.bits.length cB] 31)).alloc (.cells #[.slice pr rows.length cr] 28)) := ((Below.refl w.heap.size w).alloc (Nat.le_refl _) _).alloc (by simp) _
  have c0 := x1.c0; have c1 := x1.c1; have c2 := x1.c2; have c3 := x1.c3; have s1 := r1.cell
  have hR' := Lib.hid hR
  have hl := And.intro hs.lo hs.hi
  have k1' := Lib.hid (rsome_any (hE.later hR) (hB.later hR) (hr.later hR) hs hsr)
  have hlen := someC_len b rows
  rw [(lst_ref hl rows).1]
  clear x1 r1 hR hE hB hs hr hsr hl
  generalize (isRightB b && rightL rows) = okk at *
  generalize someC b rows = l at *
  by_cases hz : l.length = 0
  · have hfin := Lib.hid (show lstR l = (0, false) from if_pos hz)
    rw [hfin.out]
    dsimp only
    have hz' := Lib.hid hz
    clear hfin hz hlen
    go_enter Tryd.func29, Tryd.ntmps29
    go_wp2_with (go_at_call 58; refine (k1'.out).mono ?_; rintro e W2 ⟨v, rfl, hi, hb⟩; obtain ⟨pl, cl, rfl, -⟩ := Ints.slice hi; rw [hz'.out]; clear hi c0 c1 c2 c3 s1 k1')
    exact bodyPost_ret (v := .tuple #[.int .i64 0, .bool false]) (by simp [results, Tryd.results29, go_sem]) rfl ⟨rfl, hR'.out.trans (hb.mono hR'.out.size)⟩
  · have hfin := Lib.hid (show lstR l = (l.foldl mnI (l[0]?.getD 0), true) from if_neg hz)
    rw [hfin.out]
    dsimp only
    obtain ⟨n0, hn0⟩ : ∃ n0, l[0]?.getD 0 = n0 := ⟨_, rfl⟩
    rw [hn0]
    have hn0' := Lib.hid hn0
    clear hn0
    have hpos := Lib.hid (Nat.pos_of_ne_zero hz)
    have g0 : ((l.length : Int) == 0) = false := beq_false_of_ne (by omega)
    have g1 : (0 : Int) < (l.length : Int) := by omega
    clear hfin hz
    go_enter Tryd.func29, Tryd.ntmps29
    go_wp2_with (go_at_call 58; refine (k1'.out).mono ?_; rintro e W2 ⟨v, rfl, hi, hb⟩; obtain ⟨pl, cl, rfl, hc0⟩ := Ints.slice hi; have hc := Lib.hid hc0; obtain ⟨b1, o1, rfl, hb1, e0⟩ := hc0 0 hpos.out; rw [hn0'.out] at e0; have e1 : W2.cell? ⟨b1, o1, none⟩ = some (.int .i64 n0) := e0; clear e0; have hB2 := Lib.hid (hR'.out.trans (hb.mono hR'.out.size)); clear hi c0 c1 c2 c3 s1 k1' hb hb1 hc0)
    clear e1 g0
    go_loopw [8, 9] (fun v i wr => ∃ k : Nat, k ≤ l.length ∧ i = .int .i64 k ∧ v = .int .i64 ((l.take k).foldl mnI n0) ∧ Hid (Below W2.heap.size W2 wr))
      (fun _ i _ => l.length - (intOf i).toNat)
    case atStart => exact ⟨0, Nat.zero_le _, rfl, rfl, Lib.hid (Below.refl _ _)⟩
    case round =>
      obtain ⟨k, hk, rfl, rfl, hB⟩ := hrel
      by_cases hlt : k < l.length
      · have hkd : decide ((k : Int) < (l.length : Int)) = true := decide_eq_true (by omega)
        have hkd2 : decide (k < l.length) = true := decide_eq_true hlt
        have hkl : (k : Int) < (l.length : Int) := by omega
        obtain ⟨b2, o2, hp, hb2, e2⟩ := hc.out k hlt
        simp only [Option.some.injEq, Addr.mk.injEq, and_true] at hp
        obtain ⟨rfl, rfl⟩ := hp
        obtain ⟨z, hz⟩ : ∃ z, l[k]?.getD 0 = z := ⟨_, rfl⟩
        rw [hz] at e2
        have z1 := (hB.out.cell (p := ⟨b1, o1 + k, none⟩) hb2).trans e2
        have hst : Hid ((l.take (k + 1)).foldl mnI n0 = mnI ((l.take k).foldl mnI n0) z) := Lib.hid (by
          rw [List.take_succ_eq_append_getElem hlt, List.foldl_append, ← hz, List.getElem?_eq_getElem hlt]
          rfl)
        generalize (l.take k).foldl mnI n0 = y at *
        clear e2 hz hb2
        by_cases hc2 : z < y
        · have hd : decide (z < y) = true := decide_eq_true hc2
          have hv := Lib.hid (show mnI y z = z from if_pos hc2)
          go_wp2
          go_roundw
          case rel => exact ⟨k + 1, by omega, by go_num, by rw [hst.out, hv.out], hB⟩
          case measure => simp [intOf]; omega
        · have hd : decide (z < y) = false := decide_eq_false hc2
          have hv := Lib.hid (show mnI y z = y from if_neg hc2)
          go_wp2
          go_roundw
          case rel => exact ⟨k + 1, by omega, by go_num, by rw [hst.out, hv.out], hB⟩
          case measure => simp [intOf]; omega
      · have hkd : decide ((k : Int) < (l.length : Int)) = false := decide_eq_false (by omega)
        have hkd2 : decide (k < l.length) = false := decide_eq_false hlt
        have htk : l.take k = l := List.take_of_length_le (by omega)
        rw [htk]
        clear htk hlt
        go_wp2
        exact bodyPost_ret (v := .tuple #[.int .i64 (l.foldl mnI n0), .bool true]) (by simp [results, Tryd.results29, go_sem]) rfl ⟨rfl, hB2.out.trans (hB.out.mono hB2.out.size)⟩

set_option linter.unusedSimpArgs false in
set_option maxRecDepth 100000 in
set_option maxHeartbeats 4000000 in
theorem rmost_any {b : Sl} {rows : List Ch} {vE vB vr : Value} {w : World} (hE : HC w vE b.ex) (hB : HR w vB b.bits) (hr : HC w vr rows) (hs : SmallB b) (hsr : Small rows) :
    Calls Tryd.prog 31 #[.agg #[.int .i64 b.n, .int .i64 b.least, vE, vB], .agg #[vr]] w fun e W' => e = .returned (.tuple #[.int .i64 (mstB b rows).1, .bool (mstB b rows).2]) ∧ Below w.heap.size w W' := by
  obtain ⟨pE, cE, rfl, -, -⟩ := Hid.out hE
  obtain ⟨pB, cB, rfl, -, -⟩ := Hid.out hB
  obtain ⟨pr, cr, rfl, -, -⟩ := Hid.out hr
  have x1 := (SBox.new w 31 b.n b.least (.slice pE b.ex.length cE) (.slice pB b.bits.length cB)).alloc (.cells #[.slice pr rows.length cr] 28)
  have r1 := RBox.new (w.alloc (.cells #[.int .i64 b.n, .int .i64 b.least, .slice pE b.ex.length cE, .slice pB b.bits.length cB] 31)) (.slice pr rows.length cr)
  simp only [World.size_alloc] at r1
  have hR : Below w.heap.size w ((w.alloc (.cells #[.int .i64 b.n, .int .i64 b.least, .slice pE b.ex.length cE, .slice pB b.bits.length cB] 31)).alloc (.cells #[.slice pr rows.length cr] 28)) := ((Below.refl w.heap.size w).alloc (Nat.le_refl _) _).alloc (by simp) _
  have c0 := x1.c0; have c1 := x1.c1; have c2 := x1.c2; have c3 := x1.c3; have s1 := r1.cell
  have hR' := Lib.hid hR
  have hl := And.intro hs.lo hs.hi
  have k1' := Lib.hid (rsome_any (hE.later hR) (hB.later hR) (hr.later hR) hs hsr)
  have hlen := someC_len b rows
  rw [(lst_ref hl rows).2]
  clear x1 r1 hR hE hB hs hr hsr hl
  generalize (isRightB b && rightL rows) = okk at *
  generalize someC b rows = l at *
  by_cases hz : l.length = 0
  · have hfin := Lib.hid (show mstR l = (0, false) from if_pos hz)
    rw [hfin.out]
    dsimp only
    have hz' := Lib.hid hz
    clear hfin hz hlen
    go_enter Tryd.func31, Tryd.ntmps31
    go_wp2_with (go_at_call 58; refine (k1'.out).mono ?_; rintro e W2 ⟨v, rfl, hi, hb⟩; obtain ⟨pl, cl, rfl, -⟩ := Ints.slice hi; rw [hz'.out]; clear hi c0 c1 c2 c3 s1 k1')
    exact bodyPost_ret (v := .tuple #[.int .i64 0, .bool false]) (by simp [results, Tryd.results31, go_sem]) rfl ⟨rfl, hR'.out.trans (hb.mono hR'.out.size)⟩
  · have hfin := Lib.hid (show mstR l = (l.foldl mxI (l[0]?.getD 0), true) from if_neg hz)
    rw [hfin.out]
    dsimp only
    obtain ⟨n0, hn0⟩ : ∃ n0, l[0]?.getD 0 = n0 := ⟨_, rfl⟩
    rw [hn0]
    have hn0' := Lib.hid hn0
    clear hn0
    have hpos := Lib.hid (Nat.pos_of_ne_zero hz)
    have g0 : ((l.length : Int) == 0) = false := beq_false_of_ne (by omega)
    have g1 : (0 : Int) < (l.length : Int) := by omega
    clear hfin hz
    go_enter Tryd.func31, Tryd.ntmps31
    go_wp2_with (go_at_call 58; refine (k1'.out).mono ?_; rintro e W2 ⟨v, rfl, hi, hb⟩; obtain ⟨pl, cl, rfl, hc0⟩ := Ints.slice hi; have hc := Lib.hid hc0; obtain ⟨b1, o1, rfl, hb1, e0⟩ := hc0 0 hpos.out; rw [hn0'.out] at e0; have e1 : W2.cell? ⟨b1, o1, none⟩ = some (.int .i64 n0) := e0; clear e0; have hB2 := Lib.hid (hR'.out.trans (hb.mono hR'.out.size)); clear hi c0 c1 c2 c3 s1 k1' hb hb1 hc0)
    clear e1 g0
    go_loopw [8, 9] (fun v i wr => ∃ k : Nat, k ≤ l.length ∧ i = .int .i64 k ∧ v = .int .i64 ((l.take k).foldl mxI n0) ∧ Hid (Below W2.heap.size W2 wr))
      (fun _ i _ => l.length - (intOf i).toNat)
    case atStart => exact ⟨0, Nat.zero_le _, rfl, rfl, Lib.hid (Below.refl _ _)⟩
    case round =>
      obtain ⟨k, hk, rfl, rfl, hB⟩ := hrel
      by_cases hlt : k < l.length
      · have hkd : decide ((k : Int) < (l.length : Int)) = true := decide_eq_true (by omega)
        have hkd2 : decide (k < l.length) = true := decide_eq_true hlt
        have hkl : (k : Int) < (l.length : Int) := by omega
        obtain ⟨b2, o2, hp, hb2, e2⟩ := hc.out k hlt
        simp only [Option.some.injEq, Addr.mk.injEq, and_true] at hp
        obtain ⟨rfl, rfl⟩ := hp
        obtain ⟨z, hz⟩ : ∃ z, l[k]?.getD 0 = z := ⟨_, rfl⟩
        rw [hz] at e2
        have z1 := (hB.out.cell (p := ⟨b1, o1 + k, none⟩) hb2).trans e2
        have hst : Hid ((l.take (k + 1)).foldl mxI n0 = mxI ((l.take k).foldl mxI n0) z) := Lib.hid (by
          rw [List.take_succ_eq_append_getElem hlt, List.foldl_append, ← hz, List.getElem?_eq_getElem hlt]
          rfl)
        generalize (l.take k).foldl mxI n0 = y at *
        clear e2 hz hb2
        by_cases hc2 : y < z
        · have hd : decide (y < z) = true := decide_eq_true hc2
          have hv := Lib.hid (show mxI y z = z from if_pos hc2)
          go_wp2
          go_roundw
          case rel => exact ⟨k + 1, by omega, by go_num, by rw [hst.out, hv.out], hB⟩
          case measure => simp [intOf]; omega
        · have hd : decide (y < z) = false := decide_eq_false hc2
          have hv := Lib.hid (show mxI y z = y from if_neg hc2)
          go_wp2
          go_roundw
          case rel => exact ⟨k + 1, by omega, by go_num, by rw [hst.out, hv.out], hB⟩
          case measure => simp [intOf]; omega
      · have hkd : decide ((k : Int) < (l.length : Int)) = false := decide_eq_false (by omega)
        have hkd2 : decide (k < l.length) = false := decide_eq_false hlt
        have htk : l.take k = l := List.take_of_length_le (by omega)
        rw [htk]
        clear htk hlt
        go_wp2
        exact bodyPost_ret (v := .tuple #[.int .i64 (l.foldl mxI n0), .bool true]) (by simp [results, Tryd.results31, go_sem]) rfl ⟨rfl, hB2.out.trans (hB.out.mono hB2.out.size)⟩

end Go.Proofs.YtnigpmbpipmgfaaDoor

/-
  BsiSums' walk. (Printed by genrbs.py.)
-/
namespace Go.Proofs.YtnigpmbpipmgfaaDoor
open Go.RowKit Tess

theorem RowR.setR {W : World} {base : Nat} {v : Value} {ls : List (List Ch)} (h : RowR W base v ls) {b : Nat} {u : Value} (hx : RBox W b u) (hlt : b < base) (u' : Value) : RowR (W.setCell ⟨b, 0, none⟩ u') base v ls := by
  obtain ⟨us, h1, h2⟩ := h
  refine ⟨us, h1.kept (grown_cell W ⟨b, 0, none⟩ u') ?_, fun j hj => ?_⟩
  · cases hv : v.ownBlock with
    | none => left; rfl
    | some g => right; have := (h1.lt g hv).1; simp; omega
  · obtain ⟨x, k1, k2, k3⟩ := h2 j hj
    exact ⟨x, k1, k2.setR hx u', k3⟩

set_option linter.unusedSimpArgs false in
set_option maxRecDepth 100000 in
set_option maxHeartbeats 4000000 in
theorem sums_walk {S k1v e1 n m : Int} {ok is : Bool} {rows rl : List Ch} {vE0 vB0 vr0 : Value} {b s : Sl} {w : World} 
    (hE0 : HC w vE0 b.ex) (hB0 : HR w vB0 b.bits)
    (kS : Hid (∀ W : World, Below w.heap.size w W → Calls Tryd.prog 10 #[] W fun e W' => e = .returned (.bool true) ∧ Below W.heap.size W W'))
    (kU : Hid (∀ (vE vB : Value) (W : World), Below w.heap.size w W → HC W vE b.ex → HR W vB b.bits → Calls Tryd.prog 19 #[.agg #[.int .i64 b.n, .int .i64 b.least, vE, vB]] W fun e W' => ∃ vE' vB', e = .returned (.agg #[.int .i64 s.n, .int .i64 s.least, vE', vB']) ∧ HC W' vE' s.ex ∧ (∃ base, W.heap.size ≤ base ∧ RowR W' base vB' s.bits) ∧ Below W.heap.size W W'))
    (hH0 : HC w vr0 rows)
    (kW : Hid (∀ (vr : Value) (W : World), Below w.heap.size w W → HC W vr rows → Calls Tryd.prog 26 #[.agg #[vr]] W fun e W' => ∃ v, e = .returned (.agg #[v]) ∧ HC W' v rl ∧ Below W.heap.size W W'))
    (kA : Hid (∀ (vE vB vr : Value) (W : World), Below w.heap.size w W → HC W vE s.ex → HR W vB s.bits → HC W vr rl → Calls Tryd.prog 16 #[.agg #[.int .i64 s.n, .int .i64 s.least, vE, vB], .agg #[vr]] W fun e W' => e = .returned (.tuple #[wdV S, .int .i64 k1v, .int .i64 e1]) ∧ Below W.heap.size W W'))
    (kB : Hid (∀ (vE vB vr : Value) (W : World), Below w.heap.size w W → HC W vE s.ex → HR W vB s.bits → HC W vr rl → Calls Tryd.prog 27 #[.agg #[.int .i64 s.n, .int .i64 s.least, vE, vB], .agg #[vr]] W fun e W' => e = .returned (.tuple #[wdV S, .int .i64 k1v, .int .i64 e1]) ∧ Below W.heap.size W W'))
    (kC : Hid (∀ (vE vB vr : Value) (W : World), Below w.heap.size w W → HC W vE s.ex → HR W vB s.bits → HC W vr rl → Calls Tryd.prog 28 #[.agg #[.int .i64 s.n, .int .i64 s.least, vE, vB], .agg #[vr]] W fun e W' => e = .returned (.tuple #[.int .i64 n, .bool ok]) ∧ Below W.heap.size W W'))
    (kD : Hid (∀ (vE vB vr : Value) (W : World), Below w.heap.size w W → HC W vE s.ex → HR W vB s.bits → HC W vr rl → Calls Tryd.prog 29 #[.agg #[.int .i64 s.n, .int .i64 s.least, vE, vB], .agg #[vr]] W fun e W' => e = .returned (.tuple #[.int .i64 n, .bool ok]) ∧ Below W.heap.size W W'))
    (kE : Hid (∀ (vE vB vr : Value) (W : World), Below w.heap.size w W → HC W vE s.ex → HR W vB s.bits → HC W vr rl → Calls Tryd.prog 30 #[.agg #[.int .i64 s.n, .int .i64 s.least, vE, vB], .agg #[vr]] W fun e W' => e = .returned (.tuple #[.int .i64 m, .bool is]) ∧ Below W.heap.size W W'))
    (kF : Hid (∀ (vE vB vr : Value) (W : World), Below w.heap.size w W → HC W vE s.ex → HR W vB s.bits → HC W vr rl → Calls Tryd.prog 31 #[.agg #[.int .i64 s.n, .int .i64 s.least, vE, vB], .agg #[vr]] W fun e W' => e = .returned (.tuple #[.int .i64 m, .bool is]) ∧ Below W.heap.size W W')) :
    Calls Tryd.prog 6 #[.agg #[.int .i64 b.n, .int .i64 b.least, vE0, vB0], .agg #[vr0]] w fun e W' => e = .returned (.bool true) ∧ Below w.heap.size w W' := by
  obtain ⟨pE0, cE0, rfl, -, -⟩ := Hid.out hE0
  obtain ⟨pB0, cB0, rfl, -, -⟩ := Hid.out hB0
  obtain ⟨pr0, cr0, rfl, -, -⟩ := Hid.out hH0
  have q := Lib.hid ((SBox.new w 31 b.n b.least (.slice pE0 b.ex.length cE0) (.slice pB0 b.bits.length cB0)).alloc (.cells #[.slice pr0 rows.length cr0] 28))
  have r1 := RBox.new (w.alloc (.cells #[.int .i64 b.n, .int .i64 b.least, .slice pE0 b.ex.length cE0, .slice pB0 b.bits.length cB0] 31)) (.slice pr0 rows.length cr0)
  simp only [World.size_alloc] at r1
  have r0 := Lib.hid r1
  have hA0 : Below w.heap.size w ((w.alloc (.cells #[.int .i64 b.n, .int .i64 b.least, .slice pE0 b.ex.length cE0, .slice pB0 b.bits.length cB0] 31)).alloc (.cells #[.slice pr0 rows.length cr0] 28)) := ((Below.refl w.heap.size w).alloc (Nat.le_refl _) _).alloc (by simp) _
  have hB := Lib.hid hA0
  have hF := hE0.later hA0
  have hG := hB0.later hA0
  have hH := hH0.later hA0
  have k0 := Lib.hid (kS.out _ hB.out)
  clear hE0 hB0 hH0 hA0 r1
  go_enter Tryd.func6, Tryd.ntmps6
  go_wp2_with (first
    | (go_at_call 10; refine (k0.out).mono ?_; rintro e W1 ⟨rfl, hb⟩; clear k0; have hbX := hb; clear hb; replace hB := Lib.hid (hB.out.trans (hbX.mono hB.out.size)); replace q := Lib.hid (q.out.later hbX); replace r0 := Lib.hid (r0.out.later hbX); replace hF := hF.later hbX; replace hG := hG.later hbX; replace hH := hH.later hbX; clear hbX; have c0 := q.out.c0; have c1 := q.out.c1; have c2 := q.out.c2; have c3 := q.out.c3; have f0 := q.out.frozen 0; have f1 := q.out.frozen 1; have f2 := q.out.frozen 2; have f3 := q.out.frozen 3; have k1 := Lib.hid (kU.out _ _ _ hB.out hF hG))
    | (go_at_call 19; refine (k1.out).mono ?_; rintro e W2 ⟨vE, vR, rfl, hE, ⟨base, hbase, hR⟩, hb⟩; obtain ⟨pE, cE, rfl, -, -⟩ := Hid.out hE; obtain ⟨pR, cR, rfl⟩ := hR.slice; clear k1 c0 c1 c2 c3 f0 f1 f2 f3 hF hG; have q3 := q.out.later hb; have f0 := q3.frozen 0; have f1 := q3.frozen 1; have f2 := q3.frozen 2; have f3 := q3.frozen 3; have c0 := q3.c0; have c1 := q3.c1; have c2 := q3.c2; have c3 := q3.c3; have hbb : w.heap.size < base := Nat.lt_of_lt_of_le q.out.lt hbase; replace hB := Lib.hid (((((hB.out.trans (hb.mono hB.out.size)).setCell (p := ⟨w.heap.size, 0, none⟩) (Nat.le_refl _) (.int .i64 s.n)).setCell (p := ⟨w.heap.size, 1, none⟩) (Nat.le_refl _) (.int .i64 s.least)).setCell (p := ⟨w.heap.size, 2, none⟩) (Nat.le_refl _) (.slice pE s.ex.length cE)).setCell (p := ⟨w.heap.size, 3, none⟩) (Nat.le_refl _) (.slice pR s.bits.length cR)); have hE3 := hE.set4 q3 ⟨_, _, _, rfl⟩ ⟨_, _, _, rfl⟩ s.n s.least ⟨pE, s.ex.length, cE, rfl⟩ (.slice pR s.bits.length cR); have hR3 := row_set4 hR q3 ⟨_, _, _, rfl⟩ ⟨_, _, _, rfl⟩ hbb s.n s.least ⟨pE, s.ex.length, cE, rfl⟩ (.slice pR s.bits.length cR); have hbase2 := Lib.hid (show w.heap.size + 1 < base from Nat.lt_of_lt_of_le r0.out.lt hbase); replace r0 := Lib.hid (((((r0.out.later hb).far (p := ⟨w.heap.size, 0, none⟩) (by dsimp only; omega) (.int .i64 s.n)).far (p := ⟨w.heap.size, 1, none⟩) (by dsimp only; omega) (.int .i64 s.least)).far (p := ⟨w.heap.size, 2, none⟩) (by dsimp only; omega) (.slice pE s.ex.length cE)).far (p := ⟨w.heap.size, 3, none⟩) (by dsimp only; omega) (.slice pR s.bits.length cR)); replace hH := (hH.later hb).set4 q3 ⟨_, _, _, rfl⟩ ⟨_, _, _, rfl⟩ s.n s.least ⟨pE, s.ex.length, cE, rfl⟩ (.slice pR s.bits.length cR); have y0 := r0.out.cell; have g0 := r0.out.frozen; replace q := Lib.hid (q3.set4 s.n s.least (.slice pE s.ex.length cE) (.slice pR s.bits.length cR)); clear hE hR hb hbb hbase q3; have k2 := Lib.hid (kW.out _ _ hB.out hH))
    | (go_at_call 26; refine (k2.out).mono ?_; rintro e W3 ⟨vr, rfl, hJ, hb⟩; obtain ⟨pr, cr, rfl, -, -⟩ := Hid.out hJ; clear k2 hH c0 c1 c2 c3 f0 f1 f2 f3 y0 g0; have r3 := r0.out.later hb; have g0 := r3.frozen; have y0 := r3.cell; have q4 := q.out.later hb; have c0 := q4.c0; have c1 := q4.c1; have c2 := q4.c2; have c3 := q4.c3; replace hB := Lib.hid ((hB.out.trans (hb.mono hB.out.size)).setCell (p := ⟨w.heap.size + 1, 0, none⟩) (by dsimp only; omega) (.slice pr rl.length cr)); replace hE3 := (hE3.later hb).setR r3 (.slice pr rl.length cr); replace hR3 := (hR3.later hb).setR r3 hbase2.out (.slice pr rl.length cr); replace hJ := hJ.setR r3 (.slice pr rl.length cr); replace q := Lib.hid (q4.far (p := ⟨w.heap.size + 1, 0, none⟩) (by dsimp only; omega) (.slice pr rl.length cr)); replace r0 := Lib.hid (r3.set (.slice pr rl.length cr)); clear hb r3 q4; have k3 := Lib.hid (kA.out _ _ _ _ hB.out hE3 hR3.hr hJ))
    | (go_at_call 16; refine (k3.out).mono ?_; rintro e W4 ⟨rfl, hb⟩; clear k3 y0 g0 c0 c1 c2 c3; unfold wdV; have hA := (Below.refl _ W4).alloc (Nat.le_refl _) (.cells #[.int .i64 (hiW S), .int .u64 (loW S)] 43); have hbX := hb.trans (hA.mono hb.size); replace hB := Lib.hid (hB.out.trans (hbX.mono hB.out.size)); replace q := Lib.hid (q.out.later hbX); replace r0 := Lib.hid (r0.out.later hbX); replace hE3 := hE3.later hbX; replace hR3 := hR3.later hbX; replace hJ := hJ.later hbX; have x6 := Lib.hid (WBox.new W4 S); clear hA hbX hb; have c0 := q.out.c0; have c1 := q.out.c1; have c2 := q.out.c2; have c3 := q.out.c3; have y0 := r0.out.cell; have k4 := Lib.hid (kB.out _ _ _ _ hB.out hE3 hR3.hr hJ))
    | (go_at_call 27; refine (k4.out).mono ?_; rintro e W5 ⟨rfl, hb⟩; clear k4 c0 c1 c2 c3 y0; unfold wdV; have hA := (Below.refl _ W5).alloc (Nat.le_refl _) (.cells #[.int .i64 (hiW S), .int .u64 (loW S)] 43); have hbX := hb.trans (hA.mono hb.size); replace hB := Lib.hid (hB.out.trans (hbX.mono hB.out.size)); replace q := Lib.hid (q.out.later hbX); replace r0 := Lib.hid (r0.out.later hbX); replace hE3 := hE3.later hbX; replace hR3 := hR3.later hbX; replace hJ := hJ.later hbX; replace x6 := Lib.hid (x6.out.later hbX); have x9 := Lib.hid (WBox.new W5 S); clear hA hbX hb; have c0 := q.out.c0; have c1 := q.out.c1; have c2 := q.out.c2; have c3 := q.out.c3; have y0 := r0.out.cell; have k5 := Lib.hid (kC.out _ _ _ _ hB.out hE3 hR3.hr hJ))
    | (go_at_call 28; refine (k5.out).mono ?_; rintro e W6 ⟨rfl, hb⟩; clear k5 c0 c1 c2 c3 y0; have hbX := hb; clear hb; replace hB := Lib.hid (hB.out.trans (hbX.mono hB.out.size)); replace q := Lib.hid (q.out.later hbX); replace r0 := Lib.hid (r0.out.later hbX); replace hE3 := hE3.later hbX; replace hR3 := hR3.later hbX; replace hJ := hJ.later hbX; replace x6 := Lib.hid (x6.out.later hbX); replace x9 := Lib.hid (x9.out.later hbX); clear hbX; have c0 := q.out.c0; have c1 := q.out.c1; have c2 := q.out.c2; have c3 := q.out.c3; have y0 := r0.out.cell; have k6 := Lib.hid (kD.out _ _ _ _ hB.out hE3 hR3.hr hJ))
    | (go_at_call 29; refine (k6.out).mono ?_; rintro e W7 ⟨rfl, hb⟩; clear k6 c0 c1 c2 c3 y0; have hbX := hb; clear hb; replace hB := Lib.hid (hB.out.trans (hbX.mono hB.out.size)); replace q := Lib.hid (q.out.later hbX); replace r0 := Lib.hid (r0.out.later hbX); replace hE3 := hE3.later hbX; replace hR3 := hR3.later hbX; replace hJ := hJ.later hbX; replace x6 := Lib.hid (x6.out.later hbX); replace x9 := Lib.hid (x9.out.later hbX); clear hbX; have c0 := q.out.c0; have c1 := q.out.c1; have c2 := q.out.c2; have c3 := q.out.c3; have y0 := r0.out.cell; have k7 := Lib.hid (kE.out _ _ _ _ hB.out hE3 hR3.hr hJ))
    | (go_at_call 30; refine (k7.out).mono ?_; rintro e W8 ⟨rfl, hb⟩; clear k7 c0 c1 c2 c3 y0; have hbX := hb; clear hb; replace hB := Lib.hid (hB.out.trans (hbX.mono hB.out.size)); replace q := Lib.hid (q.out.later hbX); replace r0 := Lib.hid (r0.out.later hbX); replace hE3 := hE3.later hbX; replace hR3 := hR3.later hbX; replace hJ := hJ.later hbX; replace x6 := Lib.hid (x6.out.later hbX); replace x9 := Lib.hid (x9.out.later hbX); clear hbX; have c0 := q.out.c0; have c1 := q.out.c1; have c2 := q.out.c2; have c3 := q.out.c3; have y0 := r0.out.cell; have k8 := Lib.hid (kF.out _ _ _ _ hB.out hE3 hR3.hr hJ))
    | (go_at_call 31; refine (k8.out).mono ?_; rintro e W9 ⟨rfl, hb⟩; clear k8 c0 c1 c2 c3 y0; have hbX := hb; clear hb; replace hB := Lib.hid (hB.out.trans (hbX.mono hB.out.size)); replace q := Lib.hid (q.out.later hbX); replace r0 := Lib.hid (r0.out.later hbX); replace hE3 := hE3.later hbX; replace hR3 := hR3.later hbX; replace hJ := hJ.later hbX; replace x6 := Lib.hid (x6.out.later hbX); replace x9 := Lib.hid (x9.out.later hbX); clear hbX; have c0 := x6.out.c0; have c1 := x6.out.c1; have d0 := x9.out.c0; have d1 := x9.out.c1))
  exact bodyPost_ret (v := .bool true) (by simp [results, Tryd.results6, go_sem]) rfl ⟨rfl, hB.out⟩

theorem sums8_any {b : Sl} {rows : List Ch} {vE vB vr : Value} {w : World} (hE : HC w vE b.ex) (hB : HR w vB b.bits) (hr : HC w vr rows) (hlr : -9223372036854775808 ≤ b.least ∧ b.least ≤ 9223372036854775807) (hT : Tab w) :
    Calls Tryd.prog 6 #[.agg #[.int .i64 b.n, .int .i64 b.least, vE, vB], .agg #[vr]] w fun e W' => e = .returned (.bool true) ∧ Below w.heap.size w W' := by
  have hsm := cutB_small hlr
  have hsr := fewL_small rows
  exact sums_walk (s := cutB b) (rl := fewL rows) (S := (sumB (cutB b) (fewL rows)).1) (k1v := (sumB (cutB b) (fewL rows)).2.1) (e1 := (sumB (cutB b) (fewL rows)).2.2) (n := (lstB (cutB b) (fewL rows)).1) (ok := (lstB (cutB b) (fewL rows)).2) (m := (mstB (cutB b) (fewL rows)).1) (is := (mstB (cutB b) (fewL rows)).2) hE hB
    (Lib.hid fun W h => shown8_any W (hT.below h hT.lt)) (Lib.hid fun vE vB W _ h1 h2 => cut_any h1 h2) hr (Lib.hid fun vr W _ h1 => fewR_any h1)
    (Lib.hid fun vE vB vr W h h1 h2 h3 => sumB_any h1 h2 h3 hsm hsr (hT.below h hT.lt)) (Lib.hid fun vE vB vr W h h1 h2 h3 => rsumS_any h1 h2 h3 hsm hsr)
    (Lib.hid fun vE vB vr W h h1 h2 h3 => leastB_any h1 h2 h3 hsm hsr (hT.below h hT.lt)) (Lib.hid fun vE vB vr W h h1 h2 h3 => rleast_any h1 h2 h3 hsm hsr)
    (Lib.hid fun vE vB vr W h h1 h2 h3 => mostB_any h1 h2 h3 hsm hsr (hT.below h hT.lt)) (Lib.hid fun vE vB vr W h h1 h2 h3 => rmost_any h1 h2 h3 hsm hsr)
end Go.Proofs.YtnigpmbpipmgfaaDoor
