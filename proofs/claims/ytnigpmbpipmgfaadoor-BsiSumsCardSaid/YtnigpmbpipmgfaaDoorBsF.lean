/-
  found; Least, Most.
-/
import Derived.Test.YtnigpmbpipmgfaaDoorBsS
namespace Go.Proofs.YtnigpmbpipmgfaaDoor
open Go.RowKit Tess

/-- found(b, rows, find), find answering u. -/
def fndB (b : Sl) (rows : List Ch) (u : Nat) : Int × Bool :=
  if (isRightB b = true ∧ rightL rows = true) ∧ andL b.ex rows ≠ [] then (IntKind.i64.wrap (b.least + (u : Int)), true) else (0, false)
theorem fndB_no {b : Sl} {rows : List Ch} {u : Nat} (h : ¬ ((isRightB b = true ∧ rightL rows = true) ∧ andL b.ex rows ≠ [])) : fndB b rows u = (0, false) := if_neg h
theorem fndB_yes {b : Sl} {rows : List Ch} {u : Nat} (h : (isRightB b = true ∧ rightL rows = true) ∧ andL b.ex rows ≠ []) : fndB b rows u = (IntKind.i64.wrap (b.least + (u : Int)), true) := if_pos h

theorem col_keep6 {w W Wn : World} {B b9 : Nat} {n least : Int} {vE vB v9 : Value} (hb : Below W.heap.size W Wn) (s1 : Hid (Below w.heap.size w W)) (s2 : Hid (SBox W 83 B n least vE vB)) (s3 : Hid (RBox W b9 v9)) :
    Hid (Below w.heap.size w Wn) ∧ Hid (SBox Wn 83 B n least vE vB) ∧ Hid (RBox Wn b9 v9) ∧ Wn.cell? ⟨b9, 0, none⟩ = some v9 ∧ Wn.cell? ⟨B, 0, none⟩ = some (.int .i64 n) ∧ Wn.cell? ⟨B, 1, none⟩ = some (.int .i64 least) ∧ Wn.cell? ⟨B, 2, none⟩ = some vE ∧ Wn.cell? ⟨B, 3, none⟩ = some vB :=
  ⟨Lib.hid (s1.out.trans (hb.mono s1.out.size)), Lib.hid (s2.out.later hb), Lib.hid (s3.out.later hb), (s3.out.later hb).cell, (s2.out.later hb).c0, (s2.out.later hb).c1, (s2.out.later hb).c2, (s2.out.later hb).c3⟩

set_option linter.unusedSimpArgs false in
set_option maxRecDepth 100000 in
set_option maxHeartbeats 4000000 in
theorem found_any {b : Sl} {rows : List Ch} {vE vB vr : Value} (gf : FuncId) (u : Nat) {w : World} (hent : ∀ args w, (callFunc gf args).run Tryd.prog w = .ok (.enter gf args) w)
    (kg : isRightB b = true → rightL rows = true → andL b.ex rows ≠ [] → ∀ W v, Below w.heap.size w W → HC W v (andL b.ex rows) → Calls Tryd.prog gf #[.agg #[.int .i64 b.n, .int .i64 b.least, vE, vB], .agg #[v]] W fun e W' => e = .returned (.int .u64 (u : Nat)) ∧ Below W.heap.size W W')
    (hE : HC w vE b.ex) (hB : HR w vB b.bits) (hr : HC w vr rows) (hs : SmallB b) (hsr : Small rows) (hT : Tab w) :
    Calls Tryd.prog 60 #[.agg #[.int .i64 b.n, .int .i64 b.least, vE, vB], .agg #[vr], .func (.func gf) #[] #[]] w fun e W' => e = .returned (.tuple #[.int .i64 (fndB b rows u).1, .bool (fndB b rows u).2]) ∧ Below w.heap.size w W' := by
  obtain ⟨pE, cE, rfl, -, -⟩ := Hid.out hE
  obtain ⟨pB, cB, rfl, -, -⟩ := Hid.out hB
  obtain ⟨pr, cr, rfl, -, -⟩ := Hid.out hr
  have hno := Lib.hid (@fndB_no b rows u)
  have hyes := Lib.hid (@fndB_yes b rows u)
  have hrc : Hid (isRightB b = true → rightL b.ex = true) := fun h => ((right_iff ⟨hs.lo, hs.hi⟩).1 h).rex
  have kR : Hid (∀ W, Below w.heap.size w W → Calls Tryd.prog 47 #[.agg #[.int .i64 b.n, .int .i64 b.least, .slice pE b.ex.length cE, .slice pB b.bits.length cB]] W fun e W' => e = .returned (.bool (isRightB b)) ∧ Below W.heap.size W W') := fun W h => isRight_any (hE.later h) (hB.later h) hs (hT.below h hT.lt)
  have kr : Hid (∀ W, Below w.heap.size w W → Calls Tryd.prog 48 #[.agg #[.slice pr rows.length cr]] W fun e W' => e = .returned (.bool (rightL rows)) ∧ Below W.heap.size W W') := fun W h => right_any (hr.later h) hsr.1 hsr.2 (hT.below h hT.lt)
  have kand : Hid (isRightB b = true → rightL rows = true → ∀ W, Below w.heap.size w W → Calls Tryd.prog 49 #[.agg #[.slice pE b.ex.length cE], .slice (some ⟨W.heap.size, 0, none⟩) 1 1] (W.alloc (.cells #[.slice pr rows.length cr] 28)) fun e W' => ∃ v', e = .returned (.agg #[v']) ∧ HC W' v' (andL b.ex rows) ∧ Below W.heap.size W W') := fun _ _ W h => and_fresh (hE.later h) (hr.later h) hs.ex hsr (hT.below h hT.lt)
  have kg' := Lib.hid kg
  have hsx := Lib.hid hs.ex
  clear hE hB hr hs hsr hT kg hrc
  generalize fndB b rows u = g at *
  generalize isRightB b = q at *
  generalize rightL rows = q2 at *
  generalize andL b.ex rows = al at *
  obtain ⟨N, least, ex, bs⟩ := b
  dsimp only at *
  generalize ex.length = lE at *
  generalize bs.length = lB at *
  generalize rows.length = lr at *
  have r1 := (RBox.new (w.alloc (.cells #[.int .i64 N, .int .i64 least, .slice pE lE cE, .slice pB lB cB] 31)) (.slice pr lr cr)).alloc (.cells #[.int .i64 N, .int .i64 least, .slice pE lE cE, .slice pB lB cB] 83)
  have b3 := SBox.new ((w.alloc (.cells #[.int .i64 N, .int .i64 least, .slice pE lE cE, .slice pB lB cB] 31)).alloc (.cells #[.slice pr lr cr] 28)) 83 N least (.slice pE lE cE) (.slice pB lB cB)
  have hR : Below w.heap.size w (((w.alloc (.cells #[.int .i64 N, .int .i64 least, .slice pE lE cE, .slice pB lB cB] 31)).alloc (.cells #[.slice pr lr cr] 28)).alloc (.cells #[.int .i64 N, .int .i64 least, .slice pE lE cE, .slice pB lB cB] 83)) := (((Below.refl w.heap.size w).alloc (Nat.le_refl _) _).alloc (by simp) _).alloc (by simp; omega) _
  simp only [World.size_alloc] at r1 b3
  have d1 := r1.cell
  have b3' := Lib.hid b3
  have r1' := Lib.hid r1
  have hR' := Lib.hid hR
  have k0 := Lib.hid (kR.out _ hR)
  clear r1 b3 hR kR hsx
  go_enter Tryd.func60, Tryd.ntmps60
  cases q with
  | false =>
    have hg := hno.out (by simp)
    subst hg
    clear hno hyes
    go_wp2_with (go_at_call 47; refine (k0.out).mono ?_; rintro e W2 ⟨rfl, hb2⟩)
    have hB2 := hR'.out.trans (hb2.mono hR'.out.size)
    exact bodyPost_ret (v := .tuple #[.int .i64 0, .bool false]) (by simp [results, Tryd.results60, go_sem]) rfl ⟨rfl, hB2⟩
  | true =>
    cases q2 with
    | false =>
      have hg := hno.out (by simp)
      subst hg
      clear hno hyes
      go_wp2_with (first
          | (go_at_call 47; refine (k0.out).mono ?_; rintro e W2 ⟨rfl, hb2⟩; have x2 := r1'.out.later hb2; have c2 := x2.cell; have hB1 := hR'.out.trans (hb2.mono hR'.out.size); have kr2 := Lib.hid (kr.out _ hB1))
          | (go_at_call 48; refine (kr2.out).mono ?_; rintro e W3 ⟨rfl, hb3⟩))
      have hB2 := hB1.trans (hb3.mono hB1.size)
      exact bodyPost_ret (v := .tuple #[.int .i64 0, .bool false]) (by simp [results, Tryd.results60, go_sem]) rfl ⟨rfl, hB2⟩
    | true =>
      have kand' := Lib.hid (kand.out rfl rfl)
      clear kand
      obtain ⟨la, hla⟩ : ∃ la, al.length = la := ⟨_, rfl⟩
      have hla' : Hid (la = 0 ↔ al = []) := by
        show _ ↔ _
        rw [← hla, List.length_eq_zero_iff]
      by_cases hz : la = 0
      · have hg := hno.out (fun h => h.2 (hla'.out.1 hz))
        subst hg
        have hzi : ((la : Int) == 0) = true := by simpa using hz
        clear hno hyes hz
        go_wp2_with (first
          | (go_at_call 47; refine (k0.out).mono ?_; rintro e W2 ⟨rfl, hb2⟩; have x2 := r1'.out.later hb2; have q3 := b3'.out.later hb2; have c2 := x2.cell; have hB1 := hR'.out.trans (hb2.mono hR'.out.size); have kr2 := Lib.hid (kr.out _ hB1))
          | (go_at_call 48; refine (kr2.out).mono ?_; rintro e W3 ⟨rfl, hb3⟩; have c3 := (x2.later hb3).cell; have ce := (q3.later hb3).c2; have hB3 := hB1.trans (hb3.mono hB1.size); have ka := Lib.hid (kand'.out _ hB3))
          | (go_at_call 49; refine (ka.out).mono ?_; rintro e W5 ⟨v5, rfl, hv5, hb5⟩; obtain ⟨p5, c5, rfl, -, -⟩ := Hid.out hv5; rw [hla]))
        have hB5 := hB3.trans (hb5.mono hB3.size)
        exact bodyPost_ret (v := .tuple #[.int .i64 0, .bool false]) (by simp [results, Tryd.results60, go_sem]) rfl ⟨rfl, hB5.alloc hB5.size _⟩
      · have hne : al ≠ [] := fun e => hz (hla'.out.2 e)
        have hg := hyes.out ⟨⟨rfl, rfl⟩, hne⟩
        subst hg
        have hzi : ((la : Int) == 0) = false := by simpa using hz
        have kg2 := Lib.hid (kg'.out rfl rfl hne)
        clear hno hyes hz hne kg'
        go_wp2_with (first
          | (go_at_call 47; refine (k0.out).mono ?_; rintro e W2 ⟨rfl, hb2⟩; have x2 := r1'.out.later hb2; have q3 := b3'.out.later hb2; have c2 := x2.cell; have hB1 := hR'.out.trans (hb2.mono hR'.out.size); have kr2 := Lib.hid (kr.out _ hB1))
          | (go_at_call 48; refine (kr2.out).mono ?_; rintro e W3 ⟨rfl, hb3⟩; have q4 := q3.later hb3; have c3 := (x2.later hb3).cell; have ce := q4.c2; have hB3 := hB1.trans (hb3.mono hB1.size); have ka := Lib.hid (kand'.out _ hB3))
          | (go_at_call 49; refine (ka.out).mono ?_; rintro e W5 ⟨v5, rfl, hv5, hb5⟩; obtain ⟨p5, c5, rfl, -, -⟩ := Hid.out hv5; rw [hla]))
        rw [hla] at hv5
        have hB5 := hB3.trans (hb5.mono hB3.size)
        have hA6 : Below W5.heap.size W5 (W5.alloc (.cells #[.slice p5 la c5] 28)) := (Below.refl _ W5).alloc (Nat.le_refl _) _
        have hB6 := hB5.trans (hA6.mono hB5.size)
        have q6 := (q4.later hb5).later hA6
        have r6 := RBox.new W5 (.slice p5 la c5)
        have hv6 : Hid (HC (W5.alloc (.cells #[.slice p5 la c5] 28)).drew (.slice p5 la c5) al) := (hv5.later hA6).later (Below.refl _ _).drew
        generalize W5.alloc (.cells #[.slice p5 la c5] 28) = W6 at *
        generalize W5.heap.size = b9 at *
        have hMd := col_keep6 (Below.refl _ W6).drew (Lib.hid hB6) (Lib.hid q6) (Lib.hid r6)
        clear k0 r1' b3' hR' kr x2 q3 c2 hB1 kr2 q4 c3 ce hB3 ka hB5 hA6 hB6 q6 r6 hv5 hb2 hb3 hb5 d1
        refine region_late (S := (fun W' : World => Hid (Below w.heap.size w W') ∧ Hid (SBox W' 83 (w.heap.size + 1 + 1) N least (.slice pE lE cE) (.slice pB lB cB)) ∧ Hid (RBox W' b9 (.slice p5 la c5)) ∧ W'.cell? ⟨b9, 0, none⟩ = some (.slice p5 la c5) ∧ W'.cell? ⟨w.heap.size + 1 + 1, 0, none⟩ = some (.int .i64 N) ∧ W'.cell? ⟨w.heap.size + 1 + 1, 1, none⟩ = some (.int .i64 least) ∧ W'.cell? ⟨w.heap.size + 1 + 1, 2, none⟩ = some (.slice pE lE cE) ∧ W'.cell? ⟨w.heap.size + 1 + 1, 3, none⟩ = some (.slice pB lB cB))) (fun n => n == 999) (by kernel_rfl) hMd (fun hHeld => ?_)
        clear hMd
        generalize World.drew W6 = Wd at *
        refine wpAnyL_take (i := 0) (oi := { dst := some 30, op := _, type := _, pos := _, after := _, guard := _ }) (v := ?v1) rfl (by kernel_rfl) (by kernel_rfl) (by kernel_rfl) (by kernel_rfl) (fun _ _ _ h => h) (Or.inl ⟨by kernel_rfl, ?y1⟩) hHeld ?r1
        case y1 =>
          intro w hSw
          try dsimp only at hSw
          try simp only [List.getElem_toArray, List.getElem_cons_zero, List.getElem_cons_succ]
          go_simp
          try with_reducible rfl
        try simp only [List.getElem_toArray, List.getElem_cons_zero, List.getElem_cons_succ, Act.put, List.setIfInBounds_toArray, List.set_cons_zero, List.set_cons_succ]
        refine wpAnyL_take (i := 1) (oi := { dst := some 31, op := _, type := _, pos := _, after := _, guard := _ }) (v := ?v2) rfl (by kernel_rfl) (by kernel_rfl) (by kernel_rfl) (by kernel_rfl) (fun _ _ _ h => h) (Or.inl ⟨by kernel_rfl, ?y2⟩) hHeld ?r2
        case y2 =>
          intro w hSw
          try dsimp only at hSw
          try simp only [List.getElem_toArray, List.getElem_cons_zero, List.getElem_cons_succ]
          go_simp
          try with_reducible rfl
        try simp only [List.getElem_toArray, List.getElem_cons_zero, List.getElem_cons_succ, Act.put, List.setIfInBounds_toArray, List.set_cons_zero, List.set_cons_succ]
        refine wpAnyL_take (i := 2) (oi := { dst := some 32, op := _, type := _, pos := _, after := _, guard := _ }) (v := ?v3) rfl (by kernel_rfl) (by kernel_rfl) (by kernel_rfl) (by kernel_rfl) (fun _ _ _ h => h) (Or.inl ⟨by kernel_rfl, ?y3⟩) hHeld ?r3
        case y3 =>
          intro w hSw
          try dsimp only at hSw
          try simp only [List.getElem_toArray, List.getElem_cons_zero, List.getElem_cons_succ]
          go_simp
          try with_reducible rfl
        try simp only [List.getElem_toArray, List.getElem_cons_zero, List.getElem_cons_succ, Act.put, List.setIfInBounds_toArray, List.set_cons_zero, List.set_cons_succ]
        refine wpAnyL_take (i := 3) (oi := { dst := some 33, op := _, type := _, pos := _, after := _, guard := _ }) (v := ?v4) rfl (by kernel_rfl) (by kernel_rfl) (by kernel_rfl) (by kernel_rfl) (fun _ _ _ h => h) (Or.inl ⟨by kernel_rfl, ?y4⟩) hHeld ?r4
        case y4 =>
          intro w hSw
          try dsimp only at hSw
          try simp only [List.getElem_toArray, List.getElem_cons_zero, List.getElem_cons_succ]
          go_simp
          try with_reducible rfl
        try simp only [List.getElem_toArray, List.getElem_cons_zero, List.getElem_cons_succ, Act.put, List.setIfInBounds_toArray, List.set_cons_zero, List.set_cons_succ]
        refine wpAnyL_take (i := 4) (oi := { dst := some 34, op := _, type := _, pos := _, after := _, guard := _ }) (v := ?v5) rfl (by kernel_rfl) (by kernel_rfl) (by kernel_rfl) (by kernel_rfl) (fun _ _ _ h => h) (Or.inl ⟨by kernel_rfl, ?y5⟩) hHeld ?r5
        case y5 =>
          intro w hSw
          try dsimp only at hSw
          try simp only [List.getElem_toArray, List.getElem_cons_zero, List.getElem_cons_succ]
          go_simp
          try with_reducible rfl
        try simp only [List.getElem_toArray, List.getElem_cons_zero, List.getElem_cons_succ, Act.put, List.setIfInBounds_toArray, List.set_cons_zero, List.set_cons_succ]
        refine wpAnyL_take (i := 5) (oi := { dst := some 35, op := _, type := _, pos := _, after := _, guard := _ }) (v := ?v6) rfl (by kernel_rfl) (by kernel_rfl) (by kernel_rfl) (by kernel_rfl) (fun _ _ _ h => h) (Or.inl ⟨by kernel_rfl, ?y6⟩) hHeld ?r6
        case y6 =>
          intro w hSw
          try dsimp only at hSw
          try simp only [List.getElem_toArray, List.getElem_cons_zero, List.getElem_cons_succ]
          go_simp
          try with_reducible rfl
        try simp only [List.getElem_toArray, List.getElem_cons_zero, List.getElem_cons_succ, Act.put, List.setIfInBounds_toArray, List.set_cons_zero, List.set_cons_succ]
        refine wpAnyL_take (i := 6) (oi := { dst := some 36, op := _, type := _, pos := _, after := _, guard := _ }) (v := ?v7) rfl (by kernel_rfl) (by kernel_rfl) (by kernel_rfl) (by kernel_rfl) (fun _ _ _ h => h) (Or.inl ⟨by kernel_rfl, ?y7⟩) hHeld ?r7
        case y7 =>
          intro w hSw
          try dsimp only at hSw
          try simp only [List.getElem_toArray, List.getElem_cons_zero, List.getElem_cons_succ]
          go_simp
          try with_reducible rfl
        try simp only [List.getElem_toArray, List.getElem_cons_zero, List.getElem_cons_succ, Act.put, List.setIfInBounds_toArray, List.set_cons_zero, List.set_cons_succ]
        refine wpAnyL_one (i := 7) (by kernel_rfl) rfl (fun K hK => ?_)
        try simp only [List.getElem_toArray, List.getElem_cons_zero, List.getElem_cons_succ]
        go_simp
        refine (kg2.out _ _ hHeld.1.out hv6.out).mono ?_
        rintro e Wn7 ⟨rfl, hbn⟩
        have hnew := Lib.hid (col_keep6 hbn hHeld.1 hHeld.2.1 hHeld.2.2.1)
        refine hK.out _ _ (fun _ => hnew.out) ?_
        have hHeld' := hnew.out
        clear hHeld hnew hK K hbn
        have hHeld := hHeld'
        clear hHeld'
        try simp only [List.getElem_toArray, List.getElem_cons_zero, List.getElem_cons_succ, Act.put, List.setIfInBounds_toArray, List.set_cons_zero, List.set_cons_succ]
        refine wpAnyL_take (i := 8) (oi := { dst := some 38, op := _, type := _, pos := _, after := _, guard := _ }) (v := ?v8) rfl (by kernel_rfl) (by kernel_rfl) (by kernel_rfl) (by kernel_rfl) (fun _ _ _ h => h) (Or.inl ⟨by kernel_rfl, ?y8⟩) hHeld ?r8
        case y8 =>
          intro w hSw
          try dsimp only at hSw
          try simp only [List.getElem_toArray, List.getElem_cons_zero, List.getElem_cons_succ]
          go_simp
          try with_reducible rfl
        try simp only [List.getElem_toArray, List.getElem_cons_zero, List.getElem_cons_succ, Act.put, List.setIfInBounds_toArray, List.set_cons_zero, List.set_cons_succ]
        refine wpAnyL_take (i := 9) (oi := { dst := some 39, op := _, type := _, pos := _, after := _, guard := _ }) (v := ?v9) rfl (by kernel_rfl) (by kernel_rfl) (by kernel_rfl) (by kernel_rfl) (fun _ _ _ h => h) (Or.inl ⟨by kernel_rfl, ?y9⟩) hHeld ?r9
        case y9 =>
          intro w hSw
          try dsimp only at hSw
          try simp only [List.getElem_toArray, List.getElem_cons_zero, List.getElem_cons_succ]
          go_simp
          try with_reducible rfl
        try simp only [List.getElem_toArray, List.getElem_cons_zero, List.getElem_cons_succ, Act.put, List.setIfInBounds_toArray, List.set_cons_zero, List.set_cons_succ]
        refine wpAnyL_take (i := 10) (oi := { dst := some 6, op := _, type := _, pos := _, after := _, guard := _ }) (v := ?v10) rfl (by kernel_rfl) (by kernel_rfl) (by kernel_rfl) (by kernel_rfl) (fun _ _ _ h => h) (Or.inl ⟨by kernel_rfl, ?y10⟩) hHeld ?r10
        case y10 =>
          intro w hSw
          try dsimp only at hSw
          try simp only [List.getElem_toArray, List.getElem_cons_zero, List.getElem_cons_succ]
          go_simp
          try with_reducible rfl
        try simp only [List.getElem_toArray, List.getElem_cons_zero, List.getElem_cons_succ, Act.put, List.setIfInBounds_toArray, List.set_cons_zero, List.set_cons_succ]
        refine wpAnyL_take (i := 11) (oi := { dst := some 7, op := _, type := _, pos := _, after := _, guard := _ }) (v := ?v11) rfl (by kernel_rfl) (by kernel_rfl) (by kernel_rfl) (by kernel_rfl) (fun _ _ _ h => h) (Or.inl ⟨by kernel_rfl, ?y11⟩) hHeld ?r11
        case y11 =>
          intro w hSw
          try dsimp only at hSw
          try simp only [List.getElem_toArray, List.getElem_cons_zero, List.getElem_cons_succ]
          go_simp
          try with_reducible rfl
        try simp only [List.getElem_toArray, List.getElem_cons_zero, List.getElem_cons_succ, Act.put, List.setIfInBounds_toArray, List.set_cons_zero, List.set_cons_succ]
        refine wpAnyL_done (by kernel_rfl) (OnlyN.normal ?_) _
        go_wp2
        rw [wrap_sum]
        exact bodyPost_ret (v := .tuple #[.int .i64 (IntKind.i64.wrap (least + (u : Nat))), .bool true]) (by simp [results, Tryd.results60, go_sem]) rfl ⟨rfl, hHeld.1.out⟩

/-- Least, Most. -/
def lstB (b : Sl) (rows : List Ch) : Int × Bool := fndB b rows (downD b.bits.reverse (andL b.ex rows) 0)
def mstB (b : Sl) (rows : List Ch) : Int × Bool := fndB b rows (upD b.bits.reverse (andL b.ex rows) 0)
set_option linter.unusedSimpArgs false in
set_option maxRecDepth 100000 in
set_option maxHeartbeats 2000000 in
theorem leastB_any {b : Sl} {rows : List Ch} {vE vB vr : Value} {w : World} (hE : HC w vE b.ex) (hB : HR w vB b.bits) (hr : HC w vr rows) (hs : SmallB b) (hsr : Small rows) (hT : Tab w) :
    Calls Tryd.prog 28 #[.agg #[.int .i64 b.n, .int .i64 b.least, vE, vB], .agg #[vr]] w fun e W' => e = .returned (.tuple #[.int .i64 (lstB b rows).1, .bool (lstB b rows).2]) ∧ Below w.heap.size w W' := by
  have b0 := (SBox.new w 31 b.n b.least vE vB).alloc (.cells #[vr] 28)
  have r1 := RBox.new (w.alloc (.cells #[.int .i64 b.n, .int .i64 b.least, vE, vB] 31)) vr
  have hR : Below w.heap.size w ((w.alloc (.cells #[.int .i64 b.n, .int .i64 b.least, vE, vB] 31)).alloc (.cells #[vr] 28)) := ((Below.refl w.heap.size w).alloc (Nat.le_refl _) _).alloc (by simp) _
  simp only [World.size_alloc] at r1
  have c0 := b0.c0; have c1 := b0.c1; have c2 := b0.c2; have c3 := b0.c3; have d1 := r1.cell
  have hk := Lib.hid (found_any (b := b) (rows := rows) (vE := vE) (vB := vB) (vr := vr) 61 (downD b.bits.reverse (andL b.ex rows) 0) (enters_of Tryd.func61 (by kernel_rfl) rfl)
    (fun hq hq2 hne W v hb hv => by
      have hc := (right_iff ⟨hs.lo, hs.hi⟩).1 hq
      exact least_any (N := b.n) (least := b.least) (vE := vE) W ((hB.later hR).later hb) hc.rbits hc.len hv (and_some hc.rex hq2).2.1 ((hT.below hR hT.lt).below hb (hT.below hR hT.lt).lt))
    (hE.later hR) (hB.later hR) (hr.later hR) hs hsr (hT.below hR hT.lt))
  have hR' := Lib.hid hR
  unfold lstB
  clear b0 r1 hE hB hr hs hsr hT hR
  generalize fndB b rows _ = g at *
  go_enter Tryd.func28, Tryd.ntmps28
  go_wp2_with (go_at_call 60; refine (hk.out).mono ?_; rintro e W2 ⟨rfl, hb2⟩)
  exact bodyPost_ret (v := .tuple #[.int .i64 g.1, .bool g.2]) (by simp [results, Tryd.results28, go_sem]) rfl ⟨rfl, hR'.out.trans (hb2.mono hR'.out.size)⟩
set_option linter.unusedSimpArgs false in
set_option maxRecDepth 100000 in
set_option maxHeartbeats 2000000 in
theorem mostB_any {b : Sl} {rows : List Ch} {vE vB vr : Value} {w : World} (hE : HC w vE b.ex) (hB : HR w vB b.bits) (hr : HC w vr rows) (hs : SmallB b) (hsr : Small rows) (hT : Tab w) :
    Calls Tryd.prog 30 #[.agg #[.int .i64 b.n, .int .i64 b.least, vE, vB], .agg #[vr]] w fun e W' => e = .returned (.tuple #[.int .i64 (mstB b rows).1, .bool (mstB b rows).2]) ∧ Below w.heap.size w W' := by
  have b0 := (SBox.new w 31 b.n b.least vE vB).alloc (.cells #[vr] 28)
  have r1 := RBox.new (w.alloc (.cells #[.int .i64 b.n, .int .i64 b.least, vE, vB] 31)) vr
  have hR : Below w.heap.size w ((w.alloc (.cells #[.int .i64 b.n, .int .i64 b.least, vE, vB] 31)).alloc (.cells #[vr] 28)) := ((Below.refl w.heap.size w).alloc (Nat.le_refl _) _).alloc (by simp) _
  simp only [World.size_alloc] at r1
  have c0 := b0.c0; have c1 := b0.c1; have c2 := b0.c2; have c3 := b0.c3; have d1 := r1.cell
  have hk := Lib.hid (found_any (b := b) (rows := rows) (vE := vE) (vB := vB) (vr := vr) 62 (upD b.bits.reverse (andL b.ex rows) 0) (enters_of Tryd.func62 (by kernel_rfl) rfl)
    (fun hq hq2 hne W v hb hv => by
      have hc := (right_iff ⟨hs.lo, hs.hi⟩).1 hq
      exact greatest_any (N := b.n) (least := b.least) (vE := vE) W ((hB.later hR).later hb) hc.rbits hc.len hv (and_some hc.rex hq2).2.1 ((hT.below hR hT.lt).below hb (hT.below hR hT.lt).lt))
    (hE.later hR) (hB.later hR) (hr.later hR) hs hsr (hT.below hR hT.lt))
  have hR' := Lib.hid hR
  unfold mstB
  clear b0 r1 hE hB hr hs hsr hT hR
  generalize fndB b rows _ = g at *
  go_enter Tryd.func30, Tryd.ntmps30
  go_wp2_with (go_at_call 60; refine (hk.out).mono ?_; rintro e W2 ⟨rfl, hb2⟩)
  exact bodyPost_ret (v := .tuple #[.int .i64 g.1, .bool g.2]) (by simp [results, Tryd.results30, go_sem]) rfl ⟨rfl, hR'.out.trans (hb2.mono hR'.out.size)⟩
end Go.Proofs.YtnigpmbpipmgfaaDoor
