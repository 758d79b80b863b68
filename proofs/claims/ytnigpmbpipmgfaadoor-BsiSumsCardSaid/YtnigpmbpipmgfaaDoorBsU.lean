/-
  law08.Few.
-/
import Derived.Test.YtnigpmbpipmgfaaDoorBsB
import Derived.Test.YtnigpmbpipmgfaaDoorBsT
namespace Go.Proofs.YtnigpmbpipmgfaaDoor
open Go.RowKit Go.Shelf Tess

theorem ints_take {n₀ : Nat} {W : World} {p : Option Addr} {n c : Nat} {zs : List Int} (h : Ints n₀ W (.slice p n c) zs) (k : Nat) : Ints n₀ W (.slice p (min n k) c) (zs.take k) := by
  rcases h with ⟨⟨p', e⟩, rfl⟩ | ⟨b, off, cap, e, hb, hc⟩
  · cases e
    rw [Nat.zero_min]
    exact .inl ⟨⟨_, rfl⟩, by simp⟩
  · cases e
    refine .inr ⟨b, off, c, by rw [List.length_take, Nat.min_comm], hb, fun j hj => ?_⟩
    rw [List.length_take] at hj
    rw [hc j (by omega), List.getElem?_take_of_lt (by omega)]
theorem bools_take {n₀ : Nat} {W : World} {p : Option Addr} {n c : Nat} {zs : List Bool} (h : BoolsAt n₀ W (.slice p n c) zs) (k : Nat) : BoolsAt n₀ W (.slice p (min n k) c) (zs.take k) := by
  obtain ⟨p', c', e, hc⟩ := h
  cases e
  refine ⟨_, _, by rw [List.length_take, Nat.min_comm], fun j hj => ?_⟩
  rw [List.length_take] at hj
  obtain ⟨b, off, h1, h2, h3⟩ := hc j (by omega)
  exact ⟨b, off, h1, h2, by rw [h3, List.getElem?_take_of_lt (by omega)]⟩

set_option linter.unusedSimpArgs false in
set_option maxRecDepth 100000 in
set_option maxHeartbeats 2000000 in
theorem few8_any {p ph : Option Addr} {n c nh ch : Nat} (w : World) (hp : n ≤ c) (hh : nh ≤ ch) (p0 : p = none → n = 0 ∧ c = 0) (h0 : ph = none → nh = 0 ∧ ch = 0) :
    Calls Tryd.prog 12 #[.slice p n c, .slice ph nh ch] w fun e W' => e = .returned (.tuple #[.slice p (min n 200) c, .slice ph (min nh 200) ch]) ∧ Below w.heap.size w W' := by
  obtain ⟨m, hm⟩ : ∃ m, min n 200 = m := ⟨_, rfl⟩
  obtain ⟨q, hq⟩ : ∃ q, min nh 200 = q := ⟨_, rfl⟩
  have m0 : (if (200 : Int) < (n : Int) then 200 else (n : Int)) = (m : Int) := by split <;> omega
  have q0 : (if (200 : Int) < (nh : Int) then 200 else (nh : Int)) = (q : Int) := by split <;> omega
  have m1 : m ≤ c := by omega
  have q1 : q ≤ ch := by omega
  have m2 : m ≤ n := by omega
  have q2 : q ≤ nh := by omega
  have m3 : (0 : Int) ≤ (m : Int) ∧ (m : Int) ≤ (c : Int) := by omega
  have q3 : (0 : Int) ≤ (q : Int) ∧ (q : Int) ≤ (ch : Int) := by omega
  rw [hm, hq]
  have hMd : (fun _ : World => True) w.drew := trivial
  cases p with
  | none =>
    obtain ⟨rfl, rfl⟩ := p0 rfl
    obtain rfl : m = 0 := by omega
    cases ph with
    | none =>
      obtain ⟨rfl, rfl⟩ := h0 rfl
      obtain rfl : q = 0 := by omega
      clear p0 h0 hp hh hm hq
      go_enter Tryd.func12, Tryd.ntmps12
      go_wp2
      refine region_late (S := (fun _ : World => True)) (fun n => n == 999) (by kernel_rfl) hMd (fun hHeld => ?_)
      clear hMd
      refine wpAnyL_take (i := 0) (oi := { dst := some 6, op := _, type := _, pos := _, after := _, guard := _ }) (v := ?v1) rfl (by kernel_rfl) (by kernel_rfl) (by kernel_rfl) (by kernel_rfl) (fun _ _ _ h => h) (Or.inl ⟨by kernel_rfl, ?y1⟩) hHeld ?r1
      case y1 =>
        intro w hSw
        try dsimp only at hSw
        try simp only [List.getElem_toArray, List.getElem_cons_zero, List.getElem_cons_succ]
        go_simp
        try with_reducible rfl
      try simp only [List.getElem_toArray, List.getElem_cons_zero, List.getElem_cons_succ, Act.put, List.setIfInBounds_toArray, List.set_cons_zero, List.set_cons_succ]
      refine wpAnyL_take (i := 1) (oi := { dst := some 7, op := _, type := _, pos := _, after := _, guard := _ }) (v := ?v2) rfl (by kernel_rfl) (by kernel_rfl) (by kernel_rfl) (by kernel_rfl) (fun _ _ _ h => h) (Or.inl ⟨by kernel_rfl, ?y2⟩) hHeld ?r2
      case y2 =>
        intro w hSw
        try dsimp only at hSw
        try simp only [List.getElem_toArray, List.getElem_cons_zero, List.getElem_cons_succ]
        go_simp
        try with_reducible rfl
      try simp only [List.getElem_toArray, List.getElem_cons_zero, List.getElem_cons_succ, Act.put, List.setIfInBounds_toArray, List.set_cons_zero, List.set_cons_succ]
      refine wpAnyL_take (i := 2) (oi := { dst := some 8, op := _, type := _, pos := _, after := _, guard := _ }) (v := ?v3) rfl (by kernel_rfl) (by kernel_rfl) (by kernel_rfl) (by kernel_rfl) (fun _ _ _ h => h) (Or.inl ⟨by kernel_rfl, ?y3⟩) hHeld ?r3
      case y3 =>
        intro w hSw
        try dsimp only at hSw
        try simp only [List.getElem_toArray, List.getElem_cons_zero, List.getElem_cons_succ]
        go_simp
        try with_reducible rfl
      try simp only [List.getElem_toArray, List.getElem_cons_zero, List.getElem_cons_succ, Act.put, List.setIfInBounds_toArray, List.set_cons_zero, List.set_cons_succ]
      refine wpAnyL_take (i := 3) (oi := { dst := some 9, op := _, type := _, pos := _, after := _, guard := _ }) (v := ?v4) rfl (by kernel_rfl) (by kernel_rfl) (by kernel_rfl) (by kernel_rfl) (fun _ _ _ h => h) (Or.inl ⟨by kernel_rfl, ?y4⟩) hHeld ?r4
      case y4 =>
        intro w hSw
        try dsimp only at hSw
        try simp only [List.getElem_toArray, List.getElem_cons_zero, List.getElem_cons_succ]
        go_simp
        try with_reducible rfl
      try simp only [List.getElem_toArray, List.getElem_cons_zero, List.getElem_cons_succ, Act.put, List.setIfInBounds_toArray, List.set_cons_zero, List.set_cons_succ]
      refine wpAnyL_take (i := 4) (oi := { dst := some 10, op := _, type := _, pos := _, after := _, guard := _ }) (v := ?v5) rfl (by kernel_rfl) (by kernel_rfl) (by kernel_rfl) (by kernel_rfl) (fun _ _ _ h => h) (Or.inl ⟨by kernel_rfl, ?y5⟩) hHeld ?r5
      case y5 =>
        intro w hSw
        try dsimp only at hSw
        try simp only [List.getElem_toArray, List.getElem_cons_zero, List.getElem_cons_succ]
        go_simp
        try with_reducible rfl
      try simp only [List.getElem_toArray, List.getElem_cons_zero, List.getElem_cons_succ, Act.put, List.setIfInBounds_toArray, List.set_cons_zero, List.set_cons_succ]
      refine wpAnyL_take (i := 5) (oi := { dst := some 11, op := _, type := _, pos := _, after := _, guard := _ }) (v := ?v6) rfl (by kernel_rfl) (by kernel_rfl) (by kernel_rfl) (by kernel_rfl) (fun _ _ _ h => h) (Or.inl ⟨by kernel_rfl, ?y6⟩) hHeld ?r6
      case y6 =>
        intro w hSw
        try dsimp only at hSw
        try simp only [List.getElem_toArray, List.getElem_cons_zero, List.getElem_cons_succ]
        go_simp
        try with_reducible rfl
      try simp only [List.getElem_toArray, List.getElem_cons_zero, List.getElem_cons_succ, Act.put, List.setIfInBounds_toArray, List.set_cons_zero, List.set_cons_succ]
      refine wpAnyL_take (i := 6) (oi := { dst := some 12, op := _, type := _, pos := _, after := _, guard := _ }) (v := ?v7) rfl (by kernel_rfl) (by kernel_rfl) (by kernel_rfl) (by kernel_rfl) (fun _ _ _ h => h) (Or.inl ⟨by kernel_rfl, ?y7⟩) hHeld ?r7
      case y7 =>
        intro w hSw
        try dsimp only at hSw
        try simp only [List.getElem_toArray, List.getElem_cons_zero, List.getElem_cons_succ]
        go_simp
        try with_reducible rfl
      try simp only [List.getElem_toArray, List.getElem_cons_zero, List.getElem_cons_succ, Act.put, List.setIfInBounds_toArray, List.set_cons_zero, List.set_cons_succ]
      refine wpAnyL_take (i := 7) (oi := { dst := some 13, op := _, type := _, pos := _, after := _, guard := _ }) (v := ?v8) rfl (by kernel_rfl) (by kernel_rfl) (by kernel_rfl) (by kernel_rfl) (fun _ _ _ h => h) (Or.inl ⟨by kernel_rfl, ?y8⟩) hHeld ?r8
      case y8 =>
        intro w hSw
        try dsimp only at hSw
        try simp only [List.getElem_toArray, List.getElem_cons_zero, List.getElem_cons_succ]
        go_simp
        try with_reducible rfl
      try simp only [List.getElem_toArray, List.getElem_cons_zero, List.getElem_cons_succ, Act.put, List.setIfInBounds_toArray, List.set_cons_zero, List.set_cons_succ]
      refine wpAnyL_take (i := 8) (oi := { dst := some 14, op := _, type := _, pos := _, after := _, guard := _ }) (v := ?v9) rfl (by kernel_rfl) (by kernel_rfl) (by kernel_rfl) (by kernel_rfl) (fun _ _ _ h => h) (Or.inl ⟨by kernel_rfl, ?y9⟩) hHeld ?r9
      case y9 =>
        intro w hSw
        try dsimp only at hSw
        try simp only [List.getElem_toArray, List.getElem_cons_zero, List.getElem_cons_succ]
        go_simp
        try with_reducible rfl
      try simp only [List.getElem_toArray, List.getElem_cons_zero, List.getElem_cons_succ, Act.put, List.setIfInBounds_toArray, List.set_cons_zero, List.set_cons_succ]
      refine wpAnyL_take (i := 9) (oi := { dst := some 15, op := _, type := _, pos := _, after := _, guard := _ }) (v := ?v10) rfl (by kernel_rfl) (by kernel_rfl) (by kernel_rfl) (by kernel_rfl) (fun _ _ _ h => h) (Or.inl ⟨by kernel_rfl, ?y10⟩) hHeld ?r10
      case y10 =>
        intro w hSw
        try dsimp only at hSw
        try simp only [List.getElem_toArray, List.getElem_cons_zero, List.getElem_cons_succ]
        go_simp
        try with_reducible rfl
      try simp only [List.getElem_toArray, List.getElem_cons_zero, List.getElem_cons_succ, Act.put, List.setIfInBounds_toArray, List.set_cons_zero, List.set_cons_succ]
      refine wpAnyL_take (i := 10) (oi := { dst := some 4, op := _, type := _, pos := _, after := _, guard := _ }) (v := ?v11) rfl (by kernel_rfl) (by kernel_rfl) (by kernel_rfl) (by kernel_rfl) (fun _ _ _ h => h) (Or.inl ⟨by kernel_rfl, ?y11⟩) hHeld ?r11
      case y11 =>
        intro w hSw
        try dsimp only at hSw
        try simp only [List.getElem_toArray, List.getElem_cons_zero, List.getElem_cons_succ]
        go_simp
        try with_reducible rfl
      try simp only [List.getElem_toArray, List.getElem_cons_zero, List.getElem_cons_succ, Act.put, List.setIfInBounds_toArray, List.set_cons_zero, List.set_cons_succ]
      refine wpAnyL_take (i := 11) (oi := { dst := some 5, op := _, type := _, pos := _, after := _, guard := _ }) (v := ?v12) rfl (by kernel_rfl) (by kernel_rfl) (by kernel_rfl) (by kernel_rfl) (fun _ _ _ h => h) (Or.inl ⟨by kernel_rfl, ?y12⟩) hHeld ?r12
      case y12 =>
        intro w hSw
        try dsimp only at hSw
        try simp only [List.getElem_toArray, List.getElem_cons_zero, List.getElem_cons_succ]
        go_simp
        try with_reducible rfl
      try simp only [List.getElem_toArray, List.getElem_cons_zero, List.getElem_cons_succ, Act.put, List.setIfInBounds_toArray, List.set_cons_zero, List.set_cons_succ]
      refine wpAnyL_done (by kernel_rfl) (OnlyN.normal ?_) _
      go_wp2
      exact bodyPost_ret (v := .tuple #[.slice none 0 0, .slice none 0 0]) (by simp [results, Tryd.results12, go_sem]) rfl ⟨rfl, (Below.refl _ w).drew⟩
    | some y =>
      clear p0 h0 hp hm hq
      go_enter Tryd.func12, Tryd.ntmps12
      go_wp2
      refine region_late (S := (fun _ : World => True)) (fun n => n == 999) (by kernel_rfl) hMd (fun hHeld => ?_)
      clear hMd
      refine wpAnyL_take (i := 0) (oi := { dst := some 6, op := _, type := _, pos := _, after := _, guard := _ }) (v := ?v13) rfl (by kernel_rfl) (by kernel_rfl) (by kernel_rfl) (by kernel_rfl) (fun _ _ _ h => h) (Or.inl ⟨by kernel_rfl, ?y13⟩) hHeld ?r13
      case y13 =>
        intro w hSw
        try dsimp only at hSw
        try simp only [List.getElem_toArray, List.getElem_cons_zero, List.getElem_cons_succ]
        go_simp
        try with_reducible rfl
      try simp only [List.getElem_toArray, List.getElem_cons_zero, List.getElem_cons_succ, Act.put, List.setIfInBounds_toArray, List.set_cons_zero, List.set_cons_succ]
      refine wpAnyL_take (i := 1) (oi := { dst := some 7, op := _, type := _, pos := _, after := _, guard := _ }) (v := ?v14) rfl (by kernel_rfl) (by kernel_rfl) (by kernel_rfl) (by kernel_rfl) (fun _ _ _ h => h) (Or.inl ⟨by kernel_rfl, ?y14⟩) hHeld ?r14
      case y14 =>
        intro w hSw
        try dsimp only at hSw
        try simp only [List.getElem_toArray, List.getElem_cons_zero, List.getElem_cons_succ]
        go_simp
        try with_reducible rfl
      try simp only [List.getElem_toArray, List.getElem_cons_zero, List.getElem_cons_succ, Act.put, List.setIfInBounds_toArray, List.set_cons_zero, List.set_cons_succ]
      refine wpAnyL_take (i := 2) (oi := { dst := some 8, op := _, type := _, pos := _, after := _, guard := _ }) (v := ?v15) rfl (by kernel_rfl) (by kernel_rfl) (by kernel_rfl) (by kernel_rfl) (fun _ _ _ h => h) (Or.inl ⟨by kernel_rfl, ?y15⟩) hHeld ?r15
      case y15 =>
        intro w hSw
        try dsimp only at hSw
        try simp only [List.getElem_toArray, List.getElem_cons_zero, List.getElem_cons_succ]
        go_simp
        try with_reducible rfl
      try simp only [List.getElem_toArray, List.getElem_cons_zero, List.getElem_cons_succ, Act.put, List.setIfInBounds_toArray, List.set_cons_zero, List.set_cons_succ]
      refine wpAnyL_take (i := 3) (oi := { dst := some 9, op := _, type := _, pos := _, after := _, guard := _ }) (v := ?v16) rfl (by kernel_rfl) (by kernel_rfl) (by kernel_rfl) (by kernel_rfl) (fun _ _ _ h => h) (Or.inl ⟨by kernel_rfl, ?y16⟩) hHeld ?r16
      case y16 =>
        intro w hSw
        try dsimp only at hSw
        try simp only [List.getElem_toArray, List.getElem_cons_zero, List.getElem_cons_succ]
        go_simp
        try with_reducible rfl
      try simp only [List.getElem_toArray, List.getElem_cons_zero, List.getElem_cons_succ, Act.put, List.setIfInBounds_toArray, List.set_cons_zero, List.set_cons_succ]
      refine wpAnyL_take (i := 4) (oi := { dst := some 10, op := _, type := _, pos := _, after := _, guard := _ }) (v := ?v17) rfl (by kernel_rfl) (by kernel_rfl) (by kernel_rfl) (by kernel_rfl) (fun _ _ _ h => h) (Or.inl ⟨by kernel_rfl, ?y17⟩) hHeld ?r17
      case y17 =>
        intro w hSw
        try dsimp only at hSw
        try simp only [List.getElem_toArray, List.getElem_cons_zero, List.getElem_cons_succ]
        go_simp
        try with_reducible rfl
      try simp only [List.getElem_toArray, List.getElem_cons_zero, List.getElem_cons_succ, Act.put, List.setIfInBounds_toArray, List.set_cons_zero, List.set_cons_succ]
      refine wpAnyL_take (i := 5) (oi := { dst := some 11, op := _, type := _, pos := _, after := _, guard := _ }) (v := ?v18) rfl (by kernel_rfl) (by kernel_rfl) (by kernel_rfl) (by kernel_rfl) (fun _ _ _ h => h) (Or.inl ⟨by kernel_rfl, ?y18⟩) hHeld ?r18
      case y18 =>
        intro w hSw
        try dsimp only at hSw
        try simp only [List.getElem_toArray, List.getElem_cons_zero, List.getElem_cons_succ]
        go_simp
        try with_reducible rfl
      try simp only [List.getElem_toArray, List.getElem_cons_zero, List.getElem_cons_succ, Act.put, List.setIfInBounds_toArray, List.set_cons_zero, List.set_cons_succ]
      refine wpAnyL_take (i := 6) (oi := { dst := some 12, op := _, type := _, pos := _, after := _, guard := _ }) (v := ?v19) rfl (by kernel_rfl) (by kernel_rfl) (by kernel_rfl) (by kernel_rfl) (fun _ _ _ h => h) (Or.inl ⟨by kernel_rfl, ?y19⟩) hHeld ?r19
      case y19 =>
        intro w hSw
        try dsimp only at hSw
        try simp only [List.getElem_toArray, List.getElem_cons_zero, List.getElem_cons_succ]
        go_simp
        try with_reducible rfl
      try simp only [List.getElem_toArray, List.getElem_cons_zero, List.getElem_cons_succ, Act.put, List.setIfInBounds_toArray, List.set_cons_zero, List.set_cons_succ]
      refine wpAnyL_take (i := 7) (oi := { dst := some 13, op := _, type := _, pos := _, after := _, guard := _ }) (v := ?v20) rfl (by kernel_rfl) (by kernel_rfl) (by kernel_rfl) (by kernel_rfl) (fun _ _ _ h => h) (Or.inl ⟨by kernel_rfl, ?y20⟩) hHeld ?r20
      case y20 =>
        intro w hSw
        try dsimp only at hSw
        try simp only [List.getElem_toArray, List.getElem_cons_zero, List.getElem_cons_succ]
        go_simp
        try with_reducible rfl
      try simp only [List.getElem_toArray, List.getElem_cons_zero, List.getElem_cons_succ, Act.put, List.setIfInBounds_toArray, List.set_cons_zero, List.set_cons_succ]
      refine wpAnyL_take (i := 8) (oi := { dst := some 14, op := _, type := _, pos := _, after := _, guard := _ }) (v := ?v21) rfl (by kernel_rfl) (by kernel_rfl) (by kernel_rfl) (by kernel_rfl) (fun _ _ _ h => h) (Or.inl ⟨by kernel_rfl, ?y21⟩) hHeld ?r21
      case y21 =>
        intro w hSw
        try dsimp only at hSw
        try simp only [List.getElem_toArray, List.getElem_cons_zero, List.getElem_cons_succ]
        go_simp
        try with_reducible rfl
      try simp only [List.getElem_toArray, List.getElem_cons_zero, List.getElem_cons_succ, Act.put, List.setIfInBounds_toArray, List.set_cons_zero, List.set_cons_succ]
      refine wpAnyL_take (i := 9) (oi := { dst := some 15, op := _, type := _, pos := _, after := _, guard := _ }) (v := ?v22) rfl (by kernel_rfl) (by kernel_rfl) (by kernel_rfl) (by kernel_rfl) (fun _ _ _ h => h) (Or.inl ⟨by kernel_rfl, ?y22⟩) hHeld ?r22
      case y22 =>
        intro w hSw
        try dsimp only at hSw
        try simp only [List.getElem_toArray, List.getElem_cons_zero, List.getElem_cons_succ]
        go_simp
        try with_reducible rfl
      try simp only [List.getElem_toArray, List.getElem_cons_zero, List.getElem_cons_succ, Act.put, List.setIfInBounds_toArray, List.set_cons_zero, List.set_cons_succ]
      refine wpAnyL_take (i := 10) (oi := { dst := some 4, op := _, type := _, pos := _, after := _, guard := _ }) (v := ?v23) rfl (by kernel_rfl) (by kernel_rfl) (by kernel_rfl) (by kernel_rfl) (fun _ _ _ h => h) (Or.inl ⟨by kernel_rfl, ?y23⟩) hHeld ?r23
      case y23 =>
        intro w hSw
        try dsimp only at hSw
        try simp only [List.getElem_toArray, List.getElem_cons_zero, List.getElem_cons_succ]
        go_simp
        try with_reducible rfl
      try simp only [List.getElem_toArray, List.getElem_cons_zero, List.getElem_cons_succ, Act.put, List.setIfInBounds_toArray, List.set_cons_zero, List.set_cons_succ]
      refine wpAnyL_take (i := 11) (oi := { dst := some 5, op := _, type := _, pos := _, after := _, guard := _ }) (v := ?v24) rfl (by kernel_rfl) (by kernel_rfl) (by kernel_rfl) (by kernel_rfl) (fun _ _ _ h => h) (Or.inl ⟨by kernel_rfl, ?y24⟩) hHeld ?r24
      case y24 =>
        intro w hSw
        try dsimp only at hSw
        try simp only [List.getElem_toArray, List.getElem_cons_zero, List.getElem_cons_succ]
        go_simp
        try with_reducible rfl
      try simp only [List.getElem_toArray, List.getElem_cons_zero, List.getElem_cons_succ, Act.put, List.setIfInBounds_toArray, List.set_cons_zero, List.set_cons_succ]
      refine wpAnyL_done (by kernel_rfl) (OnlyN.normal ?_) _
      go_wp2
      exact bodyPost_ret (v := .tuple #[.slice none 0 0, .slice (some y) q ch]) (by simp [results, Tryd.results12, go_sem]) rfl ⟨rfl, (Below.refl _ w).drew⟩
  | some x =>
    cases ph with
    | none =>
      obtain ⟨rfl, rfl⟩ := h0 rfl
      obtain rfl : q = 0 := by omega
      clear p0 h0 hh hm hq
      go_enter Tryd.func12, Tryd.ntmps12
      go_wp2
      refine region_late (S := (fun _ : World => True)) (fun n => n == 999) (by kernel_rfl) hMd (fun hHeld => ?_)
      clear hMd
      refine wpAnyL_take (i := 0) (oi := { dst := some 6, op := _, type := _, pos := _, after := _, guard := _ }) (v := ?v25) rfl (by kernel_rfl) (by kernel_rfl) (by kernel_rfl) (by kernel_rfl) (fun _ _ _ h => h) (Or.inl ⟨by kernel_rfl, ?y25⟩) hHeld ?r25
      case y25 =>
        intro w hSw
        try dsimp only at hSw
        try simp only [List.getElem_toArray, List.getElem_cons_zero, List.getElem_cons_succ]
        go_simp
        try with_reducible rfl
      try simp only [List.getElem_toArray, List.getElem_cons_zero, List.getElem_cons_succ, Act.put, List.setIfInBounds_toArray, List.set_cons_zero, List.set_cons_succ]
      refine wpAnyL_take (i := 1) (oi := { dst := some 7, op := _, type := _, pos := _, after := _, guard := _ }) (v := ?v26) rfl (by kernel_rfl) (by kernel_rfl) (by kernel_rfl) (by kernel_rfl) (fun _ _ _ h => h) (Or.inl ⟨by kernel_rfl, ?y26⟩) hHeld ?r26
      case y26 =>
        intro w hSw
        try dsimp only at hSw
        try simp only [List.getElem_toArray, List.getElem_cons_zero, List.getElem_cons_succ]
        go_simp
        try with_reducible rfl
      try simp only [List.getElem_toArray, List.getElem_cons_zero, List.getElem_cons_succ, Act.put, List.setIfInBounds_toArray, List.set_cons_zero, List.set_cons_succ]
      refine wpAnyL_take (i := 2) (oi := { dst := some 8, op := _, type := _, pos := _, after := _, guard := _ }) (v := ?v27) rfl (by kernel_rfl) (by kernel_rfl) (by kernel_rfl) (by kernel_rfl) (fun _ _ _ h => h) (Or.inl ⟨by kernel_rfl, ?y27⟩) hHeld ?r27
      case y27 =>
        intro w hSw
        try dsimp only at hSw
        try simp only [List.getElem_toArray, List.getElem_cons_zero, List.getElem_cons_succ]
        go_simp
        try with_reducible rfl
      try simp only [List.getElem_toArray, List.getElem_cons_zero, List.getElem_cons_succ, Act.put, List.setIfInBounds_toArray, List.set_cons_zero, List.set_cons_succ]
      refine wpAnyL_take (i := 3) (oi := { dst := some 9, op := _, type := _, pos := _, after := _, guard := _ }) (v := ?v28) rfl (by kernel_rfl) (by kernel_rfl) (by kernel_rfl) (by kernel_rfl) (fun _ _ _ h => h) (Or.inl ⟨by kernel_rfl, ?y28⟩) hHeld ?r28
      case y28 =>
        intro w hSw
        try dsimp only at hSw
        try simp only [List.getElem_toArray, List.getElem_cons_zero, List.getElem_cons_succ]
        go_simp
        try with_reducible rfl
      try simp only [List.getElem_toArray, List.getElem_cons_zero, List.getElem_cons_succ, Act.put, List.setIfInBounds_toArray, List.set_cons_zero, List.set_cons_succ]
      refine wpAnyL_take (i := 4) (oi := { dst := some 10, op := _, type := _, pos := _, after := _, guard := _ }) (v := ?v29) rfl (by kernel_rfl) (by kernel_rfl) (by kernel_rfl) (by kernel_rfl) (fun _ _ _ h => h) (Or.inl ⟨by kernel_rfl, ?y29⟩) hHeld ?r29
      case y29 =>
        intro w hSw
        try dsimp only at hSw
        try simp only [List.getElem_toArray, List.getElem_cons_zero, List.getElem_cons_succ]
        go_simp
        try with_reducible rfl
      try simp only [List.getElem_toArray, List.getElem_cons_zero, List.getElem_cons_succ, Act.put, List.setIfInBounds_toArray, List.set_cons_zero, List.set_cons_succ]
      refine wpAnyL_take (i := 5) (oi := { dst := some 11, op := _, type := _, pos := _, after := _, guard := _ }) (v := ?v30) rfl (by kernel_rfl) (by kernel_rfl) (by kernel_rfl) (by kernel_rfl) (fun _ _ _ h => h) (Or.inl ⟨by kernel_rfl, ?y30⟩) hHeld ?r30
      case y30 =>
        intro w hSw
        try dsimp only at hSw
        try simp only [List.getElem_toArray, List.getElem_cons_zero, List.getElem_cons_succ]
        go_simp
        try with_reducible rfl
      try simp only [List.getElem_toArray, List.getElem_cons_zero, List.getElem_cons_succ, Act.put, List.setIfInBounds_toArray, List.set_cons_zero, List.set_cons_succ]
      refine wpAnyL_take (i := 6) (oi := { dst := some 12, op := _, type := _, pos := _, after := _, guard := _ }) (v := ?v31) rfl (by kernel_rfl) (by kernel_rfl) (by kernel_rfl) (by kernel_rfl) (fun _ _ _ h => h) (Or.inl ⟨by kernel_rfl, ?y31⟩) hHeld ?r31
      case y31 =>
        intro w hSw
        try dsimp only at hSw
        try simp only [List.getElem_toArray, List.getElem_cons_zero, List.getElem_cons_succ]
        go_simp
        try with_reducible rfl
      try simp only [List.getElem_toArray, List.getElem_cons_zero, List.getElem_cons_succ, Act.put, List.setIfInBounds_toArray, List.set_cons_zero, List.set_cons_succ]
      refine wpAnyL_take (i := 7) (oi := { dst := some 13, op := _, type := _, pos := _, after := _, guard := _ }) (v := ?v32) rfl (by kernel_rfl) (by kernel_rfl) (by kernel_rfl) (by kernel_rfl) (fun _ _ _ h => h) (Or.inl ⟨by kernel_rfl, ?y32⟩) hHeld ?r32
      case y32 =>
        intro w hSw
        try dsimp only at hSw
        try simp only [List.getElem_toArray, List.getElem_cons_zero, List.getElem_cons_succ]
        go_simp
        try with_reducible rfl
      try simp only [List.getElem_toArray, List.getElem_cons_zero, List.getElem_cons_succ, Act.put, List.setIfInBounds_toArray, List.set_cons_zero, List.set_cons_succ]
      refine wpAnyL_take (i := 8) (oi := { dst := some 14, op := _, type := _, pos := _, after := _, guard := _ }) (v := ?v33) rfl (by kernel_rfl) (by kernel_rfl) (by kernel_rfl) (by kernel_rfl) (fun _ _ _ h => h) (Or.inl ⟨by kernel_rfl, ?y33⟩) hHeld ?r33
      case y33 =>
        intro w hSw
        try dsimp only at hSw
        try simp only [List.getElem_toArray, List.getElem_cons_zero, List.getElem_cons_succ]
        go_simp
        try with_reducible rfl
      try simp only [List.getElem_toArray, List.getElem_cons_zero, List.getElem_cons_succ, Act.put, List.setIfInBounds_toArray, List.set_cons_zero, List.set_cons_succ]
      refine wpAnyL_take (i := 9) (oi := { dst := some 15, op := _, type := _, pos := _, after := _, guard := _ }) (v := ?v34) rfl (by kernel_rfl) (by kernel_rfl) (by kernel_rfl) (by kernel_rfl) (fun _ _ _ h => h) (Or.inl ⟨by kernel_rfl, ?y34⟩) hHeld ?r34
      case y34 =>
        intro w hSw
        try dsimp only at hSw
        try simp only [List.getElem_toArray, List.getElem_cons_zero, List.getElem_cons_succ]
        go_simp
        try with_reducible rfl
      try simp only [List.getElem_toArray, List.getElem_cons_zero, List.getElem_cons_succ, Act.put, List.setIfInBounds_toArray, List.set_cons_zero, List.set_cons_succ]
      refine wpAnyL_take (i := 10) (oi := { dst := some 4, op := _, type := _, pos := _, after := _, guard := _ }) (v := ?v35) rfl (by kernel_rfl) (by kernel_rfl) (by kernel_rfl) (by kernel_rfl) (fun _ _ _ h => h) (Or.inl ⟨by kernel_rfl, ?y35⟩) hHeld ?r35
      case y35 =>
        intro w hSw
        try dsimp only at hSw
        try simp only [List.getElem_toArray, List.getElem_cons_zero, List.getElem_cons_succ]
        go_simp
        try with_reducible rfl
      try simp only [List.getElem_toArray, List.getElem_cons_zero, List.getElem_cons_succ, Act.put, List.setIfInBounds_toArray, List.set_cons_zero, List.set_cons_succ]
      refine wpAnyL_take (i := 11) (oi := { dst := some 5, op := _, type := _, pos := _, after := _, guard := _ }) (v := ?v36) rfl (by kernel_rfl) (by kernel_rfl) (by kernel_rfl) (by kernel_rfl) (fun _ _ _ h => h) (Or.inl ⟨by kernel_rfl, ?y36⟩) hHeld ?r36
      case y36 =>
        intro w hSw
        try dsimp only at hSw
        try simp only [List.getElem_toArray, List.getElem_cons_zero, List.getElem_cons_succ]
        go_simp
        try with_reducible rfl
      try simp only [List.getElem_toArray, List.getElem_cons_zero, List.getElem_cons_succ, Act.put, List.setIfInBounds_toArray, List.set_cons_zero, List.set_cons_succ]
      refine wpAnyL_done (by kernel_rfl) (OnlyN.normal ?_) _
      go_wp2
      exact bodyPost_ret (v := .tuple #[.slice (some x) m c, .slice none 0 0]) (by simp [results, Tryd.results12, go_sem]) rfl ⟨rfl, (Below.refl _ w).drew⟩
    | some y =>
      clear p0 h0 hm hq
      go_enter Tryd.func12, Tryd.ntmps12
      go_wp2
      refine region_late (S := (fun _ : World => True)) (fun n => n == 999) (by kernel_rfl) hMd (fun hHeld => ?_)
      clear hMd
      refine wpAnyL_take (i := 0) (oi := { dst := some 6, op := _, type := _, pos := _, after := _, guard := _ }) (v := ?v37) rfl (by kernel_rfl) (by kernel_rfl) (by kernel_rfl) (by kernel_rfl) (fun _ _ _ h => h) (Or.inl ⟨by kernel_rfl, ?y37⟩) hHeld ?r37
      case y37 =>
        intro w hSw
        try dsimp only at hSw
        try simp only [List.getElem_toArray, List.getElem_cons_zero, List.getElem_cons_succ]
        go_simp
        try with_reducible rfl
      try simp only [List.getElem_toArray, List.getElem_cons_zero, List.getElem_cons_succ, Act.put, List.setIfInBounds_toArray, List.set_cons_zero, List.set_cons_succ]
      refine wpAnyL_take (i := 1) (oi := { dst := some 7, op := _, type := _, pos := _, after := _, guard := _ }) (v := ?v38) rfl (by kernel_rfl) (by kernel_rfl) (by kernel_rfl) (by kernel_rfl) (fun _ _ _ h => h) (Or.inl ⟨by kernel_rfl, ?y38⟩) hHeld ?r38
      case y38 =>
        intro w hSw
        try dsimp only at hSw
        try simp only [List.getElem_toArray, List.getElem_cons_zero, List.getElem_cons_succ]
        go_simp
        try with_reducible rfl
      try simp only [List.getElem_toArray, List.getElem_cons_zero, List.getElem_cons_succ, Act.put, List.setIfInBounds_toArray, List.set_cons_zero, List.set_cons_succ]
      refine wpAnyL_take (i := 2) (oi := { dst := some 8, op := _, type := _, pos := _, after := _, guard := _ }) (v := ?v39) rfl (by kernel_rfl) (by kernel_rfl) (by kernel_rfl) (by kernel_rfl) (fun _ _ _ h => h) (Or.inl ⟨by kernel_rfl, ?y39⟩) hHeld ?r39
      case y39 =>
        intro w hSw
        try dsimp only at hSw
        try simp only [List.getElem_toArray, List.getElem_cons_zero, List.getElem_cons_succ]
        go_simp
        try with_reducible rfl
      try simp only [List.getElem_toArray, List.getElem_cons_zero, List.getElem_cons_succ, Act.put, List.setIfInBounds_toArray, List.set_cons_zero, List.set_cons_succ]
      refine wpAnyL_take (i := 3) (oi := { dst := some 9, op := _, type := _, pos := _, after := _, guard := _ }) (v := ?v40) rfl (by kernel_rfl) (by kernel_rfl) (by kernel_rfl) (by kernel_rfl) (fun _ _ _ h => h) (Or.inl ⟨by kernel_rfl, ?y40⟩) hHeld ?r40
      case y40 =>
        intro w hSw
        try dsimp only at hSw
        try simp only [List.getElem_toArray, List.getElem_cons_zero, List.getElem_cons_succ]
        go_simp
        try with_reducible rfl
      try simp only [List.getElem_toArray, List.getElem_cons_zero, List.getElem_cons_succ, Act.put, List.setIfInBounds_toArray, List.set_cons_zero, List.set_cons_succ]
      refine wpAnyL_take (i := 4) (oi := { dst := some 10, op := _, type := _, pos := _, after := _, guard := _ }) (v := ?v41) rfl (by kernel_rfl) (by kernel_rfl) (by kernel_rfl) (by kernel_rfl) (fun _ _ _ h => h) (Or.inl ⟨by kernel_rfl, ?y41⟩) hHeld ?r41
      case y41 =>
        intro w hSw
        try dsimp only at hSw
        try simp only [List.getElem_toArray, List.getElem_cons_zero, List.getElem_cons_succ]
        go_simp
        try with_reducible rfl
      try simp only [List.getElem_toArray, List.getElem_cons_zero, List.getElem_cons_succ, Act.put, List.setIfInBounds_toArray, List.set_cons_zero, List.set_cons_succ]
      refine wpAnyL_take (i := 5) (oi := { dst := some 11, op := _, type := _, pos := _, after := _, guard := _ }) (v := ?v42) rfl (by kernel_rfl) (by kernel_rfl) (by kernel_rfl) (by kernel_rfl) (fun _ _ _ h => h) (Or.inl ⟨by kernel_rfl, ?y42⟩) hHeld ?r42
      case y42 =>
        intro w hSw
        try dsimp only at hSw
        try simp only [List.getElem_toArray, List.getElem_cons_zero, List.getElem_cons_succ]
        go_simp
        try with_reducible rfl
      try simp only [List.getElem_toArray, List.getElem_cons_zero, List.getElem_cons_succ, Act.put, List.setIfInBounds_toArray, List.set_cons_zero, List.set_cons_succ]
      refine wpAnyL_take (i := 6) (oi := { dst := some 12, op := _, type := _, pos := _, after := _, guard := _ }) (v := ?v43) rfl (by kernel_rfl) (by kernel_rfl) (by kernel_rfl) (by kernel_rfl) (fun _ _ _ h => h) (Or.inl ⟨by kernel_rfl, ?y43⟩) hHeld ?r43
      case y43 =>
        intro w hSw
        try dsimp only at hSw
        try simp only [List.getElem_toArray, List.getElem_cons_zero, List.getElem_cons_succ]
        go_simp
        try with_reducible rfl
      try simp only [List.getElem_toArray, List.getElem_cons_zero, List.getElem_cons_succ, Act.put, List.setIfInBounds_toArray, List.set_cons_zero, List.set_cons_succ]
      refine wpAnyL_take (i := 7) (oi := { dst := some 13, op := _, type := _, pos := _, after := _, guard := _ }) (v := ?v44) rfl (by kernel_rfl) (by kernel_rfl) (by kernel_rfl) (by kernel_rfl) (fun _ _ _ h => h) (Or.inl ⟨by kernel_rfl, ?y44⟩) hHeld ?r44
      case y44 =>
        intro w hSw
        try dsimp only at hSw
        try simp only [List.getElem_toArray, List.getElem_cons_zero, List.getElem_cons_succ]
        go_simp
        try with_reducible rfl
      try simp only [List.getElem_toArray, List.getElem_cons_zero, List.getElem_cons_succ, Act.put, List.setIfInBounds_toArray, List.set_cons_zero, List.set_cons_succ]
      refine wpAnyL_take (i := 8) (oi := { dst := some 14, op := _, type := _, pos := _, after := _, guard := _ }) (v := ?v45) rfl (by kernel_rfl) (by kernel_rfl) (by kernel_rfl) (by kernel_rfl) (fun _ _ _ h => h) (Or.inl ⟨by kernel_rfl, ?y45⟩) hHeld ?r45
      case y45 =>
        intro w hSw
        try dsimp only at hSw
        try simp only [List.getElem_toArray, List.getElem_cons_zero, List.getElem_cons_succ]
        go_simp
        try with_reducible rfl
      try simp only [List.getElem_toArray, List.getElem_cons_zero, List.getElem_cons_succ, Act.put, List.setIfInBounds_toArray, List.set_cons_zero, List.set_cons_succ]
      refine wpAnyL_take (i := 9) (oi := { dst := some 15, op := _, type := _, pos := _, after := _, guard := _ }) (v := ?v46) rfl (by kernel_rfl) (by kernel_rfl) (by kernel_rfl) (by kernel_rfl) (fun _ _ _ h => h) (Or.inl ⟨by kernel_rfl, ?y46⟩) hHeld ?r46
      case y46 =>
        intro w hSw
        try dsimp only at hSw
        try simp only [List.getElem_toArray, List.getElem_cons_zero, List.getElem_cons_succ]
        go_simp
        try with_reducible rfl
      try simp only [List.getElem_toArray, List.getElem_cons_zero, List.getElem_cons_succ, Act.put, List.setIfInBounds_toArray, List.set_cons_zero, List.set_cons_succ]
      refine wpAnyL_take (i := 10) (oi := { dst := some 4, op := _, type := _, pos := _, after := _, guard := _ }) (v := ?v47) rfl (by kernel_rfl) (by kernel_rfl) (by kernel_rfl) (by kernel_rfl) (fun _ _ _ h => h) (Or.inl ⟨by kernel_rfl, ?y47⟩) hHeld ?r47
      case y47 =>
        intro w hSw
        try dsimp only at hSw
        try simp only [List.getElem_toArray, List.getElem_cons_zero, List.getElem_cons_succ]
        go_simp
        try with_reducible rfl
      try simp only [List.getElem_toArray, List.getElem_cons_zero, List.getElem_cons_succ, Act.put, List.setIfInBounds_toArray, List.set_cons_zero, List.set_cons_succ]
      refine wpAnyL_take (i := 11) (oi := { dst := some 5, op := _, type := _, pos := _, after := _, guard := _ }) (v := ?v48) rfl (by kernel_rfl) (by kernel_rfl) (by kernel_rfl) (by kernel_rfl) (fun _ _ _ h => h) (Or.inl ⟨by kernel_rfl, ?y48⟩) hHeld ?r48
      case y48 =>
        intro w hSw
        try dsimp only at hSw
        try simp only [List.getElem_toArray, List.getElem_cons_zero, List.getElem_cons_succ]
        go_simp
        try with_reducible rfl
      try simp only [List.getElem_toArray, List.getElem_cons_zero, List.getElem_cons_succ, Act.put, List.setIfInBounds_toArray, List.set_cons_zero, List.set_cons_succ]
      refine wpAnyL_done (by kernel_rfl) (OnlyN.normal ?_) _
      go_wp2
      exact bodyPost_ret (v := .tuple #[.slice (some x) m c, .slice (some y) q ch]) (by simp [results, Tryd.results12, go_sem]) rfl ⟨rfl, (Below.refl _ w).drew⟩
end Go.Proofs.YtnigpmbpipmgfaaDoor
