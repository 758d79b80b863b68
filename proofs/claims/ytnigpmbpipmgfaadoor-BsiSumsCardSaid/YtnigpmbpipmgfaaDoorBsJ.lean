/-
  Right, column.value, Get.
-/
import Derived.Test.YtnigpmbpipmgfaaDoorBsI
namespace Go.Proofs.YtnigpmbpipmgfaaDoor
open Go.RowKit Tess

/-- What a row's number is greater by, digit by digit, the least first. -/
def valU (bits : List (List Ch)) (r : Int) : Nat → Nat
  | 0 => 0
  | k + 1 => valU bits r k + (hasL (bits[k]?.getD []) r).toNat * 2 ^ k
theorem valU_lt (bits : List (List Ch)) (r : Int) : ∀ k, valU bits r k < 2 ^ k
  | 0 => by simp [valU]
  | k + 1 => by
    have h := valU_lt bits r k
    unfold valU
    rw [Nat.pow_succ]
    cases hasL (bits[k]?.getD []) r <;> simp <;> omega
theorem valU_app {l : List (List Ch)} (b : List Ch) (r : Int) : ∀ {k}, k ≤ l.length → valU (l ++ [b]) r k = valU l r k
  | 0, _ => rfl
  | k + 1, h => by
    unfold valU
    rw [valU_app b r (by omega), List.getElem?_append_left (by omega)]
theorem valU_val {bits : List (List Ch)} (hr : ∀ x ∈ bits, rightL x = true) (n : Nat) (hn : n < 65536) : valU bits n bits.length = valT bits.reverse n 0 := by
  obtain ⟨l, hl⟩ : ∃ l, bits.reverse = l := ⟨_, rfl⟩
  induction l generalizing bits with
  | nil =>
    have : bits = [] := by simpa using hl
    subst this; rfl
  | cons b l ih =>
    have e : bits = l.reverse ++ [b] := by
      have := congrArg List.reverse hl
      rwa [List.reverse_reverse, List.reverse_cons] at this
    subst e
    rw [hl]
    have hb := hr b (by simp)
    have h1 := ih (bits := l.reverse) (fun x hx => hr x (by simp at hx ⊢; exact .inl hx)) (by simp)
    rw [List.reverse_reverse] at h1
    show valU (l.reverse ++ [b]) n (l.reverse ++ [b]).length = valT l n (2 * 0 + (bitL b n).toNat)
    rw [valT_add, ← h1, List.length_append]
    show valU (l.reverse ++ [b]) n l.reverse.length + (hasL ((l.reverse ++ [b])[l.reverse.length]?.getD []) n).toNat * 2 ^ l.reverse.length = _
    rw [valU_app b n (Nat.le_refl _)]
    have h2 : (l.reverse ++ [b])[l.reverse.length]?.getD [] = b := by simp
    rw [h2, hasL_bits hb]
    have h3 : decide (0 ≤ (n : Int) ∧ (n : Int) < 65536) = true := decide_eq_true ⟨by omega, by omega⟩
    rw [h3, List.length_reverse]
    simp
    omega

set_option maxRecDepth 100000 in
set_option maxHeartbeats 2000000 in
theorem rightB_any {b : Sl} {vE vB : Value} {w : World} (hE : HC w vE b.ex) (hB : HR w vB b.bits) (hs : SmallB b) (hT : Tab w) :
    Calls Tryd.prog 24 #[.agg #[.int .i64 b.n, .int .i64 b.least, vE, vB]] w fun e W' => e = .returned (.bool (isRightB b)) ∧ Below w.heap.size w W' := by
  have b0 := SBox.new w 31 b.n b.least vE vB
  have c0 := b0.c0; have c1 := b0.c1; have c2 := b0.c2; have c3 := b0.c3
  have hR := (Below.refl w.heap.size w).alloc (Nat.le_refl _) (.cells #[.int .i64 b.n, .int .i64 b.least, vE, vB] 31)
  have hk := Lib.hid (isRight_any (hE.later hR) (hB.later hR) hs (hT.below hR hT.lt))
  have hR' := Lib.hid hR
  clear b0 hE hB hs hT hR
  go_enter Tryd.func24, Tryd.ntmps24
  go_wp2_with fail
  refine (hk.out).mono ?_
  rintro e W2 ⟨rfl, hb2⟩
  have hB3 := Lib.hid (hR'.out.trans (hb2.mono hR'.out.size))
  clear hk hb2 hR'
  go_wp2
  exact bodyPost_ret (v := .bool (isRightB b)) (by simp [results, Tryd.results24, go_sem]) rfl ⟨rfl, hB3.out⟩

theorem or_bit {v k : Nat} (hk : k < 64) (hv : v < 2 ^ k) : Go.bits .or .u64 (v : Int) (IntKind.u64.wrap (2 ^ k)) = ((v + 2 ^ k : Nat) : Int) := by
  have hp : (2 : Nat) ^ k < 18446744073709551616 := two_pow_lt hk
  have e : ((2 : Int) ^ k) = ((2 ^ k : Nat) : Int) := by simp
  have h1 := Nat.two_pow_add_eq_or_of_lt hv 1
  rw [Nat.mul_one] at h1
  rw [e, IntKind.wrap_u64, show (((2 ^ k : Nat) : Int) % 18446744073709551616) = ((2 ^ k : Nat) : Int) by omega, word_or (by omega) hk, Nat.or_comm, ← h1, Nat.add_comm]

set_option maxRecDepth 100000 in
set_option maxHeartbeats 4000000 in
theorem value_any {N least : Int} {vE vB : Value} {bits : List (List Ch)} (row : Int) {w : World} (hB : HR w vB bits) (hsb : ∀ x ∈ bits, Small x) (hl64 : bits.length ≤ 64) (hT : Tab w) :
    Calls Tryd.prog 56 #[.agg #[.int .i64 N, .int .i64 least, vE, vB], .int .i64 row] w fun e W' => e = .returned (.int .u64 (valU bits row bits.length : Nat)) ∧ Below w.heap.size w W' := by
  obtain ⟨p, cap, rfl, hcap, hc⟩ := Hid.out hB
  have hc' := Lib.hid hc
  have hsb' := Lib.hid hsb
  have hT' := Lib.hid hT
  have b0 := Lib.hid (SBox.new w 83 N least vE (.slice p bits.length cap))
  have c3 := b0.out.c3
  have hR := Lib.hid ((Below.refl w.heap.size w).alloc (Nat.le_refl _) (.cells #[.int .i64 N, .int .i64 least, vE, .slice p bits.length cap] 83))
  clear hB hc hsb hT hcap
  go_enter Tryd.func56, Tryd.ntmps56
  go_wp2
  go_loopw [5, 12] (fun acc i wr => ∃ k : Nat, k ≤ bits.length ∧ i = .int .i64 k ∧ acc = .int .u64 (valU bits row k : Nat) ∧ Hid (Below w.heap.size w wr))
    (fun _ i _ => bits.length - (intOf i).toNat)
  case atStart => exact ⟨0, Nat.zero_le _, rfl, rfl, hR⟩
  case round =>
    obtain ⟨k, hk, rfl, rfl, hB⟩ := hrel
    clear c3
    by_cases hlt : k < bits.length
    · have hkd : decide (k < bits.length) = true := decide_eq_true hlt
      obtain ⟨b, off, u, hpe, hb, hu, hch⟩ := hc'.out k hlt
      have hch2 : HC w u bits[k] := Lib.hid hch
      obtain ⟨pu, cu, rfl, -, -⟩ := Hid.out hch2
      subst hpe
      have hcc := (hB.out.cell (p := ⟨b, off + k, none⟩) hb).trans hu
      have hsk := hsb'.out _ (List.getElem_mem hlt)
      have hst : Hid (valU bits row (k + 1) = valU bits row k + (hasL bits[k] row).toNat * 2 ^ k) := by
        show _ = _
        show valU bits row k + (hasL (bits[k]?.getD []) row).toNat * 2 ^ k = _
        rw [List.getElem?_eq_getElem hlt]; rfl
      generalize bits[k] = lb at *
      have hvl := Lib.hid (valU_lt bits row k)
      obtain ⟨v0, hv0⟩ : ∃ v0, valU bits row k = v0 := ⟨_, rfl⟩
      rw [hv0] at hst hvl ⊢
      have hB5 := hB.out.alloc hB.out.size (.cells #[.slice pu lb.length cu] 28)
      have n1 := (RBox.new wr (.slice pu lb.length cu)).cell
      have hk3 := Lib.hid (has7_any row (hch2.later hB5) hsk (hT'.out.below hB5 hT'.out.lt))
      have hB5' := Lib.hid hB5
      have hk64 : k < 64 := by omega
      clear hch2 hch hB5 hu hsk hv0
      go_wp2_with fail
      refine (hk3.out).mono ?_
      rintro e W6 ⟨rfl, hb6⟩
      have hB6 := Lib.hid (hB5'.out.trans (hb6.mono hB5'.out.size))
      clear hk3 hb6 hB5'
      cases hw : hasL lb row with
      | false =>
        rw [hw] at hst
        have hst2 : Hid (valU bits row (k + 1) = v0) := by show _ = _; rw [hst.out]; simp
        clear hst hw
        go_wp2
        go_roundw
        case rel => exact ⟨k + 1, by omega, by go_num, by rw [hst2.out], hB6⟩
        case measure => simp [intOf]; omega
      | true =>
        rw [hw] at hst
        have hor := Lib.hid (or_bit hk64 hvl.out)
        have hst2 : Hid (valU bits row (k + 1) = v0 + 2 ^ k) := by show _ = _; rw [hst.out]; simp
        clear hst hw hvl
        go_wp2
        go_roundw
        case rel => exact ⟨k + 1, by omega, by go_num, by rw [hor.out, hst2.out], hB6⟩
        case measure => simp [intOf]; omega
    · have hkd : decide (k < bits.length) = false := decide_eq_false hlt
      have hkk : k = bits.length := by omega
      subst hkk
      go_wp2
      exact bodyPost_ret (v := .int .u64 (valU bits row bits.length : Nat)) (by simp [results, Tryd.results56, go_sem]) rfl ⟨rfl, hB.out⟩

theorem col_keep' {w W Wn : World} {B : Nat} {n least : Int} {vE vB : Value} (hb : Below W.heap.size W Wn) (s1 : Hid (Below w.heap.size w W)) (s2 : Hid (SBox W 83 B n least vE vB)) : Hid (Below w.heap.size w Wn) ∧ Hid (SBox Wn 83 B n least vE vB) ∧ Wn.cell? ⟨B, 0, none⟩ = some (.int .i64 n) ∧ Wn.cell? ⟨B, 1, none⟩ = some (.int .i64 least) ∧ Wn.cell? ⟨B, 2, none⟩ = some vE ∧ Wn.cell? ⟨B, 3, none⟩ = some vB :=
  ⟨Lib.hid (s1.out.trans (hb.mono s1.out.size)), Lib.hid (s2.out.later hb), (s2.out.later hb).c0, (s2.out.later hb).c1, (s2.out.later hb).c2, (s2.out.later hb).c3⟩
/-- Get(b, row). -/
def getB (b : Sl) (row : Int) : Int × Bool := if isRightB b = true ∧ hasL b.ex row = true then (IntKind.i64.wrap (b.least + (valU b.bits row b.bits.length : Nat)), true) else (0, false)

set_option linter.unusedSimpArgs false in
set_option maxRecDepth 100000 in
set_option maxHeartbeats 4000000 in
theorem getB_any {b : Sl} {vE vB : Value} (row : Int) {w : World} (hE : HC w vE b.ex) (hB : HR w vB b.bits) (hs : SmallB b) (hT : Tab w) :
    Calls Tryd.prog 21 #[.agg #[.int .i64 b.n, .int .i64 b.least, vE, vB], .int .i64 row] w fun e W' => e = .returned (.tuple #[.int .i64 (getB b row).1, .bool (getB b row).2]) ∧ Below w.heap.size w W' := by
  have b1 := SBox.new (w.alloc (.cells #[.int .i64 b.n, .int .i64 b.least, vE, vB] 31)) 83 b.n b.least vE vB
  simp only [World.size_alloc] at b1
  have bb := SBox.new w 31 b.n b.least vE vB
  have a0 := bb.c0; have a1 := bb.c1; have a2 := bb.c2; have a3 := bb.c3
  have c0 := b1.c0; have c1 := b1.c1; have c2 := b1.c2; have c3 := b1.c3
  have hR : Below w.heap.size w ((w.alloc (.cells #[.int .i64 b.n, .int .i64 b.least, vE, vB] 31)).alloc (.cells #[.int .i64 b.n, .int .i64 b.least, vE, vB] 83)) := ((Below.refl w.heap.size w).alloc (Nat.le_refl _) _).alloc (by simp) _
  have hk := Lib.hid (isRight_any (hE.later hR) (hB.later hR) hs (hT.below hR hT.lt))
  have hk2 : Hid (∀ W, Below w.heap.size w W → Calls Tryd.prog 55 #[.agg #[vE], .int .i64 row] W fun e W' => e = .returned (.bool (hasL b.ex row)) ∧ Below W.heap.size W W') := fun W hb => has7_any row (hE.later hb) hs.ex (hT.below hb hT.lt)
  have hgB : Hid (isRightB b = true → hasL b.ex row = true → getB b row = (IntKind.i64.wrap (b.least + (valU b.bits row b.bits.length : Nat)), true)) := fun h1 h2 => if_pos ⟨h1, h2⟩
  have hgN : Hid (¬ (isRightB b = true ∧ hasL b.ex row = true) → getB b row = (0, false)) := fun h => if_neg h
  have hk3 : Hid (isRightB b = true → ∀ W, Below w.heap.size w W → Calls Tryd.prog 56 #[.agg #[.int .i64 b.n, .int .i64 b.least, vE, vB], .int .i64 row] W fun e W' => e = .returned (.int .u64 (valU b.bits row b.bits.length : Nat)) ∧ Below W.heap.size W W') := fun h W hb => by
    have hc := (right_iff ⟨hs.lo, hs.hi⟩).1 h
    exact value_any row (hB.later hb) hs.bits hc.len (hT.below hb hT.lt)
  obtain ⟨vv, hvv⟩ : ∃ vv, valU b.bits row b.bits.length = vv := ⟨_, rfl⟩
  rw [hvv] at hgB hk3
  obtain ⟨pE, cE, rfl, -, -⟩ := Hid.out hE
  obtain ⟨pB, cB, rfl, -, -⟩ := Hid.out hB
  clear hE hB hs hT hvv
  generalize getB b row = g at *
  generalize isRightB b = q at *
  generalize hasL b.ex row = q2 at *
  obtain ⟨n, least, ex, bs⟩ := b
  dsimp only at *
  generalize ex.length = lE at *
  generalize bs.length = lB at *
  have b1' := Lib.hid b1
  have hR' := Lib.hid hR
  clear bb hR b1
  go_enter Tryd.func21, Tryd.ntmps21
  cases q with
  | false =>
    have hg := hgN.out (by simp)
    subst hg
    clear hgN hgB hk3 hk2
    go_wp2_with (go_at_call 47; refine (hk.out).mono ?_; rintro e W2 ⟨rfl, hb2⟩)
    have hB3 := Lib.hid (hR'.out.trans (hb2.mono hR'.out.size))
    exact bodyPost_ret (v := .tuple #[.int .i64 0, .bool false]) (by simp [results, Tryd.results21, go_sem]) rfl ⟨rfl, hB3.out⟩
  | true =>
    have k3 := Lib.hid (hk3.out rfl)
    clear hk3
    cases q2 with
    | false =>
      have hg := hgN.out (by simp)
      subst hg
      clear hgN hgB k3
      go_wp2_with (first | (go_at_call 47; refine (hk.out).mono ?_; rintro e W2 ⟨rfl, hb2⟩; have hB3 := Lib.hid (hR'.out.trans (hb2.mono hR'.out.size)); have y2 := (b1'.out.later hb2).c2; have k2 := Lib.hid (hk2.out _ hB3.out)) | (go_at_call 55; refine (k2.out).mono ?_; rintro e W4 ⟨rfl, hb4⟩))
      have hB5 := Lib.hid (hB3.out.trans (hb4.mono hB3.out.size))
      exact bodyPost_ret (v := .tuple #[.int .i64 0, .bool false]) (by simp [results, Tryd.results21, go_sem]) rfl ⟨rfl, hB5.out⟩
    | true =>
      have hg := hgB.out rfl rfl
      subst hg
      clear hgN hgB
      go_wp2_with (first | (go_at_call 47; refine (hk.out).mono ?_; rintro e W2 ⟨rfl, hb2⟩; have hB3 := Lib.hid (hR'.out.trans (hb2.mono hR'.out.size)); have x3 := Lib.hid (b1'.out.later hb2); have y2 := x3.out.c2; have k2 := Lib.hid (hk2.out _ hB3.out)) | (go_at_call 55; refine (k2.out).mono ?_; rintro e W4 ⟨rfl, hb4⟩; have hB5 := Lib.hid (hB3.out.trans (hb4.mono hB3.out.size)); have x5 := Lib.hid (x3.out.later hb4)))
      have hMd : (fun W' => Hid (Below w.heap.size w W') ∧ Hid (SBox W' 83 (w.heap.size + 1) n least (.slice pE lE cE) (.slice pB lB cB)) ∧ W'.cell? ⟨w.heap.size + 1, 0, none⟩ = some (.int .i64 n) ∧ W'.cell? ⟨w.heap.size + 1, 1, none⟩ = some (.int .i64 least) ∧ W'.cell? ⟨w.heap.size + 1, 2, none⟩ = some (.slice pE lE cE) ∧ W'.cell? ⟨w.heap.size + 1, 3, none⟩ = some (.slice pB lB cB)) W4.drew := ⟨Lib.hid hB5.out.drew, x5, x5.out.c0, x5.out.c1, x5.out.c2, x5.out.c3⟩
      clear hk k2 hk2 hb2 hb4 x3 x5 y2 c0 c1 c2 c3 a0 a1 a2 a3 hB3 hB5 b1' hR'
      refine region_late (S := (fun W' => Hid (Below w.heap.size w W') ∧ Hid (SBox W' 83 (w.heap.size + 1) n least (.slice pE lE cE) (.slice pB lB cB)) ∧ W'.cell? ⟨w.heap.size + 1, 0, none⟩ = some (.int .i64 n) ∧ W'.cell? ⟨w.heap.size + 1, 1, none⟩ = some (.int .i64 least) ∧ W'.cell? ⟨w.heap.size + 1, 2, none⟩ = some (.slice pE lE cE) ∧ W'.cell? ⟨w.heap.size + 1, 3, none⟩ = some (.slice pB lB cB))) (fun n => n == 999) (by kernel_rfl) hMd (fun hHeld => ?_)
      clear hMd
      refine wpAnyL_take (i := 0) (oi := { dst := some 20, op := _, type := _, pos := _, after := _, guard := _ }) (v := ?v1) rfl (by kernel_rfl) (by kernel_rfl) (by kernel_rfl) (by kernel_rfl) (fun _ _ _ h => h) (Or.inl ⟨by kernel_rfl, ?y1⟩) hHeld ?r1
      case y1 =>
        intro w hSw
        try dsimp only at hSw
        try simp only [List.getElem_toArray, List.getElem_cons_zero, List.getElem_cons_succ]
        go_simp
        try with_reducible rfl
      try simp only [List.getElem_toArray, List.getElem_cons_zero, List.getElem_cons_succ, Act.put, List.setIfInBounds_toArray, List.set_cons_zero, List.set_cons_succ]
      refine wpAnyL_take (i := 1) (oi := { dst := some 21, op := _, type := _, pos := _, after := _, guard := _ }) (v := ?v2) rfl (by kernel_rfl) (by kernel_rfl) (by kernel_rfl) (by kernel_rfl) (fun _ _ _ h => h) (Or.inl ⟨by kernel_rfl, ?y2⟩) hHeld ?r2
      case y2 =>
        intro w hSw
        try dsimp only at hSw
        try simp only [List.getElem_toArray, List.getElem_cons_zero, List.getElem_cons_succ]
        go_simp
        try with_reducible rfl
      try simp only [List.getElem_toArray, List.getElem_cons_zero, List.getElem_cons_succ, Act.put, List.setIfInBounds_toArray, List.set_cons_zero, List.set_cons_succ]
      refine wpAnyL_take (i := 2) (oi := { dst := some 22, op := _, type := _, pos := _, after := _, guard := _ }) (v := ?v3) rfl (by kernel_rfl) (by kernel_rfl) (by kernel_rfl) (by kernel_rfl) (fun _ _ _ h => h) (Or.inl ⟨by kernel_rfl, ?y3⟩) hHeld ?r3
      case y3 =>
        intro w hSw
        try dsimp only at hSw
        try simp only [List.getElem_toArray, List.getElem_cons_zero, List.getElem_cons_succ]
        go_simp
        try with_reducible rfl
      try simp only [List.getElem_toArray, List.getElem_cons_zero, List.getElem_cons_succ, Act.put, List.setIfInBounds_toArray, List.set_cons_zero, List.set_cons_succ]
      refine wpAnyL_take (i := 3) (oi := { dst := some 23, op := _, type := _, pos := _, after := _, guard := _ }) (v := ?v4) rfl (by kernel_rfl) (by kernel_rfl) (by kernel_rfl) (by kernel_rfl) (fun _ _ _ h => h) (Or.inl ⟨by kernel_rfl, ?y4⟩) hHeld ?r4
      case y4 =>
        intro w hSw
        try dsimp only at hSw
        try simp only [List.getElem_toArray, List.getElem_cons_zero, List.getElem_cons_succ]
        go_simp
        try with_reducible rfl
      try simp only [List.getElem_toArray, List.getElem_cons_zero, List.getElem_cons_succ, Act.put, List.setIfInBounds_toArray, List.set_cons_zero, List.set_cons_succ]
      refine wpAnyL_take (i := 4) (oi := { dst := some 24, op := _, type := _, pos := _, after := _, guard := _ }) (v := ?v5) rfl (by kernel_rfl) (by kernel_rfl) (by kernel_rfl) (by kernel_rfl) (fun _ _ _ h => h) (Or.inl ⟨by kernel_rfl, ?y5⟩) hHeld ?r5
      case y5 =>
        intro w hSw
        try dsimp only at hSw
        try simp only [List.getElem_toArray, List.getElem_cons_zero, List.getElem_cons_succ]
        go_simp
        try with_reducible rfl
      try simp only [List.getElem_toArray, List.getElem_cons_zero, List.getElem_cons_succ, Act.put, List.setIfInBounds_toArray, List.set_cons_zero, List.set_cons_succ]
      refine wpAnyL_take (i := 5) (oi := { dst := some 25, op := _, type := _, pos := _, after := _, guard := _ }) (v := ?v6) rfl (by kernel_rfl) (by kernel_rfl) (by kernel_rfl) (by kernel_rfl) (fun _ _ _ h => h) (Or.inl ⟨by kernel_rfl, ?y6⟩) hHeld ?r6
      case y6 =>
        intro w hSw
        try dsimp only at hSw
        try simp only [List.getElem_toArray, List.getElem_cons_zero, List.getElem_cons_succ]
        go_simp
        try with_reducible rfl
      try simp only [List.getElem_toArray, List.getElem_cons_zero, List.getElem_cons_succ, Act.put, List.setIfInBounds_toArray, List.set_cons_zero, List.set_cons_succ]
      refine wpAnyL_one (i := 6) (by kernel_rfl) rfl (fun K hK => ?_)
      try simp only [List.getElem_toArray, List.getElem_cons_zero, List.getElem_cons_succ]
      go_simp
      go_at_call 56
      refine (k3.out _ hHeld.1.out).mono ?_
      rintro e Wn6 ⟨rfl, hbn⟩
      have hnew := Lib.hid (col_keep' hbn hHeld.1 hHeld.2.1)
      refine hK.out _ _ (fun _ => hnew.out) ?_
      have hHeld' := hnew.out
      clear hHeld hnew hK K hbn
      have hHeld := hHeld'
      clear hHeld'
      try simp only [List.getElem_toArray, List.getElem_cons_zero, List.getElem_cons_succ, Act.put, List.setIfInBounds_toArray, List.set_cons_zero, List.set_cons_succ]
      refine wpAnyL_take (i := 7) (oi := { dst := some 27, op := _, type := _, pos := _, after := _, guard := _ }) (v := ?v7) rfl (by kernel_rfl) (by kernel_rfl) (by kernel_rfl) (by kernel_rfl) (fun _ _ _ h => h) (Or.inl ⟨by kernel_rfl, ?y7⟩) hHeld ?r7
      case y7 =>
        intro w hSw
        try dsimp only at hSw
        try simp only [List.getElem_toArray, List.getElem_cons_zero, List.getElem_cons_succ]
        go_simp
        try with_reducible rfl
      try simp only [List.getElem_toArray, List.getElem_cons_zero, List.getElem_cons_succ, Act.put, List.setIfInBounds_toArray, List.set_cons_zero, List.set_cons_succ]
      refine wpAnyL_take (i := 8) (oi := { dst := some 28, op := _, type := _, pos := _, after := _, guard := _ }) (v := ?v8) rfl (by kernel_rfl) (by kernel_rfl) (by kernel_rfl) (by kernel_rfl) (fun _ _ _ h => h) (Or.inl ⟨by kernel_rfl, ?y8⟩) hHeld ?r8
      case y8 =>
        intro w hSw
        try dsimp only at hSw
        try simp only [List.getElem_toArray, List.getElem_cons_zero, List.getElem_cons_succ]
        go_simp
        try with_reducible rfl
      try simp only [List.getElem_toArray, List.getElem_cons_zero, List.getElem_cons_succ, Act.put, List.setIfInBounds_toArray, List.set_cons_zero, List.set_cons_succ]
      refine wpAnyL_take (i := 9) (oi := { dst := some 4, op := _, type := _, pos := _, after := _, guard := _ }) (v := ?v9) rfl (by kernel_rfl) (by kernel_rfl) (by kernel_rfl) (by kernel_rfl) (fun _ _ _ h => h) (Or.inl ⟨by kernel_rfl, ?y9⟩) hHeld ?r9
      case y9 =>
        intro w hSw
        try dsimp only at hSw
        try simp only [List.getElem_toArray, List.getElem_cons_zero, List.getElem_cons_succ]
        go_simp
        try with_reducible rfl
      try simp only [List.getElem_toArray, List.getElem_cons_zero, List.getElem_cons_succ, Act.put, List.setIfInBounds_toArray, List.set_cons_zero, List.set_cons_succ]
      refine wpAnyL_take (i := 10) (oi := { dst := some 5, op := _, type := _, pos := _, after := _, guard := _ }) (v := ?v10) rfl (by kernel_rfl) (by kernel_rfl) (by kernel_rfl) (by kernel_rfl) (fun _ _ _ h => h) (Or.inl ⟨by kernel_rfl, ?y10⟩) hHeld ?r10
      case y10 =>
        intro w hSw
        try dsimp only at hSw
        try simp only [List.getElem_toArray, List.getElem_cons_zero, List.getElem_cons_succ]
        go_simp
        try with_reducible rfl
      try simp only [List.getElem_toArray, List.getElem_cons_zero, List.getElem_cons_succ, Act.put, List.setIfInBounds_toArray, List.set_cons_zero, List.set_cons_succ]
      refine wpAnyL_done (by kernel_rfl) (OnlyN.normal ?_) _
      go_wp2
      rw [wrap_sum]
      exact bodyPost_ret (v := .tuple #[.int .i64 (IntKind.i64.wrap (least + (vv : Nat))), .bool true]) (by simp [results, Tryd.results21, go_sem]) rfl ⟨rfl, hHeld.1.out⟩
end Go.Proofs.YtnigpmbpipmgfaaDoor
