/-
  The reference's Values, Rank.
-/
import Derived.Test.YtiannfegjbbpfaaDoorRMake
import Derived.Test.YtiannfegjbbpfaaDoorRank
namespace Go.Proofs.YtiannfegjbbpfaaDoor
open Go.RowKit Go.Shelf Tess

theorem ownsRow_later {W W' : World} {base : Nat} {e : TypeId} {size : Nat} {v : Value} {n : Nat} {xs : List Value} (h : W.ownsRow base e size v n xs) (hb : Below W.heap.size W W') : W'.ownsRow base e size v n xs :=
  h.kept (row := none) ⟨hb.os, hb.tape, hb.output, hb.size, fun k hk _ => hb.block k hk⟩ (by
    rcases h.2 with ⟨rfl, _⟩ | ⟨g, cap, cur, rfl, _⟩
    · exact .inl rfl
    · exact .inr (by simp [Value.ownBlock]))

/-- A container's box and 256 truths. -/
structure VAt (w W : World) (f : Int) (D : ByteArray) (bS s : Nat) : Prop where
  box : CBox W w.heap.size f D
  set : Arr W bS s
  below : Below w.heap.size w W
  lo : w.heap.size + 1 ≤ bS
theorem VAt.later {w wr W : World} {f : Int} {D : ByteArray} {bS s : Nat} (h : VAt w wr f D bS s) (hb : Below wr.heap.size wr W) : VAt w W f D bS s :=
  ⟨h.box.later hb, h.set.later hb, h.below.trans (hb.mono h.below.size), h.lo⟩
theorem VAt.alloc {w wr : World} {f : Int} {D : ByteArray} {bS s : Nat} (h : VAt w wr f D bS s) (o : Obj) : VAt w (wr.alloc o) f D bS s := h.later ((Below.refl _ wr).alloc (Nat.le_refl _) _)
theorem VAt.grown {w wr W : World} {f : Int} {D : ByteArray} {bS s : Nat} {row : Option Nat} (h : VAt w wr f D bS s) (hg : wr.grownBy W row) (hr : ∀ g, row = some g → bS + 1 ≤ g) : VAt w W f D bS s := by
  have hlo := h.lo
  exact ⟨h.box.grown hg (fun e => by have := hr _ e.symm; omega), h.set.grown hg (fun e => by have := hr _ e.symm; omega), h.below.grown hg h.below.size (fun g e => by have := hr g e; omega), hlo⟩

set_option maxRecDepth 100000 in
set_option maxHeartbeats 4000000 in
theorem rvalues_any (f : Int) (D : ByteArray) (w : World) (hD : D.size ≤ 1000000) :
    Calls Tryd.prog 29 #[.agg #[.int .i64 f, .string D]] w fun e W' => ∃ v, e = .returned v ∧ HI W' v (numsI f D) ∧ Below w.heap.size w W' := by
  have hz := zeroArr
  have hsc := newArr
  obtain ⟨i0, hi, hz0, hz1, hz2⟩ := info_parts info_int
  have hx0 := Lib.hid (CBox.new w f D)
  have k1 := Lib.hid (Set_any f D (w.alloc (.cells #[.int .i64 f, .string D] 25)) hD)
  go_enter Tryd.func29, Tryd.ntmps29
  go_wp2_with fail
  refine (k1.out).mono ?_
  rintro e W1 ⟨rfl, hb1⟩
  have hs1 := hb1.size
  rw [World.size_alloc] at hs1
  have hM1 : Hid (VAt w (W1.alloc (.cells (bc (readAll f (dn D))) 63)) f D W1.heap.size (readAll f (dn D))) :=
    ⟨(hx0.out.later hb1).alloc _, Arr.new W1 _, (((Below.refl _ w).alloc (Nat.le_refl _) _).trans (hb1.mono (by simp))).alloc (by omega) _, hs1⟩
  clear hb1 k1 hx0
  have hsame : Hid ((ofRes f D).2 = true → readAll f (dn D) = (ofRes f D).1) := fun h => ofRes_set h
  have hzero : Hid ((ofRes f D).2 = false → (ofRes f D).1 = 0) := by
    show _ → _
    intro h
    unfold ofRes at h ⊢
    split
    · rename_i s hs
      rw [hs] at h; cases h
    · rfl
  go_wp2
  clear hz hsc
  go_loopw [3, 5] (fun v i wr => ∃ k : Nat, k ≤ 256 ∧ i = .int .i64 k ∧ wr.ownsRow (W1.heap.size + 1) 3 1 v (numsUp (ofRes f D).1 k).length ((numsUp (ofRes f D).1 k).map iv) ∧ Hid (VAt w wr f D W1.heap.size (readAll f (dn D))))
    (fun _ i _ => 256 - (intOf i).toNat)
  case atStart => exact ⟨0, by omega, rfl, World.ownsRow_nil _ _ _ _, hM1⟩
  case round =>
    obtain ⟨k, hk, rfl, hrow, hM⟩ := hrel
    clear hM1
    have hnl := numsUp_len (ofRes f D).1 k
    by_cases hlt : k < 256
    · have hkd : decide ((k : Int) < 256) = true := decide_eq_true (by omega)
      have hk0 : (0 : Int) ≤ (k : Int) := by omega
      have hk1 : (k : Int) < 256 := by omega
      obtain ⟨b0, b1, -, -⟩ := blk2_cells hM.out.box
      have k2 := Lib.hid (rright_any f D wr hD)
      go_wp2_with fail
      refine (k2.out).mono ?_
      rintro e W2 ⟨rfl, hb2⟩
      have hM2 := Lib.hid (hM.out.later hb2)
      have hrow2 := ownsRow_later hrow hb2
      clear b0 b1 hb2 hrow hM k2
      cases hok : (ofRes f D).2 with
      | false =>
        have hup : Hid (numsUp (ofRes f D).1 (k + 1) = numsUp (ofRes f D).1 k) := numsUp_no (by rw [hzero.out hok]; exact Nat.zero_testBit k)
        go_wp2
        go_roundw
        case rel => exact ⟨k + 1, by omega, by go_num, by rw [hup.out]; exact hrow2, hM2⟩
        case measure => simp [intOf]; omega
      | true =>
        have hct := hM2.out.set.cell hlt
        rw [hsame.out hok] at hct
        cases hb : (ofRes f D).1.testBit k with
        | false =>
          rw [hb] at hct
          have hup := Lib.hid (numsUp_no hb)
          go_wp2
          go_roundw
          case rel => exact ⟨k + 1, by omega, by go_num, by rw [hup.out]; exact hrow2, hM2⟩
          case measure => simp [intOf]; omega
        | true =>
          rw [hb] at hct
          have hup := Lib.hid (numsUp_yes hb)
          generalize numsUp (ofRes f D).1 k = xs at hrow2 hnl hup
          go_wp2_with (at_builtin; refine wpList_append_own _ rfl _ _ 22 rfl (W1.heap.size + 1) 3 i0 (.int .i64 0) 1 8 Tryd.underlying22 hi hz0 hz1 hz2 rfl (by decide) _ _ _ rfl (hrow2.alloc _) ⟨W2.heap.size, 0, none⟩ 1 1 [.int .i64 (k : Int)] rfl rfl (cell_one_new _ _ _) (by simp [Value.oneCell']) (by unfold maxLen; omega) (by omega) (by have := hM2.out.set.lt; simp; omega) ?_; intro v' w1 hown' hgrow _; obtain ⟨g', cap', rfl⟩ := ownsRow_succ hown')
          have hM3 := Lib.hid ((hM2.out.alloc (.cells #[.int .i64 (k : Int)] 3)).grown hgrow (fun g hg => (hrow2.lt g hg).1))
          go_roundw
          case rel => exact ⟨k + 1, by omega, by go_num, by rw [hup.out, List.length_append, List.map_append]; exact hown', hM3⟩
          case measure => simp [intOf]; omega
    · have hkd : decide ((k : Int) < 256) = false := decide_eq_false (by omega)
      obtain rfl : k = 256 := by omega
      rw [numsUp_all] at hrow
      go_wp2
      exact bodyPost_ret (by simp [results, Tryd.results29, go_sem]) rfl ⟨_, rfl, Lib.hid (ints_of_vals hrow), hM.out.below⟩

theorem numsI_get {f : Int} {D : ByteArray} {k : Nat} (h : k < (numsI f D).length) : ∃ h' : k < (nums (ofRes f D).1).length, (numsI f D)[k]?.getD 0 = (((nums (ofRes f D).1)[k] : Nat) : Int) := by
  have h' : k < (nums (ofRes f D).1).length := by unfold numsI at h; simpa using h
  exact ⟨h', by unfold numsI; simp [h']⟩
theorem rank_take_stop {s k : Nat} {n : Int} (hk : k < (nums s).length) (h : ∀ x ∈ (nums s).take k, (x : Int) ≤ n) (hx : n < (((nums s)[k] : Nat) : Int)) : rank s n = k := by
  have hp : (nums s).take k ++ [(nums s)[k]] <+: nums s := by
    rw [← List.take_succ_eq_append_getElem hk]; exact List.take_prefix _ _
  have := rank_stop hp h hx
  rw [this, List.length_take]; omega

set_option maxRecDepth 100000 in
set_option maxHeartbeats 4000000 in
theorem rrank_any (f : Int) (D : ByteArray) (n : Int) (w : World) (hD : D.size ≤ 1000000) :
    Calls Tryd.prog 30 #[.agg #[.int .i64 f, .string D], .int .i64 n] w fun e W' => e = .returned (.int .i64 (rk f D n)) ∧ Below w.heap.size w W' := by
  have hB0 := Lib.hid ((Below.refl w.heap.size w).alloc (Nat.le_refl _) (.cells #[.int .i64 f, .string D] 25))
  have k1 := Lib.hid (rvalues_any f D (w.alloc (.cells #[.int .i64 f, .string D] 25)) hD)
  go_enter Tryd.func30, Tryd.ntmps30
  go_wp2_with fail
  refine (k1.out).mono ?_
  rintro e W1 ⟨v, rfl, hv, hb1⟩
  have hB1 := Lib.hid (hB0.out.trans (hb1.mono hB0.out.size))
  obtain ⟨p, cap, rfl, hcell⟩ := (Hid.out hv).slice
  have hc := Lib.hid hcell
  have hget := Lib.hid (fun k : Nat => @numsI_get f D k)
  have hll := numsI_len f D
  have hnl : Hid ((numsI f D).length = (nums (ofRes f D).1).length) := by show _ = _; unfold numsI; rw [List.length_map]
  clear hb1 hv hcell k1 hB0
  generalize numsI f D = L at hc hget hll hnl ⊢
  have hrk : Hid (rk f D n = (rank (ofRes f D).1 n : Int)) := by show _ = _; rfl
  generalize (ofRes f D).1 = s at hget hrk hnl
  go_wp2
  go_loopw [6] (fun i wr => ∃ k : Nat, k ≤ L.length ∧ i = .int .i64 k ∧ Hid (∀ x ∈ (nums s).take k, (x : Int) ≤ n) ∧ wr = W1)
    (fun i _ => L.length - (intOf i).toNat)
  case atStart => exact ⟨0, Nat.zero_le _, rfl, by show ∀ x ∈ _, _; simp, rfl⟩
  case round =>
    obtain ⟨k, hk, rfl, hle, rfl⟩ := hrel
    by_cases hlt : k < L.length
    · obtain ⟨b1, o1, rfl, _, hx1⟩ := hc.out k hlt
      obtain ⟨hk', hg⟩ := hget.out k hlt
      have hkd : decide (k < L.length) = true := by simpa using hlt
      have hk0 : (0 : Int) ≤ (k : Int) := by omega
      have hk1 : (k : Int) < (L.length : Int) := by omega
      rw [hg] at hx1
      clear hg
      by_cases h1 : (((nums s)[k] : Nat) : Int) ≤ n
      · have hle' : Hid (∀ x ∈ (nums s).take (k + 1), (x : Int) ≤ n) := by
          show ∀ x ∈ _, _
          intro x hx
          rw [List.take_succ_eq_append_getElem hk'] at hx
          rcases List.mem_append.1 hx with hx | hx
          · exact hle.out x hx
          · simp at hx; subst hx; exact h1
        have g1 : decide ((((nums s)[k] : Nat) : Int) ≤ n) = true := decide_eq_true h1
        clear h1
        generalize (nums s)[k] = m at hx1 g1
        go_wp2
        go_roundw
        case rel => exact ⟨k + 1, by omega, by go_num, hle', trivial⟩
        case measure => simp [intOf]; omega
      · have hre := Lib.hid (rank_take_stop hk' hle.out (by omega))
        have g1 : decide ((((nums s)[k] : Nat) : Int) ≤ n) = false := decide_eq_false h1
        clear h1
        generalize (nums s)[k] = m at hx1 g1
        go_wp2
        exact bodyPost_ret (v := .int .i64 k) (by simp [results, Tryd.results30, go_sem]) rfl ⟨by rw [hrk.out, hre.out], hB1.out⟩
    · have hkd : decide (k < L.length) = false := by simpa using hlt
      have hre : Hid (rank s n = k) := by
        show _ = _
        have hkl : k = (nums s).length := by have := hnl.out; omega
        have h := hle.out
        rw [hkl, List.take_length] at h
        rw [rank_done rfl h, hkl]
      go_wp2
      exact bodyPost_ret (v := .int .i64 k) (by simp [results, Tryd.results30, go_sem]) rfl ⟨by rw [hrk.out, hre.out], hB1.out⟩
end Go.Proofs.YtiannfegjbbpfaaDoor
