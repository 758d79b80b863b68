/-
  The reference's Op.
-/
import Derived.Test.YtiannfegjbbpfaaDoorRFlip
import Derived.Test.YtiannfegjbbpfaaDoorOp
namespace Go.Proofs.YtiannfegjbbpfaaDoor
open Go.RowKit Tess

def mixB (r s k : Nat) : Nat := r % 2 ^ k ||| ((s >>> k) <<< k)
theorem testBit_mixB (r s k n : Nat) : (mixB r s k).testBit n = if n < k then r.testBit n else s.testBit n := by
  unfold mixB
  rw [Nat.testBit_or, Nat.testBit_mod_two_pow, Nat.testBit_shiftLeft, Nat.testBit_shiftRight]
  by_cases h : n < k
  · have h' : ¬ k ≤ n := by omega
    simp [h, h']
  · have h' : k ≤ n := by omega
    simp [h, h', show k + (n - k) = n by omega]
theorem mixB_zero (r s : Nat) : mixB r s 0 = s := Nat.eq_of_testBit_eq fun n => by rw [testBit_mixB]; simp
theorem mixB_all {r s : Nat} (hr : r < big) (hs : s < big) : mixB r s 256 = r := Nat.eq_of_testBit_eq fun n => by
  rw [testBit_mixB]
  by_cases h : n < 256
  · simp [h]
  · rw [if_neg h, testBit_big hr (by omega), testBit_big hs (by omega)]
theorem mixB_step (r s k : Nat) : ∀ j, j < 256 → (mixB r s (k + 1)).testBit j = if j = k then r.testBit k else (mixB r s k).testBit j := by
  intro j _
  rw [testBit_mixB, testBit_mixB]
  by_cases h : j = k
  · subst h; simp
  · rw [if_neg h]
    by_cases h2 : j < k
    · rw [if_pos (by omega), if_pos h2]
    · rw [if_neg (by omega), if_neg h2]
theorem mixB_here (r s k : Nat) : (mixB r s k).testBit k = s.testBit k := by rw [testBit_mixB]; simp

/-- Two containers' boxes ahead of a result's. -/
structure TAt (w W : World) (f1 : Int) (D1 : ByteArray) (f2 : Int) (D2 : ByteArray) : Prop where
  box1 : CBox W w.heap.size f1 D1
  box2 : CBox W (w.heap.size + 1) f2 D2
  res : W.heap[w.heap.size + 2]? = some (.cells #[.int .i64 0, .string ⟨#[]⟩] 25 (0, 0))
  below : Below w.heap.size w W
theorem TAt.later {w wr W : World} {f1 f2 : Int} {D1 D2 : ByteArray} (h : TAt w wr f1 D1 f2 D2) (hb : Below wr.heap.size wr W) : TAt w W f1 D1 f2 D2 :=
  ⟨h.box1.later hb, h.box2.later hb, (hb.block _ (lt_of_heap h.res)).trans h.res, h.below.trans (hb.mono h.below.size)⟩
theorem TAt.set2 {w W : World} {f1 f2 : Int} {D1 D2 : ByteArray} (h : TAt w W f1 D1 f2 D2) (a b : Value) : Below w.heap.size w ((W.setCell ⟨w.heap.size + 2, 0, none⟩ a).setCell ⟨w.heap.size + 2, 1, none⟩ b) :=
  (h.below.setCell (p := ⟨w.heap.size + 2, 0, none⟩) (Nat.le_add_right _ _) _).setCell (p := ⟨w.heap.size + 2, 1, none⟩) (Nat.le_add_right _ _) _
theorem TAt.start (w : World) (f1 : Int) (D1 : ByteArray) (f2 : Int) (D2 : ByteArray) :
    TAt w (((w.alloc (.cells #[.int .i64 f1, .string D1] 25)).alloc (.cells #[.int .i64 f2, .string D2] 25)).alloc (.cells #[.int .i64 0, .string ⟨#[]⟩] 25)) f1 D1 f2 D2 := by
  refine ⟨((CBox.new w f1 D1).alloc _).alloc _, ?_, ?_, (((Below.refl _ w).alloc (Nat.le_refl _) _).alloc (by simp) _).alloc (by simp; omega) _⟩
  · have := (CBox.new (w.alloc (.cells #[.int .i64 f1, .string D1] 25)) f2 D2).alloc (.cells #[.int .i64 0, .string ⟨#[]⟩] 25)
    rwa [World.size_alloc] at this
  · have := heap_alloc_new ((w.alloc (.cells #[.int .i64 f1, .string D1] 25)).alloc (.cells #[.int .i64 f2, .string D2] 25)) (.cells #[.int .i64 0, .string ⟨#[]⟩] 25)
    rwa [World.size_alloc, World.size_alloc] at this
/-- … and the two sets. -/
structure OAt (w W : World) (f1 : Int) (D1 : ByteArray) (f2 : Int) (D2 : ByteArray) (bX s bY t : Nat) : Prop where
  base : TAt w W f1 D1 f2 D2
  fst : Arr W bX s
  snd : Arr W bY t
  lo : w.heap.size + 3 ≤ bX
  ne : bX ≠ bY
theorem OAt.later {w wr W : World} {f1 f2 : Int} {D1 D2 : ByteArray} {bX s bY t : Nat} (h : OAt w wr f1 D1 f2 D2 bX s bY t) (hb : Below wr.heap.size wr W) : OAt w W f1 D1 f2 D2 bX s bY t :=
  ⟨h.base.later hb, h.fst.later hb, h.snd.later hb, h.lo, h.ne⟩
theorem OAt.put {w W : World} {f1 f2 : Int} {D1 D2 : ByteArray} {bX s bY t s' i : Nat} {v : Bool} (h : OAt w W f1 D1 f2 D2 bX s bY t) (hi : i < 256) (hs : ∀ j, j < 256 → s'.testBit j = if j = i then v else s.testBit j) :
    OAt w (W.setCell ⟨bX, i, none⟩ (.bool v)) f1 D1 f2 D2 bX s' bY t := by
  have hlo := h.lo
  exact ⟨⟨(Below.heap_setCell W ⟨bX, i, none⟩ _ _ (by show w.heap.size ≠ bX; omega)).trans h.base.box1, (Below.heap_setCell W ⟨bX, i, none⟩ _ _ (by show w.heap.size + 1 ≠ bX; omega)).trans h.base.box2, (Below.heap_setCell W ⟨bX, i, none⟩ _ _ (by show w.heap.size + 2 ≠ bX; omega)).trans h.base.res,
    h.base.below.setCell (p := ⟨bX, i, none⟩) (by show w.heap.size ≤ bX; omega) _⟩, h.fst.set_ hi hs, h.snd.far (fun e => h.ne e.symm) _, hlo, h.ne⟩
theorem OAt.drew {w W : World} {f1 f2 : Int} {D1 D2 : ByteArray} {bX s bY t : Nat} (h : OAt w W f1 D1 f2 D2 bX s bY t) : OAt w W.drew f1 D1 f2 D2 bX s bY t :=
  ⟨⟨h.base.box1, h.base.box2, h.base.res, h.base.below.drew⟩, h.fst.drew, h.snd.drew, h.lo, h.ne⟩
theorem opRes_no' {op f1 f2 : Int} {D1 D2 : ByteArray} (h : ¬ ((ofRes f1 D1).2 = true ∧ (ofRes f2 D2).2 = true ∧ 1 ≤ op ∧ op ≤ 4)) : opRes op f1 D1 f2 D2 = (⟨0, []⟩, 60) := by
  unfold opRes; rw [if_neg h]

set_option maxRecDepth 100000 in
set_option maxHeartbeats 16000000 in
theorem rop_any (op f1 : Int) (D1 : ByteArray) (f2 : Int) (D2 : ByteArray) (w : World) (hD1 : D1.size ≤ 1000000) (hD2 : D2.size ≤ 1000000) :
    Calls Tryd.prog 20 #[.int .i64 op, .agg #[.int .i64 f1, .string D1], .agg #[.int .i64 f2, .string D2]] w fun e W' => e = .returned (.tuple #[cv (opRes op f1 D1 f2 D2).1.form (opRes op f1 D1 f2 D2).1.data, .int .i64 (opRes op f1 D1 f2 D2).2]) ∧ Below w.heap.size w W' := by
  have hz := zeroArr
  have hM0 := Lib.hid (TAt.start w f1 D1 f2 D2)
  have k1 := Lib.hid (rright_any f1 D1 (((w.alloc (.cells #[.int .i64 f1, .string D1] 25)).alloc (.cells #[.int .i64 f2, .string D2] 25)).alloc (.cells #[.int .i64 0, .string ⟨#[]⟩] 25)) hD1)
  go_enter Tryd.func20, Tryd.ntmps20
  go_wp2_with fail
  refine (k1.out).mono ?_
  rintro e W1 ⟨rfl, hb1⟩
  have hM1 := Lib.hid (hM0.out.later hb1)
  clear hb1 hM0 k1
  obtain ⟨b0, b1, -, -⟩ := blk2_cells hM1.out.box1
  obtain ⟨c0, c1, -, -⟩ := blk2_cells hM1.out.box2
  cases hok1 : (ofRes f1 D1).2 with
  | false =>
    have hre : Hid (opRes op f1 D1 f2 D2 = (⟨0, []⟩, 60)) := opRes_no' (fun h => by rw [hok1] at h; exact absurd h.1 (by decide))
    obtain ⟨r0, r1, p0, p1⟩ := blk2_cells hM1.out.res
    go_wp2
    have hrs := blk2_cells (heap_set2 hM1.out.res (.int .i64 0) (.string ⟨#[]⟩))
    refine bodyPost_ret (v := .tuple #[cv 0 [], .int .i64 60]) ?_ rfl ⟨by rw [hre.out], hM1.out.set2 _ _⟩
    simp [results, Tryd.results20, go_sem, cv, hrs.1, hrs.2.1]
    try rfl
  | true =>
    have k2 := Lib.hid (rright_any f2 D2 W1 hD2)
    go_wp2_with fail
    refine (k2.out).mono ?_
    rintro e W2 ⟨rfl, hb2⟩
    have hM := Lib.hid (hM1.out.later hb2)
    clear b0 b1 c0 c1 hb2 hM1 k2
    obtain ⟨b0, b1, -, -⟩ := blk2_cells hM.out.box1
    obtain ⟨c0, c1, -, -⟩ := blk2_cells hM.out.box2
    cases hok2 : (ofRes f2 D2).2 with
    | false =>
      have hre : Hid (opRes op f1 D1 f2 D2 = (⟨0, []⟩, 60)) := opRes_no' (fun h => by rw [hok2] at h; exact absurd h.2.1 (by decide))
      obtain ⟨r0, r1, p0, p1⟩ := blk2_cells hM.out.res
      go_wp2
      have hrs := blk2_cells (heap_set2 hM.out.res (.int .i64 0) (.string ⟨#[]⟩))
      refine bodyPost_ret (v := .tuple #[cv 0 [], .int .i64 60]) ?_ rfl ⟨by rw [hre.out], hM.out.set2 _ _⟩
      simp [results, Tryd.results20, go_sem, cv, hrs.1, hrs.2.1]
      try rfl
    | true =>
      by_cases h1 : op < 1
      · have g1 : decide (op < 1) = true := decide_eq_true h1
        have hre : Hid (opRes op f1 D1 f2 D2 = (⟨0, []⟩, 60)) := opRes_no' (fun h => by omega)
        obtain ⟨r0, r1, p0, p1⟩ := blk2_cells hM.out.res
        go_wp2
        have hrs := blk2_cells (heap_set2 hM.out.res (.int .i64 0) (.string ⟨#[]⟩))
        refine bodyPost_ret (v := .tuple #[cv 0 [], .int .i64 60]) ?_ rfl ⟨by rw [hre.out], hM.out.set2 _ _⟩
        simp [results, Tryd.results20, go_sem, cv, hrs.1, hrs.2.1]
        try rfl
      · have g1 : decide (op < 1) = false := decide_eq_false h1
        by_cases h2 : 4 < op
        · have g2 : decide (4 < op) = true := decide_eq_true h2
          have hre : Hid (opRes op f1 D1 f2 D2 = (⟨0, []⟩, 60)) := opRes_no' (fun h => by omega)
          obtain ⟨r0, r1, p0, p1⟩ := blk2_cells hM.out.res
          go_wp2
          have hrs := blk2_cells (heap_set2 hM.out.res (.int .i64 0) (.string ⟨#[]⟩))
          refine bodyPost_ret (v := .tuple #[cv 0 [], .int .i64 60]) ?_ rfl ⟨by rw [hre.out], hM.out.set2 _ _⟩
          simp [results, Tryd.results20, go_sem, cv, hrs.1, hrs.2.1]
          try rfl
        · have g2 : decide (4 < op) = false := decide_eq_false h2
          have hre := Lib.hid (opRes_yes (op := op) hok1 hok2 ⟨by omega, by omega⟩)
          have k3 := Lib.hid (Set_any f1 D1 W2 hD1)
          rw [ofRes_set hok1] at k3
          have k4 : Hid (∀ W, Calls Tryd.prog 44 #[.agg #[.int .i64 f2, .string D2]] W fun e W' => e = .returned (.agg (bc (ofRes f2 D2).1)) ∧ Below W.heap.size W W') := fun W => by
            have := Set_any f2 D2 W hD2
            rw [ofRes_set hok2] at this
            exact this
          have hbs := Lib.hid (ofRes_big f1 D1)
          have hbt := Lib.hid (ofRes_big f2 D2)
          generalize (ofRes f1 D1).1 = s at k3 hre hbs
          generalize (ofRes f2 D2).1 = t at k4 hre hbt
          have hop : Hid (op = 1 ∨ op = 2 ∨ op = 3 ∨ op = 4) := by show _ ∨ _; omega
          clear hok1 hok2 h1 h2
          have hsc := newArr
          go_wp2_with fail
          refine (k3.out).mono ?_
          rintro e W3 ⟨rfl, hb3⟩
          have hM3 := Lib.hid ((hM.out.later hb3).later ((Below.refl _ W3).alloc (Nat.le_refl _) (.cells (bc s) 63)))
          have hX3 := Lib.hid (Arr.new W3 s)
          have hlo3 : w.heap.size + 3 ≤ W3.heap.size := by have := lt_of_heap (hM.out.later hb3).res; omega
          clear b0 b1 c0 c1 hb3 hM k3 g1 g2
          obtain ⟨c0, c1, -, -⟩ := blk2_cells hM3.out.box2
          go_wp2_with fail
          refine (k4.out _).mono ?_
          rintro e W4 ⟨rfl, hb4⟩
          have hs4 := hb4.size
          rw [World.size_alloc] at hs4
          have hM4 : Hid (OAt w (W4.alloc (.cells (bc t) 63)) f1 D1 f2 D2 W3.heap.size s W4.heap.size t) :=
            ⟨(hM3.out.later hb4).later ((Below.refl _ W4).alloc (Nat.le_refl _) _), (hX3.out.later hb4).alloc _, Arr.new W4 t, hlo3, by omega⟩
          clear c0 c1 hb4 k4 hM3 hX3
          go_wp2
          clear hsc hz
          have hrb := Lib.hid (opOf_lt (op := op) hbs.out hbt.out)
          have hbit : Hid (∀ n, (opOf op s t).testBit n = opBit op (s.testBit n) (t.testBit n)) := testBit_opOf op s t
          obtain ⟨R, hR⟩ : ∃ R, opOf op s t = R := ⟨_, rfl⟩
          rw [hR] at hre hrb hbit
          clear hR
          go_loopw [10] (fun i wr => ∃ k : Nat, k ≤ 256 ∧ i = .int .i64 k ∧ Hid (OAt w wr f1 D1 f2 D2 W3.heap.size (mixB R s k) W4.heap.size t))
            (fun i _ => 256 - (intOf i).toNat)
          case atStart => exact ⟨0, by omega, rfl, by rw [mixB_zero]; exact hM4⟩
          case round =>
            obtain ⟨k, hk, rfl, hMk⟩ := hrel
            clear hM4
            by_cases hlt : k < 256
            · have hkd : decide ((k : Int) < 256) = true := decide_eq_true (by omega)
              have hk0 : (0 : Int) ≤ (k : Int) := by omega
              have hk1 : (k : Int) < 256 := by omega
              have hct := hMk.out.fst.cell hlt
              rw [mixB_here] at hct
              have hft := hMk.out.fst.frozen k
              have hcu := hMk.out.snd.cell hlt
              have hst := Lib.hid (mixB_step R s k)
              rw [hbit.out k] at hst
              have hlt' := Lib.hid hlt
              generalize hs' : s.testBit k = x at hct hst
              generalize ht' : t.testBit k = y at hcu hst
              clear hs' ht'
              rcases hop.out with rfl | rfl | rfl | rfl
              · cases x <;> cases y
                all_goals
                  go_wp2
                  go_roundw
                  case rel => exact ⟨k + 1, by omega, by go_num, hMk.out.put hlt'.out hst.out⟩
                  case measure => simp [intOf]; omega
              · cases x <;> cases y
                all_goals
                  go_wp2
                  go_roundw
                  case rel => exact ⟨k + 1, by omega, by go_num, hMk.out.put hlt'.out hst.out⟩
                  case measure => simp [intOf]; omega
              · cases x <;> cases y
                all_goals
                  go_wp2
                  go_region
                  all_goals
                    go_wp2
                    go_roundw
                    case rel => exact ⟨k + 1, by omega, by go_num, (hMk.out.put hlt'.out hst.out).drew⟩
                    case measure => simp [intOf]; omega
              · cases x <;> cases y
                all_goals
                  go_wp2
                  go_roundw
                  case rel => exact ⟨k + 1, by omega, by go_num, hMk.out.put hlt'.out hst.out⟩
                  case measure => simp [intOf]; omega
            · have hkd : decide ((k : Int) < 256) = false := decide_eq_false (by omega)
              have hk4 : k = 256 := by omega
              have hM5 : Hid (OAt w wr f1 D1 f2 D2 W3.heap.size R W4.heap.size t) := by
                have h := hMk.out
                rw [hk4, mixB_all hrb.out hbs.out] at h
                exact h
              clear hMk hk4
              have hbst := Lib.hid (rbest_any R wr)
              go_wp2
              refine Arr.wpLoad hM5.out.fst _ rfl rfl ?_
              go_wp2_with fail
              refine (hbst.out).mono ?_
              rintro e W5 ⟨rfl, hb5⟩
              have hM6 := Lib.hid (hM5.out.later hb5)
              obtain ⟨r0, r1, p0, p1⟩ := blk2_cells hM6.out.base.res
              simp only [cv]
              go_wp2
              have hrs := blk2_cells (heap_set2 hM6.out.base.res (.int .i64 (best R).form) (.string (bs (best R).data)))
              refine bodyPost_ret (v := .tuple #[cv (best R).form (best R).data, .int .i64 0]) ?_ rfl ⟨by rw [hre.out], hM6.out.base.set2 _ _⟩
              simp [results, Tryd.results20, go_sem, cv, hrs.1, hrs.2.1]
end Go.Proofs.YtiannfegjbbpfaaDoor
