/-
  Do, Op: several texts in one (merge.py).
-/
import Derived.RangeFuncCalls
import Derived.RangeFuncNested
import Derived.Test.YtnigpmbpipmgfaaDoorPlainR
import Derived.Deep.RegionHeld3

/-
  cont's Op: the four word functions; the map of four functions; a set of which the first words are another's.
-/
namespace Go.Proofs.YtnigpmbpipmgfaaDoor
open Go.RowKit Go.MapKept Tess

theorem minus_word {x y : Nat} (hx : x < 18446744073709551616) (hy : y < 18446744073709551616) : x &&& (18446744073709551615 - y) = minus x y := by
  apply Nat.eq_of_testBit_eq
  intro n
  rw [testBit_minus, Nat.testBit_and, show (18446744073709551615 - y : Nat) = 2 ^ 64 - (y + 1) by omega, Nat.testBit_two_pow_sub_succ hy]
  by_cases hn : n < 64
  · simp [hn]
  · rw [Nat.testBit_lt_two_pow (Nat.lt_of_lt_of_le hx (show 18446744073709551616 ≤ 2 ^ n from Nat.pow_le_pow_right (n := 2) (i := 64) (by decide) (by omega)))]
    simp
theorem do1 (x y : Nat) (hx : x < 18446744073709551616) (hy : y < 18446744073709551616) (w : World) : Calls Tryd.prog 96 #[.int .u64 x, .int .u64 y] w fun e W' => e = .returned (.int .u64 ((opOf 1 x y : Nat) : Int)) ∧ w = W' := by
  have h := u64_and_nat x y hx hy
  go_enter Tryd.func96, Tryd.ntmps96
  go_wp2
  exact bodyPost_ret (v := .int .u64 ((x &&& y : Nat) : Int)) (by simp [results, Tryd.results96, go_sem]) rfl ⟨rfl, rfl⟩
theorem do2 (x y : Nat) (hx : x < 18446744073709551616) (hy : y < 18446744073709551616) (w : World) : Calls Tryd.prog 97 #[.int .u64 x, .int .u64 y] w fun e W' => e = .returned (.int .u64 ((opOf 2 x y : Nat) : Int)) ∧ w = W' := by
  have h := u64_or_nat x y hx hy
  go_enter Tryd.func97, Tryd.ntmps97
  go_wp2
  exact bodyPost_ret (v := .int .u64 ((x ||| y : Nat) : Int)) (by simp [results, Tryd.results97, go_sem]) rfl ⟨rfl, rfl⟩
theorem do3 (x y : Nat) (hx : x < 18446744073709551616) (hy : y < 18446744073709551616) (w : World) : Calls Tryd.prog 98 #[.int .u64 x, .int .u64 y] w fun e W' => e = .returned (.int .u64 ((opOf 3 x y : Nat) : Int)) ∧ w = W' := by
  have h := u64_xor_nat x y hx hy
  go_enter Tryd.func98, Tryd.ntmps98
  go_wp2
  exact bodyPost_ret (v := .int .u64 ((x ^^^ y : Nat) : Int)) (by simp [results, Tryd.results98, go_sem]) rfl ⟨rfl, rfl⟩
theorem do4 (x y : Nat) (hx : x < 18446744073709551616) (hy : y < 18446744073709551616) (w : World) : Calls Tryd.prog 99 #[.int .u64 x, .int .u64 y] w fun e W' => e = .returned (.int .u64 ((opOf 4 x y : Nat) : Int)) ∧ w = W' := by
  have h := u64_andNot_nat x y hx hy
  rw [minus_word hx hy] at h
  go_enter Tryd.func99, Tryd.ntmps99
  go_wp2
  exact bodyPost_ret (v := .int .u64 ((minus x y : Nat) : Int)) (by simp [results, Tryd.results99, go_sem]) rfl ⟨rfl, rfl⟩

/-- Four functions under 1 to 4. -/
def fn4 (f g h k : FuncId) : Array MapEntry := #[fnEntry 1 f 0, fnEntry 2 g 1, fnEntry 3 h 2, fnEntry 4 k 3]
theorem insert4 {P : Program} {T K E : TypeId} (W : World) (f g h k : FuncId) (hT : P.underlying T = some (.map K E)) (hK : P.underlying K = some (.int .i64)) :
    (Instr.mapUpdate T (.map (some W.heap.size)) (.int .i64 1) (.func (.func f) #[] #[])).run P (W.alloc (.map #[] 0)) = .ok () (W.alloc (.map #[fnEntry 1 f 0] 1)) ∧
    (Instr.mapUpdate T (.map (some W.heap.size)) (.int .i64 2) (.func (.func g) #[] #[])).run P (W.alloc (.map #[fnEntry 1 f 0] 1)) = .ok () (W.alloc (.map #[fnEntry 1 f 0, fnEntry 2 g 1] 2)) ∧
    (Instr.mapUpdate T (.map (some W.heap.size)) (.int .i64 3) (.func (.func h) #[] #[])).run P (W.alloc (.map #[fnEntry 1 f 0, fnEntry 2 g 1] 2)) = .ok () (W.alloc (.map #[fnEntry 1 f 0, fnEntry 2 g 1, fnEntry 3 h 2] 3)) ∧
    (Instr.mapUpdate T (.map (some W.heap.size)) (.int .i64 4) (.func (.func k) #[] #[])).run P (W.alloc (.map #[fnEntry 1 f 0, fnEntry 2 g 1, fnEntry 3 h 2] 3)) = .ok () (W.alloc (.map (fn4 f g h k) 4)) := by
  refine ⟨?_, ?_, ?_, ?_⟩
  · exact insert_last W 1 _ hT hK (fun x hx => by simp at hx)
  · exact insert_last W 2 _ hT hK (fun x hx => by simp at hx; subst hx; exact ⟨1, rfl, by decide⟩)
  · exact insert_last W 3 _ hT hK (fun x hx => by simp at hx; rcases hx with rfl | rfl; exact ⟨1, rfl, by decide⟩; exact ⟨2, rfl, by decide⟩)
  · exact insert_last W 4 _ hT hK (fun x hx => by simp at hx; rcases hx with rfl | rfl | rfl; exact ⟨1, rfl, by decide⟩; exact ⟨2, rfl, by decide⟩; exact ⟨3, rfl, by decide⟩)
theorem zero_do (w : World) : (zeroValue 134).run Tryd.prog w = .ok .nilFunc w := by kernel_rfl

/-- WHAT THE LOOK-UP GIVES: a value, whether it is there; and if so, a function that does the operation word by word. -/
def DoLook (op : Int) (fv : Value) (there : Bool) : Prop :=
  (there = false ∧ ¬ (1 ≤ op ∧ op ≤ 4)) ∨ (there = true ∧ 1 ≤ op ∧ op ≤ 4 ∧ ∃ g : FuncId, fv = .func (.func g) #[] #[] ∧ (∀ args w, (callFunc g args).run Tryd.prog w = .ok (.enter g args) w) ∧
    ∀ (x y : Nat) (w : World), x < 18446744073709551616 → y < 18446744073709551616 → Calls Tryd.prog g #[.int .u64 x, .int .u64 y] w fun e W' => e = .returned (.int .u64 ((opOf op x y : Nat) : Int)) ∧ w = W')
theorem look4 (op : Int) : ∃ fv there, DoLook op fv there ∧ ∀ W : World,
    (Instr.lookup 136 (.map (some W.heap.size)) (.int .i64 op) true).run Tryd.prog (W.alloc (.map (fn4 96 97 98 99) 4)) = .ok (.tuple #[fv, .bool there]) (W.alloc (.map (fn4 96 97 98 99) 4)) := by
  have hT := Tryd.underlying136
  have hK := Tryd.underlying3
  by_cases h1 : op = 1
  · subst h1
    exact ⟨.func (.func 96) #[] #[], true, .inr ⟨rfl, by decide, by decide, _, rfl, enters_of Tryd.func96 (by kernel_rfl) rfl, fun x y w hx hy => do1 x y hx hy w⟩, fun W => run_look_some 1 0 (fnEntry 1 _ 0) hT hK (World.alloc_heap_new W _) rfl⟩
  by_cases h2 : op = 2
  · subst h2
    exact ⟨.func (.func 97) #[] #[], true, .inr ⟨rfl, by decide, by decide, _, rfl, enters_of Tryd.func97 (by kernel_rfl) rfl, fun x y w hx hy => do2 x y hx hy w⟩, fun W => run_look_some 2 1 (fnEntry 2 _ 1) hT hK (World.alloc_heap_new W _) rfl⟩
  by_cases h3 : op = 3
  · subst h3
    exact ⟨.func (.func 98) #[] #[], true, .inr ⟨rfl, by decide, by decide, _, rfl, enters_of Tryd.func98 (by kernel_rfl) rfl, fun x y w hx hy => do3 x y hx hy w⟩, fun W => run_look_some 3 2 (fnEntry 3 _ 2) hT hK (World.alloc_heap_new W _) rfl⟩
  by_cases h4 : op = 4
  · subst h4
    exact ⟨.func (.func 99) #[] #[], true, .inr ⟨rfl, by decide, by decide, _, rfl, enters_of Tryd.func99 (by kernel_rfl) rfl, fun x y w hx hy => do4 x y hx hy w⟩, fun W => run_look_some 4 3 (fnEntry 4 _ 3) hT hK (World.alloc_heap_new W _) rfl⟩
  · refine ⟨.nilFunc, false, .inl ⟨rfl, by omega⟩, fun W => run_look_none op _ hT hK (World.alloc_heap_new W _) (fun x hx => ?_) (zero_do _)⟩
    simp [fn4] at hx
    rcases hx with rfl | rfl | rfl | rfl
    · exact ⟨1, rfl, Ne.symm h1⟩
    · exact ⟨2, rfl, Ne.symm h2⟩
    · exact ⟨3, rfl, Ne.symm h3⟩
    · exact ⟨4, rfl, Ne.symm h4⟩

/-! ## the first k words of r, the others of s -/
def mixTo (r s k : Nat) : Nat := r % 2 ^ (64 * k) ||| ((s >>> (64 * k)) <<< (64 * k))
theorem testBit_mixTo (r s k n : Nat) : (mixTo r s k).testBit n = if n < 64 * k then r.testBit n else s.testBit n := by
  unfold mixTo
  rw [Nat.testBit_or, Nat.testBit_mod_two_pow, Nat.testBit_shiftLeft, Nat.testBit_shiftRight]
  by_cases h : n < 64 * k
  · have h' : ¬ 64 * k ≤ n := by omega
    simp [h, h']
  · have h' : 64 * k ≤ n := by omega
    simp [h, h', show 64 * k + (n - 64 * k) = n by omega]
theorem limb_mixTo (r s k j : Nat) : limb (mixTo r s k) j = if j < k then limb r j else limb s j := by
  refine limb_eq_of (by split <;> exact limb_lt _ _) fun i hi => ?_
  rw [testBit_mixTo]
  by_cases h : j < k
  · have h' : 64 * j + i < 64 * k := by omega
    simp only [h, h', if_true, testBit_limb, hi, decide_true, Bool.true_and]
  · have h' : ¬ 64 * j + i < 64 * k := by omega
    simp only [h, h', if_false, testBit_limb, hi, decide_true, Bool.true_and]
theorem mixTo_zero (r s : Nat) : mixTo r s 0 = s := Nat.eq_of_testBit_eq fun n => by rw [testBit_mixTo]; simp
theorem mixTo_four {r s : Nat} (hr : r < big) (hs : s < big) : mixTo r s 4 = r := Nat.eq_of_testBit_eq fun n => by
  rw [testBit_mixTo]
  by_cases h : n < 64 * 4
  · simp [h]
  · rw [if_neg h, testBit_big hr (by omega), testBit_big hs (by omega)]
end Go.Proofs.YtnigpmbpipmgfaaDoor

/-
  cont's Op.
-/
namespace Go.Proofs.YtnigpmbpipmgfaaDoor
open Go.RowKit Go.MapKept Tess

theorem opRes_no {op f1 f2 : Int} {D1 D2 : ByteArray} (h : (ofRes f1 D1).2 = false ∨ (ofRes f2 D2).2 = false ∨ ¬ (1 ≤ op ∧ op ≤ 4)) : opRes op f1 D1 f2 D2 = (⟨0, []⟩, 60) := by
  unfold opRes
  rw [if_neg]
  rintro ⟨a, b, c, d⟩
  rcases h with h | h | h
  · rw [a] at h; cases h
  · rw [b] at h; cases h
  · exact h ⟨c, d⟩
theorem opRes_yes {op f1 f2 : Int} {D1 D2 : ByteArray} (h1 : (ofRes f1 D1).2 = true) (h2 : (ofRes f2 D2).2 = true) (h3 : 1 ≤ op ∧ op ≤ 4) : opRes op f1 D1 f2 D2 = (best (opOf op (ofRes f1 D1).1 (ofRes f2 D2).1), 0) := by
  unfold opRes
  rw [if_pos ⟨h1, h2, h3.1, h3.2⟩]
theorem ofRes_big (f : Int) (D : ByteArray) : (ofRes f D).1 < big := by
  unfold ofRes ofC
  split
  · rename_i s h
    split at h
    · cases h; exact readTo_lt (dn_get_lt D) _
    · cases h
  · decide +kernel

/-- What lies in memory while Op works. -/
structure OpAt (w W : World) (bX s bY t : Nat) : Prop where
  res : W.heap[w.heap.size + 2]? = some (.cells #[.int .i64 0, .string ⟨#[]⟩] 75 (0, 0))
  fst : Words 113 W bX s
  snd : Words 113 W bY t
  below : Below w.heap.size w W
  lo : w.heap.size + 3 ≤ bX
  ne : bX ≠ bY
theorem OpAt.later {w wr W : World} {bX s bY t : Nat} (h : OpAt w wr bX s bY t) (hb : Below wr.heap.size wr W) : OpAt w W bX s bY t :=
  ⟨(hb.block _ (lt_of_heap h.res)).trans h.res, h.fst.below hb h.fst.lt, h.snd.below hb h.snd.lt, h.below.trans (hb.mono h.below.size), h.lo, h.ne⟩
theorem OpAt.grown {w wr W : World} {bX s s' bY t : Nat} (h : OpAt w wr bX s bY t) (hg : wr.grownBy W (some bX)) (hw : Words 113 W bX s') : OpAt w W bX s' bY t :=
  ⟨(hg.block _ (lt_of_heap h.res) (by have := h.lo; simp; omega)).trans h.res, hw, h.snd.grown hg (fun e => h.ne (Option.some.inj e).symm), h.below.grown hg h.below.size (by rintro k ⟨rfl⟩; have := h.lo; omega), h.lo, h.ne⟩

set_option maxRecDepth 100000 in
set_option maxHeartbeats 8000000 in
/-- **Op(op, a, b)** -/
theorem Op_any (op f1 : Int) (D1 : ByteArray) (f2 : Int) (D2 : ByteArray) (w : World) (hD1 : D1.size ≤ 1000000) (hD2 : D2.size ≤ 1000000) (hT : Tab w) :
    Calls Tryd.prog 70 #[.int .i64 op, .agg #[.int .i64 f1, .string D1], .agg #[.int .i64 f2, .string D2]] w fun e W' => e = .returned (.tuple #[cv (opRes op f1 D1 f2 D2).1.form (opRes op f1 D1 f2 D2).1.data, .int .i64 (opRes op f1 D1 f2 D2).2]) ∧ Below w.heap.size w W' := by
  have hmm := @run_makeMap Tryd.prog
  have hR : Below w.heap.size w (((w.alloc (.cells #[.int .i64 f1, .string D1] 75)).alloc (.cells #[.int .i64 f2, .string D2] 75)).alloc (.cells #[.int .i64 0, .string ⟨#[]⟩] 75)) := (((Below.refl _ w).alloc (Nat.le_refl _) _).alloc (by simp) _).alloc (by simp; omega) _
  have ho := Lib.hid (of_any f1 D1 _ hD1 (hT.below hR hT.lt))
  have hM0 := heap_alloc_new ((w.alloc (.cells #[.int .i64 f1, .string D1] 75)).alloc (.cells #[.int .i64 f2, .string D2] 75)) (.cells #[.int .i64 0, .string ⟨#[]⟩] 75)
  have hF0 := blk2_new (w.alloc (.cells #[.int .i64 f1, .string D1] 75)) (.int .i64 f2) (.string D2) 75 (.cells #[.int .i64 0, .string ⟨#[]⟩] 75)
  simp only [World.size_alloc] at hM0 hF0
  go_enter Tryd.func70, Tryd.ntmps70
  go_wp2_with fail
  refine (ho.out).mono ?_
  rintro e W1 ⟨rfl, hb1⟩
  have hs1 := hb1.size
  simp only [World.size_alloc] at hs1
  have hB1 := Lib.hid ((hR.trans (hb1.mono (by simp; omega))).alloc (by omega) (.cells (wcs (ofRes f1 D1).1) 113))
  have hX1 := Lib.hid (Words.new W1 113 (ofRes f1 D1).1)
  have hM1 : Hid ((W1.alloc (.cells (wcs (ofRes f1 D1).1) 113)).heap[w.heap.size + 2]? = some (.cells #[.int .i64 0, .string ⟨#[]⟩] 75 (0, 0))) := (Below.heap_alloc _ _ _ (by omega)).trans ((hb1.block _ (by simp)).trans hM0)
  have hF1 : (W1.alloc (.cells (wcs (ofRes f1 D1).1) 113)).heap[w.heap.size + 1]? = some (.cells #[.int .i64 f2, .string D2] 75 (0, 0)) := (Below.heap_alloc _ _ _ (by omega)).trans ((hb1.block _ (by simp)).trans hF0)
  obtain ⟨d0, d1, _, _⟩ := blk2_cells hF1
  have ho2 := Lib.hid (of_any f2 D2 _ hD2 (hT.below hB1.out hT.lt))
  clear hb1 hM0 hF0 hF1 hR ho
  have hbg := ofRes_big f1 D1
  have hbg2 := ofRes_big f2 D2
  obtain ⟨fv, there, hdl, hlk⟩ := look4 op
  have hno := Lib.hid (@opRes_no op f1 f2 D1 D2)
  have hyes := Lib.hid (@opRes_yes op f1 f2 D1 D2)
  generalize hr1 : ofRes f1 D1 = o1 at hbg hno hyes hB1 hX1 hM1 d0 d1 ho2 ⊢
  generalize hr2 : ofRes f2 D2 = o2 at hbg2 hno hyes ho2 ⊢
  clear hr1 hr2
  obtain ⟨s, ok1⟩ := o1
  obtain ⟨t, ok2⟩ := o2
  have hbgs := Lib.hid hbg
  have hbgt := Lib.hid hbg2
  have hdl' := Lib.hid hdl
  have hlk' := Lib.hid hlk
  clear hbg hbg2 hdl hlk
  simp only [wv, wcs, lv] at hB1 hX1 hM1 d0 d1 ho2 hno hyes ⊢
  go_wp2_with fail
  refine (ho2.out).mono ?_
  rintro e W2 ⟨rfl, hb2⟩
  have hs2 := hb2.size
  simp only [World.size_alloc] at hs2
  have hM2 : Hid (OpAt w (W2.alloc (.cells #[.int .u64 (limb t 0 : Int), .int .u64 (limb t 1 : Int), .int .u64 (limb t 2 : Int), .int .u64 (limb t 3 : Int)] 113)) W1.heap.size s W2.heap.size t) :=
    ⟨(Below.heap_alloc _ _ _ (by omega)).trans ((hb2.block _ (by simp; omega)).trans hM1.out), (hX1.out.below hb2 (by simp)).alloc _, Words.new W2 _ _, (hB1.out.trans (hb2.mono (by simp; omega))).alloc (by omega) _, by omega, by omega⟩
  clear hb2 hB1 hX1 hM1 d0 d1 ho2
  obtain ⟨i1, i2, i3, i4⟩ := insert4 (P := Tryd.prog) (T := 136) (W2.alloc (.cells #[.int .u64 (limb t 0 : Int), .int .u64 (limb t 1 : Int), .int .u64 (limb t 2 : Int), .int .u64 (limb t 3 : Int)] 113)) 96 97 98 99 Tryd.underlying136 Tryd.underlying3
  have i5 := hlk'.out (W2.alloc (.cells #[.int .u64 (limb t 0 : Int), .int .u64 (limb t 1 : Int), .int .u64 (limb t 2 : Int), .int .u64 (limb t 3 : Int)] 113))
  simp only [World.size_alloc] at i1 i2 i3 i4 i5
  have hM3 : Hid (OpAt w ((W2.alloc (.cells #[.int .u64 (limb t 0 : Int), .int .u64 (limb t 1 : Int), .int .u64 (limb t 2 : Int), .int .u64 (limb t 3 : Int)] 113)).alloc (.map (fn4 96 97 98 99) 4)) W1.heap.size s W2.heap.size t) := hM2.out.later ((Below.refl _ _).alloc (Nat.le_refl _) _)
  obtain ⟨r0, r1, q0, q1⟩ := blk2_cells hM3.out.res
  clear hM2 hlk'
  by_cases hall : ok1 = true ∧ ok2 = true ∧ there = true
  · obtain ⟨rfl, rfl, rfl⟩ := hall
    obtain ⟨h, _⟩ | ⟨_, hop1, hop2, g, rfl, hcf, hg⟩ := hdl'.out
    · cases h
    have hre := Lib.hid (hyes.out rfl rfl ⟨hop1, hop2⟩)
    have hg' := Lib.hid hg
    have hgl := Lib.hid (limb_opOf op s t)
    have hrb := Lib.hid (opOf_lt (op := op) hbgs.out hbgt.out)
    obtain ⟨R, hR⟩ : ∃ R, opOf op s t = R := ⟨_, rfl⟩
    rw [hR] at hre hgl hrb
    clear hno hyes hdl' hg hop1 hop2 hR
    go_wp2
    clear r0 r1 q0 q1 i1 i2 i3 i4 i5
    go_loopw [46] (fun i wr => ∃ k : Nat, k ≤ 4 ∧ i = .int .i64 k ∧ Hid (OpAt w wr W1.heap.size (mixTo R s k) W2.heap.size t))
      (fun i _ => 4 - (intOf i).toNat)
    case atStart => exact ⟨0, by omega, rfl, by rw [mixTo_zero]; exact hM3⟩
    case round =>
      obtain ⟨k, hk, rfl, hM⟩ := hrel
      clear hM3
      by_cases hlt : k < 4
      · have hkd : decide ((k : Int) < 4) = true := by simp; omega
        have hk0 : (0 : Int) ≤ (k : Int) := by omega
        have hk1 : (k : Int) < 4 := by omega
        have hct := hM.out.fst.cell (i := k) hlt
        have hft := hM.out.fst.frozen k
        have hcu := hM.out.snd.cell (i := k) hlt
        have hlk : limb (mixTo R s k) k = limb s k := by rw [limb_mixTo, if_neg (by omega)]
        rw [hlk] at hct
        have hlk' : Hid (opOf op (limb s k) (limb t k) = limb (mixTo R s (k + 1)) k) := by
          show _ = _
          rw [limb_mixTo, if_pos (by omega), hgl.out]
        have hoth : Hid (∀ j, j < 4 → limb (mixTo R s (k + 1)) j = if j = k then limb (mixTo R s (k + 1)) k else limb (mixTo R s k) j) := by
          intro j hj
          by_cases hjk : j = k
          · rw [if_pos hjk, hjk]
          · rw [if_neg hjk, limb_mixTo, limb_mixTo]
            by_cases h2 : j < k
            · rw [if_pos (by omega), if_pos h2]
            · rw [if_neg (by omega), if_neg h2]
        have hll1 := limb_lt s k
        have hll2 := limb_lt t k
        clear hlk
        generalize limb s k = x at hct hlk' hll1
        generalize limb t k = y at hcu hlk' hll2
        go_wp2
        go_region_with (refine (hg'.out x y _ hll1 hll2).mono ?_; rintro e W5 ⟨rfl, rfl⟩)
        all_goals
          go_wp2
          go_roundw
          case rel =>
            refine ⟨k + 1, by omega, by go_num, ?_⟩
            rw [hlk'.out]
            exact hM.out.grown (grown_set _ _ _ _) (hM.out.fst.set_ (s' := mixTo R s (k + 1)) hlt hoth.out).drew
          case measure => simp [intOf]; omega
      · have hkd : decide ((k : Int) < 4) = false := by simp; omega
        have hk4 : k = 4 := by omega
        have hM4 : Hid (OpAt w wr W1.heap.size R W2.heap.size t) := by
          have h := hM.out
          rw [hk4, mixTo_four hrb.out hbgs.out] at h
          exact h
        clear hM hk4
        have hbst := Lib.hid (best_any R wr (hT.below hM4.out.below hT.lt))
        have c0 := hM4.out.fst.cell (i := 0) (by decide)
        have c1 := hM4.out.fst.cell (i := 1) (by decide)
        have c2 := hM4.out.fst.cell (i := 2) (by decide)
        have c3 := hM4.out.fst.cell (i := 3) (by decide)
        go_wp2_with fail
        refine (hbst.out).mono ?_
        rintro e W3 ⟨rfl, hb3⟩
        have hM5 := Lib.hid (hM4.out.later hb3)
        obtain ⟨r0, r1, f0, f1⟩ := blk2_cells hM5.out.res
        simp only [cv]
        clear c0 c1 c2 c3
        go_wp2
        have hrs := blk2_cells (heap_set2 hM5.out.res (.int .i64 (best R).form) (.string (bs (best R).data)))
        refine bodyPost_ret (v := .tuple #[cv (best R).form (best R).data, .int .i64 0]) ?_ rfl ⟨by rw [hre.out], (hM5.out.below.setCell (p := ⟨w.heap.size + 2, 0, none⟩) (Nat.le_add_right _ _) _).setCell (p := ⟨w.heap.size + 2, 1, none⟩) (Nat.le_add_right _ _) _⟩
        simp [results, Tryd.results70, go_sem, cv, hrs.1, hrs.2.1]
  · have hre := Lib.hid (hno.out (by
      rcases hdl'.out with ⟨rfl, h⟩ | ⟨rfl, _⟩
      · exact .inr (.inr h)
      · cases ok1 <;> cases ok2 <;> simp_all))
    clear hno hyes hdl'
    cases ok1 <;> cases ok2 <;> cases there
    all_goals first | exact absurd ⟨rfl, rfl, rfl⟩ hall | clear hall
    all_goals
      go_wp2
      have hrs := blk2_cells (heap_set2 hM3.out.res (.int .i64 0) (.string ⟨#[]⟩))
      refine bodyPost_ret (v := .tuple #[cv 0 [], .int .i64 60]) ?_ rfl ⟨by rw [hre.out], (hM3.out.below.setCell (p := ⟨w.heap.size + 2, 0, none⟩) (Nat.le_add_right _ _) _).setCell (p := ⟨w.heap.size + 2, 1, none⟩) (Nat.le_add_right _ _) _⟩
      simp [results, Tryd.results70, go_sem, cv, hrs.1, hrs.2.1]
      try rfl
end Go.Proofs.YtnigpmbpipmgfaaDoor
