/-
  RSet, RForm, RBest: several texts in one (merge.py).
-/
import Derived.Test.YtnigpmbpipmgfaaDoorArr
import Derived.Deep.RegionHeld3
import Derived.Test.YtnigpmbpipmgfaaDoorPlainR

/-
  The reference's Set: a container's numbers, as 256 truths.
-/
namespace Go.Proofs.YtnigpmbpipmgfaaDoor
open Go.RowKit Tess

/-- What lies in memory while Set works. -/
structure SetAt (w W : World) (form : Int) (D : ByteArray) (t : Nat) : Prop where
  box : W.heap[w.heap.size]? = some (.cells #[.int .i64 form, .string D] 75 (0, 0))
  res : Arr W (w.heap.size + 1) 0
  set : Arr W (w.heap.size + 1 + 1) t
  below : Below w.heap.size w W
theorem SetAt.put {w W : World} {form : Int} {D : ByteArray} {t t' i : Nat} {v : Bool} (h : SetAt w W form D t) (hi : i < 256) (hs : ∀ j, j < 256 → t'.testBit j = if j = i then v else t.testBit j) :
    SetAt w (W.setCell ⟨w.heap.size + 1 + 1, i, none⟩ (.bool v)) form D t' :=
  ⟨(Below.heap_setCell W _ _ _ (by show w.heap.size ≠ w.heap.size + 1 + 1; omega)).trans h.box, h.res.far (by show w.heap.size + 1 ≠ w.heap.size + 1 + 1; omega) _, h.set.set_ hi hs, h.below.setCell (p := ⟨w.heap.size + 1 + 1, i, none⟩) (by show w.heap.size ≤ w.heap.size + 1 + 1; omega) _⟩

theorem put_bits (t n : Nat) : ∀ j, j < 256 → (put t n).testBit j = if j = n then true else t.testBit j := by
  intro j _
  rw [testBit_put]
  by_cases h : j = n
  · subst h; simp
  · have : ¬ n = j := fun e => h e.symm
    simp [h, this]

/-! ## the bits of a byte, one by one -/
theorem readBits_hi {d : List Nat} (hd : ∀ j : Nat, d[j]?.getD 0 < 256) : ∀ i, i ≤ 32 → ∀ m, 8 * i ≤ m → (readTo 2 d i).testBit m = false := by
  intro i
  induction i with
  | zero => intro _ m _; simp [readTo]
  | succ i ih =>
    intro hi m hm
    rw [readTo_succ]
    simp only [readStep, show ¬ (2 : Int) = 3 from by decide, if_false, if_true, show i < 32 from by omega]
    rw [Nat.testBit_or, ih (by omega) m (by omega), testBit_byteMul _ _ _ (hd i)]
    have : ¬ (8 * i ≤ m ∧ m < 8 * i + 8) := by omega
    simp [this]
def bitsTo (s x i k : Nat) : Nat := s ||| (x % 2 ^ k) * 2 ^ (8 * i)
theorem bitsTo_zero (s x i : Nat) : bitsTo s x i 0 = s := by simp [bitsTo, Nat.mod_one]
theorem bitsTo_all {s x i : Nat} (hx : x < 256) : bitsTo s x i 8 = s ||| x * 2 ^ (8 * i) := by
  unfold bitsTo; rw [Nat.mod_eq_of_lt (show x < 2 ^ 8 from hx)]
theorem bitsTo_step {s x i k : Nat} (hs : ∀ m, 8 * i ≤ m → s.testBit m = false) : ∀ j, j < 256 → (bitsTo s x i (k + 1)).testBit j = if j = 8 * i + k then x.testBit k else (bitsTo s x i k).testBit j := by
  intro j _
  unfold bitsTo
  have key : ∀ y : Nat, (y * 2 ^ (8 * i)).testBit j = (decide (8 * i ≤ j) && y.testBit (j - 8 * i)) := fun y => by rw [Nat.mul_comm y, Nat.testBit_two_pow_mul]
  rw [Nat.testBit_or, Nat.testBit_or, key, key, Nat.testBit_mod_two_pow, Nat.testBit_mod_two_pow]
  by_cases h : j = 8 * i + k
  · subst h
    rw [hs _ (by omega)]
    simp
  · rw [if_neg h]
    by_cases h1 : 8 * i ≤ j
    · by_cases h2 : j - 8 * i < k
      · have h3 : j - 8 * i < k + 1 := by omega
        simp [h1, h2, h3]
      · have h3 : ¬ j - 8 * i < k + 1 := by omega
        simp [h1, h2, h3]
    · simp [h1]
theorem bit_of_byte (x k : Nat) : (((x : Int) / 2 ^ k) % 2 == 1) = x.testBit k := by
  rw [Nat.testBit_eq_decide_div_mod_eq, show ((2 : Int) ^ k) = ((2 ^ k : Nat) : Int) from by rw [Int.natCast_pow]; rfl, ← Int.natCast_ediv]
  generalize x / 2 ^ k = y
  rw [Bool.eq_iff_iff]
  simp only [beq_iff_eq, decide_eq_true_eq]
  omega
theorem bit_of_byte' (x k : Nat) : (((x : Int) / 2 ^ k).tmod 2 == 1) = x.testBit k := by
  rw [← bit_of_byte, show ((2 : Int) ^ k) = ((2 ^ k : Nat) : Int) from by rw [Int.natCast_pow]; rfl, ← Int.natCast_ediv, Int.tmod_eq_emod_of_nonneg (Int.natCast_nonneg _)]
theorem readTo_past {d : List Nat} {i : Nat} (h : 32 ≤ i) : readTo 2 d (i + 1) = readTo 2 d i := by
  rw [readTo_succ]
  simp only [readStep, show ¬ (2 : Int) = 3 from by decide, if_false, if_true, show ¬ i < 32 from by omega]
theorem readTo_beyond {d : List Nat} : ∀ k, readTo 2 d (32 + k) = readTo 2 d 32
  | 0 => rfl
  | k + 1 => by rw [← Nat.add_assoc, readTo_past (by omega), readTo_beyond k]
theorem readAll_bits {d : List Nat} {i : Nat} (h : i ≤ d.length) (h2 : ¬ (i < d.length ∧ i < 32)) (h3 : i ≤ 32) : readTo 2 d i = readAll 2 d := by
  unfold readAll
  by_cases h4 : i = d.length
  · rw [h4]
  · obtain rfl : i = 32 := by omega
    obtain ⟨k, hk⟩ : ∃ k, d.length = 32 + k := ⟨d.length - 32, by omega⟩
    rw [hk, readTo_beyond]
theorem readTo_runs {d : List Nat} {i : Nat} (he : i % 2 = 0) (h : i + 1 < d.length) : readTo 3 d (i + 2) = putSpan (readTo 3 d i) (d[i]?.getD 0) (min (d[i]?.getD 0 + d[i + 1]?.getD 0) 255) := by
  rw [show i + 2 = i + 1 + 1 from rfl, readTo_succ, readTo_succ]
  have h1 : (i + 1) % 2 = 1 := by omega
  have h2 : ¬ i % 2 = 1 := by omega
  simp only [readStep, if_true, h1, h2, h, if_false]
theorem readAll_runs {d : List Nat} {i : Nat} (he : i % 2 = 0) (h : i ≤ d.length) (h2 : ¬ i + 1 < d.length) : readTo 3 d i = readAll 3 d := by
  unfold readAll
  by_cases h4 : i = d.length
  · rw [h4]
  · have h5 : d.length = i + 1 := by omega
    rw [h5, readTo_succ]
    have h3 : ¬ i % 2 = 1 := by omega
    simp only [readStep, if_true, h3, h2, if_false]
theorem readAll_other {form : Int} {d : List Nat} (h1 : form ≠ 1) (h2 : form ≠ 2) (h3 : form ≠ 3) : readAll form d = 0 := by
  have : ∀ k, readTo form d k = 0 := by
    intro k
    induction k with
    | zero => rfl
    | succ k ih => rw [readTo_succ, ih]; simp [readStep, h1, h2, h3]
  exact this _

set_option maxRecDepth 100000 in
set_option maxHeartbeats 4000000 in
/-- **Set(c)** -/
theorem Set_any (form : Int) (D : ByteArray) (w : World) (hD : D.size ≤ 1000000) :
    Calls Tryd.prog 115 #[.agg #[.int .i64 form, .string D]] w fun e W' => e = .returned (.agg (bc (readAll form (dn D)))) ∧ Below w.heap.size w W' := by
  have hz := zeroArr
  have hA : Hid (SetAt w (((w.alloc (.cells #[.int .i64 form, .string D] 75)).alloc (.cells (bc 0) 149)).alloc (.cells (bc 0) 149)) form D 0) :=
    ⟨(Below.heap_alloc _ _ _ (by simp; omega)).trans (blk2_new w (.int .i64 form) (.string D) 75 _),
      by have := (Arr.new (w.alloc (.cells #[.int .i64 form, .string D] 75)) 0).alloc (.cells (bc 0) 149); rwa [World.size_alloc] at this,
      by have := (Arr.new ((w.alloc (.cells #[.int .i64 form, .string D] 75)).alloc (.cells (bc 0) 149)) 0); rwa [World.size_alloc, World.size_alloc] at this,
      (((Below.refl _ w).alloc (Nat.le_refl _) _).alloc (by simp) _).alloc (by simp; omega) _⟩
  go_enter Tryd.func115, Tryd.ntmps115
  by_cases h1 : form = 1
  · subst h1
    go_wp2
    go_loopw [4] (fun i wr => ∃ k : Nat, k ≤ D.size ∧ i = .int .i64 k ∧ Hid (SetAt w wr 1 D (readTo 1 (dn D) k)))
      (fun i _ => D.size - (intOf i).toNat)
    case atStart => exact ⟨0, Nat.zero_le _, rfl, hA⟩
    case round =>
      obtain ⟨k, hk, rfl, hM⟩ := hrel
      clear hA
      obtain ⟨b0, b1, -, -⟩ := blk2_cells hM.out.box
      by_cases hlt : k < D.size
      · have hkd : decide (k < D.size) = true := by simpa using hlt
        have hk0 : (0 : Int) ≤ (k : Int) := by omega
        have hk1 : (k : Int) < (D.size : Int) := by omega
        have hx2 : (D[k]).toNat < 256 := UInt8.toNat_lt _
        have hst : Hid (readTo 1 (dn D) (k + 1) = put (readTo 1 (dn D) k) (D[k]).toNat) := by
          show _ = _
          rw [readTo_succ, ← dn_get D hlt]; rfl
        have hct := hM.out.set.cell hx2
        have hft := hM.out.set.frozen (D[k]).toNat
        go_wp2
        go_roundw
        case rel => exact ⟨k + 1, by omega, by go_num, by rw [hst.out]; exact hM.out.put hx2 (put_bits _ _)⟩
        case measure => simp [intOf]; omega
      · have hkd : decide (k < D.size) = false := by simpa using hlt
        have hks : k = D.size := by omega
        have hfin : Hid (readTo 1 (dn D) k = readAll 1 (dn D)) := by show _ = _; rw [hks]; unfold readAll; rw [dn_length]
        rw [hfin.out] at hM
        go_wp2
        refine Arr.wpLoad hM.out.set _ rfl rfl ?_
        have hsc := hM.out.res.storeCells (readAll 1 (dn D))
        go_wp2
        exact bodyPost_ret (v := .agg (bc (readAll 1 (dn D)))) (results_cell_row rfl _ _ _ _ _ _ _ rfl (hM.out.res.setRow _) Tryd.underlying149 rfl (sizeArr _)) rfl ⟨rfl, below_setRow hM.out.below (by omega) _⟩
  · have h1' : (form == 1) = false := by simpa using h1
    by_cases h2 : form = 2
    · subst h2
      clear h1'
      go_wp2
      go_loopw [5] (fun i wr => ∃ k : Nat, k ≤ D.size ∧ k ≤ 32 ∧ i = .int .i64 k ∧ Hid (SetAt w wr 2 D (readTo 2 (dn D) k)))
        (fun i _ => D.size - (intOf i).toNat)
      case atStart => exact ⟨0, Nat.zero_le _, by omega, rfl, hA⟩
      case round =>
        obtain ⟨k, hk, hk32, rfl, hM⟩ := hrel
        clear hA
        obtain ⟨b0, b1, -, -⟩ := blk2_cells hM.out.box
        by_cases hlt : k < D.size ∧ k < 32
        · obtain ⟨hl1, hl2⟩ := hlt
          have hkd : decide (k < D.size) = true := by simpa using hl1
          have hkd2 : decide ((k : Int) < 32) = true := by simp; omega
          have hk0 : (0 : Int) ≤ (k : Int) := by omega
          have hk1 : (k : Int) < (D.size : Int) := by omega
          have hx2 : (D[k]).toNat < 256 := UInt8.toNat_lt _
          have hst : Hid (readTo 2 (dn D) (k + 1) = readTo 2 (dn D) k ||| (D[k]).toNat * 2 ^ (8 * k)) := by
            show _ = _
            rw [readTo_succ, ← dn_get D hl1]
            simp only [readStep, show ¬ (2 : Int) = 3 from by decide, if_false, if_true, hl2]
          have hhi : Hid (∀ m, 8 * k ≤ m → (readTo 2 (dn D) k).testBit m = false) := readBits_hi (dn_get_lt D) k hk32
          generalize readTo 2 (dn D) k = t at hM hst hhi
          go_wp2
          obtain ⟨wo, rfl⟩ : ∃ wo : World, wo = wr := ⟨_, rfl⟩
          go_loopw [6] (fun i wi => ∃ m : Nat, m ≤ 8 ∧ i = .int .i64 m ∧ Hid (SetAt w wi 2 D (bitsTo t (D[k]).toNat k m)))
            (fun i _ => 8 - (intOf i).toNat)
          case atStart => exact ⟨0, by omega, rfl, by rw [bitsTo_zero]; exact hM⟩
          case round =>
            obtain ⟨m, hm, rfl, hMi⟩ := hrel
            clear hM b0 b1
            obtain ⟨b0, b1, -, -⟩ := blk2_cells hMi.out.box
            by_cases hm8 : m < 8
            · have hmd : decide ((m : Int) < 8) = true := by simp; omega
              have hbb := bit_of_byte' (D[k]).toNat m
              have hct := hMi.out.set.cell (i := 8 * k + m) (by omega)
              have hft := hMi.out.set.frozen (8 * k + m)
              have hsb : Hid (∀ j, j < 256 → (bitsTo t (D[k]).toNat k (m + 1)).testBit j = if j = 8 * k + m then (D[k]).toNat.testBit m else (bitsTo t (D[k]).toNat k m).testBit j) := bitsTo_step hhi.out
              have h8 : Hid (8 * k + m < 256) := by show _ < _; omega
              go_wp2
              go_roundw
              case rel => exact ⟨m + 1, by omega, by go_num, hMi.out.put h8.out hsb.out⟩
              case measure => simp [intOf]; omega
            · have hmd : decide ((m : Int) < 8) = false := by simp; omega
              obtain rfl : m = 8 := by omega
              have hMj : Hid (SetAt w wr 2 D (t ||| (D[k]).toNat * 2 ^ (8 * k))) := by rw [← bitsTo_all hx2]; exact hMi
              clear hMi
              go_wp2
              go_roundw
              case rel => exact ⟨k + 1, by omega, by omega, by go_num, by rw [hst.out]; exact hMj⟩
              case measure => simp [intOf]; omega
        · have hfin : Hid (readTo 2 (dn D) k = readAll 2 (dn D)) := readAll_bits (by rw [dn_length]; exact hk) (by rw [dn_length]; exact hlt) hk32
          rw [hfin.out] at hM
          by_cases hl1 : k < D.size
          · have hkd : decide (k < D.size) = true := by simpa using hl1
            have hkd2 : decide ((k : Int) < 32) = false := by simp; omega
            go_wp2
            refine Arr.wpLoad hM.out.set _ rfl rfl ?_
            have hsc := hM.out.res.storeCells (readAll 2 (dn D))
            go_wp2
            exact bodyPost_ret (v := .agg (bc (readAll 2 (dn D)))) (results_cell_row rfl _ _ _ _ _ _ _ rfl (hM.out.res.setRow _) Tryd.underlying149 rfl (sizeArr _)) rfl ⟨rfl, below_setRow hM.out.below (by omega) _⟩
          · have hkd : decide (k < D.size) = false := by simpa using hl1
            go_wp2
            refine Arr.wpLoad hM.out.set _ rfl rfl ?_
            have hsc := hM.out.res.storeCells (readAll 2 (dn D))
            go_wp2
            exact bodyPost_ret (v := .agg (bc (readAll 2 (dn D)))) (results_cell_row rfl _ _ _ _ _ _ _ rfl (hM.out.res.setRow _) Tryd.underlying149 rfl (sizeArr _)) rfl ⟨rfl, below_setRow hM.out.below (by omega) _⟩
    · have h2' : (form == 2) = false := by simpa using h2
      by_cases h3 : form = 3
      · subst h3
        clear h1' h2'
        go_wp2
        go_loopw [7] (fun i wr => ∃ k : Nat, k ≤ D.size ∧ k % 2 = 0 ∧ i = .int .i64 k ∧ Hid (SetAt w wr 3 D (readTo 3 (dn D) k)))
          (fun i _ => D.size - (intOf i).toNat)
        case atStart => exact ⟨0, Nat.zero_le _, rfl, rfl, hA⟩
        case round =>
          obtain ⟨k, hk, hev, rfl, hM⟩ := hrel
          clear hA
          obtain ⟨b0, b1, -, -⟩ := blk2_cells hM.out.box
          by_cases hin : k + 1 < D.size
          · have hind : decide ((k : Int) + 1 < (D.size : Int)) = true := by simp; omega
            have hlt : k < D.size := by omega
            have hx2 : (D[k]).toNat < 256 := UInt8.toNat_lt _
            have hxx2 : (D[k + 1]).toNat < 256 := UInt8.toNat_lt _
            have hk0 : (0 : Int) ≤ (k : Int) := by omega
            have hk1 : (k : Int) < (D.size : Int) := by omega
            have hk2 : (0 : Int) ≤ (k : Int) + 1 := by omega
            have hk3 : (k : Int) + 1 < (D.size : Int) := by omega
            have hst : Hid (readTo 3 (dn D) (k + 2) = putSpan (readTo 3 (dn D) k) (D[k]).toNat (min ((D[k]).toNat + (D[k + 1]).toNat) 255)) := by
              show _ = _
              rw [readTo_runs hev (by rw [dn_length]; exact hin), dn_get D hlt, dn_get D hin]
            generalize readTo 3 (dn D) k = t at hM hst
            go_wp2
            obtain ⟨wo, rfl⟩ : ∃ wo : World, wo = wr := ⟨_, rfl⟩
            go_loopw [8] (fun i wi => ∃ m : Nat, i = .int .i64 m ∧ (D[k]).toNat + m ≤ max (D[k]).toNat (min ((D[k]).toNat + (D[k + 1]).toNat) 255 + 1) ∧ Hid (SetAt w wi 3 D (putAll t (List.range' (D[k]).toNat m))))
              (fun i _ => 600 - (intOf i).toNat)
            case atStart => exact ⟨0, by simp, by omega, by simpa [putAll] using hM⟩
            case round =>
              obtain ⟨m, rfl, hmm, hMi⟩ := hrel
              clear hM b0 b1
              obtain ⟨b0, b1, -, -⟩ := blk2_cells hMi.out.box
              by_cases q : m ≤ (D[k + 1]).toNat ∧ (D[k]).toNat + m < 256
              · obtain ⟨q1, q2⟩ := q
                have hq1 : decide (m ≤ (D[k + 1]).toNat) = true := by simpa using q1
                have hq2 : decide ((((D[k]).toNat : Nat) : Int) + (m : Int) < 256) = true := by simp; omega
                have hrg : Hid (putAll t (List.range' (D[k]).toNat (m + 1)) = put (putAll t (List.range' (D[k]).toNat m)) ((D[k]).toNat + m)) := by
                  show _ = _
                  rw [List.range'_concat, putAll_snoc]; simp
                have hm2 : Hid ((D[k]).toNat + (m + 1) ≤ max (D[k]).toNat (min ((D[k]).toNat + (D[k + 1]).toNat) 255 + 1)) := by show _ ≤ _; omega
                have hct := hMi.out.set.cell (i := (D[k]).toNat + m) q2
                have hft := hMi.out.set.frozen ((D[k]).toNat + m)
                have hq2' := Lib.hid q2
                clear hmm
                go_wp2
                go_roundw
                case rel => exact ⟨m + 1, by go_num, hm2.out, by rw [hrg.out]; exact hMi.out.put hq2'.out (put_bits _ _)⟩
                case measure => simp [intOf]; omega
              · have hspan : Hid (putAll t (List.range' (D[k]).toNat m) = putSpan t (D[k]).toNat (min ((D[k]).toNat + (D[k + 1]).toNat) 255)) := by
                  show _ = _
                  unfold putSpan; congr 2; omega
                have hMj : Hid (SetAt w wr 3 D (readTo 3 (dn D) (k + 2))) := by rw [hst.out, ← hspan.out]; exact hMi
                clear hMi hst hspan
                by_cases q1 : m ≤ (D[k + 1]).toNat
                · have hq1 : decide (m ≤ (D[k + 1]).toNat) = true := by simpa using q1
                  have hq2 : decide ((((D[k]).toNat : Nat) : Int) + (m : Int) < 256) = false := by simp; omega
                  clear hmm
                  go_wp2
                  go_roundw
                  case rel => exact ⟨k + 2, by omega, by omega, by go_num, hMj⟩
                  case measure => simp [intOf]; omega
                · have hq1 : decide (m ≤ (D[k + 1]).toNat) = false := by simpa using q1
                  clear hmm
                  go_wp2
                  go_roundw
                  case rel => exact ⟨k + 2, by omega, by omega, by go_num, hMj⟩
                  case measure => simp [intOf]; omega
          · have hind : decide ((k : Int) + 1 < (D.size : Int)) = false := by simp; omega
            have hfin : Hid (readTo 3 (dn D) k = readAll 3 (dn D)) := readAll_runs hev (by rw [dn_length]; exact hk) (by rw [dn_length]; exact hin)
            rw [hfin.out] at hM
            go_wp2
            refine Arr.wpLoad hM.out.set _ rfl rfl ?_
            have hsc := hM.out.res.storeCells (readAll 3 (dn D))
            go_wp2
            exact bodyPost_ret (v := .agg (bc (readAll 3 (dn D)))) (results_cell_row rfl _ _ _ _ _ _ _ rfl (hM.out.res.setRow _) Tryd.underlying149 rfl (sizeArr _)) rfl ⟨rfl, below_setRow hM.out.below (by omega) _⟩
      · have h3' : (form == 3) = false := by simpa using h3
        have hM : Hid (SetAt w (((w.alloc (.cells #[.int .i64 form, .string D] 75)).alloc (.cells (bc 0) 149)).alloc (.cells (bc 0) 149)) form D (readAll form (dn D))) := by
          rw [readAll_other h1 h2 h3]; exact hA
        obtain ⟨b0, b1, -, -⟩ := blk2_cells hM.out.box
        go_wp2
        refine Arr.wpLoad hM.out.set _ rfl rfl ?_
        have hsc := hM.out.res.storeCells (readAll form (dn D))
        go_wp2
        exact bodyPost_ret (v := .agg (bc (readAll form (dn D)))) (results_cell_row rfl _ _ _ _ _ _ _ rfl (hM.out.res.setRow _) Tryd.underlying149 rfl (sizeArr _)) rfl ⟨rfl, below_setRow hM.out.below (by omega) _⟩
end Go.Proofs.YtnigpmbpipmgfaaDoor

/-
  The reference's form: a set's bytes in a form.
-/
namespace Go.Proofs.YtnigpmbpipmgfaaDoor
open Go.RowKit Go.Shelf Tess

/-- The numbers below k. -/
def numsUp (s k : Nat) : List Nat := (List.range k).filter fun n => s.testBit n
theorem numsUp_all (s : Nat) : numsUp s 256 = nums s := rfl
theorem numsUp_yes {s k : Nat} (h : s.testBit k = true) : numsUp s (k + 1) = numsUp s k ++ [k] := by
  unfold numsUp; rw [List.range_succ, List.filter_append]; simp [h]
theorem numsUp_no {s k : Nat} (h : s.testBit k = false) : numsUp s (k + 1) = numsUp s k := by
  unfold numsUp; rw [List.range_succ, List.filter_append]; simp [h]
theorem numsUp_len (s k : Nat) : (numsUp s k).length ≤ k := by
  have := List.length_filter_le (fun n => s.testBit n) (List.range k)
  simpa [numsUp] using this
theorem numsUp_lt {s k : Nat} : ∀ x ∈ numsUp s k, x < k := by
  intro x hx
  simpa using (List.mem_filter.1 hx).1
/-- The last number below k + 1 is k just if k is there. -/
theorem last_up (s k : Nat) : ((k : Int) = (runsOf (numsUp s k)).2 + 1) ↔ (0 < k ∧ s.testBit (k - 1) = true) := by
  rw [runsOf_last]
  cases k with
  | zero => simp [numsUp]
  | succ k =>
    by_cases hb : s.testBit k = true
    · rw [numsUp_yes hb]
      simp [hb]
    · have hb' : s.testBit k = false := by simpa using hb
      rw [numsUp_no hb']
      simp only [Nat.add_sub_cancel, hb', Bool.false_eq_true, and_false, iff_false]
      split
      · omega
      · rename_i hne
        have := numsUp_lt _ (List.getLast_mem hne)
        rw [List.getLast?_eq_some_getLast hne, Option.getD_some]
        omega

/-- What lies in memory while form works. -/
structure FormAt (w W : World) (s : Nat) : Prop where
  res : W.heap[w.heap.size + 1]? = some (.cells #[.int .i64 0, .string ⟨#[]⟩] 75 (0, 0))
  arr : Arr W w.heap.size s
  below : Below w.heap.size w W
theorem FormAt.grown {w wr W : World} {s : Nat} {row : Option Nat} (h : FormAt w wr s) (hg : wr.grownBy W row) (hr : ∀ g, row = some g → w.heap.size + 2 ≤ g) : FormAt w W s :=
  ⟨(hg.block _ (lt_of_heap h.res) (fun e => by have := hr _ e.symm; omega)).trans h.res, h.arr.grown hg (fun e => by have := hr _ e.symm; omega), h.below.grown hg h.below.size (fun g e => by have := hr g e; omega)⟩
theorem FormAt.alloc {w wr : World} {s : Nat} (h : FormAt w wr s) (o : Obj) : FormAt w (wr.alloc o) s :=
  ⟨(Below.heap_alloc _ _ _ (lt_of_heap h.res)).trans h.res, h.arr.alloc _, h.below.alloc h.below.size _⟩

set_option maxRecDepth 100000 in
set_option maxHeartbeats 4000000 in
theorem form_array (s : Nat) (w : World) :
    Calls Tryd.prog 117 #[.agg (bc s), .int .i64 1] w fun e W' => e = .returned (cv 1 (nums s)) ∧ Below w.heap.size w W' := by
  obtain ⟨i0, hi, hz0, hz1, hz2⟩ := info_parts info_u8
  have hA : Hid (FormAt w ((w.alloc (.cells (bc s) 149)).alloc (.cells #[.int .i64 0, .string ⟨#[]⟩] 75)) s) :=
    ⟨by have := heap_alloc_new (w.alloc (.cells (bc s) 149)) (.cells #[.int .i64 0, .string ⟨#[]⟩] 75); rwa [World.size_alloc] at this,
      (Arr.new w s).alloc _, ((Below.refl _ w).alloc (Nat.le_refl _) _).alloc (by simp) _⟩
  go_enter Tryd.func117, Tryd.ntmps117
  go_wp2
  go_loopw [5, 6] (fun v i wr => ∃ k : Nat, k ≤ 256 ∧ i = .int .i64 k ∧ wr.ownsRow (w.heap.size + 2) 5 1 v (numsUp s k).length ((numsUp s k).map bv) ∧ Hid (FormAt w wr s))
    (fun _ i _ => 256 - (intOf i).toNat)
  case atStart => exact ⟨0, by omega, rfl, World.ownsRow_nil _ _ _ _, hA⟩
  case round =>
    obtain ⟨k, hk, rfl, hrow, hM⟩ := hrel
    clear hA
    have hnl := numsUp_len s k
    by_cases hlt : k < 256
    · have hkd : decide ((k : Int) < 256) = true := by simp; omega
      have hk0 : (0 : Int) ≤ (k : Int) := by omega
      have hk1 : (k : Int) < 256 := by omega
      have hct := hM.out.arr.cell hlt
      cases hb : s.testBit k with
      | true =>
        rw [hb] at hct
        have hup := Lib.hid (numsUp_yes hb)
        have hxb : IntKind.u8.wrap (k : Int) = (k : Int) := by rw [IntKind.wrap_u8']; omega
        go_wp2_with (at_builtin; refine wpList_append_own _ rfl _ _ 148 rfl (w.heap.size + 2) 5 i0 (.int .u8 0) 1 1 Tryd.underlying148 hi hz0 hz1 hz2 rfl (by decide) _ _ _ rfl (hrow.alloc _) ⟨wr.heap.size, 0, none⟩ 1 1 [.int .u8 (k : Int)] rfl rfl (cell_one_new _ _ _) (by simp [Value.oneCell']) (by unfold maxLen; omega) (by omega) (by have := lt_of_heap hM.out.res; simp; omega) ?_; intro v' w1 hown' hgrow _; obtain ⟨g', cap', rfl⟩ := ownsRow_succ hown')
        have hM2 := Lib.hid ((hM.out.alloc (.cells #[.int .u8 (k : Int)] 5)).grown hgrow (fun g hg => (hrow.lt g hg).1))
        go_roundw
        case rel => exact ⟨k + 1, by omega, by go_num, by rw [hup.out, List.length_append, List.map_append]; exact hown', hM2⟩
        case measure => simp [intOf]; omega
      | false =>
        rw [hb] at hct
        have hup := Lib.hid (numsUp_no hb)
        go_wp2
        go_roundw
        case rel => exact ⟨k + 1, by omega, by go_num, by rw [hup.out]; exact hrow, hM⟩
        case measure => simp [intOf]; omega
    · have hkd : decide ((k : Int) < 256) = false := by simp; omega
      obtain rfl : k = 256 := by omega
      rw [numsUp_all] at hrow
      have hsv := string_back Tryd.underlying148 Tryd.underlying5 Tryd.underlying9 hrow (fun x hx => (mem_nums.1 hx).1)
      obtain ⟨r0, r1, f0, f1⟩ := blk2_cells hM.out.res
      go_wp2
      have hrs := blk2_cells (heap_set2 hM.out.res (.int .i64 1) (.string (bs (nums s))))
      refine bodyPost_ret (v := cv 1 (nums s)) ?_ rfl ⟨rfl, (hM.out.below.setCell (p := ⟨w.heap.size + 1, 0, none⟩) (Nat.le_succ _) _).setCell (p := ⟨w.heap.size + 1, 1, none⟩) (Nat.le_succ _) _⟩
      simp [results, Tryd.results117, go_sem, cv, hrs.1, hrs.2.1]

set_option maxRecDepth 100000 in
set_option maxHeartbeats 8000000 in
theorem form_runs (s : Nat) (w : World) :
    Calls Tryd.prog 117 #[.agg (bc s), .int .i64 3] w fun e W' => e = .returned (cv 3 (runs s)) ∧ Below w.heap.size w W' := by
  obtain ⟨i0, hi, hz0, hz1, hz2⟩ := info_parts info_u8
  have hA : Hid (FormAt w ((w.alloc (.cells (bc s) 149)).alloc (.cells #[.int .i64 0, .string ⟨#[]⟩] 75)) s) :=
    ⟨by have := heap_alloc_new (w.alloc (.cells (bc s) 149)) (.cells #[.int .i64 0, .string ⟨#[]⟩] 75); rwa [World.size_alloc] at this,
      (Arr.new w s).alloc _, ((Below.refl _ w).alloc (Nat.le_refl _) _).alloc (by simp) _⟩
  go_enter Tryd.func117, Tryd.ntmps117
  go_wp2
  go_loopw [5, 8] (fun v i wr => ∃ k : Nat, k ≤ 256 ∧ i = .int .i64 k ∧ wr.ownsRow (w.heap.size + 2) 5 1 v (runsOf (numsUp s k)).1.length ((runsOf (numsUp s k)).1.map bv) ∧ Hid (FormAt w wr s))
    (fun _ i _ => 256 - (intOf i).toNat)
  case atStart => exact ⟨0, by omega, rfl, World.ownsRow_nil _ _ _ _, hA⟩
  case round =>
    obtain ⟨k, hk, rfl, hrow, hM⟩ := hrel
    clear hA
    have hrl := runsOf_length (numsUp s k)
    have hnl := numsUp_len s k
    by_cases hlt : k < 256
    · have hkd : decide ((k : Int) < 256) = true := by simp; omega
      have hk0 : (0 : Int) ≤ (k : Int) := by omega
      have hk1 : (k : Int) < 256 := by omega
      have hct := hM.out.arr.cell hlt
      cases hb : s.testBit k with
      | false =>
        rw [hb] at hct
        have hup := Lib.hid (numsUp_no hb)
        go_wp2
        go_roundw
        case rel => exact ⟨k + 1, by omega, by go_num, by rw [hup.out]; exact hrow, hM⟩
        case measure => simp [intOf]; omega
      | true =>
        rw [hb] at hct
        have hup := numsUp_yes hb
        have hlast := last_up s k
        have hpair := fun h => runsOf_two (l := numsUp s k) h
        have hempty : numsUp s k = [] → (runsOf (numsUp s k)).2 = -2 := fun h => by rw [h]; rfl
        have hst : ∀ (R : List Nat × Int), R = runsOf (numsUp s k) → runsOf (numsUp s (k + 1)) = runStep R k := fun R e => by rw [hup, runsOf_snoc, e]
        have hxb : IntKind.u8.wrap (k : Int) = (k : Int) := by rw [IntKind.wrap_u8']; omega
        generalize runsOf (numsUp s k) = R at hrow hrl hlast hpair hempty hst
        obtain ⟨o, last⟩ := R
        have hst := hst _ rfl
        simp only at hrow hrl hlast hpair hempty hst
        by_cases hc : 0 < k ∧ s.testBit (k - 1) = true
        · obtain ⟨k', rfl⟩ : ∃ k', k = k' + 1 := ⟨k - 1, by omega⟩
          have he : (((k' + 1 : Nat) : Int)) = last + 1 := hlast.2 hc
          have hb2 : s.testBit k' = true := by simpa using hc.2
          have hct2 := hM.out.arr.cell (i := k') (by omega)
          rw [hb2] at hct2
          have hne : numsUp s (k' + 1) ≠ [] := fun h => by have := hempty h; omega
          have h2 := hpair hne
          obtain ⟨m, hm⟩ : ∃ m, o.length = m + 1 := ⟨o.length - 1, by omega⟩
          have hstep : runStep (o, last) (k' + 1) = (o.set m ((o[m]?.getD 0 + 1) % 256), ((k' + 1 : Nat) : Int)) := by
            unfold runStep; simp only [he, if_true, hm, Nat.add_sub_cancel]
          rw [hstep] at hst
          rw [hm] at hrow
          obtain ⟨g', cap', rfl⟩ := ownsRow_succ hrow
          have hoc : (o.map bv)[m]? = some (.int .u8 ((o[m]?.getD 0 : Nat) : Int)) := by
            rw [List.getElem?_map, List.getElem?_eq_getElem (by omega)]; simp [bv]
          have hcg := hrow.cellAt m (by omega)
          rw [hoc] at hcg
          have hfg := hrow.frozenAt m
          have hmb : m ≤ 511 := by omega
          have hm' := Lib.hid hm
          have hst' := Lib.hid hst
          have hd0 : decide ((0 : Int) < (k' : Int) + 1) = true := decide_eq_true (by omega)
          have hkk0 : (0 : Int) ≤ (k' : Int) := by omega
          have hkk1 : (k' : Int) < 256 := by omega
          have hmm0 : (0 : Int) ≤ (m : Int) := by omega
          clear he hst hm hoc hstep hempty hpair hne hlast hc hup hb hb2
          generalize hcx : o[m]?.getD 0 = c at hcg
          have hbv : Value.int .u8 (((c : Int) + 1) % 256) = bv ((c + 1) % 256) := by simp [bv]
          have hgb : w.heap.size + 2 ≤ g' := (hrow.lt g' rfl).1
          have hcx' := Lib.hid hcx
          have hbv' := Lib.hid hbv
          clear hcx hbv
          go_wp2
          go_roundw
          case rel =>
            refine ⟨k' + 1 + 1, by omega, by go_num, ?_, Lib.hid (hM.out.grown (hrow.stored m _).2 (fun g hg => by cases hg; exact hgb))⟩
            rw [hst'.out, hcx'.out, List.map_set, ← hbv'.out]
            simp only [List.length_set, hm'.out]
            exact (hrow.stored m _).1
          case measure => simp [intOf]; omega
        · have he : ¬ ((k : Nat) : Int) = last + 1 := fun h => hc (hlast.1 h)
          have hstep : runStep (o, last) k = (o ++ [k, 0], (k : Int)) := by
            unfold runStep; simp only [he, if_false]
          rw [hstep] at hst
          have hst' := Lib.hid hst
          have hob : o.length ≤ 512 := by omega
          by_cases hk00 : k = 0
          · subst hk00
            clear he hst hstep hempty hpair hlast hc hup
            go_wp2_with (at_builtin; refine wpList_append_own _ rfl _ _ 148 rfl (w.heap.size + 2) 5 i0 (.int .u8 0) 1 1 Tryd.underlying148 hi hz0 hz1 hz2 rfl (by decide) _ _ _ rfl (hrow.alloc _) ⟨wr.heap.size, 0, none⟩ 2 2 [.int .u8 0, .int .u8 0] rfl rfl (cells_two_new _ _ _ _) (by simp [Value.oneCell']) (by unfold maxLen; omega) (by omega) (by have := lt_of_heap hM.out.res; simp; omega) ?_; intro v' w1 hown' hgrow _; obtain ⟨g', cap', rfl⟩ := ownsRow_succ hown')
            have hM2 := Lib.hid ((hM.out.alloc (.cells #[.int .u8 0, .int .u8 0] 5)).grown hgrow (fun g hg => (hrow.lt g hg).1))
            go_roundw
            case rel =>
              refine ⟨0 + 1, by omega, by go_num, ?_, hM2⟩
              rw [hst'.out]
              simp only [List.length_append, List.length_cons, List.length_nil, List.map_append, List.map_cons, List.map_nil]
              exact hown'
            case measure => simp [intOf]
          · obtain ⟨k', rfl⟩ : ∃ k', k = k' + 1 := ⟨k - 1, by omega⟩
            have hb2 : s.testBit k' = false := by
              cases h : s.testBit k'
              · rfl
              · exact absurd ⟨by omega, by simpa using h⟩ hc
            have hct2 := hM.out.arr.cell (i := k') (by omega)
            rw [hb2] at hct2
            have hd0 : decide ((0 : Int) < (k' : Int) + 1) = true := decide_eq_true (by omega)
            have hkk0 : (0 : Int) ≤ (k' : Int) := by omega
            have hkk1 : (k' : Int) < 256 := by omega
            clear he hst hstep hempty hpair hlast hc hup hb hb2
            go_wp2_with (at_builtin; refine wpList_append_own _ rfl _ _ 148 rfl (w.heap.size + 2) 5 i0 (.int .u8 0) 1 1 Tryd.underlying148 hi hz0 hz1 hz2 rfl (by decide) _ _ _ rfl (hrow.alloc _) ⟨wr.heap.size, 0, none⟩ 2 2 [.int .u8 ((k' : Int) + 1), .int .u8 0] rfl rfl (cells_two_new _ _ _ _) (by simp [Value.oneCell']) (by unfold maxLen; omega) (by omega) (by have := lt_of_heap hM.out.res; simp; omega) ?_; intro v' w1 hown' hgrow _; obtain ⟨g', cap', rfl⟩ := ownsRow_succ hown')
            have hM2 := Lib.hid ((hM.out.alloc (.cells #[.int .u8 ((k' : Int) + 1), .int .u8 0] 5)).grown hgrow (fun g hg => (hrow.lt g hg).1))
            go_roundw
            case rel =>
              refine ⟨k' + 1 + 1, by omega, by go_num, ?_, hM2⟩
              rw [hst'.out]
              simp only [List.length_append, List.length_cons, List.length_nil, List.map_append, List.map_cons, List.map_nil]
              exact hown'
            case measure => simp [intOf]; omega
    · have hkd : decide ((k : Int) < 256) = false := by simp; omega
      obtain rfl : k = 256 := by omega
      have hsm : ∀ x ∈ (runsOf (numsUp s 256)).1, x < 256 := (runsAt s).small
      have hsv := string_back Tryd.underlying148 Tryd.underlying5 Tryd.underlying9 hrow hsm
      obtain ⟨r0, r1, f0, f1⟩ := blk2_cells hM.out.res
      go_wp2
      have hrs := blk2_cells (heap_set2 hM.out.res (.int .i64 3) (.string (bs (runsOf (numsUp s 256)).1)))
      refine bodyPost_ret (v := cv 3 (runs s)) ?_ rfl ⟨rfl, (hM.out.below.setCell (p := ⟨w.heap.size + 1, 0, none⟩) (Nat.le_succ _) _).setCell (p := ⟨w.heap.size + 1, 1, none⟩) (Nat.le_succ _) _⟩
      simp [results, Tryd.results117, go_sem, cv, hrs.1, hrs.2.1]
      try rfl

/-! ## the bits, one by one -/
theorem byteUp_other {s k j : Nat} (h : j ≠ k / 8) : byteAt (s % 2 ^ (k + 1)) j = byteAt (s % 2 ^ k) j := by
  apply Nat.eq_of_testBit_eq
  intro i
  rw [testBit_byteAt, testBit_byteAt, Nat.testBit_mod_two_pow, Nat.testBit_mod_two_pow]
  by_cases hi : i < 8
  · have e : (8 * j + i < k + 1) = (8 * j + i < k) := by
      apply propext
      constructor
      · intro h1; omega
      · intro h1; omega
    simp only [e]
  · simp [hi]
theorem byteUp_low (s k : Nat) : byteAt (s % 2 ^ k) (k / 8) < 2 ^ (k % 8) := by
  refine Nat.lt_pow_two_of_testBit _ fun i hi => ?_
  rw [testBit_byteAt, Nat.testBit_mod_two_pow]
  have : ¬ 8 * (k / 8) + i < k := by omega
  simp [this]
theorem byteUp_yes {s k : Nat} (hb : s.testBit k = true) : byteAt (s % 2 ^ (k + 1)) (k / 8) = byteAt (s % 2 ^ k) (k / 8) + 2 ^ (k % 8) := by
  have h1 := Nat.two_pow_add_eq_or_of_lt (byteUp_low s k) 1
  rw [Nat.mul_one] at h1
  rw [Nat.add_comm (byteAt (s % 2 ^ k) (k / 8)), h1]
  apply Nat.eq_of_testBit_eq
  intro i
  rw [testBit_byteAt, Nat.testBit_or, Nat.testBit_two_pow, testBit_byteAt, Nat.testBit_mod_two_pow, Nat.testBit_mod_two_pow]
  by_cases hi : i < 8
  · by_cases he : i = k % 8
    · have e1 : 8 * (k / 8) + i = k := by omega
      have e2 : k % 8 = i := he.symm
      simp [e1, e2, hb, hi]
    · have e2 : ¬ k % 8 = i := fun e => he e.symm
      have e : (8 * (k / 8) + i < k + 1) = (8 * (k / 8) + i < k) := by
        apply propext
        constructor
        · intro h1; omega
        · intro h1; omega
      simp only [e, e2, decide_false, Bool.false_or]
  · have e2 : ¬ k % 8 = i := by omega
    simp [hi, e2]
theorem byteUp_lt (s k : Nat) : byteAt (s % 2 ^ k) (k / 8) + 2 ^ (k % 8) < 256 := by
  have h1 := byteUp_low s k
  have h2 : (2 : Nat) ^ (k % 8 + 1) ≤ 2 ^ 8 := Nat.pow_le_pow_right (by decide) (by omega)
  rw [Nat.pow_succ] at h2
  omega
theorem rawUp_yes {s k : Nat} (hk : k < 256) (hb : s.testBit k = true) : raw (s % 2 ^ (k + 1)) = (raw (s % 2 ^ k)).set (k / 8) (byteAt (s % 2 ^ k) (k / 8) + 2 ^ (k % 8)) := by
  apply List.ext_getElem?
  intro j
  rw [List.getElem?_set]
  by_cases hj : k / 8 = j
  · subst hj
    have h32 : k / 8 < 32 := by omega
    simp [raw, h32, byteUp_yes hb]
  · rw [if_neg hj]
    by_cases h32 : j < 32
    · simp [raw, h32, byteUp_other (Ne.symm hj)]
    · simp [raw, h32]
theorem rawUp_no {s k : Nat} (hb : s.testBit k = false) : raw (s % 2 ^ (k + 1)) = raw (s % 2 ^ k) := by
  have : s % 2 ^ (k + 1) = s % 2 ^ k := by
    apply Nat.eq_of_testBit_eq
    intro i
    rw [Nat.testBit_mod_two_pow, Nat.testBit_mod_two_pow]
    by_cases he : i = k
    · subst he; simp [hb]
    · have e : (i < k + 1) = (i < k) := by
        apply propext
        constructor
        · intro h1; omega
        · intro h1; omega
      simp only [e]
  rw [this]
theorem rawUp_zero (s : Nat) : raw (s % 2 ^ 0) = raw 0 := by rw [Nat.pow_zero, Nat.mod_one]
theorem rawUp_all (s : Nat) : raw (s % 2 ^ 256) = raw s := by
  unfold raw
  refine List.map_congr_left fun j hj => ?_
  have h32 : j < 32 := by simpa using hj
  apply Nat.eq_of_testBit_eq
  intro i
  rw [testBit_byteAt, testBit_byteAt, Nat.testBit_mod_two_pow]
  by_cases hi : i < 8
  · have : 8 * j + i < 256 := by omega
    simp [this]
  · simp [hi]
theorem mk32 (w : World) : (Instr.makeSlice 148 (.int .i64 32) (.int .i64 32)).run Tryd.prog w = .ok (.slice (some ⟨w.heap.size, 0, none⟩) 32 32) (w.alloc (.cells ((raw 0).map bv).toArray 5)) := by kernel_rfl

set_option maxRecDepth 100000 in
set_option maxHeartbeats 4000000 in
theorem form_raw (s : Nat) (w : World) :
    Calls Tryd.prog 117 #[.agg (bc s), .int .i64 2] w fun e W' => e = .returned (cv 2 (raw s)) ∧ Below w.heap.size w W' := by
  have hmk := mk32
  obtain ⟨w2, hw2⟩ : ∃ w2, w2 = ((w.alloc (.cells (bc s) 149)).alloc (.cells #[.int .i64 0, .string ⟨#[]⟩] 75)) := ⟨_, rfl⟩
  have hs2 : w2.heap.size = w.heap.size + 2 := by rw [hw2]; simp
  have hA : FormAt w w2 s := by
    rw [hw2]
    exact ⟨by have := heap_alloc_new (w.alloc (.cells (bc s) 149)) (.cells #[.int .i64 0, .string ⟨#[]⟩] 75); rwa [World.size_alloc] at this,
      (Arr.new w s).alloc _, ((Below.refl _ w).alloc (Nat.le_refl _) _).alloc (by simp) _⟩
  have hA2 := Lib.hid (hA.alloc (.cells ((raw 0).map bv).toArray 5))
  have hrow0 : (w2.alloc (.cells ((raw 0).map bv).toArray 5)).ownsRow (w.heap.size + 2) 5 1 (.slice (some ⟨w.heap.size + 2, 0, none⟩) 32 32) 32 ((raw 0).map bv) := by
    have := World.ownsRow_lit (base := w.heap.size + 2) (e := 5) (size := 1) w2 ((raw 0).map bv).toArray 32 (by omega) (by decide) (by simp [raw])
    rw [hs2] at this
    exact this
  go_enter Tryd.func117, Tryd.ntmps117
  go_wp2
  rw [← hw2]
  clear hw2 hA hmk
  go_loopw [7] (fun i wr => ∃ k : Nat, k ≤ 256 ∧ i = .int .i64 k ∧ wr.ownsRow (w.heap.size + 2) 5 1 (.slice (some ⟨w.heap.size + 2, 0, none⟩) 32 32) 32 ((raw (s % 2 ^ k)).map bv) ∧ Hid (FormAt w wr s))
    (fun i _ => 256 - (intOf i).toNat)
  case atStart => exact ⟨0, by omega, rfl, by rw [rawUp_zero]; exact hrow0, hA2⟩
  case round =>
    obtain ⟨k, hk, rfl, hrow, hM⟩ := hrel
    clear hA2 hrow0
    by_cases hlt : k < 256
    · have hkd : decide ((k : Int) < 256) = true := by simp; omega
      have hk0 : (0 : Int) ≤ (k : Int) := by omega
      have hk1 : (k : Int) < 256 := by omega
      have hct := hM.out.arr.cell hlt
      cases hb : s.testBit k with
      | false =>
        rw [hb] at hct
        have hup := Lib.hid (rawUp_no hb)
        go_wp2
        go_roundw
        case rel => exact ⟨k + 1, by omega, by go_num, by rw [hup.out]; exact hrow, hM⟩
        case measure => simp [intOf]; omega
      | true =>
        rw [hb] at hct
        have hup := Lib.hid (rawUp_yes hlt hb)
        have hcg := hrow.cellAt (k / 8) (by omega)
        have hrl : (raw (s % 2 ^ k))[k / 8]? = some (byteAt (s % 2 ^ k) (k / 8)) := by
          rw [List.getElem?_eq_getElem (by rw [raw_length]; omega)]; simp [raw]
        rw [List.getElem?_map, hrl] at hcg
        simp only [Option.map_some, bv] at hcg
        have hfg := hrow.frozenAt (k / 8)
        have hbl := byteUp_lt s k
        have hq0 : (0 : Int) ≤ (k : Int) / 8 := by omega
        have hq1 : (k : Int) / 8 < 32 := by omega
        clear hrl hb
        generalize byteAt (s % 2 ^ k) (k / 8) = x at hup hcg hbl
        have hval : Hid (Value.int .u8 (((x : Int) + 2 ^ (k % 8)) % 256) = bv (x + 2 ^ (k % 8))) := by
          show _ = _
          unfold bv
          rw [show ((2 : Int) ^ (k % 8)) = ((2 ^ (k % 8) : Nat) : Int) from by rw [Int.natCast_pow]; rfl, ← Int.natCast_add, show (256 : Int) = ((256 : Nat) : Int) from rfl, ← Int.natCast_emod, Nat.mod_eq_of_lt hbl]
        go_wp2
        go_region
        all_goals
          go_wp2
          go_roundw
          case rel =>
            refine ⟨k + 1, by omega, by go_num, ?_, Lib.hid (hM.out.grown (grown_set _ _ _ _) (fun g hg => by cases hg; exact Nat.le_refl _))⟩
            rw [hup.out, List.map_set, ← hval.out]
            exact (hrow.stored (k / 8) _).1.drew
          case measure => simp [intOf]; omega
    · have hkd : decide ((k : Int) < 256) = false := by simp; omega
      obtain rfl : k = 256 := by omega
      rw [rawUp_all] at hrow
      have hrow' : wr.ownsRow (w.heap.size + 2) 5 1 (.slice (some ⟨w.heap.size + 2, 0, none⟩) 32 32) (raw s).length ((raw s).map bv) := by rw [raw_length]; exact hrow
      have hsv := string_back Tryd.underlying148 Tryd.underlying5 Tryd.underlying9 hrow' (raw_lt s)
      obtain ⟨r0, r1, f0, f1⟩ := blk2_cells hM.out.res
      clear hrow'
      go_wp2
      have hrs := blk2_cells (heap_set2 hM.out.res (.int .i64 2) (.string (bs (raw s))))
      refine bodyPost_ret (v := cv 2 (raw s)) ?_ rfl ⟨rfl, (hM.out.below.setCell (p := ⟨w.heap.size + 1, 0, none⟩) (Nat.le_succ _) _).setCell (p := ⟨w.heap.size + 1, 1, none⟩) (Nat.le_succ _) _⟩
      simp [results, Tryd.results117, go_sem, cv, hrs.1, hrs.2.1]

/-- **form(s, f)**, of the three forms. -/
theorem form_any {s : Nat} {f : Int} {d : List Nat} (h : asOf s f = some d) (w : World) :
    Calls Tryd.prog 117 #[.agg (bc s), .int .i64 f] w fun e W' => e = .returned (cv f d) ∧ Below w.heap.size w W' := by
  unfold asOf at h
  split at h
  · rename_i hf; subst hf; obtain rfl := Option.some.inj h; exact form_array s w
  · split at h
    · rename_i hf; subst hf; obtain rfl := Option.some.inj h; exact form_raw s w
    · split at h
      · rename_i hf; subst hf; obtain rfl := Option.some.inj h; exact form_runs s w
      · cases h
end Go.Proofs.YtnigpmbpipmgfaaDoor

/-
  The reference's best, Right, As.
-/
namespace Go.Proofs.YtnigpmbpipmgfaaDoor
open Go.RowKit Tess

theorem form1 (s : Nat) (w : World) : Calls Tryd.prog 117 #[.agg (bc s), .int .i64 1] w fun e W' => e = .returned (cv 1 (nums s)) ∧ Below w.heap.size w W' := form_any (by rfl) w
theorem form2 (s : Nat) (w : World) : Calls Tryd.prog 117 #[.agg (bc s), .int .i64 2] w fun e W' => e = .returned (cv 2 (raw s)) ∧ Below w.heap.size w W' := form_any (by rfl) w
theorem form3 (s : Nat) (w : World) : Calls Tryd.prog 117 #[.agg (bc s), .int .i64 3] w fun e W' => e = .returned (cv 3 (runs s)) ∧ Below w.heap.size w W' := form_any (by rfl) w

theorem best_first {s : Nat} (h : (nums s).length ≤ (runs s).length) (h2 : (nums s).length ≤ 32) : best s = ⟨1, nums s⟩ := by
  rcases best_cases s with ⟨h, _⟩ | ⟨_, h1, _⟩ | h1
  · exact h
  · omega
  · obtain ⟨_, h3, h4⟩ := h1; omega
theorem best_third {s : Nat} (h : ¬ ((nums s).length ≤ (runs s).length ∧ (nums s).length ≤ 32)) (h2 : (runs s).length ≤ 32) : best s = ⟨3, runs s⟩ := by
  rcases best_cases s with ⟨_, h1, h3⟩ | ⟨h, _⟩ | h1
  · exact absurd ⟨h3, h1⟩ h
  · exact h
  · obtain ⟨_, h3, h4⟩ := h1; omega
theorem best_second {s : Nat} (h : ¬ ((nums s).length ≤ (runs s).length ∧ (nums s).length ≤ 32)) (h2 : ¬ (runs s).length ≤ 32) : best s = ⟨2, raw s⟩ := by
  rcases best_cases s with ⟨_, h1, h3⟩ | ⟨_, _, h1⟩ | h1
  · exact absurd ⟨h3, h1⟩ h
  · omega
  · exact h1.1

/-- What lies in memory while best works. -/
structure RBestAt (w W : World) (s : Nat) : Prop where
  res : W.heap[w.heap.size + 1]? = some (.cells #[.int .i64 0, .string ⟨#[]⟩] 75 (0, 0))
  arr : Arr W w.heap.size s
  below : Below w.heap.size w W
theorem RBestAt.box {w A W : World} {s : Nat} (h : RBestAt w A s) (hb : Below A.heap.size A W) (o : Obj) : RBestAt w (W.alloc o) s :=
  ⟨(Below.heap_alloc _ _ _ (Nat.lt_of_lt_of_le (lt_of_heap h.res) hb.size)).trans ((hb.block _ (lt_of_heap h.res)).trans h.res), (h.arr.later hb).alloc _, below_box h.below h.below.size hb o⟩

set_option maxRecDepth 100000 in
set_option maxHeartbeats 4000000 in
theorem rbest_any (s : Nat) (w : World) :
    Calls Tryd.prog 114 #[.agg (bc s)] w fun e W' => e = .returned (cv (best s).form (best s).data) ∧ Below w.heap.size w W' := by
  have hA0 : Hid (RBestAt w ((w.alloc (.cells (bc s) 149)).alloc (.cells #[.int .i64 0, .string ⟨#[]⟩] 75)) s) :=
    ⟨by have := heap_alloc_new (w.alloc (.cells (bc s) 149)) (.cells #[.int .i64 0, .string ⟨#[]⟩] 75); rwa [World.size_alloc] at this, (Arr.new w s).alloc _, ((Below.refl _ w).alloc (Nat.le_refl _) _).alloc (by simp) _⟩
  go_enter Tryd.func114, Tryd.ntmps114
  go_wp2
  refine Arr.wpLoad hA0.out.arr _ rfl rfl ?_
  have k1 := Lib.hid (form1 s ((w.alloc (.cells (bc s) 149)).alloc (.cells #[.int .i64 0, .string ⟨#[]⟩] 75)))
  go_wp2_with fail
  refine (k1.out).mono ?_
  rintro e W1 ⟨rfl, hb1⟩
  have hA1 := Lib.hid (hA0.out.box hb1 (.cells #[.int .i64 1, .string (bs (nums s))] 75))
  have hx1 := Lib.hid (CBox.new W1 1 (bs (nums s)))
  clear hb1 k1 hA0
  simp only [cv]
  go_wp2
  refine Arr.wpLoad hA1.out.arr _ rfl rfl ?_
  have k2 := Lib.hid (form2 s (W1.alloc (.cells #[.int .i64 1, .string (bs (nums s))] 75)))
  go_wp2_with fail
  refine (k2.out).mono ?_
  rintro e W2 ⟨rfl, hb2⟩
  have hA2 := Lib.hid (hA1.out.box hb2 (.cells #[.int .i64 2, .string (bs (raw s))] 75))
  have hx2 := Lib.hid ((hx1.out.later hb2).alloc (.cells #[.int .i64 2, .string (bs (raw s))] 75))
  have hy2 := Lib.hid (CBox.new W2 2 (bs (raw s)))
  clear hb2 k2 hA1 hx1
  simp only [cv]
  go_wp2
  refine Arr.wpLoad hA2.out.arr _ rfl rfl ?_
  have k3 := Lib.hid (form3 s (W2.alloc (.cells #[.int .i64 2, .string (bs (raw s))] 75)))
  go_wp2_with fail
  refine (k3.out).mono ?_
  rintro e W3 ⟨rfl, hb3⟩
  have hA3 := Lib.hid (hA2.out.box hb3 (.cells #[.int .i64 3, .string (bs (runs s))] 75))
  have hx3 := (hx2.out.later hb3).alloc (.cells #[.int .i64 3, .string (bs (runs s))] 75)
  have hy3 := (hy2.out.later hb3).alloc (.cells #[.int .i64 3, .string (bs (runs s))] 75)
  have hz3 := CBox.new W3 3 (bs (runs s))
  clear hb3 k3 hA2 hx2 hy2
  obtain ⟨a0, a1, -, -⟩ := blk2_cells hx3
  obtain ⟨b0, b1, -, -⟩ := blk2_cells hy3
  obtain ⟨c0, c1, -, -⟩ := blk2_cells hz3
  obtain ⟨r0, r1, f0, f1⟩ := blk2_cells hA3.out.res
  clear hx3 hy3 hz3
  have l1 : (bs (nums s)).size = (nums s).length := bs_size _
  have l2 : (bs (runs s)).size = (runs s).length := bs_size _
  simp only [cv]
  by_cases h1 : (nums s).length ≤ (runs s).length
  · have d1 : decide ((nums s).length ≤ (runs s).length) = true := by simpa using h1
    by_cases h2 : (nums s).length ≤ 32
    · have d2 : decide (((nums s).length : Int) ≤ 32) = true := by simp; omega
      have hbe := Lib.hid (best_first h1 h2)
      go_wp2
      have hrs := blk2_cells (heap_set2 hA3.out.res (.int .i64 1) (.string (bs (nums s))))
      refine bodyPost_ret (v := cv 1 (nums s)) ?_ rfl ⟨by rw [hbe.out], (hA3.out.below.setCell (p := ⟨w.heap.size + 1, 0, none⟩) (Nat.le_succ _) _).setCell (p := ⟨w.heap.size + 1, 1, none⟩) (Nat.le_succ _) _⟩
      simp [results, Tryd.results114, go_sem, cv, hrs.1, hrs.2.1]
    · have d2 : decide (((nums s).length : Int) ≤ 32) = false := by simp; omega
      have d3 : decide (((runs s).length : Int) ≤ 32) = false := by simp; omega
      have hbe := Lib.hid (best_second (s := s) (fun h => h2 h.2) (by omega))
      go_wp2
      have hrs := blk2_cells (heap_set2 hA3.out.res (.int .i64 2) (.string (bs (raw s))))
      refine bodyPost_ret (v := cv 2 (raw s)) ?_ rfl ⟨by rw [hbe.out], (hA3.out.below.setCell (p := ⟨w.heap.size + 1, 0, none⟩) (Nat.le_succ _) _).setCell (p := ⟨w.heap.size + 1, 1, none⟩) (Nat.le_succ _) _⟩
      simp [results, Tryd.results114, go_sem, cv, hrs.1, hrs.2.1]
  · have d1 : decide ((nums s).length ≤ (runs s).length) = false := by simpa using h1
    by_cases h2 : (runs s).length ≤ 32
    · have d2 : decide (((runs s).length : Int) ≤ 32) = true := by simp; omega
      have hbe := Lib.hid (best_third (fun h => h1 h.1) h2)
      go_wp2
      have hrs := blk2_cells (heap_set2 hA3.out.res (.int .i64 3) (.string (bs (runs s))))
      refine bodyPost_ret (v := cv 3 (runs s)) ?_ rfl ⟨by rw [hbe.out], (hA3.out.below.setCell (p := ⟨w.heap.size + 1, 0, none⟩) (Nat.le_succ _) _).setCell (p := ⟨w.heap.size + 1, 1, none⟩) (Nat.le_succ _) _⟩
      simp [results, Tryd.results114, go_sem, cv, hrs.1, hrs.2.1]
    · have d2 : decide (((runs s).length : Int) ≤ 32) = false := by simp; omega
      have hbe := Lib.hid (best_second (fun h => h1 h.1) h2)
      go_wp2
      have hrs := blk2_cells (heap_set2 hA3.out.res (.int .i64 2) (.string (bs (raw s))))
      refine bodyPost_ret (v := cv 2 (raw s)) ?_ rfl ⟨by rw [hbe.out], (hA3.out.below.setCell (p := ⟨w.heap.size + 1, 0, none⟩) (Nat.le_succ _) _).setCell (p := ⟨w.heap.size + 1, 1, none⟩) (Nat.le_succ _) _⟩
      simp [results, Tryd.results114, go_sem, cv, hrs.1, hrs.2.1]
end Go.Proofs.YtnigpmbpipmgfaaDoor
