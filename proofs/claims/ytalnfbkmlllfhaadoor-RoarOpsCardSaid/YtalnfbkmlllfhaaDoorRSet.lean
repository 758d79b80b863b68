/-
  The reference's Set: a container's numbers, as 256 truths.
-/
import Derived.Test.YtalnfbkmlllfhaaDoorArr
namespace Go.Proofs.YtalnfbkmlllfhaaDoor
open Go.RowKit Tess

/-- What lies in memory while Set works. -/
structure SetAt (w W : World) (form : Int) (D : ByteArray) (t : Nat) : Prop where
  box : W.heap[w.heap.size]? = some (.cells #[.int .i64 form, .string D] 57 (0, 0))
  res : Arr W (w.heap.size + 1) 0
  set : Arr W (w.heap.size + 1 + 1) t
  below : Below w.heap.size w W
theorem SetAt.put {w W : World} {form : Int} {D : ByteArray} {t t' i : Nat} {v : Bool} (h : SetAt w W form D t) (hi : i < 256) (hs : ∀ j, j < 256 → t'.testBit j = if j = i then v else t.testBit j) :
    SetAt w (W.setCell ⟨w.heap.size + 1 + 1, i, none⟩ (.bool v)) form D t' :=
  ⟨(Below.heap_setCell W _ _ _ (by show w.heap.size ≠ w.heap.size + 1 + 1; omega)).trans h.box, h.res.far (by show w.heap.size + 1 ≠ w.heap.size + 1 + 1; omega) _, h.set.set_ hi hs, h.below.setCell (p := ⟨w.heap.size + 1 + 1, i, none⟩) (by show w.heap.size ≤ w.heap.size + 1 + 1; omega) _⟩

theorem put_bits (t n : Nat) : ∀ j, j < 256 → (put t n).testBit j = if j = n then true else t.testBit j := by
  intro j _
  rw [testBit_put]
  by_cases h : j = n
  · subst h; simp
  · have : ¬ n = j := fun e => h e.symm
    simp [h, this]

/-! ## the bits of a byte, one by one -/
theorem readBits_hi {d : List Nat} (hd : ∀ j : Nat, d[j]?.getD 0 < 256) : ∀ i, i ≤ 32 → ∀ m, 8 * i ≤ m → (readTo 2 d i).testBit m = false := by
  intro i
  induction i with
  | zero => intro _ m _; simp [readTo]
  | succ i ih =>
    intro hi m hm
    rw [readTo_succ]
    simp only [readStep, show ¬ (2 : Int) = 3 from by decide, if_false, if_true, show i < 32 from by omega]
    rw [Nat.testBit_or, ih (by omega) m (by omega), testBit_byteMul _ _ _ (hd i)]
    have : ¬ (8 * i ≤ m ∧ m < 8 * i + 8) := by omega
    simp [this]
def bitsTo (s x i k : Nat) : Nat := s ||| (x % 2 ^ k) * 2 ^ (8 * i)
theorem bitsTo_zero (s x i : Nat) : bitsTo s x i 0 = s := by simp [bitsTo, Nat.mod_one]
theorem bitsTo_all {s x i : Nat} (hx : x < 256) : bitsTo s x i 8 = s ||| x * 2 ^ (8 * i) := by
  unfold bitsTo; rw [Nat.mod_eq_of_lt (show x < 2 ^ 8 from hx)]
theorem bitsTo_step {s x i k : Nat} (hs : ∀ m, 8 * i ≤ m → s.testBit m = false) : ∀ j, j < 256 → (bitsTo s x i (k + 1)).testBit j = if j = 8 * i + k then x.testBit k else (bitsTo s x i k).testBit j := by
  intro j _
  unfold bitsTo
  have key : ∀ y : Nat, (y * 2 ^ (8 * i)).testBit j = (decide (8 * i ≤ j) && y.testBit (j - 8 * i)) := fun y => by rw [Nat.mul_comm y, Nat.testBit_two_pow_mul]
  rw [Nat.testBit_or, Nat.testBit_or, key, key, Nat.testBit_mod_two_pow, Nat.testBit_mod_two_pow]
  by_cases h : j = 8 * i + k
  · subst h
    rw [hs _ (by omega)]
    simp
  · rw [if_neg h]
    by_cases h1 : 8 * i ≤ j
    · by_cases h2 : j - 8 * i < k
      · have h3 : j - 8 * i < k + 1 := by omega
        simp [h1, h2, h3]
      · have h3 : ¬ j - 8 * i < k + 1 := by omega
        simp [h1, h2, h3]
    · simp [h1]
theorem bit_of_byte (x k : Nat) : (((x : Int) / 2 ^ k) % 2 == 1) = x.testBit k := by
  rw [Nat.testBit_eq_decide_div_mod_eq, show ((2 : Int) ^ k) = ((2 ^ k : Nat) : Int) from by rw [Int.natCast_pow]; rfl, ← Int.natCast_ediv]
  generalize x / 2 ^ k = y
  rw [Bool.eq_iff_iff]
  simp only [beq_iff_eq, decide_eq_true_eq]
  omega
theorem bit_of_byte' (x k : Nat) : (((x : Int) / 2 ^ k).tmod 2 == 1) = x.testBit k := by
  rw [← bit_of_byte, show ((2 : Int) ^ k) = ((2 ^ k : Nat) : Int) from by rw [Int.natCast_pow]; rfl, ← Int.natCast_ediv, Int.tmod_eq_emod_of_nonneg (Int.natCast_nonneg _)]
theorem readTo_past {d : List Nat} {i : Nat} (h : 32 ≤ i) : readTo 2 d (i + 1) = readTo 2 d i := by
  rw [readTo_succ]
  simp only [readStep, show ¬ (2 : Int) = 3 from by decide, if_false, if_true, show ¬ i < 32 from by omega]
theorem readTo_beyond {d : List Nat} : ∀ k, readTo 2 d (32 + k) = readTo 2 d 32
  | 0 => rfl
  | k + 1 => by rw [← Nat.add_assoc, readTo_past (by omega), readTo_beyond k]
theorem readAll_bits {d : List Nat} {i : Nat} (h : i ≤ d.length) (h2 : ¬ (i < d.length ∧ i < 32)) (h3 : i ≤ 32) : readTo 2 d i = readAll 2 d := by
  unfold readAll
  by_cases h4 : i = d.length
  · rw [h4]
  · obtain rfl : i = 32 := by omega
    obtain ⟨k, hk⟩ : ∃ k, d.length = 32 + k := ⟨d.length - 32, by omega⟩
    rw [hk, readTo_beyond]
theorem readTo_runs {d : List Nat} {i : Nat} (he : i % 2 = 0) (h : i + 1 < d.length) : readTo 3 d (i + 2) = putSpan (readTo 3 d i) (d[i]?.getD 0) (min (d[i]?.getD 0 + d[i + 1]?.getD 0) 255) := by
  rw [show i + 2 = i + 1 + 1 from rfl, readTo_succ, readTo_succ]
  have h1 : (i + 1) % 2 = 1 := by omega
  have h2 : ¬ i % 2 = 1 := by omega
  simp only [readStep, if_true, h1, h2, h, if_false]
theorem readAll_runs {d : List Nat} {i : Nat} (he : i % 2 = 0) (h : i ≤ d.length) (h2 : ¬ i + 1 < d.length) : readTo 3 d i = readAll 3 d := by
  unfold readAll
  by_cases h4 : i = d.length
  · rw [h4]
  · have h5 : d.length = i + 1 := by omega
    rw [h5, readTo_succ]
    have h3 : ¬ i % 2 = 1 := by omega
    simp only [readStep, if_true, h3, h2, if_false]
theorem readAll_other {form : Int} {d : List Nat} (h1 : form ≠ 1) (h2 : form ≠ 2) (h3 : form ≠ 3) : readAll form d = 0 := by
  have : ∀ k, readTo form d k = 0 := by
    intro k
    induction k with
    | zero => rfl
    | succ k ih => rw [readTo_succ, ih]; simp [readStep, h1, h2, h3]
  exact this _

set_option maxRecDepth 100000 in
set_option maxHeartbeats 4000000 in
/-- **Set(c)** -/
theorem Set_any (form : Int) (D : ByteArray) (w : World) (hD : D.size ≤ 1000000) :
    Calls Tryd.prog 71 #[.agg #[.int .i64 form, .string D]] w fun e W' => e = .returned (.agg (bc (readAll form (dn D)))) ∧ Below w.heap.size w W' := by
  have hz := zeroArr
  have hA : Hid (SetAt w (((w.alloc (.cells #[.int .i64 form, .string D] 57)).alloc (.cells (bc 0) 118)).alloc (.cells (bc 0) 118)) form D 0) :=
    ⟨(Below.heap_alloc _ _ _ (by simp; omega)).trans (blk2_new w (.int .i64 form) (.string D) 57 _),
      by have := (Arr.new (w.alloc (.cells #[.int .i64 form, .string D] 57)) 0).alloc (.cells (bc 0) 118); rwa [World.size_alloc] at this,
      by have := (Arr.new ((w.alloc (.cells #[.int .i64 form, .string D] 57)).alloc (.cells (bc 0) 118)) 0); rwa [World.size_alloc, World.size_alloc] at this,
      (((Below.refl _ w).alloc (Nat.le_refl _) _).alloc (by simp) _).alloc (by simp; omega) _⟩
  go_enter Tryd.func71, Tryd.ntmps71
  by_cases h1 : form = 1
  · subst h1
    go_wp2
    go_loopw [4] (fun i wr => ∃ k : Nat, k ≤ D.size ∧ i = .int .i64 k ∧ Hid (SetAt w wr 1 D (readTo 1 (dn D) k)))
      (fun i _ => D.size - (intOf i).toNat)
    case atStart => exact ⟨0, Nat.zero_le _, rfl, hA⟩
    case round =>
      obtain ⟨k, hk, rfl, hM⟩ := hrel
      clear hA
      obtain ⟨b0, b1, -, -⟩ := blk2_cells hM.out.box
      by_cases hlt : k < D.size
      · have hkd : decide (k < D.size) = true := by simpa using hlt
        have hk0 : (0 : Int) ≤ (k : Int) := by omega
        have hk1 : (k : Int) < (D.size : Int) := by omega
        have hx2 : (D[k]).toNat < 256 := UInt8.toNat_lt _
        have hst : Hid (readTo 1 (dn D) (k + 1) = put (readTo 1 (dn D) k) (D[k]).toNat) := by
          show _ = _
          rw [readTo_succ, ← dn_get D hlt]; rfl
        have hct := hM.out.set.cell hx2
        have hft := hM.out.set.frozen (D[k]).toNat
        go_wp2
        go_roundw
        case rel => exact ⟨k + 1, by omega, by go_num, by rw [hst.out]; exact hM.out.put hx2 (put_bits _ _)⟩
        case measure => simp [intOf]; omega
      · have hkd : decide (k < D.size) = false := by simpa using hlt
        have hks : k = D.size := by omega
        have hfin : Hid (readTo 1 (dn D) k = readAll 1 (dn D)) := by show _ = _; rw [hks]; unfold readAll; rw [dn_length]
        rw [hfin.out] at hM
        go_wp2
        refine Arr.wpLoad hM.out.set _ rfl rfl ?_
        have hsc := hM.out.res.storeCells (readAll 1 (dn D))
        go_wp2
        exact bodyPost_ret (v := .agg (bc (readAll 1 (dn D)))) (results_cell_row rfl _ _ _ _ _ _ _ rfl (hM.out.res.setRow _) Tryd.underlying118 rfl (sizeArr _)) rfl ⟨rfl, below_setRow hM.out.below (by omega) _⟩
  · have h1' : (form == 1) = false := by simpa using h1
    by_cases h2 : form = 2
    · subst h2
      clear h1'
      go_wp2
      go_loopw [5] (fun i wr => ∃ k : Nat, k ≤ D.size ∧ k ≤ 32 ∧ i = .int .i64 k ∧ Hid (SetAt w wr 2 D (readTo 2 (dn D) k)))
        (fun i _ => D.size - (intOf i).toNat)
      case atStart => exact ⟨0, Nat.zero_le _, by omega, rfl, hA⟩
      case round =>
        obtain ⟨k, hk, hk32, rfl, hM⟩ := hrel
        clear hA
        obtain ⟨b0, b1, -, -⟩ := blk2_cells hM.out.box
        by_cases hlt : k < D.size ∧ k < 32
        · obtain ⟨hl1, hl2⟩ := hlt
          have hkd : decide (k < D.size) = true := by simpa using hl1
          have hkd2 : decide ((k : Int) < 32) = true := by simp; omega
          have hk0 : (0 : Int) ≤ (k : Int) := by omega
          have hk1 : (k : Int) < (D.size : Int) := by omega
          have hx2 : (D[k]).toNat < 256 := UInt8.toNat_lt _
          have hst : Hid (readTo 2 (dn D) (k + 1) = readTo 2 (dn D) k ||| (D[k]).toNat * 2 ^ (8 * k)) := by
            show _ = _
            rw [readTo_succ, ← dn_get D hl1]
            simp only [readStep, show ¬ (2 : Int) = 3 from by decide, if_false, if_true, hl2]
          have hhi : Hid (∀ m, 8 * k ≤ m → (readTo 2 (dn D) k).testBit m = false) := readBits_hi (dn_get_lt D) k hk32
          generalize readTo 2 (dn D) k = t at hM hst hhi
          go_wp2
          obtain ⟨wo, rfl⟩ : ∃ wo : World, wo = wr := ⟨_, rfl⟩
          go_loopw [6] (fun i wi => ∃ m : Nat, m ≤ 8 ∧ i = .int .i64 m ∧ Hid (SetAt w wi 2 D (bitsTo t (D[k]).toNat k m)))
            (fun i _ => 8 - (intOf i).toNat)
          case atStart => exact ⟨0, by omega, rfl, by rw [bitsTo_zero]; exact hM⟩
          case round =>
            obtain ⟨m, hm, rfl, hMi⟩ := hrel
            clear hM b0 b1
            obtain ⟨b0, b1, -, -⟩ := blk2_cells hMi.out.box
            by_cases hm8 : m < 8
            · have hmd : decide ((m : Int) < 8) = true := by simp; omega
              have hbb := bit_of_byte' (D[k]).toNat m
              have hct := hMi.out.set.cell (i := 8 * k + m) (by omega)
              have hft := hMi.out.set.frozen (8 * k + m)
              have hsb : Hid (∀ j, j < 256 → (bitsTo t (D[k]).toNat k (m + 1)).testBit j = if j = 8 * k + m then (D[k]).toNat.testBit m else (bitsTo t (D[k]).toNat k m).testBit j) := bitsTo_step hhi.out
              have h8 : Hid (8 * k + m < 256) := by show _ < _; omega
              go_wp2
              go_roundw
              case rel => exact ⟨m + 1, by omega, by go_num, hMi.out.put h8.out hsb.out⟩
              case measure => simp [intOf]; omega
            · have hmd : decide ((m : Int) < 8) = false := by simp; omega
              obtain rfl : m = 8 := by omega
              have hMj : Hid (SetAt w wr 2 D (t ||| (D[k]).toNat * 2 ^ (8 * k))) := by rw [← bitsTo_all hx2]; exact hMi
              clear hMi
              go_wp2
              go_roundw
              case rel => exact ⟨k + 1, by omega, by omega, by go_num, by rw [hst.out]; exact hMj⟩
              case measure => simp [intOf]; omega
        · have hfin : Hid (readTo 2 (dn D) k = readAll 2 (dn D)) := readAll_bits (by rw [dn_length]; exact hk) (by rw [dn_length]; exact hlt) hk32
          rw [hfin.out] at hM
          by_cases hl1 : k < D.size
          · have hkd : decide (k < D.size) = true := by simpa using hl1
            have hkd2 : decide ((k : Int) < 32) = false := by simp; omega
            go_wp2
            refine Arr.wpLoad hM.out.set _ rfl rfl ?_
            have hsc := hM.out.res.storeCells (readAll 2 (dn D))
            go_wp2
            exact bodyPost_ret (v := .agg (bc (readAll 2 (dn D)))) (results_cell_row rfl _ _ _ _ _ _ _ rfl (hM.out.res.setRow _) Tryd.underlying118 rfl (sizeArr _)) rfl ⟨rfl, below_setRow hM.out.below (by omega) _⟩
          · have hkd : decide (k < D.size) = false := by simpa using hl1
            go_wp2
            refine Arr.wpLoad hM.out.set _ rfl rfl ?_
            have hsc := hM.out.res.storeCells (readAll 2 (dn D))
            go_wp2
            exact bodyPost_ret (v := .agg (bc (readAll 2 (dn D)))) (results_cell_row rfl _ _ _ _ _ _ _ rfl (hM.out.res.setRow _) Tryd.underlying118 rfl (sizeArr _)) rfl ⟨rfl, below_setRow hM.out.below (by omega) _⟩
    · have h2' : (form == 2) = false := by simpa using h2
      by_cases h3 : form = 3
      · subst h3
        clear h1' h2'
        go_wp2
        go_loopw [7] (fun i wr => ∃ k : Nat, k ≤ D.size ∧ k % 2 = 0 ∧ i = .int .i64 k ∧ Hid (SetAt w wr 3 D (readTo 3 (dn D) k)))
          (fun i _ => D.size - (intOf i).toNat)
        case atStart => exact ⟨0, Nat.zero_le _, rfl, rfl, hA⟩
        case round =>
          obtain ⟨k, hk, hev, rfl, hM⟩ := hrel
          clear hA
          obtain ⟨b0, b1, -, -⟩ := blk2_cells hM.out.box
          by_cases hin : k + 1 < D.size
          · have hind : decide ((k : Int) + 1 < (D.size : Int)) = true := by simp; omega
            have hlt : k < D.size := by omega
            have hx2 : (D[k]).toNat < 256 := UInt8.toNat_lt _
            have hxx2 : (D[k + 1]).toNat < 256 := UInt8.toNat_lt _
            have hk0 : (0 : Int) ≤ (k : Int) := by omega
            have hk1 : (k : Int) < (D.size : Int) := by omega
            have hk2 : (0 : Int) ≤ (k : Int) + 1 := by omega
            have hk3 : (k : Int) + 1 < (D.size : Int) := by omega
            have hst : Hid (readTo 3 (dn D) (k + 2) = putSpan (readTo 3 (dn D) k) (D[k]).toNat (min ((D[k]).toNat + (D[k + 1]).toNat) 255)) := by
              show _ = _
              rw [readTo_runs hev (by rw [dn_length]; exact hin), dn_get D hlt, dn_get D hin]
            generalize readTo 3 (dn D) k = t at hM hst
            go_wp2
            obtain ⟨wo, rfl⟩ : ∃ wo : World, wo = wr := ⟨_, rfl⟩
            go_loopw [8] (fun i wi => ∃ m : Nat, i = .int .i64 m ∧ (D[k]).toNat + m ≤ max (D[k]).toNat (min ((D[k]).toNat + (D[k + 1]).toNat) 255 + 1) ∧ Hid (SetAt w wi 3 D (putAll t (List.range' (D[k]).toNat m))))
              (fun i _ => 600 - (intOf i).toNat)
            case atStart => exact ⟨0, by simp, by omega, by simpa [putAll] using hM⟩
            case round =>
              obtain ⟨m, rfl, hmm, hMi⟩ := hrel
              clear hM b0 b1
              obtain ⟨b0, b1, -, -⟩ := blk2_cells hMi.out.box
              by_cases q : m ≤ (D[k + 1]).toNat ∧ (D[k]).toNat + m < 256
              · obtain ⟨q1, q2⟩ := q
                have hq1 : decide (m ≤ (D[k + 1]).toNat) = true := by simpa using q1
                have hq2 : decide ((((D[k]).toNat : Nat) : Int) + (m : Int) < 256) = true := by simp; omega
                have hrg : Hid (putAll t (List.range' (D[k]).toNat (m + 1)) = put (putAll t (List.range' (D[k]).toNat m)) ((D[k]).toNat + m)) := by
                  show _ = _
                  rw [List.range'_concat, putAll_snoc]; simp
                have hm2 : Hid ((D[k]).toNat + (m + 1) ≤ max (D[k]).toNat (min ((D[k]).toNat + (D[k + 1]).toNat) 255 + 1)) := by show _ ≤ _; omega
                have hct := hMi.out.set.cell (i := (D[k]).toNat + m) q2
                have hft := hMi.out.set.frozen ((D[k]).toNat + m)
                have hq2' := Lib.hid q2
                clear hmm
                go_wp2
                go_roundw
                case rel => exact ⟨m + 1, by go_num, hm2.out, by rw [hrg.out]; exact hMi.out.put hq2'.out (put_bits _ _)⟩
                case measure => simp [intOf]; omega
              · have hspan : Hid (putAll t (List.range' (D[k]).toNat m) = putSpan t (D[k]).toNat (min ((D[k]).toNat + (D[k + 1]).toNat) 255)) := by
                  show _ = _
                  unfold putSpan; congr 2; omega
                have hMj : Hid (SetAt w wr 3 D (readTo 3 (dn D) (k + 2))) := by rw [hst.out, ← hspan.out]; exact hMi
                clear hMi hst hspan
                by_cases q1 : m ≤ (D[k + 1]).toNat
                · have hq1 : decide (m ≤ (D[k + 1]).toNat) = true := by simpa using q1
                  have hq2 : decide ((((D[k]).toNat : Nat) : Int) + (m : Int) < 256) = false := by simp; omega
                  clear hmm
                  go_wp2
                  go_roundw
                  case rel => exact ⟨k + 2, by omega, by omega, by go_num, hMj⟩
                  case measure => simp [intOf]; omega
                · have hq1 : decide (m ≤ (D[k + 1]).toNat) = false := by simpa using q1
                  clear hmm
                  go_wp2
                  go_roundw
                  case rel => exact ⟨k + 2, by omega, by omega, by go_num, hMj⟩
                  case measure => simp [intOf]; omega
          · have hind : decide ((k : Int) + 1 < (D.size : Int)) = false := by simp; omega
            have hfin : Hid (readTo 3 (dn D) k = readAll 3 (dn D)) := readAll_runs hev (by rw [dn_length]; exact hk) (by rw [dn_length]; exact hin)
            rw [hfin.out] at hM
            go_wp2
            refine Arr.wpLoad hM.out.set _ rfl rfl ?_
            have hsc := hM.out.res.storeCells (readAll 3 (dn D))
            go_wp2
            exact bodyPost_ret (v := .agg (bc (readAll 3 (dn D)))) (results_cell_row rfl _ _ _ _ _ _ _ rfl (hM.out.res.setRow _) Tryd.underlying118 rfl (sizeArr _)) rfl ⟨rfl, below_setRow hM.out.below (by omega) _⟩
      · have h3' : (form == 3) = false := by simpa using h3
        have hM : Hid (SetAt w (((w.alloc (.cells #[.int .i64 form, .string D] 57)).alloc (.cells (bc 0) 118)).alloc (.cells (bc 0) 118)) form D (readAll form (dn D))) := by
          rw [readAll_other h1 h2 h3]; exact hA
        obtain ⟨b0, b1, -, -⟩ := blk2_cells hM.out.box
        go_wp2
        refine Arr.wpLoad hM.out.set _ rfl rfl ?_
        have hsc := hM.out.res.storeCells (readAll form (dn D))
        go_wp2
        exact bodyPost_ret (v := .agg (bc (readAll form (dn D)))) (results_cell_row rfl _ _ _ _ _ _ _ rfl (hM.out.res.setRow _) Tryd.underlying118 rfl (sizeArr _)) rfl ⟨rfl, below_setRow hM.out.below (by omega) _⟩
end Go.Proofs.YtalnfbkmlllfhaaDoor
