/-
  cont's read: the set of a container's bytes, as far as it is one.
-/
import Derived.WalkLawsBesides
import Derived.WalkSpells
import Derived.Test.YtnigpmbpipmgfaaDoorPut
import Derived.Test.YtnigpmbpipmgfaaDoorBest
namespace Go.Proofs.YtnigpmbpipmgfaaDoor
open Go.RowKit Tess

/-- A text's bytes, as numbers. -/
def dn (D : ByteArray) : List Nat := D.data.toList.map (·.toNat)
theorem dn_length (D : ByteArray) : (dn D).length = D.size := by simp [dn]
theorem dn_lt (D : ByteArray) : ∀ x ∈ dn D, x < 256 := by
  intro x hx
  obtain ⟨y, _, rfl⟩ := List.mem_map.1 hx
  exact y.toNat_lt
theorem bs_dn (D : ByteArray) : bs (dn D) = D := by
  obtain ⟨⟨l⟩⟩ := D
  simp [bs, dn, List.map_map, Function.comp_def]
theorem dn_bs {d : List Nat} (h : ∀ x ∈ d, x < 256) : dn (bs d) = d := by
  simp only [dn, bs, List.map_map]
  conv => rhs; rw [← List.map_id d]
  apply List.map_congr_left
  intro x hx
  have := h x hx
  simp
  omega
theorem bs_inj {a b : List Nat} (ha : ∀ x ∈ a, x < 256) (hb : ∀ x ∈ b, x < 256) (h : bs a = bs b) : a = b := by rw [← dn_bs ha, h, dn_bs hb]
theorem dn_get (D : ByteArray) {k : Nat} (h : k < D.size) : (dn D)[k]?.getD 0 = (D[k]).toNat := by
  have h' : k < D.data.toList.length := by simpa using h
  simp [dn, List.getElem?_eq_getElem h']; rfl
theorem dn_get_lt (D : ByteArray) (k : Nat) : (dn D)[k]?.getD 0 < 256 := by
  cases h : (dn D)[k]? with
  | none => simp
  | some x => exact dn_lt D x (List.mem_of_getElem? h)

theorem byteShift_lt {x k : Nat} (hx : x < 256) : x * 2 ^ (k * 8 % 64) < 18446744073709551616 := by
  have h1 : x * 2 ^ (k * 8 % 64) < 2 ^ 8 * 2 ^ (k * 8 % 64) := Nat.mul_lt_mul_of_pos_right (by omega) (Nat.two_pow_pos _)
  rw [← Nat.pow_add] at h1
  exact Nat.lt_of_lt_of_le h1 (Nat.le_trans (Nat.pow_le_pow_right (by decide) (show 8 + k * 8 % 64 ≤ 64 by omega)) (by decide))
theorem limb_orByte (t : Nat) {x k : Nat} (j : Nat) (hx : x < 256) : limb (t ||| x * 2 ^ (8 * k)) j = if j = k * 8 / 64 then limb t j ||| x * 2 ^ (k * 8 % 64) else limb t j := by
  split
  · rename_i h
    refine limb_eq_of ?_ ?_
    · have h1 := limb_lt t j
      have h2 := byteShift_lt (k := k) hx
      rw [show (18446744073709551616 : Nat) = 2 ^ 64 from by decide] at *
      exact Nat.or_lt_two_pow h1 h2
    · intro i hi
      rw [Nat.testBit_or, Nat.testBit_or, testBit_limb, testBit_byteMul _ _ _ hx, Nat.mul_comm x, Nat.testBit_two_pow_mul]
      simp only [hi, decide_true, Bool.true_and]
      congr 1
      by_cases h1 : k * 8 % 64 ≤ i
      · have e : 64 * j + i - 8 * k = i - k * 8 % 64 := by omega
        by_cases h2 : 64 * j + i < 8 * k + 8
        · have : 8 * k ≤ 64 * j + i ∧ 64 * j + i < 8 * k + 8 := by omega
          simp [h1, this, e]
        · have h3 : ¬ (8 * k ≤ 64 * j + i ∧ 64 * j + i < 8 * k + 8) := by omega
          have h4 : x.testBit (i - k * 8 % 64) = false := Nat.testBit_lt_two_pow (Nat.lt_of_lt_of_le (show x < 2 ^ 8 from hx) (Nat.pow_le_pow_right (by decide) (by omega)))
          simp [h3, h4]
      · have h3 : ¬ (8 * k ≤ 64 * j + i ∧ 64 * j + i < 8 * k + 8) := by omega
        simp [h1, h3]
  · rename_i h
    refine limb_eq_of (limb_lt _ _) ?_
    intro i hi
    rw [Nat.testBit_or, testBit_limb, testBit_byteMul _ _ _ hx]
    have h3 : ¬ (8 * k ≤ 64 * j + i ∧ 64 * j + i < 8 * k + 8) := by omega
    simp [hi, h3]
theorem orByte_others (t : Nat) {x k : Nat} (j : Nat) (hx : x < 256) : limb (t ||| x * 2 ^ (8 * k)) j = if j = k * 8 / 64 then limb (t ||| x * 2 ^ (8 * k)) (k * 8 / 64) else limb t j := by
  by_cases e : j = k * 8 / 64
  · rw [if_pos e, e]
  · rw [if_neg e, limb_orByte t j hx, if_neg e]
theorem orByte_val (t : Nat) {x k : Nat} (hx : x < 256) : bits .or .u64 (limb t (k * 8 / 64) : Int) (IntKind.u64.wrap ((x : Int) * 2 ^ (k * 8 % 64))) = (limb (t ||| x * 2 ^ (8 * k)) (k * 8 / 64) : Int) := by
  have e : ((x : Int) * 2 ^ (k * 8 % 64)) = ((x * 2 ^ (k * 8 % 64) : Nat) : Int) := by rw [Int.natCast_mul, Int.natCast_pow]; rfl
  rw [e, wrapU (byteShift_lt hx), u64_or_nat _ _ (limb_lt _ _) (byteShift_lt hx), limb_orByte t _ hx, if_pos rfl]

/-- What lies in memory while the bytes are read. -/
structure ReadAt (w wr : World) (form : Int) (D : ByteArray) (t : Nat) : Prop where
  box : wr.heap[w.heap.size]? = some (.cells #[.int .i64 form, .string D] 75 (0, 0))
  res : Words 113 wr (w.heap.size + 1) 0
  set : Words 113 wr (w.heap.size + 1 + 1) t
  below : Below w.heap.size w wr

theorem ReadAt.grown {w wr W : World} {form : Int} {D : ByteArray} {t t' : Nat} (h : ReadAt w wr form D t) (hg : wr.grownBy W (some (w.heap.size + 1 + 1))) (hw : Words 113 W (w.heap.size + 1 + 1) t') : ReadAt w W form D t' :=
  ⟨(hg.block _ (lt_of_heap h.box) (by simp; omega)).trans h.box, h.res.grown hg (by simp), hw, h.below.grown hg h.below.size (fun k e => by cases e; omega)⟩
theorem ReadAt.alloc {w wr : World} {form : Int} {D : ByteArray} {t : Nat} (h : ReadAt w wr form D t) (o : Obj) : ReadAt w (wr.alloc o) form D t :=
  ⟨(Below.heap_alloc _ _ _ (lt_of_heap h.box)).trans h.box, h.res.alloc _, h.set.alloc _, h.below.alloc h.below.size _⟩
theorem put1 {w wr : World} {form : Int} {D : ByteArray} {t n : Nat} (h : ReadAt w wr form D t) (hn : n < 256) :
    Calls Tryd.prog 75 #[.pointer (some ⟨w.heap.size + 1 + 1, 0, none⟩), .slice (some ⟨wr.heap.size, 0, none⟩) 1 1] (wr.alloc (.cells #[.int .i64 (n : Int)] 3)) fun e W' => e = .returned (.tuple #[]) ∧ ReadAt w W' form D (put t n) := by
  have h1 := (h.alloc (.cells #[.int .i64 (n : Int)] 3))
  refine (put_core (w.heap.size + 1 + 1) t wr.heap.size 0 1 [n] _ h1.set (fun e => by have := h.set.lt; omega) (fun j hj => ?_) (fun j hj => ?_) (by simp)).mono ?_
  · obtain rfl : j = 0 := by simp at hj; omega
    simp
  · obtain rfl : j = 0 := by simp at hj; omega
    simpa using hn
  · rintro e W' ⟨rfl, hw, hg⟩
    exact ⟨rfl, h1.grown hg hw⟩

theorem words_set4 {t : TypeId} {W : World} {b s : Nat} (h : Words t W b s) (s' : Nat) :
    Words t ((((W.setCell ⟨b, 0, none⟩ (.int .u64 (limb s' 0 : Int))).setCell ⟨b, 1, none⟩ (.int .u64 (limb s' 1 : Int))).setCell ⟨b, 2, none⟩ (.int .u64 (limb s' 2 : Int))).setCell ⟨b, 3, none⟩ (.int .u64 (limb s' 3 : Int))) b s' := by
  unfold Words at h ⊢
  simp [World.setCell, Array.getElem?_modify, h, wcs, lv]

set_option maxRecDepth 100000 in
set_option maxHeartbeats 4000000 in
theorem read_any (form : Int) (D : ByteArray) (w : World) (hD : D.size ≤ 1000000) :
    Calls Tryd.prog 103 #[.agg #[.int .i64 form, .string D]] w fun e W' => e = .returned (wv (readAll form (dn D))) ∧ Below w.heap.size w W' := by
  have hA : Hid (ReadAt w (((w.alloc (.cells #[.int .i64 form, .string D] 75)).alloc (.cells (wcs 0) 113)).alloc (.cells (wcs 0) 113)) form D 0) :=
    ⟨(Below.heap_alloc _ _ _ (by simp; omega)).trans (blk2_new w (.int .i64 form) (.string D) 75 _),
      by have := (Words.new (w.alloc (.cells #[.int .i64 form, .string D] 75)) 113 0).alloc (.cells (wcs 0) 113); rwa [World.size_alloc] at this,
      by have := (Words.new ((w.alloc (.cells #[.int .i64 form, .string D] 75)).alloc (.cells (wcs 0) 113)) 113 0); rwa [World.size_alloc, World.size_alloc] at this,
      (((Below.refl _ w).alloc (Nat.le_refl _) _).alloc (by simp) _).alloc (by simp; omega) _⟩
  go_enter Tryd.func103, Tryd.ntmps103
  go_wp2
  go_loopw [4] (fun i wr => ∃ k : Nat, k ≤ D.size ∧ i = .int .i64 k ∧ Hid (ReadAt w wr form D (readTo form (dn D) k)))
    (fun i _ => D.size - (intOf i).toNat)
  case atStart => exact ⟨0, Nat.zero_le _, rfl, hA⟩
  case round =>
    obtain ⟨k, hk, rfl, hM⟩ := hrel
    clear hA
    obtain ⟨b0, b1, _, _⟩ := blk2_cells hM.out.box
    by_cases hlt : k < D.size
    · have hkd : decide (k < D.size) = true := by simpa using hlt
      have hx := dn_get D hlt
      have hx2 : (D[k]).toNat < 256 := UInt8.toNat_lt _
      have hstep := readTo_succ form (dn D) k
      by_cases h3 : form = 3
      · have h3' : (form == 3) = true := by simpa using h3
        by_cases hodd : k % 2 = 1
        · have ho : ((k : Int) % 2 == 1) = true := by rw [beq_iff_eq]; omega
          have hst : Hid (readTo form (dn D) (k + 1) = readTo form (dn D) k) := by
            show _ = _
            rw [hstep]; unfold readStep; rw [if_pos h3, if_pos hodd]
          clear hstep hx h3 hodd
          go_wp2
          go_roundw
          case rel => exact ⟨k + 1, by omega, by go_num, by rw [hst.out]; exact hM⟩
          case measure => simp [intOf]; omega
        · have ho : ((k : Int) % 2 == 1) = false := by rw [beq_eq_false_iff_ne]; omega
          by_cases hin : k + 1 < D.size
          · have hind : decide ((k : Int) + 1 < (D.size : Int)) = true := by simp; omega
            have hx' := dn_get D hin
            have hxx2 : (D[k + 1]).toNat < 256 := UInt8.toNat_lt _
            have hst : Hid (readTo form (dn D) (k + 1) = putSpan (readTo form (dn D) k) (D[k]).toNat (min ((D[k]).toNat + (D[k + 1]).toNat) 255)) := by
              show _ = _
              rw [hstep]; unfold readStep; rw [if_pos h3, if_neg hodd, if_pos (by rw [dn_length]; exact hin), hx, hx']
            generalize readTo form (dn D) k = t at hM hst
            clear hstep hx hx' h3 hodd
            go_wp2
            obtain ⟨wo, rfl⟩ : ∃ wo : World, wo = wr := ⟨_, rfl⟩
            go_loopw [6] (fun i wi => ∃ m : Nat, m ≤ 256 ∧ i = .int .i64 (((D[k]).toNat : Int) + m) ∧ (D[k]).toNat + m ≤ max (D[k]).toNat (min ((D[k]).toNat + (D[k + 1]).toNat) 255 + 1) ∧ Hid (ReadAt w wi form D (putAll t (List.range' (D[k]).toNat m))))
              (fun i _ => 600 - (intOf i).toNat)
            case atStart => exact ⟨0, by omega, by simp, by omega, by simpa [putAll] using hM⟩
            case round =>
              obtain ⟨m, hm, rfl, hmm, hMi⟩ := hrel
              clear hM b0 b1
              obtain ⟨b0, b1, _, _⟩ := blk2_cells hMi.out.box
              have ev : ((D[k]).toNat : Int) + (m : Int) = (((D[k]).toNat + m : Nat) : Int) := by omega
              rcases (show ((D[k]).toNat + (D[k + 1]).toNat ≤ 255 ∧ (D[k]).toNat + m ≤ (D[k]).toNat + (D[k + 1]).toNat) ∨ (¬ (D[k]).toNat + (D[k + 1]).toNat ≤ 255 ∧ (D[k]).toNat + m ≤ 255) ∨
                  ((D[k]).toNat + (D[k + 1]).toNat ≤ 255 ∧ ¬ (D[k]).toNat + m ≤ (D[k]).toNat + (D[k + 1]).toNat) ∨ (¬ (D[k]).toNat + (D[k + 1]).toNat ≤ 255 ∧ ¬ (D[k]).toNat + m ≤ 255) by omega) with ⟨q1, q2⟩ | ⟨q1, q2⟩ | ⟨q1, q2⟩ | ⟨q1, q2⟩
              rotate_left 2
              any_goals
                have hspan : Hid (putAll t (List.range' (D[k]).toNat m) = putSpan t (D[k]).toNat (min ((D[k]).toNat + (D[k + 1]).toNat) 255)) := by
                  show _ = _
                  unfold putSpan; congr 2; omega
                clear ev hmm
                go_wp2
                go_roundw
                case rel => exact ⟨k + 1, by omega, by go_num, by rw [hst.out, ← hspan.out]; exact hMi⟩
                case measure => simp [intOf]; omega
              all_goals
                have hp := Lib.hid (put1 hMi.out (n := (D[k]).toNat + m) (by omega))
                rw [← ev] at hp
                have hrg : Hid (putAll t (List.range' (D[k]).toNat (m + 1)) = put (putAll t (List.range' (D[k]).toNat m)) ((D[k]).toNat + m)) := by
                  show _ = _
                  rw [List.range'_concat, putAll_snoc]; simp
                have hm2 : Hid ((D[k]).toNat + (m + 1) ≤ max (D[k]).toNat (min ((D[k]).toNat + (D[k + 1]).toNat) 255 + 1)) := by show _ ≤ _; omega
                clear ev hmm
                go_wp2_with fail
                refine (hp.out).mono ?_
                rintro e W2 ⟨rfl, hM2⟩
                have hM2' := Lib.hid hM2
                clear hM2
                go_wp2
                go_roundw
                case rel => exact ⟨m + 1, by omega, by go_num, hm2.out, by rw [hrg.out]; exact hM2'⟩
                case measure => simp [intOf]; omega
          · have hind : decide ((k : Int) + 1 < (D.size : Int)) = false := by simp; omega
            have hst : Hid (readTo form (dn D) (k + 1) = readTo form (dn D) k) := by
              show _ = _
              rw [hstep]; unfold readStep; rw [if_pos h3, if_neg hodd, if_neg (by rw [dn_length]; exact hin)]
            clear hstep hx h3 hodd
            go_wp2
            refine wp_loop_rounds 1 ?_
            rw [rounds_succ]
            go_wp2
            go_roundw
            case rel => exact ⟨k + 1, by omega, by go_num, by rw [hst.out]; exact hM⟩
            case measure => simp [intOf]; omega
      · have h3' : (form == 3) = false := by simpa using h3
        by_cases h2 : form = 2
        · have h2' : (form == 2) = true := by simpa using h2
          by_cases h32 : k < 32
          · have hkd2 : decide ((k : Int) < 32) = true := by simp; omega
            have hst : Hid (readTo form (dn D) (k + 1) = readTo form (dn D) k ||| (D[k]).toNat * 2 ^ (8 * k)) := by
              show _ = _
              rw [hstep]; unfold readStep; rw [if_neg h3, if_pos h2, if_pos h32, hx]
            have hct := hM.out.set.cell (i := k * 8 / 64) (by omega)
            have hft := hM.out.set.frozen (k * 8 / 64)
            generalize readTo form (dn D) k = t at hM hct hst
            have hll := limb_lt t (k * 8 / 64)
            have hst' := hst
            clear hstep hx h2 h3 hst
            go_wp2
            go_region
            all_goals go_wp2
            go_roundw
            case rel =>
              refine ⟨k + 1, by omega, by go_num, ?_⟩
              rw [hst'.out, orByte_val t hx2]
              exact hM.out.grown (grown_set _ _ _ _) (hM.out.set.set_ (s' := t ||| (D[k]).toNat * 2 ^ (8 * k)) (by omega) (fun j _ => orByte_others t j hx2)).drew
            case measure => simp [intOf]; omega
          · have hkd2 : decide ((k : Int) < 32) = false := by simp; omega
            have hst : Hid (readTo form (dn D) (k + 1) = readTo form (dn D) k) := by
              show _ = _
              rw [hstep]; unfold readStep; rw [if_neg h3, if_pos h2, if_neg h32]
            clear hstep hx h2 h3
            go_wp2
            go_roundw
            case rel => exact ⟨k + 1, by omega, by go_num, by rw [hst.out]; exact hM⟩
            case measure => simp [intOf]; omega
        · have h2' : (form == 2) = false := by simpa using h2
          by_cases h1 : form = 1
          · have h1' : (form == 1) = true := by simpa using h1
            have hst : Hid (readTo form (dn D) (k + 1) = put (readTo form (dn D) k) (D[k]).toNat) := by
              show _ = _
              rw [hstep]; unfold readStep; rw [if_neg h3, if_neg h2, if_pos h1, hx]
            have hh1 := Lib.hid h1
            clear hstep hx h1 h2 h3
            have hp := Lib.hid (put1 hM.out hx2)
            go_wp2_with fail
            refine (hp.out).mono ?_
            rintro e W2 ⟨rfl, hM2⟩
            have hM2' := Lib.hid hM2
            clear hM2
            go_wp2
            go_roundw
            case rel => exact ⟨k + 1, by omega, by go_num, by rw [hst.out]; exact hM2'⟩
            case measure => simp [intOf]; omega
          · have h1' : (form == 1) = false := by simpa using h1
            have hst : Hid (readTo form (dn D) (k + 1) = readTo form (dn D) k) := by
              show _ = _
              rw [hstep]; unfold readStep; rw [if_neg h3, if_neg h2, if_neg h1]
            clear hstep hx h1 h2 h3
            go_wp2
            go_roundw
            case rel => exact ⟨k + 1, by omega, by go_num, by rw [hst.out]; exact hM⟩
            case measure => simp [intOf]; omega
    · have hge : D.size ≤ k := by omega
      have hall : Hid (readTo form (dn D) k = readAll form (dn D)) := by
        show _ = _
        unfold readAll; rw [dn_length]; congr 1; omega
      have hr := words_set4 hM.out.res (readTo form (dn D) k)
      have s0 := hM.out.set.cell (i := 0) (by decide)
      have s1 := hM.out.set.cell (i := 1) (by decide)
      have s2 := hM.out.set.cell (i := 2) (by decide)
      have s3 := hM.out.set.cell (i := 3) (by decide)
      have r0 := hM.out.res.cell (i := 0) (by decide)
      have r1 := hM.out.res.cell (i := 1) (by decide)
      have r2 := hM.out.res.cell (i := 2) (by decide)
      have r3 := hM.out.res.cell (i := 3) (by decide)
      have f0 := hM.out.res.frozen 0
      have f1 := hM.out.res.frozen 1
      have f2 := hM.out.res.frozen 2
      have f3 := hM.out.res.frozen 3
      have hr' := Lib.hid hr
      clear hr
      go_wp2
      have e0 := hr'.out.cell (i := 0) (by decide)
      have e1 := hr'.out.cell (i := 1) (by decide)
      have e2 := hr'.out.cell (i := 2) (by decide)
      have e3 := hr'.out.cell (i := 3) (by decide)
      rw [← hall.out]
      refine bodyPost_ret (v := wv (readTo form (dn D) k)) (by simp [results, Tryd.results103, go_sem, wv, wcs, lv, e0, e1, e2, e3]) rfl ⟨rfl, ?_⟩
      exact ((((hM.out.below.setCell (p := ⟨w.heap.size + 1, 0, none⟩) (Nat.le_succ _) _).setCell (p := ⟨w.heap.size + 1, 1, none⟩) (Nat.le_succ _) _).setCell (p := ⟨w.heap.size + 1, 2, none⟩) (Nat.le_succ _) _).setCell (p := ⟨w.heap.size + 1, 3, none⟩) (Nat.le_succ _) _)
end Go.Proofs.YtnigpmbpipmgfaaDoor
