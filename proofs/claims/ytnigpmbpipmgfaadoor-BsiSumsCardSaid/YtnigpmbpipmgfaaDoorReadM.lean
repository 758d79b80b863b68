/-
  Put, Read, Of, Make: several texts in one (merge.py).
-/
import Derived.WalkKit
import Derived.RegionTactic
import Derived.ChangeAlike
import Derived.BigRegion
import Derived.Maps.AppendAt
import Derived.Lib.Hide
import Derived.Test.YtnigpmbpipmgfaaDoorBIter
import Derived.WalkLawsBesides
import Derived.WalkSpells
import Derived.Test.YtnigpmbpipmgfaaDoorFormsB
import Derived.Laws.StructEq
import Derived.BigQuiet

/-
  cont's put: numbers are put into a set of words.
-/
namespace Go.Proofs.YtnigpmbpipmgfaaDoor
open Go.RowKit Tess

theorem pow_wrap (n : Nat) : IntKind.u64.wrap ((2 : Int) ^ (n % 64)) = ((2 ^ (n % 64) : Nat) : Int) := by
  have h : (2 : Nat) ^ (n % 64) < 18446744073709551616 := two_pow_lt (Nat.mod_lt _ (by decide))
  rw [show ((2 : Int) ^ (n % 64)) = ((2 ^ (n % 64) : Nat) : Int) from by rw [Int.natCast_pow]; rfl]
  exact wrapU h
theorem put_val (t n : Nat) : bits .or .u64 (limb t (n / 64) : Int) (IntKind.u64.wrap ((2 : Int) ^ (n % 64))) = (limb (put t n) (n / 64) : Int) := by
  rw [pow_wrap, word_or (limb_lt _ _) (Nat.mod_lt _ (by decide)), limb_put, if_pos rfl]
theorem turn_val (t n : Nat) : bits .xor .u64 (limb t (n / 64) : Int) (IntKind.u64.wrap ((2 : Int) ^ (n % 64))) = (limb (turn t n) (n / 64) : Int) := by
  rw [pow_wrap, word_xor (limb_lt _ _) (Nat.mod_lt _ (by decide)), limb_turn, if_pos rfl]
theorem put_others (t n j : Nat) : limb (put t n) j = if j = n / 64 then limb (put t n) (n / 64) else limb t j := by
  by_cases e : j = n / 64
  · rw [if_pos e, e]
  · rw [if_neg e, limb_put, if_neg (Ne.symm e)]
theorem turn_others (t n j : Nat) : limb (turn t n) j = if j = n / 64 then limb (turn t n) (n / 64) else limb t j := by
  by_cases e : j = n / 64
  · rw [if_pos e, e]
  · rw [if_neg e, limb_turn, if_neg (Ne.symm e)]
theorem grown_set (W : World) (b i : Nat) (v : Value) : W.grownBy (W.setCell ⟨b, i, none⟩ v).drew (some b) :=
  ⟨rfl, rfl, rfl, by simp [World.drew, World.setCell], fun k _ hk => Below.heap_setCell W ⟨b, i, none⟩ v k (fun e => hk (by rw [e]))⟩

set_option maxRecDepth 100000 in
set_option maxHeartbeats 2000000 in
theorem put_core (b s B off cap : Nat) (zs : List Nat) (w : World) (hw : Words 113 w b s) (hne : b ≠ B) (hc : ∀ j, j < zs.length → w.cell? ⟨B, off + j, none⟩ = some (.int .i64 ((zs[j]?.getD 0 : Nat) : Int)))
    (hz : ∀ j, j < zs.length → zs[j]?.getD 0 < 256) (hl : zs.length ≤ 4611686018427387904) :
    Calls Tryd.prog 75 #[.pointer (some ⟨b, 0, none⟩), .slice (some ⟨B, off, none⟩) zs.length cap] w fun e w' => e = .returned (.tuple #[]) ∧ Words 113 w' b (putAll s zs) ∧ w.grownBy w' (some b) := by
  go_enter Tryd.func75, Tryd.ntmps75
  go_wp2
  go_loopw [8] (fun i wr => ∃ k : Nat, k ≤ zs.length ∧ i = .int .i64 k ∧ Words 113 wr b (putAll s (zs.take k)) ∧ w.grownBy wr (some b))
    (fun i _ => zs.length - (intOf i).toNat)
  case atStart => exact ⟨0, Nat.zero_le _, rfl, hw, World.grownBy.refl _ _⟩
  case round =>
    obtain ⟨k, hk, rfl, hwr, hg⟩ := hrel
    by_cases hlt : k < zs.length
    · have hcx := hg.cell (hc k hlt) (by simp; exact fun e => hne e.symm)
      have hzk := hz k hlt
      have hstep : putAll s (zs.take (k + 1)) = put (putAll s (zs.take k)) (zs[k]?.getD 0) := by
        rw [List.take_succ_eq_append_getElem hlt, putAll_snoc]; simp [hlt]
      have hkd : decide (k < zs.length) = true := by simpa using hlt
      generalize zs[k]?.getD 0 = n at hcx hzk hstep
      generalize putAll s (zs.take k) = t at hwr hstep
      have hct := hwr.cell (i := n / 64) (by omega)
      have hft := hwr.frozen (n / 64)
      have hll := limb_lt t (n / 64)
      have hst := Lib.hid hstep
      clear hstep
      go_wp2
      go_region
      all_goals go_wp2
      go_roundw
      case rel =>
        refine ⟨k + 1, by omega, by go_num, ?_, hg.trans ?_⟩
        · rw [hst.out, put_val t n]
          exact (hwr.set_ (s' := put t n) (by omega) (fun j _ => put_others t n j)).drew
        · rw [put_val t n]
          exact grown_set _ _ _ _
      case measure => simp [intOf]; omega
    · have hge : zs.length ≤ k := by omega
      go_wp2
      go_end0
      have : zs.take k = zs := List.take_of_length_le hge
      rw [this] at hwr
      exact ⟨rfl, hwr, hg⟩
end Go.Proofs.YtnigpmbpipmgfaaDoor

/-
  cont's read: the set of a container's bytes, as far as it is one.
-/
namespace Go.Proofs.YtnigpmbpipmgfaaDoor
open Go.RowKit Tess

/-- A text's bytes, as numbers. -/
def dn (D : ByteArray) : List Nat := D.data.toList.map (·.toNat)
theorem dn_length (D : ByteArray) : (dn D).length = D.size := by simp [dn]
theorem dn_lt (D : ByteArray) : ∀ x ∈ dn D, x < 256 := by
  intro x hx
  obtain ⟨y, _, rfl⟩ := List.mem_map.1 hx
  exact y.toNat_lt
theorem bs_dn (D : ByteArray) : bs (dn D) = D := by
  obtain ⟨⟨l⟩⟩ := D
  simp [bs, dn, List.map_map, Function.comp_def]
theorem dn_bs {d : List Nat} (h : ∀ x ∈ d, x < 256) : dn (bs d) = d := by
  simp only [dn, bs, List.map_map]
  conv => rhs; rw [← List.map_id d]
  apply List.map_congr_left
  intro x hx
  have := h x hx
  simp
  omega
theorem bs_inj {a b : List Nat} (ha : ∀ x ∈ a, x < 256) (hb : ∀ x ∈ b, x < 256) (h : bs a = bs b) : a = b := by rw [← dn_bs ha, h, dn_bs hb]
theorem dn_get (D : ByteArray) {k : Nat} (h : k < D.size) : (dn D)[k]?.getD 0 = (D[k]).toNat := by
  have h' : k < D.data.toList.length := by simpa using h
  simp [dn, List.getElem?_eq_getElem h']; rfl
theorem dn_get_lt (D : ByteArray) (k : Nat) : (dn D)[k]?.getD 0 < 256 := by
  cases h : (dn D)[k]? with
  | none => simp
  | some x => exact dn_lt D x (List.mem_of_getElem? h)

theorem byteShift_lt {x k : Nat} (hx : x < 256) : x * 2 ^ (k * 8 % 64) < 18446744073709551616 := by
  have h1 : x * 2 ^ (k * 8 % 64) < 2 ^ 8 * 2 ^ (k * 8 % 64) := Nat.mul_lt_mul_of_pos_right (by omega) (Nat.two_pow_pos _)
  rw [← Nat.pow_add] at h1
  exact Nat.lt_of_lt_of_le h1 (Nat.le_trans (Nat.pow_le_pow_right (by decide) (show 8 + k * 8 % 64 ≤ 64 by omega)) (by decide))
theorem limb_orByte (t : Nat) {x k : Nat} (j : Nat) (hx : x < 256) : limb (t ||| x * 2 ^ (8 * k)) j = if j = k * 8 / 64 then limb t j ||| x * 2 ^ (k * 8 % 64) else limb t j := by
  split
  · rename_i h
    refine limb_eq_of ?_ ?_
    · have h1 := limb_lt t j
      have h2 := byteShift_lt (k := k) hx
      rw [show (18446744073709551616 : Nat) = 2 ^ 64 from by decide] at *
      exact Nat.or_lt_two_pow h1 h2
    · intro i hi
      rw [Nat.testBit_or, Nat.testBit_or, testBit_limb, testBit_byteMul _ _ _ hx, Nat.mul_comm x, Nat.testBit_two_pow_mul]
      simp only [hi, decide_true, Bool.true_and]
      congr 1
      by_cases h1 : k * 8 % 64 ≤ i
      · have e : 64 * j + i - 8 * k = i - k * 8 % 64 := by omega
        by_cases h2 : 64 * j + i < 8 * k + 8
        · have : 8 * k ≤ 64 * j + i ∧ 64 * j + i < 8 * k + 8 := by omega
          simp [h1, this, e]
        · have h3 : ¬ (8 * k ≤ 64 * j + i ∧ 64 * j + i < 8 * k + 8) := by omega
          have h4 : x.testBit (i - k * 8 % 64) = false := Nat.testBit_lt_two_pow (Nat.lt_of_lt_of_le (show x < 2 ^ 8 from hx) (Nat.pow_le_pow_right (by decide) (by omega)))
          simp [h3, h4]
      · have h3 : ¬ (8 * k ≤ 64 * j + i ∧ 64 * j + i < 8 * k + 8) := by omega
        simp [h1, h3]
  · rename_i h
    refine limb_eq_of (limb_lt _ _) ?_
    intro i hi
    rw [Nat.testBit_or, testBit_limb, testBit_byteMul _ _ _ hx]
    have h3 : ¬ (8 * k ≤ 64 * j + i ∧ 64 * j + i < 8 * k + 8) := by omega
    simp [hi, h3]
theorem orByte_others (t : Nat) {x k : Nat} (j : Nat) (hx : x < 256) : limb (t ||| x * 2 ^ (8 * k)) j = if j = k * 8 / 64 then limb (t ||| x * 2 ^ (8 * k)) (k * 8 / 64) else limb t j := by
  by_cases e : j = k * 8 / 64
  · rw [if_pos e, e]
  · rw [if_neg e, limb_orByte t j hx, if_neg e]
theorem orByte_val (t : Nat) {x k : Nat} (hx : x < 256) : bits .or .u64 (limb t (k * 8 / 64) : Int) (IntKind.u64.wrap ((x : Int) * 2 ^ (k * 8 % 64))) = (limb (t ||| x * 2 ^ (8 * k)) (k * 8 / 64) : Int) := by
  have e : ((x : Int) * 2 ^ (k * 8 % 64)) = ((x * 2 ^ (k * 8 % 64) : Nat) : Int) := by rw [Int.natCast_mul, Int.natCast_pow]; rfl
  rw [e, wrapU (byteShift_lt hx), u64_or_nat _ _ (limb_lt _ _) (byteShift_lt hx), limb_orByte t _ hx, if_pos rfl]

/-- What lies in memory while the bytes are read. -/
structure ReadAt (w wr : World) (form : Int) (D : ByteArray) (t : Nat) : Prop where
  box : wr.heap[w.heap.size]? = some (.cells #[.int .i64 form, .string D] 75 (0, 0))
  res : Words 113 wr (w.heap.size + 1) 0
  set : Words 113 wr (w.heap.size + 1 + 1) t
  below : Below w.heap.size w wr

theorem ReadAt.grown {w wr W : World} {form : Int} {D : ByteArray} {t t' : Nat} (h : ReadAt w wr form D t) (hg : wr.grownBy W (some (w.heap.size + 1 + 1))) (hw : Words 113 W (w.heap.size + 1 + 1) t') : ReadAt w W form D t' :=
  ⟨(hg.block _ (lt_of_heap h.box) (by simp; omega)).trans h.box, h.res.grown hg (by simp), hw, h.below.grown hg h.below.size (fun k e => by cases e; omega)⟩
theorem ReadAt.alloc {w wr : World} {form : Int} {D : ByteArray} {t : Nat} (h : ReadAt w wr form D t) (o : Obj) : ReadAt w (wr.alloc o) form D t :=
  ⟨(Below.heap_alloc _ _ _ (lt_of_heap h.box)).trans h.box, h.res.alloc _, h.set.alloc _, h.below.alloc h.below.size _⟩
theorem put1 {w wr : World} {form : Int} {D : ByteArray} {t n : Nat} (h : ReadAt w wr form D t) (hn : n < 256) :
    Calls Tryd.prog 75 #[.pointer (some ⟨w.heap.size + 1 + 1, 0, none⟩), .slice (some ⟨wr.heap.size, 0, none⟩) 1 1] (wr.alloc (.cells #[.int .i64 (n : Int)] 3)) fun e W' => e = .returned (.tuple #[]) ∧ ReadAt w W' form D (put t n) := by
  have h1 := (h.alloc (.cells #[.int .i64 (n : Int)] 3))
  refine (put_core (w.heap.size + 1 + 1) t wr.heap.size 0 1 [n] _ h1.set (fun e => by have := h.set.lt; omega) (fun j hj => ?_) (fun j hj => ?_) (by simp)).mono ?_
  · obtain rfl : j = 0 := by simp at hj; omega
    simp
  · obtain rfl : j = 0 := by simp at hj; omega
    simpa using hn
  · rintro e W' ⟨rfl, hw, hg⟩
    exact ⟨rfl, h1.grown hg hw⟩

theorem words_set4 {t : TypeId} {W : World} {b s : Nat} (h : Words t W b s) (s' : Nat) :
    Words t ((((W.setCell ⟨b, 0, none⟩ (.int .u64 (limb s' 0 : Int))).setCell ⟨b, 1, none⟩ (.int .u64 (limb s' 1 : Int))).setCell ⟨b, 2, none⟩ (.int .u64 (limb s' 2 : Int))).setCell ⟨b, 3, none⟩ (.int .u64 (limb s' 3 : Int))) b s' := by
  unfold Words at h ⊢
  simp [World.setCell, Array.getElem?_modify, h, wcs, lv]

set_option maxRecDepth 100000 in
set_option maxHeartbeats 4000000 in
theorem read_any (form : Int) (D : ByteArray) (w : World) (hD : D.size ≤ 1000000) :
    Calls Tryd.prog 103 #[.agg #[.int .i64 form, .string D]] w fun e W' => e = .returned (wv (readAll form (dn D))) ∧ Below w.heap.size w W' := by
  have hA : Hid (ReadAt w (((w.alloc (.cells #[.int .i64 form, .string D] 75)).alloc (.cells (wcs 0) 113)).alloc (.cells (wcs 0) 113)) form D 0) :=
    ⟨(Below.heap_alloc _ _ _ (by simp; omega)).trans (blk2_new w (.int .i64 form) (.string D) 75 _),
      by have := (Words.new (w.alloc (.cells #[.int .i64 form, .string D] 75)) 113 0).alloc (.cells (wcs 0) 113); rwa [World.size_alloc] at this,
      by have := (Words.new ((w.alloc (.cells #[.int .i64 form, .string D] 75)).alloc (.cells (wcs 0) 113)) 113 0); rwa [World.size_alloc, World.size_alloc] at this,
      (((Below.refl _ w).alloc (Nat.le_refl _) _).alloc (by simp) _).alloc (by simp; omega) _⟩
  go_enter Tryd.func103, Tryd.ntmps103
  go_wp2
  go_loopw [4] (fun i wr => ∃ k : Nat, k ≤ D.size ∧ i = .int .i64 k ∧ Hid (ReadAt w wr form D (readTo form (dn D) k)))
    (fun i _ => D.size - (intOf i).toNat)
  case atStart => exact ⟨0, Nat.zero_le _, rfl, hA⟩
  case round =>
    obtain ⟨k, hk, rfl, hM⟩ := hrel
    clear hA
    obtain ⟨b0, b1, _, _⟩ := blk2_cells hM.out.box
    by_cases hlt : k < D.size
    · have hkd : decide (k < D.size) = true := by simpa using hlt
      have hx := dn_get D hlt
      have hx2 : (D[k]).toNat < 256 := UInt8.toNat_lt _
      have hstep := readTo_succ form (dn D) k
      by_cases h3 : form = 3
      · have h3' : (form == 3) = true := by simpa using h3
        by_cases hodd : k % 2 = 1
        · have ho : ((k : Int) % 2 == 1) = true := by rw [beq_iff_eq]; omega
          have hst : Hid (readTo form (dn D) (k + 1) = readTo form (dn D) k) := by
            show _ = _
            rw [hstep]; unfold readStep; rw [if_pos h3, if_pos hodd]
          clear hstep hx h3 hodd
          go_wp2
          go_roundw
          case rel => exact ⟨k + 1, by omega, by go_num, by rw [hst.out]; exact hM⟩
          case measure => simp [intOf]; omega
        · have ho : ((k : Int) % 2 == 1) = false := by rw [beq_eq_false_iff_ne]; omega
          by_cases hin : k + 1 < D.size
          · have hind : decide ((k : Int) + 1 < (D.size : Int)) = true := by simp; omega
            have hx' := dn_get D hin
            have hxx2 : (D[k + 1]).toNat < 256 := UInt8.toNat_lt _
            have hst : Hid (readTo form (dn D) (k + 1) = putSpan (readTo form (dn D) k) (D[k]).toNat (min ((D[k]).toNat + (D[k + 1]).toNat) 255)) := by
              show _ = _
              rw [hstep]; unfold readStep; rw [if_pos h3, if_neg hodd, if_pos (by rw [dn_length]; exact hin), hx, hx']
            generalize readTo form (dn D) k = t at hM hst
            clear hstep hx hx' h3 hodd
            go_wp2
            obtain ⟨wo, rfl⟩ : ∃ wo : World, wo = wr := ⟨_, rfl⟩
            go_loopw [6] (fun i wi => ∃ m : Nat, m ≤ 256 ∧ i = .int .i64 (((D[k]).toNat : Int) + m) ∧ (D[k]).toNat + m ≤ max (D[k]).toNat (min ((D[k]).toNat + (D[k + 1]).toNat) 255 + 1) ∧ Hid (ReadAt w wi form D (putAll t (List.range' (D[k]).toNat m))))
              (fun i _ => 600 - (intOf i).toNat)
            case atStart => exact ⟨0, by omega, by simp, by omega, by simpa [putAll] using hM⟩
            case round =>
              obtain ⟨m, hm, rfl, hmm, hMi⟩ := hrel
              clear hM b0 b1
              obtain ⟨b0, b1, _, _⟩ := blk2_cells hMi.out.box
              have ev : ((D[k]).toNat : Int) + (m : Int) = (((D[k]).toNat + m : Nat) : Int) := by omega
              rcases (show ((D[k]).toNat + (D[k + 1]).toNat ≤ 255 ∧ (D[k]).toNat + m ≤ (D[k]).toNat + (D[k + 1]).toNat) ∨ (¬ (D[k]).toNat + (D[k + 1]).toNat ≤ 255 ∧ (D[k]).toNat + m ≤ 255) ∨
                  ((D[k]).toNat + (D[k + 1]).toNat ≤ 255 ∧ ¬ (D[k]).toNat + m ≤ (D[k]).toNat + (D[k + 1]).toNat) ∨ (¬ (D[k]).toNat + (D[k + 1]).toNat ≤ 255 ∧ ¬ (D[k]).toNat + m ≤ 255) by omega) with ⟨q1, q2⟩ | ⟨q1, q2⟩ | ⟨q1, q2⟩ | ⟨q1, q2⟩
              rotate_left 2
              any_goals
                have hspan : Hid (putAll t (List.range' (D[k]).toNat m) = putSpan t (D[k]).toNat (min ((D[k]).toNat + (D[k + 1]).toNat) 255)) := by
                  show _ = _
                  unfold putSpan; congr 2; omega
                clear ev hmm
                go_wp2
                go_roundw
                case rel => exact ⟨k + 1, by omega, by go_num, by rw [hst.out, ← hspan.out]; exact hMi⟩
                case measure => simp [intOf]; omega
              all_goals
                have hp := Lib.hid (put1 hMi.out (n := (D[k]).toNat + m) (by omega))
                rw [← ev] at hp
                have hrg : Hid (putAll t (List.range' (D[k]).toNat (m + 1)) = put (putAll t (List.range' (D[k]).toNat m)) ((D[k]).toNat + m)) := by
                  show _ = _
                  rw [List.range'_concat, putAll_snoc]; simp
                have hm2 : Hid ((D[k]).toNat + (m + 1) ≤ max (D[k]).toNat (min ((D[k]).toNat + (D[k + 1]).toNat) 255 + 1)) := by show _ ≤ _; omega
                clear ev hmm
                go_wp2_with fail
                refine (hp.out).mono ?_
                rintro e W2 ⟨rfl, hM2⟩
                have hM2' := Lib.hid hM2
                clear hM2
                go_wp2
                go_roundw
                case rel => exact ⟨m + 1, by omega, by go_num, hm2.out, by rw [hrg.out]; exact hM2'⟩
                case measure => simp [intOf]; omega
          · have hind : decide ((k : Int) + 1 < (D.size : Int)) = false := by simp; omega
            have hst : Hid (readTo form (dn D) (k + 1) = readTo form (dn D) k) := by
              show _ = _
              rw [hstep]; unfold readStep; rw [if_pos h3, if_neg hodd, if_neg (by rw [dn_length]; exact hin)]
            clear hstep hx h3 hodd
            go_wp2
            refine wp_loop_rounds 1 ?_
            rw [rounds_succ]
            go_wp2
            go_roundw
            case rel => exact ⟨k + 1, by omega, by go_num, by rw [hst.out]; exact hM⟩
            case measure => simp [intOf]; omega
      · have h3' : (form == 3) = false := by simpa using h3
        by_cases h2 : form = 2
        · have h2' : (form == 2) = true := by simpa using h2
          by_cases h32 : k < 32
          · have hkd2 : decide ((k : Int) < 32) = true := by simp; omega
            have hst : Hid (readTo form (dn D) (k + 1) = readTo form (dn D) k ||| (D[k]).toNat * 2 ^ (8 * k)) := by
              show _ = _
              rw [hstep]; unfold readStep; rw [if_neg h3, if_pos h2, if_pos h32, hx]
            have hct := hM.out.set.cell (i := k * 8 / 64) (by omega)
            have hft := hM.out.set.frozen (k * 8 / 64)
            generalize readTo form (dn D) k = t at hM hct hst
            have hll := limb_lt t (k * 8 / 64)
            have hst' := hst
            clear hstep hx h2 h3 hst
            go_wp2
            go_region
            all_goals go_wp2
            go_roundw
            case rel =>
              refine ⟨k + 1, by omega, by go_num, ?_⟩
              rw [hst'.out, orByte_val t hx2]
              exact hM.out.grown (grown_set _ _ _ _) (hM.out.set.set_ (s' := t ||| (D[k]).toNat * 2 ^ (8 * k)) (by omega) (fun j _ => orByte_others t j hx2)).drew
            case measure => simp [intOf]; omega
          · have hkd2 : decide ((k : Int) < 32) = false := by simp; omega
            have hst : Hid (readTo form (dn D) (k + 1) = readTo form (dn D) k) := by
              show _ = _
              rw [hstep]; unfold readStep; rw [if_neg h3, if_pos h2, if_neg h32]
            clear hstep hx h2 h3
            go_wp2
            go_roundw
            case rel => exact ⟨k + 1, by omega, by go_num, by rw [hst.out]; exact hM⟩
            case measure => simp [intOf]; omega
        · have h2' : (form == 2) = false := by simpa using h2
          by_cases h1 : form = 1
          · have h1' : (form == 1) = true := by simpa using h1
            have hst : Hid (readTo form (dn D) (k + 1) = put (readTo form (dn D) k) (D[k]).toNat) := by
              show _ = _
              rw [hstep]; unfold readStep; rw [if_neg h3, if_neg h2, if_pos h1, hx]
            have hh1 := Lib.hid h1
            clear hstep hx h1 h2 h3
            have hp := Lib.hid (put1 hM.out hx2)
            go_wp2_with fail
            refine (hp.out).mono ?_
            rintro e W2 ⟨rfl, hM2⟩
            have hM2' := Lib.hid hM2
            clear hM2
            go_wp2
            go_roundw
            case rel => exact ⟨k + 1, by omega, by go_num, by rw [hst.out]; exact hM2'⟩
            case measure => simp [intOf]; omega
          · have h1' : (form == 1) = false := by simpa using h1
            have hst : Hid (readTo form (dn D) (k + 1) = readTo form (dn D) k) := by
              show _ = _
              rw [hstep]; unfold readStep; rw [if_neg h3, if_neg h2, if_neg h1]
            clear hstep hx h1 h2 h3
            go_wp2
            go_roundw
            case rel => exact ⟨k + 1, by omega, by go_num, by rw [hst.out]; exact hM⟩
            case measure => simp [intOf]; omega
    · have hge : D.size ≤ k := by omega
      have hall : Hid (readTo form (dn D) k = readAll form (dn D)) := by
        show _ = _
        unfold readAll; rw [dn_length]; congr 1; omega
      have hr := words_set4 hM.out.res (readTo form (dn D) k)
      have s0 := hM.out.set.cell (i := 0) (by decide)
      have s1 := hM.out.set.cell (i := 1) (by decide)
      have s2 := hM.out.set.cell (i := 2) (by decide)
      have s3 := hM.out.set.cell (i := 3) (by decide)
      have r0 := hM.out.res.cell (i := 0) (by decide)
      have r1 := hM.out.res.cell (i := 1) (by decide)
      have r2 := hM.out.res.cell (i := 2) (by decide)
      have r3 := hM.out.res.cell (i := 3) (by decide)
      have f0 := hM.out.res.frozen 0
      have f1 := hM.out.res.frozen 1
      have f2 := hM.out.res.frozen 2
      have f3 := hM.out.res.frozen 3
      have hr' := Lib.hid hr
      clear hr
      go_wp2
      have e0 := hr'.out.cell (i := 0) (by decide)
      have e1 := hr'.out.cell (i := 1) (by decide)
      have e2 := hr'.out.cell (i := 2) (by decide)
      have e3 := hr'.out.cell (i := 3) (by decide)
      rw [← hall.out]
      refine bodyPost_ret (v := wv (readTo form (dn D) k)) (by simp [results, Tryd.results103, go_sem, wv, wcs, lv, e0, e1, e2, e3]) rfl ⟨rfl, ?_⟩
      exact ((((hM.out.below.setCell (p := ⟨w.heap.size + 1, 0, none⟩) (Nat.le_succ _) _).setCell (p := ⟨w.heap.size + 1, 1, none⟩) (Nat.le_succ _) _).setCell (p := ⟨w.heap.size + 1, 2, none⟩) (Nat.le_succ _) _).setCell (p := ⟨w.heap.size + 1, 3, none⟩) (Nat.le_succ _) _)
end Go.Proofs.YtnigpmbpipmgfaaDoor

/-
  cont's of: a container's set, if it is one. Two containers compared.
-/
namespace Go.Proofs.YtnigpmbpipmgfaaDoor
open Go.RowKit Tess

/-- Are two containers the same? -/
def sameC (f1 : Int) (D1 : ByteArray) (f2 : Int) (D2 : ByteArray) : Bool := f1 == f2 && D1.toList == D2.toList
theorem toList_inj {a b : ByteArray} (h : a.toList = b.toList) : a = b := by
  rw [ByteArray.toList_eq, ByteArray.toList_eq] at h
  obtain ⟨⟨x⟩⟩ := a
  obtain ⟨⟨y⟩⟩ := b
  simp at h
  rw [h]
theorem sameC_iff {f1 f2 : Int} {D1 D2 : ByteArray} : sameC f1 D1 f2 D2 = true ↔ f1 = f2 ∧ D1 = D2 := by
  unfold sameC
  simp only [Bool.and_eq_true, beq_iff_eq]
  exact ⟨fun h => ⟨h.1, toList_inj h.2⟩, fun h => ⟨h.1, by rw [h.2]⟩⟩
theorem sameC_refl (f : Int) (D : ByteArray) : sameC f D f D = true := sameC_iff.2 ⟨rfl, rfl⟩

theorem cont_eq (f1 f2 : Int) (D1 D2 : ByteArray) (w : World) :
    (binOp .eql 75 (.agg #[.int .i64 f1, .string D1]) (.agg #[.int .i64 f2, .string D2])).run Tryd.prog w = .ok (.bool (sameC f1 D1 f2 D2)) w := by
  have u3 := Tryd.underlying3
  have u9 := Tryd.underlying9
  have a3 := Tryd.isAgg3
  have z3 := Tryd.sizeOf3
  have a9 := Tryd.isAgg9
  have z9 := Tryd.sizeOf9
  have hS : Tryd.prog.underlying 75 = some (.struct (Tryd.prog.fieldsOf 75)) := by kernel_rfl
  have hp : Tryd.prog.stoodInHeld 75 = false := by kernel_rfl
  rw [run_eql_struct, show (10000 : Nat) = 9999 + 1 from rfl, run_equalIn_agg w 9999 75 _ _ hS hp]
  simp only [Program.fieldsOf, Tryd.underlying75]
  go_simp
  unfold sameC
  by_cases h1 : f1 = f2 <;> by_cases h2 : D1.toList = D2.toList <;> simp [h1, h2]
theorem cont_neq (f1 f2 : Int) (D1 D2 : ByteArray) (w : World) :
    (binOp .neq 75 (.agg #[.int .i64 f1, .string D1]) (.agg #[.int .i64 f2, .string D2])).run Tryd.prog w = .ok (.bool (!sameC f1 D1 f2 D2)) w := by
  have u3 := Tryd.underlying3
  have u9 := Tryd.underlying9
  have a3 := Tryd.isAgg3
  have z3 := Tryd.sizeOf3
  have a9 := Tryd.isAgg9
  have z9 := Tryd.sizeOf9
  have hS : Tryd.prog.underlying 75 = some (.struct (Tryd.prog.fieldsOf 75)) := by kernel_rfl
  have hp : Tryd.prog.stoodInHeld 75 = false := by kernel_rfl
  rw [run_neq_struct, show (10000 : Nat) = 9999 + 1 from rfl, run_equalIn_agg w 9999 75 _ _ hS hp]
  simp only [Program.fieldsOf, Tryd.underlying75]
  go_simp
  unfold sameC
  by_cases h1 : f1 = f2 <;> by_cases h2 : D1.toList = D2.toList <;> simp [h1, h2]
theorem cont_guard (op : BinOp) (x y : Operand) (xs ys : Array Value) (w : World) : (eqGuard op 75 x y (.agg xs) (.agg ys)).run Tryd.prog w = .ok () w := run_eqGuard_agg w op 75 x y xs ys (by kernel_rfl)

/-- What a container's bytes come to: its set, and that it is one; else none, false. -/
def ofRes (form : Int) (D : ByteArray) : Nat × Bool := match ofC form (dn D) with | some s => (s, true) | none => (0, false)
theorem ofC_def (form : Int) (d : List Nat) : ofC form d = match asOf (readAll form d) form with | some e => if e = d then some (readAll form d) else none | none => none := by
  unfold ofC
  cases asOf (readAll form d) form <;> simp
theorem ofRes_none {form : Int} {D : ByteArray} (h : asOf (readAll form (dn D)) form = none) : ofRes form D = (0, false) := by
  unfold ofRes; rw [ofC_def, h]
theorem ofRes_same {form : Int} {D : ByteArray} {d : List Nat} (h : asOf (readAll form (dn D)) form = some d) (hs : sameC form (bs d) form D = true) : ofRes form D = (readAll form (dn D), true) := by
  have e : dn D = d := by rw [← (sameC_iff.1 hs).2, dn_bs (asOf_lt h)]
  unfold ofRes; rw [ofC_def, h]; simp [e]
theorem ofRes_other {form : Int} {D : ByteArray} {d : List Nat} (h : asOf (readAll form (dn D)) form = some d) (hs : sameC form (bs d) form D = false) : ofRes form D = (0, false) := by
  have e : ¬ d = dn D := by
    intro e
    rw [e, bs_dn, sameC_refl] at hs; cases hs
  unfold ofRes; rw [ofC_def, h]; simp [e]

theorem limb_zero (i : Nat) : limb 0 i = 0 := by simp [limb]

/-- What lies in memory once `as` has answered. -/
structure OfAt (w W : World) (form : Int) (D : ByteArray) (bS s : Nat) : Prop where
  box : W.heap[w.heap.size]? = some (.cells #[.int .i64 form, .string D] 75 (0, 0))
  res : Words 113 W (w.heap.size + 1) 0
  set : Words 113 W bS s
  below : Below w.heap.size w W
  lo : w.heap.size + 2 ≤ bS
theorem OfAt.later {w wr W : World} {form : Int} {D : ByteArray} {bS s : Nat} (h : OfAt w wr form D bS s) (hb : Below wr.heap.size wr W) : OfAt w W form D bS s :=
  ⟨(hb.block _ (lt_of_heap h.box)).trans h.box, h.res.below hb h.res.lt, h.set.below hb h.set.lt, h.below.trans (hb.mono h.below.size), h.lo⟩

theorem OfAt.start (form : Int) (D : ByteArray) (w W1 : World) (s : Nat) (hb1 : Below ((w.alloc (.cells #[.int .i64 form, .string D] 75)).alloc (.cells (wcs 0) 113)).heap.size ((w.alloc (.cells #[.int .i64 form, .string D] 75)).alloc (.cells (wcs 0) 113)) W1) :
    OfAt w (W1.alloc (.cells #[.int .u64 (limb s 0 : Int), .int .u64 (limb s 1 : Int), .int .u64 (limb s 2 : Int), .int .u64 (limb s 3 : Int)] 113)) form D W1.heap.size s := by
  have hs := hb1.size
  simp only [World.size_alloc] at hs
  have hw := (Words.new (w.alloc (.cells #[.int .i64 form, .string D] 75)) 113 0)
  rw [World.size_alloc] at hw
  refine ⟨?_, (hw.below hb1 (by simp)).alloc _, Words.new W1 _ s, ?_, by omega⟩
  · exact (Below.heap_alloc _ _ _ (by omega)).trans ((hb1.block _ (by simp; omega)).trans (blk2_new w (.int .i64 form) (.string D) 75 _))
  · exact ((((Below.refl _ w).alloc (Nat.le_refl _) _).alloc (by simp) _).trans (hb1.mono (by simp; omega))).alloc (by omega) _

/-- The result's four cells set. -/
theorem OfAt.below4 {w W : World} {form : Int} {D : ByteArray} {bS s : Nat} (h : OfAt w W form D bS s) (a b c d : Value) :
    Below w.heap.size w ((((W.setCell ⟨w.heap.size + 1, 0, none⟩ a).setCell ⟨w.heap.size + 1, 1, none⟩ b).setCell ⟨w.heap.size + 1, 2, none⟩ c).setCell ⟨w.heap.size + 1, 3, none⟩ d) :=
  (((h.below.setCell (p := ⟨w.heap.size + 1, 0, none⟩) (Nat.le_succ _) _).setCell (p := ⟨w.heap.size + 1, 1, none⟩) (Nat.le_succ _) _).setCell (p := ⟨w.heap.size + 1, 2, none⟩) (Nat.le_succ _) _).setCell (p := ⟨w.heap.size + 1, 3, none⟩) (Nat.le_succ _) _

set_option maxRecDepth 100000 in
set_option maxHeartbeats 4000000 in
theorem of_any (form : Int) (D : ByteArray) (w : World) (hD : D.size ≤ 1000000) (hT : Tab w) :
    Calls Tryd.prog 79 #[.agg #[.int .i64 form, .string D]] w fun e W' => e = .returned (.tuple #[wv (ofRes form D).1, .bool (ofRes form D).2]) ∧ Below w.heap.size w W' := by
  have hrd := Lib.hid (read_any form D ((w.alloc (.cells #[.int .i64 form, .string D] 75)).alloc (.cells (wcs 0) 113)) hD)
  go_enter Tryd.func79, Tryd.ntmps79
  go_wp2_with fail
  refine (hrd.out).mono ?_
  rintro e W1 ⟨rfl, hb1⟩
  have hM := Lib.hid (OfAt.start form D w W1 (readAll form (dn D)) hb1)
  have hT3 := hT.below hM.out.below hT.lt
  have c0 := hM.out.set.cell (i := 0) (by decide)
  have c1 := hM.out.set.cell (i := 1) (by decide)
  have c2 := hM.out.set.cell (i := 2) (by decide)
  have c3 := hM.out.set.cell (i := 3) (by decide)
  obtain ⟨b0, b1, _, _⟩ := blk2_cells hM.out.box
  clear hb1
  cases has : asOf (readAll form (dn D)) form with
  | none =>
    obtain ⟨n1, n2, n3⟩ := asOf_none has
    have k1 := Lib.hid (as_none (readAll form (dn D)) form (W1.alloc (.cells #[.int .u64 (limb (readAll form (dn D)) 0 : Int), .int .u64 (limb (readAll form (dn D)) 1 : Int), .int .u64 (limb (readAll form (dn D)) 2 : Int), .int .u64 (limb (readAll form (dn D)) 3 : Int)] 113)) n1 n2 n3)
    have hof := Lib.hid (ofRes_none has)
    clear has n1 n2 n3
    simp only [wv, wcs, lv]
    go_wp2_with fail
    refine (k1.out).mono ?_
    rintro e W2 ⟨rfl, hb2⟩
    have hM3 : Hid (OfAt w (W2.alloc (.cells #[.int .i64 0, .string (bs [])] 75)) form D W1.heap.size (readAll form (dn D))) := (hM.out.later hb2).later ((Below.refl _ W2).alloc (Nat.le_refl _) _)
    obtain ⟨d0, d1, _, _⟩ := blk2_cells hM3.out.box
    obtain ⟨n0, n1, _, _⟩ := blk2_cells (heap_alloc_new W2 (.cells #[.int .i64 0, .string (bs [])] 75))
    have r0 := hM3.out.res.cell (i := 0) (by decide)
    have r1 := hM3.out.res.cell (i := 1) (by decide)
    have r2 := hM3.out.res.cell (i := 2) (by decide)
    have r3 := hM3.out.res.cell (i := 3) (by decide)
    have f0 := hM3.out.res.frozen 0
    have f1 := hM3.out.res.frozen 1
    have f2 := hM3.out.res.frozen 2
    have f3 := hM3.out.res.frozen 3
    have hr := Lib.hid (words_set4 hM3.out.res 0)
    clear c0 c1 c2 c3 b0 b1
    simp only [cv]
    go_wp2
    have g0 := hr.out.cell (i := 0) (by decide)
    have g1 := hr.out.cell (i := 1) (by decide)
    have g2 := hr.out.cell (i := 2) (by decide)
    have g3 := hr.out.cell (i := 3) (by decide)
    simp only [limb_zero, Int.ofNat_zero] at g0 g1 g2 g3
    refine bodyPost_ret (v := .tuple #[wv 0, .bool false]) ?_ rfl ⟨by rw [hof.out], hM3.out.below4 _ _ _ _⟩
    simp [results, Tryd.results79, go_sem, wv, wcs, lv, g0, g1, g2, g3, limb_zero]
  | some d =>
    have k1 := Lib.hid (as_some has (W1.alloc (.cells #[.int .u64 (limb (readAll form (dn D)) 0 : Int), .int .u64 (limb (readAll form (dn D)) 1 : Int), .int .u64 (limb (readAll form (dn D)) 2 : Int), .int .u64 (limb (readAll form (dn D)) 3 : Int)] 113)) hT3)
    have hl := Lib.hid (asOf_lt has)
    have heq := cont_neq form form (bs d) D
    have hgd := cont_guard
    cases hsm : sameC form (bs d) form D with
    | true =>
      have hof := Lib.hid (ofRes_same has hsm)
      rw [hsm] at heq
      clear has hsm
      simp only [wv, wcs, lv]
      go_wp2_with fail
      refine (k1.out).mono ?_
      rintro e W2 ⟨rfl, hb2⟩
      have hM3 : Hid (OfAt w (W2.alloc (.cells #[.int .i64 form, .string (bs d)] 75)) form D W1.heap.size (readAll form (dn D))) := (hM.out.later hb2).later ((Below.refl _ W2).alloc (Nat.le_refl _) _)
      obtain ⟨d0, d1, _, _⟩ := blk2_cells hM3.out.box
      obtain ⟨n0, n1, _, _⟩ := blk2_cells (heap_alloc_new W2 (.cells #[.int .i64 form, .string (bs d)] 75))
      have r0 := hM3.out.res.cell (i := 0) (by decide)
      have r1 := hM3.out.res.cell (i := 1) (by decide)
      have r2 := hM3.out.res.cell (i := 2) (by decide)
      have r3 := hM3.out.res.cell (i := 3) (by decide)
      have f0 := hM3.out.res.frozen 0
      have f1 := hM3.out.res.frozen 1
      have f2 := hM3.out.res.frozen 2
      have f3 := hM3.out.res.frozen 3
      have s0 := hM3.out.set.cell (i := 0) (by decide)
      have s1 := hM3.out.set.cell (i := 1) (by decide)
      have s2 := hM3.out.set.cell (i := 2) (by decide)
      have s3 := hM3.out.set.cell (i := 3) (by decide)
      have hr := Lib.hid (words_set4 hM3.out.res (readAll form (dn D)))
      clear c0 c1 c2 c3 b0 b1
      simp only [cv]
      go_wp2
      have g0 := hr.out.cell (i := 0) (by decide)
      have g1 := hr.out.cell (i := 1) (by decide)
      have g2 := hr.out.cell (i := 2) (by decide)
      have g3 := hr.out.cell (i := 3) (by decide)
      refine bodyPost_ret (v := .tuple #[wv (readAll form (dn D)), .bool true]) ?_ rfl ⟨by rw [hof.out], hM3.out.below4 _ _ _ _⟩
      simp [results, Tryd.results79, go_sem, wv, wcs, lv, g0, g1, g2, g3]
    | false =>
      have hof := Lib.hid (ofRes_other has hsm)
      rw [hsm] at heq
      clear has hsm
      simp only [wv, wcs, lv]
      go_wp2_with fail
      refine (k1.out).mono ?_
      rintro e W2 ⟨rfl, hb2⟩
      have hM3 : Hid (OfAt w (W2.alloc (.cells #[.int .i64 form, .string (bs d)] 75)) form D W1.heap.size (readAll form (dn D))) := (hM.out.later hb2).later ((Below.refl _ W2).alloc (Nat.le_refl _) _)
      obtain ⟨d0, d1, _, _⟩ := blk2_cells hM3.out.box
      obtain ⟨n0, n1, _, _⟩ := blk2_cells (heap_alloc_new W2 (.cells #[.int .i64 form, .string (bs d)] 75))
      have r0 := hM3.out.res.cell (i := 0) (by decide)
      have r1 := hM3.out.res.cell (i := 1) (by decide)
      have r2 := hM3.out.res.cell (i := 2) (by decide)
      have r3 := hM3.out.res.cell (i := 3) (by decide)
      have f0 := hM3.out.res.frozen 0
      have f1 := hM3.out.res.frozen 1
      have f2 := hM3.out.res.frozen 2
      have f3 := hM3.out.res.frozen 3
      have hr := Lib.hid (words_set4 hM3.out.res 0)
      clear c0 c1 c2 c3 b0 b1
      simp only [cv]
      go_wp2
      have g0 := hr.out.cell (i := 0) (by decide)
      have g1 := hr.out.cell (i := 1) (by decide)
      have g2 := hr.out.cell (i := 2) (by decide)
      have g3 := hr.out.cell (i := 3) (by decide)
      simp only [limb_zero, Int.ofNat_zero] at g0 g1 g2 g3
      refine bodyPost_ret (v := .tuple #[wv 0, .bool false]) ?_ rfl ⟨by rw [hof.out], hM3.out.below4 _ _ _ _⟩
      simp [results, Tryd.results79, go_sem, wv, wcs, lv, g0, g1, g2, g3, limb_zero]
end Go.Proofs.YtnigpmbpipmgfaaDoor

/-
  cont's Make: numbers into a container, unless one is out of range.
-/
namespace Go.Proofs.YtnigpmbpipmgfaaDoor
open Go.RowKit Tess

/-- Is the number out of range? -/
def badI (n : Int) : Bool := decide (n < 0) || decide (256 ≤ n)
theorem bad_any (n : Int) (w : World) : Calls Tryd.prog 74 #[.int .i64 n] w fun e W' => e = .returned (.bool (badI n)) ∧ Below w.heap.size w W' := by
  go_enter Tryd.func74, Tryd.ntmps74
  unfold badI
  by_cases h1 : n < 0
  · have h1' : decide (n < 0) = true := by simpa using h1
    go_wp2
    exact bodyPost_ret (v := .bool true) (by simp [results, Tryd.results74, go_sem]) rfl ⟨by rw [h1']; rfl, Below.refl _ _⟩
  · have h1' : decide (n < 0) = false := by simpa using h1
    by_cases h2 : 256 ≤ n
    · have h2' : decide (256 ≤ n) = true := by simpa using h2
      go_wp2
      exact bodyPost_ret (v := .bool true) (by simp [results, Tryd.results74, go_sem]) rfl ⟨rfl, Below.refl _ _⟩
    · have h2' : decide (256 ≤ n) = false := by simpa using h2
      go_wp2
      exact bodyPost_ret (v := .bool false) (by simp [results, Tryd.results74, go_sem]) rfl ⟨rfl, Below.refl _ _⟩

set_option maxRecDepth 100000 in
set_option maxHeartbeats 2000000 in
theorem index_any (zs : List Int) (b off cap : Nat) (w : World) (hb : b < w.heap.size) (hc : ∀ j, j < zs.length → w.cell? ⟨b, off + j, none⟩ = some (.int .i64 (zs[j]?.getD 0))) (hl : zs.length ≤ 4611686018427387904) :
    Calls Tryd.prog 100 #[.slice (some ⟨b, off, none⟩) zs.length cap, .func (.func 74) #[] #[]] w fun e W' => (∃ r : Int, e = .returned (.int .i64 r) ∧ decide (0 ≤ r) = zs.any badI) ∧ Below w.heap.size w W' := by
  go_enter Tryd.func100, Tryd.ntmps100
  go_wp2
  go_loopw [8] (fun i wr => ∃ k : Nat, k ≤ zs.length ∧ i = .int .i64 k ∧ Hid ((zs.take k).any badI = false) ∧ Below w.heap.size w wr)
    (fun i _ => zs.length - (intOf i).toNat)
  case atStart => exact ⟨0, Nat.zero_le _, rfl, by show _ = _; simp, Below.refl _ _⟩
  case round =>
    obtain ⟨k, hk, rfl, hA, hg⟩ := hrel
    by_cases hlt : k < zs.length
    · have hcx := (hg.cell (p := ⟨b, off + k, none⟩) hb).trans (hc k hlt)
      have hkd : decide (k < zs.length) = true := by simpa using hlt
      have hstep : Hid ((zs.take (k + 1)).any badI = badI (zs[k]?.getD 0)) := by
        show _ = _
        rw [List.take_succ_eq_append_getElem hlt, List.any_append, hA.out]; simp [hlt]
      have hin : Hid (badI (zs[k]?.getD 0) = true → zs.any badI = true) := by
        show _ → _
        intro h
        exact List.any_eq_true.2 ⟨zs[k], List.getElem_mem hlt, by simpa [hlt] using h⟩
      generalize zs[k]?.getD 0 = n at hcx hstep hin
      have hcl := Lib.hid (bad_any n wr)
      go_wp2_with fail
      refine (hcl.out).mono ?_
      rintro e W2 ⟨rfl, hb2⟩
      have hg2 := hg.trans (hb2.mono hg.size)
      clear hb2 hcx
      cases hn : badI n with
      | true =>
        go_wp2
        exact bodyPost_ret (v := .int .i64 k) (by simp [results, Tryd.results100, go_sem]) rfl ⟨⟨_, rfl, by rw [hin.out hn]; simp⟩, hg2⟩
      | false =>
        rw [hn] at hstep
        clear hin hn
        go_wp2
        go_roundw
        case rel => exact ⟨k + 1, by omega, by go_num, hstep, hg2⟩
        case measure => simp [intOf]; omega
    · have hge : zs.length ≤ k := by omega
      have hkd : decide (k < zs.length) = false := by simpa using hlt
      go_wp2
      have hall : zs.any badI = false := by
        have : zs.take k = zs := List.take_of_length_le hge
        have h := hA.out
        rwa [this] at h
      exact bodyPost_ret (v := .int .i64 (-1)) (by simp [results, Tryd.results100, go_sem]) rfl ⟨⟨_, rfl, by rw [hall]; decide⟩, hg⟩

/-- … of a nil slice. -/
theorem index_nil (p : Option Addr) (w : World) :
    Calls Tryd.prog 100 #[.slice p 0 0, .func (.func 74) #[] #[]] w fun e W' => (∃ r : Int, e = .returned (.int .i64 r) ∧ decide (0 ≤ r) = ([] : List Int).any badI) ∧ Below w.heap.size w W' := by
  go_enter Tryd.func100, Tryd.ntmps100
  go_wp2
  refine wp_loop_rounds 1 ?_
  rw [rounds_succ]
  go_wp2
  exact bodyPost_ret (v := .int .i64 (-1)) (by simp [results, Tryd.results100, go_sem]) rfl ⟨⟨_, rfl, by decide⟩, Below.refl _ _⟩
theorem indexes {zs : List Int} {sv : Value} {w : World} (h : Ints w.heap.size w sv zs) (hl : zs.length ≤ 4611686018427387904) :
    Calls Tryd.prog 100 #[sv, .func (.func 74) #[] #[]] w fun e W' => (∃ r : Int, e = .returned (.int .i64 r) ∧ decide (0 ≤ r) = zs.any badI) ∧ Below w.heap.size w W' := by
  rcases h with ⟨⟨p, rfl⟩, rfl⟩ | ⟨b, off, cap, rfl, hb, hc⟩
  · exact index_nil p w
  · exact index_any zs b off cap w hb hc hl

theorem contains_any {zs : List Int} {sv : Value} {w : World} (h : Ints w.heap.size w sv zs) (hl : zs.length ≤ 4611686018427387904) :
    Calls Tryd.prog 73 #[sv, .func (.func 74) #[] #[]] w fun e W' => e = .returned (.bool (zs.any badI)) ∧ Below w.heap.size w W' := by
  have hi := Lib.hid (indexes h hl)
  clear h
  go_enter Tryd.func73, Tryd.ntmps73
  go_wp2_with fail
  refine (hi.out).mono ?_
  rintro e W2 ⟨⟨r, rfl, hr⟩, hb2⟩
  go_wp2
  exact bodyPost_ret (v := .bool (zs.any badI)) (by simp [results, Tryd.results73, go_sem]) rfl ⟨rfl, hb2⟩

theorem badI_false {zs : List Int} (h : zs.any badI = false) : ∀ z ∈ zs, 0 ≤ z ∧ z < 256 := by
  intro z hz
  have := List.any_eq_false.1 h z hz
  unfold badI at this
  simp at this
  omega
theorem toNat_get {zs : List Int} (h : ∀ z ∈ zs, 0 ≤ z ∧ z < 256) {j : Nat} (hj : j < zs.length) :
    (((zs.map Int.toNat)[j]?.getD 0 : Nat) : Int) = zs[j]?.getD 0 ∧ (zs.map Int.toNat)[j]?.getD 0 < 256 := by
  have := h _ (List.getElem_mem hj)
  simp [hj]; omega
theorem put_nil (b : Nat) (p : Option Addr) (w : World) :
    Calls Tryd.prog 75 #[.pointer (some ⟨b, 0, none⟩), .slice p 0 0] w fun e w' => e = .returned (.tuple #[]) ∧ w' = w := by
  go_enter Tryd.func75, Tryd.ntmps75
  go_wp2
  refine wp_loop_rounds 1 ?_
  rw [rounds_succ]
  go_wp2
  go_end0
  exact ⟨rfl, rfl⟩
/-- Numbers in range put into a set. -/
def mkSet (zs : List Int) : Nat := putAll 0 (zs.map Int.toNat)
theorem puts {zs : List Int} {sv : Value} {n₀ : Nat} {w : World} (h : Ints n₀ w sv zs) (hz : ∀ z ∈ zs, 0 ≤ z ∧ z < 256) (hl : zs.length ≤ 4611686018427387904) {b : Nat} (hw : Words 113 w b 0) (hb : n₀ ≤ b) :
    Calls Tryd.prog 75 #[.pointer (some ⟨b, 0, none⟩), sv] w fun e w' => e = .returned (.tuple #[]) ∧ Words 113 w' b (mkSet zs) ∧ w.grownBy w' (some b) := by
  rcases h with ⟨⟨p, rfl⟩, rfl⟩ | ⟨B, off, cap, rfl, hB, hc⟩
  · refine (put_nil b p w).mono ?_
    rintro e W' ⟨rfl, rfl⟩
    exact ⟨rfl, hw, World.grownBy.refl _ _⟩
  · have := put_core b 0 B off cap (zs.map Int.toNat) w hw (by omega) (fun j hj => by
      rw [List.length_map] at hj
      rw [(toNat_get hz hj).1]; exact hc j hj) (fun j hj => by rw [List.length_map] at hj; exact (toNat_get hz hj).2) (by simpa using hl)
    rw [List.length_map] at this
    exact this

/-- What Make answers: the container's form and bytes, and the fault. -/
def mkRes (zs : List Int) : C × Int := if zs.any badI then (⟨0, []⟩, 60) else (best (mkSet zs), 0)

set_option maxRecDepth 100000 in
set_option maxHeartbeats 4000000 in
theorem make_any {zs : List Int} {sv : Value} {w : World} (h : Ints w.heap.size w sv zs) (hl : zs.length ≤ 4611686018427387904) (hT : Tab w) :
    Calls Tryd.prog 42 #[sv] w fun e W' => e = .returned (.tuple #[cv (mkRes zs).1.form (mkRes zs).1.data, .int .i64 (mkRes zs).2]) ∧ Below w.heap.size w W' := by
  have hR : Below w.heap.size w (w.alloc (.cells #[.int .i64 0, .string ⟨#[]⟩] 75)) := (Below.refl _ w).alloc (Nat.le_refl _) _
  have hi := Lib.hid (contains_any ((h.below hR (Nat.le_refl _)).more hR.size) hl)
  have hh := Lib.hid h
  clear h
  go_enter Tryd.func42, Tryd.ntmps42
  go_wp2_with fail
  refine (hi.out).mono ?_
  rintro e W1 ⟨rfl, hb1⟩
  have hM := hb1.block _ (show w.heap.size < _ by simp) |>.trans (heap_alloc_new w (.cells #[.int .i64 0, .string ⟨#[]⟩] 75))
  obtain ⟨r0, r1, f0, f1⟩ := blk2_cells hM
  have hB1 := hR.trans (hb1.mono hR.size)
  cases hany : zs.any badI with
  | true =>
    have hmk : Hid (mkRes zs = (⟨0, []⟩, 60)) := by show _ = _; unfold mkRes; rw [hany]; rfl
    go_wp2
    refine bodyPost_ret (v := .tuple #[cv 0 [], .int .i64 60]) ?_ rfl ⟨by rw [hmk.out], (hB1.setCell (p := ⟨w.heap.size, 0, none⟩) (Nat.le_refl _) _).setCell (p := ⟨w.heap.size, 1, none⟩) (Nat.le_refl _) _⟩
    simp [results, Tryd.results42, go_sem, cv, r0, r1, bs]
  | false =>
    have hB2 := hB1.alloc hB1.size (.cells (wcs 0) 113)
    have hp := Lib.hid (puts ((hh.out.below hB1 (Nat.le_refl _)).below (((Below.refl W1.heap.size W1).alloc (Nat.le_refl _) (.cells (wcs 0) 113)).mono hB1.size) (Nat.le_refl _)) (badI_false hany) hl (Words.new W1 113 0) (by have := hb1.size; simp at this; omega))
    have hmk : Hid (mkRes zs = (best (mkSet zs), 0)) := by show _ = _; unfold mkRes; rw [hany]; rfl
    clear hi hany
    go_wp2_with fail
    refine (hp.out).mono ?_
    rintro e W2 ⟨rfl, hw2, hg2⟩
    have hB3 : Below w.heap.size w W2 := hB2.grown hg2 hB2.size (by rintro k ⟨rfl⟩; exact hB1.size)
    have hM2 := (hg2.block w.heap.size (by have := hb1.size; simp at this ⊢; omega) (by have := hb1.size; simp at this ⊢; omega)).trans ((Below.heap_alloc W1 (.cells (wcs 0) 113) w.heap.size (by have := hb1.size; simp at this; omega)).trans hM)
    have hk := Lib.hid (best_any (mkSet zs) W2 (hT.below hB3 hT.lt))
    have c0 := hw2.cell (i := 0) (by decide)
    have c1 := hw2.cell (i := 1) (by decide)
    have c2 := hw2.cell (i := 2) (by decide)
    have c3 := hw2.cell (i := 3) (by decide)
    clear hw2 hp r0 r1 f0 f1
    go_wp2_with fail
    refine (hk.out).mono ?_
    rintro e W3 ⟨rfl, hb3⟩
    have hB4 := hB3.trans (hb3.mono hB3.size)
    obtain ⟨r0, r1, f0, f1⟩ := blk2_below hM2 hb3 (lt_of_heap hM2)
    simp only [cv]
    clear c0 c1 c2 c3
    go_wp2
    have hrs := blk2_cells (heap_set2 ((hb3.block _ (lt_of_heap hM2)).trans hM2) (.int .i64 (best (mkSet zs)).form) (.string (bs (best (mkSet zs)).data)))
    refine bodyPost_ret (v := .tuple #[cv (best (mkSet zs)).form (best (mkSet zs)).data, .int .i64 0]) ?_ rfl ⟨by rw [hmk.out], (hB4.setCell (p := ⟨w.heap.size, 0, none⟩) (Nat.le_refl _) _).setCell (p := ⟨w.heap.size, 1, none⟩) (Nat.le_refl _) _⟩
    simp [results, Tryd.results42, go_sem, cv, hrs.1, hrs.2.1]
end Go.Proofs.YtnigpmbpipmgfaaDoor
