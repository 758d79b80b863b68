/-
  For the seats above cont (Roar, Bsi): boxes of containers; slices of ints; what Make, Flip answer. (What Shown2, LawFlips, WalkFlips, WalkParts hold of it, without tesseraelaw06.)
-/
import Derived.Test.YtnigpmbpipmgfaaDoorCount
namespace Go.Proofs.YtnigpmbpipmgfaaDoor
open Go.RowKit Tess

theorem info_int : (Tryd.prog.info? 3).map (fun i => (i.zero, i.size, i.bytes)) = some (some (.int .i64 0), 1, 8) := by kernel_rfl
/-- A container in a box of its own. -/
def CBox (W : World) (b : Nat) (f : Int) (D : ByteArray) : Prop := W.heap[b]? = some (.cells #[.int .i64 f, .string D] 75 (0, 0))
theorem CBox.new (W : World) (f : Int) (D : ByteArray) : CBox (W.alloc (.cells #[.int .i64 f, .string D] 75)) W.heap.size f D := heap_alloc_new W _
theorem CBox.lt {W : World} {b : Nat} {f : Int} {D : ByteArray} (h : CBox W b f D) : b < W.heap.size := lt_of_heap h
theorem CBox.below {W W' : World} {b B : Nat} {f : Int} {D : ByteArray} (h : CBox W b f D) (hb : Below B W W') (hB : b < B) : CBox W' b f D := (hb.block b hB).trans h
theorem CBox.later {W W' : World} {b : Nat} {f : Int} {D : ByteArray} (h : CBox W b f D) (hb : Below W.heap.size W W') : CBox W' b f D := h.below hb h.lt
theorem CBox.alloc {W : World} {b : Nat} {f : Int} {D : ByteArray} (h : CBox W b f D) (o : Obj) : CBox (W.alloc o) b f D := h.later ((Below.refl _ W).alloc (Nat.le_refl _) _)

theorem CBox.grown {W W' : World} {b : Nat} {row : Option Nat} {f : Int} {D : ByteArray} (h : CBox W b f D) (hg : W.grownBy W' row) (hne : some b ≠ row) : CBox W' b f D := (hg.block b h.lt hne).trans h

theorem ints_of_row {W : World} {base n : Nat} {v : Value} {zs : List Int} {xs : List Value} (h : W.ownsRow base 3 1 v n xs) (hx : xs = zs.map (Value.int .i64)) : Ints W.heap.size W v zs := by
  subst hx
  obtain ⟨hl, ⟨rfl, rfl⟩ | ⟨g, cap, cur, rfl, _, hg, hn, hc, hs, ht⟩⟩ := h
  · left
    exact ⟨⟨_, rfl⟩, List.length_eq_zero_iff.1 (by simpa using hl)⟩
  · right
    have hzl : zs.length = n := by simpa using hl
    subst hzl
    refine ⟨g, 0, cap, rfl, lt_of_heap hg, fun j hj => ?_⟩
    have e : cur[j]? = some (.int .i64 (zs[j]?.getD 0)) := by
      have h1 : (cur.toList.take (zs.length * 1))[j]? = (zs.map (Value.int .i64))[j]? := by rw [ht]
      rw [List.getElem?_take_of_lt (by omega)] at h1
      simpa [hj] using h1
    simp [World.cell?, hg, e]
theorem row_cap {W : World} {base n : Nat} {e : TypeId} {k : Nat} {v : Value} {xs : List Value} (h : W.ownsRow base e k v n xs) : ∀ p m c, v = .slice p m c → m ≤ c := by
  intro p m c hv
  obtain ⟨_, ⟨rfl, _⟩ | ⟨g, cap, cur, rfl, _, _, hn, _⟩⟩ := h
  · cases hv; exact Nat.le_refl _
  · cases hv; exact hn

theorem ofRes_best {s : Nat} (hs : s < big) : ofRes (best s).form (bs (best s).data) = (s, true) := by
  unfold ofRes
  rw [dn_bs (asOf_lt (best_as s)), ofC_best hs]
theorem ofRes_zero : ofRes 0 (bs []) = (0, false) := by decide +kernel
theorem mkSet_lt {zs : List Int} (h : zs.any badI = false) : mkSet zs < big := by
  refine putAll_lt (by decide +kernel) ?_
  intro x hx
  obtain ⟨z, hz, rfl⟩ := List.mem_map.1 hx
  have := badI_false h z hz
  omega
theorem mkRes_cases (zs : List Int) : (mkRes zs = (⟨0, []⟩, 60)) ∨ (∃ s, s < big ∧ mkRes zs = (best s, 0) ∧ zs.any badI = false ∧ s = mkSet zs) := by
  unfold mkRes
  cases h : zs.any badI with
  | true => left; rfl
  | false => right; exact ⟨_, mkSet_lt h, rfl, rfl, rfl⟩
theorem mkRes_len (zs : List Int) : (bs (mkRes zs).1.data).size ≤ 1000000 := by
  rw [bs_size]
  rcases mkRes_cases zs with h | ⟨s, _, h, _⟩ <;> rw [h]
  · decide
  · have := best_length_le s; show (best s).data.length ≤ _; omega
theorem flRes_len (f : Int) (D : ByteArray) (a b : Int) : (bs (flRes f D a b).1.data).size ≤ 1000000 := by
  rw [bs_size]
  unfold flRes
  split
  · have := best_length_le (turnTo (ofRes f D).1 a.toNat (b - a).toNat); show (best _).data.length ≤ _; omega
  · decide

/-- What Flip refuses. -/
theorem flips_bad {zs : List Int} {a b : Int} (h : (mkRes zs).2 ≠ 0 ∨ a < 0 ∨ b < 0 ∨ 256 < a ∨ 256 < b) : (flRes (mkRes zs).1.form (bs (mkRes zs).1.data) a b).2 = 60 := by
  unfold flRes
  rw [if_neg]
  rintro ⟨h1, h2⟩
  rcases mkRes_cases zs with hm | ⟨s, hs, hm, _⟩
  · rw [hm] at h1
    change (ofRes 0 (bs [])).2 = true at h1
    rw [ofRes_zero] at h1; cases h1
  · rw [hm] at h
    unfold badSpan at h2
    simp at h2
    simp at h
    omega
/-- What Flip does, and that twice it is nothing. -/
theorem flips_good {zs : List Int} {a b : Int} (h0 : (mkRes zs).2 = 0) (h : 0 ≤ a ∧ 0 ≤ b ∧ a ≤ 256 ∧ b ≤ 256) :
    (flRes (mkRes zs).1.form (bs (mkRes zs).1.data) a b).2 = 0 ∧
    flRes (flRes (mkRes zs).1.form (bs (mkRes zs).1.data) a b).1.form (bs (flRes (mkRes zs).1.form (bs (mkRes zs).1.data) a b).1.data) a b = mkRes zs := by
  rcases mkRes_cases zs with hm | ⟨s, hs, hm, _⟩
  · rw [hm] at h0; cases h0
  · rw [hm]
    have hsp : badSpan a b = false := by
      unfold badSpan; simp; omega
    have hkk : a.toNat + (b - a).toNat ≤ 256 := by omega
    have e1 : flRes (best s).form (bs (best s).data) a b = (best (turnTo s a.toNat (b - a).toNat), 0) := by
      unfold flRes; rw [ofRes_best hs]; rw [if_pos ⟨rfl, hsp⟩]
    have hs2 : turnTo s a.toNat (b - a).toNat < big := turnTo_lt hs hkk
    have e2 : flRes (best (turnTo s a.toNat (b - a).toNat)).form (bs (best (turnTo s a.toNat (b - a).toNat)).data) a b = (best s, 0) := by
      unfold flRes; rw [ofRes_best hs2]; rw [if_pos ⟨rfl, hsp⟩]; show (best (turnTo (turnTo s _ _) _ _), _) = _; rw [turnTo_twice hs hkk]
    show (flRes (best s).form (bs (best s).data) a b).2 = 0 ∧ _
    constructor
    · rw [e1]
    · show flRes (flRes (best s).form (bs (best s).data) a b).1.form (bs (flRes (best s).form (bs (best s).data) a b).1.data) a b = _
      rw [e1]; exact e2
theorem below_box {n₀ : Nat} {w A W : World} (hB : Below n₀ w A) (hA : n₀ ≤ A.heap.size) (hb : Below A.heap.size A W) (o : Obj) : Below n₀ w (W.alloc o) :=
  (hB.trans (hb.mono hA)).alloc (Nat.le_trans hA hb.size) o

/-- Boxes that hold containers. -/
def Boxes (W : World) (l : List (Nat × Int × ByteArray)) : Prop := ∀ x ∈ l, CBox W x.1 x.2.1 x.2.2
theorem Boxes.later {W W' : World} {l : List (Nat × Int × ByteArray)} (h : Boxes W l) (hb : Below W.heap.size W W') : Boxes W' l := fun x hx => (h x hx).later hb
theorem Boxes.more {W W' : World} {l : List (Nat × Int × ByteArray)} (h : Boxes W l) (hb : Below W.heap.size W W') (f : Int) (D : ByteArray) :
    Boxes (W'.alloc (.cells #[.int .i64 f, .string D] 75)) ((W'.heap.size, f, D) :: l) := by
  intro x hx
  rcases List.mem_cons.1 hx with rfl | hx
  · exact CBox.new W' f D
  · exact ((h x hx).later hb).alloc _
theorem Boxes.none (W : World) : Boxes W [] := fun x hx => by cases hx
end Go.Proofs.YtnigpmbpipmgfaaDoor
