/-
  Words for memory: a variable of four words that holds a set; a slice that reads as numbers, as bytes. Over any program.
-/
import Derived.Below
import Derived.Laws.OwnMore
import Derived.Laws.Rows
import Derived.Deep.Draws
import Derived.RangeFuncBox
import Derived.Laws.BitsAllLaws
import Derived.Test.YtnigpmbpipmgfaaDoorPSets
namespace Go.Proofs.YtnigpmbpipmgfaaDoor
open Go.RowKit Tess

/-- Word i of the set, as it stands in memory. -/
def lv (s i : Nat) : Value := .int .u64 (limb s i : Int)
/-- The four words. -/
def wcs (s : Nat) : Array Value := #[lv s 0, lv s 1, lv s 2, lv s 3]
/-- The set as a value. -/
def wv (s : Nat) : Value := .agg (wcs s)
theorem wcs_size (s : Nat) : (wcs s).size = 4 := rfl
theorem wcs_get (s : Nat) {i : Nat} (hi : i < 4) : (wcs s)[i]? = some (lv s i) := by
  match i, hi with
  | 0, _ => rfl
  | 1, _ => rfl
  | 2, _ => rfl
  | 3, _ => rfl

/-- BLOCK b IS A VARIABLE OF FOUR WORDS (type t) THAT HOLDS s. -/
def Words (t : TypeId) (w : World) (b s : Nat) : Prop := w.heap[b]? = some (.cells (wcs s) t (0, 0))
section
variable {t : TypeId} {w w' : World} {b s : Nat}
theorem Words.lt (h : Words t w b s) : b < w.heap.size := (Array.getElem?_eq_some_iff.1 h).1
theorem Words.cell (h : Words t w b s) {i : Nat} (hi : i < 4) : w.cell? ⟨b, i, none⟩ = some (.int .u64 (limb s i : Int)) := by
  rw [cell_of_row w b i _ t (0, 0) h, wcs_get s hi]; rfl
theorem Words.frozen (h : Words t w b s) (i : Nat) : w.frozen? ⟨b, i, none⟩ = false := by
  unfold Words at h
  simp [World.frozen?, h]
theorem Words.new (w : World) (t : TypeId) (s : Nat) : Words t (w.alloc (.cells (wcs s) t)) w.heap.size s := heap_alloc_new w _
theorem Words.alloc (h : Words t w b s) (o : Obj) : Words t (w.alloc o) b s := (Below.heap_alloc w o b h.lt).trans h
theorem Words.drew (h : Words t w b s) : Words t w.drew b s := h
theorem Words.below {B : Nat} (h : Words t w b s) (hb : Below B w w') (hB : b < B) : Words t w' b s := (hb.block b hB).trans h
theorem Words.grown {row : Option Nat} (h : Words t w b s) (hg : w.grownBy w' row) (hne : some b ≠ row) : Words t w' b s := (hg.block b h.lt hne).trans h
theorem Words.far (h : Words t w b s) {p : Addr} (hp : b ≠ p.block) (u : Value) : Words t (w.setCell p u) b s := (Below.heap_setCell w p u b hp).trans h
theorem Words.set_ (h : Words t w b s) {i s' : Nat} (hi : i < 4) (hs : ∀ j, j < 4 → limb s' j = if j = i then limb s' i else limb s j) :
    Words t (w.setCell ⟨b, i, none⟩ (.int .u64 (limb s' i : Int))) b s' := by
  unfold Words at h ⊢
  have e : (wcs s).setIfInBounds i (.int .u64 (limb s' i : Int)) = wcs s' := by
    match i, hi with
    | 0, _ => have h1 := hs 1 (by decide); have h2 := hs 2 (by decide); have h3 := hs 3 (by decide); simp at h1 h2 h3; simp [wcs, lv, h1, h2, h3]
    | 1, _ => have h1 := hs 0 (by decide); have h2 := hs 2 (by decide); have h3 := hs 3 (by decide); simp at h1 h2 h3; simp [wcs, lv, h1, h2, h3]
    | 2, _ => have h1 := hs 0 (by decide); have h2 := hs 1 (by decide); have h3 := hs 3 (by decide); simp at h1 h2 h3; simp [wcs, lv, h1, h2, h3]
    | 3, _ => have h1 := hs 0 (by decide); have h2 := hs 1 (by decide); have h3 := hs 2 (by decide); simp at h1 h2 h3; simp [wcs, lv, h1, h2, h3]
  simp [World.setCell, Array.getElem?_modify, h, e]
end

/-- THE SLICE VALUE sv HOLDS THE ints zs, in a block below n₀; or it is empty. -/
def Ints (n₀ : Nat) (W : World) (sv : Value) (zs : List Int) : Prop :=
  ((∃ p, sv = .slice p 0 0) ∧ zs = []) ∨ ∃ b off cap, sv = .slice (some ⟨b, off, none⟩) zs.length cap ∧ b < n₀ ∧ ∀ j, j < zs.length → W.cell? ⟨b, off + j, none⟩ = some (.int .i64 (zs[j]?.getD 0))
theorem Ints.below {n₀ n₁ : Nat} {A B : World} (h : Below n₁ A B) (hn : n₀ ≤ n₁) {sv : Value} {zs : List Int} : Ints n₀ A sv zs → Ints n₀ B sv zs
  | .inl e => .inl e
  | .inr ⟨b, off, cap, e, hb, hc⟩ => .inr ⟨b, off, cap, e, hb, fun j hj => (h.cell (p := ⟨b, off + j, none⟩) (Nat.lt_of_lt_of_le hb hn)).trans (hc j hj)⟩
theorem Ints.more {n₀ n₁ : Nat} {A : World} (hn : n₀ ≤ n₁) {sv : Value} {zs : List Int} : Ints n₀ A sv zs → Ints n₁ A sv zs
  | .inl e => .inl e
  | .inr ⟨b, off, cap, e, hb, hc⟩ => .inr ⟨b, off, cap, e, Nat.lt_of_lt_of_le hb hn, hc⟩

/-! ## a word's arithmetic, in the walk's spelling -/
theorem two_pow_lt {k : Nat} (h : k < 64) : 2 ^ k < 18446744073709551616 := Nat.lt_of_lt_of_le (Nat.pow_lt_pow_right (by decide) h) (by decide)
theorem word_or {x k : Nat} (hx : x < 18446744073709551616) (hk : k < 64) : bits .or .u64 (x : Int) ((2 ^ k : Nat) : Int) = ((x ||| 2 ^ k : Nat) : Int) := u64_or_nat x _ hx (two_pow_lt hk)
theorem word_xor {x k : Nat} (hx : x < 18446744073709551616) (hk : k < 64) : bits .xor .u64 (x : Int) ((2 ^ k : Nat) : Int) = ((x ^^^ 2 ^ k : Nat) : Int) := u64_xor_nat x _ hx (two_pow_lt hk)
end Go.Proofs.YtnigpmbpipmgfaaDoor
