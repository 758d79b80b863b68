/-
  Numbers parted by their keys: the plain side of roar's Make.
-/
import Derived.Maps.OwnRows
import Derived.Maps.RangeWalk
import Derived.Test.YtnigpmbpipmgfaaDoorFlip7
namespace Go.Proofs.YtnigpmbpipmgfaaDoor
open Go.RowKit Go.Maps Go.ChangeShapes Tess

theorem i64_and255 (n : Int) : bits .and .i64 n 255 = n % 256 := by
  have h255 : (BitVec.ofInt 64 255).toNat = 2 ^ 8 - 1 := by decide
  have key : (BitVec.ofInt 64 n &&& BitVec.ofInt 64 255).toNat = (n % ((2 ^ 64 : Nat) : Int)).toNat % 2 ^ 8 := by
    rw [BitVec.toNat_and, BitVec.toNat_ofInt, h255, Nat.and_two_pow_sub_one_eq_mod]
  show IntKind.i64.wrap ((BitVec.ofInt 64 n &&& BitVec.ofInt 64 255).toNat : Nat) = n % 256
  rw [key, IntKind.wrap_i64]
  omega

/-- The numbers of a key, their low bytes. -/
def G (l : List Int) (m : Int) : List Int := (l.filter fun z => z / 256 == m).map (· % 256)
theorem G_yes {l : List Int} {z m : Int} (h : z / 256 = m) : G (l ++ [z]) m = G l m ++ [z % 256] := by
  unfold G; rw [List.filter_append, List.map_append]; simp [h]
theorem G_no {l : List Int} {z m : Int} (h : z / 256 ≠ m) : G (l ++ [z]) m = G l m := by
  unfold G; rw [List.filter_append]; simp [h]
theorem G_range {l : List Int} {m : Int} : ∀ x ∈ G l m, 0 ≤ x ∧ x < 256 := by
  intro x hx
  obtain ⟨z, _, rfl⟩ := List.mem_map.1 hx
  omega
theorem G_len (l : List Int) (m : Int) : (G l m).length ≤ l.length := by
  unfold G; rw [List.length_map]; exact List.length_filter_le _ _
theorem G_good (l : List Int) (m : Int) : (G l m).any badI = false := by
  rw [List.any_eq_false]
  intro x hx
  have := G_range x hx
  unfold badI; simp; omega
theorem mkRes_G (l : List Int) (m : Int) : mkRes (G l m) = (best (mkSet (G l m)), 0) := by unfold mkRes; rw [G_good]; rfl
/-- Is a number out of range? -/
def badR (n : Int) : Bool := decide (n < 0) || decide (65535 < n)
/-- The sets of numbers. -/
def mkM (zs : List Int) (k : Nat) : Nat := mkSet (G zs k)
theorem mkM_lt (zs : List Int) (k : Nat) : mkM zs k < big := mkSet_lt (G_good zs k)
/-- What Make answers. -/
def mkL (zs : List Int) : List Ch × Int := if zs.any badR = true then ([], 70) else (canon (mkM zs), 0)
theorem mkL_bad {zs : List Int} (h : zs.any badR = true) : mkL zs = ([], 70) := by unfold mkL; rw [if_pos h]
theorem mkL_good {zs : List Int} (h : zs.any badR = false) : mkL zs = (canon (mkM zs), 0) := by unfold mkL; rw [h]; rfl
theorem badR_step {zs : List Int} {k : Nat} (h : k < zs.length) : (zs.take (k + 1)).any badR = ((zs.take k).any badR || badR (zs[k]?.getD 0)) := by
  rw [List.take_succ_eq_append_getElem h, List.any_append]; simp [h]

theorem lits_inj {H : Type} {a b : List Int} (h : lits (H := H) .i64 a = lits .i64 b) : a = b := (List.map_inj_right (fun x y hxy => by cases hxy; rfl)).1 h
/-- D HOLDS THE PARTS OF l. -/
structure GD (D : DataW Unit) (l : List Int) : Prop where
  isMap : IsMap D
  there : ∀ m : Int, Maps.has D (.int .i64 m) = true → D.atKey (.int .i64 m) .nil = .slice (lits .i64 (G l m)) [] ∧ 0 ≤ m ∧ m < 256
  none : ∀ m : Int, Maps.has D (.int .i64 m) = false → G l m = []
theorem GD.start : GD (.map []) [] := ⟨isMap_empty, fun m h => by simp [Maps.has] at h, fun m _ => rfl⟩
theorem isKey_int (m : Int) : WideAt.IsKeyLit (.int .i64 m) := by simp [WideAt.IsKeyLit]
/-- What a look-up has handed over. -/
theorem GD.at_ {D : DataW Unit} {l : List Int} (h : GD D l) {w : World} {base : Nat} {e : TypeId} {m : Int} {v : Value} {zs : List Int} (hat : D.atKey (.int .i64 m) .nil = rowDatum .i64 v zs) (hoi : w.ownsInts base e .i64 v zs) : zs = G l m := by
  cases hh : Maps.has D (.int .i64 m) with
  | true =>
    rw [(h.there m hh).1] at hat
    rcases hoi.datum (H := Unit) with ⟨h1, _⟩ | h1
    · rw [h1] at hat; cases hat
    · rw [h1] at hat
      simp only [DataW.slice.injEq] at hat
      exact (lits_inj hat.1).symm
  | false =>
    rw [h.none m hh]
    rw [atKey_of_not_has hh] at hat
    rcases hoi.datum (H := Unit) with ⟨_, h2⟩ | h1
    · exact h2
    · rw [h1] at hat; cases hat
theorem GD.step {D : DataW Unit} {l : List Int} (h : GD D l) {z : Int} (hz : 0 ≤ z ∧ z ≤ 65535) : GD (D.put (.int .i64 (z / 256)) (.slice (lits .i64 (G l (z / 256) ++ [z % 256])) [])) (l ++ [z]) := by
  refine ⟨h.isMap.put _ _, fun m hm => ?_, fun m hm => ?_⟩
  · by_cases he : z / 256 = m
    · subst he
      rw [atKey_put_same h.isMap (isKey_int _), G_yes rfl]
      exact ⟨rfl, by omega, by omega⟩
    · have hne : Lit.int .i64 m ≠ Lit.int .i64 (z / 256) := by intro e; simp at e; exact he e.symm
      rw [has_put_other hne] at hm
      rw [atKey_put_other hne, G_no he]
      exact h.there m hm
  · by_cases he : z / 256 = m
    · subst he
      rw [has_put_same h.isMap (isKey_int _)] at hm; cases hm
    · have hne : Lit.int .i64 m ≠ Lit.int .i64 (z / 256) := by intro e; simp at e; exact he e.symm
      rw [has_put_other hne] at hm
      rw [G_no he]
      exact h.none m hm

/-- The containers that have been made: of the keys that are there, and no longer to come. -/
def madeF (D : DataW Unit) (zs : List Int) (left : Lit → Bool) : Nat → Option (Int × ByteArray) := fun k =>
  if Maps.has D (.int .i64 (k : Int)) = true ∧ left (.int .i64 (k : Int)) = false then some ((best (mkM zs k)).form, bs (best (mkM zs k)).data) else none
theorem madeF_start (D : DataW Unit) (zs : List Int) : madeF D zs (Maps.has D) = fun _ => none := by
  funext k; unfold madeF; rw [if_neg]; rintro ⟨h1, h2⟩; rw [h1] at h2; cases h2
theorem madeF_at {D : DataW Unit} {zs : List Int} {left : Lit → Bool} {k : Nat} (h : left (.int .i64 (k : Int)) = true) : madeF D zs left k = none := by
  unfold madeF; rw [if_neg]; rintro ⟨_, h2⟩; rw [h] at h2; cases h2
theorem madeF_put {D : DataW Unit} {zs : List Int} {left : Lit → Bool} {k : Nat} (hh : Maps.has D (.int .i64 (k : Int)) = true) :
    putF (madeF D zs left) k ((best (mkM zs k)).form, bs (best (mkM zs k)).data) = madeF D zs (fun z => left z && !z.sameKey (.int .i64 (k : Int))) := by
  funext j
  unfold putF madeF
  by_cases h : j = k
  · subst h
    rw [if_pos rfl, if_pos]
    refine ⟨hh, ?_⟩
    have : (Lit.int .i64 (j : Int)).sameKey (.int .i64 (j : Int)) = true := WideAt.sameKey_self (isKey_int _)
    show (left _ && !(Lit.int .i64 (j : Int)).sameKey (.int .i64 (j : Int))) = false
    rw [this]; simp
  · rw [if_neg h]
    have hne : Lit.int .i64 (j : Int) ≠ Lit.int .i64 (k : Int) := by intro e; simp at e; omega
    have : (Lit.int .i64 (j : Int)).sameKey (.int .i64 (k : Int)) = false := sameKey_ne hne
    simp only [this, Bool.not_false, Bool.and_true]
theorem madeF_end {D : DataW Unit} {zs : List Int} (h : GD D zs) {left : Lit → Bool} (hl : ∀ kl, left kl = false) : ofTo (madeF D zs left) 256 = canon (mkM zs) := by
  refine ofTo_canon (fun k _ => mkM_lt zs k) fun k _ => ?_
  unfold madeF
  cases hh : Maps.has D (.int .i64 (k : Int)) with
  | true => left; rw [if_pos ⟨rfl, hl _⟩]
  | false =>
    right
    refine ⟨(by rw [if_neg]; rintro ⟨h1, _⟩; cases h1), ?_⟩
    unfold mkM
    rw [h.none _ hh]; rfl
theorem madeF_size (D : DataW Unit) (zs : List Int) (left : Lit → Bool) : ∀ k p, madeF D zs left k = some p → p.2.size ≤ 1000000 := by
  intro k p h
  unfold madeF at h
  split at h
  · cases h
    show (bs (best (mkM zs k)).data).size ≤ _
    rw [bs_size]; exact Nat.le_trans (best_length_le _) (by decide)
  · cases h
end Go.Proofs.YtnigpmbpipmgfaaDoor
