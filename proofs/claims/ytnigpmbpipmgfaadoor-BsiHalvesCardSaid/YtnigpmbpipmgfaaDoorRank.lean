/-
  cont's Rank: how many of a set's numbers are at most n.
-/
import Derived.Test.YtnigpmbpipmgfaaDoorCBase
import Derived.Test.YtnigpmbpipmgfaaDoorIter
namespace Go.Proofs.YtnigpmbpipmgfaaDoor
open Go.RowKit Go.Shelf Tess

theorem nums_rising (s : Nat) : (nums s).Pairwise (· < ·) := by
  unfold nums
  exact List.Pairwise.filter _ (List.pairwise_lt_range)
theorem filter_all_le (l : List Nat) (n : Int) (h : ∀ x ∈ l, (x : Int) ≤ n) : (l.filter fun m : Nat => decide ((m : Int) ≤ n)) = l :=
  List.filter_eq_self.2 fun x hx => by simpa using h x hx
theorem rank_done {s : Nat} {ys : List Nat} {n : Int} (hy : ys = nums s) (h : ∀ x ∈ ys, (x : Int) ≤ n) : rank s n = ys.length := by
  unfold rank
  rw [← hy, filter_all_le ys n h]
theorem rank_stop {s : Nat} {pre : List Nat} {x : Nat} {n : Int} (hp : pre ++ [x] <+: nums s) (h : ∀ y ∈ pre, (y : Int) ≤ n) (hx : n < x) : rank s n = pre.length := by
  obtain ⟨t, ht⟩ := hp
  unfold rank
  have hs := nums_rising s
  rw [← ht] at hs ⊢
  rw [List.filter_append, List.filter_append, filter_all_le pre n h]
  have h1 : ([x].filter fun m : Nat => decide ((m : Int) ≤ n)) = [] := by
    rw [List.filter_eq_nil_iff]
    intro y hy
    simp at hy; subst hy; simp; omega
  have h2 : (t.filter fun m : Nat => decide ((m : Int) ≤ n)) = [] := by
    rw [List.filter_eq_nil_iff]
    intro y hy
    have := (List.pairwise_append.1 hs).2.2 x (by simp) y hy
    simp; omega
  rw [h1, h2]; simp

attribute [local go_sem] Oper.semAt_some

end Go.Proofs.YtnigpmbpipmgfaaDoor
