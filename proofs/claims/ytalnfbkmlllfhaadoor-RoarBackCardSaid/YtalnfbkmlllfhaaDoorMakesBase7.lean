/-
  RoarMakes: the plain facts.
-/
import Derived.Test.YtalnfbkmlllfhaaDoorRMake7
import Derived.Test.YtalnfbkmlllfhaaDoorRVals7
import Derived.Test.YtalnfbkmlllfhaaDoorFew7
namespace Go.Proofs.YtalnfbkmlllfhaaDoor
open Go.RowKit Tess

/-- Is n among these? -/
def anyN (V : List Nat) (n : Int) : Bool := V.any fun m => (m : Int) == n
theorem val_yes {l : List Ch} (h : rightL l = true) : valL l = allN l := by unfold valL; rw [if_pos h]
theorem val_no {l : List Ch} (h : rightL l = false) : valL l = [] := by unfold valL; rw [h]; rfl
theorem cnt_val (l : List Ch) : cntL l = ((valL l).length : Int) := by
  cases h : rightL l
  · rw [val_no h]; unfold cntL; rw [h]; rfl
  · rw [val_yes h, cntL_all h]
theorem rank_val (l : List Ch) (n : Int) : rnkL l n = (leN (valL l) n : Int) := by
  cases h : rightL l
  · rw [val_no h]; unfold rnkL; rw [h]; rfl
  · rw [val_yes h, rnkL_all h]
theorem has_val (l : List Ch) (n : Int) : hasL l n = anyN (valL l) n := by
  cases h : rightL l
  · rw [val_no h]; unfold hasL; rw [h]; rfl
  · rw [val_yes h, hasL_all h]
    unfold anyN
    by_cases hm : 0 ≤ n ∧ n.toNat ∈ allN l
    · rw [decide_eq_true hm]
      exact (List.any_eq_true.2 ⟨n.toNat, hm.2, by simp; omega⟩).symm
    · rw [decide_eq_false hm]
      symm
      rw [List.any_eq_false]
      intro m hm2 he
      have he' : (m : Int) = n := by simpa using he
      exact hm ⟨by omega, by rw [← he', Int.toNat_natCast]; exact hm2⟩
theorem sel_val_in {l : List Ch} {p : Int} {k : Nat} (hp : p = k) (hk : k < (valL l).length) : selL l p = (((((valL l)[k]?.getD 0 : Nat)) : Int), true) := by
  subst hp
  cases h : rightL l with
  | false => rw [val_no h] at hk; cases hk
  | true =>
    rw [val_yes h] at hk ⊢
    unfold selL
    rw [if_pos ⟨h, by omega⟩]
    exact selF_in (by omega) (rightF_of h) hk
theorem sel_val_out {l : List Ch} {p : Int} (hp : p < 0 ∨ ((valL l).length : Int) ≤ p) : selL l p = (0, false) := by
  cases h : rightL l with
  | false => unfold selL; rw [if_neg (by rw [h]; rintro ⟨h1, _⟩; cases h1)]
  | true =>
    refine selL_bad h ?_
    rw [cnt_val]; exact hp
theorem val_len {l : List Ch} : (valL l).length ≤ 65536 := by
  cases h : rightL l
  · rw [val_no h]; exact Nat.zero_le _
  · rw [val_yes h, allN_bits h]
    have := List.length_filter_le (bitL l) (List.range 65536)
    rwa [List.length_range] at this
theorem leN_step {V : List Nat} {k : Nat} (h : k < V.length) (n : Int) : leN (V.take (k + 1)) n = leN (V.take k) n + (if ((V[k] : Nat) : Int) ≤ n then 1 else 0) := by
  rw [List.take_succ_eq_append_getElem h, leN_append]
  congr 1
  unfold leN
  by_cases e : ((V[k] : Nat) : Int) ≤ n
  · rw [if_pos e]; simp [e]
  · rw [if_neg e]; simp; omega
theorem anyN_step {V : List Nat} {k : Nat} (h : k < V.length) (n : Int) : anyN (V.take (k + 1)) n = (anyN (V.take k) n || ((V[k] : Nat) : Int) == n) := by
  unfold anyN
  rw [List.take_succ_eq_append_getElem h, List.any_append]; simp
theorem leN_le (V : List Nat) (n : Int) : leN V n ≤ V.length := List.length_filter_le _ _
/-- A slice of naturals in memory. -/
theorem nats_open {W : World} {v : Value} {V : List Nat} (h : HI W v (V.map Int.ofNat)) : ∃ p c, v = .slice p V.length c ∧ ∀ j (hj : j < V.length), ∃ b off, p = some ⟨b, off, none⟩ ∧ b < W.heap.size ∧ W.cell? ⟨b, off + j, none⟩ = some (.int .i64 ((V[j] : Nat) : Int)) := by
  rcases Hid.out h with ⟨⟨p, rfl⟩, he⟩ | ⟨b, off, cap, rfl, hb, hc⟩
  · have : V = [] := by simpa using he
    subst this
    exact ⟨p, 0, rfl, fun j hj => by cases hj⟩
  · refine ⟨_, _, by rw [List.length_map], fun j hj => ⟨b, off, rfl, hb, ?_⟩⟩
    rw [hc j (by rw [List.length_map]; exact hj)]
    simp [hj]
/-- What holds through a call in the last region. -/
theorem mk_keep {w W W' : World} {L : List (Nat × Value × List Ch)} {v : Value} {zs : List Int} {C : World → Prop} (hC : Hid (∀ W W', C W → Below W.heap.size W W' → C W')) (hb : Below W.heap.size W W') (h1 : Hid (Below w.heap.size w W)) (h2 : Hid (RBs W L)) (h3 : HI W v zs) (h4 : C W) :
    Hid (Below w.heap.size w W') ∧ Hid (RBs W' L) ∧ HI W' v zs ∧ C W' :=
  ⟨Lib.hid (h1.out.trans (hb.mono h1.out.size)), Lib.hid (h2.out.later hb), h3.later hb, hC.out _ _ h4 hb⟩
end Go.Proofs.YtalnfbkmlllfhaaDoor
