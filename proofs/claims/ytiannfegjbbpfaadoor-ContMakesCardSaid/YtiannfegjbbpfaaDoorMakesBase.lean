/-
  ContMakes: the plain facts and the walk.
-/
import Derived.Test.YtiannfegjbbpfaaDoorRVals
import Derived.Test.YtiannfegjbbpfaaDoorWalkOps
import Derived.Test.YtiannfegjbbpfaaDoorWalkBack
namespace Go.Proofs.YtiannfegjbbpfaaDoor
open Go.RowKit Tess

theorem right_eq (f : Int) (D : ByteArray) : rightRes f D = (ofRes f D).2 := by
  cases hok : (ofRes f D).2 with
  | false => unfold rightRes; rw [hok]; rfl
  | true =>
    cases hq : asOf (readAll f (dn D)) f with
    | none => rw [ofRes_none hq] at hok; cases hok
    | some d =>
      cases hs : sameC f (bs d) f D with
      | false => rw [ofRes_other hq hs] at hok; cases hok
      | true =>
        have := (sameC_iff.1 hs).2
        rw [← this]
        exact (right_as (readTo_lt (dn_get_lt D) _) hq).2
def okR (f : Int) (D : ByteArray) : Bool := (ofRes f D).2
theorem Right_ok (f : Int) (D : ByteArray) (w : World) (hD : D.size ≤ 1000000) (hT : Tab w) :
    Calls Tryd.prog 24 #[.agg #[.int .i64 f, .string D]] w fun e W' => e = .returned (.bool (okR f D)) ∧ Below w.heap.size w W' := by
  have := Right_any f D w hD hT
  rw [right_eq] at this
  exact this
theorem RRight_ok (f : Int) (D : ByteArray) (w : World) (hD : D.size ≤ 1000000) :
    Calls Tryd.prog 31 #[.agg #[.int .i64 f, .string D]] w fun e W' => e = .returned (.bool (okR f D)) ∧ Below w.heap.size w W' := rright_any f D w hD
theorem in_of {f n : Int} {D : ByteArray} (hn : n ≤ 9223372036854775807) : decide (rk f D (IntKind.i64.wrap (n - 1)) < rk f D n) = hi f D n ∧ (hi f D n = true → decide (-1 < n) = true) := by
  by_cases h0 : 0 ≤ n
  · obtain ⟨m, rfl⟩ : ∃ m : Nat, n = m := ⟨n.toNat, by omega⟩
    rw [IntWalk.i64_in _ (by omega)]
    have hs := rank_succ (ofRes f D).1 m
    refine ⟨?_, fun _ => decide_eq_true (by omega)⟩
    unfold rk hi hasI
    rw [hs]
    by_cases hc : m < 256 ∧ (ofRes f D).1.testBit m = true
    · obtain ⟨h1, h2⟩ := hc
      rw [if_pos ⟨h1, h2⟩, decide_eq_true (show (0 : Int) ≤ (m : Int) by omega), decide_eq_true (show (m : Int) < 256 by omega), Int.toNat_natCast, h2]
      exact decide_eq_true (by omega)
    · rw [if_neg hc]
      have e : (decide ((m : Int) < 256) && (ofRes f D).1.testBit m) = false := by
        by_cases h1 : m < 256
        · have h2 : (ofRes f D).1.testBit m = false := by
            cases h : (ofRes f D).1.testBit m
            · rfl
            · exact absurd ⟨h1, h⟩ hc
          simp [h2]
        · simp; intro h; omega
      simp only [Int.toNat_natCast, Bool.and_assoc, e, Bool.and_false]
      simp
  · have e1 : rk f D n = 0 := by unfold rk; rw [rank_neg _ (by omega)]; rfl
    have e2 : hi f D n = false := by unfold hi hasI; rw [decide_eq_false h0]; rfl
    have e3 := (rk_range f D (IntKind.i64.wrap (n - 1))).1
    rw [e1, e2]
    exact ⟨decide_eq_false (by omega), fun h => by cases h⟩
theorem numsI_ci (f : Int) (D : ByteArray) : ci f D = ((numsI f D).length : Int) := by unfold ci numsI count; rw [List.length_map]
theorem sel_get {f p : Int} {D : ByteArray} {k : Nat} (hp : p = k) (hk : k < (numsI f D).length) : selRes (ofRes f D).1 p = ((numsI f D)[k]?.getD 0, true) := by
  subst hp
  obtain ⟨h', e⟩ := numsI_get hk
  have hc : k < count (ofRes f D).1 := h'
  unfold selRes
  rw [if_pos (by omega), e]
  simp [h']
theorem sel_not {f p : Int} {D : ByteArray} (h : ¬ (0 ≤ p ∧ p < ((numsI f D).length : Int))) : selRes (ofRes f D).1 p = (0, false) := by
  rw [← numsI_ci] at h
  unfold ci at h
  exact sel_out (by omega)
theorem cell_later {W W' : World} {a : Addr} {v : Value} (h : W.cell? a = some v) (hb : Below W.heap.size W W') : W'.cell? a = some v := (hb.cell (World.block_lt_of_cell? W a h)).trans h
theorem HI.get {W : World} {p : Option Addr} {cap k : Nat} {L : List Int} (h : HI W (.slice p L.length cap) L) (hk : k < L.length) : ∃ b off, p = some ⟨b, off, none⟩ ∧ W.cell? ⟨b, off + k, none⟩ = some (.int .i64 (L[k]?.getD 0)) := by
  obtain ⟨p', cap', e, hc⟩ := (Hid.out h).slice
  simp only [Value.slice.injEq] at e
  obtain ⟨rfl, _, _⟩ := e
  obtain ⟨b, off, e, _, hx⟩ := hc k hk
  exact ⟨b, off, e, hx⟩
theorem keepM {w W W' : World} {b1 b2 b3 : Nat} {f1 f2 f3 : Int} {D1 D2 D3 : ByteArray} {v : Value} {L : List Int} (hb : Below W.heap.size W W')
    (s1 : Hid (Below w.heap.size w W)) (s2 : Hid (CBox W b1 f1 D1)) (s3 : Hid (CBox W b2 f2 D2)) (s4 : Hid (CBox W b3 f3 D3)) (s5 : HI W v L) :
    Hid (Below w.heap.size w W') ∧ Hid (CBox W' b1 f1 D1) ∧ Hid (CBox W' b2 f2 D2) ∧ Hid (CBox W' b3 f3 D3) ∧ HI W' v L ∧ W'.cell? ⟨b1, 0, none⟩ = some (.int .i64 f1) ∧ W'.cell? ⟨b1, 1, none⟩ = some (.string D1) ∧
      W'.cell? ⟨b2, 0, none⟩ = some (.int .i64 f2) ∧ W'.cell? ⟨b2, 1, none⟩ = some (.string D2) ∧ W'.cell? ⟨b3, 0, none⟩ = some (.int .i64 f3) ∧ W'.cell? ⟨b3, 1, none⟩ = some (.string D3) := by
  have h1 := s2.out.later hb
  have h2 := s3.out.later hb
  have h3 := s4.out.later hb
  have c1 := blk2_cells h1
  have c2 := blk2_cells h2
  have c3 := blk2_cells h3
  exact ⟨Lib.hid (s1.out.trans (hb.mono s1.out.size)), Lib.hid h1, Lib.hid h2, Lib.hid h3, s5.later hb, c1.1, c1.2.1, c2.1, c2.2.1, c3.1, c3.2.1⟩

end Go.Proofs.YtiannfegjbbpfaaDoor
