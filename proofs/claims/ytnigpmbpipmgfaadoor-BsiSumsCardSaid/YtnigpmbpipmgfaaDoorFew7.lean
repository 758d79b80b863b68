/-
  The law's Few: a bitmap of at most twenty chunks, cut.
-/
import Derived.Test.YtnigpmbpipmgfaaDoorBoxes7
import Derived.Test.YtnigpmbpipmgfaaDoorSame7
namespace Go.Proofs.YtnigpmbpipmgfaaDoor
open Go.RowKit Tess

/-- A string's first 260 bytes. -/
def cutD (D : ByteArray) : ByteArray := if D.size ≤ 260 then D else D.extract 0 260
theorem cutD_size (D : ByteArray) : (cutD D).size ≤ 260 := by
  unfold cutD
  split
  · assumption
  · rw [ByteArray.size_extract]; omega
def cutCh (x : Ch) : Ch := ⟨x.key, x.form, cutD x.data⟩
/-- What Few answers. -/
def fewL (l : List Ch) : List Ch := (l.take 20).map cutCh
theorem fewL_small (l : List Ch) : Small (fewL l) := by
  refine ⟨by unfold fewL; rw [List.length_map, List.length_take]; omega, fun x hx => ?_⟩
  obtain ⟨y, _, rfl⟩ := List.mem_map.1 hx
  exact Nat.le_trans (cutD_size _) (by decide)
theorem fewL_len (l : List Ch) : (fewL l).length ≤ 20 := by unfold fewL; rw [List.length_map, List.length_take]; omega
theorem take_cut {l : List Ch} {k : Nat} (h : k < l.length) : (l.take (k + 1)).map cutCh = (l.take k).map cutCh ++ [⟨l[k].key, l[k].form, cutD l[k].data⟩] := by
  rw [List.take_succ_eq_append_getElem h, List.map_append]; rfl
theorem KBox.set {W : World} {b : Nat} {k f : Int} {D : ByteArray} (h : KBox W b ⟨k, f, D⟩) (D' : ByteArray) : KBox (W.setCell ⟨b, 2, none⟩ (.string D')) b ⟨k, f, D'⟩ := by
  unfold KBox at h ⊢
  simp [World.setCell, Array.getElem?_modify, h]

set_option maxRecDepth 100000 in
set_option maxHeartbeats 8000000 in
theorem fewR_fr {l : List Ch} {v : Value} {w : World} (h : HC w v l) :
    Calls Tryd.prog 26 #[.agg #[v]] w fun e W' => ∃ v', e = .returned (.agg #[v']) ∧ HC W' v' (fewL l) ∧ Below w.heap.size w W' ∧ Fr w.heap.size v' := by
  obtain ⟨i0, hi, hz0, hz1, hz2⟩ := info_parts info_chunk
  have hR := Lib.hid (RB.new h)
  have hB := Lib.hid ((Below.refl w.heap.size w).alloc (Nat.le_refl _) (.cells #[v] 28))
  have hA0 := Lib.hid (OfAt7.start (w.alloc (.cells #[v] 28)))
  obtain ⟨p, cap, rfl, hcap, -⟩ := Hid.out h
  clear h
  have hw1 : (w.alloc (.cells #[.slice p l.length cap] 28)).heap.size = w.heap.size + 1 := by simp
  go_enter Tryd.func26, Tryd.ntmps26
  go_wp2
  go_loopw [4] (fun i wr => ∃ (k : Nat) (v : Value), k ≤ l.length ∧ k ≤ 20 ∧ i = .int .i64 k ∧ Hid (OfAt7 (w.alloc (.cells #[.slice p l.length cap] 28)) wr v ((l.take k).map cutCh)))
    (fun i _ => 20 - (intOf i).toNat)
  case atStart => exact ⟨0, _, Nat.zero_le _, Nat.zero_le _, rfl, hA0⟩
  case round =>
    obtain ⟨k, v, hk, hk2, rfl, hA⟩ := hrel
    clear hA0
    have hR1 := hR.out.later hA.out.below
    have hx := hR1.box.cell
    have oc0 := hA.out.out.cell
    have of0 := hA.out.out.frozen
    by_cases hlt : k < l.length
    · have hkd : decide ((k : Int) < (l.length : Int)) = true := by simp; omega
      have hkd' : decide (k < l.length) = true := by simpa using hlt
      by_cases hlt2 : k < 20
      · have hke : decide ((k : Int) < 20) = true := by simp; omega
        obtain ⟨p', cap', hpe, -, hc⟩ := Hid.out hR1.chs
        simp only [Value.slice.injEq] at hpe
        obtain ⟨rfl, -, rfl⟩ := hpe
        obtain ⟨b, off, rfl, hb, y1, y2, y3⟩ := hc k hlt
        have hst := Lib.hid (take_cut hlt)
        clear hc hR1
        generalize l[k] = x at y1 y2 y3 hst
        obtain ⟨ky, f, D⟩ := x
        simp only at y1 y2 y3 hst
        have hA2 := Lib.hid (hA.out.alloc (.cells #[.int .i64 ky, .int .i64 f, .string (cutD D)] 91))
        obtain ⟨e0, e1, e2⟩ := (KBox.new wr ⟨ky, f, cutD D⟩).cells
        have hlen : ((l.take k).map cutCh).length = k := by rw [List.length_map, List.length_take]; omega
        have hcut : Hid (cutD D = if D.size ≤ 260 then D else D.extract 0 260) := rfl
        have hrow := hA2.out.row
        have oc := hA2.out.out.cell
        have of := hA2.out.out.frozen
        rw [hlen] at hrow
        have hsz2 := Lib.hid hA2.out.out.lt
        have hlen' := Lib.hid hlen
        clear hlen
        generalize (l.take k).map cutCh = L2 at hA2 hst hrow hlen'
        generalize cutD D = D2 at hA2 e0 e1 e2 hst hrow oc of hsz2 hcut
        have hnew := cells_three_new (wr.alloc (.cells #[.int .i64 ky, .int .i64 f, .string D2] 91)) (.int .i64 ky) (.int .i64 f) (.string D2) 91
        rw [World.size_alloc] at hnew
        have hnew' := Lib.hid hnew
        rw [hw1] at oc of oc0 of0
        simp only at e0 e1 e2
        clear hnew hA
        by_cases h260 : D.size ≤ 260
        · have hm0 : min (D.size : Int) 260 = (D.size : Int) := by omega
          have hex : D.extract 0 D.size = D := by simp
          obtain rfl : D2 = D := by have := hcut.out; rwa [if_pos h260] at this
          go_wp2_with (at_builtin; refine wpList_append_own _ rfl _ _ 26 rfl ((w.alloc (.cells #[.slice (some ⟨b, off, none⟩) l.length cap] 28)).heap.size + 2) 91 i0 (.agg #[.int .i64 0, .int .i64 0, .string ⟨#[]⟩]) 3 32 Tryd.underlying26 hi hz0 hz1 hz2 rfl (by decide) _ _ _ rfl (hrow.alloc _) ⟨wr.heap.size + 1, 0, none⟩ 1 1 [.int .i64 ky, .int .i64 f, .string _] rfl rfl hnew'.out (by simp [Value.oneCell']) (by unfold maxLen; omega) (by omega) (by have := hsz2.out; simp at this; simp; omega) ?_; intro v' w1 hown' hgrow _; have hF := (hA2.out.alloc (.cells #[.int .i64 ky, .int .i64 f, .string _] 91)).out.grown hgrow (fun e => by have := (hrow.lt _ e.symm).1; omega); have oc1 := hF.cell; have of1 := hF.frozen; rw [hw1] at oc1 of1; obtain ⟨g', cap', rfl⟩ := ownsRow_succ hown')
          have hApp := (hA2.out.alloc (.cells #[.int .i64 ky, .int .i64 f, .string _] 91)).appended ⟨ky, f, _⟩ (by rw [hlen'.out]; exact hown') hgrow
          rw [hw1] at hApp
          exact ⟨⟨k + 1, _, by omega, by omega, by push_cast; rfl, by rw [hst.out]; exact Lib.hid hApp⟩, by simp [intOf]; omega⟩
        · have hm0 : min (D.size : Int) 260 = 260 := by omega
          have g2 : (260 : Int) ≤ (D.size : Int) := by omega
          obtain rfl : D2 = D.extract 0 260 := by have := hcut.out; rwa [if_neg h260] at this
          go_wp2_with (at_builtin; refine wpList_append_own _ rfl _ _ 26 rfl ((w.alloc (.cells #[.slice (some ⟨b, off, none⟩) l.length cap] 28)).heap.size + 2) 91 i0 (.agg #[.int .i64 0, .int .i64 0, .string ⟨#[]⟩]) 3 32 Tryd.underlying26 hi hz0 hz1 hz2 rfl (by decide) _ _ _ rfl (hrow.alloc _) ⟨wr.heap.size + 1, 0, none⟩ 1 1 [.int .i64 ky, .int .i64 f, .string _] rfl rfl hnew'.out (by simp [Value.oneCell']) (by unfold maxLen; omega) (by omega) (by have := hsz2.out; simp at this; simp; omega) ?_; intro v' w1 hown' hgrow _; have hF := (hA2.out.alloc (.cells #[.int .i64 ky, .int .i64 f, .string _] 91)).out.grown hgrow (fun e => by have := (hrow.lt _ e.symm).1; omega); have oc1 := hF.cell; have of1 := hF.frozen; rw [hw1] at oc1 of1; obtain ⟨g', cap', rfl⟩ := ownsRow_succ hown')
          have hApp := (hA2.out.alloc (.cells #[.int .i64 ky, .int .i64 f, .string _] 91)).appended ⟨ky, f, _⟩ (by rw [hlen'.out]; exact hown') hgrow
          rw [hw1] at hApp
          exact ⟨⟨k + 1, _, by omega, by omega, by push_cast; rfl, by rw [hst.out]; exact Lib.hid hApp⟩, by simp [intOf]; omega⟩
      · have hke : decide ((k : Int) < 20) = false := by simp; omega
        obtain rfl : k = 20 := by omega
        have rc := hA.out.res.cell
        have rf := hA.out.res.frozen
        have hfew : Hid ((l.take 20).map cutCh = fewL l) := by show _ = _; unfold fewL; rfl
        have hfin := HC.of_row hA.out.row
        obtain ⟨pp, cc, rfl, -, -⟩ := Hid.out hfin
        have hfin' := Lib.hid hfin
        clear hfin
        generalize (l.take 20).map cutCh = L2 at hA hfew hfin' oc0
        rw [hw1] at oc0 of0 rc rf
        go_wp2
        refine bodyPost_ret (v := .agg #[.slice pp L2.length cc]) ?_ rfl ⟨_, rfl, ?_, hB.out.trans ((hA.out.below.setCell (p := ⟨w.heap.size + 1, 0, none⟩) (by rw [hw1]; exact Nat.le_refl _) _).mono hB.out.size), fun g hg => by have := (hA.out.row.lt g hg).1; rw [hw1] at this; omega⟩
        case refine_2 => rw [← hfew.out]; exact HC.of_row ((hA.out.row).kept (grown_cell wr ⟨w.heap.size + 1, 0, none⟩ _) (by
          cases hv : Value.ownBlock (.slice pp L2.length cc) with
          | none => left; rfl
          | some g => right; have := (hA.out.row.lt g hv).1; rw [hw1] at this; simp; omega))
        have hrs := (hA.out.res.set (.slice pp L2.length cc)).cell
        rw [hw1] at hrs
        simp [results, Tryd.results26, go_sem, hrs]
    · have hkd : decide ((k : Int) < (l.length : Int)) = false := by simp; omega
      have hkd' : decide (k < l.length) = false := by simpa using hlt
      have rc := hA.out.res.cell
      have rf := hA.out.res.frozen
      have hfew : Hid ((l.take k).map cutCh = fewL l) := by show _ = _; unfold fewL; rw [List.take_of_length_le (by omega), List.take_of_length_le (by omega)]
      have hfin := HC.of_row hA.out.row
      obtain ⟨pp, cc, rfl, -, -⟩ := Hid.out hfin
      have hfin' := Lib.hid hfin
      clear hfin
      generalize (l.take k).map cutCh = L2 at hA hfew hfin' oc0
      rw [hw1] at oc0 of0 rc rf
      go_wp2
      refine bodyPost_ret (v := .agg #[.slice pp L2.length cc]) ?_ rfl ⟨_, rfl, ?_, hB.out.trans ((hA.out.below.setCell (p := ⟨w.heap.size + 1, 0, none⟩) (by rw [hw1]; exact Nat.le_refl _) _).mono hB.out.size), fun g hg => by have := (hA.out.row.lt g hg).1; rw [hw1] at this; omega⟩
      case refine_2 => rw [← hfew.out]; exact HC.of_row ((hA.out.row).kept (grown_cell wr ⟨w.heap.size + 1, 0, none⟩ _) (by
        cases hv : Value.ownBlock (.slice pp L2.length cc) with
        | none => left; rfl
        | some g => right; have := (hA.out.row.lt g hv).1; rw [hw1] at this; simp; omega))
      have hrs := (hA.out.res.set (.slice pp L2.length cc)).cell
      rw [hw1] at hrs
      simp [results, Tryd.results26, go_sem, hrs]
theorem fewR_any {l : List Ch} {v : Value} {w : World} (h : HC w v l) :
    Calls Tryd.prog 26 #[.agg #[v]] w fun e W' => ∃ v', e = .returned (.agg #[v']) ∧ HC W' v' (fewL l) ∧ Below w.heap.size w W' :=
  (fewR_fr h).mono fun _ _ ⟨v, h1, h2, h3, _⟩ => ⟨v, h1, h2, h3⟩
end Go.Proofs.YtnigpmbpipmgfaaDoor
