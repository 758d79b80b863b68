/-
  roar's of: the bitmap of a map's containers.
-/
import Derived.Test.YtnigpmbpipmgfaaDoorMapC
namespace Go.Proofs.YtnigpmbpipmgfaaDoor
open Go.RowKit Tess

theorem cells_three_new (W : World) (a b c : Value) (t : TypeId) : ∀ (j : Nat) (u : Value), [a, b, c][j]? = some u → (W.alloc (.cells #[a, b, c] t)).cell? ((⟨W.heap.size, 0, none⟩ : Addr).add j) = some u := by
  intro j u hu
  match j, hu with
  | 0, hu => simp at hu; subst hu; simp [Addr.add]
  | 1, hu => simp at hu; subst hu; simp [Addr.add]
  | 2, hu => simp at hu; subst hu; simp [Addr.add]
  | j + 3, hu => simp at hu
theorem grown_of_below {W W' : World} (h : Below W.heap.size W W') : W.grownBy W' none := ⟨h.os, h.tape, h.output, h.size, fun k hk _ => h.block k hk⟩
theorem own_later {W W' : World} {base n size : Nat} {e : TypeId} {v : Value} {xs : List Value} (h : W.ownsRow base e size v n xs) (hb : Below W.heap.size W W') : W'.ownsRow base e size v n xs :=
  h.kept (grown_of_below hb) (by cases v.ownBlock <;> simp)

theorem grown_cell (W : World) (p : Addr) (u : Value) : W.grownBy (W.setCell p u) (some p.block) := ⟨rfl, rfl, rfl, by simp, fun k _ hne => Below.heap_setCell W p u k (fun e => hne (by rw [e]))⟩

/-- The slice lies in a block from n on, or nowhere. -/
def Fr (n : Nat) (v : Value) : Prop := ∀ g, v.ownBlock = some g → n ≤ g

/-- What lies in memory while `of` works. -/
structure OfAt7 (w W : World) (v : Value) (l : List Ch) : Prop where
  res : RBox W w.heap.size (.slice none 0 0)
  out : RBox W (w.heap.size + 1) v
  row : W.ownsRow (w.heap.size + 2) 91 3 v l.length (chvs l)
  below : Below w.heap.size w W
theorem OfAt7.later {w wr W : World} {v : Value} {l : List Ch} (h : OfAt7 w wr v l) (hb : Below wr.heap.size wr W) : OfAt7 w W v l :=
  ⟨h.res.later hb, h.out.later hb, own_later h.row hb, h.below.trans (hb.mono h.below.size)⟩
theorem OfAt7.alloc {w wr : World} {v : Value} {l : List Ch} (h : OfAt7 w wr v l) (o : Obj) : OfAt7 w (wr.alloc o) v l := h.later ((Below.refl _ wr).alloc (Nat.le_refl _) _)
theorem OfAt7.start (w : World) : OfAt7 w ((w.alloc (.cells #[.slice none 0 0] 28)).alloc (.cells #[.slice none 0 0] 28)) (.slice none 0 0) [] := by
  have h2 := RBox.new (w.alloc (.cells #[.slice none 0 0] 28)) (.slice none 0 0)
  rw [World.size_alloc] at h2
  exact ⟨(RBox.new w _).alloc _, h2, World.ownsRow_nil _ _ _ _, ((Below.refl _ w).alloc (Nat.le_refl _) _).alloc (by simp) _⟩
/-- One chunk more. -/
theorem OfAt7.appended {w wr W : World} {v v' : Value} {l : List Ch} (h : OfAt7 w wr v l) (x : Ch) (hown : W.ownsRow (w.heap.size + 2) 91 3 v' (l.length + 1) (chvs l ++ [.int .i64 x.key, .int .i64 x.form, .string x.data])) (hg : wr.grownBy W v.ownBlock) :
    OfAt7 w (W.setCell ⟨w.heap.size + 1, 0, none⟩ v') v' (l ++ [x]) := by
  have hne : ∀ g, v.ownBlock = some g → w.heap.size + 2 ≤ g := fun g hg => (h.row.lt g hg).1
  have hne' : ∀ g, v'.ownBlock = some g → w.heap.size + 2 ≤ g := fun g hg => (hown.lt g hg).1
  have r1 := h.res.grown hg (fun e => by have := hne _ e.symm; omega)
  have r2 := h.out.grown hg (fun e => by have := hne _ e.symm; omega)
  refine ⟨r1.far (by show w.heap.size ≠ w.heap.size + 1; omega) _, r2.set _, ?_, (h.below.grown hg h.below.size (fun g hg => by have := hne g hg; omega)).setCell (p := ⟨w.heap.size + 1, 0, none⟩) (Nat.le_succ _) _⟩
  rw [chvs_append, List.length_append]
  refine World.ownsRow.kept hown (grown_cell W ⟨w.heap.size + 1, 0, none⟩ _) ?_
  cases hv : v'.ownBlock with
  | none => left; rfl
  | some g => right; have := hne' g hv; simp; omega

set_option maxRecDepth 100000 in
set_option maxHeartbeats 8000000 in
theorem of7_fr {F : Nat → Option (Int × ByteArray)} {r : Nat} {w : World} (h : MapC w r F) (hsz : ∀ k p, F k = some p → p.2.size ≤ 1000000) (hT : Tab w) :
    Calls Tryd.prog 43 #[.map (some r)] w fun e W' => ∃ v, e = .returned (.agg #[v]) ∧ HC W' v (ofTo F 256) ∧ Below w.heap.size w W' ∧ Fr w.heap.size v := by
  obtain ⟨i0, hi, hz0, hz1, hz2⟩ := info_parts info_chunk
  have hT1 := Tryd.underlying73
  have hK1 := Tryd.underlying3
  have hA0 := Lib.hid (OfAt7.start w)
  have hm := Lib.hid h
  have hsz' := Lib.hid hsz
  clear h hsz
  go_enter Tryd.func43, Tryd.ntmps43
  go_wp2
  go_loopw [7] (fun i wr => ∃ (k : Nat) (v : Value), k ≤ 256 ∧ i = .int .i64 k ∧ Hid (OfAt7 w wr v (ofTo F k)))
    (fun i _ => 256 - (intOf i).toNat)
  case atStart => exact ⟨0, _, Nat.zero_le _, rfl, hA0⟩
  case round =>
    obtain ⟨k, v, hk, rfl, hA⟩ := hrel
    clear hA0
    by_cases hlt : k < 256
    · have hkd : decide ((k : Int) < 256) = true := by simp; omega
      have hmr := hm.out.below hA.out.below hm.out.lt
      cases hF : F k with
      | none =>
        have hlk := hmr.look_none hT1 hK1 zero_cont hF
        have hst := Lib.hid (ofTo_none hF)
        clear hmr hF
        go_wp2
        go_roundw
        case rel => exact ⟨k + 1, v, by omega, by go_num, by rw [hst.out]; exact Lib.hid (hA.out.alloc _)⟩
        case measure => simp [intOf]; omega
      | some p =>
        obtain ⟨f, D⟩ := p
        have hlk := hmr.look_some hT1 hK1 hF
        have hD := hsz'.out _ _ hF
        have hA1 := Lib.hid (hA.out.alloc (.cells #[.int .i64 f, .string D] 75))
        have hx := CBox.new wr f D
        have hcr := ci_range f D
        have hct := Lib.hid (Count_ci f D (wr.alloc (.cells #[.int .i64 f, .string D] 75)) hD (hT.below hA1.out.below hT.lt))
        have hs0 : Hid (¬ 0 < ci f D → ofTo F (k + 1) = ofTo F k) := fun h => ofTo_empty hF h
        have hs1 : Hid (0 < ci f D → ofTo F (k + 1) = ofTo F k ++ [⟨k, f, D⟩]) := fun h => ofTo_more hF h
        clear hmr hF hA
        generalize ci f D = n at hcr hct hs0 hs1
        go_wp2_with fail
        refine (hct.out).mono ?_
        rintro e W2 ⟨rfl, hb2⟩
        have hA2 := Lib.hid (hA1.out.later hb2)
        obtain ⟨d0, d1, -, -⟩ := blk2_cells (hx.later hb2)
        clear hx hct hb2 hlk hA1
        by_cases hn : 0 < n
        · have hn' : decide (0 < n) = true := decide_eq_true hn
          have hst := Lib.hid (hs1.out hn)
          have hol := ofTo_len F k
          have hrow := hA2.out.row
          have oc := hA2.out.out.cell
          have hsz2 := Lib.hid hA2.out.out.lt
          generalize ofTo F k = l at hA2 hst hol hrow
          clear hs0 hs1 hn
          go_wp2_with (at_builtin; refine wpList_append_own _ rfl _ _ 26 rfl (w.heap.size + 2) 91 i0 (.agg #[.int .i64 0, .int .i64 0, .string ⟨#[]⟩]) 3 32 Tryd.underlying26 hi hz0 hz1 hz2 rfl (by decide) _ _ _ rfl (hrow.alloc _) ⟨W2.heap.size, 0, none⟩ 1 1 [.int .i64 (k : Int), .int .i64 f, .string D] rfl rfl (cells_three_new _ _ _ _ _) (by simp [Value.oneCell']) (by unfold maxLen; omega) (by omega) (by have := hsz2.out; simp; omega) ?_; intro v' w1 hown' hgrow _; have oc1 := ((hA2.out.alloc (.cells #[.int .i64 (k : Int), .int .i64 f, .string D] 91)).out.grown hgrow (fun e => by have := (hrow.lt _ e.symm).1; omega)).cell; have of1 := ((hA2.out.alloc (.cells #[.int .i64 (k : Int), .int .i64 f, .string D] 91)).out.grown hgrow (fun e => by have := (hrow.lt _ e.symm).1; omega)).frozen; obtain ⟨g', cap', rfl⟩ := ownsRow_succ hown')
          go_roundw
          case rel => exact ⟨k + 1, _, by omega, by go_num, Lib.hid (by rw [hst.out]; exact (hA2.out.alloc (.cells #[.int .i64 (k : Int), .int .i64 f, .string D] 91)).appended ⟨k, f, D⟩ hown' hgrow)⟩
          case measure => simp [intOf]; omega
        · have hn' : decide (0 < n) = false := decide_eq_false hn
          have hst := Lib.hid (hs0.out (by omega))
          clear hs0 hs1 hn
          go_wp2
          go_roundw
          case rel => exact ⟨k + 1, v, by omega, by go_num, by rw [hst.out]; exact hA2⟩
          case measure => simp [intOf]; omega
    · have hkd : decide ((k : Int) < 256) = false := by simp; omega
      obtain rfl : k = 256 := by omega
      have oc := hA.out.out.cell
      have rc := hA.out.res.cell
      have rf := hA.out.res.frozen
      have hfin := HC.of_row hA.out.row
      obtain ⟨p, cap, rfl, -, -⟩ := Hid.out hfin
      have hfin' := Lib.hid hfin
      clear hfin
      go_wp2
      have hB := (Below.refl wr.heap.size wr)
      refine bodyPost_ret (v := .agg #[.slice p (ofTo F 256).length cap]) ?_ rfl ⟨_, rfl, ?_, hA.out.below.setCell (p := ⟨w.heap.size, 0, none⟩) (Nat.le_refl _) _, fun g hg => by have := (hA.out.row.lt g hg).1; omega⟩
      case refine_2 => exact HC.of_row ((hA.out.row).kept (grown_cell wr ⟨w.heap.size, 0, none⟩ _) (by
        cases hv : Value.ownBlock (.slice p (ofTo F 256).length cap) with
        | none => left; rfl
        | some g => right; have := (hA.out.row.lt g hv).1; simp; omega))
      have hrs := (hA.out.res.set (.slice p (ofTo F 256).length cap)).cell
      simp [results, Tryd.results43, go_sem, hrs]
theorem of7_any {F : Nat → Option (Int × ByteArray)} {r : Nat} {w : World} (h : MapC w r F) (hsz : ∀ k p, F k = some p → p.2.size ≤ 1000000) (hT : Tab w) :
    Calls Tryd.prog 43 #[.map (some r)] w fun e W' => ∃ v, e = .returned (.agg #[v]) ∧ HC W' v (ofTo F 256) ∧ Below w.heap.size w W' :=
  (of7_fr h hsz hT).mono fun _ _ ⟨v, h1, h2, h3, _⟩ => ⟨v, h1, h2, h3⟩
end Go.Proofs.YtnigpmbpipmgfaaDoor
