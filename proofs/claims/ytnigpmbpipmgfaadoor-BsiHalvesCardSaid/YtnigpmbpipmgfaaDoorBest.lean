/-
  cont's best: a set in its best form.
-/
import Derived.LoopN
import Derived.Test.YtnigpmbpipmgfaaDoorAs
namespace Go.Proofs.YtnigpmbpipmgfaaDoor
open Go.RowKit Tess

theorem bs_size (d : List Nat) : (bs d).size = d.length := by show ((d.map UInt8.ofNat).toArray).size = _; simp
theorem blk2_cells {W : World} {k : Nat} {a b : Value} {t : TypeId} (h : W.heap[k]? = some (.cells #[a, b] t (0, 0))) :
    W.cell? ⟨k, 0, none⟩ = some a ∧ W.cell? ⟨k, 1, none⟩ = some b ∧ W.frozen? ⟨k, 0, none⟩ = false ∧ W.frozen? ⟨k, 1, none⟩ = false := by
  refine ⟨?_, ?_, ?_, ?_⟩ <;> simp [World.cell?, World.frozen?, h]

/-- The best so far. -/
def bestTo (s : Nat) : Nat → C
  | 0 => ⟨1, nums s⟩
  | 1 => if (runs s).length < (nums s).length then ⟨3, runs s⟩ else ⟨1, nums s⟩
  | _ => best s
theorem bestTo_one (s : Nat) : bestTo s 1 = if (runs s).length < (bestTo s 0).data.length then ⟨3, runs s⟩ else bestTo s 0 := rfl
theorem bestTo_two (s : Nat) : bestTo s 2 = if (raw s).length < (bestTo s 1).data.length then ⟨2, raw s⟩ else bestTo s 1 := by
  show best s = _
  unfold best bestTo
  simp only [raw_length]

/-- What lies in memory between two rounds. -/
structure BestAt (w wr : World) (bO bS s : Nat) (c : C) : Prop where
  words : Words 113 wr w.heap.size s
  res : wr.heap[w.heap.size + 1]? = some (.cells #[.int .i64 0, .string ⟨#[]⟩] 75 (0, 0))
  row : wr.heap[bS]? = some (.cells #[.int .i64 3, .int .i64 2] 3 (0, 0))
  out : wr.heap[bO]? = some (.cells #[.int .i64 c.form, .string (bs c.data)] 75 (0, 0))
  below : Below w.heap.size w wr
  lo : w.heap.size + 1 < bO
theorem lt_of_heap {W : World} {k : Nat} {o : Obj} (h : W.heap[k]? = some o) : k < W.heap.size := (Array.getElem?_eq_some_iff.1 h).1
theorem BestAt.later {w wr W : World} {bO bS s : Nat} {c : C} (h : BestAt w wr bO bS s c) (hb : Below wr.heap.size wr W) : BestAt w W bO bS s c :=
  ⟨h.words.below hb h.words.lt, (hb.block _ (lt_of_heap h.res)).trans h.res, (hb.block _ (lt_of_heap h.row)).trans h.row, (hb.block _ (lt_of_heap h.out)).trans h.out, h.below.trans (hb.mono h.below.size), h.lo⟩

theorem heap_set2 {W : World} {k : Nat} {a b : Value} {t : TypeId} (h : W.heap[k]? = some (.cells #[a, b] t (0, 0))) (a' b' : Value) :
    ((W.setCell ⟨k, 0, none⟩ a').setCell ⟨k, 1, none⟩ b').heap[k]? = some (.cells #[a', b'] t (0, 0)) := by
  simp [World.setCell, Array.getElem?_modify, h]
theorem BestAt.put {w wr : World} {bO bS s : Nat} {c : C} (h : BestAt w wr bO bS s c) (hS : bS = bO + 1) (c' : C) :
    BestAt w ((wr.setCell ⟨bO, 0, none⟩ (.int .i64 c'.form)).setCell ⟨bO, 1, none⟩ (.string (bs c'.data))) bO bS s c' := by
  have hlo := h.lo
  refine ⟨(h.words.far (p := ⟨bO, 0, none⟩) (by simp; omega) _).far (p := ⟨bO, 1, none⟩) (by simp; omega) _, ?_, ?_, heap_set2 h.out _ _, (h.below.setCell (p := ⟨bO, 0, none⟩) (by simp; omega) _).setCell (p := ⟨bO, 1, none⟩) (by simp; omega) _, hlo⟩
  · exact (Below.heap_setCell _ ⟨bO, 1, none⟩ _ _ (by simp; omega)).trans ((Below.heap_setCell _ ⟨bO, 0, none⟩ _ _ (by simp; omega)).trans h.res)
  · exact (Below.heap_setCell _ ⟨bO, 1, none⟩ _ _ (by simp; omega)).trans ((Below.heap_setCell _ ⟨bO, 0, none⟩ _ _ (by simp; omega)).trans h.row)

set_option maxRecDepth 100000 in
set_option maxHeartbeats 4000000 in
theorem best_any (s : Nat) (w : World) (hT : Tab w) :
    Calls Tryd.prog 76 #[wv s] w fun e W' => e = .returned (cv (best s).form (best s).data) ∧ Below w.heap.size w W' := by
  have hB2 : Below w.heap.size w ((w.alloc (.cells (wcs s) 113)).alloc (.cells #[.int .i64 0, .string ⟨#[]⟩] 75)) := ((Below.refl _ w).alloc (Nat.le_refl _) _).alloc (by simp) _
  have hw2 : Words 113 ((w.alloc (.cells (wcs s) 113)).alloc (.cells #[.int .i64 0, .string ⟨#[]⟩] 75)) w.heap.size s := (Words.new w _ s).alloc _
  have hT2 := hT.below hB2 hT.lt
  have c0 := hw2.cell (i := 0) (by decide)
  have c1 := hw2.cell (i := 1) (by decide)
  have c2 := hw2.cell (i := 2) (by decide)
  have c3 := hw2.cell (i := 3) (by decide)
  have k1 := Lib.hid (as_some (s := s) (form := 1) (d := nums s) rfl _ hT2)
  go_enter Tryd.func76, Tryd.ntmps76
  simp only [wv]
  go_wp2_with fail
  refine (k1.out).mono ?_
  rintro e W1 ⟨rfl, hb1⟩
  have hR := heap_alloc_new (w.alloc (.cells (wcs s) 113)) (.cells #[.int .i64 0, .string ⟨#[]⟩] 75)
  have hs1 := hb1.size
  simp only [World.size_alloc] at hR hs1 hb1
  have hBW := hB2.trans (hb1.mono (by omega))
  have hA : Hid (BestAt w ((W1.alloc (.cells #[.int .i64 1, .string (bs (nums s))] 75)).alloc (.cells #[.int .i64 3, .int .i64 2] 3)) W1.heap.size (W1.heap.size + 1) s (bestTo s 0)) :=
    ⟨((hw2.below hb1 (by omega)).alloc _).alloc _, (Below.heap_alloc _ _ _ (by simp; omega)).trans ((Below.heap_alloc _ _ _ (by omega)).trans ((hb1.block _ (by omega)).trans hR)),
      by have := heap_alloc_new (W1.alloc (.cells #[.int .i64 1, .string (bs (nums s))] 75)) (.cells #[.int .i64 3, .int .i64 2] 3); rwa [World.size_alloc] at this,
      (Below.heap_alloc _ _ _ (by simp)).trans (heap_alloc_new W1 _), (hBW.alloc (by omega) _).alloc (by simp; omega) _, by omega⟩
  clear c0 c1 c2 c3 hR hw2
  simp only [cv]
  go_wp2
  go_loopw [16] (fun i wr => ∃ k : Nat, k ≤ 2 ∧ i = .int .i64 k ∧ Hid (BestAt w wr W1.heap.size (W1.heap.size + 1) s (bestTo s k)))
    (fun i _ => 2 - (intOf i).toNat)
  case atStart => exact ⟨0, by omega, rfl, hA⟩
  case round =>
    obtain ⟨k, hk, rfl, hM⟩ := hrel
    clear hA
    have hTr := hT.below hM.out.below hT.lt
    by_cases hlt : k < 2
    · rcases (show k = 0 ∨ k = 1 by omega) with hkk | hkk
      · have kc := blk2_cells hM.out.row
        have hk0 := Lib.hid hkk
        have hcx : wr.cell? ⟨W1.heap.size + 1, k, none⟩ = some (.int .i64 3) := by rw [hkk]; exact kc.1
        have ks := Lib.hid (as_some (s := s) (form := 3) (d := runs s) rfl wr hTr)
        have c0 := hM.out.words.cell (i := 0) (by decide)
        have c1 := hM.out.words.cell (i := 1) (by decide)
        have c2 := hM.out.words.cell (i := 2) (by decide)
        have c3 := hM.out.words.cell (i := 3) (by decide)
        have hkd : decide ((k : Int) < 2) = true := by simp; omega
        clear hkk kc
        go_wp2_with fail
        refine (ks.out).mono ?_
        rintro e W2 ⟨rfl, hb2⟩
        have hM3 : Hid (BestAt w (W2.alloc (.cells #[.int .i64 3, .string (bs (runs s))] 75)) W1.heap.size (W1.heap.size + 1) s (bestTo s k)) :=
          (hM.out.later hb2).later ((Below.refl _ W2).alloc (Nat.le_refl _) _)
        obtain ⟨o0, o1, g0, g1⟩ := blk2_cells hM3.out.out
        obtain ⟨n0, n1, _, _⟩ := blk2_cells (heap_alloc_new W2 (.cells #[.int .i64 3, .string (bs (runs s))] 75))
        clear c0 c1 c2 c3 hcx
        simp only [cv]
        by_cases hc : (bs (runs s)).size < (bs (bestTo s k).data).size
        · have hcd : decide ((bs (runs s)).size < (bs (bestTo s k).data).size) = true := by simpa using hc
          have hc' := Lib.hid hc
          clear hc
          go_wp2
          go_roundw
          case rel =>
            refine ⟨k + 1, by omega, by go_num, ?_⟩
            have e : bestTo s (k + 1) = ⟨3, runs s⟩ := by rw [hk0.out]; rw [hk0.out] at hc'; rw [bestTo_one, if_pos (by have := hc'.out; rwa [bs_size, bs_size] at this)]
            rw [e]
            exact hM3.out.put rfl ⟨3, runs s⟩
          case measure => simp [intOf]; omega
        · have hcd : decide ((bs (runs s)).size < (bs (bestTo s k).data).size) = false := by simpa using hc
          have hc' := Lib.hid hc
          clear hc
          go_wp2
          go_roundw
          case rel =>
            refine ⟨k + 1, by omega, by go_num, ?_⟩
            have e : bestTo s (k + 1) = bestTo s k := by rw [hk0.out]; rw [hk0.out] at hc'; rw [bestTo_one, if_neg (by have := hc'.out; rwa [bs_size, bs_size] at this)]
            rw [e]
            exact hM3
          case measure => simp [intOf]; omega
      · have kc := blk2_cells hM.out.row
        have hk0 := Lib.hid hkk
        have hcx : wr.cell? ⟨W1.heap.size + 1, k, none⟩ = some (.int .i64 2) := by rw [hkk]; exact kc.2.1
        have ks := Lib.hid (as_some (s := s) (form := 2) (d := raw s) rfl wr hTr)
        have c0 := hM.out.words.cell (i := 0) (by decide)
        have c1 := hM.out.words.cell (i := 1) (by decide)
        have c2 := hM.out.words.cell (i := 2) (by decide)
        have c3 := hM.out.words.cell (i := 3) (by decide)
        have hkd : decide ((k : Int) < 2) = true := by simp; omega
        clear hkk kc
        go_wp2_with fail
        refine (ks.out).mono ?_
        rintro e W2 ⟨rfl, hb2⟩
        have hM3 : Hid (BestAt w (W2.alloc (.cells #[.int .i64 2, .string (bs (raw s))] 75)) W1.heap.size (W1.heap.size + 1) s (bestTo s k)) :=
          (hM.out.later hb2).later ((Below.refl _ W2).alloc (Nat.le_refl _) _)
        obtain ⟨o0, o1, g0, g1⟩ := blk2_cells hM3.out.out
        obtain ⟨n0, n1, _, _⟩ := blk2_cells (heap_alloc_new W2 (.cells #[.int .i64 2, .string (bs (raw s))] 75))
        clear c0 c1 c2 c3 hcx
        simp only [cv]
        by_cases hc : (bs (raw s)).size < (bs (bestTo s k).data).size
        · have hcd : decide ((bs (raw s)).size < (bs (bestTo s k).data).size) = true := by simpa using hc
          have hc' := Lib.hid hc
          clear hc
          go_wp2
          go_roundw
          case rel =>
            refine ⟨k + 1, by omega, by go_num, ?_⟩
            have e : bestTo s (k + 1) = ⟨2, raw s⟩ := by rw [hk0.out]; rw [hk0.out] at hc'; rw [bestTo_two, if_pos (by have := hc'.out; rwa [bs_size, bs_size] at this)]
            rw [e]
            exact hM3.out.put rfl ⟨2, raw s⟩
          case measure => simp [intOf]; omega
        · have hcd : decide ((bs (raw s)).size < (bs (bestTo s k).data).size) = false := by simpa using hc
          have hc' := Lib.hid hc
          clear hc
          go_wp2
          go_roundw
          case rel =>
            refine ⟨k + 1, by omega, by go_num, ?_⟩
            have e : bestTo s (k + 1) = bestTo s k := by rw [hk0.out]; rw [hk0.out] at hc'; rw [bestTo_two, if_neg (by have := hc'.out; rwa [bs_size, bs_size] at this)]
            rw [e]
            exact hM3
          case measure => simp [intOf]; omega
    · have h2 : 2 ≤ k := by omega
      obtain ⟨o0, o1, _, _⟩ := blk2_cells hM.out.out
      obtain ⟨r0, r1, f0, f1⟩ := blk2_cells hM.out.res
      have hlo := hM.out.lo
      have hke := Lib.hid (show k = 2 by omega)
      go_wp2
      have hbk : best s = bestTo s k := by rw [hke.out]; rfl
      have hrs := blk2_cells (heap_set2 hM.out.res (.int .i64 (bestTo s k).form) (.string (bs (bestTo s k).data)))
      refine bodyPost_ret (v := cv (best s).form (best s).data) ?_ rfl ⟨rfl, (hM.out.below.setCell (p := ⟨w.heap.size + 1, 0, none⟩) (Nat.le_succ _) _).setCell (p := ⟨w.heap.size + 1, 1, none⟩) (Nat.le_succ _) _⟩
      rw [hbk]
      simp [results, Tryd.results76, go_sem, cv, hrs.1, hrs.2.1]
end Go.Proofs.YtnigpmbpipmgfaaDoor
