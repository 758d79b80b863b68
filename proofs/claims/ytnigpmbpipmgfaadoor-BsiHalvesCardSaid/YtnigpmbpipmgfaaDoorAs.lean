/-
  cont's as: a set in a form.
-/
import Derived.WalkKit
import Derived.WalkLawsBesides
import Derived.WalkSpells
import Derived.Laws.IdiomStrings
import Derived.Lib.Hide
import Derived.Test.YtnigpmbpipmgfaaDoorForms
import Derived.Test.YtnigpmbpipmgfaaDoorMapFn
namespace Go.Proofs.YtnigpmbpipmgfaaDoor
open Go.RowKit Tess

/-- Bytes, as a string. -/
def bs (d : List Nat) : ByteArray := ⟨(d.map UInt8.ofNat).toArray⟩
/-- A container as a value. -/
def cv (form : Int) (d : List Nat) : Value := .agg #[.int .i64 form, .string (bs d)]

theorem string_back {P : Program} {w : World} {src dst e : TypeId} {base : Nat} {et : TypeId} {v : Value} {d : List Nat} (hs : P.underlying src = some (.slice e)) (he : P.underlying e = some (.int .u8)) (hd : P.underlying dst = some .string)
    (h : w.ownsRow base et 1 v d.length (d.map bv)) (hb : ∀ x ∈ d, x < 256) : (convert src dst v).run P w = .ok (.string (bs d)) w := by
  rcases h.2 with ⟨rfl, h0⟩ | ⟨g, cap, cur, rfl, _, _⟩
  · have : d = [] := List.eq_nil_of_length_eq_zero h0
    subst this
    rw [Go.run_convert_bytes_string w src dst e none 0 0 hs he hd]
    rfl
  · have := Go.run_convert_bytes_back (P := P) w src dst e ⟨g, 0, none⟩ cap (d.map UInt8.ofNat) hs he hd (fun j hj => by
      have hj' : j < d.length := by simpa using hj
      have hc := h.cells (g := g) rfl j (bv d[j]) (by rw [List.getElem?_map, List.getElem?_eq_getElem hj']; rfl)
      rw [hc]
      have := hb _ (List.getElem_mem hj')
      simp [bv]
      omega)
    rw [List.length_map] at this
    exact this

/-- A block of two cells, ahead of another. -/
theorem blk2_new (w : World) (a b : Value) (t : TypeId) (o : Obj) : ((w.alloc (.cells #[a, b] t)).alloc o).heap[w.heap.size]? = some (.cells #[a, b] t (0, 0)) :=
  (Below.heap_alloc _ _ _ (by simp)).trans (heap_alloc_new w _)
theorem blk2_below {W W' : World} {B k : Nat} {a b : Value} {t : TypeId} (h : W.heap[k]? = some (.cells #[a, b] t (0, 0))) (hb : Below B W W') (hk : k < B := by simp) :
    W'.cell? ⟨k, 0, none⟩ = some a ∧ W'.cell? ⟨k, 1, none⟩ = some b ∧ W'.frozen? ⟨k, 0, none⟩ = false ∧ W'.frozen? ⟨k, 1, none⟩ = false := by
  have h' := (hb.block k hk).trans h
  refine ⟨?_, ?_, ?_, ?_⟩ <;> simp [World.cell?, World.frozen?, h']

theorem zero_fn (w : World) : (zeroValue 145).run Tryd.prog w = .ok .nilFunc w := by kernel_rfl

set_option maxRecDepth 100000 in
set_option maxHeartbeats 2000000 in
/-- of no form: none. -/
theorem as_none (s : Nat) (form : Int) (w : World) (h1 : form ≠ 1) (h2 : form ≠ 2) (h3 : form ≠ 3) :
    Calls Tryd.prog 101 #[wv s, .int .i64 form] w fun e W' => e = .returned (.tuple #[cv 0 [], .bool false]) ∧ Below w.heap.size w W' := by
  have hmm := @run_makeMap Tryd.prog
  obtain ⟨i1, i2, i3⟩ := insert3 (P := Tryd.prog) (T := 146) ((w.alloc (.cells (wcs s) 113)).alloc (.cells #[.int .i64 0, .string ⟨#[]⟩] 75)) 111 112 113 Tryd.underlying146 Tryd.underlying3
  have i4 := look3_none (P := Tryd.prog) (T := 146) ((w.alloc (.cells (wcs s) 113)).alloc (.cells #[.int .i64 0, .string ⟨#[]⟩] 75)) 111 112 113 form _ Tryd.underlying146 Tryd.underlying3 zero_fn h1 h2 h3
  simp only [World.size_alloc] at i1 i2 i3 i4
  go_enter Tryd.func101, Tryd.ntmps101
  simp only [wv]
  go_wp2
  exact bodyPost_ret (v := .tuple #[cv 0 [], .bool false]) (by simp [results, Tryd.results101, go_sem, cv, bs]) rfl ⟨rfl, ((((Below.refl _ w).alloc (Nat.le_refl _) _).alloc (by simp) _).alloc (by simp; omega) _)⟩

theorem raw_lt (s : Nat) : ∀ x ∈ raw s, x < 256 := by
  intro x hx
  obtain ⟨i, _, rfl⟩ := List.mem_map.1 hx
  exact byteAt_lt s i

set_option maxRecDepth 100000 in
set_option maxHeartbeats 2000000 in
theorem as_array (s : Nat) (w : World) (hT : Tab w) :
    Calls Tryd.prog 101 #[wv s, .int .i64 1] w fun e W' => e = .returned (.tuple #[cv 1 (nums s), .bool true]) ∧ Below w.heap.size w W' := by
  have hmm := @run_makeMap Tryd.prog
  obtain ⟨i1, i2, i3⟩ := insert3 (P := Tryd.prog) (T := 146) ((w.alloc (.cells (wcs s) 113)).alloc (.cells #[.int .i64 0, .string ⟨#[]⟩] 75)) 111 112 113 Tryd.underlying146 Tryd.underlying3
  have i4 := look3 (P := Tryd.prog) (T := 146) ((w.alloc (.cells (wcs s) 113)).alloc (.cells #[.int .i64 0, .string ⟨#[]⟩] 75)) 111 112 113 Tryd.underlying146 Tryd.underlying3
  have i5 := i4.1
  clear i4
  simp only [World.size_alloc] at i1 i2 i3 i5
  have hB3 : Below w.heap.size w (((w.alloc (.cells (wcs s) 113)).alloc (.cells #[.int .i64 0, .string ⟨#[]⟩] 75)).alloc (.map (fn3 111 112 113) 3)) := (((Below.refl _ w).alloc (Nat.le_refl _) _).alloc (by simp) _).alloc (by simp; omega) _
  have hw3 : Words 113 (((w.alloc (.cells (wcs s) 113)).alloc (.cells #[.int .i64 0, .string ⟨#[]⟩] 75)).alloc (.map (fn3 111 112 113) 3)) w.heap.size s := ((Words.new w _ s).alloc _).alloc _
  have c0 := hw3.cell (i := 0) (by decide)
  have c1 := hw3.cell (i := 1) (by decide)
  have c2 := hw3.cell (i := 2) (by decide)
  have c3 := hw3.cell (i := 3) (by decide)
  have hT3 := hT.below hB3 hT.lt
  have hcon := Lib.hid (array_any s _ hT3)
  have hr3 := Lib.hid (blk2_new ((w.alloc (.cells (wcs s) 113))) (.int .i64 0) (.string ⟨#[]⟩) 75 (.map (fn3 111 112 113) 3))
  go_enter Tryd.func101, Tryd.ntmps101
  simp only [wv]
  go_wp2_with (go_at_call 111; refine (hcon.out).mono ?_; rintro e W4 ⟨v, rfl, hown, hb4⟩; have hsv := string_back Tryd.underlying148 Tryd.underlying5 Tryd.underlying9 hown (fun x hx => (mem_nums.1 hx).1); obtain ⟨r0, r1, f0, f1⟩ := blk2_below hr3.out hb4; simp only [World.size_alloc] at r0 r1 f0 f1)
  have hB4 := hB3.trans (hb4.mono (by simp; omega))
  refine bodyPost_ret (v := .tuple #[cv 1 (nums s), .bool true]) ?_ rfl ⟨rfl, (hB4.setCell (p := ⟨w.heap.size + 1, 0, none⟩) (Nat.le_succ _) _).setCell (p := ⟨w.heap.size + 1, 1, none⟩) (Nat.le_succ _) _⟩
  have q0 := World.cell?_setCell_same' W4 ⟨w.heap.size + 1, 0, none⟩ (.int .i64 1) (by rw [r0]; rfl)
  simp [results, Tryd.results101, go_sem, cv, r0, r1]

set_option maxRecDepth 100000 in
set_option maxHeartbeats 2000000 in
theorem as_raw (s : Nat) (w : World) :
    Calls Tryd.prog 101 #[wv s, .int .i64 2] w fun e W' => e = .returned (.tuple #[cv 2 (raw s), .bool true]) ∧ Below w.heap.size w W' := by
  have hmm := @run_makeMap Tryd.prog
  obtain ⟨i1, i2, i3⟩ := insert3 (P := Tryd.prog) (T := 146) ((w.alloc (.cells (wcs s) 113)).alloc (.cells #[.int .i64 0, .string ⟨#[]⟩] 75)) 111 112 113 Tryd.underlying146 Tryd.underlying3
  have i4 := look3 (P := Tryd.prog) (T := 146) ((w.alloc (.cells (wcs s) 113)).alloc (.cells #[.int .i64 0, .string ⟨#[]⟩] 75)) 111 112 113 Tryd.underlying146 Tryd.underlying3
  have i5 := i4.2.1
  clear i4
  simp only [World.size_alloc] at i1 i2 i3 i5
  have hB3 : Below w.heap.size w (((w.alloc (.cells (wcs s) 113)).alloc (.cells #[.int .i64 0, .string ⟨#[]⟩] 75)).alloc (.map (fn3 111 112 113) 3)) := (((Below.refl _ w).alloc (Nat.le_refl _) _).alloc (by simp) _).alloc (by simp; omega) _
  have hw3 : Words 113 (((w.alloc (.cells (wcs s) 113)).alloc (.cells #[.int .i64 0, .string ⟨#[]⟩] 75)).alloc (.map (fn3 111 112 113) 3)) w.heap.size s := ((Words.new w _ s).alloc _).alloc _
  have c0 := hw3.cell (i := 0) (by decide)
  have c1 := hw3.cell (i := 1) (by decide)
  have c2 := hw3.cell (i := 2) (by decide)
  have c3 := hw3.cell (i := 3) (by decide)
  have hcon := Lib.hid (raw_any s (((w.alloc (.cells (wcs s) 113)).alloc (.cells #[.int .i64 0, .string ⟨#[]⟩] 75)).alloc (.map (fn3 111 112 113) 3)))
  have hr3 := Lib.hid (blk2_new ((w.alloc (.cells (wcs s) 113))) (.int .i64 0) (.string ⟨#[]⟩) 75 (.map (fn3 111 112 113) 3))
  go_enter Tryd.func101, Tryd.ntmps101
  simp only [wv]
  go_wp2_with (go_at_call 112; refine (hcon.out).mono ?_; rintro e W4 ⟨v, rfl, hown, hb4⟩; have hsv := string_back Tryd.underlying148 Tryd.underlying5 Tryd.underlying9 hown (raw_lt s); obtain ⟨r0, r1, f0, f1⟩ := blk2_below hr3.out hb4; simp only [World.size_alloc] at r0 r1 f0 f1)
  have hB4 := hB3.trans (hb4.mono (by simp; omega))
  refine bodyPost_ret (v := .tuple #[cv 2 (raw s), .bool true]) ?_ rfl ⟨rfl, (hB4.setCell (p := ⟨w.heap.size + 1, 0, none⟩) (Nat.le_succ _) _).setCell (p := ⟨w.heap.size + 1, 1, none⟩) (Nat.le_succ _) _⟩
  have q0 := World.cell?_setCell_same' W4 ⟨w.heap.size + 1, 0, none⟩ (.int .i64 2) (by rw [r0]; rfl)
  simp [results, Tryd.results101, go_sem, cv, r0, r1]

set_option maxRecDepth 100000 in
set_option maxHeartbeats 2000000 in
theorem as_runs (s : Nat) (w : World) (hT : Tab w) :
    Calls Tryd.prog 101 #[wv s, .int .i64 3] w fun e W' => e = .returned (.tuple #[cv 3 (runs s), .bool true]) ∧ Below w.heap.size w W' := by
  have hmm := @run_makeMap Tryd.prog
  obtain ⟨i1, i2, i3⟩ := insert3 (P := Tryd.prog) (T := 146) ((w.alloc (.cells (wcs s) 113)).alloc (.cells #[.int .i64 0, .string ⟨#[]⟩] 75)) 111 112 113 Tryd.underlying146 Tryd.underlying3
  have i4 := look3 (P := Tryd.prog) (T := 146) ((w.alloc (.cells (wcs s) 113)).alloc (.cells #[.int .i64 0, .string ⟨#[]⟩] 75)) 111 112 113 Tryd.underlying146 Tryd.underlying3
  have i5 := i4.2.2
  clear i4
  simp only [World.size_alloc] at i1 i2 i3 i5
  have hB3 : Below w.heap.size w (((w.alloc (.cells (wcs s) 113)).alloc (.cells #[.int .i64 0, .string ⟨#[]⟩] 75)).alloc (.map (fn3 111 112 113) 3)) := (((Below.refl _ w).alloc (Nat.le_refl _) _).alloc (by simp) _).alloc (by simp; omega) _
  have hw3 : Words 113 (((w.alloc (.cells (wcs s) 113)).alloc (.cells #[.int .i64 0, .string ⟨#[]⟩] 75)).alloc (.map (fn3 111 112 113) 3)) w.heap.size s := ((Words.new w _ s).alloc _).alloc _
  have c0 := hw3.cell (i := 0) (by decide)
  have c1 := hw3.cell (i := 1) (by decide)
  have c2 := hw3.cell (i := 2) (by decide)
  have c3 := hw3.cell (i := 3) (by decide)
  have hT3 := hT.below hB3 hT.lt
  have hcon := Lib.hid (runs_any s _ hT3)
  have hr3 := Lib.hid (blk2_new ((w.alloc (.cells (wcs s) 113))) (.int .i64 0) (.string ⟨#[]⟩) 75 (.map (fn3 111 112 113) 3))
  go_enter Tryd.func101, Tryd.ntmps101
  simp only [wv]
  go_wp2_with (go_at_call 113; refine (hcon.out).mono ?_; rintro e W4 ⟨v, rfl, hown, hb4⟩; have hsv := string_back Tryd.underlying148 Tryd.underlying5 Tryd.underlying9 hown (runsAt s).small; obtain ⟨r0, r1, f0, f1⟩ := blk2_below hr3.out hb4; simp only [World.size_alloc] at r0 r1 f0 f1)
  have hB4 := hB3.trans (hb4.mono (by simp; omega))
  refine bodyPost_ret (v := .tuple #[cv 3 (runs s), .bool true]) ?_ rfl ⟨rfl, (hB4.setCell (p := ⟨w.heap.size + 1, 0, none⟩) (Nat.le_succ _) _).setCell (p := ⟨w.heap.size + 1, 1, none⟩) (Nat.le_succ _) _⟩
  have q0 := World.cell?_setCell_same' W4 ⟨w.heap.size + 1, 0, none⟩ (.int .i64 3) (by rw [r0]; rfl)
  simp [results, Tryd.results101, go_sem, cv, r0, r1]

/-- **as(w, form)** -/
theorem as_some {s : Nat} {form : Int} {d : List Nat} (h : asOf s form = some d) (w : World) (hT : Tab w) :
    Calls Tryd.prog 101 #[wv s, .int .i64 form] w fun e W' => e = .returned (.tuple #[cv form d, .bool true]) ∧ Below w.heap.size w W' := by
  unfold asOf at h
  split at h
  · rename_i hf; subst hf; cases h; exact as_array s w hT
  · split at h
    · rename_i hf; subst hf; cases h; exact as_raw s w
    · split at h
      · rename_i hf; subst hf; cases h; exact as_runs s w hT
      · cases h
theorem asOf_none {s : Nat} {form : Int} (h : asOf s form = none) : form ≠ 1 ∧ form ≠ 2 ∧ form ≠ 3 := by
  unfold asOf at h
  split at h
  · cases h
  · split at h
    · cases h
    · split at h
      · cases h
      · exact ⟨by assumption, by assumption, by assumption⟩
theorem asOf_lt {s : Nat} {form : Int} {d : List Nat} (h : asOf s form = some d) : ∀ x ∈ d, x < 256 := by
  unfold asOf at h
  split at h
  · cases h; exact fun x hx => (mem_nums.1 hx).1
  · split at h
    · cases h; exact raw_lt s
    · split at h
      · cases h; exact (runsAt s).small
      · cases h
end Go.Proofs.YtnigpmbpipmgfaaDoor
