/-
  strings.Builder's methods at this program: copyCheck, WriteByte, WriteString, Write, String. (The walks are the library's own, turned to this program: its copyCheck is another there.)
-/
import Derived.Lib.Builder
import Derived.Lib.OthersKept
import Derived.Lib.AppendStr
import Derived.Lib.UnsafeStr
import Derived.Lib.Walk
import Derived.Laws.Externs
import Derived.Shelf.Strings.Builder1
import Derived.Test.YtalnfbkmlllfhaaDoorBmB
namespace Go.Proofs.YtalnfbkmlllfhaaDoor
open Go.RowKit Tess

theorem sizeBuilder : (Tryd.prog.info? 87).map (·.size) = some 2 := by kernel_rfl
theorem liesBuilder : liesAt Tryd.prog Tryd.prog.depth 87 (2 / Tryd.prog.cellsOf 87) 0 87 1 = true := by kernel_rfl

theorem copyCheck_used (b : Nat) (w : World) (h0 : w.cell? ⟨b, 0, none⟩ = some (.pointer (some ⟨b, 0, none⟩))) :
    Calls Tryd.prog 83 #[.pointer (some ⟨b, 0, none⟩)] w fun e w' => e = .returned (.tuple #[]) ∧ w = w' := by
  obtain ⟨j, hj, _⟩ := Option.map_eq_some_iff.1 sizeBuilder
  have hn := Lib.run_neq_ptr_same w ⟨b, 0, none⟩ Tryd.underlying84 hj
  go_enter Tryd.func83, Tryd.ntmps83
  go_wp2
  go_end0
  exact ⟨rfl, rfl⟩
set_option maxHeartbeats 1000000 in
theorem copyCheck_fresh (b : Nat) (w : World) (h0 : w.cell? ⟨b, 0, none⟩ = some (.pointer none)) (hsh : w.shape? b = some (87, 2)) (hfz : w.frozen? ⟨b, 0, none⟩ = false) :
    Calls Tryd.prog 83 #[.pointer (some ⟨b, 0, none⟩)] w fun e w' => e = .returned (.tuple #[]) ∧ w' = w.setCell ⟨b, 0, none⟩ (.pointer (some ⟨b, 0, none⟩)) := by
  obtain ⟨j, hj, hjs⟩ := Option.map_eq_some_iff.1 sizeBuilder
  have h1 := Lib.run_to_unsafe w ⟨b, 0, none⟩ Tryd.underlying84 Tryd.underlying147 hj (by rw [hjs]; decide) hsh (Nat.zero_lt_succ 1)
  have h3 := Lib.run_from_unsafe w ⟨b, 0, none⟩ Tryd.underlying147 Tryd.underlying84 hj hsh liesBuilder
  have h2 : (callFunc 97 #[.pointer (some ⟨b, 0, none⟩)]).run Tryd.prog w = .ok (.value (.pointer (some ⟨b, 0, none⟩))) w := by
    rw [run_callFunc_extern Tryd.func97 (by kernel_rfl) (by kernel_rfl) (by kernel_rfl) (e := Extern.AbiNoEscape.same) (by kernel_rfl), Lib.run_noEscape]
    rfl
  go_enter Tryd.func83, Tryd.ntmps83
  go_wp2
  go_end0
  exact ⟨rfl, rfl⟩

/-- A builder in block b, whose buffers lie from B on. -/
abbrev IsB (B b : Nat) (bs : List Value) (w : World) : Prop := Lib.IsBuilder 87 5 B b bs w
abbrev BAt (B b : Nat) (bs : List Value) (w : World) : Prop := Lib.BuilderAt 87 5 B b (.pointer (some ⟨b, 0, none⟩)) bs w
theorem copyCheck_any {B b : Nat} {bs : List Value} {w : World} (h : IsB B b bs w) :
    Calls Tryd.prog 83 #[.pointer (some ⟨b, 0, none⟩)] w fun e w' => e = .returned (.tuple #[]) ∧ BAt B b bs w' ∧ Below B w w' ∧ (∀ k, k ≠ b → w'.heap[k]? = w.heap[k]?) ∧ w'.heap.size = w.heap.size := by
  rcases h with h | h
  · refine (copyCheck_fresh b w h.cell0 h.shape h.frozen0).mono ?_
    rintro e w' ⟨rfl, rfl⟩
    exact ⟨rfl, h.used _, (Below.refl B w).setCell (p := ⟨b, 0, none⟩) h.1 _, fun k hk => Below.heap_setCell w ⟨b, 0, none⟩ _ k hk, by simp⟩
  · refine (copyCheck_used b w h.cell0).mono ?_
    rintro e w' ⟨rfl, rfl⟩
    exact ⟨rfl, h, Below.refl B _, fun _ _ => rfl, rfl⟩
theorem others_of {b : Nat} {w w' : World} (h : ∀ k, k ≠ b → w'.heap[k]? = w.heap[k]?) : Lib.OthersKept 5 (some b) w w' := fun k o hk hb _ => (h k (fun e => hb (by rw [e]))).trans hk
theorem own_row_cells {w : World} {B n : Nat} {v : Value} {xs : List Value} (h : w.ownsRow B 5 1 v n xs) : ∀ g, v.ownBlock = some g → ∃ c fz, w.heap[g]? = some (.cells c 5 fz) := by
  intro g hg
  rcases h.2 with ⟨rfl, _⟩ | ⟨g', cap, cur, rfl, _, hh, _⟩
  · simp [Value.ownBlock] at hg
  · simp [Value.ownBlock] at hg; subst hg; exact ⟨_, _, hh⟩

set_option maxRecDepth 100000 in
set_option maxHeartbeats 2000000 in
theorem writeByte_any {B b : Nat} {bs : List Value} (c : Int) {w : World} (h : IsB B b bs w) (hlen : bs.length + 1 ≤ 140737488355328) (hBw : B ≤ w.heap.size) :
    Calls Tryd.prog 99 #[.pointer (some ⟨b, 0, none⟩), .int .u8 c] w fun e w' => e = .returned .nilIface ∧ BAt B b (bs ++ [.int .u8 c]) w' ∧ Below B w w' ∧ Lib.OthersKept 5 (some b) w w' := by
  obtain ⟨i0, hi, hz0, hz1, hz2⟩ := info_parts info_u8
  have hcc := Lib.hid (copyCheck_any h)
  clear h
  go_enter Tryd.func99, Tryd.ntmps99
  go_wp2_with fail
  refine (hcc.out).mono ?_
  rintro e w1 ⟨rfl, h1, hb1, ho1, hs1⟩
  have ho1' := Lib.hid (others_of ho1)
  have hb1' := Lib.hid hb1
  have hs1' := Lib.hid hs1
  clear hcc ho1 hb1 hs1
  have hblt := h1.lt
  obtain ⟨hB, v, hbk, hown, hne⟩ := h1
  have c0 : w1.cell? ⟨b, 0, none⟩ = some (.pointer (some ⟨b, 0, none⟩)) := by rw [Lib.cell_of_heap hbk]; rfl
  have c1 : w1.cell? ⟨b, 1, none⟩ = some v := by rw [Lib.cell_of_heap hbk]; rfl
  have hbk' := Lib.hid hbk
  have hne' := Lib.hid hne
  clear hbk hne
  go_wp2_with (at_builtin; refine wpList_append_own _ rfl _ _ 85 rfl B 5 i0 (.int .u8 0) 1 1 Tryd.underlying85 hi hz0 hz1 hz2 rfl (by decide) _ _ _ rfl (hown.alloc _) ⟨w1.heap.size, 0, none⟩ 1 1 [.int .u8 c] rfl rfl (cell_one_new _ _ _) (by simp [Value.oneCell']) (by unfold maxLen; omega) (by omega) (by have := hs1'.out; simp; omega) ?_; intro v' w2 hown' hgrow _; have hb2 : Hid (w2.heap[b]? = some (.cells #[.pointer (some ⟨b, 0, none⟩), v] 87 (0, 0))) := (hgrow.block b (by simp; omega) (fun e => hne'.out e.symm)).trans ((Below.heap_alloc _ _ _ hblt).trans hbk'.out); have d0 : w2.cell? ⟨b, 0, none⟩ = some (.pointer (some ⟨b, 0, none⟩)) := (by rw [Lib.cell_of_heap hb2.out]; rfl); have d1 : w2.cell? ⟨b, 1, none⟩ = some v := (by rw [Lib.cell_of_heap hb2.out]; rfl); have f1 : w2.frozen? ⟨b, 1, none⟩ = false := Lib.frozen_of_heap hb2.out 1; obtain ⟨g, cap, rfl⟩ := ownsRow_succ hown')
  go_ret
  refine ⟨rfl, Lib.BuilderAt.put hB hb2.out (by simpa using hown') (by decide), ((hb1'.out.alloc (by have := hb1'.out.size; omega) _).grown hgrow (by have := hb1'.out.size; simp; omega) (fun k hk => (hown.lt k hk).1)).setCell (p := ⟨b, 1, none⟩) hB _, ?_⟩
  exact ((ho1'.out.alloc _).grown hgrow (own_row_cells (hown.alloc _))).setCell _ rfl _

set_option maxRecDepth 100000 in
set_option maxHeartbeats 2000000 in
theorem writeString_any {B b : Nat} {bs : List Value} (s : ByteArray) {w : World} (h : IsB B b bs w) (hlen : bs.length + s.size ≤ 140737488355328) (hBw : B ≤ w.heap.size) :
    Calls Tryd.prog 53 #[.pointer (some ⟨b, 0, none⟩), .string s] w fun e w' => e = .returned (.tuple #[.int .i64 s.size, .nilIface]) ∧ BAt B b (bs ++ Lib.strCells s) w' ∧ Below B w w' ∧ Lib.OthersKept 5 (some b) w w' := by
  obtain ⟨i0, hi, hz0, hz1, hz2⟩ := info_parts info_u8
  have hcc := Lib.hid (copyCheck_any h)
  clear h
  go_enter Tryd.func53, Tryd.ntmps53
  go_wp2_with fail
  refine (hcc.out).mono ?_
  rintro e w1 ⟨rfl, h1, hb1, ho1, hs1⟩
  have ho1' := Lib.hid (others_of ho1)
  have hb1' := Lib.hid hb1
  have hs1' := Lib.hid hs1
  clear hcc ho1 hb1 hs1
  have hblt := h1.lt
  obtain ⟨hB, v, hbk, hown, hne⟩ := h1
  have c0 : w1.cell? ⟨b, 0, none⟩ = some (.pointer (some ⟨b, 0, none⟩)) := by rw [Lib.cell_of_heap hbk]; rfl
  have c1 : w1.cell? ⟨b, 1, none⟩ = some v := by rw [Lib.cell_of_heap hbk]; rfl
  have hbk' := Lib.hid hbk
  have hne' := Lib.hid hne
  clear hbk hne
  go_wp2_with (at_builtin; refine Lib.wpList_append_own_string _ rfl _ _ 85 9 rfl B 5 i0 Tryd.underlying85 Tryd.underlying9 hi hz0 hz1 hz2 _ _ _ rfl hown s rfl (by unfold maxLen; omega) (by omega) (by have := hs1'.out; omega) ?_; intro v' w2 hown' hgrow _; have hb2 : Hid (w2.heap[b]? = some (.cells #[.pointer (some ⟨b, 0, none⟩), v] 87 (0, 0))) := (hgrow.block b hblt (fun e => hne'.out e.symm)).trans hbk'.out; have d0 : w2.cell? ⟨b, 0, none⟩ = some (.pointer (some ⟨b, 0, none⟩)) := (by rw [Lib.cell_of_heap hb2.out]; rfl); have d1 : w2.cell? ⟨b, 1, none⟩ = some v := (by rw [Lib.cell_of_heap hb2.out]; rfl); have f1 : w2.frozen? ⟨b, 1, none⟩ = false := Lib.frozen_of_heap hb2.out 1; obtain ⟨ao, n', cap, rfl⟩ : ∃ ao n' cap, v' = .slice ao n' cap := (by rcases hown'.2 with ⟨hv, _⟩ | ⟨g, cap, cur, hv, _⟩; exact ⟨_, _, _, hv⟩; exact ⟨_, _, _, hv⟩))
  go_ret2
  refine ⟨rfl, Lib.BuilderAt.put hB hb2.out (by simpa [Lib.strCells_length] using hown') (by decide), (hb1'.out.grown hgrow (by have := hb1'.out.size; omega) (fun k hk => (hown.lt k hk).1)).setCell (p := ⟨b, 1, none⟩) hB _, ?_⟩
  exact (ho1'.out.grown hgrow (own_row_cells hown)).setCell _ rfl _

set_option maxRecDepth 100000 in
set_option maxHeartbeats 2000000 in
/-- Write, of three bytes that lie in a block of their own. -/
theorem write3_any {B b g : Nat} {bs : List Value} (x y z : Int) {w : World} (h : IsB B b bs w) (hg : w.heap[g]? = some (.cells #[.int .u8 x, .int .u8 y, .int .u8 z] 5 (0, 0))) (hlen : bs.length + 3 ≤ 140737488355328) (hBw : B ≤ w.heap.size) :
    Calls Tryd.prog 55 #[.pointer (some ⟨b, 0, none⟩), .slice (some ⟨g, 0, none⟩) 3 3] w fun e w' => e = .returned (.tuple #[.int .i64 3, .nilIface]) ∧ BAt B b (bs ++ [.int .u8 x, .int .u8 y, .int .u8 z]) w' ∧ Below B w w' ∧ Lib.OthersKept 5 (some b) w w' := by
  obtain ⟨i0, hi, hz0, hz1, hz2⟩ := info_parts info_u8
  have hgb : g ≠ b := by
    rintro rfl
    rcases h with h | h
    · obtain ⟨_, v, hb, _⟩ := h
      rw [hg] at hb; simp at hb
    · obtain ⟨_, v, hb, _⟩ := h
      rw [hg] at hb; simp at hb
  have hcc := Lib.hid (copyCheck_any h)
  have hg' := Lib.hid hg
  clear h hg
  go_enter Tryd.func55, Tryd.ntmps55
  go_wp2_with fail
  refine (hcc.out).mono ?_
  rintro e w1 ⟨rfl, h1, hb1, ho1, hs1⟩
  have hg1 : Hid (w1.heap[g]? = some (.cells #[.int .u8 x, .int .u8 y, .int .u8 z] 5 (0, 0))) := (ho1 g hgb).trans hg'.out
  have hnew : Hid (∀ j u, [Value.int .u8 x, .int .u8 y, .int .u8 z][j]? = some u → w1.cell? ((⟨g, 0, none⟩ : Addr).add j) = some u) := by
    intro j u hu
    have key : ∀ i, w1.cell? ⟨g, i, none⟩ = (#[Value.int .u8 x, .int .u8 y, .int .u8 z] : Array Value)[i]? := fun i => Lib.cell_of_heap hg1.out i
    match j, hu with
    | 0, hu => simp at hu; subst hu; simp [Addr.add, key]
    | 1, hu => simp at hu; subst hu; simp [Addr.add, key]
    | 2, hu => simp at hu; subst hu; simp [Addr.add, key]
    | j + 3, hu => simp at hu
  have ho1' := Lib.hid (others_of ho1)
  have hb1' := Lib.hid hb1
  have hs1' := Lib.hid hs1
  clear hcc ho1 hb1 hs1
  have hblt := h1.lt
  obtain ⟨hB, v, hbk, hown, hne⟩ := h1
  have c0 : w1.cell? ⟨b, 0, none⟩ = some (.pointer (some ⟨b, 0, none⟩)) := by rw [Lib.cell_of_heap hbk]; rfl
  have c1 : w1.cell? ⟨b, 1, none⟩ = some v := by rw [Lib.cell_of_heap hbk]; rfl
  have hbk' := Lib.hid hbk
  have hne' := Lib.hid hne
  clear hbk hne
  go_wp2_with (at_builtin; refine wpList_append_own _ rfl _ _ 85 rfl B 5 i0 (.int .u8 0) 1 1 Tryd.underlying85 hi hz0 hz1 hz2 rfl (by decide) _ _ _ rfl hown ⟨g, 0, none⟩ 3 3 [.int .u8 x, .int .u8 y, .int .u8 z] rfl rfl hnew.out (by simp [Value.oneCell']) (by unfold maxLen; omega) (by omega) (by have := hs1'.out; omega) ?_; intro v' w2 hown' hgrow _; have hb2 : Hid (w2.heap[b]? = some (.cells #[.pointer (some ⟨b, 0, none⟩), v] 87 (0, 0))) := (hgrow.block b hblt (fun e => hne'.out e.symm)).trans hbk'.out; have d0 : w2.cell? ⟨b, 0, none⟩ = some (.pointer (some ⟨b, 0, none⟩)) := (by rw [Lib.cell_of_heap hb2.out]; rfl); have d1 : w2.cell? ⟨b, 1, none⟩ = some v := (by rw [Lib.cell_of_heap hb2.out]; rfl); have f1 : w2.frozen? ⟨b, 1, none⟩ = false := Lib.frozen_of_heap hb2.out 1; obtain ⟨g', cap, rfl⟩ : ∃ g' cap, v' = .slice (some ⟨g', 0, none⟩) (bs.length + 3) cap := (by rcases hown'.2 with ⟨_, h0⟩ | ⟨g, cap, cur, hv, _⟩; omega; exact ⟨_, _, hv⟩))
  go_ret2
  refine ⟨rfl, Lib.BuilderAt.put hB hb2.out (by simpa using hown') (by decide), (hb1'.out.grown hgrow (by have := hb1'.out.size; omega) (fun k hk => (hown.lt k hk).1)).setCell (p := ⟨b, 1, none⟩) hB _, ?_⟩
  exact (ho1'.out.grown hgrow (own_row_cells hown)).setCell _ rfl _
end Go.Proofs.YtalnfbkmlllfhaaDoor
