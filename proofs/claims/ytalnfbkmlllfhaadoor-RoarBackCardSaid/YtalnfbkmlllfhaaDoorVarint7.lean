/-
  varint.Put of a number below 128: one byte. strings.Builder's String.
-/
import Derived.RangeFuncNested
import Derived.RangeFuncBound
import Derived.RangeFuncCalls
import Derived.RangeFuncLeaves
import Derived.Shelf.Abstract
import Derived.Shelf.RegionOpen
import Derived.WalkKit
import Derived.OwnWalkIn
import Derived.TacticsInMore
import Derived.LoopNIn
import Derived.LoopIn
import Derived.Test.YtalnfbkmlllfhaaDoorBuilder7
import Derived.Test.YtalnfbkmlllfhaaDoorBIter
namespace Go.Proofs.YtalnfbkmlllfhaaDoor
open Go.RowKit Go.Shelf Tess

attribute [local go_sem] Oper.semAt_some

set_option maxRecDepth 100000 in
set_option maxHeartbeats 2000000 in
theorem string_any {B b : Nat} {l : List UInt8} {w : World} (h : IsB B b (Lib.byteCells l) w) (h0 : l ≠ []) :
    Calls Tryd.prog 56 #[.pointer (some ⟨b, 0, none⟩)] w fun e w' => e = .returned (.string ⟨l.toArray⟩) ∧ Below B w w' ∧ Lib.OthersKept 5 none w w' := by
  obtain ⟨p, hB, v, hbk, hown, hne⟩ : ∃ p, Lib.BuilderAt 87 5 B b p (Lib.byteCells l) w := by
    rcases h with h | h
    · exact ⟨_, h⟩
    · exact ⟨_, h⟩
  have hl0 : l.length ≠ 0 := by simpa using h0
  rw [Lib.byteCells_length] at hown
  obtain ⟨g, cap, cur, rfl, hbg, hg, hnc, hcm, hcs, htake⟩ : ∃ g cap cur, v = .slice (some ⟨g, 0, none⟩) l.length cap ∧ B ≤ g ∧ w.heap[g]? = some (.cells cur 5 (0, 0)) ∧ l.length ≤ cap ∧ cap ≤ maxLen ∧ cur.size = cap * 1 ∧ cur.toList.take (l.length * 1) = Lib.byteCells l := by
    rcases hown.2 with ⟨_, hz⟩ | ⟨g, cap, cur, hv, r⟩
    · exact absurd hz hl0
    · exact ⟨g, cap, cur, hv, r⟩
  have c1 : w.drew.cell? ⟨b, 1, none⟩ = some (.slice (some ⟨g, 0, none⟩) l.length cap) := by
    have : w.drew.heap[b]? = some (.cells #[p, .slice (some ⟨g, 0, none⟩) l.length cap] 87 (0, 0)) := hbk
    rw [Lib.cell_of_heap this]; rfl
  have hSD : (Builtin.unsafeSliceData_ #[85] 129 #[.slice (some ⟨g, 0, none⟩) l.length cap]).run Tryd.prog w.drew = .ok (.pointer (some ⟨g, 0, none⟩)) w.drew :=
    Lib.run_unsafeSliceData_row _ _ _ _ _ _ (by omega)
  have hUS : (Builtin.unsafeString_ #[129, 3] 9 #[.pointer (some ⟨g, 0, none⟩), .int .i64 l.length]).run Tryd.prog w.drew = .ok (.string ⟨l.toArray⟩) (w.drew.freeze ⟨g, 0, none⟩ l.length) := by
    refine Lib.run_unsafeString_row w.drew 129 3 9 5 Tryd.underlying129 (by kernel_rfl) g cur.size (by have hg' : w.drew.heap[g]? = some (.cells cur 5 (0, 0)) := hg; simp [World.shape?, hg']) l h0 (by omega) (by unfold maxLen at hcm; omega) ?_
    intro j x hx
    have := hown.cells (g := g) rfl j (.int .u8 x.toNat) (by simp [Lib.byteCells, hx])
    exact this
  have hbg' := Lib.hid hbg
  have hg' := Lib.hid hg
  clear h hbk hown hne hbg hg hnc hcm hcs htake h0 hl0 hB
  go_enter Tryd.func56, Tryd.ntmps56
  go_wp2
  go_region
  all_goals (go_wp2; go_ret; exact ⟨rfl, Lib.below_freeze (Below.drew (Below.refl B w)) (p := ⟨g, 0, none⟩) hbg'.out _, Lib.OthersKept.freeze (w := w.drew) (Lib.OthersKept.drew (Lib.OthersKept.refl _ _ w)) ⟨g, 0, none⟩ _ ⟨_, _, hg'.out⟩⟩)

set_option maxRecDepth 100000 in
set_option maxHeartbeats 2000000 in
theorem bytes1_stops (n : Nat) (hn : 1 ≤ n) (Bw x : Nat) (hx : x < 128) (w : World) (hBl : Bw < w.heap.size) (hBw : w.cell? ⟨Bw, 0, none⟩ = some (.int .u64 (x : Int))) :
    SeqStopsK Fence.wide n Tryd.prog 106 #[.pointer (some ⟨Bw, 0, none⟩)] (fun c : N8 => #[Value.int .u8 (c.val : Int)]) (fun _ _ => True) (fun ys => vals ys = [x]) (fun pre => vals pre = [x]) 1 w := by
  intro lf J Jx W hW hJ hJx hY h0
  have hc := (hW.cell (p := ⟨Bw, 0, none⟩) hBl).trans hBw
  obtain ⟨fn, tmps, assign, body, hyy, hR⟩ := hY [] ⟨x, by omega⟩ W h0 (by simp)
  change (Instr.yield lf #[.int .u8 (x : Int)]).run Tryd.prog W = _ at hyy
  simp only [List.nil_append] at hR
  change CallsIn Fence.wide n Tryd.prog 106 #[.func (.yield lf) #[] #[], .pointer (some ⟨Bw, 0, none⟩)] W _
  have hxd : decide (128 ≤ x) = false := decide_eq_false (by omega)
  have hxb : IntKind.u8.wrap (x : Int) = (x : Int) := by rw [IntKind.wrap_u8']; omega
  have hx8 : x < 256 := by omega
  refine callsIn_of_wp Tryd.func106 rfl trivial ?_ rfl
  simp only [Tryd.ntmps106, List.size_toArray, List.length_cons, List.length_nil, Nat.reduceAdd, Nat.reduceSub, Array.replicate_succ, Array.replicate_zero, List.push_toArray, List.append_toArray, List.nil_append, List.cons_append]
  gi_wp2
  refine wpIn_loop_rounds 1 ?_
  rw [roundsIn_succ]
  gi_wp2
  refine hR.mono ?_
  rintro e W3 (⟨rfl, hJ3, -⟩ | ⟨rfl, hJx3⟩)
  · gi_wp2
    go_end0
    exact ⟨⟨_, rfl⟩, .inl ⟨[⟨x, by omega⟩], rfl, hJ3⟩⟩
  · gi_wp2
    go_end0
    exact ⟨⟨_, rfl⟩, .inr ⟨[⟨x, by omega⟩], rfl, hJx3⟩⟩

theorem bytes_in (n x : Nat) (w : World) :
    CallsIn Fence.wide n Tryd.prog 98 #[.int .u64 (x : Int)] w fun e w' => e = .returned (.func (.func 106) #[] #[.pointer (some ⟨w.heap.size, 0, none⟩)]) ∧ w' = w.alloc (.cells #[.int .u64 (x : Int)] 93) := by
  refine callsIn_of_wp Tryd.func98 rfl trivial ?_ rfl
  simp only [Tryd.ntmps98, List.size_toArray, List.length_cons, List.length_nil, Nat.reduceAdd, Nat.reduceSub, Array.replicate_succ, Array.replicate_zero, List.push_toArray, List.append_toArray, List.nil_append, List.cons_append]
  gi_wp2
  go_ret
  exact ⟨rfl, rfl⟩

theorem isB_kept {B b : Nat} {bs : List Value} {W W' : World} {row : Option Nat} (h : IsB B b bs W) (hg : W.grownBy W' row) (hr : ∀ r, row = some r → ∃ o : Obj, W.heap[r]? = some o ∧ o.isCells = false) : IsB B b bs W' := by
  have key : ∀ p, Lib.BuilderAt 87 5 B b p bs W → Lib.BuilderAt 87 5 B b p bs W' := by
    rintro p ⟨hB, v, hb, hown, hne⟩
    refine ⟨hB, v, (hg.block b (lt_of_heap hb) (fun e => ?_)).trans hb, hown.kept hg ?_, hne⟩
    · obtain ⟨o, ho, hc⟩ := hr b e.symm
      rw [hb] at ho; cases ho; cases hc
    · rcases hown.2 with ⟨rfl, _⟩ | ⟨g, cap, cur, rfl, _, hh, _⟩
      · left; rfl
      · right
        intro e
        obtain ⟨o, ho, hc⟩ := hr g (by rw [← e]; rfl)
        rw [hh] at ho; cases ho; cases hc
  exact h.imp (key _) (key _)
theorem isB_new (W : World) : IsB W.heap.size W.heap.size [] (W.alloc (.cells #[.pointer none, .slice none 0 0] 87)) :=
  .inl ⟨Nat.le_refl _, _, heap_alloc_new W _, World.ownsRow_nil _ _ _ _, by simp [Value.ownBlock]⟩
theorem isB_alloc {B b : Nat} {bs : List Value} {W : World} (h : IsB B b bs W) (o : Obj) : IsB B b bs (W.alloc o) := isB_kept h (World.grownBy_alloc W o none) (fun r e => by cases e)
theorem isB_later {B b : Nat} {bs : List Value} {W W' : World} (h : IsB B b bs W) (hb : Below W.heap.size W W') : IsB B b bs W' := isB_kept h (grown_of_below7 hb) (fun r e => by cases e)
where grown_of_below7 {W W' : World} (h : Below W.heap.size W W') : W.grownBy W' none := ⟨h.os, h.tape, h.output, h.size, fun k hk _ => h.block k hk⟩
theorem keeps_of_others {B b : Nat} {W W' : World} (h : Lib.OthersKept 5 (some b) W W') (hb : ∃ cs t fr, W.heap[b]? = some (.cells cs t fr)) (hs : W.heap.size ≤ W'.heap.size) : KeepsFrom B W W' := by
  refine ⟨hs, fun k o hk ho hc => ?_⟩
  refine h k o ho (fun e => ?_) (fun c fz e => ?_)
  · cases e
    obtain ⟨cs, t, fr, hbb⟩ := hb
    rw [hbb] at ho; cases ho; cases hc
  · subst e; cases hc

theorem isB_cells {B b : Nat} {bs : List Value} {W : World} (h : IsB B b bs W) : ∃ cs t fr, W.heap[b]? = some (.cells cs t fr) := by
  rcases h with h | h
  · obtain ⟨_, v, hb, _⟩ := h; exact ⟨_, _, _, hb⟩
  · obtain ⟨_, v, hb, _⟩ := h; exact ⟨_, _, _, hb⟩
theorem keeps_of_others' {B b : Nat} {W W' : World} (h : Lib.OthersKept 5 (some b) W W') (hb : ∃ cs t fr, W.heap[b]? = some (.cells cs t fr)) (hs : W.heap.size ≤ W'.heap.size) : KeepsFrom B W W' := keeps_of_others h hb hs

set_option maxRecDepth 100000 in
set_option maxHeartbeats 4000000 in
theorem put_small (x : Nat) (hx : x < 128) (g : Nat) (w : World) (hg : g < w.heap.size) (hc : w.cell? ⟨g, 0, none⟩ = some (.int .u64 (x : Int))) :
    Calls Tryd.prog 84 #[.slice (some ⟨g, 0, none⟩) 1 1] w fun e W' => e = .returned (.string (bs [x])) ∧ Below w.heap.size w W' := by
  refine (callsIn_wide (n := 9)).1 ?_
  refine callsIn_of_wp_marks Tryd.func84 rfl trivial ?_ rfl
  simp only [Tryd.ntmps84, List.size_toArray, List.length_cons, List.length_nil, Nat.reduceAdd, Nat.reduceSub, Array.replicate_succ, Array.replicate_zero, List.push_toArray, List.append_toArray, List.nil_append, List.cons_append]
  have hI0 := isB_new w
  have hx8 : x % 256 = x := by omega
  gi_wp2
  refine wpIn_loop_rounds 2 ?_
  rw [roundsIn_succ]
  gi_wp2_with (refine ⟨trivial, ?_⟩; gi_at_call 98; refine (bytes_in _ _ _).mono ?_; rintro e w' ⟨rfl, rfl⟩)
  have hHS : ((w.alloc (.cells #[.pointer none, .slice none 0 0] 87)).alloc (.cells #[.int .u64 (x : Int)] 93)).heap.size = w.heap.size + 2 := by simp
  have hb0 : Below w.heap.size w ((w.alloc (.cells #[.pointer none, .slice none 0 0] 87)).alloc (.cells #[.int .u64 (x : Int)] 93)) := ((Below.refl _ w).alloc (Nat.le_refl _) _).alloc (by simp) _
  refine wpIn_rangeFunc_ownG rfl (by omega) (gf := 106) (lb := #[.pointer (some ⟨w.heap.size + 1, 0, none⟩)]) rfl trivial (enters_of Tryd.func106 (by kernel_rfl) rfl)
    (bytes1_stops _ (by omega) (w.heap.size + 1) x hx _ (by rw [hHS]; omega) (by simp)) (fun _ _ => trivial) (fun _ _ _ _ _ _ _ _ => trivial) (Below.refl _ _) (fun _ => rfl)
    (fun pre W => (IsB w.heap.size w.heap.size ((vals pre).map fun (c : Nat) => Value.int .u8 (c : Int)) W) ∧ (Below w.heap.size w W ∧ w.heap.size < W.heap.size))
    (fun _ _ _ => False)
    (OwnFrom.and (fun pre W W' row h hg hr => isB_kept h hg (fun r e => (hr r e).2)) (OwnFrom.and (ownFrom_below (Nat.le_refl _) (by rw [hHS]; omega)) (fun _ _ _ _ h hg _ => Nat.lt_of_lt_of_le h hg.size)))
    (fun _ _ _ _ _ hs _ _ => hs)
    ⟨isB_alloc hI0 _, hb0, by rw [hHS]; omega⟩
    (fun c => { tmps := #[.slice (some ⟨g, 0, none⟩) 1 1, undef, .string ⟨#[]⟩, .pointer (some ⟨w.heap.size, 0, none⟩), undef, .int .u64 x, .int .u8 (c.val : Int), .slice (some ⟨g, 0, none⟩) 1 1, .int .i64 1, .int .i64 0, .bool true, .pointer (some ⟨g, 0, none⟩), .int .u64 x, .int .u64 x, .func (.func 106) #[] #[.pointer (some ⟨w.heap.size+1, 0, none⟩)], .int .u8 (c.val : Int), undef, undef, undef, undef], defers := [] }) ?assign ?body ?done ?stop
  case assign =>
    intro l x W K hK
    gi_wp2
    exact hK
  case body =>
    rintro l pre c W ⟨hI, hB, hlt0⟩ hlt
    have hwb := writeByte_any (c.val : Int) hI (by simp [vals]; omega) hB.size
    gi_wp2_with (refine ⟨trivial, ?_⟩; gi_at_call 99; refine (callsIn_wide.2 hwb).mono ?_; rintro e W1 ⟨rfl, hA, hB1, hO⟩)
    exact ⟨keeps_of_others' hO (isB_cells hI) hB1.size, trivial, .inr (by simpa [vals] using hA), hB.trans hB1, by have := hB1.size; omega⟩
  case done =>
    rintro D ys W hD hys ⟨hI, hB, _⟩ hK
    rw [hys] at hI
    have hst := string_any (l := [UInt8.ofNat x]) (by simpa [Lib.byteCells, hx8] using hI) (by simp)
    gi_wp2
    rw [roundsIn_succ]
    gi_wp2_with (refine ⟨trivial, ?_⟩; gi_at_call 56; refine (callsIn_wide.2 hst).mono ?_; rintro e W2 ⟨rfl, hB2, hO2⟩)
    have hK2 : W2.heap[D]? = some (.deferred (some [])) := hO2 D _ hK (by simp) (fun c fz e => by cases e)
    refine ⟨by simp, .inl ⟨_, _, rfl, run_takeDeferred hK2, ?_⟩⟩
    exact ⟨_, results_tmp rfl _ _ _, rfl, (hB.trans hB2).trans (belowK_b (w := w) (Nat.le_refl _) W2 D _ _ (by omega) hK2 rfl rfl)⟩
  case stop =>
    rintro D c pre W _ _ h _
    exact h.elim
end Go.Proofs.YtalnfbkmlllfhaaDoor
