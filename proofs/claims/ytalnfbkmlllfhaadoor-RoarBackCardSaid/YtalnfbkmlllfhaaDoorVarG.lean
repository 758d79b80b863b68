/-
  BoxSeq, Varint8: several texts in one (merge.py).
-/
import Derived.RangeFuncNested
import Derived.RangeFuncBound
import Derived.RangeFuncCalls
import Derived.Test.YtalnfbkmlllfhaaDoorVarint7
import Derived.Test.YtalnfbkmlllfhaaDoorPSets

/-
  A loop over an iterator that keeps a variable of its own in a box and stores into it between two rounds; every round goes on.
-/
namespace Go.Proofs.YtalnfbkmlllfhaaDoor
open Go.RowKit

variable {F : Fence} {n : Nat} {P : Program}

/-- What such an iterator promises: it hands over xs, in this order; the caller's invariant must bear a store into the box, and a round must leave the box alone. -/
def SeqBox {α : Type} (F : Fence) (n : Nat) (P : Program) (g : Nat) (lb : Array Value) (B0 : Nat) (encs : α → Array Value) (xs : List α) (w : World) : Prop :=
  ∀ (l : Nat) (J : List α → World → Prop) (W : World), Below w.heap.size w W → (∀ s X v, J s X → J s (X.setCell ⟨B0, 0, none⟩ v)) →
    (∀ pre x rest W1, pre ++ x :: rest = xs → J pre W1 → YieldAt F (n - 1) P l (encs x) W1 fun e W' => e = .returned (.bool true) ∧ J (pre ++ [x]) W' ∧ W'.heap[B0]? = W1.heap[B0]?) →
    J [] W →
    CallsIn F n P g (#[.func (.yield l) #[] #[]] ++ lb) W fun e W' => (∃ v, e = .returned v) ∧ J xs W'

/-- How a round is left. -/
def boxPost {α : Type} (B B0 : Nat) (I : List α → World → Prop) (xs : List α) (W : World) : Exit → Act → World → Prop
  | .normal, _, W' => KeepsFrom B W W' ∧ W'.heap[B0]? = W.heap[B0]? ∧ I xs W'
  | _, _, _ => False

theorem setCell_far {X : World} {B0 k : Nat} (v : Value) (h : k ≠ B0) : (X.setCell ⟨B0, 0, none⟩ v).heap[k]? = X.heap[k]? := Below.heap_setCell X ⟨B0, 0, none⟩ v k h

theorem wpIn_rangeFunc_box {α : Type} {g : Operand} {ps : Array Tmp} {assign body : Code} {Q : Exit → Act → World → Prop} {a : Act} {w w0 : World}
    (hro : F.round = none) (h1 : 1 ≤ n) {gf B0 : Nat} {lb : Array Value} (hg : a.eval g = .func (.func gf) #[] lb) (hFg : F.fn gf) (eg : ∀ args w, (callFunc gf args).run P w = .ok (.enter gf args) w)
    {encs : α → Array Value} {xs : List α} (hseq : SeqBox F (n - 1) P gf lb B0 encs xs w0) (hb0 : Below w0.heap.size w0 w) (hB0 : B0 < w.heap.size) (hps : ∀ x, (encs x).size = ps.size)
    (I : List α → World → Prop) (hI : OwnFrom w.heap.size I) (hIb : ∀ s X v, I s X → I s (X.setCell ⟨B0, 0, none⟩ v)) (h0 : I [] w) (a₁ : α → Act)
    (hassign : ∀ (l : Nat) (x : α) (W : World) (K : Act → World → Prop), K (a₁ x) W →
      assign.wpIn (F.inRound l) (n - 1 - 1) P (Exit.then K (fun _ _ _ => False)) { tmps := (ps.zip (encs x)).foldl (fun t (p, v) => t.setIfInBounds p v) a.tmps, defers := [] } W)
    (hbody : ∀ (l : Nat) (pre : List α) (x : α) (rest : List α) (W : World), pre ++ x :: rest = xs → I pre W → body.wpIn (F.inRound l) (n - 1 - 1) P (boxPost w.heap.size B0 I (pre ++ [x]) W) (a₁ x) W)
    (hdone : ∀ (D : Nat) (W : World), w.heap.size ≤ D → I xs W → W.heap[D]? = some (.deferred (some [])) → Q .normal { a with defers := { target := .collected D, args := #[] } :: a.defers } W) :
    (Code.rangeFunc g ps assign body).wpIn F n P Q a w := by
  refine wpIn_rangeFunc ?_
  intro fn hfn
  rw [hro]
  -- the loop's record, in its three states
  obtain ⟨R, hR⟩ : ∃ R : LoopState → Loop, R = fun st => { state := st, pending := none, fn, tmps := a.tmps, params := ps, assign, body, defers := w.heap.size } := ⟨_, rfl⟩
  have hRs : ∀ st, (R st).state = st := by intro st; rw [hR]
  have hRp : ∀ st, (R st).params = ps := by intro st; rw [hR]
  have hs1 : (w.alloc (.deferred (some []))).heap.size = w.heap.size + 1 := by simp
  obtain ⟨W1, hW1⟩ : ∃ W1, (w.alloc (.deferred (some []))).alloc (.loop (R .ready)) = W1 := ⟨_, rfl⟩
  have hrec1 : W1.heap[w.heap.size + 1]? = some (.loop (R .ready)) := by
    rw [← hW1]; have := World.alloc_heap_new (w.alloc (.deferred (some []))) (.loop (R .ready)); rwa [hs1] at this
  have hdef1 : W1.heap[w.heap.size]? = some (.deferred (some [])) := by
    rw [← hW1]; exact (Below.heap_alloc _ _ _ (by rw [hs1]; omega)).trans (World.alloc_heap_new w _)
  have hI1 : I [] W1 := by rw [← hW1]; exact hI.alloc _ (hI.alloc _ h0)
  have hb1 : Below w0.heap.size w0 W1 := by
    rw [← hW1]; exact hb0.trans ((((Below.refl _ w).alloc (Nat.le_refl _) _).alloc (by rw [hs1]; omega) _).mono hb0.size)
  refine ⟨w.heap.size + 1, [{ target := .collected w.heap.size, args := #[] }], W1, { target := .fn (.func gf) lb, args := #[.func (.yield (w.heap.size + 1)) #[] #[]] }, W1, gf,
    #[.func (.yield (w.heap.size + 1)) #[] #[]] ++ lb, W1, ?_, ?_, ?_, ?_, fun _ => h1, ?_⟩
  · rw [← hW1, hR]; exact run_enterLoop_outer _ _ _ _ _
  · simp only [resolve, hg]; simp [go_sem]
  · intro f' hf'; simp [Target.leads] at hf'; subst hf'; exact hFg
  · simp [invoke, go_sem, eg]
  · refine (hseq (w.heap.size + 1) (fun pre W => I pre W ∧ W.heap[w.heap.size + 1]? = some (.loop (R .ready)) ∧ W.heap[w.heap.size]? = some (.deferred (some []))) W1 hb1
      (fun s X v ⟨x1, x2, x3⟩ => ⟨hIb s X v x1, (setCell_far v (by omega)).trans x2, (setCell_far v (by omega)).trans x3⟩) ?_ ⟨hI1, hrec1, hdef1⟩).mono ?_
    · rintro pre x rest W hx ⟨hi, hl, hk⟩
      have hlt : w.heap.size + 1 < W.heap.size := (Array.getElem?_eq_some_iff.1 hl).1
      have hy := run_yield (P := P) (args := encs x) hl (by rw [hRp]; exact hps x)
      rw [hR] at hy
      refine ⟨fn, _, assign, body, hy, roundIn_of_wpIn hfn (hassign _ x W _ ⟨_, run_beginRound hl (hRs _), ?_⟩)⟩
      have hl2 : (W.putObj (w.heap.size + 1) (.loop { R .ready with state := .busy })).heap[w.heap.size + 1]? = some (.loop { R .ready with state := .busy }) := World.putObj_heap_same hlt
      have hk2 : (W.putObj (w.heap.size + 1) (.loop { R .ready with state := .busy })).heap[w.heap.size]? = some (.deferred (some [])) := (World.putObj_heap_other (by omega)).trans hk
      refine wpIn_mono (hbody _ pre x rest _ hx (hI.putObj _ hi (by omega) hl rfl)) ?_
      rintro e a3 W3 hp
      cases e with
      | normal =>
        obtain ⟨hk3, hbx3, hi3⟩ := hp
        have hl3 := hk3.same _ _ (by omega) hl2 rfl
        have hr := run_endRound (P := P) none hl3
        have hre : ({ ({ R .ready with state := .busy } : Loop) with state := if (none : Option Code).isNone then .ready else .done, pending := none } : Loop) = R .ready := by rw [hR]; rfl
        rw [hre] at hr
        refine ⟨_, _, hr, rfl, ⟨hI.putObj _ hi3 (by omega) hl3 rfl, World.putObj_heap_same (Array.getElem?_eq_some_iff.1 hl3).1, (World.putObj_heap_other (by omega)).trans (hk3.same _ _ (Nat.le_refl _) hk2 rfl)⟩, ?_⟩
        exact (World.putObj_heap_other (by omega)).trans (hbx3.trans (World.putObj_heap_other (by omega)))
      | ret => exact hp.elim
      | exit id => exact hp.elim
      | goto t => exact hp.elim
      | panic ch => exact hp.elim
      | outgrown => exact hp.elim
    · rintro e W2 ⟨⟨v, rfl⟩, hi, hl, hk⟩
      have hE := run_endLoop (P := P) hl (by rw [hRs]; simp)
      rw [hR] at hE hl
      exact ⟨none, _, hE, hdone _ _ (Nat.le_refl _) (hI.putObj _ hi (by omega) hl rfl) ((World.putObj_heap_other (by omega)).trans hk)⟩
end Go.Proofs.YtalnfbkmlllfhaaDoor

/-
  varint.Put of any number of 64 bits.
-/
namespace Go.Proofs.YtalnfbkmlllfhaaDoor
open Go.RowKit Go.Shelf Tess

attribute [local go_sem] Oper.semAt_some

/-- A number's bytes, as the iterator hands them over. -/
def vbN (n : Nat) : List N8 := (vb n).map fun c => ⟨c % 256, Nat.mod_lt _ (by decide)⟩
theorem vals_vbN (n : Nat) : vals (vbN n) = vb n := by
  unfold vals vbN
  rw [List.map_map]
  conv => rhs; rw [← List.map_id (vb n)]
  refine List.map_congr_left fun c hc => ?_
  have := vb_lt n c hc
  show c % 256 = c
  omega
theorem vbN_small {n : Nat} (h : n < 128) : vbN n = [⟨n, by omega⟩] := by
  unfold vbN
  rw [vb_small h]
  show [_] = [_]
  congr 1
  exact Fin.ext (by show n % 256 = n; omega)
theorem vbN_big {n : Nat} (h : ¬ n < 128) : vbN n = ⟨128 + n % 128, by omega⟩ :: vbN (n / 128) := by
  unfold vbN
  rw [vb_big h]
  show _ :: _ = _ :: _
  congr 1
  exact Fin.ext (by show (128 + n % 128) % 256 = 128 + n % 128; omega)

theorem or128 : ∀ a < 256, a ||| 128 = 128 + a % 128 := by decide +kernel
theorem or_more (m : Nat) : bits .or .u8 ((m : Int) % 256) 128 = ((128 + m % 128 : Nat) : Int) := by
  rw [show ((m : Int) % 256) = ((m % 256 : Nat) : Int) by simp, show (128 : Int) = ((128 : Nat) : Int) by rfl, u8_or_nat _ _ (by omega) (by omega), or128 _ (by omega)]
  omega
/-- What the iterator's own variable holds. -/
def boxN (W : World) (B : Nat) : Nat := match W.cell? ⟨B, 0, none⟩ with | some (.int _ n) => n.toNat | _ => 0
theorem boxN_of {W : World} {B m : Nat} (h : W.cell? ⟨B, 0, none⟩ = some (.int .u64 (m : Int))) : boxN W B = m := by unfold boxN; rw [h]; simp

set_option maxRecDepth 100000 in
set_option maxHeartbeats 2000000 in
theorem bytes_box (n : Nat) (hn : 1 ≤ n) (Bw x : Nat) (hx : x < 18446744073709551616) (w : World) (hBw : Boxed w Bw 93 (.int .u64 (x : Int))) :
    SeqBox Fence.wide n Tryd.prog 106 #[.pointer (some ⟨Bw, 0, none⟩)] Bw (fun c : N8 => #[Value.int .u8 (c.val : Int)]) (vbN x) w := by
  intro lf J W hW hJ hY h0
  have hBl := hBw.lt
  have hbx : Boxed W Bw 93 (.int .u64 (x : Int)) := (hW.block Bw hBl).trans hBw
  clear hBw hW
  change CallsIn Fence.wide n Tryd.prog 106 #[.func (.yield lf) #[] #[], .pointer (some ⟨Bw, 0, none⟩)] W _
  have hh := Lib.hid hY
  have hJ' := Lib.hid hJ
  clear hY hJ
  refine callsIn_of_wp Tryd.func106 rfl trivial ?_ rfl
  simp only [Tryd.ntmps106, List.size_toArray, List.length_cons, List.length_nil, Nat.reduceAdd, Nat.reduceSub, Array.replicate_succ, Array.replicate_zero, List.push_toArray, List.append_toArray, List.nil_append, List.cons_append]
  gi_wp2
  gi_loopw [] (fun wr => ∃ (pre : List N8) (m : Nat), m < 18446744073709551616 ∧ pre ++ vbN m = vbN x ∧ J pre wr ∧ Boxed wr Bw 93 (.int .u64 (m : Int)))
    (fun wr => boxN wr Bw)
  case atStart => exact ⟨[], x, hx, rfl, h0, hbx⟩
  case round =>
    obtain ⟨pre, m, hm, hpre, hJr, hbr⟩ := hrel
    have y1 := hbr.cell
    by_cases hlt : m < 128
    · have hk : decide (128 ≤ m) = false := decide_eq_false (by omega)
      have hxb : IntKind.u8.wrap (m : Int) = (m : Int) := by rw [IntKind.wrap_u8']; omega
      have hx8 : (m : Int) % 256 = m := by omega
      rw [vbN_small hlt] at hpre
      obtain ⟨fn, tmps, assign, body, hyy, hR⟩ := hh.out pre ⟨m, by omega⟩ [] wr hpre hJr
      change (Instr.yield lf #[.int .u8 (m : Int)]).run Tryd.prog wr = _ at hyy
      gi_wp2
      refine hR.mono ?_
      rintro e W3 ⟨rfl, hJ3, -⟩
      rw [hpre] at hJ3
      gi_wp2
      go_end0
      exact ⟨⟨_, rfl⟩, hJ3⟩
    · have hk : decide (128 ≤ m) = true := decide_eq_true (by omega)
      rw [vbN_big hlt] at hpre
      obtain ⟨fn, tmps, assign, body, hyy, hR⟩ := hh.out pre ⟨128 + m % 128, by omega⟩ (vbN (m / 128)) wr hpre hJr
      change (Instr.yield lf #[.int .u8 ((128 + m % 128 : Nat) : Int)]).run Tryd.prog wr = _ at hyy
      rw [← or_more] at hyy
      gi_wp2
      refine hR.mono ?_
      rintro e W3 ⟨rfl, hJ3, hb3⟩
      have hbr3 : Boxed W3 Bw 93 (.int .u64 (m : Int)) := hb3.trans hbr
      have y3 := hbr3.cell
      have y4 := hbr3.frozen
      gi_wp2
      have hset := hbr3.set (.int .u64 ((m : Int) / 128))
      have hmd : ((m : Int) / 128) = ((m / 128 : Nat) : Int) := by omega
      go_roundw
      case rel =>
        refine ⟨_, m / 128, by omega, (List.append_assoc _ _ _).trans hpre, hJ'.out _ _ _ hJ3, ?_⟩
        rw [← hmd]; exact hset
      case measure =>
        rw [hmd] at hset ⊢
        rw [boxN_of y1, boxN_of hset.cell]
        omega

theorem isB_setBox {B b B0 : Nat} {bs : List Value} {W : World} {u : Value} (h : IsB B b bs W) (hx : Boxed W B0 93 u) (hne : b ≠ B0) (v : Value) : IsB B b bs (W.setCell ⟨B0, 0, none⟩ v) := by
  have key : ∀ p, Lib.BuilderAt 87 5 B b p bs W → Lib.BuilderAt 87 5 B b p bs (W.setCell ⟨B0, 0, none⟩ v) := by
    rintro p ⟨hB, v', hb, hown, hn⟩
    exact ⟨hB, v', (Below.heap_setCell W ⟨B0, 0, none⟩ v b hne).trans hb, hown.kept (grownBy_setCell' W B0 v) (.inr (hx.not_row (by decide) hown).symm), hn⟩
  exact h.imp (key _) (key _)

/-- A number's bytes. -/
def vbB (x : Nat) : List UInt8 := (vb x).map UInt8.ofNat
theorem vbB_cells (x : Nat) : (vb x).map (fun (c : Nat) => Value.int .u8 (c : Int)) = Lib.byteCells (vbB x) := by
  unfold vbB Lib.byteCells
  rw [List.map_map]
  refine List.map_congr_left fun c hc => ?_
  have := vb_lt x c hc
  simp [UInt8.toNat_ofNat']
  omega

set_option maxRecDepth 100000 in
set_option maxHeartbeats 4000000 in
theorem put_one (x : Nat) (hx : x < 18446744073709551616) (g : Nat) (w : World) (hg : g < w.heap.size) (hc : w.cell? ⟨g, 0, none⟩ = some (.int .u64 (x : Int))) :
    Calls Tryd.prog 84 #[.slice (some ⟨g, 0, none⟩) 1 1] w fun e W' => e = .returned (.string ⟨(vbB x).toArray⟩) ∧ Below w.heap.size w W' := by
  have hlen : (vb x).length ≤ 10 := vb_len (by have : (128 : Nat) ^ 10 = 1180591620717411303424 := by decide
                                               omega) (by decide)
  refine (callsIn_wide (n := 9)).1 ?_
  refine callsIn_of_wp_marks Tryd.func84 rfl trivial ?_ rfl
  simp only [Tryd.ntmps84, List.size_toArray, List.length_cons, List.length_nil, Nat.reduceAdd, Nat.reduceSub, Array.replicate_succ, Array.replicate_zero, List.push_toArray, List.append_toArray, List.nil_append, List.cons_append]
  have hI0 := isB_new w
  gi_wp2
  refine wpIn_loop_rounds 2 ?_
  rw [roundsIn_succ]
  gi_wp2_with (refine ⟨trivial, ?_⟩; gi_at_call 98; refine (bytes_in _ _ _).mono ?_; rintro e w' ⟨rfl, rfl⟩)
  have hHS : ((w.alloc (.cells #[.pointer none, .slice none 0 0] 87)).alloc (.cells #[.int .u64 (x : Int)] 93)).heap.size = w.heap.size + 2 := by simp
  have hb0 : Below w.heap.size w ((w.alloc (.cells #[.pointer none, .slice none 0 0] 87)).alloc (.cells #[.int .u64 (x : Int)] 93)) := ((Below.refl _ w).alloc (Nat.le_refl _) _).alloc (by simp) _
  have hbx : Boxed ((w.alloc (.cells #[.pointer none, .slice none 0 0] 87)).alloc (.cells #[.int .u64 (x : Int)] 93)) (w.heap.size + 1) 93 (.int .u64 (x : Int)) := by
    have := Boxed.new (w.alloc (.cells #[.pointer none, .slice none 0 0] 87)) 93 (.int .u64 (x : Int))
    simpa using this
  refine wpIn_rangeFunc_box rfl (by omega) (gf := 106) (B0 := w.heap.size + 1) (lb := #[.pointer (some ⟨w.heap.size + 1, 0, none⟩)]) rfl trivial (enters_of Tryd.func106 (by kernel_rfl) rfl)
    (bytes_box _ (by omega) (w.heap.size + 1) x hx _ hbx) (Below.refl _ _) (by rw [hHS]; omega) (fun _ => rfl)
    (fun pre W => (IsB w.heap.size w.heap.size ((vals pre).map fun (c : Nat) => Value.int .u8 (c : Int)) W) ∧ (Below w.heap.size w W ∧ w.heap.size < W.heap.size) ∧ ∃ v, Boxed W (w.heap.size + 1) 93 v)
    (OwnFrom.and (fun pre W W' row h hg hr => isB_kept h hg (fun r e => (hr r e).2)) (OwnFrom.and (OwnFrom.and (ownFrom_below (Nat.le_refl _) (by rw [hHS]; omega)) (fun _ _ _ _ h hg _ => Nat.lt_of_lt_of_le h hg.size))
      (fun _ _ _ _ ⟨v, h⟩ hg hr => ⟨v, h.kept hg (fun e => by
        obtain ⟨_, o, ho, hc⟩ := hr _ e.symm
        have h' := h.symm.trans ho
        cases h'; cases hc)⟩)))
    (fun s X v ⟨h1, h2, u, h3⟩ => ⟨isB_setBox h1 h3 (by omega) v, ⟨h2.1.setCell (p := ⟨w.heap.size + 1, 0, none⟩) (Nat.le_succ w.heap.size) v, by simpa using h2.2⟩, v, h3.set v⟩)
    ⟨isB_alloc hI0 _, ⟨hb0, by rw [hHS]; omega⟩, _, hbx⟩
    (fun c => { tmps := #[.slice (some ⟨g, 0, none⟩) 1 1, undef, .string ⟨#[]⟩, .pointer (some ⟨w.heap.size, 0, none⟩), undef, .int .u64 x, .int .u8 (c.val : Int), .slice (some ⟨g, 0, none⟩) 1 1, .int .i64 1, .int .i64 0, .bool true, .pointer (some ⟨g, 0, none⟩), .int .u64 x, .int .u64 x, .func (.func 106) #[] #[.pointer (some ⟨w.heap.size+1, 0, none⟩)], .int .u8 (c.val : Int), undef, undef, undef, undef], defers := [] }) ?assign ?body ?done
  case assign =>
    intro l x W K hK
    gi_wp2
    exact hK
  case body =>
    rintro l pre c rest W hpx ⟨hI, ⟨hB, hlt0⟩, u, hbw⟩
    have hpl : pre.length < 10 := by
      have := congrArg List.length hpx
      rw [List.length_append, List.length_cons] at this
      have h2 : (vbN x).length = (vb x).length := List.length_map _
      omega
    clear hpx hlen
    have hwb := writeByte_any (c.val : Int) hI (by simp [vals]; omega) hB.size
    gi_wp2_with (refine ⟨trivial, ?_⟩; gi_at_call 99; refine (callsIn_wide.2 hwb).mono ?_; rintro e W1 ⟨rfl, hA, hB1, hO⟩)
    have hbw1 : Boxed W1 (w.heap.size + 1) 93 u := hO _ _ hbw (by simp) (fun c fz e => by cases e)
    exact ⟨keeps_of_others' hO (isB_cells hI) hB1.size, hbw1.trans hbw.symm, .inr (by simpa [vals] using hA), ⟨hB.trans hB1, by have := hB1.size; omega⟩, u, hbw1⟩
  case done =>
    rintro D W hD ⟨hI, ⟨hB, _⟩, -⟩ hK
    rw [vals_vbN, vbB_cells] at hI
    have hst := string_any (l := vbB x) hI (fun e => vb_ne x (by simpa [vbB] using e))
    gi_wp2
    rw [roundsIn_succ]
    gi_wp2_with (refine ⟨trivial, ?_⟩; gi_at_call 56; refine (callsIn_wide.2 hst).mono ?_; rintro e W2 ⟨rfl, hB2, hO2⟩)
    have hK2 : W2.heap[D]? = some (.deferred (some [])) := hO2 D _ hK (by simp) (fun c fz e => by cases e)
    refine ⟨by simp, .inl ⟨_, _, rfl, run_takeDeferred hK2, ?_⟩⟩
    exact ⟨_, results_tmp rfl _ _ _, rfl, (hB.trans hB2).trans (belowK_b (w := w) (Nat.le_refl _) W2 D _ _ (by omega) hK2 rfl rfl)⟩

theorem putN_any (x : Nat) (hx : x < 18446744073709551616) (w : World) :
    Calls Tryd.prog 54 #[.int .u64 (x : Int)] w fun e W' => e = .returned (.string ⟨(vbB x).toArray⟩) ∧ Below w.heap.size w W' := by
  have hp := Lib.hid (put_one x hx w.heap.size (w.alloc (.cells #[.int .u64 (x : Int)] 93)) (by simp) (by simp))
  have hx' := Lib.hid hx
  clear hx
  go_enter Tryd.func54, Tryd.ntmps54
  go_wp2_with fail
  refine (hp.out).mono ?_
  rintro e W1 ⟨rfl, hb1⟩
  have hB := Lib.hid (((Below.refl _ w).alloc (Nat.le_refl _) (.cells #[.int .u64 (x : Int)] 93)).trans (hb1.mono (by simp)))
  clear hp hb1
  go_wp2
  exact bodyPost_ret (v := .string ⟨(vbB x).toArray⟩) (by simp [results, Tryd.results54, go_sem]) rfl ⟨rfl, hB.out⟩
end Go.Proofs.YtalnfbkmlllfhaaDoor
