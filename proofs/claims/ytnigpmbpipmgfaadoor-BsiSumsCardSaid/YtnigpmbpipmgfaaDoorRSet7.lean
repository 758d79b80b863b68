/-
  The reference's set: which numbers are there.
-/
import Derived.Test.YtnigpmbpipmgfaaDoorRefM
namespace Go.Proofs.YtnigpmbpipmgfaaDoor
open Go.RowKit Tess

/-- Is the number n in the chunks, by what they read? -/
def bitR (l : List Ch) (n : Nat) : Bool := (setR l (n / 256)).testBit (n % 256)
theorem bitR_nil (n : Nat) : bitR [] n = false := Nat.zero_testBit _
/-- A chunk's numbers, the first j. -/
def bitC (x : Ch) (j n : Nat) : Bool := decide (x.key = ((n / 256 : Nat) : Int)) && decide (n % 256 < j) && (readCh x).testBit (n % 256)
theorem bitR_step {l : List Ch} {k : Nat} (h : k < l.length) (n : Nat) : bitR (l.take (k + 1)) n = (bitR (l.take k) n || bitC l[k] 256 n) := by
  have hn : n % 256 < 256 := Nat.mod_lt _ (by decide)
  unfold bitR bitC
  rw [List.take_succ_eq_append_getElem h, setR_snoc]
  unfold setStep
  by_cases e : l[k].key = ((n / 256 : Nat) : Int)
  · rw [if_pos e, decide_eq_true e, decide_eq_true hn, Nat.testBit_or]; rfl
  · rw [if_neg e, decide_eq_false e]; simp
theorem bitC_zero (x : Ch) (n : Nat) : bitC x 0 n = false := by unfold bitC; simp
theorem bitC_out {x : Ch} (h : x.key < 0 ∨ 256 ≤ x.key) {j n : Nat} (hn : n < 65536) : bitC x j n = false := by
  unfold bitC
  rw [decide_eq_false (by omega)]; rfl
theorem bitC_step {x : Ch} {k j : Nat} (hk : x.key = (k : Int)) (hj : j < 256) (n : Nat) : bitC x (j + 1) n = if n = 256 * k + j then (readCh x).testBit j else bitC x j n := by
  unfold bitC
  by_cases e : n = 256 * k + j
  · subst e
    rw [if_pos rfl, decide_eq_true (by omega), decide_eq_true (by omega), show (256 * k + j) % 256 = j by omega]; rfl
  · rw [if_neg e]
    by_cases e2 : x.key = ((n / 256 : Nat) : Int)
    · congr 2
      congr 1
      apply propext
      omega
    · rw [decide_eq_false e2]; rfl
theorem bitC_self {x : Ch} {k j : Nat} (hj : j < 256) : bitC x j (256 * k + j) = false := by
  unfold bitC
  rw [decide_eq_false (show ¬ (256 * k + j) % 256 < j by omega)]; simp

theorem newArr (W : World) (s : Nat) : (storeCells ⟨W.heap.size, 0, none⟩ (bc s).toList 0).run Tryd.prog (W.alloc (.cells (bc 0) 149)) = .ok () (W.alloc (.cells (bc s) 149)) :=
  run_storeCells_new W _ (bc 0) (bc s) (sizeArr s) (by rw [bc_size, bc_size]) (bc_one s)

/-- What lies in memory while set works. -/
structure SetAt7 (w W : World) (v : Value) (l : List Ch) (B : Nat → Bool) : Prop where
  box : RBox W w.heap.size v
  hc : HC W v l
  bo : Bo W (w.heap.size + 1) B
  below : Below w.heap.size w W
theorem SetAt7.later {w wr W : World} {v : Value} {l : List Ch} {B : Nat → Bool} (h : SetAt7 w wr v l B) (hb : Below wr.heap.size wr W) : SetAt7 w W v l B :=
  ⟨h.box.later hb, h.hc.later hb, h.bo.later hb, h.below.trans (hb.mono h.below.size)⟩
theorem SetAt7.alloc {w wr : World} {v : Value} {l : List Ch} {B : Nat → Bool} (h : SetAt7 w wr v l B) (o : Obj) : SetAt7 w (wr.alloc o) v l B := h.later ((Below.refl _ wr).alloc (Nat.le_refl _) _)
theorem SetAt7.start {w : World} {v : Value} {l : List Ch} (h : HC w v l) : SetAt7 w ((w.alloc (.cells #[v] 28)).alloc (.cells (madeCells #[.bool false] 65536) 4)) v l (fun _ => false) := by
  have h2 := Bo.new (w.alloc (.cells #[v] 28))
  rw [World.size_alloc] at h2
  exact ⟨(RBox.new w _).alloc _, (h.alloc _).alloc _, h2, ((Below.refl _ w).alloc (Nat.le_refl _) _).alloc (by simp) _⟩

theorem SetAt7.congr {w wr : World} {v : Value} {l : List Ch} {B B' : Nat → Bool} (h : SetAt7 w wr v l B) (hB : ∀ n, n < 65536 → B n = B' n) : SetAt7 w wr v l B' := ⟨h.box, h.hc, h.bo.congr hB, h.below⟩
theorem hc_far {W : World} {v : Value} {l : List Ch} {g : Nat} {B : Nat → Bool} (h : HC W v l) (hg : Bo W g B) (i : Nat) (u : Value) : HC (W.setCell ⟨g, i, none⟩ u) v l := by
  obtain ⟨p, cap, hv, hc, hh⟩ := Hid.out h
  refine Lib.hid ⟨p, cap, hv, hc, fun j hj => ?_⟩
  obtain ⟨b, off, hp, hb1, h1, h2, h3⟩ := hh j hj
  have hne : b ≠ g := by
    rintro rfl
    obtain ⟨cur, hcu, hsz, hcc⟩ := hg
    rw [cell_of_row W b _ _ _ (0, 0) hcu] at h1
    have hlt : off + j * 3 < 65536 := by
      have := (Array.getElem?_eq_some_iff.1 h1).1
      omega
    rw [hcc _ hlt] at h1
    cases h1
  have hk : ∀ m, (W.setCell ⟨g, i, none⟩ u).cell? ⟨b, m, none⟩ = W.cell? ⟨b, m, none⟩ := fun m => World.cell?_setCell_other W ⟨g, i, none⟩ ⟨b, m, none⟩ u (fun e => by
    have := congrArg Addr.block e
    first | exact hne this | exact hne this.symm)
  exact ⟨b, off, hp, by simpa using hb1, (hk _).trans h1, (hk _).trans h2, (hk _).trans h3⟩
theorem SetAt7.put {w wr : World} {v : Value} {l : List Ch} {B : Nat → Bool} (h : SetAt7 w wr v l B) {i : Nat} (hi : i < 65536) (u : Bool) : SetAt7 w (wr.setCell ⟨w.heap.size + 1, i, none⟩ (.bool u)) v l (fun j => if j = i then u else B j) :=
  ⟨h.box.far (by show w.heap.size ≠ w.heap.size + 1; omega) _, hc_far h.hc h.bo _ _, h.bo.set hi u, h.below.setCell (p := ⟨w.heap.size + 1, i, none⟩) (by show w.heap.size ≤ w.heap.size + 1; omega) _⟩

set_option maxRecDepth 100000 in
set_option maxHeartbeats 8000000 in
theorem rset_any {l : List Ch} {v : Value} {w : World} (h : HC w v l) (hs : Small l) :
    Calls Tryd.prog 108 #[.agg #[v]] w fun e W' => ∃ g, e = .returned (.slice (some ⟨g, 0, none⟩) 65536 65536) ∧ Bo W' g (bitR l) ∧ w.heap.size < g ∧ Below w.heap.size w W' := by
  have hmk := mkBools
  have hz := zeroArr
  have hsc := newArr
  have hA0 := Lib.hid (SetAt7.start h)
  obtain ⟨p, cap, rfl, hcap, -⟩ := Hid.out h
  have hs1 := hs.1
  have hs2 := Lib.hid hs.2
  clear h hs
  go_enter Tryd.func108, Tryd.ntmps108
  go_wp2
  go_loopw [4] (fun i wr => ∃ k : Nat, k ≤ l.length ∧ i = .int .i64 k ∧ Hid (SetAt7 w wr (.slice p l.length cap) l (bitR (l.take k))))
    (fun i _ => l.length - (intOf i).toNat)
  case atStart => exact ⟨0, Nat.zero_le _, rfl, Lib.hid (hA0.out.congr fun n _ => (bitR_nil n).symm)⟩
  case round =>
    obtain ⟨k, hk, rfl, hA⟩ := hrel
    clear hA0
    obtain ⟨V, rfl⟩ : ∃ V, V = wr := ⟨_, rfl⟩
    have hbx := hA.out.box.cell
    by_cases hlt : k < l.length
    · have hkd : decide (k < l.length) = true := by simpa using hlt
      obtain ⟨p', cap', hpe, -, hc⟩ := Hid.out hA.out.hc
      simp only [Value.slice.injEq] at hpe
      obtain ⟨rfl, -, rfl⟩ := hpe
      obtain ⟨b, off, rfl, hb, y1, y2, y3⟩ := hc k hlt
      have hD := hs2.out l[k] (List.getElem_mem hlt)
      have hst := Lib.hid (fun n => bitR_step hlt n)
      clear hc
      generalize l[k] = x at y1 y2 y3 hD hst
      obtain ⟨ky, f, D⟩ := x
      simp only at y1 y2 y3 hD
      have ks := Lib.hid (Set_any f D V hD)
      go_wp2_with fail
      refine (ks.out).mono ?_
      rintro e W2 ⟨rfl, hb2⟩
      have hrd : Hid (readCh ⟨ky, f, D⟩ = readAll f (dn D)) := rfl
      generalize readAll f (dn D) = t at hrd ⊢
      have hA2 := Lib.hid ((hA.out.later hb2).alloc (.cells (bc t) 149))
      have hC2 := Lib.hid (Arr.new W2 t)
      have hsz2 := Lib.hid (show w.heap.size + 1 < W2.heap.size by have := hA.out.bo.lt; have := hb2.size; omega)
      clear ks hb2 y1 y2 y3 hA hbx
      go_wp2
      go_loopw [7] (fun i W => ∃ j : Nat, j ≤ 256 ∧ i = .int .i64 j ∧ Hid (SetAt7 w W (.slice (some ⟨b, off, none⟩) l.length cap) l (fun n => bitR (l.take k) n || bitC ⟨ky, f, D⟩ j n)) ∧ Hid (Arr W W2.heap.size t))
        (fun i _ => 256 - (intOf i).toNat)
      case atStart => exact ⟨0, Nat.zero_le _, rfl, Lib.hid (hA2.out.congr fun n _ => by rw [bitC_zero, Bool.or_false]), hC2⟩
      case round =>
        obtain ⟨j, hj, rfl, hM, hC⟩ := hrel
        clear hA2 hC2
        by_cases hkey : 0 ≤ ky ∧ ky < 256
        · obtain ⟨K, rfl⟩ : ∃ K : Nat, ky = K := ⟨ky.toNat, by omega⟩
          have hK : K < 256 := by omega
          have q1 : decide ((K : Int) ≥ 0) = true := by simp
          have q2 : decide ((K : Int) < 256) = true := by simp; omega
          by_cases hlt2 : j < 256
          · have q3 : decide ((j : Int) < 256) = true := by simp; omega
            have hm : 256 * K + j < 65536 := by omega
            have hi0 : (0 : Int) ≤ 256 * (K : Int) + (j : Int) := by omega
            have hi1 : 256 * (K : Int) + (j : Int) < 65536 := by omega
            have hi2 : (256 * (K : Int) + (j : Int)).toNat = 256 * K + j := by omega
            have c1 := hM.out.bo.cell hm
            have f1 := hM.out.bo.frozen (256 * K + j)
            have c2 := hC.out.cell hlt2
            rw [bitC_self (x := ⟨(K : Int), f, D⟩) (k := K) hlt2, Bool.or_false] at c1
            have hput : Hid (∀ u, (u = (bitR (l.take k) (256 * K + j) || t.testBit j)) → SetAt7 w (wr.setCell ⟨w.heap.size + 1, 256 * K + j, none⟩ (.bool u)) (.slice (some ⟨b, off, none⟩) l.length cap) l (fun n => bitR (l.take k) n || bitC ⟨(K : Int), f, D⟩ (j + 1) n)) := Lib.hid fun u hu => (hM.out.put hm u).congr fun n _ => by
              show (if n = 256 * K + j then u else bitR (l.take k) n || bitC ⟨(K : Int), f, D⟩ j n) = _
              rw [bitC_step (x := ⟨(K : Int), f, D⟩) (k := K) rfl hlt2, hrd.out]
              by_cases e : n = 256 * K + j
              · subst e; rw [if_pos rfl, if_pos rfl, hu]
              · rw [if_neg e, if_neg e]
            have hfar := Lib.hid (fun u => hC.out.far (p := ⟨w.heap.size + 1, 256 * K + j, none⟩) (by have := hsz2.out; show W2.heap.size ≠ w.heap.size + 1; omega) u)
            clear hst hkey hM hC
            generalize bitR (l.take k) (256 * K + j) = t1 at c1 hput
            cases t1 with
            | true =>
              go_wp2
              go_roundw
              case rel => exact ⟨j + 1, by omega, by go_num, Lib.hid (hput.out _ rfl), Lib.hid (hfar.out _)⟩
              case measure => simp [intOf]; omega
            | false =>
              go_wp2
              go_roundw
              case rel => exact ⟨j + 1, by omega, by go_num, Lib.hid (hput.out _ rfl), Lib.hid (hfar.out _)⟩
              case measure => simp [intOf]; omega
          · have q3 : decide ((j : Int) < 256) = false := by simp; omega
            obtain rfl : j = 256 := by omega
            go_wp2
            go_roundw
            case rel => exact ⟨k + 1, by omega, by go_num, Lib.hid (hM.out.congr fun n _ => (hst.out n).symm)⟩
            case measure => simp [intOf]; omega
        · have hout : Hid (∀ n, n < 65536 → (bitR (l.take k) n || bitC ⟨ky, f, D⟩ j n) = bitR (l.take (k + 1)) n) := Lib.hid fun n hn => by
            rw [hst.out n, bitC_out (x := ⟨ky, f, D⟩) (by show ky < 0 ∨ 256 ≤ ky; omega) hn, bitC_out (x := ⟨ky, f, D⟩) (by show ky < 0 ∨ 256 ≤ ky; omega) hn]
          have hM' := Lib.hid (hM.out.congr hout.out)
          clear hM hout hst
          by_cases h0 : 0 ≤ ky
          · have q1 : decide (ky ≥ 0) = true := by simpa using h0
            have q2 : decide (ky < 256) = false := by simp; omega
            obtain ⟨d, hd⟩ : ∃ d, decide ((j : Int) < 256) = d := ⟨_, rfl⟩
            cases d <;> (
              go_wp2
              go_roundw
              case rel => exact ⟨k + 1, by omega, by go_num, hM'⟩
              case measure => simp [intOf]; omega)
          · have q1 : decide (ky ≥ 0) = false := by simpa using h0
            obtain ⟨d, hd⟩ : ∃ d, decide ((j : Int) < 256) = d := ⟨_, rfl⟩
            cases d <;> (
              go_wp2
              go_roundw
              case rel => exact ⟨k + 1, by omega, by go_num, hM'⟩
              case measure => simp [intOf]; omega)
    · have hkd : decide (k < l.length) = false := by simpa using hlt
      have htk : l.take k = l := List.take_of_length_le (by omega)
      rw [htk] at hA
      clear htk
      go_wp2
      exact bodyPost_ret (v := .slice (some ⟨w.heap.size + 1, 0, none⟩) 65536 65536) (by simp [results, Tryd.results108, go_sem]) rfl ⟨_, rfl, hA.out.bo, by omega, hA.out.below⟩
end Go.Proofs.YtnigpmbpipmgfaaDoor
