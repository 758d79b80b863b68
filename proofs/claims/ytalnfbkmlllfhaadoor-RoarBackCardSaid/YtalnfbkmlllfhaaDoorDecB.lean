/-
  Dec7, Dec8: several texts in one (merge.py).
-/
import Derived.Test.YtalnfbkmlllfhaaDoorGetR
import Derived.Test.YtalnfbkmlllfhaaDoorAtB
import Derived.Test.YtalnfbkmlllfhaaDoorBoxes7

/-
  roar.Decode.
-/
namespace Go.Proofs.YtalnfbkmlllfhaaDoor
open Go.RowKit Go.Shelf Tess

theorem grown_set_new {W X : World} {r : Option Nat} (h : W.grownBy X r) {n : Nat} (hn : W.heap.size ≤ n) (j : Nat) (u : Value) : W.grownBy (X.setCell ⟨n, j, none⟩ u) r :=
  ⟨h.os, h.tape, h.output, by simpa using h.size, fun k hk hr => (Below.heap_setCell X ⟨n, j, none⟩ u k (by show k ≠ n; omega)).trans (h.block k hk hr)⟩

/-- What lies in memory while Decode works: the result, the chunks, the reader. -/
structure DecAt (w : World) (o : Nat) (W : World) (v : Value) (l : List Ch) (t : List UInt8) : Prop where
  lt : w.heap.size < o
  res : RBox W w.heap.size (.slice none 0 0)
  out : RBox W o v
  rd : SBox W (o + 1) 102 ⟨t.toArray⟩
  row : W.ownsRow (o + 2) 59 3 v l.length (chvs l)
  below : Below w.heap.size w W
theorem DecAt.later {w wr W : World} {o : Nat} {v : Value} {l : List Ch} {t : List UInt8} (h : DecAt w o wr v l t) (hb : Below wr.heap.size wr W) : DecAt w o W v l t :=
  ⟨h.lt, h.res.later hb, h.out.later hb, (hb.block _ (Boxed.lt h.rd)).trans h.rd, own_later h.row hb, h.below.trans (hb.mono h.below.size)⟩
theorem DecAt.alloc {w wr : World} {o : Nat} {v : Value} {l : List Ch} {t : List UInt8} (h : DecAt w o wr v l t) (x : Obj) : DecAt w o (wr.alloc x) v l t := h.later ((Below.refl _ wr).alloc (Nat.le_refl _) _)
theorem DecAt.start {w W : World} (hlt : w.heap.size < W.heap.size) (hb : Below w.heap.size w W) (hr : RBox W w.heap.size (.slice none 0 0)) (t : List UInt8) :
    DecAt w W.heap.size ((W.alloc (.cells #[.slice none 0 0] 24)).alloc (.cells #[.string ⟨t.toArray⟩] 102)) (.slice none 0 0) [] t := by
  have h1 := Boxed.new (W.alloc (.cells #[.slice none 0 0] 24)) 102 (.string ⟨t.toArray⟩)
  rw [World.size_alloc] at h1
  exact ⟨hlt, (hr.alloc _).alloc _, (RBox.new W _).alloc _, h1, World.ownsRow_nil _ _ _ _, (hb.alloc hb.size _).alloc (by have := hb.size; simp; omega) _⟩
/-- The reader has read. -/
theorem DecAt.read {w wr W : World} {o : Nat} {v : Value} {l : List Ch} {t t' : List UInt8} (h : DecAt w o wr v l t) (hg : wr.grownBy W (some (o + 1))) (hs : SBox W (o + 1) 102 ⟨t'.toArray⟩) : DecAt w o W v l t' := by
  have hl := h.lt
  refine ⟨hl, h.res.grown hg (fun e => by have := Option.some.inj e; omega), h.out.grown hg (fun e => by have := Option.some.inj e; omega), hs, h.row.kept hg ?_, h.below.grown hg h.below.size (fun k e => by cases e; omega)⟩
  cases hv : v.ownBlock with
  | none => left; rfl
  | some g => right; have := (h.row.lt g hv).1; simp; omega
/-- One chunk more. -/
theorem DecAt.appended {w wr W : World} {o : Nat} {v v' : Value} {l : List Ch} {t : List UInt8} (h : DecAt w o wr v l t) (x : Ch) (hown : W.ownsRow (o + 2) 59 3 v' (l.length + 1) (chvs l ++ [.int .i64 x.key, .int .i64 x.form, .string x.data])) (hg : wr.grownBy W v.ownBlock) :
    DecAt w o (W.setCell ⟨o, 0, none⟩ v') v' (l ++ [x]) t := by
  have hl := h.lt
  have hne : ∀ g, v.ownBlock = some g → o + 2 ≤ g := fun g hg => (h.row.lt g hg).1
  have hne' : ∀ g, v'.ownBlock = some g → o + 2 ≤ g := fun g hg => (hown.lt g hg).1
  have r1 := h.res.grown hg (fun e => by have := hne _ e.symm; omega)
  have r2 := h.out.grown hg (fun e => by have := hne _ e.symm; omega)
  have r3 : SBox W (o + 1) 102 ⟨t.toArray⟩ := Boxed.kept h.rd hg (fun e => by have := hne _ e.symm; omega)
  refine ⟨hl, r1.far (by show w.heap.size ≠ o; omega) _, r2.set _, (Below.heap_setCell W ⟨o, 0, none⟩ _ (o + 1) (by show o + 1 ≠ o; omega)).trans r3, ?_, (h.below.grown hg h.below.size (fun g hg => by have := hne g hg; omega)).setCell (p := ⟨o, 0, none⟩) (by show _ ≤ o; omega) _⟩
  rw [chvs_append, List.length_append]
  refine World.ownsRow.kept hown (grown_cell W ⟨o, 0, none⟩ _) ?_
  cases hv : v'.ownBlock with
  | none => left; rfl
  | some g => right; have := hne' g hv; simp; omega

/-- Behind Decode. -/
def DecPost (w : World) (s : ByteArray) (e : Ending) (W' : World) : Prop :=
  ∃ v, e = .returned (.tuple #[.agg #[v], .string ⟨(decR (sl s)).2.1.toArray⟩, .int .i64 (decR (sl s)).2.2]) ∧ HC W' v (decR (sl s)).1 ∧ Below w.heap.size w W'
/-- How far it is. -/
def DecRel (n : Nat) (rest : List UInt8) (m : Nat) (acc : List Ch) (t : List UInt8) (er : Er) : Prop :=
  (acc.length + m ≤ 256 ∧ (∀ x ∈ acc, x.data.size ≤ 256) ∧ t.length ≤ rest.length) ∧ ((er = .ok ∧ decC n rest = (decC m t).map fun p => (acc ++ p.1, p.2)) ∨ (er = .more ∧ decC n rest = none))
theorem DecRel.start {n : Nat} {rest : List UInt8} (h : n ≤ 256) : DecRel n rest n [] rest .ok :=
  ⟨⟨by simpa using h, (fun x hx => by cases hx), Nat.le_refl _⟩, .inl ⟨rfl, by
    cases decC n rest with
    | none => rfl
    | some p => rfl⟩⟩
theorem DecRel.step {n m : Nat} {rest t : List UInt8} {acc : List Ch} (h : DecRel n rest (m + 1) acc t .ok) : DecRel n rest m (acc ++ [(chunkV t).1]) (chunkV t).2.1 (chunkV t).2.2 := by
  obtain ⟨⟨h1, h2, h3⟩, h4⟩ := h
  have hl := chunkV_len t
  refine ⟨⟨by simp; omega, fun x hx => ?_, by omega⟩, ?_⟩
  · rcases List.mem_append.1 hx with hx | hx
    · exact h2 x hx
    · rw [List.mem_singleton.1 hx]; exact hl.2
  · rcases h4 with ⟨_, h4⟩ | ⟨h4, _⟩
    · rcases chunkV_er t with he | he
      · refine .inl ⟨he, ?_⟩
        rw [h4, decC_ok he, Option.map_map]
        congr 1
        funext p
        simp
      · refine .inr ⟨he, ?_⟩
        rw [h4, decC_more (by rw [he]; intro h; cases h)]
        rfl
    · cases h4
theorem decR_err {l : List UInt8} (h : (getV l).2.2 ≠ 0) : decR l = ([], l, (getV l).2.2) := by unfold decR; rw [if_pos h]
theorem decR_big {l : List UInt8} (h : (getV l).2.2 = 0) (h2 : 256 < (getV l).1) : decR l = ([], l, 70) := by unfold decR; rw [if_neg (by rw [h]; simp), if_pos h2]
theorem decR_none {l : List UInt8} (h : (getV l).2.2 = 0) (h2 : ¬ 256 < (getV l).1) (h3 : decC (getV l).1 (getV l).2.1 = none) : decR l = ([], l, 21) := by
  unfold decR; rw [if_neg (by rw [h]; simp), if_neg h2, h3]
theorem decR_some {l t : List UInt8} {acc : List Ch} (h : (getV l).2.2 = 0) (h2 : ¬ 256 < (getV l).1) (h3 : decC (getV l).1 (getV l).2.1 = some (acc, t)) : decR l = if rightL acc = true then (acc, t, 0) else ([], l, 70) := by
  unfold decR; rw [if_neg (by rw [h]; simp), if_neg h2, h3]
end Go.Proofs.YtalnfbkmlllfhaaDoor

/-
  roar.Decode: the walk.
-/
namespace Go.Proofs.YtalnfbkmlllfhaaDoor
open Go.RowKit Go.Shelf Tess

theorem fin_fail {w W : World} {s : ByteArray} {e : Int} (hd : Hid (decR (sl s) = ([], sl s, e))) (hb : Below w.heap.size w W) : DecPost w s (.returned (.tuple #[.agg #[.slice none 0 0], .string s, .int .i64 e])) W :=
  ⟨_, by rw [hd.out, sl_back], by rw [hd.out]; exact HC.nil _ _ _, hb⟩
theorem getV_len (l : List UInt8) : (getV l).2.1.length ≤ l.length := by
  unfold getV
  split
  · split
    · exact Nat.le_refl _
    · simp
  · exact Nat.le_refl _
set_option maxRecDepth 100000 in
set_option maxHeartbeats 8000000 in
theorem decode_any (s : ByteArray) {va vn ra rn : Addr} (w : World) (hs : s.size ≤ maxLen) (hT : Tab w) (hv : Sent w 2 3 va vn) (hr : Sent w 1 0 ra rn) :
    Calls Tryd.prog 33 #[.string s] w (DecPost w s) := by
  obtain ⟨i0, hi, hz0, hz1, hz2⟩ := info_parts info_chunk
  have hB0 := (Below.refl w.heap.size w).alloc (Nat.le_refl _) (.cells #[.slice none 0 0] 24)
  have hx0 := RBox.new w (.slice none 0 0)
  have hk := Lib.hid (get_any s _ hs (hv.later hB0))
  clear hv
  go_enter Tryd.func33, Tryd.ntmps33
  go_wp2_with fail
  refine (hk.out).mono ?_
  rintro e W1 ⟨rfl, hb1⟩
  have hB1 := Lib.hid (hB0.trans (hb1.mono hB0.size))
  have hx1 := hx0.later hb1
  have hlt1 := Lib.hid hx1.lt
  clear hk hB0 hx0 hb1
  by_cases hge : (getV (sl s)).2.2 = 0
  · have hgr : (getV (sl s)).2.1.length ≤ s.size := getV_len (sl s)
    by_cases hbig : 256 < (getV (sl s)).1
    · have hfin := Lib.hid (decR_big hge hbig)
      obtain ⟨n, hn⟩ : ∃ n, (getV (sl s)).1 = n := ⟨_, rfl⟩
      rw [hge, hn]
      rw [hn] at hbig
      have hnd : decide ((256 : Int) < (n : Int)) = true := decide_eq_true (by omega)
      generalize (getV (sl s)).2.1 = rest
      have hA := Lib.hid (DecAt.start hlt1.out hB1.out hx1 rest)
      obtain ⟨g1, g2⟩ := (hr.later hB1.out).cells
      have hr2 : Hid (Calls Tryd.prog 60 #[ev rn] ((W1.alloc (.cells #[.slice none 0 0] 24)).alloc (.cells #[.string ⟨rest.toArray⟩] 102)) fun e W' => e = .returned (.int .i64 70) ∧ _ = W') := Lib.hid (rtold_any ((hr.later hA.out.below)) .none)
      have y1 := hA.out.res.cell
      have y2 := hA.out.res.frozen
      clear hge hn hr hx1 hbig hgr
      go_wp2_with fail
      refine wp_loop_rounds 1 ?_
      rw [rounds_succ]
      go_wp2_with fail
      refine (hr2.out).mono ?_
      rintro e W2 ⟨rfl, rfl⟩
      go_wp2
      have hrs := (hA.out.res.set (.slice none 0 0)).cell
      exact bodyPost_ret (v := .tuple #[.agg #[.slice none 0 0], .string s, .int .i64 70]) (by simp [results, Tryd.results33, go_sem, hrs]) rfl (fin_fail hfin (hA.out.below.setCell (p := ⟨w.heap.size, 0, none⟩) (Nat.le_refl _) _))
    · obtain ⟨n, hn⟩ : ∃ n, (getV (sl s)).1 = n := ⟨_, rfl⟩
      obtain ⟨rest, hrest⟩ : ∃ rest, (getV (sl s)).2.1 = rest := ⟨_, rfl⟩
      have hnone := Lib.hid (decR_none hge hbig)
      have hsome := Lib.hid (fun t acc => @decR_some (sl s) t acc hge hbig)
      rw [hn, hrest] at hnone hsome
      rw [hrest] at hgr
      rw [hge, hn, hrest]
      rw [hn] at hbig
      have hnd : decide ((256 : Int) < (n : Int)) = false := decide_eq_false (by omega)
      have hA := Lib.hid (DecAt.start hlt1.out hB1.out hx1 rest)
      have hrel0 := Lib.hid (DecRel.start (rest := rest) (show n ≤ 256 by omega))
      have hr' := Lib.hid (fun W (hb : Below w.heap.size w W) => hr.later hb)
      have hT' := Lib.hid (fun W (hb : Below w.heap.size w W) => hT.below hb hT.lt)
      have hsr := Lib.hid (show rest.length ≤ maxLen by omega)
      clear hge hn hrest hx1 hbig hgr hr hT
      go_wp2_with fail
      go_loopw [5, 8] (fun i u wr => ∃ (m : Nat) (acc : List Ch) (v : Value) (t : List UInt8) (er : Er), i = .int .u64 m ∧ u = er.val ra rn ∧ Hid (DecRel n rest m acc t er) ∧ Hid (DecAt w W1.heap.size wr v acc t))
        (fun i _ _ => (intOf i).toNat)
      case atStart => exact ⟨n, [], _, rest, .ok, rfl, rfl, hrel0, hA⟩
      case round =>
        obtain ⟨m, acc, v, t, er, rfl, rfl, hR, hA1⟩ := hrel
        clear hA hrel0
        have hy1 := hA1.out.res.cell
        have hy2 := hA1.out.res.frozen
        cases er with
        | none => exact absurd hR.out.2 (by rintro (⟨h, _⟩ | ⟨h, _⟩) <;> cases h)
        | more =>
          have hd : Hid (decR (sl s) = ([], sl s, 21)) := by
            rcases hR.out.2 with ⟨h, _⟩ | ⟨_, h⟩
            · cases h
            · exact Lib.hid (hnone.out h)
          have hr2 : Hid (Calls Tryd.prog 60 #[ev ra] wr fun e W' => e = .returned (.int .i64 21) ∧ wr = W') := Lib.hid (rtold_any (hr'.out _ hA1.out.below) .more)
          have hrs := (hA1.out.res.set (.slice none 0 0)).cell
          have hbl := Lib.hid (hA1.out.below.setCell (p := ⟨w.heap.size, 0, none⟩) (Nat.le_refl _) (.slice none 0 0))
          clear hR hA1
          rw [show Er.val ra rn .more = ev ra from rfl]
          go_wp2_with fail
          refine (hr2.out).mono ?_
          rintro e W2 ⟨rfl, rfl⟩
          go_wp2
          exact bodyPost_ret (v := .tuple #[.agg #[.slice none 0 0], .string s, .int .i64 21]) (by simp [results, Tryd.results33, go_sem, hrs]) rfl (fin_fail hd hbl.out)
        | ok =>
          rw [show Er.val ra rn .ok = .nilIface from rfl]
          by_cases hm : 0 < m
          · have hmd : decide ((0 : Int) < (m : Int)) = true := decide_eq_true (by omega)
            obtain ⟨m', rfl⟩ : ∃ m', m = m' + 1 := ⟨m - 1, by omega⟩
            have hst := Lib.hid hR.out.step
            have hal := hR.out.1
            have hck := Lib.hid (chunk_any t (W1.heap.size + 1) (am := ra) (an := rn) (wr.alloc (.cells #[.int .i64 0, .int .i64 0, .string ⟨#[]⟩] 59)) (Nat.le_trans hal.2.2 hsr.out) (hA1.out.alloc _).rd (Lib.hid fun W' hg => hr'.out _ (below_of_grown (hA1.out.alloc _).below hg (by have := hlt1.out; omega))))
            have hlen := hal.1
            clear hR hal hsr
            go_wp2_with fail
            refine (hck.out).mono ?_
            rintro e W2 ⟨rfl, hg2, hs2⟩
            have holt : W1.heap.size + 1 < wr.heap.size := Boxed.lt hA1.out.rd
            have hK2 : KBox W2 wr.heap.size ⟨0, 0, ⟨#[]⟩⟩ := KBox.grown (KBox.new wr ⟨0, 0, ⟨#[]⟩⟩) hg2 (fun e => by have := Option.some.inj e; omega)
            have hg3 : wr.grownBy W2 (some (W1.heap.size + 1)) := grown_trans (grown_more (World.grownBy_alloc _ _ none)) hg2
            have hsz : wr.heap.size < W2.heap.size := hK2.lt
            have hA2 := hA1.out.read hg3 hs2
            obtain ⟨k0, k1, k2⟩ := hK2.cells
            have k3 := hK2.frozen 0
            have k4 := hK2.frozen 1
            have k5 := hK2.frozen 2
            clear hck hy1 hy2 hg2 hK2
            revert hst hg3 hs2 hA2
            generalize chunkV t = r
            obtain ⟨⟨ky, f, D⟩, t', er'⟩ := r
            intro hst hs2 hg3 hA2
            simp only at hst hg3 hs2 hA2
            have hs3 : SBox (((W2.setCell ⟨wr.heap.size, 0, none⟩ (.int .i64 ky)).setCell ⟨wr.heap.size, 1, none⟩ (.int .i64 f)).setCell ⟨wr.heap.size, 2, none⟩ (.string D)) (W1.heap.size + 1) 102 ⟨t'.toArray⟩ := (Below.heap_setCell _ _ _ _ (by show W1.heap.size + 1 ≠ wr.heap.size; omega)).trans ((Below.heap_setCell _ _ _ _ (by show W1.heap.size + 1 ≠ wr.heap.size; omega)).trans ((Below.heap_setCell _ _ _ _ (by show W1.heap.size + 1 ≠ wr.heap.size; omega)).trans hs2))
            have hA4 := Lib.hid (hA1.out.read (grown_set_new (grown_set_new (grown_set_new hg3 (Nat.le_refl _) 0 (.int .i64 ky)) (Nat.le_refl _) 1 (.int .i64 f)) (Nat.le_refl _) 2 (.string D)) hs3)
            have hrow := hA4.out.row
            have oc := hA2.out.cell
            have of := hA2.out.frozen
            have hne1 : W1.heap.size ≠ wr.heap.size := by omega
            have hne2 : wr.heap.size ≠ W1.heap.size := by omega
            have hsz2 := Lib.hid hA4.out.out.lt
            have hnew := cells_three_new (((W2.setCell ⟨wr.heap.size, 0, none⟩ (.int .i64 ky)).setCell ⟨wr.heap.size, 1, none⟩ (.int .i64 f)).setCell ⟨wr.heap.size, 2, none⟩ (.string D)) (.int .i64 ky) (.int .i64 f) (.string D) 59
            rw [show (((W2.setCell ⟨wr.heap.size, 0, none⟩ (.int .i64 ky)).setCell ⟨wr.heap.size, 1, none⟩ (.int .i64 f)).setCell ⟨wr.heap.size, 2, none⟩ (.string D)).heap.size = W2.heap.size by simp] at hnew
            have hnew' := Lib.hid hnew
            clear hnew hs3 hs2 hg3 hA2 hA1 holt
            go_wp2_with (at_builtin; refine wpList_append_own _ rfl _ _ 22 rfl (W1.heap.size + 2) 59 i0 (.agg #[.int .i64 0, .int .i64 0, .string ⟨#[]⟩]) 3 32 Tryd.underlying22 hi hz0 hz1 hz2 rfl (by decide) _ _ _ rfl (hrow.alloc _) ⟨W2.heap.size, 0, none⟩ 1 1 [.int .i64 ky, .int .i64 f, .string D] rfl rfl hnew'.out (by simp [Value.oneCell']) (by unfold maxLen; omega) (by omega) (by have := hsz2.out; simp at this; simp; omega) ?_; intro v' w1 hown' hgrow _; have hF := (hA4.out.alloc (.cells #[.int .i64 ky, .int .i64 f, .string D] 59)).out.grown hgrow (fun e => by have := (hrow.lt _ e.symm).1; omega); have oc1 := hF.cell; have of1 := hF.frozen; obtain ⟨g', cap', rfl⟩ := ownsRow_succ hown')
            have hApp := (hA4.out.alloc (.cells #[.int .i64 ky, .int .i64 f, .string D] 59)).appended ⟨ky, f, D⟩ hown' hgrow
            exact ⟨⟨m', acc ++ [⟨ky, f, D⟩], _, t', er', rfl, rfl, hst, Lib.hid hApp⟩, by simp [intOf]⟩
          · obtain rfl : m = 0 := by omega
            have hmd : decide ((0 : Int) < ((0 : Nat) : Int)) = false := by decide
            have hd : decC n rest = some (acc, t) := by
              rcases hR.out.2 with ⟨_, h⟩ | ⟨h, _⟩
              · rw [h]
                show some (acc ++ [], t) = _
                rw [List.append_nil]
              · cases h
            have hd' := Lib.hid (hsome.out t acc hd)
            have hal := hR.out.1
            have hv0 := HC.of_row hA1.out.row
            obtain ⟨pp, cc, rfl, -, -⟩ := Hid.out hv0
            have hrg := Lib.hid (right_any hv0 (by have := hal.1; omega) (fun x hx => Nat.le_trans (hal.2.1 x hx) (by decide)) (hT'.out _ hA1.out.below))
            have y1 := hA1.out.out.cell
            clear hR hal hd hsome hnone
            go_wp2_with fail
            refine (hrg.out).mono ?_
            rintro e W2 ⟨rfl, hb2⟩
            have hA2 := Lib.hid (hA1.out.later hb2)
            have hv2 := hv0.later hb2
            have y1 := hA2.out.out.cell
            have y3 := hA2.out.res.cell
            have y4 := hA2.out.res.frozen
            have y5 := Boxed.cell hA2.out.rd
            clear hrg hb2 hA1 hv0 hy1 hy2
            cases hrr : rightL acc with
            | true =>
              have hd2 : Hid (decR (sl s) = (acc, t, 0)) := by show _ = _; rw [hd'.out, hrr]; rfl
              clear hd' hrr
              have q1 : ¬ W1.heap.size + 1 = w.heap.size := by have := hlt1.out; omega
              have q2 : ¬ w.heap.size = W1.heap.size + 1 := by have := hlt1.out; omega
              have q3 : ¬ W1.heap.size = w.heap.size := by have := hlt1.out; omega
              have q4 : ¬ w.heap.size = W1.heap.size := by have := hlt1.out; omega
              have hrs := (hA2.out.res.set (.slice pp acc.length cc)).cell
              have hbl := Lib.hid (hA2.out.below.setCell (p := ⟨w.heap.size, 0, none⟩) (Nat.le_refl _) (.slice pp acc.length cc))
              have hvs := Lib.hid (hv2.setR hA2.out.res (.slice pp acc.length cc))
              go_wp2
              go_region
              all_goals go_wp2
              all_goals exact bodyPost_ret (v := .tuple #[.agg #[.slice pp acc.length cc], .string ⟨t.toArray⟩, .int .i64 0]) (by simp [results, Tryd.results33, go_sem, hrs]) rfl ⟨_, by rw [hd2.out], by rw [hd2.out]; exact hvs.out.later (Below.drew (Below.refl _ _)), Below.drew hbl.out⟩
            | false =>
              have hd2 : Hid (decR (sl s) = ([], sl s, 70)) := by show _ = _; rw [hd'.out, hrr]; rfl
              obtain ⟨g1, g2⟩ := (hr'.out _ hA2.out.below).cells
              have hr2 : Hid (Calls Tryd.prog 60 #[ev rn] W2 fun e W' => e = .returned (.int .i64 70) ∧ W2 = W') := Lib.hid (rtold_any (hr'.out _ hA2.out.below) .none)
              have hrs := (hA2.out.res.set (.slice none 0 0)).cell
              have hbl := Lib.hid (hA2.out.below.setCell (p := ⟨w.heap.size, 0, none⟩) (Nat.le_refl _) (.slice none 0 0))
              clear hd' hrr
              go_wp2_with fail
              refine (hr2.out).mono ?_
              rintro e W3 ⟨rfl, rfl⟩
              go_wp2
              exact bodyPost_ret (v := .tuple #[.agg #[.slice none 0 0], .string s, .int .i64 70]) (by simp [results, Tryd.results33, go_sem, hrs]) rfl (fin_fail hd2 hbl.out)
  · have hfin := Lib.hid (decR_err hge)
    obtain ⟨e, he⟩ : ∃ e, (getV (sl s)).2.2 = e := ⟨_, rfl⟩
    rw [he]
    rw [he] at hge hfin
    have hed : (e == 0) = false := beq_false_of_ne hge
    have y1 := hx1.cell
    have y2 := hx1.frozen
    clear he hge hr
    have hed2 : (e != 0) = true := by simp [bne, hed]
    have hrs := (hx1.set (.slice none 0 0)).cell
    go_wp2
    exact bodyPost_ret (v := .tuple #[.agg #[.slice none 0 0], .string s, .int .i64 e]) (by simp [results, Tryd.results33, go_sem, hrs]) rfl (fin_fail hfin (hB1.out.setCell (p := ⟨w.heap.size, 0, none⟩) (Nat.le_refl _) _))
end Go.Proofs.YtalnfbkmlllfhaaDoor
