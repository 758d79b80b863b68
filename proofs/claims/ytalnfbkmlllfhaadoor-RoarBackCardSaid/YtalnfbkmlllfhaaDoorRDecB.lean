/-
  RDec7, REnc7: several texts in one (merge.py).
-/
import Derived.Deep.AppendLies
import Derived.Deep.RegionLaw
import Derived.Test.YtalnfbkmlllfhaaDoorDecB
import Derived.Test.YtalnfbkmlllfhaaDoorRRight7
import Derived.Deep.RegionHeld3
import Derived.IntWalk
import Derived.Test.YtalnfbkmlllfhaaDoorBoxes7

/-
  The reference's Decode.
-/
namespace Go.Proofs.YtalnfbkmlllfhaaDoor
open Go.RowKit Go.Shelf Tess

/-- What lies in memory while the reference's Decode works. -/
structure RDecAt (w : World) (o : Nat) (W : World) (v : Value) (l : List Ch) : Prop where
  lt : w.heap.size < o
  res : RBox W w.heap.size (.slice none 0 0)
  out : RBox W o v
  row : W.ownsRow (o + 1) 59 3 v l.length (chvs l)
  below : Below w.heap.size w W
theorem RDecAt.later {w wr W : World} {o : Nat} {v : Value} {l : List Ch} (h : RDecAt w o wr v l) (hb : Below wr.heap.size wr W) : RDecAt w o W v l :=
  ⟨h.lt, h.res.later hb, h.out.later hb, own_later h.row hb, h.below.trans (hb.mono h.below.size)⟩
theorem RDecAt.alloc {w wr : World} {o : Nat} {v : Value} {l : List Ch} (h : RDecAt w o wr v l) (x : Obj) : RDecAt w o (wr.alloc x) v l := h.later ((Below.refl _ wr).alloc (Nat.le_refl _) _)
theorem RDecAt.start {w W : World} (hlt : w.heap.size < W.heap.size) (hb : Below w.heap.size w W) (hr : RBox W w.heap.size (.slice none 0 0)) :
    RDecAt w W.heap.size (W.alloc (.cells #[.slice none 0 0] 24)) (.slice none 0 0) [] :=
  ⟨hlt, hr.alloc _, RBox.new W _, World.ownsRow_nil _ _ _ _, hb.alloc hb.size _⟩
theorem RDecAt.appended {w wr W : World} {o : Nat} {v v' : Value} {l : List Ch} (h : RDecAt w o wr v l) (x : Ch) (hown : W.ownsRow (o + 1) 59 3 v' (l.length + 1) (chvs l ++ [.int .i64 x.key, .int .i64 x.form, .string x.data])) (hg : wr.grownBy W v.ownBlock) :
    RDecAt w o (W.setCell ⟨o, 0, none⟩ v') v' (l ++ [x]) := by
  have hl := h.lt
  have hne : ∀ g, v.ownBlock = some g → o + 1 ≤ g := fun g hg => (h.row.lt g hg).1
  have hne' : ∀ g, v'.ownBlock = some g → o + 1 ≤ g := fun g hg => (hown.lt g hg).1
  have r1 := h.res.grown hg (fun e => by have := hne _ e.symm; omega)
  have r2 := h.out.grown hg (fun e => by have := hne _ e.symm; omega)
  refine ⟨hl, r1.far (by show w.heap.size ≠ o; omega) _, r2.set _, ?_, (h.below.grown hg h.below.size (fun g hg => by have := hne g hg; omega)).setCell (p := ⟨o, 0, none⟩) (by show _ ≤ o; omega) _⟩
  rw [chvs_append, List.length_append]
  refine World.ownsRow.kept hown (grown_cell W ⟨o, 0, none⟩ _) ?_
  cases hv : v'.ownBlock with
  | none => left; rfl
  | some g => right; have := hne' g hv; simp; omega

set_option maxRecDepth 100000 in
set_option maxHeartbeats 8000000 in
theorem rdecode_any (s : ByteArray) (w : World) (hs : s.size ≤ maxLen) :
    Calls Tryd.prog 35 #[.string s] w (DecPost w s) := by
  obtain ⟨i0, hi, hz0, hz1, hz2⟩ := info_parts info_chunk
  have hB0 := (Below.refl w.heap.size w).alloc (Nat.le_refl _) (.cells #[.slice none 0 0] 24)
  have hx0 := RBox.new w (.slice none 0 0)
  have hk := Lib.hid (rget_any s (w.alloc (.cells #[.slice none 0 0] 24)) hs)
  go_enter Tryd.func35, Tryd.ntmps35
  go_wp2_with fail
  refine (hk.out).mono ?_
  rintro e W1 ⟨rfl, hb1⟩
  have hB1 := Lib.hid (hB0.trans (hb1.mono hB0.size))
  have hx1 := hx0.later hb1
  have hlt1 := Lib.hid hx1.lt
  clear hk hB0 hx0 hb1
  by_cases hge : (getV (sl s)).2.2 = 0
  · have hgr : (getV (sl s)).2.1.length ≤ s.size := getV_len (sl s)
    by_cases hbig : 256 < (getV (sl s)).1
    · have hfin := Lib.hid (decR_big hge hbig)
      obtain ⟨n, hn⟩ : ∃ n, (getV (sl s)).1 = n := ⟨_, rfl⟩
      rw [hge, hn]
      rw [hn] at hbig
      have hnd : decide ((256 : Int) < (n : Int)) = true := decide_eq_true (by omega)
      have hrs := (hx1.set (.slice none 0 0)).cell
      have y1 := hx1.cell
      have y2 := hx1.frozen
      clear hge hn hbig hgr
      go_wp2
      exact bodyPost_ret (v := .tuple #[.agg #[.slice none 0 0], .string s, .int .i64 70]) (by simp [results, Tryd.results35, go_sem, hrs]) rfl (fin_fail hfin (hB1.out.setCell (p := ⟨w.heap.size, 0, none⟩) (Nat.le_refl _) _))
    · obtain ⟨n, hn⟩ : ∃ n, (getV (sl s)).1 = n := ⟨_, rfl⟩
      obtain ⟨rest, hrest⟩ : ∃ rest, (getV (sl s)).2.1 = rest := ⟨_, rfl⟩
      have hnone := Lib.hid (decR_none hge hbig)
      have hsome := Lib.hid (fun t acc => @decR_some (sl s) t acc hge hbig)
      rw [hn, hrest] at hnone hsome
      rw [hrest] at hgr
      rw [hge, hn, hrest]
      rw [hn] at hbig
      have hnd : decide ((256 : Int) < (n : Int)) = false := decide_eq_false (by omega)
      have hA := Lib.hid (RDecAt.start hlt1.out hB1.out hx1)
      have hrel0 := Lib.hid (DecRel.start (rest := rest) (show n ≤ 256 by omega))
      have hn256 := Lib.hid (show n ≤ 256 by omega)
      clear hge hn hrest hx1 hbig hgr
      go_wp2_with fail
      go_loopw [6, 9] (fun u i wr => ∃ (k : Nat) (acc : List Ch) (v : Value) (S : ByteArray), k ≤ n ∧ i = .int .u64 k ∧ u = .string S ∧ Hid (DecRel n rest (n - k) acc (sl S) .ok) ∧ Hid (RDecAt w W1.heap.size wr v acc))
        (fun _ i _ => n - (intOf i).toNat)
      case atStart => exact ⟨0, [], _, _, Nat.zero_le _, rfl, rfl, by rw [sl_mk]; exact hrel0, hA⟩
      case round =>
        obtain ⟨k, acc, v, S, hkn, rfl, rfl, hR, hA1⟩ := hrel
        clear hA hrel0
        have hy1 := hA1.out.res.cell
        have hy2 := hA1.out.res.frozen
        have oc := hA1.out.out.cell
        have of := hA1.out.out.frozen
        by_cases hlt : k < n
        · have hkd : decide ((k : Int) < (n : Int)) = true := decide_eq_true (by omega)
          obtain ⟨m, hm⟩ : ∃ m, n - k = m + 1 := ⟨n - k - 1, by omega⟩
          have hm' : n - (k + 1) = m := by omega
          rw [hm] at hR
          have hd : decC n rest = (decC (m + 1) (sl S)).map fun p => (acc ++ p.1, p.2) := by
            rcases hR.out.2 with ⟨_, h⟩ | ⟨h, _⟩
            · exact h
            · cases h
          rcases three (sl S) with ⟨h3, -, h3n⟩ | ⟨ky, f, b, u, hS⟩
          · have hd2 : Hid (decR (sl s) = ([], sl s, 21)) := Lib.hid (hnone.out (by rw [hd, h3n]; rfl))
            have hS3 : decide ((S.size : Int) < 3) = true := decide_eq_true (by rw [sl_len] at h3; omega)
            have hrs := (hA1.out.res.set (.slice none 0 0)).cell
            have hbl := Lib.hid (hA1.out.below.setCell (p := ⟨w.heap.size, 0, none⟩) (Nat.le_refl _) (.slice none 0 0))
            clear hR hA1 hd h3 h3n hm hm' hsome hnone
            go_wp2
            exact bodyPost_ret (v := .tuple #[.agg #[.slice none 0 0], .string s, .int .i64 21]) (by simp [results, Tryd.results35, go_sem, hrs]) rfl (fin_fail hd2 hbl.out)
          · have hsz : S.size = u.length + 3 := by rw [← sl_len, hS]; rfl
            have b0 : 0 < S.size := by omega
            have b1 : 1 < S.size := by omega
            have b2 : 2 < S.size := by omega
            have i0' : S[0]'b0 = ky := by rw [← sl_get b0]; simp only [hS]; rfl
            have i1' : S[1]'b1 = f := by rw [← sl_get b1]; simp only [hS]; rfl
            have i2' : S[2]'b2 = b := by rw [← sl_get b2]; simp only [hS]; rfl
            have hb8 := UInt8.toNat_lt b
            obtain ⟨q, hq⟩ : ∃ q : Nat, 4 + b.toNat = q := ⟨_, rfl⟩
            have hq1 : (4 : Int) + (b.toNat : Int) = (q : Int) := by omega
            have hb9 : (b.toNat : Int) < 256 := by omega
            have hk8 := UInt8.toNat_lt ky
            have hf8 := UInt8.toNat_lt f
            have hk9 : (ky.toNat : Int) < 256 := by omega
            have hf9 : (f.toNat : Int) < 256 := by omega
            have hk10 : Hid (IntKind.i64.wrap (ky.toNat : Int) = (ky.toNat : Int)) := IntWalk.i64_in _ (by omega)
            have hf10 : Hid (IntKind.i64.wrap (f.toNat : Int) = (f.toNat : Int)) := IntWalk.i64_in _ (by omega)
            have hS3 : decide ((S.size : Int) < 3) = false := decide_eq_false (by omega)
            have hS2 : (2 : Int) < (S.size : Int) := by omega
            have hS1 : (1 : Int) < (S.size : Int) := by omega
            have hS0 : (0 : Int) < (S.size : Int) := by omega
            by_cases hc : S.size < q
            · have hd2 : Hid (decR (sl s) = ([], sl s, 21)) := Lib.hid (hnone.out (by rw [hd, hS, decC_cons, if_pos (by omega)]; rfl))
              have hSq : decide ((S.size : Int) < (q : Int)) = true := decide_eq_true (by omega)
              have hSqN : decide (S.size < q) = true := decide_eq_true hc
              have hrs := (hA1.out.res.set (.slice none 0 0)).cell
              have hbl := Lib.hid (hA1.out.below.setCell (p := ⟨w.heap.size, 0, none⟩) (Nat.le_refl _) (.slice none 0 0))
              clear hR hA1 hd hm hm' hsome hnone hS hq hc hsz
              go_wp2
              exact bodyPost_ret (v := .tuple #[.agg #[.slice none 0 0], .string s, .int .i64 21]) (by simp [results, Tryd.results35, go_sem, hrs]) rfl (fin_fail hd2 hbl.out)
            · have hSq : decide ((S.size : Int) < (q : Int)) = false := decide_eq_false (by omega)
              have hSqN : decide (S.size < q) = false := decide_eq_false hc
              have hSq2 : (q : Int) ≤ (S.size : Int) := by omega
              have hSq3 : (3 : Int) ≤ (q : Int) := by omega
              have hcv : chunkV (sl S) = (⟨(ky.toNat : Int), (f.toNat : Int), ⟨(u.take (1 + b.toNat)).toArray⟩⟩, u.drop (1 + b.toNat), .ok) := by rw [hS, chunkV_cons, if_neg (by omega)]
              have hst := hR.out.step
              rw [hcv] at hst
              simp only at hst
              have hD : Hid (S.extract 3 q = ⟨(u.take (1 + b.toNat)).toArray⟩) := by
                show _ = _
                apply ba_ext
                rw [sl_ext, hS, show q = 3 + (1 + b.toNat) by omega]
                refine Eq.trans ?_ (sl_mk _).symm
                rw [show (ky :: f :: b :: u).take (3 + (1 + b.toNat)) = ky :: f :: b :: u.take (1 + b.toNat) by rw [Nat.add_comm 3]; rfl]
                rfl
              have hE : Hid (sl (S.extract q S.size) = u.drop (1 + b.toNat)) := by
                show _ = _
                rw [ext_drop]
                refine (sl_mk _).trans ?_
                rw [hS, show q = (1 + b.toNat) + 3 by omega]
                rfl
              have hst' : Hid (DecRel n rest m (acc ++ [⟨(ky.toNat : Int), (f.toNat : Int), S.extract 3 q⟩]) (sl (S.extract q S.size)) .ok) := by rw [hD.out, hE.out]; exact Lib.hid hst
              rw [← hm'] at hst'
              have hlen := hR.out.1.1
              clear hst hcv hD hE hR hd hm hm' hS hq hc hsz
              obtain ⟨D, hD⟩ : ∃ D, S.extract 3 q = D := ⟨_, rfl⟩
              rw [hD] at hst'
              have hA5 : Hid (RDecAt w W1.heap.size ((wr.alloc (.cells #[.int .i64 (ky.toNat : Int), .int .i64 (f.toNat : Int), .string D] 59)).drew) v acc) := Lib.hid ((hA1.out.alloc (.cells #[.int .i64 (ky.toNat : Int), .int .i64 (f.toNat : Int), .string D] 59)).later (Below.drew (Below.refl _ _)))
              have hrow := hA5.out.row
              have oc5 := hA5.out.out.cell
              have of5 := hA5.out.out.frozen
              have hlo : W1.heap.size < wr.heap.size := hA1.out.out.lt
              have hne5 : ¬ W1.heap.size = wr.heap.size := by omega
              have hnew' := Lib.hid (cells_three_new wr (.int .i64 (ky.toNat : Int)) (.int .i64 (f.toNat : Int)) (.string D) 59)
              have hsz2 := Lib.hid hA5.out.out.lt
              clear hA1
              go_wp2
              have hwk : Hid (IntKind.u64.wrap ((k : Int) + 1) = ((k + 1 : Nat) : Int)) := by
                show _ = _
                have := hn256.out
                rw [IntKind.wrap_u64]
                omega
              have hk11 := hk10.out
              have hf11 := hf10.out
              go_region_law ((refine step_append_lies _ (by rfl) _ _ _ (by rfl) (W1.heap.size + 1) 59 i0 (.agg #[.int .i64 0, .int .i64 0, .string ⟨#[]⟩]) 3 32 Tryd.underlying22 hi hz0 hz1 hz2 rfl (by decide) v acc.length (chvs acc) (by rfl) hrow ⟨wr.heap.size, 0, none⟩ 1 1 [.int .i64 (ky.toNat : Int), .int .i64 (f.toNat : Int), .string D] (by rfl) rfl hnew'.out (by simp [Value.oneCell']) (by decide) (by unfold maxLen; omega) (by omega) (by have := hsz2.out; omega) _ rfl ?_; intro g' cap' w1 hown' hgrow hat hltg; have hF := hA5.out.out.grown hgrow (fun e => by have := (hrow.lt _ e.symm).1; omega); have oc1 := hF.cell; have of1 := hF.frozen))
              all_goals clear hk11 hf11
              all_goals go_wp2
              all_goals rw [hwk.out]
              all_goals have hApp := hA5.out.appended ⟨(ky.toNat : Int), (f.toNat : Int), D⟩ hown' hgrow
              all_goals exact ⟨⟨k + 1, acc ++ [⟨(ky.toNat : Int), (f.toNat : Int), D⟩], _, _, by omega, rfl, rfl, hst', Lib.hid hApp⟩, by simp [intOf]; omega⟩
        · obtain rfl : k = n := by omega
          have hkd : decide ((k : Int) < (k : Int)) = false := decide_eq_false (by omega)
          have hd : decC k rest = some (acc, sl S) := by
            rcases hR.out.2 with ⟨_, h⟩ | ⟨h, _⟩
            · rw [h, Nat.sub_self]
              show some (acc ++ [], sl S) = _
              rw [List.append_nil]
            · cases h
          have hd' := Lib.hid (hsome.out _ acc hd)
          have hal := hR.out.1
          have hv0 := HC.of_row hA1.out.row
          obtain ⟨pp, cc, rfl, -, -⟩ := Hid.out hv0
          have hrg := Lib.hid (rright7_any hv0 ⟨by have := hal.1; omega, fun x hx => Nat.le_trans (hal.2.1 x hx) (by decide)⟩)
          clear hR hal hd hsome hnone
          go_wp2_with fail
          refine (hrg.out).mono ?_
          rintro e W2 ⟨rfl, hb2⟩
          have hA2 := Lib.hid (hA1.out.later hb2)
          have hv2 := hv0.later hb2
          have y1 := hA2.out.out.cell
          have y3 := hA2.out.res.cell
          have y4 := hA2.out.res.frozen
          clear hrg hb2 hA1 hv0 hy1 hy2
          cases hrr : rightL acc with
          | true =>
            have hd2 : Hid (decR (sl s) = (acc, sl S, 0)) := by show _ = _; rw [hd'.out, hrr]; rfl
            clear hd' hrr
            have hrs := (hA2.out.res.set (.slice pp acc.length cc)).cell
            have hbl := Lib.hid (hA2.out.below.setCell (p := ⟨w.heap.size, 0, none⟩) (Nat.le_refl _) (.slice pp acc.length cc))
            have hvs := Lib.hid (hv2.setR hA2.out.res (.slice pp acc.length cc))
            go_wp2
            exact bodyPost_ret (v := .tuple #[.agg #[.slice pp acc.length cc], .string S, .int .i64 0]) (by simp [results, Tryd.results35, go_sem, hrs]) rfl ⟨_, by rw [hd2.out, sl_back], by rw [hd2.out]; exact hvs.out, hbl.out⟩
          | false =>
            have hd2 : Hid (decR (sl s) = ([], sl s, 70)) := by show _ = _; rw [hd'.out, hrr]; rfl
            have hrs := (hA2.out.res.set (.slice none 0 0)).cell
            have hbl := Lib.hid (hA2.out.below.setCell (p := ⟨w.heap.size, 0, none⟩) (Nat.le_refl _) (.slice none 0 0))
            clear hd' hrr
            go_wp2
            exact bodyPost_ret (v := .tuple #[.agg #[.slice none 0 0], .string s, .int .i64 70]) (by simp [results, Tryd.results35, go_sem, hrs]) rfl (fin_fail hd2 hbl.out)
  · have hfin := Lib.hid (decR_err hge)
    obtain ⟨e, he⟩ : ∃ e, (getV (sl s)).2.2 = e := ⟨_, rfl⟩
    rw [he]
    rw [he] at hge hfin
    have hed : (e == 0) = false := beq_false_of_ne hge
    have y1 := hx1.cell
    have y2 := hx1.frozen
    clear he hge
    have hed2 : (e != 0) = true := by simp [bne, hed]
    have hrs := (hx1.set (.slice none 0 0)).cell
    go_wp2
    exact bodyPost_ret (v := .tuple #[.agg #[.slice none 0 0], .string s, .int .i64 e]) (by simp [results, Tryd.results35, go_sem, hrs]) rfl (fin_fail hfin (hB1.out.setCell (p := ⟨w.heap.size, 0, none⟩) (Nat.le_refl _) _))
end Go.Proofs.YtalnfbkmlllfhaaDoor

/-
  The reference's Encode of a bitmap of fewer than 128 chunks.
-/
namespace Go.Proofs.YtalnfbkmlllfhaaDoor
open Go.RowKit Go.Shelf Tess

/-- string([]byte{a, b, c}). -/
theorem conv3 (a b c : Int) (W : World) (p : Nat) (h0 : W.cell? ⟨p, 0, none⟩ = some (.int .u8 (IntKind.u8.wrap a))) (h1 : W.cell? ⟨p, 1, none⟩ = some (.int .u8 (IntKind.u8.wrap b))) (h2 : W.cell? ⟨p, 2, none⟩ = some (.int .u8 (IntKind.u8.wrap c))) :
    (convert 85 9 (.slice (some ⟨p, 0, none⟩) 3 3)).run Tryd.prog W = .ok (.string ⟨#[u8i a, u8i b, u8i c]⟩) W :=
  run_convert_bytes_back (P := Tryd.prog) W 85 9 5 ⟨p, 0, none⟩ 3 [u8i a, u8i b, u8i c] Tryd.underlying85 Tryd.underlying5 Tryd.underlying9 (fun j hj => by
    have hj' : j < 3 := hj
    match j, hj' with
    | 0, _ => exact h0.trans (by rw [← u8i_toNat]; rfl)
    | 1, _ => exact h1.trans (by rw [← u8i_toNat]; rfl)
    | 2, _ => exact h2.trans (by rw [← u8i_toNat]; rfl))
theorem sl_append (a b : ByteArray) : sl (a ++ b) = sl a ++ sl b := by
  show (a ++ b).data.toList = _
  rw [ByteArray.data_append]
  exact Array.toList_append
theorem encC_len (x : Ch) : (encC x).length = 3 + x.data.size := by
  unfold encC
  rw [List.length_append]
  rfl
theorem encK_len {l : List Ch} (h : ∀ x ∈ l, x.data.size ≤ 1000000) (k : Nat) : (encK l k).length ≤ 1 + 1000003 * k := by
  induction k with
  | zero => simp [encK]
  | succ k ih =>
    by_cases hlt : k < l.length
    · rw [encK_succ hlt, List.length_append]
      have := h _ (List.getElem_mem hlt)
      have e : (encC l[k]).length = 3 + l[k].data.size := encC_len _
      omega
    · have : encK l (k + 1) = encK l k := by unfold encK; rw [List.take_of_length_le (by omega), List.take_of_length_le (by omega)]
      rw [this]; omega

set_option maxRecDepth 100000 in
set_option maxHeartbeats 4000000 in
set_option linter.unusedSimpArgs false in
set_option linter.unusedVariables false in
theorem rencode7_any {l : List Ch} {v : Value} {w : World} (h : HC w v l) (hs : Small l) (hn : l.length < 128) :
    Calls Tryd.prog 32 #[.agg #[v]] w fun e W' => e = .returned (.tuple #[.string (encR l).1, .int .i64 (encR l).2]) ∧ Below w.heap.size w W' := by
  have hR : Below w.heap.size w (w.alloc (.cells #[v] 24)) := (Below.refl _ w).alloc (Nat.le_refl _) _
  have hr := Lib.hid (rright7_any (h.alloc (.cells #[v] 24)) hs)
  have hx0 := RBox.new w v
  have hx := hx0.cell
  have hv := h.alloc (.cells #[v] 24)
  have hsm := Lib.hid hs
  clear h hs
  obtain ⟨p, cap, rfl, hcap, -⟩ := Hid.out hv
  go_enter Tryd.func32, Tryd.ntmps32
  go_wp2_with fail
  refine (hr.out).mono ?_
  rintro e W1 ⟨rfl, hb1⟩
  have hB1 := Lib.hid (hR.trans (hb1.mono hR.size))
  have hv1 := hv.later hb1
  have hx1 := hx0.later hb1
  have y1 := hx1.cell
  clear hx hx0 hv hb1 hr hR
  cases hrr : rightL l with
  | false =>
    have hfin : Hid (encR l = (⟨#[]⟩, 70)) := by show _ = _; unfold encR; rw [hrr]; rfl
    clear hrr
    go_wp2
    exact bodyPost_ret (v := .tuple #[.string ⟨#[]⟩, .int .i64 70]) (by simp [results, Tryd.results32, go_sem]) rfl ⟨by rw [hfin.out], hB1.out⟩
  | true =>
    have hfin : Hid (encR l = (⟨(encK l l.length).toArray⟩, 0)) := by show _ = _; unfold encR; rw [hrr]; rfl
    clear hrr
    have hp := Lib.hid (rput_any l.length W1 (by omega))
    have hvb : Hid (sl ⟨(vbB l.length).toArray⟩ = encK l 0) := by
      show _ = _
      refine (sl_mk _).trans ?_
      rw [vbB_small hn]; rfl
    go_wp2_with fail
    refine (hp.out).mono ?_
    rintro e W2 ⟨rfl, hb2⟩
    have hB2 := Lib.hid (hB1.out.trans (hb2.mono hB1.out.size))
    have hv2 := hv1.later hb2
    have hx2 := hx1.later hb2
    obtain ⟨S0, hS0⟩ : ∃ S0, (⟨(vbB l.length).toArray⟩ : ByteArray) = S0 := ⟨_, rfl⟩
    rw [hS0] at hvb ⊢
    clear hS0 hp hv1 hx1 hB1 hb2 y1
    have hnl := Lib.hid hn
    clear hn
    go_wp2_with fail
    go_loopw [4, 5] (fun u i wr => ∃ (k : Nat) (S : ByteArray), k ≤ l.length ∧ i = .int .i64 k ∧ u = .string S ∧ Hid (sl S = encK l k) ∧ Hid (Below W2.heap.size W2 wr))
      (fun _ i _ => l.length - (intOf i).toNat)
    case atStart => exact ⟨0, S0, Nat.zero_le _, rfl, rfl, hvb, Lib.hid (Below.refl _ _)⟩
    case round =>
      obtain ⟨k, S, hk, rfl, rfl, hS, hB⟩ := hrel
      have hx3 := hx2.later hB.out
      have hv3 := hv2.later hB.out
      have y1 := hx3.cell
      by_cases hlt : k < l.length
      · have hkd : decide ((k : Int) < (l.length : Int)) = true := by simp; omega
        have hkd' : decide (k < l.length) = true := by simpa using hlt
        obtain ⟨p', cap', hpe, -, hc⟩ := Hid.out hv3
        simp only [Value.slice.injEq] at hpe
        obtain ⟨rfl, -, rfl⟩ := hpe
        obtain ⟨b, off, rfl, hb, h1, h2, h3⟩ := hc k hlt
        have hst := encK_succ hlt
        have hsl := encK_len hsm.out.2 k
        have hxs := hsm.out.2 _ (List.getElem_mem hlt)
        have hSl : S.size ≤ 1 + 1000003 * k := by rw [← sl_len, hS.out]; exact hsl
        rw [← hS.out] at hst
        clear hc hS hvb
        generalize l[k] = x at h1 h2 h3 hst hxs
        obtain ⟨ky, f, D⟩ := x
        simp only at h1 h2 h3 hst hxs
        have hst' := Lib.hid hst
        have hz1 : ¬ 9223372036854775807 < S.size + 3 := by have := hnl.out; omega
        have hz2 : ¬ 9223372036854775807 < S.size + 3 + D.size := by have := hnl.out; omega
        clear hst hsl
        have hwk : Hid (IntKind.i64.wrap ((D.size : Int) - 1) = (D.size : Int) - 1) := IntWalk.i64_in _ (by omega)
        have hB5 : Hid (Below W2.heap.size W2 (wr.alloc (.cells #[.int .i64 f, .string D] 57))) := Lib.hid (hB.out.alloc hB.out.size _)
        have hlw : w.heap.size < wr.heap.size := hx3.lt
        have hM0 : (fun W' : World => W'.cell? ⟨w.heap.size, 0, none⟩ = some (.slice (some ⟨b, off, none⟩) l.length cap) ∧ W'.cell? ⟨b, off + k * 3, none⟩ = some (.int .i64 ky) ∧ W'.cell? ⟨wr.heap.size, 0, none⟩ = some (.int .i64 f) ∧ W'.cell? ⟨wr.heap.size, 1, none⟩ = some (.string D)) (wr.alloc (.cells #[.int .i64 f, .string D] 57)) := by
          refine ⟨?_, ?_, ?_, ?_⟩
          · exact (cell?_alloc_old _ y1)
          · exact (cell?_alloc_old _ h1)
          · simp
          · simp
        go_wp2_with fail
        clear h1 h2 h3 y1 hx3 hv3 hB hkd hkd'
        revert hB5 hM0
        generalize wr.alloc (.cells #[.int .i64 f, .string D] 57) = W5
        intro hB5 hM0
        have hMd : (fun W' : World => W'.cell? ⟨w.heap.size, 0, none⟩ = some (.slice (some ⟨b, off, none⟩) l.length cap) ∧ W'.cell? ⟨b, off + k * 3, none⟩ = some (.int .i64 ky) ∧ W'.cell? ⟨wr.heap.size, 0, none⟩ = some (.int .i64 f) ∧ W'.cell? ⟨wr.heap.size, 1, none⟩ = some (.string D)) W5.drew := hM0
        have hMA : ∀ X, (fun W' : World => W'.cell? ⟨w.heap.size, 0, none⟩ = some (.slice (some ⟨b, off, none⟩) l.length cap) ∧ W'.cell? ⟨b, off + k * 3, none⟩ = some (.int .i64 ky) ∧ W'.cell? ⟨wr.heap.size, 0, none⟩ = some (.int .i64 f) ∧ W'.cell? ⟨wr.heap.size, 1, none⟩ = some (.string D)) ((W5.alloc X).drew) := fun X => ⟨cell?_alloc_old _ hM0.1, cell?_alloc_old _ hM0.2.1, cell?_alloc_old _ hM0.2.2.1, cell?_alloc_old _ hM0.2.2.2⟩
        have hMA' := Lib.hid hMA
        have hkk : (k : Int) < (l.length : Int) := by omega
        have hk0 : (0 : Int) ≤ (k : Int) := by omega
        have hcv := conv3 ky f ((D.size : Int) - 1)
        have hwk' := hwk.out
        clear hMA
        refine wp_region_held_drew (S := (fun W' : World => W'.cell? ⟨w.heap.size, 0, none⟩ = some (.slice (some ⟨b, off, none⟩) l.length cap) ∧ W'.cell? ⟨b, off + k * 3, none⟩ = some (.int .i64 ky) ∧ W'.cell? ⟨wr.heap.size, 0, none⟩ = some (.int .i64 f) ∧ W'.cell? ⟨wr.heap.size, 1, none⟩ = some (.string D))) (by kernel_rfl) hMd (fun hHeld => ?_)
        clear hMd
        refine wpAnyH_take (i := 0) (oi := { dst := some 28, op := _, type := _, pos := _, after := _, guard := _ }) (v := ?v0) rfl (by kernel_rfl) (by kernel_rfl) (by kernel_rfl) (fun _ _ _ h => h) (Or.inl ⟨by kernel_rfl, ?y0⟩) hHeld ?r0
        case y0 =>
          intro w hSw
          try dsimp only at hSw
          try simp only [List.getElem_toArray, List.getElem_cons_zero, List.getElem_cons_succ]
          go_simp
          try with_reducible rfl
        try simp only [List.getElem_toArray, List.getElem_cons_zero, List.getElem_cons_succ, Act.put, List.setIfInBounds_toArray, List.set_cons_zero, List.set_cons_succ]
        refine wpAnyH_take (i := 1) (oi := { dst := some 29, op := _, type := _, pos := _, after := _, guard := _ }) (v := ?v1) rfl (by kernel_rfl) (by kernel_rfl) (by kernel_rfl) (fun _ _ _ h => h) (Or.inl ⟨by kernel_rfl, ?y1⟩) hHeld ?r1
        case y1 =>
          intro w hSw
          try dsimp only at hSw
          try simp only [List.getElem_toArray, List.getElem_cons_zero, List.getElem_cons_succ]
          go_simp
          try with_reducible rfl
        try simp only [List.getElem_toArray, List.getElem_cons_zero, List.getElem_cons_succ, Act.put, List.setIfInBounds_toArray, List.set_cons_zero, List.set_cons_succ]
        refine wpAnyH_take (i := 2) (oi := { dst := some 30, op := _, type := _, pos := _, after := _, guard := _ }) (v := ?v2) rfl (by kernel_rfl) (by kernel_rfl) (by kernel_rfl) (fun _ _ _ h => h) (Or.inl ⟨by kernel_rfl, ?y2⟩) hHeld ?r2
        case y2 =>
          intro w hSw
          try dsimp only at hSw
          try simp only [List.getElem_toArray, List.getElem_cons_zero, List.getElem_cons_succ]
          go_simp
          try with_reducible rfl
        try simp only [List.getElem_toArray, List.getElem_cons_zero, List.getElem_cons_succ, Act.put, List.setIfInBounds_toArray, List.set_cons_zero, List.set_cons_succ]
        refine wpAnyH_take (i := 3) (oi := { dst := some 31, op := _, type := _, pos := _, after := _, guard := _ }) (v := ?v3) rfl (by kernel_rfl) (by kernel_rfl) (by kernel_rfl) (fun _ _ _ h => h) (Or.inl ⟨by kernel_rfl, ?y3⟩) hHeld ?r3
        case y3 =>
          intro w hSw
          try dsimp only at hSw
          try simp only [List.getElem_toArray, List.getElem_cons_zero, List.getElem_cons_succ]
          go_simp
          try with_reducible rfl
        try simp only [List.getElem_toArray, List.getElem_cons_zero, List.getElem_cons_succ, Act.put, List.setIfInBounds_toArray, List.set_cons_zero, List.set_cons_succ]
        refine wpAnyH_take (i := 4) (oi := { dst := some 32, op := _, type := _, pos := _, after := _, guard := _ }) (v := ?v4) rfl (by kernel_rfl) (by kernel_rfl) (by kernel_rfl) (fun _ _ _ h => h) (Or.inl ⟨by kernel_rfl, ?y4⟩) hHeld ?r4
        case y4 =>
          intro w hSw
          try dsimp only at hSw
          try simp only [List.getElem_toArray, List.getElem_cons_zero, List.getElem_cons_succ]
          go_simp
          try with_reducible rfl
        try simp only [List.getElem_toArray, List.getElem_cons_zero, List.getElem_cons_succ, Act.put, List.setIfInBounds_toArray, List.set_cons_zero, List.set_cons_succ]
        refine wpAnyH_take (i := 5) (oi := { dst := some 33, op := _, type := _, pos := _, after := _, guard := _ }) (v := ?v5) rfl (by kernel_rfl) (by kernel_rfl) (by kernel_rfl) (fun _ _ _ h => h) (Or.inl ⟨by kernel_rfl, ?y5⟩) hHeld ?r5
        case y5 =>
          intro w hSw
          try dsimp only at hSw
          try simp only [List.getElem_toArray, List.getElem_cons_zero, List.getElem_cons_succ]
          go_simp
          try with_reducible rfl
        try simp only [List.getElem_toArray, List.getElem_cons_zero, List.getElem_cons_succ, Act.put, List.setIfInBounds_toArray, List.set_cons_zero, List.set_cons_succ]
        refine wpAnyH_take (i := 6) (oi := { dst := some 34, op := _, type := _, pos := _, after := _, guard := _ }) (v := ?v6) rfl (by kernel_rfl) (by kernel_rfl) (by kernel_rfl) (fun _ _ _ h => h) (Or.inl ⟨by kernel_rfl, ?y6⟩) hHeld ?r6
        case y6 =>
          intro w hSw
          try dsimp only at hSw
          try simp only [List.getElem_toArray, List.getElem_cons_zero, List.getElem_cons_succ]
          go_simp
          try with_reducible rfl
        try simp only [List.getElem_toArray, List.getElem_cons_zero, List.getElem_cons_succ, Act.put, List.setIfInBounds_toArray, List.set_cons_zero, List.set_cons_succ]
        refine wpAnyH_take (i := 7) (oi := { dst := some 35, op := _, type := _, pos := _, after := _, guard := _ }) (v := ?v7) rfl (by kernel_rfl) (by kernel_rfl) (by kernel_rfl) (fun _ _ _ h => h) (Or.inl ⟨by kernel_rfl, ?y7⟩) hHeld ?r7
        case y7 =>
          intro w hSw
          try dsimp only at hSw
          try simp only [List.getElem_toArray, List.getElem_cons_zero, List.getElem_cons_succ]
          go_simp
          try with_reducible rfl
        try simp only [List.getElem_toArray, List.getElem_cons_zero, List.getElem_cons_succ, Act.put, List.setIfInBounds_toArray, List.set_cons_zero, List.set_cons_succ]
        refine wpAnyH_take (i := 8) (oi := { dst := some 36, op := _, type := _, pos := _, after := _, guard := _ }) (v := ?v8) rfl (by kernel_rfl) (by kernel_rfl) (by kernel_rfl) (fun _ _ _ h => h) (Or.inl ⟨by kernel_rfl, ?y8⟩) hHeld ?r8
        case y8 =>
          intro w hSw
          try dsimp only at hSw
          try simp only [List.getElem_toArray, List.getElem_cons_zero, List.getElem_cons_succ]
          go_simp
          try with_reducible rfl
        try simp only [List.getElem_toArray, List.getElem_cons_zero, List.getElem_cons_succ, Act.put, List.setIfInBounds_toArray, List.set_cons_zero, List.set_cons_succ]
        refine wpAnyH_take (i := 9) (oi := { dst := some 37, op := _, type := _, pos := _, after := _, guard := _ }) (v := ?v9) rfl (by kernel_rfl) (by kernel_rfl) (by kernel_rfl) (fun _ _ _ h => h) (Or.inl ⟨by kernel_rfl, ?y9⟩) hHeld ?r9
        case y9 =>
          intro w hSw
          try dsimp only at hSw
          try simp only [List.getElem_toArray, List.getElem_cons_zero, List.getElem_cons_succ]
          go_simp
          try with_reducible rfl
        try simp only [List.getElem_toArray, List.getElem_cons_zero, List.getElem_cons_succ, Act.put, List.setIfInBounds_toArray, List.set_cons_zero, List.set_cons_succ]
        refine wpAnyH_take (i := 10) (oi := { dst := some 38, op := _, type := _, pos := _, after := _, guard := _ }) (v := ?v10) rfl (by kernel_rfl) (by kernel_rfl) (by kernel_rfl) (fun _ _ _ h => h) (Or.inl ⟨by kernel_rfl, ?y10⟩) hHeld ?r10
        case y10 =>
          intro w hSw
          try dsimp only at hSw
          try simp only [List.getElem_toArray, List.getElem_cons_zero, List.getElem_cons_succ]
          go_simp
          try with_reducible rfl
        try simp only [List.getElem_toArray, List.getElem_cons_zero, List.getElem_cons_succ, Act.put, List.setIfInBounds_toArray, List.set_cons_zero, List.set_cons_succ]
        refine wpAnyH_take (i := 11) (oi := { dst := some 39, op := _, type := _, pos := _, after := _, guard := _ }) (v := ?v11) rfl (by kernel_rfl) (by kernel_rfl) (by kernel_rfl) (fun _ _ _ h => h) (Or.inl ⟨by kernel_rfl, ?y11⟩) hHeld ?r11
        case y11 =>
          intro w hSw
          try dsimp only at hSw
          try simp only [List.getElem_toArray, List.getElem_cons_zero, List.getElem_cons_succ]
          go_simp
          try with_reducible rfl
        try simp only [List.getElem_toArray, List.getElem_cons_zero, List.getElem_cons_succ, Act.put, List.setIfInBounds_toArray, List.set_cons_zero, List.set_cons_succ]
        refine wpAnyH_take (i := 12) (oi := { dst := some 40, op := _, type := _, pos := _, after := _, guard := _ }) (v := ?v12) rfl (by kernel_rfl) (by kernel_rfl) (by kernel_rfl) (fun _ _ _ h => h) (Or.inl ⟨by kernel_rfl, ?y12⟩) hHeld ?r12
        case y12 =>
          intro w hSw
          try dsimp only at hSw
          try simp only [List.getElem_toArray, List.getElem_cons_zero, List.getElem_cons_succ]
          go_simp
          try with_reducible rfl
        try simp only [List.getElem_toArray, List.getElem_cons_zero, List.getElem_cons_succ, Act.put, List.setIfInBounds_toArray, List.set_cons_zero, List.set_cons_succ]
        refine wpAnyH_take (i := 13) (oi := { dst := some 41, op := _, type := _, pos := _, after := _, guard := _ }) (v := ?v13) rfl (by kernel_rfl) (by kernel_rfl) (by kernel_rfl) (fun _ _ _ h => h) (Or.inl ⟨by kernel_rfl, ?y13⟩) hHeld ?r13
        case y13 =>
          intro w hSw
          try dsimp only at hSw
          try simp only [List.getElem_toArray, List.getElem_cons_zero, List.getElem_cons_succ]
          go_simp
          try with_reducible rfl
        try simp only [List.getElem_toArray, List.getElem_cons_zero, List.getElem_cons_succ, Act.put, List.setIfInBounds_toArray, List.set_cons_zero, List.set_cons_succ]
        refine wpAnyH_take (i := 14) (oi := { dst := some 42, op := _, type := _, pos := _, after := _, guard := _ }) (v := ?v14) rfl (by kernel_rfl) (by kernel_rfl) (by kernel_rfl) (fun _ _ _ h => h) (Or.inl ⟨by kernel_rfl, ?y14⟩) hHeld ?r14
        case y14 =>
          intro w hSw
          try dsimp only at hSw
          try simp only [List.getElem_toArray, List.getElem_cons_zero, List.getElem_cons_succ]
          go_simp
          try with_reducible rfl
        try simp only [List.getElem_toArray, List.getElem_cons_zero, List.getElem_cons_succ, Act.put, List.setIfInBounds_toArray, List.set_cons_zero, List.set_cons_succ]
        refine wpAnyH_take (i := 15) (oi := { dst := some 43, op := _, type := _, pos := _, after := _, guard := _ }) (v := ?v15) rfl (by kernel_rfl) (by kernel_rfl) (by kernel_rfl) (fun _ _ _ h => h) (Or.inl ⟨by kernel_rfl, ?y15⟩) hHeld ?r15
        case y15 =>
          intro w hSw
          try dsimp only at hSw
          try simp only [List.getElem_toArray, List.getElem_cons_zero, List.getElem_cons_succ]
          go_simp
          try with_reducible rfl
        try simp only [List.getElem_toArray, List.getElem_cons_zero, List.getElem_cons_succ, Act.put, List.setIfInBounds_toArray, List.set_cons_zero, List.set_cons_succ]
        refine wpAnyH_take (i := 19) (oi := { dst := some 47, op := _, type := _, pos := _, after := _, guard := _ }) (v := ?v16) rfl (by kernel_rfl) (by kernel_rfl) (by kernel_rfl) (fun _ _ _ h => h) (Or.inl ⟨by kernel_rfl, ?y16⟩) hHeld ?r16
        case y16 =>
          intro w hSw
          try dsimp only at hSw
          try simp only [List.getElem_toArray, List.getElem_cons_zero, List.getElem_cons_succ]
          go_simp
          try with_reducible rfl
        try simp only [List.getElem_toArray, List.getElem_cons_zero, List.getElem_cons_succ, Act.put, List.setIfInBounds_toArray, List.set_cons_zero, List.set_cons_succ]
        refine wpAnyH_take (i := 20) (oi := { dst := some 48, op := _, type := _, pos := _, after := _, guard := _ }) (v := ?v17) rfl (by kernel_rfl) (by kernel_rfl) (by kernel_rfl) (fun _ _ _ h => h) (Or.inl ⟨by kernel_rfl, ?y17⟩) hHeld ?r17
        case y17 =>
          intro w hSw
          try dsimp only at hSw
          try simp only [List.getElem_toArray, List.getElem_cons_zero, List.getElem_cons_succ]
          go_simp
          try with_reducible rfl
        try simp only [List.getElem_toArray, List.getElem_cons_zero, List.getElem_cons_succ, Act.put, List.setIfInBounds_toArray, List.set_cons_zero, List.set_cons_succ]
        refine wpAnyH_ready (rs := [16]) (by kernel_rfl) (by simp) ?_
        refine AllReadyH.cons rfl (fun K hK => ?_) AllReadyH.nil
        try simp only [List.getElem_toArray, List.getElem_cons_zero, List.getElem_cons_succ]
        go_simp
        refine hK.out _ _ (hMA'.out _) (fun hHeld' => ?_)
        clear hHeld hK K
        have hHeld := hHeld'
        clear hHeld'
        try simp only [List.getElem_toArray, List.getElem_cons_zero, List.getElem_cons_succ, Act.put, List.setIfInBounds_toArray, List.set_cons_zero, List.set_cons_succ]
        refine wpAnyH_ready (rs := [17]) (by kernel_rfl) (by simp) ?_
        refine AllReadyH.cons rfl (fun K hK => ?_) AllReadyH.nil
        try simp only [List.getElem_toArray, List.getElem_cons_zero, List.getElem_cons_succ]
        go_simp
        refine hK.out _ _ (hMA'.out _) (fun hHeld' => ?_)
        clear hHeld hK K
        have hHeld := hHeld'
        clear hHeld'
        try simp only [List.getElem_toArray, List.getElem_cons_zero, List.getElem_cons_succ, Act.put, List.setIfInBounds_toArray, List.set_cons_zero, List.set_cons_succ]
        refine wpAnyH_take (i := 18) (oi := { dst := some 46, op := _, type := _, pos := _, after := _, guard := _ }) (v := ?v20) rfl (by kernel_rfl) (by kernel_rfl) (by kernel_rfl) (fun _ _ _ h => h) (Or.inl ⟨by kernel_rfl, ?y20⟩) hHeld ?r20
        case y20 =>
          intro w hSw
          try dsimp only at hSw
          try simp only [List.getElem_toArray, List.getElem_cons_zero, List.getElem_cons_succ]
          go_simp
          try with_reducible rfl
        try simp only [List.getElem_toArray, List.getElem_cons_zero, List.getElem_cons_succ, Act.put, List.setIfInBounds_toArray, List.set_cons_zero, List.set_cons_succ]
        refine wpAnyH_take (i := 21) (oi := { dst := some 49, op := _, type := _, pos := _, after := _, guard := _ }) (v := ?v21) rfl (by kernel_rfl) (by kernel_rfl) (by kernel_rfl) (fun _ _ _ h => h) (Or.inl ⟨by kernel_rfl, ?y21⟩) hHeld ?r21
        case y21 =>
          intro w hSw
          try dsimp only at hSw
          try simp only [List.getElem_toArray, List.getElem_cons_zero, List.getElem_cons_succ]
          go_simp
          try with_reducible rfl
        try simp only [List.getElem_toArray, List.getElem_cons_zero, List.getElem_cons_succ, Act.put, List.setIfInBounds_toArray, List.set_cons_zero, List.set_cons_succ]
        refine wpAnyH_take (i := 22) (oi := { dst := some 4, op := _, type := _, pos := _, after := _, guard := _ }) (v := ?v22) rfl (by kernel_rfl) (by kernel_rfl) (by kernel_rfl) (fun _ _ _ h => h) (Or.inl ⟨by kernel_rfl, ?y22⟩) hHeld ?r22
        case y22 =>
          intro w hSw
          try dsimp only at hSw
          try simp only [List.getElem_toArray, List.getElem_cons_zero, List.getElem_cons_succ]
          go_simp
          try with_reducible rfl
        try simp only [List.getElem_toArray, List.getElem_cons_zero, List.getElem_cons_succ, Act.put, List.setIfInBounds_toArray, List.set_cons_zero, List.set_cons_succ]
        refine wpAnyH_done (by kernel_rfl) ?_ _
        clear hwk'
        have hk9 : (k : Int) < 128 := by have := hnl.out; omega
        go_wp2
        refine ⟨⟨k + 1, _, by omega, by go_num, rfl, ?_, Lib.hid (Below.drew (hB5.out.alloc hB5.out.size _))⟩, by simp [intOf]; omega⟩
        show _ = _
        rw [hst'.out, sl_append, sl_append, List.append_assoc]
        rfl
      · have hkd : decide ((k : Int) < (l.length : Int)) = false := by simp; omega
        have hkd' : decide (k < l.length) = false := by simpa using hlt
        obtain rfl : k = l.length := by omega
        have hSe : Hid ((⟨(encK l l.length).toArray⟩ : ByteArray) = S) := by show _ = _; rw [← hS.out, sl_back]
        have hB6 := Lib.hid (hB2.out.trans (hB.out.mono hB2.out.size))
        clear hS hB
        go_wp2
        exact bodyPost_ret (v := .tuple #[.string S, .int .i64 0]) (by simp [results, Tryd.results32, go_sem]) rfl ⟨by rw [hfin.out, hSe.out], hB6.out⟩
end Go.Proofs.YtalnfbkmlllfhaaDoor
