/-
  varint.Put of a number below 128; roar.Encode of a bitmap of fewer than 128 chunks.
-/
import Derived.Test.YtalnfbkmlllfhaaDoorVarint7
import Derived.Test.YtalnfbkmlllfhaaDoorVals7
namespace Go.Proofs.YtalnfbkmlllfhaaDoor
open Go.RowKit Go.Shelf Tess

attribute [local go_sem] Oper.semAt_some

/-- The low byte. -/
def u8i (a : Int) : UInt8 := UInt8.ofNat (a % 256).toNat
theorem u8i_toNat (a : Int) : ((u8i a).toNat : Int) = IntKind.u8.wrap a := by
  unfold u8i
  rw [IntKind.wrap_u8', UInt8.toNat_ofNat']
  omega

/-- A chunk's bytes. -/
def encC (x : Ch) : List UInt8 := [u8i x.key, u8i x.form, u8i ((x.data.size : Int) - 1)] ++ x.data.data.toList
def encK (l : List Ch) (k : Nat) : List UInt8 := UInt8.ofNat l.length :: (l.take k).flatMap encC
def encR (l : List Ch) : ByteArray × Int := if rightL l = true then (⟨(encK l l.length).toArray⟩, 0) else (⟨#[]⟩, 70)
theorem encK_succ {l : List Ch} {k : Nat} (h : k < l.length) : encK l (k + 1) = encK l k ++ encC l[k] := by
  unfold encK
  rw [← List.take_append_getElem h, List.flatMap_append]
  simp

theorem putOne_any (x : Nat) (hx : x < 128) (w : World) :
    Calls Tryd.prog 54 #[.int .u64 (x : Int)] w fun e W' => e = .returned (.string (bs [x])) ∧ Below w.heap.size w W' := by
  have hp := Lib.hid (put_small x hx w.heap.size (w.alloc (.cells #[.int .u64 (x : Int)] 93)) (by simp) (by simp))
  go_enter Tryd.func54, Tryd.ntmps54
  go_wp2_with fail
  refine (hp.out).mono ?_
  rintro e W1 ⟨rfl, hb1⟩
  have hB := Lib.hid (((Below.refl _ w).alloc (Nat.le_refl _) (.cells #[.int .u64 (x : Int)] 93)).trans (hb1.mono (by simp)))
  clear hp hb1
  go_wp2
  exact bodyPost_ret (v := .string (bs [x])) (by simp [results, Tryd.results54, go_sem]) rfl ⟨rfl, hB.out⟩

theorem byte3 (x : Ch) : [Value.int .u8 (x.key % 256), .int .u8 (x.form % 256), .int .u8 (((x.data.size : Int) - 1) % 256)] ++ Lib.strCells x.data = Lib.byteCells (encC x) := by
  rw [Lib.strCells_eq, ← IntKind.wrap_u8', ← IntKind.wrap_u8', ← IntKind.wrap_u8', ← u8i_toNat, ← u8i_toNat, ← u8i_toNat]
  unfold encC
  rw [Lib.byteCells_append]
  rfl

set_option maxRecDepth 100000 in
set_option maxHeartbeats 4000000 in
theorem encode7_any {l : List Ch} {v : Value} {w : World} (h : HC w v l) (hs : Small l) (hn : l.length < 128) (hT : Tab w) :
    Calls Tryd.prog 31 #[.agg #[v]] w fun e W' => e = .returned (.tuple #[.string (encR l).1, .int .i64 (encR l).2]) ∧ Below w.heap.size w W' := by
  have hR : Below w.heap.size w (w.alloc (.cells #[v] 24)) := (Below.refl _ w).alloc (Nat.le_refl _) _
  have hr := Lib.hid (right_any (h.alloc (.cells #[v] 24)) hs.1 hs.2 (hT.below hR hT.lt))
  have hx0 := RBox.new w v
  have hx := hx0.cell
  have hv := h.alloc (.cells #[v] 24)
  clear h hs
  obtain ⟨p, cap, rfl, hcap, -⟩ := Hid.out hv
  go_enter Tryd.func31, Tryd.ntmps31
  go_wp2_with fail
  refine (hr.out).mono ?_
  rintro e W1 ⟨rfl, hb1⟩
  have hB1 := Lib.hid (hR.trans (hb1.mono hR.size))
  have hv1 := hv.later hb1
  have hx1 := hx0.later hb1
  clear hx hx0 hv hb1 hr hR
  cases hrr : rightL l with
  | false =>
    have hfin : Hid (encR l = (⟨#[]⟩, 70)) := by show _ = _; unfold encR; rw [hrr]; rfl
    clear hrr
    go_wp2
    exact bodyPost_ret (v := .tuple #[.string ⟨#[]⟩, .int .i64 70]) (by simp [results, Tryd.results31, go_sem]) rfl ⟨by rw [hfin.out], hB1.out⟩
  | true =>
    have hfin : Hid (encR l = (⟨(encK l l.length).toArray⟩, 0)) := by show _ = _; unfold encR; rw [hrr]; rfl
    have hrr' := Lib.hid hrr
    clear hrr
    have hI0 := isB_new W1
    have hBa := Lib.hid ((Below.refl W1.heap.size W1).alloc (Nat.le_refl _) (.cells #[.pointer none, .slice none 0 0] 87))
    have hxa := hx1.alloc (.cells #[.pointer none, .slice none 0 0] 87)
    have hp := Lib.hid (putOne_any l.length hn (W1.alloc (.cells #[.pointer none, .slice none 0 0] 87)))
    have hy1 := hxa.cell
    go_wp2_with fail
    refine (hp.out).mono ?_
    rintro e W2 ⟨rfl, hb2⟩
    have hI2 := isB_later hI0 hb2
    have hB2 := Lib.hid (hBa.out.trans (hb2.mono (by simp)))
    have hws := Lib.hid (writeString_any (bs [l.length]) hI2 (by simp [bs, ByteArray.size]) hB2.out.size)
    clear hp hI2 hI0 hb2 hBa hxa hy1
    go_wp2_with fail
    refine (hws.out).mono ?_
    rintro e W3 ⟨rfl, hA3, hb3, -⟩
    have hB3 := Lib.hid (hB2.out.trans hb3)
    have hA3' : Hid (IsB W1.heap.size W1.heap.size (Lib.byteCells (encK l 0)) W3) := .inr (by simpa [Lib.strCells_eq, bs, encK] using hA3)
    have hx3 := (hx1.later hB3.out).cell
    clear hws hb3 hA3 hB2
    obtain ⟨p', cap', hpe, -, hc⟩ := Hid.out hv1
    simp only [Value.slice.injEq] at hpe
    obtain ⟨rfl, -, rfl⟩ := hpe
    have hc' := Lib.hid hc
    clear hc hv1
    go_wp2
    go_loopw [19] (fun i wr => ∃ (k : Nat), k ≤ l.length ∧ i = .int .i64 k ∧ Hid ((Lib.byteCells (encK l k)).length ≤ 1 + 1000003 * k) ∧ Hid (IsB W1.heap.size W1.heap.size (Lib.byteCells (encK l k)) wr) ∧ Hid (Below W1.heap.size W1 wr))
      (fun i _ => l.length - (intOf i).toNat)
    case atStart => exact ⟨0, Nat.zero_le _, rfl, by show _ ≤ _; simp [encK, Lib.byteCells_length], hA3', hB3⟩
    case round =>
      obtain ⟨k, hk, rfl, hst, hA, hB⟩ := hrel
      by_cases hlt : k < l.length
      · obtain ⟨b, off, rfl, hb, h1, h2, h3⟩ := hc'.out k hlt
        have y1 := (hB.out.cell (p := ⟨b, off + k * 3, none⟩) hb).trans h1
        have y2 := (hB.out.cell (p := ⟨b, off + k * 3 + 1, none⟩) hb).trans h2
        have y3 := (hB.out.cell (p := ⟨b, off + k * 3 + 2, none⟩) hb).trans h3
        have hkd : decide (k < l.length) = true := by simpa using hlt
        have hxs := (right_mem hrr'.out (List.getElem_mem hlt)).2.2
        have hst2 := Lib.hid (encK_succ hlt)
        clear h1 h2 h3
        generalize hxx : l[k] = x at y1 y2 y3 hxs hst2
        clear hxx
        have hK0 := KBox.new wr x
        have hB4 := Lib.hid (hB.out.alloc hB.out.size (.cells #[.int .i64 x.key, .int .i64 x.form, .string x.data] 59))
        have hA4 := Lib.hid (isB_alloc hA.out (.cells #[.int .i64 x.key, .int .i64 x.form, .string x.data] 59))
        have hA5 := Lib.hid (isB_alloc hA4.out (.cells #[.int .u8 (x.key % 256), .int .u8 (x.form % 256), .int .u8 (((x.data.size : Int) - 1) % 256)] 5))
        have hB5 := Lib.hid (hB4.out.alloc hB4.out.size (.cells #[.int .u8 (x.key % 256), .int .u8 (x.form % 256), .int .u8 (((x.data.size : Int) - 1) % 256)] 5))
        have hK1 := hK0.alloc (.cells #[.int .u8 (x.key % 256), .int .u8 (x.form % 256), .int .u8 (((x.data.size : Int) - 1) % 256)] 5)
        have hw3 := Lib.hid (write3_any (g := wr.heap.size + 1) (x.key % 256) (x.form % 256) (((x.data.size : Int) - 1) % 256) hA5.out (by have := heap_alloc_new (wr.alloc (.cells #[.int .i64 x.key, .int .i64 x.form, .string x.data] 59)) (.cells #[.int .u8 (x.key % 256), .int .u8 (x.form % 256), .int .u8 (((x.data.size : Int) - 1) % 256)] 5); simpa using this) (by have := hst.out; omega) hB5.out.size)
        have hKne : wr.heap.size ≠ W1.heap.size := by
          rcases hA.out with hq | hq
          · exact fun e => by have := lt_of_heap hq.2.choose_spec.1; omega
          · exact fun e => by have := lt_of_heap hq.2.choose_spec.1; omega
        obtain ⟨hk0, hk1, hk2⟩ := hK0.cells
        go_wp2_with fail
        refine (hw3.out).mono ?_
        rintro e W4 ⟨rfl, hA6, hb6, hO6⟩
        have hK2 : KBox W4 wr.heap.size x := hO6 _ _ hK1 (fun e => hKne (Option.some.inj e)) (fun c fz e => by cases e)
        have hB6 := Lib.hid (hB5.out.trans hb6)
        have hws := Lib.hid (writeString_any x.data (.inr hA6) (by have := hst.out; simp; omega) hB6.out.size)
        clear hw3 hk0 hk1 hk2 hA6 hb6 hO6 hA4 hA5 hK0 hK1
        obtain ⟨hk0, hk1, hk2⟩ := hK2.cells
        go_wp2_with fail
        refine (hws.out).mono ?_
        rintro e W5 ⟨rfl, hA7, hb7, -⟩
        have hB7 := Lib.hid (hB6.out.trans hb7)
        have hA8 : Hid (IsB W1.heap.size W1.heap.size (Lib.byteCells (encK l (k + 1))) W5) := .inr (by rw [hst2.out, Lib.byteCells_append, ← byte3, ← List.append_assoc]; exact hA7)
        have hst3 : Hid ((Lib.byteCells (encK l (k + 1))).length ≤ 1 + 1000003 * (k + 1)) := by
          show _ ≤ _
          have := hst.out
          rw [hst2.out, Lib.byteCells_append, ← byte3]
          simp only [List.length_append, Lib.strCells_length, List.length_cons, List.length_nil]
          omega
        clear hws hA7 hb7 hk0 hk1 hk2 hst hA
        go_wp2
        go_roundw
        case rel => exact ⟨k + 1, by omega, by go_num, hst3, hA8, hB7⟩
        case measure => simp [intOf]; omega
      · have hkd : decide (k < l.length) = false := by simpa using hlt
        have hke : k = l.length := by omega
        subst hke
        have hst := Lib.hid (string_any hA.out (by simp [encK]))
        clear hA
        go_wp2_with fail
        refine (hst.out).mono ?_
        rintro e W4 ⟨rfl, hb4, -⟩
        have hB4 := Lib.hid (hB1.out.trans ((hB.out.trans hb4).mono hB1.out.size))
        clear hst hb4
        go_wp2
        exact bodyPost_ret (v := .tuple #[.string ⟨(encK l l.length).toArray⟩, .int .i64 0]) (by simp [results, Tryd.results31, go_sem]) rfl ⟨by rw [hfin.out], hB4.out⟩
end Go.Proofs.YtalnfbkmlllfhaaDoor
