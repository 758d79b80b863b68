/-
  RoarBack: the walk.
-/
import Derived.Test.YtalnfbkmlllfhaaDoorWalkCodes7
import Derived.Test.YtalnfbkmlllfhaaDoorEncB
import Derived.Test.YtalnfbkmlllfhaaDoorRMake7
import Derived.Test.YtalnfbkmlllfhaaDoorMakesBase7
namespace Go.Proofs.YtalnfbkmlllfhaaDoor
open Go.RowKit Tess

theorem memB_all {l : List Ch} (h : rightL l = true) {k i : Nat} (hk : k < 256) (hi : i < 256) : memB ((allN l).map Int.ofNat) (256 * k + i) = (setAt l k).testBit i := by
  have key : memB ((allN l).map Int.ofNat) (256 * k + i) = true ↔ (setAt l k).testBit i = true := by
    unfold memB
    rw [List.any_eq_true]
    constructor
    · rintro ⟨z, hz, he⟩
      obtain ⟨m, hm, rfl⟩ := List.mem_map.1 hz
      have he' : Int.ofNat m = ((256 * k + i : Nat) : Int) := by simpa using he
      have hm2 : m = 256 * k + i := by
        have : (m : Int) = ((256 * k + i : Nat) : Int) := he'
        omega
      rw [allN_bits h] at hm
      have hb := (List.mem_filter.1 hm).2
      unfold bitL bitM at hb
      rw [hm2, show (256 * k + i) / 256 = k by omega, show (256 * k + i) % 256 = i by omega] at hb
      exact hb
    · intro hb
      refine ⟨((256 * k + i : Nat) : Int), List.mem_map.2 ⟨256 * k + i, ?_, rfl⟩, by simp⟩
      rw [allN_bits h]
      refine List.mem_filter.2 ⟨List.mem_range.2 (by omega), ?_⟩
      unfold bitL bitM
      rw [show (256 * k + i) / 256 = k by omega, show (256 * k + i) % 256 = i by omega]
      exact hb
  cases hb : memB ((allN l).map Int.ofNat) (256 * k + i)
  · cases hb2 : (setAt l k).testBit i
    · rfl
    · rw [key.2 hb2] at hb; cases hb
  · exact (key.1 hb).symm
/-- A bitmap's numbers make it. -/
theorem mkL_back {l : List Ch} (h : rightL l = true) : mkL ((valL l).map Int.ofNat) = (l, 0) := by
  rw [val_yes h]
  have hg : ((allN l).map Int.ofNat).any badR = false := by
    rw [List.any_eq_false]
    intro z hz
    obtain ⟨m, hm, rfl⟩ := List.mem_map.1 hz
    have := allN_lt h hm
    unfold badR
    simp
    omega
  rw [mkL_good hg, ← ofB_mem hg]
  congr 1
  conv => rhs; rw [right_canon h]
  exact canon_congr fun k hk => set_bits (setB_lt _ k) (setAt_lt l k) fun i hi => by rw [setB_bit hi, memB_all h hk hi]
theorem flat_len : ∀ {l : List Ch}, (∀ x ∈ l, okC x) → (l.flatMap encC).length ≤ 259 * l.length
  | [], _ => by simp
  | x :: l, h => by
    have ih := flat_len (l := l) fun y hy => h y (List.mem_cons_of_mem _ hy)
    obtain ⟨-, -, -, -, -, d1⟩ := h x List.mem_cons_self
    rw [List.flatMap_cons, List.length_append, encC_len]
    simp only [List.length_cons]
    omega
theorem encG_len {l : List Ch} (h : rightL l = true) : (encG l).length ≤ 100000 := by
  have h1 := flat_len (rightF_ok (by omega) h)
  have h2 := rightF_len (by omega) (by omega) h
  have h3 := vbB_len l.length (by omega)
  unfold encG
  rw [List.length_append]
  have e : (un (vb l.length)).length = (vbB l.length).length := rfl
  omega
theorem encE_right {l : List Ch} (h : rightL l = true) : encE l = (⟨(encG l).toArray⟩, 0) := by unfold encE; rw [if_pos h]

set_option maxRecDepth 100000 in
set_option maxHeartbeats 8000000 in
theorem roarBack_walk {zs : List Int} {sv : Value} (s : ByteArray) {em en ra rn : Addr} {w : World} (h : Ints w.heap.size w sv zs) (hcap : ∀ p n c, sv = .slice p n c → n ≤ c) (hT : Tab w) (hve : Sent w 2 3 em en) (hre : Sent w 1 0 ra rn) :
    Calls Tryd.prog 9 #[sv, .string s] w fun e W' => e = .returned (.bool true) ∧ Below w.heap.size w W' := by
  have hTl := Lib.hid hT
  have hh := Lib.hid h
  have hcp := Lib.hid hcap
  have he1 := Lib.hid (fun W (hb : Below w.heap.size w W) => hve.later hb)
  have he2 := Lib.hid (fun W (hb : Below w.heap.size w W) => hre.later hb)
  have k0 := Lib.hid (shown7_any w hT)
  clear hT h hcap hve hre
  go_enter Tryd.func9, Tryd.ntmps9
  go_wp2_with fail
  refine (k0.out).mono ?_
  rintro e W0 ⟨rfl, hb0⟩
  have hB1 := Lib.hid hb0
  clear k0 hb0
  -- r, e = Make(few(l))
  have k3 := Lib.hid (few7_any (hh.out.below hB1.out (Nat.le_refl _)) hcp.out)
  obtain ⟨l, hl⟩ : ∃ l, zs.take 300 = l := ⟨_, rfl⟩
  have hll : l.length ≤ 300 := by rw [← hl, List.length_take]; omega
  rw [hl] at k3
  obtain ⟨r, e1, hm, hrr, hee⟩ := mkL_ex l
  go_wp2_with fail
  refine (k3.out).mono ?_
  rintro e V ⟨⟨u, rfl, hu⟩, hVe⟩
  subst V
  have k := Lib.hid (make7_any (hu.more hB1.out.size) (by omega) (hTl.out.below hB1.out hTl.out.lt))
  rw [hm] at k
  clear k3 hu hl hll hm hh hcp
  go_wp2_with fail
  refine (k.out).mono ?_
  rintro e W1 ⟨v1, rfl, hv1, hb1⟩
  obtain ⟨p1, c1, rfl, -, -⟩ := Hid.out hv1
  have hB2 := Lib.hid (below_box hB1.out hB1.out.size hb1 (.cells #[.slice p1 r.length c1] 24))
  have hS2 := Lib.hid ((RBs.none W0).more hb1 hv1)
  have hsm := Lib.hid (small_right hrr)
  have hr256 := rightF_len (by omega) (by omega) hrr
  clear k hb1 hv1 hB1
  -- a, f = Encode(r)
  have k := Lib.hid (encodeG_any (hS2.out (W1.heap.size, .slice p1 r.length c1, r) (by simp)).chs hsm.out (by show r.length ≤ 256; omega) (hTl.out.below hB2.out hTl.out.lt))
  have y1 := (hS2.out (W1.heap.size, .slice p1 r.length c1, r) (by simp)).box.cell
  rw [encE_right hrr] at k
  have hEl := encG_len hrr
  have hde := Lib.hid (fun t => dec_enc hrr t)
  obtain ⟨E, hE⟩ : ∃ E : ByteArray, ⟨(encG r).toArray⟩ = E := ⟨_, rfl⟩
  have hEs : sl E = encG r := by rw [← hE, sl_mk]
  rw [hE] at k
  rw [← hEs] at hEl hde
  clear hE hEs
  go_wp2_with fail
  refine (k.out).mono ?_
  rintro e W2 ⟨rfl, hb2⟩
  have hB3 := Lib.hid (hB2.out.trans (hb2.mono hB2.out.size))
  have hS3 := Lib.hid (hS2.out.later hb2)
  clear k y1 hb2 hB2 hS2
  -- b, rest, g = Decode(a + cut(s))
  have kc := Lib.hid (fun W => cut7_any s W)
  have hcs := cut2_size s
  generalize cut2 s = C at kc hcs
  have hzl : ¬ 9223372036854775807 < E.size + C.size := by rw [sl_len] at hEl; omega
  go_wp2_with fail
  refine (kc.out _).mono ?_
  rintro e W ⟨rfl, rfl⟩
  have k := Lib.hid (decode_any (E ++ C) W2 (by rw [ByteArray.size_append, sl_len] at *; unfold maxLen; omega) (hTl.out.below hB3.out hTl.out.lt) (he1.out _ hB3.out) (he2.out _ hB3.out))
  unfold DecPost at k
  rw [sl_append, hde.out, sl_back] at k
  go_wp2_with fail
  refine (k.out).mono ?_
  rintro e W3 ⟨v3, rfl, hv3, hb3⟩
  obtain ⟨p3, c3, rfl, -, -⟩ := Hid.out hv3
  have hB4 := Lib.hid (below_box hB3.out hB3.out.size hb3 (.cells #[.slice p3 r.length c3] 24))
  have hS4 := Lib.hid (hS3.out.more hb3 hv3)
  clear k hb3 hv3 hB3 hS3 hzl
  -- again, h = Make(Values(r))
  have k := Lib.hid (values7_any (hS4.out (W1.heap.size, .slice p1 r.length c1, r) (by simp)).chs hsm.out (hTl.out.below hB4.out hTl.out.lt))
  have y1 := (hS4.out (W1.heap.size, .slice p1 r.length c1, r) (by simp)).box.cell
  go_wp2_with fail
  refine (k.out).mono ?_
  rintro e W4 ⟨u4, rfl, hu4, -, hb4⟩
  have hB5 := Lib.hid (hB4.out.trans (hb4.mono hB4.out.size))
  have hS5 := Lib.hid (hS4.out.later hb4)
  have k2 := Lib.hid (make7_any (Hid.out hu4) (by have := val_len (l := r); rw [List.length_map]; omega) (hTl.out.below hB5.out hTl.out.lt))
  rw [mkL_back hrr] at k2
  clear k y1 hb4 hB4 hS4 hu4
  go_wp2_with fail
  refine (k2.out).mono ?_
  rintro e W5 ⟨v5, rfl, hv5, hb5⟩
  obtain ⟨p5, c5, rfl, -, -⟩ := Hid.out hv5
  have hB6 := Lib.hid (below_box hB5.out hB5.out.size hb5 (.cells #[.slice p5 r.length c5] 24))
  have hS6 := Lib.hid (hS5.out.more hb5 hv5)
  clear k2 hb5 hv5 hB5 hS5
  obtain ⟨LL, hLL⟩ : ∃ LL : List (Nat × Value × List Ch), LL = [(W5.heap.size, .slice p5 r.length c5, r), (W3.heap.size, .slice p3 r.length c3, r), (W1.heap.size, .slice p1 r.length c1, r)] := ⟨_, rfl⟩
  rw [← hLL] at hS6
  have kA : Hid (∀ W', RBs W' LL → Calls Tryd.prog 18 #[.agg #[.slice p3 r.length c3], .agg #[.slice p1 r.length c1]] W' fun e W'' => e = .returned (.bool true) ∧ Below W'.heap.size W' W'') :=
    Lib.hid fun W' h => by have := same7_any (h (W3.heap.size, .slice p3 r.length c3, r) (by rw [hLL]; simp)).chs (h (W1.heap.size, .slice p1 r.length c1, r) (by rw [hLL]; simp)).chs hsm.out.1; rwa [decide_eq_true rfl] at this
  have kB : Hid (∀ W', RBs W' LL → Calls Tryd.prog 18 #[.agg #[.slice p5 r.length c5], .agg #[.slice p1 r.length c1]] W' fun e W'' => e = .returned (.bool true) ∧ Below W'.heap.size W' W'') :=
    Lib.hid fun W' h => by have := same7_any (h (W5.heap.size, .slice p5 r.length c5, r) (by rw [hLL]; simp)).chs (h (W1.heap.size, .slice p1 r.length c1, r) (by rw [hLL]; simp)).chs hsm.out.1; rwa [decide_eq_true rfl] at this
  have kR : Hid (∀ W', RBs W' LL → Below w.heap.size w W' → Calls Tryd.prog 26 #[.agg #[.slice p1 r.length c1]] W' fun e W'' => e = .returned (.bool true) ∧ Below W'.heap.size W' W'') :=
    Lib.hid fun W' h hb => by rw [← hrr]; exact right_any (h (W1.heap.size, .slice p1 r.length c1, r) (by rw [hLL]; simp)).chs hsm.out.1 hsm.out.2 (hTl.out.below hb hTl.out.lt)
  have kcl : Hid (∀ W', RBs W' LL → W'.cell? ⟨W1.heap.size, 0, none⟩ = some (.slice p1 r.length c1) ∧ W'.cell? ⟨W3.heap.size, 0, none⟩ = some (.slice p3 r.length c3) ∧ W'.cell? ⟨W5.heap.size, 0, none⟩ = some (.slice p5 r.length c5)) :=
    Lib.hid fun W' h => ⟨(h (W1.heap.size, .slice p1 r.length c1, r) (by rw [hLL]; simp)).box.cell, (h (W3.heap.size, .slice p3 r.length c3, r) (by rw [hLL]; simp)).box.cell, (h (W5.heap.size, .slice p5 r.length c5, r) (by rw [hLL]; simp)).box.cell⟩
  clear hLL hsm hde hr256
  -- what follows the first test
  rcases hee with rfl | rfl
  · obtain ⟨y1, y2, y3⟩ := kcl.out _ hS6.out
    go_wp2_with fail
    refine (kA.out _ hS6.out).mono ?_
    rintro e W6 ⟨rfl, hb6⟩
    have hB7 := Lib.hid (hB6.out.trans (hb6.mono hB6.out.size))
    have hS7 := Lib.hid (hS6.out.later hb6)
    clear y1 y2 y3 hb6 hB6 hS6
    obtain ⟨y1, y2, y3⟩ := kcl.out _ hS7.out
    go_wp2_with fail
    refine (kc.out _).mono ?_
    rintro e W ⟨rfl, rfl⟩
    go_wp2_with fail
    refine (kB.out _ hS7.out).mono ?_
    rintro e W7 ⟨rfl, hb7⟩
    have hB8 := Lib.hid (hB7.out.trans (hb7.mono hB7.out.size))
    have hS8 := Lib.hid (hS7.out.later hb7)
    clear y1 y2 y3 hb7 hB7 hS7
    obtain ⟨y1, y2, y3⟩ := kcl.out _ hS8.out
    go_wp2_with fail
    refine (kR.out _ hS8.out hB8.out).mono ?_
    rintro e W8 ⟨rfl, hb8⟩
    have hB9 := Lib.hid (hB8.out.trans (hb8.mono hB8.out.size))
    clear y1 y2 y3 hb8 hB8 hS8 kA kB kR kcl
    -- c, more, i = Decode(cut(s))
    go_wp2_with fail
    refine (kc.out _).mono ?_
    rintro e W ⟨rfl, rfl⟩
    have k := Lib.hid (decode_any C W8 (by unfold maxLen; omega) (hTl.out.below hB9.out hTl.out.lt) (he1.out _ hB9.out) (he2.out _ hB9.out))
    unfold DecPost at k
    obtain ⟨c, mr, ie, hd⟩ : ∃ c mr ie, decR (sl C) = (c, mr, ie) := ⟨_, _, _, rfl⟩
    have hcr : rightL c = true := by have := decR_right (sl C); rw [hd] at this; exact this
    have hc256 : c.length ≤ 256 := by have := decR_len (sl C); rw [hd] at this; exact this
    have hback : ie = 0 → sl C = encG c ++ mr := fun e => by rw [e] at hd; exact (dec_back hd).2
    rw [hd] at k
    clear hd
    go_wp2_with fail
    refine (k.out).mono ?_
    rintro e X1 ⟨x1, rfl, hx1, hbx1⟩
    obtain ⟨q1, d1, rfl, -, -⟩ := Hid.out hx1
    have hC1 := Lib.hid (below_box hB9.out hB9.out.size hbx1 (.cells #[.slice q1 c.length d1] 24))
    have hQ1 := RBox.new X1 (.slice q1 c.length d1)
    have hV1 := hx1.alloc (.cells #[.slice q1 c.length d1] 24)
    have hsc := Lib.hid (small_right hcr)
    clear k hbx1 hx1
    have k := Lib.hid (encodeG_any hV1 hsc.out hc256 (hTl.out.below hC1.out hTl.out.lt))
    rw [encE_right hcr] at k
    have z1 := hQ1.cell
    obtain ⟨Dd, hDd⟩ : ∃ Dd : ByteArray, ⟨(encG c).toArray⟩ = Dd := ⟨_, rfl⟩
    obtain ⟨Mr, hMr⟩ : ∃ Mr : ByteArray, ⟨mr.toArray⟩ = Mr := ⟨_, rfl⟩
    have hlen : ie = 0 → Dd.size + Mr.size = C.size := fun e => by
      have := congrArg List.length (hback e)
      rw [List.length_append, sl_len] at this
      rw [← hDd, ← hMr]
      show (encG c).toArray.size + mr.toArray.size = _
      simp; omega
    rw [hDd] at k
    rw [hMr]
    clear hDd hMr hback
    go_wp2_with fail
    refine (k.out).mono ?_
    rintro e X2 ⟨rfl, hbx2⟩
    have hC2 := Lib.hid (hC1.out.trans (hbx2.mono hC1.out.size))
    have hQ2 := hQ1.later hbx2
    have hV2 := hV1.later hbx2
    clear k z1 hbx2 hC1 hQ1 hV1
    have z1 := hQ2.cell
    by_cases hi0 : ie = 0
    · have hle := hlen hi0
      subst hi0
      have hle1 : (Dd.size : Int) + (Mr.size : Int) ≤ (C.size : Int) := by omega
      have hle2 : Dd.size + Mr.size ≤ C.size := by omega
      have hle3 : decide ((Dd.size : Int) + (Mr.size : Int) ≤ (C.size : Int)) = true := decide_eq_true hle1
      have hbd : (C.size : Int) ≤ 2000 := by omega
      have kr := Lib.hid (right_any hV2 hsc.out.1 hsc.out.2 (hTl.out.below hC2.out hTl.out.lt))
      rw [hcr] at kr
      clear hlen hle
      go_wp2_with fail
      refine (kc.out _).mono ?_
      rintro e W ⟨rfl, rfl⟩
      go_wp2_with fail
      refine (kr.out).mono ?_
      rintro e X3 ⟨rfl, hbx3⟩
      have hC3 := Lib.hid (hC2.out.trans (hbx3.mono hC2.out.size))
      clear hbx3 kr
      go_wp2
      exact bodyPost_ret (v := .bool true) (by simp [results, Tryd.results9, go_sem]) rfl ⟨rfl, hC3.out⟩
    · have hie : (ie == 0) = false := beq_false_of_ne hi0
      have hie2 : (ie != 0) = true := by simp [bne, hie]
      clear hi0 hlen
      go_wp2
      exact bodyPost_ret (v := .bool true) (by simp [results, Tryd.results9, go_sem]) rfl ⟨rfl, hC2.out⟩
  · have hS7 := hS6
    clear kA kB kR kcl hS6
    -- c, more, i = Decode(cut(s))
    go_wp2_with fail
    refine (kc.out _).mono ?_
    rintro e W ⟨rfl, rfl⟩
    have k := Lib.hid (decode_any C (W5.alloc (.cells #[.slice p5 r.length c5] 24)) (by unfold maxLen; omega) (hTl.out.below hB6.out hTl.out.lt) (he1.out _ hB6.out) (he2.out _ hB6.out))
    unfold DecPost at k
    obtain ⟨c, mr, ie, hd⟩ : ∃ c mr ie, decR (sl C) = (c, mr, ie) := ⟨_, _, _, rfl⟩
    have hcr : rightL c = true := by have := decR_right (sl C); rw [hd] at this; exact this
    have hc256 : c.length ≤ 256 := by have := decR_len (sl C); rw [hd] at this; exact this
    have hback : ie = 0 → sl C = encG c ++ mr := fun e => by rw [e] at hd; exact (dec_back hd).2
    rw [hd] at k
    clear hd
    go_wp2_with fail
    refine (k.out).mono ?_
    rintro e X1 ⟨x1, rfl, hx1, hbx1⟩
    obtain ⟨q1, d1, rfl, -, -⟩ := Hid.out hx1
    have hC1 := Lib.hid (below_box hB6.out hB6.out.size hbx1 (.cells #[.slice q1 c.length d1] 24))
    have hQ1 := RBox.new X1 (.slice q1 c.length d1)
    have hV1 := hx1.alloc (.cells #[.slice q1 c.length d1] 24)
    have hsc := Lib.hid (small_right hcr)
    clear k hbx1 hx1
    have k := Lib.hid (encodeG_any hV1 hsc.out hc256 (hTl.out.below hC1.out hTl.out.lt))
    rw [encE_right hcr] at k
    have z1 := hQ1.cell
    obtain ⟨Dd, hDd⟩ : ∃ Dd : ByteArray, ⟨(encG c).toArray⟩ = Dd := ⟨_, rfl⟩
    obtain ⟨Mr, hMr⟩ : ∃ Mr : ByteArray, ⟨mr.toArray⟩ = Mr := ⟨_, rfl⟩
    have hlen : ie = 0 → Dd.size + Mr.size = C.size := fun e => by
      have := congrArg List.length (hback e)
      rw [List.length_append, sl_len] at this
      rw [← hDd, ← hMr]
      show (encG c).toArray.size + mr.toArray.size = _
      simp; omega
    rw [hDd] at k
    rw [hMr]
    clear hDd hMr hback
    go_wp2_with fail
    refine (k.out).mono ?_
    rintro e X2 ⟨rfl, hbx2⟩
    have hC2 := Lib.hid (hC1.out.trans (hbx2.mono hC1.out.size))
    have hQ2 := hQ1.later hbx2
    have hV2 := hV1.later hbx2
    clear k z1 hbx2 hC1 hQ1 hV1
    have z1 := hQ2.cell
    by_cases hi0 : ie = 0
    · have hle := hlen hi0
      subst hi0
      have hle1 : (Dd.size : Int) + (Mr.size : Int) ≤ (C.size : Int) := by omega
      have hle2 : Dd.size + Mr.size ≤ C.size := by omega
      have hle3 : decide ((Dd.size : Int) + (Mr.size : Int) ≤ (C.size : Int)) = true := decide_eq_true hle1
      have hbd : (C.size : Int) ≤ 2000 := by omega
      have kr := Lib.hid (right_any hV2 hsc.out.1 hsc.out.2 (hTl.out.below hC2.out hTl.out.lt))
      rw [hcr] at kr
      clear hlen hle
      go_wp2_with fail
      refine (kc.out _).mono ?_
      rintro e W ⟨rfl, rfl⟩
      go_wp2_with fail
      refine (kr.out).mono ?_
      rintro e X3 ⟨rfl, hbx3⟩
      have hC3 := Lib.hid (hC2.out.trans (hbx3.mono hC2.out.size))
      clear hbx3 kr
      go_wp2
      exact bodyPost_ret (v := .bool true) (by simp [results, Tryd.results9, go_sem]) rfl ⟨rfl, hC3.out⟩
    · have hie : (ie == 0) = false := beq_false_of_ne hi0
      have hie2 : (ie != 0) = true := by simp [bne, hie]
      clear hi0 hlen
      go_wp2
      exact bodyPost_ret (v := .bool true) (by simp [results, Tryd.results9, go_sem]) rfl ⟨rfl, hC2.out⟩
end Go.Proofs.YtalnfbkmlllfhaaDoor
