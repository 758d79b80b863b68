/-
  DecP, EncG: several texts in one (merge.py).
-/
import Derived.Test.YtalnfbkmlllfhaaDoorPSets
import Derived.Test.YtalnfbkmlllfhaaDoorEncode
import Derived.Test.YtalnfbkmlllfhaaDoorVarG

/-
  A bitmap's bytes in plain lists: what is read of bytes, what is written, one behind the other. No program.
-/
namespace Go.Proofs.YtalnfbkmlllfhaaDoor
open Go.RowKit Tess

/-- Bytes as numbers; numbers as bytes. -/
def nb (l : List UInt8) : List Nat := l.map UInt8.toNat
def un (l : List Nat) : List UInt8 := l.map UInt8.ofNat
theorem nb_un {l : List Nat} (h : ∀ c ∈ l, c < 256) : nb (un l) = l := by
  unfold nb un
  rw [List.map_map]
  conv => rhs; rw [← List.map_id l]
  refine List.map_congr_left fun c hc => ?_
  have := h c hc
  simp [UInt8.toNat_ofNat']; omega
theorem un_nb (l : List UInt8) : un (nb l) = l := by
  unfold nb un
  rw [List.map_map]
  conv => rhs; rw [← List.map_id l]
  exact List.map_congr_left fun c _ => by simp
/-- How many of the first ten bytes go on. -/
def sc (l : List UInt8) : Nat := ((l.take 10).takeWhile fun c => decide (128 ≤ c.toNat)).length
theorem sc_le (l : List UInt8) : sc l ≤ l.length ∧ sc l ≤ 10 := by
  have h1 := (List.takeWhile_sublist (fun c : UInt8 => decide (128 ≤ c.toNat)) (l := l.take 10)).length_le
  rw [List.length_take] at h1
  unfold sc
  omega
theorem takeWhile_get {p : UInt8 → Bool} : ∀ {l : List UInt8} {j : Nat} (_ : j < (l.takeWhile p).length) (h' : j < l.length), p l[j] = true
  | a :: l, j, h, h' => by
    rw [List.takeWhile_cons] at h
    cases hp : p a with
    | false => simp [hp] at h
    | true =>
      cases j with
      | zero => exact hp
      | succ j =>
        rw [if_pos hp] at h
        exact takeWhile_get (l := l) (j := j) (by simpa using h) (by simpa using h')
theorem takeWhile_end {p : UInt8 → Bool} : ∀ {l : List UInt8} (h : (l.takeWhile p).length < l.length), p l[(l.takeWhile p).length] = false
  | [], h => by simp at h
  | a :: l, h => by
    cases hp : p a with
    | false => simp [hp]
    | true =>
      simp only [List.takeWhile_cons, hp, if_true, List.length_cons, List.getElem_cons_succ] at h ⊢
      exact takeWhile_end (l := l) (by omega)
theorem sc_on {l : List UInt8} {j : Nat} (h : j < sc l) (h' : j < l.length) : 128 ≤ l[j].toNat := by
  have hs := sc_le l
  have := takeWhile_get (p := fun c => decide (128 ≤ c.toNat)) (l := l.take 10) (j := j) h (by rw [List.length_take]; omega)
  rw [List.getElem_take] at this
  simpa using this
theorem sc_off {l : List UInt8} (h : sc l < l.length) (h10 : sc l < 10) : l[sc l].toNat < 128 := by
  have hl : ((l.take 10).takeWhile fun c => decide (128 ≤ c.toNat)).length < (l.take 10).length := by
    show sc l < _
    rw [List.length_take]; omega
  have := takeWhile_end hl
  rw [List.getElem_take] at this
  simp at this
  simpa [sc, UInt8.lt_iff_toNat_lt] using this
theorem sc_is {l : List UInt8} {i : Nat} (hi : i < l.length) (hi10 : i < 10) (hl : ∀ j (h : j < i), 128 ≤ (l[j]'(by omega)).toNat) (hc : l[i].toNat < 128) : sc l = i := by
  have hs := sc_le l
  rcases Nat.lt_trichotomy (sc l) i with h | h | h
  · have h1 := sc_off (l := l) (by omega) (by omega)
    have h2 := hl _ h
    omega
  · exact h
  · have := sc_on h hi
    omega
/-- Are the bytes read no number's own? -/
def badV (l : List UInt8) (i : Nat) : Prop := (0 < i ∧ (nb l)[i]?.getD 0 = 0) ∨ (i = 9 ∧ 1 < (nb l)[i]?.getD 0)
instance (l : List UInt8) (i : Nat) : Decidable (badV l i) := by unfold badV; exact inferInstance
/-- Get(s): a number, what is left, an error. -/
def getV (l : List UInt8) : Nat × List UInt8 × Int :=
  if sc l < min l.length 10 then (if badV l (sc l) then (0, l, 20) else (vr (nb l) (sc l + 1), l.drop (sc l + 1), 0))
  else (0, l, if l.length < 10 then 21 else 20)
theorem nb_len (l : List UInt8) : (nb l).length = l.length := List.length_map _
theorem nb_get {l : List UInt8} {i : Nat} (h : i < l.length) : (nb l)[i]'(by rw [nb_len]; exact h) = l[i].toNat := List.getElem_map _
theorem nb_getD {l : List UInt8} {i : Nat} (h : i < l.length) : (nb l)[i]?.getD 0 = l[i].toNat := by
  rw [List.getElem?_eq_getElem (by rw [nb_len]; exact h), nb_get h]; rfl
/-- What the reference asks. -/
theorem vb_sc {l : List UInt8} (h : sc l < min l.length 10) : vb (vr (nb l) (sc l + 1)) = (nb l).take (sc l + 1) ↔ ¬ badV l (sc l) := by
  have hl : sc l < l.length := by omega
  have := vb_read (l := nb l) (i := sc l) (by rw [nb_len]; exact hl) (by omega) (fun j hj => by
    rw [nb_get (by omega)]
    exact ⟨sc_on hj (by omega), UInt8.toNat_lt _⟩) (by rw [nb_get hl]; exact sc_off hl (by omega))
  rw [this]
  unfold badV
  rw [nb_getD hl, nb_get hl]
theorem getV_back {l rest : List UInt8} {n : Nat} (h : getV l = (n, rest, 0)) : l = un (vb n) ++ rest := by
  unfold getV at h
  by_cases h1 : sc l < min l.length 10
  · rw [if_pos h1] at h
    by_cases h2 : badV l (sc l)
    · rw [if_pos h2] at h; cases h
    · rw [if_neg h2] at h
      injection h with e1 e2
      injection e2 with e2 _
      rw [← e1, (vb_sc h1).2 h2, ← e2]
      have : un ((nb l).take (sc l + 1)) = l.take (sc l + 1) := by
        unfold un; rw [List.map_take]; rw [show (nb l).map UInt8.ofNat = un (nb l) from rfl, un_nb]
      rw [this, List.take_append_drop]
  · rw [if_neg h1] at h
    injection h with _ e2
    injection e2 with _ e3
    split at e3 <;> cases e3
theorem isV_ex : ∀ {l : List Nat}, isV l → ∃ m c, l = m ++ [c] ∧ (∀ x ∈ m, 128 ≤ x ∧ x < 256) ∧ c < 128
  | [], h => h.elim
  | [c], h => ⟨[], c, rfl, (fun x hx => by cases hx), h⟩
  | a :: d :: l, h => by
    obtain ⟨m, c, e, h1, h2⟩ := isV_ex h.2.2.1
    refine ⟨a :: m, c, by rw [e]; rfl, fun x hx => ?_, h2⟩
    rcases List.mem_cons.1 hx with rfl | hx
    · exact ⟨h.1, h.2.1⟩
    · exact h1 x hx
theorem getV_put {n : Nat} (hn : n < 128 ^ 9) (t : List UInt8) : getV (un (vb n) ++ t) = (n, t, 0) := by
  obtain ⟨m, c, e, h1, h2⟩ := isV_ex (isV_vb n)
  have hlen : (vb n).length ≤ 9 := vb_len hn (by omega)
  have hm : m.length + 1 = (vb n).length := by rw [e]; simp
  have hul : (un (vb n)).length = (vb n).length := List.length_map _
  have hL : (un (vb n) ++ t).length = (vb n).length + t.length := by rw [List.length_append, hul]
  have hnb : nb (un (vb n) ++ t) = vb n ++ nb t := by
    show List.map UInt8.toNat (un (vb n) ++ t) = _
    rw [List.map_append, show List.map UInt8.toNat (un (vb n)) = nb (un (vb n)) from rfl, nb_un (vb_lt n)]
    rfl
  have hg : ∀ j (h : j < (vb n).length), ((un (vb n) ++ t)[j]'(by omega)).toNat = (vb n)[j] := by
    intro j h
    rw [← nb_get (by omega)]
    have : (nb (un (vb n) ++ t))[j]? = some (vb n)[j] := by
      rw [hnb, List.getElem?_append_left h]; exact List.getElem?_eq_getElem h
    have h' := List.getElem?_eq_some_iff.1 this
    exact h'.2
  have hsc : sc (un (vb n) ++ t) = m.length := by
    refine sc_is (by omega) (by omega) (fun j hj => ?_) ?_
    · rw [hg j (by omega)]
      have : (vb n)[j]'(by omega) = m[j] := by simp [e, List.getElem_append_left hj]
      rw [this]
      exact (h1 _ (List.getElem_mem hj)).1
    · rw [hg m.length (by omega)]
      have : (vb n)[m.length]'(by omega) = c := by simp [e]
      rw [this]; exact h2
  have hlt : sc (un (vb n) ++ t) < min (un (vb n) ++ t).length 10 := by omega
  have htk : (nb (un (vb n) ++ t)).take (m.length + 1) = vb n := by rw [hm, hnb, List.take_left]
  have hvr : vr (nb (un (vb n) ++ t)) (m.length + 1) = n := by
    rw [vr_eq (by omega) (by rw [nb_len]; omega), htk, vv_vb]
  have hb : ¬ badV (un (vb n) ++ t) (sc (un (vb n) ++ t)) := by
    rw [← vb_sc hlt, hsc, hvr, htk]
  unfold getV
  rw [if_pos hlt, if_neg hb, hsc, hvr, hm, ← hul, List.drop_left]

/-- n chunks of bytes. -/
def decC : Nat → List UInt8 → Option (List Ch × List UInt8)
  | 0, t => some ([], t)
  | n + 1, k :: f :: m :: u => if u.length < 1 + m.toNat then none else
      (decC n (u.drop (1 + m.toNat))).map fun p => (⟨(k.toNat : Int), (f.toNat : Int), ⟨(u.take (1 + m.toNat)).toArray⟩⟩ :: p.1, p.2)
  | _ + 1, _ => none
/-- Decode(s). -/
def decR (s : List UInt8) : List Ch × List UInt8 × Int :=
  if (getV s).2.2 ≠ 0 then ([], s, (getV s).2.2) else if 256 < (getV s).1 then ([], s, 70) else
    match decC (getV s).1 (getV s).2.1 with
    | none => ([], s, 21)
    | some p => if rightL p.1 = true then (p.1, p.2, 0) else ([], s, 70)
/-- A chunk as bytes can say it. -/
def okC (x : Ch) : Prop := 0 ≤ x.key ∧ x.key < 256 ∧ 0 ≤ x.form ∧ x.form < 256 ∧ 1 ≤ x.data.size ∧ x.data.size ≤ 256
theorem u8i_byte (k : UInt8) : u8i (k.toNat : Int) = k := by
  have h := UInt8.toNat_lt k
  unfold u8i
  have : (((k.toNat : Int)) % 256).toNat = k.toNat := by omega
  rw [this]; simp
theorem u8i_to {a : Int} (h0 : 0 ≤ a) (h : a < 256) : ((u8i a).toNat : Int) = a := by
  unfold u8i
  rw [UInt8.toNat_ofNat']; omega
theorem decC_enc : ∀ {l : List Ch} (t : List UInt8), (∀ x ∈ l, okC x) → decC l.length (l.flatMap encC ++ t) = some (l, t)
  | [], t, _ => rfl
  | x :: l, t, h => by
    obtain ⟨k0, k1, f0, f1, d0, d1⟩ := h x List.mem_cons_self
    have ih := decC_enc (l := l) t fun y hy => h y (List.mem_cons_of_mem _ hy)
    have e : (x :: l).flatMap encC ++ t = u8i x.key :: u8i x.form :: u8i ((x.data.size : Int) - 1) :: (x.data.data.toList ++ (l.flatMap encC ++ t)) := by
      simp [encC]
    have hm : 1 + (u8i ((x.data.size : Int) - 1)).toNat = x.data.size := by
      have := u8i_to (a := (x.data.size : Int) - 1) (by omega) (by omega)
      omega
    have hL : x.data.data.toList.length = x.data.size := rfl
    rw [e]
    show (if _ then _ else _) = _
    rw [hm, if_neg (by rw [List.length_append, hL]; omega), ← hL, List.drop_left, ih, List.take_left]
    simp only [Option.map_some, u8i_to k0 k1, u8i_to f0 f1]
theorem decC_back : ∀ {n : Nat} {t r : List UInt8} {l : List Ch}, decC n t = some (l, r) → l.length = n ∧ t = l.flatMap encC ++ r ∧ ∀ x ∈ l, okC x
  | 0, t, r, l, h => by
    cases h
    exact ⟨rfl, rfl, fun x hx => by cases hx⟩
  | n + 1, [], r, l, h => by cases h
  | n + 1, [a], r, l, h => by cases h
  | n + 1, [a, b], r, l, h => by cases h
  | n + 1, k :: f :: m :: u, r, l, h => by
    change (if _ then _ else _) = _ at h
    by_cases hc : u.length < 1 + m.toNat
    · rw [if_pos hc] at h; cases h
    · rw [if_neg hc] at h
      obtain ⟨p, hp, e⟩ := Option.map_eq_some_iff.1 h
      obtain ⟨l', r'⟩ := p
      injection e with e1 e2
      subst e1; subst e2
      obtain ⟨i1, i2, i3⟩ := decC_back hp
      have hk := UInt8.toNat_lt k
      have hf := UInt8.toNat_lt f
      have hm := UInt8.toNat_lt m
      have hs : (ByteArray.mk (u.take (1 + m.toNat)).toArray).size = 1 + m.toNat := by
        simp [ByteArray.size, List.length_take]; omega
      refine ⟨by simp [i1], ?_, fun x hx => ?_⟩
      · have e3 : encC ⟨(k.toNat : Int), (f.toNat : Int), ⟨(u.take (1 + m.toNat)).toArray⟩⟩ = k :: f :: m :: u.take (1 + m.toNat) := by
          unfold encC
          simp only [hs, u8i_byte]
          have : (((1 + m.toNat : Nat) : Int) - 1) = (m.toNat : Int) := by omega
          rw [this, u8i_byte]
          simp
        rw [List.flatMap_cons, e3, List.append_assoc, ← i2]
        simp
      · rcases List.mem_cons.1 hx with rfl | hx
        · exact ⟨by simp, by simp; omega, by simp, by simp; omega, by simp only [hs]; omega, by simp only [hs]; omega⟩
        · exact i3 x hx

/-- Encode(r), of however many chunks. -/
def encG (l : List Ch) : List UInt8 := un (vb l.length) ++ l.flatMap encC
def encE (l : List Ch) : ByteArray × Int := if rightL l = true then (⟨(encG l).toArray⟩, 0) else (⟨#[]⟩, 70)
theorem encG_small {l : List Ch} (h : l.length < 128) : encG l = encK l l.length := by
  unfold encG encK
  rw [vb_small h, List.take_length]
  rfl
theorem encE_small {l : List Ch} (h : l.length < 128) : encE l = encR l := by
  unfold encE encR
  rw [encG_small h]
theorem best_bytes {s : Nat} (hs : s < big) (h0 : s ≠ 0) : 0 ≤ (best s).form ∧ (best s).form < 256 ∧ 1 ≤ (bs (best s).data).size ∧ (bs (best s).data).size ≤ 256 := by
  have hz : (bs (best s).data).size = (best s).data.length := by simp [bs, ByteArray.size]
  have hc : 0 < (nums s).length := (count_pos hs).2 h0
  have hl := best_length_le s
  have h2 : 2 ≤ (runs s).length := runsOf_two (fun e => by rw [e] at hc; simp at hc)
  rw [hz]
  rcases best_cases s with ⟨h, -, -⟩ | ⟨h, -, -⟩ | ⟨h, -, -⟩
  · rw [h] at hl ⊢; exact ⟨(by decide : (0 : Int) ≤ 1), (by decide : (1 : Int) < 256), hc, by simp only at hl ⊢; omega⟩
  · rw [h] at hl ⊢; exact ⟨(by decide : (0 : Int) ≤ 3), (by decide : (3 : Int) < 256), by simp only; omega, by simp only at hl ⊢; omega⟩
  · rw [h] at hl ⊢; exact ⟨(by decide : (0 : Int) ≤ 2), (by decide : (2 : Int) < 256), by simp only [raw_length]; omega, by simp only at hl ⊢; omega⟩
theorem rightF_ok : ∀ {l : List Ch} {a : Int}, -1 ≤ a → rightF a l = true → ∀ x ∈ l, okC x
  | [], _, _, _, y, hy => by cases hy
  | x :: l, a, ha, h, y, hy => by
    simp only [rightF, Bool.and_eq_true, decide_eq_true_eq] at h
    obtain ⟨⟨⟨h1, h2⟩, h3⟩, h4⟩ := h
    rcases List.mem_cons.1 hy with rfl | hy
    · obtain ⟨s, hs, hs0, hf, hD⟩ := isBest_ex h3
      have hb := best_bytes hs hs0
      exact ⟨by omega, h2, by rw [hf]; exact hb.1, by rw [hf]; exact hb.2.1, by rw [hD]; exact hb.2.2.1, by rw [hD]; exact hb.2.2.2⟩
    · exact rightF_ok (by omega) h4 y hy
theorem rightF_len : ∀ {l : List Ch} {a : Int}, -1 ≤ a → a < 256 → rightF a l = true → (l.length : Int) ≤ 255 - a
  | [], a, _, _, _ => by simp; omega
  | x :: l, a, ha, hb, h => by
    simp only [rightF, Bool.and_eq_true, decide_eq_true_eq] at h
    have := rightF_len (by omega) h.1.1.2 h.2
    simp; omega
/-- What was written is read, whatever stands behind. -/
theorem dec_enc {l : List Ch} (h : rightL l = true) (t : List UInt8) : decR (encG l ++ t) = (l, t, 0) := by
  have hl := rightF_len (by omega) (by omega) h
  have hg : getV (encG l ++ t) = (l.length, l.flatMap encC ++ t, 0) := by
    unfold encG
    rw [List.append_assoc, getV_put (by have : (128 : Nat) ^ 9 = 9223372036854775808 := by decide
                                        omega)]
  unfold decR
  rw [hg]
  simp only [ne_eq, not_true_eq_false, if_false]
  rw [if_neg (by omega), decC_enc t (rightF_ok (by omega) h)]
  simp only
  rw [if_pos h]
/-- What was read is written as it was. -/
theorem dec_back {s r : List UInt8} {l : List Ch} (h : decR s = (l, r, 0)) : rightL l = true ∧ s = encG l ++ r := by
  unfold decR at h
  by_cases h1 : (getV s).2.2 ≠ 0
  · rw [if_pos h1] at h
    injection h with _ e; injection e with _ e
    exact absurd e h1
  · rw [if_neg h1] at h
    by_cases h2 : 256 < (getV s).1
    · rw [if_pos h2] at h; cases h
    · rw [if_neg h2] at h
      have h1' : (getV s).2.2 = 0 := by simpa using h1
      have hg := getV_back (l := s) (n := (getV s).1) (rest := (getV s).2.1) (by rw [← h1'])
      cases hd : decC (getV s).1 (getV s).2.1 with
      | none => rw [hd] at h; cases h
      | some p =>
        rw [hd] at h
        simp only at h
        by_cases hr : rightL p.1 = true
        · rw [if_pos hr] at h
          injection h with e1 e2; injection e2 with e2 _
          subst e1; subst e2
          obtain ⟨i1, i2, i3⟩ := decC_back hd
          refine ⟨hr, ?_⟩
          unfold encG
          rw [i1, List.append_assoc, ← i2]
          exact hg
        · rw [if_neg hr] at h; cases h
end Go.Proofs.YtalnfbkmlllfhaaDoor

/-
  roar.Encode of a bitmap of at most 256 chunks.
-/
namespace Go.Proofs.YtalnfbkmlllfhaaDoor
open Go.RowKit Go.Shelf Tess

attribute [local go_sem] Oper.semAt_some

def encGk (l : List Ch) (k : Nat) : List UInt8 := vbB l.length ++ (l.take k).flatMap encC
theorem encGk_succ {l : List Ch} {k : Nat} (h : k < l.length) : encGk l (k + 1) = encGk l k ++ encC l[k] := by
  unfold encGk
  rw [← List.take_append_getElem h, List.flatMap_append, List.append_assoc]
  simp
theorem encGk_all (l : List Ch) : encG l = encGk l l.length := by
  unfold encG encGk
  rw [List.take_length]
  rfl
theorem vbB_len (n : Nat) (h : n < 18446744073709551616 := by omega) : (vbB n).length ≤ 10 := by
  have := vb_len (n := n) (k := 10) (by have : (128 : Nat) ^ 10 = 1180591620717411303424 := by decide
                                        omega) (by decide)
  have e : (vbB n).length = (vb n).length := List.length_map _
  omega
theorem vbB_ne (n : Nat) : vbB n ≠ [] := fun e => vb_ne n (by simpa [vbB] using e)

set_option maxRecDepth 100000 in
set_option maxHeartbeats 4000000 in
theorem encodeG_any {l : List Ch} {v : Value} {w : World} (h : HC w v l) (hs : Small l) (hn : l.length ≤ 256) (hT : Tab w) :
    Calls Tryd.prog 31 #[.agg #[v]] w fun e W' => e = .returned (.tuple #[.string (encE l).1, .int .i64 (encE l).2]) ∧ Below w.heap.size w W' := by
  have hR : Below w.heap.size w (w.alloc (.cells #[v] 24)) := (Below.refl _ w).alloc (Nat.le_refl _) _
  have hr := Lib.hid (right_any (h.alloc (.cells #[v] 24)) hs.1 hs.2 (hT.below hR hT.lt))
  have hx0 := RBox.new w v
  have hx := hx0.cell
  have hv := h.alloc (.cells #[v] 24)
  clear h hs
  obtain ⟨p, cap, rfl, hcap, -⟩ := Hid.out hv
  go_enter Tryd.func31, Tryd.ntmps31
  go_wp2_with fail
  refine (hr.out).mono ?_
  rintro e W1 ⟨rfl, hb1⟩
  have hB1 := Lib.hid (hR.trans (hb1.mono hR.size))
  have hv1 := hv.later hb1
  have hx1 := hx0.later hb1
  clear hx hx0 hv hb1 hr hR
  cases hrr : rightL l with
  | false =>
    have hfin : Hid (encE l = (⟨#[]⟩, 70)) := by show _ = _; unfold encE; rw [hrr]; rfl
    clear hrr
    go_wp2
    exact bodyPost_ret (v := .tuple #[.string ⟨#[]⟩, .int .i64 70]) (by simp [results, Tryd.results31, go_sem]) rfl ⟨by rw [hfin.out], hB1.out⟩
  | true =>
    have hfin : Hid (encE l = (⟨(encGk l l.length).toArray⟩, 0)) := by show _ = _; unfold encE; rw [hrr, if_pos rfl, encGk_all]
    have hrr' := Lib.hid hrr
    clear hrr
    have hI0 := isB_new W1
    have hBa := Lib.hid ((Below.refl W1.heap.size W1).alloc (Nat.le_refl _) (.cells #[.pointer none, .slice none 0 0] 87))
    have hxa := hx1.alloc (.cells #[.pointer none, .slice none 0 0] 87)
    have hp := Lib.hid (putN_any l.length (by omega) (W1.alloc (.cells #[.pointer none, .slice none 0 0] 87)))
    have hy1 := hxa.cell
    go_wp2_with fail
    refine (hp.out).mono ?_
    rintro e W2 ⟨rfl, hb2⟩
    have hI2 := isB_later hI0 hb2
    have hB2 := Lib.hid (hBa.out.trans (hb2.mono (by simp)))
    have hws := Lib.hid (writeString_any (⟨(vbB l.length).toArray⟩) hI2 (by have := vbB_len l.length; simp [ByteArray.size]; omega) hB2.out.size)
    clear hp hI2 hI0 hb2 hBa hxa hy1
    go_wp2_with fail
    refine (hws.out).mono ?_
    rintro e W3 ⟨rfl, hA3, hb3, -⟩
    have hB3 := Lib.hid (hB2.out.trans hb3)
    have hA3' : Hid (IsB W1.heap.size W1.heap.size (Lib.byteCells (encGk l 0)) W3) := .inr (by simpa [Lib.strCells_eq, encGk] using hA3)
    have hx3 := (hx1.later hB3.out).cell
    clear hws hb3 hA3 hB2
    obtain ⟨p', cap', hpe, -, hc⟩ := Hid.out hv1
    simp only [Value.slice.injEq] at hpe
    obtain ⟨rfl, -, rfl⟩ := hpe
    have hc' := Lib.hid hc
    clear hc hv1
    go_wp2
    go_loopw [19] (fun i wr => ∃ (k : Nat), k ≤ l.length ∧ i = .int .i64 k ∧ Hid ((Lib.byteCells (encGk l k)).length ≤ 10 + 1000003 * k) ∧ Hid (IsB W1.heap.size W1.heap.size (Lib.byteCells (encGk l k)) wr) ∧ Hid (Below W1.heap.size W1 wr))
      (fun i _ => l.length - (intOf i).toNat)
    case atStart => exact ⟨0, Nat.zero_le _, rfl, by show _ ≤ _; have := vbB_len l.length; simp [encGk, Lib.byteCells_length]; omega, hA3', hB3⟩
    case round =>
      obtain ⟨k, hk, rfl, hst, hA, hB⟩ := hrel
      by_cases hlt : k < l.length
      · obtain ⟨b, off, rfl, hb, h1, h2, h3⟩ := hc'.out k hlt
        have y1 := (hB.out.cell (p := ⟨b, off + k * 3, none⟩) hb).trans h1
        have y2 := (hB.out.cell (p := ⟨b, off + k * 3 + 1, none⟩) hb).trans h2
        have y3 := (hB.out.cell (p := ⟨b, off + k * 3 + 2, none⟩) hb).trans h3
        have hkd : decide (k < l.length) = true := by simpa using hlt
        have hxs := (right_mem hrr'.out (List.getElem_mem hlt)).2.2
        have hst2 := Lib.hid (encGk_succ hlt)
        clear h1 h2 h3
        generalize hxx : l[k] = x at y1 y2 y3 hxs hst2
        clear hxx
        have hK0 := KBox.new wr x
        have hB4 := Lib.hid (hB.out.alloc hB.out.size (.cells #[.int .i64 x.key, .int .i64 x.form, .string x.data] 59))
        have hA4 := Lib.hid (isB_alloc hA.out (.cells #[.int .i64 x.key, .int .i64 x.form, .string x.data] 59))
        have hA5 := Lib.hid (isB_alloc hA4.out (.cells #[.int .u8 (x.key % 256), .int .u8 (x.form % 256), .int .u8 (((x.data.size : Int) - 1) % 256)] 5))
        have hB5 := Lib.hid (hB4.out.alloc hB4.out.size (.cells #[.int .u8 (x.key % 256), .int .u8 (x.form % 256), .int .u8 (((x.data.size : Int) - 1) % 256)] 5))
        have hK1 := hK0.alloc (.cells #[.int .u8 (x.key % 256), .int .u8 (x.form % 256), .int .u8 (((x.data.size : Int) - 1) % 256)] 5)
        have hw3 := Lib.hid (write3_any (g := wr.heap.size + 1) (x.key % 256) (x.form % 256) (((x.data.size : Int) - 1) % 256) hA5.out (by have := heap_alloc_new (wr.alloc (.cells #[.int .i64 x.key, .int .i64 x.form, .string x.data] 59)) (.cells #[.int .u8 (x.key % 256), .int .u8 (x.form % 256), .int .u8 (((x.data.size : Int) - 1) % 256)] 5); simpa using this) (by have := hst.out; omega) hB5.out.size)
        have hKne : wr.heap.size ≠ W1.heap.size := by
          rcases hA.out with hq | hq
          · exact fun e => by have := lt_of_heap hq.2.choose_spec.1; omega
          · exact fun e => by have := lt_of_heap hq.2.choose_spec.1; omega
        obtain ⟨hk0, hk1, hk2⟩ := hK0.cells
        go_wp2_with fail
        refine (hw3.out).mono ?_
        rintro e W4 ⟨rfl, hA6, hb6, hO6⟩
        have hK2 : KBox W4 wr.heap.size x := hO6 _ _ hK1 (fun e => hKne (Option.some.inj e)) (fun c fz e => by cases e)
        have hB6 := Lib.hid (hB5.out.trans hb6)
        have hws := Lib.hid (writeString_any x.data (.inr hA6) (by have := hst.out; simp; omega) hB6.out.size)
        clear hw3 hk0 hk1 hk2 hA6 hb6 hO6 hA4 hA5 hK0 hK1
        obtain ⟨hk0, hk1, hk2⟩ := hK2.cells
        go_wp2_with fail
        refine (hws.out).mono ?_
        rintro e W5 ⟨rfl, hA7, hb7, -⟩
        have hB7 := Lib.hid (hB6.out.trans hb7)
        have hA8 : Hid (IsB W1.heap.size W1.heap.size (Lib.byteCells (encGk l (k + 1))) W5) := .inr (by rw [hst2.out, Lib.byteCells_append, ← byte3, ← List.append_assoc]; exact hA7)
        have hst3 : Hid ((Lib.byteCells (encGk l (k + 1))).length ≤ 10 + 1000003 * (k + 1)) := by
          show _ ≤ _
          have := hst.out
          rw [hst2.out, Lib.byteCells_append, ← byte3]
          simp only [List.length_append, Lib.strCells_length, List.length_cons, List.length_nil]
          omega
        clear hws hA7 hb7 hk0 hk1 hk2 hst hA
        go_wp2
        go_roundw
        case rel => exact ⟨k + 1, by omega, by go_num, hst3, hA8, hB7⟩
        case measure => simp [intOf]; omega
      · have hkd : decide (k < l.length) = false := by simpa using hlt
        have hke : k = l.length := by omega
        subst hke
        have hst := Lib.hid (string_any hA.out (by simp [encGk]; intro h; exact absurd h (vbB_ne _)))
        clear hA
        go_wp2_with fail
        refine (hst.out).mono ?_
        rintro e W4 ⟨rfl, hb4, -⟩
        have hB4 := Lib.hid (hB1.out.trans ((hB.out.trans hb4).mono hB1.out.size))
        clear hst hb4
        go_wp2
        exact bodyPost_ret (v := .tuple #[.string ⟨(encGk l l.length).toArray⟩, .int .i64 0]) (by simp [results, Tryd.results31, go_sem]) rfl ⟨by rw [hfin.out], hB4.out⟩
end Go.Proofs.YtalnfbkmlllfhaaDoor
