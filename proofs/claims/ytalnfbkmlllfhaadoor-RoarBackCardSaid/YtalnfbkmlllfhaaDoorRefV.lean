/-
  RVarint, RGet: several texts in one (merge.py).
-/
import Derived.WalkKit
import Derived.BigQuiet
import Derived.Deep.QuietTactic
import Derived.Laws.IdiomStrings
import Derived.Test.YtalnfbkmlllfhaaDoorVarG
import Derived.IntWalk
import Derived.Test.YtalnfbkmlllfhaaDoorEncB

/-
  The reference's varints: Put.
-/
namespace Go.Proofs.YtalnfbkmlllfhaaDoor
open Go.RowKit Go.Shelf Tess

theorem vbB_small {x : Nat} (h : x < 128) : vbB x = [UInt8.ofNat x] := by unfold vbB; rw [vb_small h]; rfl
theorem vbB_big {x : Nat} (h : ¬ x < 128) : vbB x = UInt8.ofNat (128 + x % 128) :: vbB (x / 128) := by unfold vbB; rw [vb_big h]; rfl
theorem bcell {W w1 : World} (hb : Below W.heap.size W w1) : (∀ b o, b < W.heap.size → w1.cell? ⟨b, o, none⟩ = W.cell? ⟨b, o, none⟩) ∧ (∀ b o, b < W.heap.size → w1.frozen? ⟨b, o, none⟩ = W.frozen? ⟨b, o, none⟩) :=
  ⟨fun b o h => hb.cell (p := ⟨b, o, none⟩) h, fun b o h => hb.frozen (p := ⟨b, o, none⟩) h⟩
theorem bytes_cons (c : UInt8) (l : List UInt8) : (⟨#[c]⟩ ++ ⟨l.toArray⟩ : ByteArray) = ⟨(c :: l).toArray⟩ := by
  apply ByteArray.ext
  rw [ByteArray.data_append]
  simp
/-- string([]byte{c}). -/
theorem conv1 {c : Nat} (hc : c < 256) (W : World) (b : Nat) (h : W.cell? ⟨b, 0, none⟩ = some (.int .u8 (c : Int))) : (convert 85 9 (.slice (some ⟨b, 0, none⟩) 1 1)).run Tryd.prog W = .ok (.string ⟨#[UInt8.ofNat c]⟩) W :=
  run_convert_bytes_back (P := Tryd.prog) W 85 9 5 ⟨b, 0, none⟩ 1 [UInt8.ofNat c] Tryd.underlying85 Tryd.underlying5 Tryd.underlying9 (fun j hj => by
    have hj' : j < 1 := hj
    obtain rfl : j = 0 := by omega
    have e : ((⟨b, 0, none⟩ : Addr).add 0) = ⟨b, 0, none⟩ := rfl
    rw [e, h]
    simp [UInt8.toNat_ofNat']
    omega)

set_option maxRecDepth 100000 in
set_option maxHeartbeats 2000000 in
theorem rput_any (x : Nat) : ∀ (w : World), x < 18446744073709551616 → Calls Tryd.prog 57 #[.int .u64 (x : Int)] w fun e W' => e = .returned (.string ⟨(vbB x).toArray⟩) ∧ Below w.heap.size w W' := by
  induction x using Nat.strongRecOn with
  | _ x ih =>
    intro w hx
    by_cases hlt : x < 128
    · have h1 : decide (x < 128) = true := decide_eq_true hlt
      have hv := Lib.hid (vbB_small hlt)
      have h3 : (x : Int) % 256 = x := by omega
      have hcv := conv1 (c := x) (by omega)
      clear ih
      go_enter Tryd.func57, Tryd.ntmps57
      go_wp2
      refine bodyPost_ret (v := .string ⟨#[UInt8.ofNat x]⟩) (by simp [results, Tryd.results57, go_sem]) rfl ⟨by rw [hv.out], ?_⟩
      exact (Below.refl _ w).alloc (Nat.le_refl _) _
    · have h1 : decide (x < 128) = false := decide_eq_false hlt
      have hi := Lib.hid (fun w => ih (x / 128) (by omega) w (by omega))
      have hv := Lib.hid (vbB_big hlt)
      obtain ⟨c, hc⟩ : ∃ c, 128 + x % 128 = c := ⟨_, rfl⟩
      obtain ⟨d, hd⟩ : ∃ d, x / 128 = d := ⟨_, rfl⟩
      rw [hc, hd] at hv
      rw [hd] at hi
      have hcv := conv1 (c := c) (by omega)
      have e1 : IntKind.u8.wrap (IntKind.u64.wrap (128 + (x : Int).tmod 128)) = (c : Int) := by
        rw [Int.tmod_eq_emod_of_nonneg (by omega), IntKind.wrap_u64, IntKind.wrap_u8']; omega
      have e2 : IntKind.u64.wrap ((x : Int) / 128) = (d : Int) := by rw [IntKind.wrap_u64]; omega
      have hz : ¬ 9223372036854775807 < 1 + (vbB d).length := by
        have hl : (vb d).length ≤ 10 := vb_len (by have : (128 : Nat) ^ 10 = 1180591620717411303424 := by decide
                                                   omega) (by decide)
        have : (vbB d).length = (vb d).length := List.length_map _
        omega
      clear ih hc hd hx
      go_enter Tryd.func57, Tryd.ntmps57
      go_wp2
      go_region_with (go_at_call 57; refine (hi.out _).mono ?_; rintro e W1 ⟨rfl, hb1⟩; obtain ⟨hc1, hf1⟩ := bcell hb1)
      all_goals go_wp2
      all_goals refine bodyPost_ret (v := .string (⟨#[UInt8.ofNat c]⟩ ++ ⟨(vbB d).toArray⟩)) (by simp [results, Tryd.results57, go_sem]) rfl ⟨by rw [hv.out, bytes_cons], ?_⟩
      all_goals first
        | exact (Below.drew ((Below.refl _ w).alloc (Nat.le_refl _) _)).trans (hb1.mono (by simp))
        | exact ((Below.drew (Below.refl _ w)).trans hb1).alloc (by have := hb1.size; simpa using this) _
end Go.Proofs.YtalnfbkmlllfhaaDoor

/-
  The reference's varints: Get.
-/
namespace Go.Proofs.YtalnfbkmlllfhaaDoor
open Go.RowKit Go.Shelf Tess

/-- A string's bytes. -/
def sl (s : ByteArray) : List UInt8 := s.data.toList
theorem sl_len (s : ByteArray) : (sl s).length = s.size := rfl
theorem sl_get {s : ByteArray} {k : Nat} (h : k < s.size) : (sl s)[k]'h = s[k] := rfl
theorem sl_back (s : ByteArray) : (⟨(sl s).toArray⟩ : ByteArray) = s := by
  apply ByteArray.ext
  show s.data.toList.toArray = s.data
  simp
theorem sl_mk (l : List UInt8) : sl ⟨l.toArray⟩ = l := by show l.toArray.toList = l; simp
theorem sl_ext (s : ByteArray) (a b : Nat) : sl (s.extract a b) = ((sl s).take b).drop a := by
  show (s.extract a b).data.toList = _
  rw [ByteArray.data_extract]
  simp [sl, List.drop_take]
theorem ba_ext {s t : ByteArray} (h : sl s = sl t) : s = t := by rw [← sl_back s, ← sl_back t, h]

theorem nb_take (l : List UInt8) (k : Nat) : (nb l).take k = nb (l.take k) := by unfold nb; rw [List.map_take]
theorem vbB_sc {l : List UInt8} (h : sc l < min l.length 10) : vbB (vr (nb l) (sc l + 1)) = l.take (sc l + 1) ↔ ¬ badV l (sc l) := by
  rw [← vb_sc h]
  constructor
  · intro e
    have := congrArg nb e
    rw [show vbB (vr (nb l) (sc l + 1)) = un (vb (vr (nb l) (sc l + 1))) from rfl, nb_un (vb_lt _)] at this
    rw [nb_take]; exact this
  · intro e
    show un (vb (vr (nb l) (sc l + 1))) = _
    rw [e, nb_take, un_nb]
theorem ext_take (s : ByteArray) (k : Nat) : (s.extract 0 k).toList = (sl s).take k := by
  rw [ByteArray.toList_eq]
  show sl (s.extract 0 k) = _
  rw [sl_ext, List.drop_zero]
theorem ext_drop (s : ByteArray) (k : Nat) : s.extract k s.size = ⟨((sl s).drop k).toArray⟩ := by
  apply ba_ext
  rw [sl_ext]
  show List.drop k (List.take (sl s).length (sl s)) = _
  rw [List.take_length]
  exact (sl_mk _).symm
/-- One step of the reading. -/
theorem vr_step {l : List UInt8} {k : Nat} (h : k < l.length) : bits .or .u64 (vr (nb l) k : Int) (IntKind.u64.wrap ((l[k].toNat : Int) % 128 * 2 ^ (7 * k))) = (vr (nb l) (k + 1) : Int) := by
  have e : IntKind.u64.wrap ((l[k].toNat : Int) % 128 * 2 ^ (7 * k)) = (((l[k].toNat % 128) * 2 ^ (7 * k) % 2 ^ 64 : Nat) : Int) := by
    rw [IntKind.wrap_u64]
    simp
  rw [e, u64_or_nat _ _ (vr_lt _ _) (Nat.mod_lt _ (by decide))]
  show _ = ((vr (nb l) k ||| ((nb l)[k]?.getD 0 % 128) * 2 ^ (7 * k) % 2 ^ 64 : Nat) : Int)
  rw [nb_getD h]

set_option maxRecDepth 100000 in
set_option maxHeartbeats 2000000 in
theorem rget_any (s : ByteArray) (w : World) (hs : s.size ≤ maxLen) :
    Calls Tryd.prog 61 #[.string s] w fun e W' => e = .returned (.tuple #[.int .u64 ((getV (sl s)).1 : Int), .string ⟨(getV (sl s)).2.1.toArray⟩, .int .i64 (getV (sl s)).2.2]) ∧ Below w.heap.size w W' := by
  have hsc := Lib.hid (sc_le (sl s))
  unfold maxLen at hs
  go_enter Tryd.func61, Tryd.ntmps61
  go_wp2
  go_loop [5, 6] (fun n i => ∃ k : Nat, k ≤ sc (sl s) ∧ i = .int .i64 k ∧ n = .int .u64 (vr (nb (sl s)) k : Nat)) (fun _ i => s.size - (intOf i).toNat)
  case atStart => exact ⟨0, Nat.zero_le _, rfl, rfl⟩
  case round =>
    obtain ⟨k, hk, rfl, rfl⟩ := hrel
    by_cases hlt : k < s.size ∧ k < 10
    · obtain ⟨hlt, h10⟩ := hlt
      have e1 := vr_step (l := sl s) hlt
      rw [sl_get hlt] at e1
      have hkl : decide (k < s.size) = true := decide_eq_true hlt
      have hk1 : decide (k < 10) = true := decide_eq_true h10
      by_cases hc : s[k].toNat < 128
      · have hkk : sc (sl s) = k := by
          rcases Nat.lt_or_ge k (sc (sl s)) with h | h
          · have := sc_on h hlt
            rw [sl_get hlt] at this
            omega
          · omega
        have hp := Lib.hid (fun W => rput_any (vr (nb (sl s)) (k + 1)) W (vr_lt _ _))
        generalize vr (nb (sl s)) k = n at e1
        obtain ⟨m, hm'⟩ : ∃ m, vr (nb (sl s)) (k + 1) = m := ⟨_, rfl⟩
        rw [hm'] at e1 hp
        have hcd : decide (s[k].toNat < 128) = true := decide_eq_true hc
        have s1 : IntKind.i64.wrap ((k : Int) + 1) = (k : Int) + 1 := IntWalk.i64_in _ (by omega)
        have s2 : (0 : Int) ≤ (k : Int) + 1 := by omega
        have s3 : ((k : Int) + 1).toNat = k + 1 := by omega
        have s4 : (k : Int) + 1 ≤ (s.size : Int) := by omega
        by_cases hb : badV (sl s) k
        · have hq : (vbB m == (s.extract 0 (k + 1)).toList) = false := by
            rw [ext_take, ← hm']
            have := vbB_sc (l := sl s) (by rw [hkk, sl_len]; omega)
            rw [hkk] at this
            exact beq_false_of_ne fun e => (this.1 e) hb
          have hfin : Hid (getV (sl s) = (0, sl s, 20)) := by
            show _ = _
            unfold getV
            rw [hkk, if_pos (by rw [sl_len]; omega), if_pos hb]
          clear hb hkk hm' hk
          go_wp2
          go_region_with (go_at_call 57; refine (hp.out _).mono ?_; rintro e W1 ⟨rfl, hb1⟩)
          all_goals go_wp2
          all_goals refine bodyPost_ret (v := .tuple #[.int .u64 0, .string s, .int .i64 20]) (by simp [results, Tryd.results61, go_sem]) rfl ⟨by rw [hfin.out, sl_back]; rfl, (Below.drew (Below.refl _ w)).trans hb1⟩
        · have hq : (vbB m == (s.extract 0 (k + 1)).toList) = true := by
            rw [ext_take, ← hm']
            have := vbB_sc (l := sl s) (by rw [hkk, sl_len]; omega)
            rw [hkk] at this
            exact beq_iff_eq.2 (this.2 hb)
          have hfin : Hid (getV (sl s) = (m, (sl s).drop (k + 1), 0)) := by
            show _ = _
            unfold getV
            rw [hkk, if_pos (by rw [sl_len]; omega), if_neg hb, hm']
          have hx := Lib.hid (ext_drop s (k + 1))
          clear hb hkk hm' hk
          go_wp2
          go_region_with (go_at_call 57; refine (hp.out _).mono ?_; rintro e W1 ⟨rfl, hb1⟩)
          all_goals go_wp2
          all_goals (try simp only [Act.put, List.setIfInBounds_toArray])
          all_goals go_region
          all_goals go_wp2
          all_goals refine bodyPost_ret (v := .tuple #[.int .u64 m, .string (s.extract (k + 1) s.size), .int .i64 0]) (by simp [results, Tryd.results61, go_sem]) rfl ⟨by rw [hfin.out, hx.out], Below.drew ((Below.drew (Below.refl _ w)).trans hb1)⟩
      · have hkk : Hid (k + 1 ≤ sc (sl s)) := by
          show _ ≤ _
          rcases Nat.lt_or_ge k (sc (sl s)) with h | h
          · omega
          · have hkk : sc (sl s) = k := by omega
            have := sc_off (l := sl s) (by rw [sl_len]; omega) (by omega)
            have h3 : (sl s)[sc (sl s)]'(by rw [sl_len]; omega) = s[k] := by simp only [hkk]; rfl
            rw [h3] at this
            omega
        have hcd : decide (s[k].toNat < 128) = false := decide_eq_false hc
        generalize vr (nb (sl s)) k = n at e1
        obtain ⟨m, hm⟩ : ∃ m, vr (nb (sl s)) (k + 1) = m := ⟨_, rfl⟩
        rw [hm] at e1
        have hm' := Lib.hid hm
        clear hm
        go_wp2
        go_round
        case rel => exact ⟨k + 1, hkk.out, by go_num, by rw [hm'.out]⟩
        case measure => simp [intOf]; omega
    · have hkk : sc (sl s) = min s.size 10 := by have := hsc.out; rw [sl_len] at this; omega
      by_cases h10 : s.size < 10
      · have hkl : decide (k < s.size) = false := decide_eq_false (by omega)
        have hk1 : decide (s.size < 10) = true := decide_eq_true h10
        have hfin : Hid (getV (sl s) = (0, sl s, 21)) := by
          show _ = _
          unfold getV
          rw [if_neg (by rw [sl_len]; omega), if_pos (by rw [sl_len]; omega)]
        go_wp2
        exact bodyPost_ret (v := .tuple #[.int .u64 0, .string s, .int .i64 21]) (by simp [results, Tryd.results61, go_sem]) rfl ⟨by rw [hfin.out, sl_back]; rfl, Below.refl _ w⟩
      · have hk1 : decide (s.size < 10) = false := decide_eq_false h10
        have hk2 : decide (k < 10) = false := decide_eq_false (by omega)
        have hfin : Hid (getV (sl s) = (0, sl s, 20)) := by
          show _ = _
          unfold getV
          rw [if_neg (by rw [sl_len]; omega), if_neg (by rw [sl_len]; omega)]
        by_cases hks : k < s.size
        · have hkl : decide (k < s.size) = true := decide_eq_true hks
          go_wp2
          exact bodyPost_ret (v := .tuple #[.int .u64 0, .string s, .int .i64 20]) (by simp [results, Tryd.results61, go_sem]) rfl ⟨by rw [hfin.out, sl_back]; rfl, Below.refl _ w⟩
        · have hkl : decide (k < s.size) = false := decide_eq_false hks
          go_wp2
          exact bodyPost_ret (v := .tuple #[.int .u64 0, .string s, .int .i64 20]) (by simp [results, Tryd.results61, go_sem]) rfl ⟨by rw [hfin.out, sl_back]; rfl, Below.refl _ w⟩
end Go.Proofs.YtalnfbkmlllfhaaDoor
