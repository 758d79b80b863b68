/-
  Errs7, Get7, Get8, Rd7: several texts in one (merge.py).
-/
import Derived.WalkKit
import Derived.Below
import Derived.LaidEql
import Derived.LaidSub
import Derived.Stop.Asserts
import Derived.Stop.LaidTwo
import Derived.RowKitTokens
import Derived.Lib.Hide
import Derived.Test.YtalnfbkmlllfhaaDoorChecked
import Derived.Test.YtalnfbkmlllfhaaDoorRefV
import Derived.WalkSmall

/-
  Two errors of errors.New's make in their package's variables; errors.Is over them; told of varint and of roar.
-/
namespace Go.Proofs.YtalnfbkmlllfhaaDoor
open Go.RowKit Go.Extern.Stop Go.Stop Go.Extern

theorem isTypeOf (v : Value) (w : World) : (Extern.ReflectliteType.typeOf #[.iface 175 v]).run Tryd.prog w = .ok (.iface 165 (.agg #[.pointer (some ⟨5, 175, none⟩)])) w := by kernel_rfl
theorem isComparable (w : World) : ((Extern.ReflectliteType.method fun t => do Go.Extern.Rtype.noPackHeld "Comparable" t; (fun a => Value.bool a.comparable) <$> typeInfo t) #[.agg #[.pointer (some ⟨5, 175, none⟩)]]).run Tryd.prog w = .ok (.bool true) w := by kernel_rfl
theorem isMethod (n : Nat) (v : Value) (w : World) : (Go.method (n + 1) 165 v "Comparable").run Tryd.prog w = .ok (126, v) w := by kernel_rfl
theorem isComp : (Tryd.prog.info? 175).map (·.comparable) = some true := by kernel_rfl
theorem isSize : (Tryd.prog.info? 198).map (·.size) = some 1 := by kernel_rfl
theorem noIsE (v : Value) (xT : TypeId) (w : World) : (Instr.typeAssert (.iface 175 v) xT 167 true).run Tryd.prog w = .ok (.tuple #[.nilIface, .bool false]) w := run_typeAssert_lacksB Tryd.underlying167 (by kernel_rfl) (by kernel_rfl) v xT w
theorem noUnwrapE (v : Value) (xT : TypeId) (w : World) : (Instr.typeAssert (.iface 175 v) xT 170 true).run Tryd.prog w = .ok (.tuple #[.nilIface, .bool false]) w := run_typeAssert_lacksB Tryd.underlying170 (by kernel_rfl) (by kernel_rfl) v xT w
theorem noUnwrapsE (v : Value) (xT : TypeId) (w : World) : (Instr.typeAssert (.iface 175 v) xT 172 true).run Tryd.prog w = .ok (.tuple #[.nilIface, .bool false]) w := run_typeAssert_lacksB Tryd.underlying172 (by kernel_rfl) (by kernel_rfl) v xT w

/-- An error of errors.New's make. -/
abbrev ev (a : Addr) : Value := .iface 175 (.pointer (some a))

set_option maxRecDepth 100000 in
theorem is_same (a : Addr) (w : World) :
    Calls Tryd.prog 88 #[ev a, ev a] w fun e w' => e = .returned (.bool true) ∧ w = w' := by
  obtain ⟨i, hi, hcmp⟩ := Option.map_eq_some_iff.1 isComp
  obtain ⟨j, hj, hjs⟩ := Option.map_eq_some_iff.1 isSize
  have h8 := @run_callFunc_extern Tryd.prog 100 _ Extern.ReflectliteType.typeOf Tryd.func100 (by kernel_rfl) (by kernel_rfl) (by kernel_rfl) (by kernel_rfl)
  have h32 := @run_callFunc_extern Tryd.prog 126 _ (Extern.ReflectliteType.method fun t => do Go.Extern.Rtype.noPackHeld "Comparable" t; pure (.bool (← typeInfo t).comparable)) Tryd.func126 (by kernel_rfl) (by kernel_rfl) (by kernel_rfl) (by kernel_rfl)
  have tT := isTypeOf
  have cT := isComparable
  have mR := isMethod
  have heq := run_eql_iface_ptr_same (P := Tryd.prog) w a Tryd.underlying89 Tryd.underlying175 hi hcmp hj
  go_enter Tryd.func88, Tryd.ntmps88
  go_wp2
  refine wp_loop_rounds 1 ?_
  rw [rounds_succ]
  go_wp2
  go_ret
  exact ⟨rfl, rfl⟩

set_option maxRecDepth 100000 in
theorem is_nil (b : Addr) (w : World) :
    Calls Tryd.prog 88 #[.nilIface, ev b] w fun e w' => e = .returned (.bool false) ∧ w = w' := by
  have hn := run_eql_iface_nil_left (P := Tryd.prog) w 175 (.pointer (some b)) Tryd.underlying89
  go_enter Tryd.func88, Tryd.ntmps88
  go_wp2
  go_ret
  exact ⟨rfl, rfl⟩

set_option maxRecDepth 100000 in
theorem is_other (a b : Addr) (ca cb : Array Value) (ta tb : TypeId) (w : World) (hne : a ≠ b) (ha : w.heap[a.block]? = some (.cells ca ta (0, 0))) (hb : w.heap[b.block]? = some (.cells cb tb (0, 0))) :
    Calls Tryd.prog 88 #[ev a, ev b] w fun e w' => e = .returned (.bool false) ∧ w = w' := by
  obtain ⟨i, hi, hcmp⟩ := Option.map_eq_some_iff.1 isComp
  obtain ⟨j, hj, hjs⟩ := Option.map_eq_some_iff.1 isSize
  have h8 := @run_callFunc_extern Tryd.prog 100 _ Extern.ReflectliteType.typeOf Tryd.func100 (by kernel_rfl) (by kernel_rfl) (by kernel_rfl) (by kernel_rfl)
  have h32 := @run_callFunc_extern Tryd.prog 126 _ (Extern.ReflectliteType.method fun t => do Go.Extern.Rtype.noPackHeld "Comparable" t; pure (.bool (← typeInfo t).comparable)) Tryd.func126 (by kernel_rfl) (by kernel_rfl) (by kernel_rfl) (by kernel_rfl)
  have tT := isTypeOf
  have cT := isComparable
  have mR := isMethod
  have nE := noIsE
  have uE := noUnwrapE
  have vE := noUnwrapsE
  have heq := run_eql_iface_ptr_other (P := Tryd.prog) w Tryd.underlying89 Tryd.underlying175 hi hcmp hj (by rw [hjs]; decide) hne ha hb
  go_enter Tryd.func88, Tryd.ntmps88
  go_wp2
  refine wp_loop_rounds 1 ?_
  rw [rounds_succ]
  go_wp2
  go_ret
  exact ⟨rfl, rfl⟩

/-- The variables gm, gn hold the errors am, an, which are two. -/
def Sent (W : World) (gm gn : Nat) (am an : Addr) : Prop :=
  Hid (W.cell? ⟨gm, 0, none⟩ = some (ev am) ∧ W.cell? ⟨gn, 0, none⟩ = some (ev an) ∧ am ≠ an ∧ (∃ c t, W.heap[am.block]? = some (.cells c t (0, 0))) ∧ ∃ c t, W.heap[an.block]? = some (.cells c t (0, 0)))
theorem Sent.later {W W' : World} {gm gn : Nat} {am an : Addr} (h : Sent W gm gn am an) (hb : Below W.heap.size W W') : Sent W' gm gn am an := by
  obtain ⟨h1, h2, h3, ⟨c, t, h4⟩, ⟨c', t', h5⟩⟩ := Hid.out h
  have lt : ∀ {k : Nat} {o : Obj}, W.heap[k]? = some o → k < W.heap.size := fun h => (Array.getElem?_eq_some_iff.1 h).1
  exact Lib.hid ⟨(hb.cell (p := ⟨gm, 0, none⟩) (World.block_lt_of_cell? W _ h1)).trans h1, (hb.cell (p := ⟨gn, 0, none⟩) (World.block_lt_of_cell? W _ h2)).trans h2, h3,
    ⟨c, t, (hb.block _ (lt h4)).trans h4⟩, ⟨c', t', (hb.block _ (lt h5)).trans h5⟩⟩
/-- The world with its draws counted is no other. -/
theorem Sent.cells {W : World} {gm gn : Nat} {am an : Addr} (h : Sent W gm gn am an) : W.cell? ⟨gm, 0, none⟩ = some (ev am) ∧ W.cell? ⟨gn, 0, none⟩ = some (ev an) := ⟨(Hid.out h).1, (Hid.out h).2.1⟩

/-- Which error. -/
inductive Er
  | ok | more | none
deriving DecidableEq
/-- The error as a value; as a number. -/
def Er.val (am an : Addr) : Er → Value
  | .ok => .nilIface
  | .more => ev am
  | .none => ev an
def Er.num (k : Int) : Er → Int
  | .ok => 0
  | .more => 21
  | .none => k

set_option maxRecDepth 100000 in
theorem vtold_any {W : World} {am an : Addr} (h : Sent W 2 3 am an) (x : Er) :
    Calls Tryd.prog 86 #[x.val am an] W fun e W' => e = .returned (.int .i64 (x.num 20)) ∧ W = W' := by
  obtain ⟨h1, h2, hne, ⟨c, t, h4⟩, ⟨c', t', h5⟩⟩ := Hid.out h
  have i1 := Lib.hid (is_same am W)
  have i2 := Lib.hid (is_same an W)
  have i3 := Lib.hid (is_nil am W)
  have i4 := Lib.hid (is_nil an W)
  have i5 := Lib.hid (is_other an am c' c t' t W (Ne.symm hne) h5 h4)
  clear h hne h4 h5
  cases x with
  | ok =>
    go_enter Tryd.func86, Tryd.ntmps86
    go_wp2_with fail
    refine (i3.out).mono ?_
    rintro e w ⟨rfl, rfl⟩
    go_wp2_with fail
    refine (i4.out).mono ?_
    rintro e w ⟨rfl, rfl⟩
    go_wp2
    go_ret
    exact ⟨rfl, rfl⟩
  | more =>
    go_enter Tryd.func86, Tryd.ntmps86
    go_wp2_with fail
    refine (i1.out).mono ?_
    rintro e w ⟨rfl, rfl⟩
    go_wp2
    go_ret
    exact ⟨rfl, rfl⟩
  | none =>
    go_enter Tryd.func86, Tryd.ntmps86
    go_wp2_with fail
    refine (i5.out).mono ?_
    rintro e w ⟨rfl, rfl⟩
    go_wp2_with fail
    refine (i2.out).mono ?_
    rintro e w ⟨rfl, rfl⟩
    go_wp2
    go_ret
    exact ⟨rfl, rfl⟩

set_option maxRecDepth 100000 in
theorem rtold_any {W : World} {am an : Addr} (h : Sent W 1 0 am an) (x : Er) :
    Calls Tryd.prog 60 #[x.val am an] W fun e W' => e = .returned (.int .i64 (x.num 70)) ∧ W = W' := by
  obtain ⟨h1, h2, hne, ⟨c, t, h4⟩, ⟨c', t', h5⟩⟩ := Hid.out h
  have i1 := Lib.hid (is_same am W)
  have i2 := Lib.hid (is_same an W)
  have i3 := Lib.hid (is_nil am W)
  have i4 := Lib.hid (is_nil an W)
  have i5 := Lib.hid (is_other an am c' c t' t W (Ne.symm hne) h5 h4)
  clear h hne h4 h5
  cases x with
  | ok =>
    go_enter Tryd.func60, Tryd.ntmps60
    go_wp2_with fail
    refine (i3.out).mono ?_
    rintro e w ⟨rfl, rfl⟩
    go_wp2_with fail
    refine (i4.out).mono ?_
    rintro e w ⟨rfl, rfl⟩
    go_wp2
    go_ret
    exact ⟨rfl, rfl⟩
  | more =>
    go_enter Tryd.func60, Tryd.ntmps60
    go_wp2_with fail
    refine (i1.out).mono ?_
    rintro e w ⟨rfl, rfl⟩
    go_wp2
    go_ret
    exact ⟨rfl, rfl⟩
  | none =>
    go_enter Tryd.func60, Tryd.ntmps60
    go_wp2_with fail
    refine (i5.out).mono ?_
    rintro e w ⟨rfl, rfl⟩
    go_wp2_with fail
    refine (i2.out).mono ?_
    rintro e w ⟨rfl, rfl⟩
    go_wp2
    go_ret
    exact ⟨rfl, rfl⟩

end Go.Proofs.YtalnfbkmlllfhaaDoor

/-
  varint.Get: the reader's next; Get.
-/
namespace Go.Proofs.YtalnfbkmlllfhaaDoor
open Go.RowKit Go.Shelf Tess

/-- What next tells: a number, how many bytes it took, an error. -/
def nextV (l : List UInt8) : Nat × Nat × Er :=
  if sc l < min l.length 10 then (if badV l (sc l) then (0, 0, .none) else (vr (nb l) (sc l + 1), sc l + 1, .ok))
  else (0, 0, if l.length < 10 then .more else .none)
theorem getV_next (l : List UInt8) : getV l = ((nextV l).1, l.drop (nextV l).2.1, (nextV l).2.2.num 20) := by
  unfold getV nextV
  split
  · split
    · rfl
    · rfl
  · split <;> rfl

/-- A reader: one string in a box of its own. -/
def SBox (W : World) (b : Nat) (t : TypeId) (s : ByteArray) : Prop := Boxed W b t (.string s)

/-- The world behind next. -/
def nextW (w : World) (b : Nat) (s : ByteArray) (r : Nat × Nat × Er) (n : Nat) : World := match r.2.2 with
  | .ok => w.setCell ⟨b, 0, none⟩ (.string ⟨((sl s).drop r.2.1).toArray⟩)
  | _ => w.drewN n
def NextPost (w : World) (b : Nat) (s : ByteArray) (am an : Addr) (e : Ending) (W' : World) : Prop :=
  e = .returned (.tuple #[.int .u64 ((nextV (sl s)).1 : Int), (nextV (sl s)).2.2.val am an]) ∧ ∃ n, W' = nextW w b s (nextV (sl s)) n
theorem and127u : ∀ c < 256, c &&& 127 = c % 128 := by decide +kernel
theorem and_more (c : UInt8) : bits .and .u8 (c.toNat : Int) 127 = (c.toNat : Int) % 128 := by
  have hc := UInt8.toNat_lt c
  rw [show (127 : Int) = ((127 : Nat) : Int) by rfl, u8_and_nat _ _ (by omega) (by omega), and127u _ (by omega)]
  omega

set_option maxRecDepth 100000 in
set_option maxHeartbeats 8000000 in
theorem next_any (s : ByteArray) (b : Nat) {am an : Addr} (w : World) (hs : s.size ≤ maxLen) (hb : SBox w b 134 s) (he : Sent w 2 3 am an) :
    Calls Tryd.prog 85 #[.pointer (some ⟨b, 0, none⟩)] w (NextPost w b s am an) := by
  have hsc := Lib.hid (sc_le (sl s))
  unfold maxLen at hs
  obtain ⟨M, hM⟩ : ∃ M, min s.size 10 = M := ⟨_, rfl⟩
  have hmin : min (s.size : Int) 10 = (M : Int) := by omega
  have hM' := Lib.hid hM
  clear hM
  have y1 := Boxed.cell hb
  have y2 := Boxed.frozen hb
  obtain ⟨g1, g2⟩ := he.cells
  clear he hb
  go_enter Tryd.func85, Tryd.ntmps85
  go_wp2
  refine wp_scope_straight ?_
  go_wp2
  refine wp_label ?_
  go_wp2
  go_loop [4, 5, 15] (fun n z i => ∃ k : Nat, k ≤ sc (sl s) ∧ i = .int .i64 k ∧ n = .int .u64 (vr (nb (sl s)) k : Nat) ∧ z = .int .i64 0) (fun _ _ i => M - (intOf i).toNat)
  case atStart => exact ⟨0, Nat.zero_le _, rfl, rfl, rfl⟩
  case round =>
    obtain ⟨k, hk, rfl, rfl, rfl⟩ := hrel
    have hMs : M ≤ s.size ∧ M ≤ 10 := by have := hM'.out; omega
    by_cases hlt : k < M
    · have hlt' : k < s.size := by omega
      have e1 := vr_step (l := sl s) hlt'
      rw [sl_get hlt'] at e1
      have hkd : decide (k < M) = true := decide_eq_true hlt
      by_cases hc : s[k].toNat < 128
      · have hkk : sc (sl s) = k := by
          rcases Nat.lt_or_ge k (sc (sl s)) with h | h
          · have := sc_on h hlt'
            rw [sl_get hlt'] at this
            omega
          · omega
        generalize vr (nb (sl s)) k = n at e1
        obtain ⟨m, hm'⟩ : ∃ m, vr (nb (sl s)) (k + 1) = m := ⟨_, rfl⟩
        rw [hm'] at e1
        have hcd : decide (s[k].toNat < 128) = true := decide_eq_true hc
        have ea := and_more s[k]
        have hbd : badV (sl s) (sc (sl s)) ↔ ((0 < k ∧ s[k].toNat = 0) ∨ (k = 9 ∧ 1 < s[k].toNat)) := by
          unfold badV
          rw [hkk, nb_getD (l := sl s) hlt', sl_get hlt']
        have t0 : ((k : Int) + 1 == 0) = false := beq_false_of_ne (by omega)
        have t0' : ¬ (k : Int) + 1 = 0 := by omega
        by_cases h0 : 0 < k
        · have t1 : decide (1 < (k : Int) + 1) = true := decide_eq_true (by omega)
          have t1' : 1 < (k : Int) + 1 := by omega
          by_cases hz : s[k].toNat = 0
          · have t2 : ((s[k].toNat : Int) == 0) = true := by rw [hz]; rfl
            have hfin : Hid (nextV (sl s) = (0, 0, .none)) := by
              show _ = _
              unfold nextV
              rw [hkk, if_pos (by rw [sl_len]; omega), if_pos (by rw [hkk] at hbd; exact hbd.2 (.inl ⟨h0, hz⟩))]
            clear hkk hm' hk hbd
            go_wp2
            go_region
            all_goals go_wp2
            all_goals exact bodyPost_ret (v := .tuple #[.int .u64 0, ev an]) (by simp [results, Tryd.results85, go_sem]) rfl ⟨by rw [hfin.out]; rfl, 1, by rw [hfin.out]; rfl⟩
          · have t2 : ((s[k].toNat : Int) == 0) = false := beq_false_of_ne (by omega)
            by_cases h9 : k = 9
            · have t3 : ((k : Int) + 1 == 10) = true := beq_iff_eq.2 (by omega)
              by_cases h1 : 1 < s[k].toNat
              · have t4 : decide (1 < (s[k].toNat : Int)) = true := decide_eq_true (by omega)
                have h9' := Lib.hid h9
                have hfin : Hid (nextV (sl s) = (0, 0, .none)) := by
                  show _ = _
                  unfold nextV
                  rw [hkk, if_pos (by rw [sl_len]; omega), if_pos (by rw [hkk] at hbd; exact hbd.2 (.inr ⟨h9, h1⟩))]
                clear hkk hm' hk hbd h9
                go_wp2
                go_region
                all_goals go_wp2
                all_goals exact bodyPost_ret (v := .tuple #[.int .u64 0, ev an]) (by simp [results, Tryd.results85, go_sem]) rfl ⟨by rw [hfin.out]; rfl, 1, by rw [hfin.out]; rfl⟩
              · have t4 : decide (1 < (s[k].toNat : Int)) = false := decide_eq_false (by omega)
                have hfin : Hid (nextV (sl s) = (m, k + 1, .ok)) := by
                  show _ = _
                  unfold nextV
                  rw [hkk, if_pos (by rw [sl_len]; omega), if_neg (by rw [hkk] at hbd; exact fun h => by rcases hbd.1 h with h | h <;> omega), hm']
                have hx := Lib.hid (ext_drop s (k + 1))
                clear hkk hm' hk hbd h9
                go_wp2
                exact bodyPost_ret (v := .tuple #[.int .u64 m, .nilIface]) (by simp [results, Tryd.results85, go_sem]) rfl ⟨by rw [hfin.out]; rfl, 0, by rw [hfin.out]; show _ = World.setCell w _ _; rw [← hx.out]⟩
            · have t3 : ((k : Int) + 1 == 10) = false := beq_false_of_ne (by omega)
              have t3' : ¬ (k : Int) + 1 = 10 := by omega
              have hfin : Hid (nextV (sl s) = (m, k + 1, .ok)) := by
                show _ = _
                unfold nextV
                rw [hkk, if_pos (by rw [sl_len]; omega), if_neg (by rw [hkk] at hbd; exact fun h => by rcases hbd.1 h with h | h <;> omega), hm']
              have hx := Lib.hid (ext_drop s (k + 1))
              clear hkk hm' hk hbd
              go_wp2
              exact bodyPost_ret (v := .tuple #[.int .u64 m, .nilIface]) (by simp [results, Tryd.results85, go_sem]) rfl ⟨by rw [hfin.out]; rfl, 0, by rw [hfin.out]; show _ = World.setCell w _ _; rw [← hx.out]⟩
        · have t1 : decide (1 < (k : Int) + 1) = false := decide_eq_false (by omega)
          have t1' : ¬ 1 < (k : Int) + 1 := by omega
          have t3 : ((k : Int) + 1 == 10) = false := beq_false_of_ne (by omega)
          have t3' : ¬ (k : Int) + 1 = 10 := by omega
          have hfin : Hid (nextV (sl s) = (m, k + 1, .ok)) := by
            show _ = _
            unfold nextV
            rw [hkk, if_pos (by rw [sl_len]; omega), if_neg (by rw [hkk] at hbd; exact fun h => by rcases hbd.1 h with h | h <;> omega), hm']
          have hx := Lib.hid (ext_drop s (k + 1))
          clear hkk hm' hk hbd
          go_wp2
          exact bodyPost_ret (v := .tuple #[.int .u64 m, .nilIface]) (by simp [results, Tryd.results85, go_sem]) rfl ⟨by rw [hfin.out]; rfl, 0, by rw [hfin.out]; show _ = World.setCell w _ _; rw [← hx.out]⟩
      · have hkk : Hid (k + 1 ≤ sc (sl s)) := by
          show _ ≤ _
          rcases Nat.lt_or_ge k (sc (sl s)) with h | h
          · omega
          · have hkk : sc (sl s) = k := by omega
            have := sc_off (l := sl s) (by rw [sl_len]; omega) (by omega)
            have h3 : (sl s)[sc (sl s)]'(by rw [sl_len]; omega) = s[k] := by simp only [hkk]; rfl
            rw [h3] at this
            omega
        have hcd : decide (s[k].toNat < 128) = false := decide_eq_false hc
        have ea := and_more s[k]
        generalize vr (nb (sl s)) k = n at e1
        obtain ⟨m, hm⟩ : ∃ m, vr (nb (sl s)) (k + 1) = m := ⟨_, rfl⟩
        rw [hm] at e1
        have hm' := Lib.hid hm
        clear hm
        go_wp2
        go_round
        case rel => exact ⟨k + 1, hkk.out, by go_num, by rw [hm'.out], rfl⟩
        case measure => simp [intOf]; omega
    · have hkk : sc (sl s) = min s.size 10 := by have := hsc.out; have := hM'.out; rw [sl_len] at *; omega
      have hkd : decide (k < M) = false := decide_eq_false hlt
      by_cases h10 : s.size < 10
      · have hk1 : decide (s.size < 10) = true := decide_eq_true h10
        have hfin : Hid (nextV (sl s) = (0, 0, .more)) := by
          show _ = _
          unfold nextV
          rw [if_neg (by rw [sl_len]; omega), if_pos (by rw [sl_len]; omega)]
        go_wp2
        go_region
        all_goals go_wp2
        all_goals exact bodyPost_ret (v := .tuple #[.int .u64 0, ev am]) (by simp [results, Tryd.results85, go_sem]) rfl ⟨by rw [hfin.out]; rfl, 1, by rw [hfin.out]; rfl⟩
      · have hk1 : decide (s.size < 10) = false := decide_eq_false h10
        have hfin : Hid (nextV (sl s) = (0, 0, .none)) := by
          show _ = _
          unfold nextV
          rw [if_neg (by rw [sl_len]; omega), if_neg (by rw [sl_len]; omega)]
        go_wp2
        go_region
        all_goals go_wp2
        all_goals exact bodyPost_ret (v := .tuple #[.int .u64 0, ev an]) (by simp [results, Tryd.results85, go_sem]) rfl ⟨by rw [hfin.out]; rfl, 1, by rw [hfin.out]; rfl⟩
end Go.Proofs.YtalnfbkmlllfhaaDoor

/-
  varint.Get.
-/
namespace Go.Proofs.YtalnfbkmlllfhaaDoor
open Go.RowKit Go.Shelf Tess

/-- What the reader holds behind next. -/
theorem nextW_cell {w : World} {b : Nat} {s : ByteArray} {t : TypeId} (h : SBox w b t s) (n : Nat) :
    (nextW w b s (nextV (sl s)) n).cell? ⟨b, 0, none⟩ = some (.string ⟨((sl s).drop (nextV (sl s)).2.1).toArray⟩) := by
  unfold nextV
  split
  · split
    · show w.cell? _ = _
      rw [List.drop_zero, sl_back]
      exact Boxed.cell h
    · exact (Boxed.set _ h).cell
  · have : (nextW w b s (0, 0, if (sl s).length < 10 then .more else .none) n).cell? ⟨b, 0, none⟩ = w.cell? ⟨b, 0, none⟩ := by
      split <;> rfl
    rw [this, List.drop_zero, sl_back]
    exact Boxed.cell h
theorem nextW_below {w W : World} {s : ByteArray} {r : Nat × Nat × Er} (n b : Nat) (h : Below w.heap.size w W) (hb : w.heap.size ≤ b) : Below w.heap.size w (nextW W b s r n) := by
  unfold nextW
  split
  · exact h.setCell (p := ⟨b, 0, none⟩) hb _
  · exact below_drewN h n

set_option maxRecDepth 100000 in
set_option maxHeartbeats 2000000 in
theorem get_any (s : ByteArray) {am an : Addr} (w : World) (hs : s.size ≤ maxLen) (he : Sent w 2 3 am an) :
    Calls Tryd.prog 58 #[.string s] w fun e W' => e = .returned (.tuple #[.int .u64 ((getV (sl s)).1 : Int), .string ⟨(getV (sl s)).2.1.toArray⟩, .int .i64 (getV (sl s)).2.2]) ∧ Below w.heap.size w W' := by
  have hB0 := (Below.refl w.heap.size w).alloc (Nat.le_refl _) (.cells #[.string s] 134)
  have hbx : SBox (w.alloc (.cells #[.string s] 134)) w.heap.size 134 s := Boxed.new w _ _
  have hk := Lib.hid (next_any s w.heap.size _ hs hbx (he.later hB0))
  have hfin : Hid (getV (sl s) = _) := Lib.hid (getV_next (sl s))
  go_enter Tryd.func58, Tryd.ntmps58
  go_wp2_with fail
  refine (hk.out).mono ?_
  rintro e W1 ⟨rfl, n, rfl⟩
  have hB1 := nextW_below (s := s) (r := nextV (sl s)) n w.heap.size hB0 (Nat.le_refl _)
  have hc := nextW_cell hbx n
  have ht := Lib.hid (vtold_any (he.later (Below.drew hB1)) (nextV (sl s)).2.2)
  have hB2 := Lib.hid hB1
  clear hB0 hbx hk he hB1
  revert hfin hc ht hB2
  generalize nextW _ _ s (nextV (sl s)) n = W1
  generalize nextV (sl s) = r
  intro hfin hc ht hB2
  go_wp2
  go_region_with (go_at_call 86; refine (ht.out).mono ?_; rintro e w' ⟨rfl, rfl⟩)
  all_goals go_wp2
  all_goals exact bodyPost_ret (v := .tuple #[.int .u64 (r.1 : Nat), .string ⟨((sl s).drop r.2.1).toArray⟩, .int .i64 (r.2.2.num 20)]) (by simp [results, Tryd.results58, go_sem]) rfl ⟨by rw [hfin.out], Below.drew hB2.out⟩
end Go.Proofs.YtalnfbkmlllfhaaDoor

/-
  roar's reader: bytes, chunk.
-/
namespace Go.Proofs.YtalnfbkmlllfhaaDoor
open Go.RowKit Go.Shelf Tess

theorem ext_take' (s : ByteArray) (k : Nat) : s.extract 0 k = ⟨((sl s).take k).toArray⟩ := by
  apply ba_ext
  rw [sl_ext, List.drop_zero]
  exact (sl_mk _).symm
theorem grown_drew {W W' : World} {r : Option Nat} (h : W.grownBy W' r) : W.grownBy W'.drew r := ⟨h.os, h.tape, h.output, h.size, h.block⟩
theorem grown_refl (W : World) (r : Option Nat) : W.grownBy W r := ⟨rfl, rfl, rfl, Nat.le_refl _, fun _ _ _ => rfl⟩
theorem grown_trans {A B C : World} {r : Option Nat} (h : A.grownBy B r) (k : B.grownBy C r) : A.grownBy C r :=
  ⟨k.os.trans h.os, k.tape.trans h.tape, k.output.trans h.output, Nat.le_trans h.size k.size, fun i hi hr => (k.block i (Nat.lt_of_lt_of_le hi h.size) hr).trans (h.block i hi hr)⟩
theorem grown_more {W W' : World} {r : Option Nat} (h : W.grownBy W' none) : W.grownBy W' r := ⟨h.os, h.tape, h.output, h.size, fun k hk _ => h.block k hk (by simp)⟩
theorem below_of_grown {w W W' : World} {b : Nat} (h : Below w.heap.size w W) (hg : W.grownBy W' (some b)) (hb : w.heap.size ≤ b) : Below w.heap.size w W' := h.grown hg h.size (fun k e => by cases e; exact hb)

set_option maxRecDepth 100000 in
set_option maxHeartbeats 2000000 in
/-- **bytes(n)** where there are enough. -/
theorem rbytes_yes (s : ByteArray) (b n : Nat) (w : World) (hb : SBox w b 102 s) (hn : n ≤ s.size) :
    Calls Tryd.prog 87 #[.pointer (some ⟨b, 0, none⟩), .int .i64 (n : Int)] w fun e W' => e = .returned (.tuple #[.string ⟨((sl s).take n).toArray⟩, .nilIface]) ∧ W' = w.setCell ⟨b, 0, none⟩ (.string ⟨((sl s).drop n).toArray⟩) := by
  have y1 := Boxed.cell hb
  have y2 := Boxed.frozen hb
  have h1 : decide (s.size < n) = false := decide_eq_false (by omega)
  have h2 : (n : Int) ≤ (s.size : Int) := by omega
  have hx := Lib.hid (ext_drop s n)
  have hy := Lib.hid (ext_take' s n)
  clear hb hn
  go_enter Tryd.func87, Tryd.ntmps87
  go_wp2
  exact bodyPost_ret (v := .tuple #[.string (s.extract 0 n), .nilIface]) (by simp [results, Tryd.results87, go_sem]) rfl ⟨by rw [hy.out], by rw [← hx.out]⟩

set_option maxRecDepth 100000 in
set_option maxHeartbeats 2000000 in
/-- **bytes(n)** where there are not. -/
theorem rbytes_no (s : ByteArray) (b n : Nat) {am an : Addr} (w : World) (hb : SBox w b 102 s) (he : Sent w 1 0 am an) (hn : s.size < n) :
    Calls Tryd.prog 87 #[.pointer (some ⟨b, 0, none⟩), .int .i64 (n : Int)] w fun e W' => e = .returned (.tuple #[.string ⟨#[]⟩, ev am]) ∧ W' = w.drew := by
  have y1 := Boxed.cell hb
  have y2 := Boxed.frozen hb
  obtain ⟨g1, g2⟩ := he.cells
  have h1 : decide (s.size < n) = true := decide_eq_true hn
  clear hb hn he
  go_enter Tryd.func87, Tryd.ntmps87
  go_wp2
  go_region
  all_goals go_wp2
  all_goals exact bodyPost_ret (v := .tuple #[.string ⟨#[]⟩, ev am]) (by simp [results, Tryd.results87, go_sem]) rfl ⟨rfl, rfl⟩

/-- What chunk tells: a chunk, what is left, an error. -/
def chunkV : List UInt8 → Ch × List UInt8 × Er
  | k :: f :: m :: u => if u.length < 1 + m.toNat then (⟨(k.toNat : Int), (f.toNat : Int), ⟨#[]⟩⟩, u, .more) else (⟨(k.toNat : Int), (f.toNat : Int), ⟨(u.take (1 + m.toNat)).toArray⟩⟩, u.drop (1 + m.toNat), .ok)
  | t => (⟨0, 0, ⟨#[]⟩⟩, t, .more)
theorem chunkV_cons (k f m : UInt8) (u : List UInt8) : chunkV (k :: f :: m :: u) = if u.length < 1 + m.toNat then (⟨(k.toNat : Int), (f.toNat : Int), ⟨#[]⟩⟩, u, .more) else (⟨(k.toNat : Int), (f.toNat : Int), ⟨(u.take (1 + m.toNat)).toArray⟩⟩, u.drop (1 + m.toNat), .ok) := rfl
theorem decC_cons (n : Nat) (k f m : UInt8) (u : List UInt8) : decC (n + 1) (k :: f :: m :: u) = if u.length < 1 + m.toNat then none else
      (decC n (u.drop (1 + m.toNat))).map fun p => (⟨(k.toNat : Int), (f.toNat : Int), ⟨(u.take (1 + m.toNat)).toArray⟩⟩ :: p.1, p.2) := rfl
theorem three (t : List UInt8) : (t.length < 3 ∧ chunkV t = (⟨0, 0, ⟨#[]⟩⟩, t, .more) ∧ ∀ n, decC (n + 1) t = none) ∨ ∃ k f m u, t = k :: f :: m :: u :=
  match t with
  | [] => .inl ⟨by decide, rfl, fun _ => rfl⟩
  | [_] => .inl ⟨by simp, rfl, fun _ => rfl⟩
  | [_, _] => .inl ⟨by simp, rfl, fun _ => rfl⟩
  | k :: f :: m :: u => .inr ⟨k, f, m, u, rfl⟩
theorem decC_ok {n : Nat} {t : List UInt8} (h : (chunkV t).2.2 = .ok) : decC (n + 1) t = (decC n (chunkV t).2.1).map fun p => ((chunkV t).1 :: p.1, p.2) := by
  rcases three t with ⟨_, e, _⟩ | ⟨k, f, m, u, rfl⟩
  · rw [e] at h; cases h
  · by_cases hc : u.length < 1 + m.toNat
    · rw [chunkV_cons, if_pos hc] at h; cases h
    · rw [chunkV_cons, decC_cons, if_neg hc, if_neg hc]
theorem decC_more {n : Nat} {t : List UInt8} (h : (chunkV t).2.2 ≠ .ok) : decC (n + 1) t = none := by
  rcases three t with ⟨_, _, e⟩ | ⟨k, f, m, u, rfl⟩
  · exact e n
  · by_cases hc : u.length < 1 + m.toNat
    · rw [decC_cons, if_pos hc]
    · rw [chunkV_cons, if_neg hc] at h; exact absurd rfl h
theorem chunkV_er (t : List UInt8) : (chunkV t).2.2 = .ok ∨ (chunkV t).2.2 = .more := by
  rcases three t with ⟨_, e, _⟩ | ⟨k, f, m, u, rfl⟩
  · rw [e]; exact .inr rfl
  · rw [chunkV_cons]
    split
    · exact .inr rfl
    · exact .inl rfl
theorem chunkV_len (t : List UInt8) : (chunkV t).2.1.length ≤ t.length ∧ (chunkV t).1.data.size ≤ 256 := by
  rcases three t with ⟨_, e, _⟩ | ⟨k, f, m, u, rfl⟩
  · rw [e]; exact ⟨Nat.le_refl _, Nat.zero_le _⟩
  · have hm := UInt8.toNat_lt m
    rw [chunkV_cons]
    split
    · exact ⟨by simp only [List.length_cons]; omega, Nat.zero_le _⟩
    · refine ⟨by simp only [List.length_drop, List.length_cons]; omega, ?_⟩
      show (List.take (1 + m.toNat) u).toArray.size ≤ 256
      simp [List.length_take]
      omega

/-- Behind chunk. -/
def ChunkPost (w : World) (b : Nat) (t : List UInt8) (am an : Addr) (e : Ending) (W' : World) : Prop :=
  e = .returned (.tuple #[.agg #[.int .i64 (chunkV t).1.key, .int .i64 (chunkV t).1.form, .string (chunkV t).1.data], (chunkV t).2.2.val am an]) ∧ w.grownBy W' (some b) ∧ SBox W' b 102 ⟨(chunkV t).2.1.toArray⟩

set_option maxRecDepth 100000 in
set_option maxHeartbeats 4000000 in
theorem chunk_any (t : List UInt8) (b : Nat) {am an : Addr} (w : World) (hs : t.length ≤ maxLen) (hb : SBox w b 102 ⟨t.toArray⟩) (he : Hid (∀ W', w.grownBy W' (some b) → Sent W' 1 0 am an)) :
    Calls Tryd.prog 59 #[.pointer (some ⟨b, 0, none⟩)] w (ChunkPost w b t am an) := by
  have hb1 := Boxed.alloc hb (.cells #[.int .i64 0, .int .i64 0, .string ⟨#[]⟩] 59)
  have he1 := he.out (w.alloc (.cells #[.int .i64 0, .int .i64 0, .string ⟨#[]⟩] 59)) (grown_more (World.grownBy_alloc _ _ none))
  have hlt := Boxed.lt hb
  rcases three t with ⟨h3, hv, -⟩ | ⟨k, f, m, u, rfl⟩
  · have hk := Lib.hid (rbytes_no ⟨t.toArray⟩ b 3 _ hb1 he1 (by show t.toArray.size < 3; simpa using h3))
    have hv' := Lib.hid hv
    clear hb he he1 h3 hv
    go_enter Tryd.func59, Tryd.ntmps59
    go_wp2_with fail
    refine (hk.out).mono ?_
    rintro e W1 ⟨rfl, rfl⟩
    clear hk
    go_wp2
    exact bodyPost_ret (v := .tuple #[.agg #[.int .i64 0, .int .i64 0, .string ⟨#[]⟩], ev am]) (by simp [results, Tryd.results59, go_sem]) rfl ⟨by rw [hv'.out]; rfl, grown_drew (grown_more (World.grownBy_alloc _ _ none)), by rw [hv'.out]; exact hb1⟩
  · have hk := Lib.hid (rbytes_yes ⟨(k :: f :: m :: u).toArray⟩ b 3 _ hb1 (by show 3 ≤ (k :: f :: m :: u).toArray.size; simp))
    have hbs := Boxed.set (.string ⟨u.toArray⟩) hb
    have hb2 : SBox ((w.setCell ⟨b, 0, none⟩ (.string ⟨u.toArray⟩)).alloc (.cells #[.int .i64 0, .int .i64 0, .string ⟨#[]⟩] 59)) b 102 ⟨u.toArray⟩ := Boxed.alloc hbs _
    have hg2 : w.grownBy ((w.setCell ⟨b, 0, none⟩ (.string ⟨u.toArray⟩)).alloc (.cells #[.int .i64 0, .int .i64 0, .string ⟨#[]⟩] 59)) (some b) := grown_trans (grownBy_setCell' w b _) (grown_more (World.grownBy_alloc _ _ none))
    have he2 : Sent ((w.setCell ⟨b, 0, none⟩ (.string ⟨u.toArray⟩)).alloc (.cells #[.int .i64 0, .int .i64 0, .string ⟨#[]⟩] 59)) 1 0 am an := he.out _ hg2
    have e1 : ((sl ⟨(k :: f :: m :: u).toArray⟩).take 3) = [k, f, m] := by rw [sl_mk]; rfl
    have e2 : ((sl ⟨(k :: f :: m :: u).toArray⟩).drop 3) = u := by rw [sl_mk]; rfl
    rw [e1, e2] at hk
    have i0 : (⟨#[k, f, m]⟩ : ByteArray)[0]'(by show 0 < 3; decide) = k := rfl
    have i1 : (⟨#[k, f, m]⟩ : ByteArray)[1]'(by show 1 < 3; decide) = f := rfl
    have i2 : (⟨#[k, f, m]⟩ : ByteArray)[2]'(by show 2 < 3; decide) = m := rfl
    have hk8 := UInt8.toNat_lt k
    have hf8 := UInt8.toNat_lt f
    have hm8 := UInt8.toNat_lt m
    obtain ⟨q, hq⟩ : ∃ q : Nat, 1 + m.toNat = q := ⟨_, rfl⟩
    have hq1 : (1 : Int) + (m.toNat : Int) = (q : Int) := by omega
    have hm9 : (m.toNat : Int) < 256 := by omega
    have hv := Lib.hid (chunkV_cons k f m u)
    rw [hq] at hv
    by_cases hc : u.length < q
    · have hk2 := Lib.hid (rbytes_no ⟨u.toArray⟩ b q _ hb2 he2 (by show u.toArray.size < q; simpa using hc))
      have hv2 : Hid (chunkV (k :: f :: m :: u) = (⟨(k.toNat : Int), (f.toNat : Int), ⟨#[]⟩⟩, u, .more)) := by
        show _ = _
        rw [hv.out, if_pos hc]
      clear hb he he2 e1 e2 hv hq hc
      go_enter Tryd.func59, Tryd.ntmps59
      go_wp2_with fail
      refine (hk.out).mono ?_
      rintro e W1 ⟨rfl, rfl⟩
      clear hk
      go_wp2_with fail
      refine (hk2.out).mono ?_
      rintro e W1 ⟨rfl, rfl⟩
      clear hk2
      go_wp2
      go_region
      all_goals go_wp2
      all_goals exact bodyPost_ret (v := .tuple #[.agg #[.int .i64 (k.toNat : Int), .int .i64 (f.toNat : Int), .string ⟨#[]⟩], ev am]) (by simp [results, Tryd.results59, go_sem]) rfl ⟨by rw [hv2.out]; rfl, grown_drew (grown_drew (grown_trans (grownBy_setCell' w b _) (grown_more (World.grownBy_alloc _ _ none)))), by rw [hv2.out]; exact Boxed.alloc hbs _⟩
    · have hk2 := Lib.hid (rbytes_yes ⟨u.toArray⟩ b q _ hb2 (by show q ≤ u.toArray.size; simp; omega))
      rw [sl_mk] at hk2
      have hv2 : Hid (chunkV (k :: f :: m :: u) = (⟨(k.toNat : Int), (f.toNat : Int), ⟨(u.take q).toArray⟩⟩, u.drop q, .ok)) := by
        show _ = _
        rw [hv.out, if_neg hc]
      have hbs2 := Boxed.set (.string ⟨(u.drop q).toArray⟩) hbs
      clear hb he he2 e1 e2 hv hq hc
      go_enter Tryd.func59, Tryd.ntmps59
      go_wp2_with fail
      refine (hk.out).mono ?_
      rintro e W1 ⟨rfl, rfl⟩
      clear hk
      go_wp2_with fail
      refine (hk2.out).mono ?_
      rintro e W1 ⟨rfl, rfl⟩
      clear hk2
      go_wp2
      go_region
      all_goals go_wp2
      all_goals exact bodyPost_ret (v := .tuple #[.agg #[.int .i64 (k.toNat : Int), .int .i64 (f.toNat : Int), .string ⟨(u.take q).toArray⟩], .nilIface]) (by simp [results, Tryd.results59, go_sem]) rfl ⟨by rw [hv2.out]; rfl, grown_drew (grown_trans (grown_trans (grownBy_setCell' w b _) (grownBy_setCell' _ b _)) (grown_more (World.grownBy_alloc _ _ none))), by rw [hv2.out]; exact Boxed.alloc hbs2 _⟩
end Go.Proofs.YtalnfbkmlllfhaaDoor
