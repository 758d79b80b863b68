/-
  HeldIn, HeldD: several texts in one (merge.py).
-/
import Derived.Test.YtnigpmbpipmgfaaDoorBsGH
import Derived.Deep.RegionHeld3
import Derived.RangeFuncCalls

/-
  A drawn region inside a loop over an iterator, held.
-/
namespace Go.Proofs.YtnigpmbpipmgfaaDoor
open Go.RowKit Go.Shelf Tess

attribute [local go_sem] Oper.semAt_some

/-- Only the normal way out. -/
def OnlyN (Q : Exit → Act → World → Prop) : Exit → Act → World → Prop
  | .normal, a, w => Q .normal a w
  | _, _, _ => False
theorem OnlyN.normal {Q : Exit → Act → World → Prop} {a : Act} {w : World} (h : Q .normal a w) : OnlyN Q .normal a w := h
/-- No operation defers. -/
def noDeferB (ops : Array Oper) : Bool := ops.all fun o => match o.op with | .defer _ => false | _ => true
theorem upon_in {P : Program} {o : Oper} {a : Act} {K K' : Act → World → Prop} {Q : Exit → Act → World → Prop} (l n : Nat) (hK : ∀ a w, K a w → K' a w) : ∀ {r : Result Next}, o.upon P a K (OnlyN Q) r → o.uponIn (Fence.wide.inRound l) n P a K' Q r
  | .ok (.value v) w', h => hK _ _ h
  | .ok .skip w', h => hK _ _ h
  | .ok (.defer d) w', h => hK _ _ h
  | .ok (.enter f args) w', h => ⟨fun h => by simp [Fence.wide] at h, ((callsIn_wide.2 h).inRound l).mono fun e w'' he => by
      cases e with
      | returned v => exact hK _ _ he
      | panicked c => exact he.elim
      | outgrown => obtain ⟨_, _, h⟩ := (he : LetsOut (OnlyN Q)); exact h.elim⟩
  | .ok (.row row args) w', h => ⟨fun h => by simp [Fence.wide] at h, fun c cs _ => by
      obtain ⟨v, w2, r, s⟩ := h c cs
      exact ⟨v, w2, hK _ _ r, stepsIn_wide.2 s⟩⟩
  | .halt (.panic v) w', h => (h : False).elim
theorem opIn {P : Program} {ops : Array Oper} {Q : Exit → Act → World → Prop} {K K' : Act → World → Prop} (l n : Nat) (hd : noDeferB ops = true) (hK : ∀ a w, K a w → K' a w) {i : Nat} {a : Act} {w : World} (h : wpOp P ops (OnlyN Q) i K a w) :
    wpOpIn (Fence.wide.inRound l) n P ops Q i K' a w := by
  unfold wpOp at h
  unfold wpOpIn
  cases ho : ops[i]? with
  | none => rw [ho] at h; exact hK _ _ h
  | some o =>
    rw [ho] at h
    have hnd : ∀ c, o.op ≠ .defer c := by
      intro c hc
      obtain ⟨hi, rfl⟩ := Array.getElem?_eq_some_iff.1 ho
      have := Array.all_eq_true.1 hd i hi
      rw [hc] at this; cases this
    simp only at h ⊢
    split
    · rename_i hw
      rw [if_pos hw] at h
      rcases h with h | ⟨_, _, _, h⟩
      · refine ⟨fun f _ => trivial, ?_⟩
        rw [Oper.semAt_plain _ _ _ hnd]
        exact upon_in l n hK h
      · exact h.elim
    · rename_i hw
      rw [if_neg hw] at h
      exact ⟨fun f _ => trivial, hK _ _ h⟩
theorem anyIn {P : Program} {md : Region.Mode} {ops : Array Oper} {Q : Exit → Act → World → Prop} (l n : Nat) (hd : noDeferB ops = true) : ∀ (fuel : Nat) (listed : Array Bool) (a : Act) (w : World), wpAny P md ops (OnlyN Q) fuel listed a w → wpAnyIn (Fence.wide.inRound l) n P md ops Q fuel listed a w
  | 0, _, _, _, h => h
  | fuel + 1, _, _, _, h => ⟨h.1, fun i hi => opIn l n hd (fun a w => anyIn l n hd fuel _ a w) (h.2 i hi)⟩
/-- A REGION THAT DRAWS, INSIDE A ROUND, walked as outside of it. -/
theorem region_heldIn {P : Program} {ops : Array Oper} {Q : Exit → Act → World → Prop} {S : World → Prop} {l n id : Nat} {a : Act} {w : World} (hm : P.follows .mixedOrders = true) (hd : noDeferB ops = true) (hS : S w.drew)
    (h : S w.drew → wpAnyH P .any ops (OnlyN Q) S ops.size (Array.replicate ops.size false) a w.drew) : (Code.region id ops true).wpIn (Fence.wide.inRound l) n P Q a w :=
  wpIn_region_any hm (anyIn l n hd _ _ _ _ (wpAny_of_held _ _ _ _ (h hS)))

/-! ### A region whose last operations write the cells that its loads read -/
section
variable {P : Program} {ops : Array Oper} {Q : Exit → Act → World → Prop} {md : Region.Mode} {S : World → Prop} {late : Nat → Bool}

/-- S holds behind every operation that is not late. -/
def wpAnyL (P : Program) (md : Region.Mode) (ops : Array Oper) (Q : Exit → Act → World → Prop) (S : World → Prop) (late : Nat → Bool) : Nat → Array Bool → Act → World → Prop
  | 0, listed, a, w => Region.ready md ops listed = [] ∧ Q .normal a w
  | fuel + 1, listed, a, w => (Region.ready md ops listed = [] → Q .normal a w) ∧
    ∀ i ∈ Region.ready md ops listed, wpOp P ops Q i (fun a' w' => (late i = false → S w') ∧ wpAnyL P md ops Q S late fuel (listed.setIfInBounds i true) a' w') a w
theorem wpAny_of_late : ∀ (fuel : Nat) (listed : Array Bool) (a : Act) (w : World), wpAnyL P md ops Q S late fuel listed a w → wpAny P md ops Q fuel listed a w
  | 0, _, _, _, h => h
  | fuel + 1, _, _, _, h => ⟨h.1, fun i hi => wpOp_mono (fun _ _ k => wpAny_of_late fuel _ _ _ k.2) (h.2 i hi)⟩
/-- Operation j waits for operation i, at once or by others. -/
def waits (md : Region.Mode) (ops : Array Oper) : Nat → Nat → Nat → Bool
  | 0, _, _ => false
  | fuel + 1, j, i => match ops[j]? with
    | none => false
    | some o => (o.after.any fun e => Region.binds md e && e.on == i) || (o.after.any fun e => Region.binds md e && waits md ops fuel e.on i)
/-- Each late operation waits for operation i. -/
def lateWait (md : Region.Mode) (ops : Array Oper) (late : Nat → Bool) (i : Nat) : Bool :=
  (List.range ops.size).all fun j => !late j || waits md ops ops.size j i
/-- What is listed waits for nothing that is not. -/
def closedB (md : Region.Mode) (ops : Array Oper) (listed : Array Bool) : Bool :=
  (List.range ops.size).all fun j => !listed.getD j false || match ops[j]? with | some o => o.after.all fun e => !Region.binds md e || listed.getD e.on false | none => true
def Closed (md : Region.Mode) (ops : Array Oper) (listed : Array Bool) : Prop := ∀ j oj, ops[j]? = some oj → listed.getD j false = true → ∀ e ∈ oj.after, Region.binds md e = true → listed.getD e.on false = true
theorem closedB_spec {listed : Array Bool} (h : closedB md ops listed = true) : Closed md ops listed := by
  intro j oj hj hl e he hb
  have hlt : j < ops.size := (Array.getElem?_eq_some_iff.1 hj).1
  have := List.all_eq_true.1 h j (List.mem_range.2 hlt)
  simp only [hl, hj, Bool.not_true, Bool.false_or] at this
  have h2 := Array.all_eq_true_iff_forall_mem.1 this e he
  simpa [hb] using h2
theorem Closed.step {listed : Array Bool} (h : Closed md ops listed) {j : Nat} (hj : j ∈ Region.ready md ops listed) : Closed md ops (listed.setIfInBounds j true) := by
  obtain ⟨-, o, ho, hall⟩ := mem_ready.1 hj
  intro k ok hk hl e he hb
  refine getD_set_true ?_
  by_cases hjk : j = k
  · subst hjk
    rw [ho] at hk
    cases hk
    exact hall e he hb
  · rw [getD_set_ne false hjk] at hl
    exact h k ok hk hl e he hb
theorem waits_spec {listed : Array Bool} (hc : Closed md ops listed) {i : Nat} (hi : listed.getD i false = false) : ∀ (fuel j : Nat), waits md ops fuel j i = true → ∃ oj, ops[j]? = some oj ∧ ∃ e ∈ oj.after, Region.binds md e = true ∧ listed.getD e.on false = false
  | 0, _, h => by cases h
  | fuel + 1, j, h => by
    unfold waits at h
    cases ho : ops[j]? with
    | none => rw [ho] at h; cases h
    | some o =>
      rw [ho] at h
      simp only [Bool.or_eq_true] at h
      refine ⟨o, rfl, ?_⟩
      rcases h with h | h
      · obtain ⟨k, hk, he⟩ := Array.any_eq_true.1 h
        simp only [Bool.and_eq_true, beq_iff_eq] at he
        exact ⟨_, Array.getElem_mem hk, he.1, by rw [he.2]; exact hi⟩
      · obtain ⟨k, hk, he⟩ := Array.any_eq_true.1 h
        simp only [Bool.and_eq_true] at he
        refine ⟨_, Array.getElem_mem hk, he.1, ?_⟩
        obtain ⟨ok, hok, e', he', hb', hl'⟩ := waits_spec hc hi fuel _ he.2
        cases hl : listed.getD (o.after[k]).on false with
        | false => rfl
        | true =>
          rw [hc _ ok hok hl e' he' hb'] at hl'
          cases hl'
theorem lateWait_spec {i : Nat} (h : lateWait md ops late i = true) {listed : Array Bool} (hc : Closed md ops listed) (hi : i ∈ Region.ready md ops listed) {j : Nat} (hj : j ∈ Region.ready md ops listed) : late j = false := by
  cases hl : late j with
  | false => rfl
  | true =>
    obtain ⟨-, oj, hoj, hall⟩ := mem_ready.1 hj
    have hlt : j < ops.size := (Array.getElem?_eq_some_iff.1 hoj).1
    have := List.all_eq_true.1 h j (List.mem_range.2 hlt)
    simp only [hl, Bool.not_true, Bool.false_or] at this
    have h0 := (mem_ready.1 hi).1
    have hi0 : listed.getD i false = false := by
      rcases Nat.lt_or_ge i listed.size with h' | h'
      · simp [h'] at h0 ⊢; exact h0
      · simp [Array.getElem?_eq_none h'] at h0
    obtain ⟨ok, hok, e, he, hb, hl'⟩ := waits_spec hc hi0 _ _ this
    rw [hoj] at hok
    cases hok
    rw [hall e he hb] at hl'
    cases hl'
theorem late_first {i : Nat} {oi : Oper} {v : Value} (hi : ops[i]? = some oi) (hs : Region.noSelect ops = true) (hw : lateWait md ops late i = true) (hQ : ∀ c a w, Q (.panic c) (a.put oi.dst v) w → Q (.panic c) a w) :
    ∀ (fuel : Nat) (listed : Array Bool) (a : Act) (w : World), Closed md ops listed → Region.free md ops listed i = true → i ∈ Region.ready md ops listed → YieldsIf P ops S oi v a → S w → late i = false →
      wpAnyL P md ops Q S late fuel (listed.setIfInBounds i true) (a.put oi.dst v) w → wpAnyL P md ops Q S late (fuel + 1) listed a w
  | 0, listed, a, w, _, _, hr, hy, hS, _, H => by
    refine ⟨fun h => absurd (h ▸ hr) (by simp), fun j hj => ?_⟩
    by_cases hji : j = i
    · subst hji; exact hy.wpOp hi hS ⟨fun _ => hS, H⟩
    · exact absurd (H.1 ▸ ready_mono hj hji) (by simp)
  | fuel + 1, listed, a, w, hcl, hf, hr, hy, hS, hl, H => by
    refine ⟨fun h => absurd (h ▸ hr) (by simp), fun j hj => ?_⟩
    by_cases hji : j = i
    · subst hji; exact hy.wpOp hi hS ⟨fun _ => hS, H⟩
    · obtain ⟨hjun, oj, hoj, hall⟩ := mem_ready.1 hj
      have hno : ∀ e ∈ oj.after, Region.binds md e = true → e.on ≠ i := fun e he hb heq => by
        have h1 := hall e he hb
        have h0 := (mem_ready.1 hr).1
        rw [heq] at h1
        rcases Nat.lt_or_ge i listed.size with h' | h'
        · simp [h'] at h0 h1; rw [h0] at h1; cases h1
        · simp [Array.getElem?_eq_none h'] at h1
      have hlj : late j = false := lateWait_spec hw hcl hr hj
      have h2 := wpOp_putIf hoj (Region.free_spec hi hf j oj hoj hji hjun hno) (fun cs b => Region.noSelect_spec hs i oi cs b hi) (fun cs b => Region.noSelect_spec hs j oj cs b hoj) hQ hy (H.2 j (ready_mono hj hji))
      have hf' : Region.free md ops (listed.setIfInBounds j true) i = true := by
        unfold Region.free at hf ⊢
        rw [hi] at hf ⊢
        rw [List.all_eq_true] at hf ⊢
        intro k hk
        have := hf k hk
        by_cases hjk : j = k
        · subst hjk
          have hsz : j < listed.size := by
            rcases Nat.lt_or_ge j listed.size with h' | h'
            · exact h'
            · simp [Array.getElem?_eq_none h'] at hjun
          simp [hsz]
        · rw [getD_set_ne true hjk]; exact this
      refine wpOp_mono (fun a' w' h3 => ⟨h3.2.1, ?_⟩) h2
      refine late_first hi hs hw hQ fuel (listed.setIfInBounds j true) a' w' (hcl.step hj) hf' (ready_mono hr (Ne.symm hji)) h3.1 (h3.2.1 hlj) hl ?_
      rw [Array.setIfInBounds_comm _ _ hji]
      exact h3.2.2
/-- Take number i first. -/
theorem wpAnyL_take {i : Nat} {oi : Oper} {v : Value} {fuel : Nat} {listed : Array Bool} {a : Act} {w : World} (hi : ops[i]? = some oi) (hs : Region.noSelect ops = true) (hw : (lateWait md ops late i && !late i && closedB md ops listed) = true)
    (hf : Region.free md ops listed i = true) (hr : (Region.ready md ops listed).contains i = true) (hQ : ∀ c a w, Q (.panic c) (a.put oi.dst v) w → Q (.panic c) a w) (hy : YieldsIf P ops S oi v a) (hS : S w)
    (h : wpAnyL P md ops Q S late fuel (listed.setIfInBounds i true) (a.put oi.dst v) w) : wpAnyL P md ops Q S late (fuel + 1) listed a w := by
  simp only [Bool.and_eq_true, Bool.not_eq_true'] at hw
  exact late_first hi hs hw.1.1 hQ fuel listed a w (closedB_spec hw.2) hf (by simpa using hr) hy hS hw.1.2 h
/-- One operation comes up. -/
theorem wpAnyL_one {i : Nat} {o : Oper} {fuel : Nat} {listed : Array Bool} {a : Act} {w : World} (hr : Region.ready md ops listed = [i]) (ho : ops[i]? = some o)
    (h : ∀ K' : Act → World → Prop, Shut (∀ a w, (late i = false → S w) → wpAnyL P md ops Q S late fuel (listed.setIfInBounds i true) a w → K' a w) → if Region.wanted o (yielded ops a.tmps) = true then Oper.wp P o a w K' Q else K' (a.put o.dst undef) w) :
    wpAnyL P md ops Q S late (fuel + 1) listed a w := by
  refine ⟨fun h0 => absurd (h0 ▸ hr) (by simp), fun j hj => ?_⟩
  rw [hr, List.mem_singleton] at hj
  subst hj
  exact wpOp_step ho fun K' hK => h K' fun a w hS hW => hK a w ⟨hS, hW⟩
/-- Each of rs comes up next. -/
def AllL (P : Program) (md : Region.Mode) (ops : Array Oper) (Q : Exit → Act → World → Prop) (S : World → Prop) (late : Nat → Bool) (fuel : Nat) (listed : Array Bool) (a : Act) (w : World) (rs : List Nat) : Prop :=
  ∀ i ∈ rs, wpOp P ops Q i (fun a' w' => (late i = false → S w') ∧ wpAnyL P md ops Q S late fuel (listed.setIfInBounds i true) a' w') a w
theorem AllL.nil {fuel : Nat} {listed : Array Bool} {a : Act} {w : World} : AllL P md ops Q S late fuel listed a w [] := fun _ h => by cases h
theorem AllL.cons {i : Nat} {o : Oper} {fuel : Nat} {listed : Array Bool} {a : Act} {w : World} {rs : List Nat} (ho : ops[i]? = some o)
    (h : ∀ K' : Act → World → Prop, Shut (∀ a w, (late i = false → S w) → wpAnyL P md ops Q S late fuel (listed.setIfInBounds i true) a w → K' a w) → if Region.wanted o (yielded ops a.tmps) = true then Oper.wp P o a w K' Q else K' (a.put o.dst undef) w)
    (hs : AllL P md ops Q S late fuel listed a w rs) : AllL P md ops Q S late fuel listed a w (i :: rs) := fun j hj => by
  rcases List.mem_cons.1 hj with rfl | hj
  · exact wpOp_step ho fun K' hK => h K' fun a w hS hW => hK a w ⟨hS, hW⟩
  · exact hs j hj
theorem wpAnyL_all {rs : List Nat} {fuel : Nat} {listed : Array Bool} {a : Act} {w : World} (hr : Region.ready md ops listed = rs) (hne : rs ≠ []) (h : AllL P md ops Q S late fuel listed a w rs) : wpAnyL P md ops Q S late (fuel + 1) listed a w :=
  ⟨fun h0 => absurd (hr ▸ h0) hne, hr ▸ h⟩
theorem wpAnyL_done {listed : Array Bool} {a : Act} {w : World} (hr : Region.ready md ops listed = []) (h : Q .normal a w) : ∀ fuel, wpAnyL P md ops Q S late fuel listed a w
  | 0 => ⟨hr, h⟩
  | _ + 1 => ⟨fun _ => h, by rw [hr]; simp⟩
theorem OnlyN.imp {Q : Exit → Act → World → Prop} : ∀ (e : Exit) (a : Act) (w : World), OnlyN Q e a w → Q e a w
  | .normal, _, _, h => h
  | .ret, _, _, h => h.elim
  | .exit _, _, _, h => h.elim
  | .goto _, _, _, h => h.elim
  | .panic _, _, _, h => h.elim
  | .outgrown, _, _, h => h.elim
theorem region_late (late : Nat → Bool) {id : Nat} {a : Act} {w : World} (hm : P.follows .mixedOrders = true) (hS : S w.drew) (h : S w.drew → wpAnyL P .any ops (OnlyN Q) S late ops.size (Array.replicate ops.size false) a w.drew) : (Code.region id ops true).wp P Q a w :=
  Code.wp_mono OnlyN.imp (wp_region_any hm (wpAny_of_late _ _ _ _ (h hS)))
theorem region_lateIn (late : Nat → Bool) {l n id : Nat} {a : Act} {w : World} (hm : P.follows .mixedOrders = true) (hd : noDeferB ops = true) (hS : S w.drew)
    (h : S w.drew → wpAnyL P .any ops (OnlyN Q) S late ops.size (Array.replicate ops.size false) a w.drew) : (Code.region id ops true).wpIn (Fence.wide.inRound l) n P Q a w :=
  wpIn_region_any hm (anyIn l n hd _ _ _ _ (wpAny_of_late _ _ _ _ (h hS)))
end
end Go.Proofs.YtnigpmbpipmgfaaDoor

/-
  A drawn region in which an operation writes what some loads, that wait for nothing, do not read: two conditions.
-/
namespace Go.Proofs.YtnigpmbpipmgfaaDoor
open Go.RowKit Go.Shelf Tess

section
variable {P : Program} {ops : Array Oper} {Q : Exit → Act → World → Prop} {md : Region.Mode} {S T : World → Prop} {kind : Nat → Nat}

/-- What is shown behind operation j: S stays, T stays; or T alone; or nothing. -/
def DoneD (S T : World → Prop) (kind : Nat → Nat) (j : Nat) (w w' : World) : Prop := (kind j = 0 → S w → S w') ∧ (kind j ≤ 1 → T w → T w')
def wpAnyD (P : Program) (md : Region.Mode) (ops : Array Oper) (Q : Exit → Act → World → Prop) (S T : World → Prop) (kind : Nat → Nat) : Nat → Array Bool → Act → World → Prop
  | 0, listed, a, w => Region.ready md ops listed = [] ∧ Q .normal a w
  | fuel + 1, listed, a, w => (Region.ready md ops listed = [] → Q .normal a w) ∧
    ∀ i ∈ Region.ready md ops listed, wpOp P ops Q i (fun a' w' => DoneD S T kind i w w' ∧ wpAnyD P md ops Q S T kind fuel (listed.setIfInBounds i true) a' w') a w
theorem wpAny_of_D : ∀ (fuel : Nat) (listed : Array Bool) (a : Act) (w : World), wpAnyD P md ops Q S T kind fuel listed a w → wpAny P md ops Q fuel listed a w
  | 0, _, _, _, h => h
  | fuel + 1, _, _, _, h => ⟨h.1, fun i hi => wpOp_mono (fun _ _ k => wpAny_of_D fuel _ _ _ k.2) (h.2 i hi)⟩
/-- Every operation of a kind above k waits for operation i. -/
def kindWait (md : Region.Mode) (ops : Array Oper) (kind : Nat → Nat) (k i : Nat) : Bool :=
  (List.range ops.size).all fun j => kind j ≤ k || waits md ops ops.size j i
theorem kindWait_spec {k i : Nat} (h : kindWait md ops kind k i = true) {listed : Array Bool} (hc : Closed md ops listed) (hi : i ∈ Region.ready md ops listed) {j : Nat} (hj : j ∈ Region.ready md ops listed) : kind j ≤ k := by
  have h2 : lateWait md ops (fun j => !decide (kind j ≤ k)) i = true := by
    unfold lateWait
    unfold kindWait at h
    rw [List.all_eq_true] at h ⊢
    intro j hj
    have := h j hj
    simpa using this
  have := lateWait_spec h2 hc hi hj
  simpa using this
theorem D_first {U : World → Prop} {k i : Nat} {oi : Oper} {v : Value} (hU : ∀ j w w', kind j ≤ k → DoneD S T kind j w w' → U w → U w') (hi : ops[i]? = some oi) (hs : Region.noSelect ops = true) (hw : kindWait md ops kind k i = true)
    (hQ : ∀ c a w, Q (.panic c) (a.put oi.dst v) w → Q (.panic c) a w) :
    ∀ (fuel : Nat) (listed : Array Bool) (a : Act) (w : World), Closed md ops listed → Region.free md ops listed i = true → i ∈ Region.ready md ops listed → YieldsIf P ops U oi v a → U w →
      wpAnyD P md ops Q S T kind fuel (listed.setIfInBounds i true) (a.put oi.dst v) w → wpAnyD P md ops Q S T kind (fuel + 1) listed a w
  | 0, listed, a, w, _, _, hr, hy, hS, H => by
    refine ⟨fun h => absurd (h ▸ hr) (by simp), fun j hj => ?_⟩
    by_cases hji : j = i
    · subst hji; exact hy.wpOp hi hS ⟨⟨fun _ h => h, fun _ h => h⟩, H⟩
    · exact absurd (H.1 ▸ ready_mono hj hji) (by simp)
  | fuel + 1, listed, a, w, hcl, hf, hr, hy, hS, H => by
    refine ⟨fun h => absurd (h ▸ hr) (by simp), fun j hj => ?_⟩
    by_cases hji : j = i
    · subst hji; exact hy.wpOp hi hS ⟨⟨fun _ h => h, fun _ h => h⟩, H⟩
    · obtain ⟨hjun, oj, hoj, hall⟩ := mem_ready.1 hj
      have hno : ∀ e ∈ oj.after, Region.binds md e = true → e.on ≠ i := fun e he hb heq => by
        have h1 := hall e he hb
        have h0 := (mem_ready.1 hr).1
        rw [heq] at h1
        rcases Nat.lt_or_ge i listed.size with h' | h'
        · simp [h'] at h0 h1; rw [h0] at h1; cases h1
        · simp [Array.getElem?_eq_none h'] at h1
      have hlj := kindWait_spec hw hcl hr hj
      have h2 := wpOp_putIf hoj (Region.free_spec hi hf j oj hoj hji hjun hno) (fun cs b => Region.noSelect_spec hs i oi cs b hi) (fun cs b => Region.noSelect_spec hs j oj cs b hoj) hQ hy (H.2 j (ready_mono hj hji))
      have hf' : Region.free md ops (listed.setIfInBounds j true) i = true := by
        unfold Region.free at hf ⊢
        rw [hi] at hf ⊢
        rw [List.all_eq_true] at hf ⊢
        intro k hk
        have := hf k hk
        by_cases hjk : j = k
        · subst hjk
          have hsz : j < listed.size := by
            rcases Nat.lt_or_ge j listed.size with h' | h'
            · exact h'
            · simp [Array.getElem?_eq_none h'] at hjun
          simp [hsz]
        · rw [getD_set_ne true hjk]; exact this
      refine wpOp_mono (fun a' w' h3 => ⟨h3.2.1, ?_⟩) h2
      refine D_first hU hi hs hw hQ fuel (listed.setIfInBounds j true) a' w' (hcl.step hj) hf' (ready_mono hr (Ne.symm hji)) h3.1 (hU j w w' hlj h3.2.1 hS) ?_
      rw [Array.setIfInBounds_comm _ _ hji]
      exact h3.2.2
/-- Take number i first, that reads by S alone. -/
theorem wpAnyD_takeS {i : Nat} {oi : Oper} {v : Value} {fuel : Nat} {listed : Array Bool} {a : Act} {w : World} (hi : ops[i]? = some oi) (hs : Region.noSelect ops = true) (hw : (kindWait md ops kind 0 i && closedB md ops listed) = true)
    (hf : Region.free md ops listed i = true) (hr : (Region.ready md ops listed).contains i = true) (hQ : ∀ c a w, Q (.panic c) (a.put oi.dst v) w → Q (.panic c) a w) (hy : YieldsIf P ops S oi v a) (hS : S w)
    (h : wpAnyD P md ops Q S T kind fuel (listed.setIfInBounds i true) (a.put oi.dst v) w) : wpAnyD P md ops Q S T kind (fuel + 1) listed a w := by
  simp only [Bool.and_eq_true] at hw
  exact D_first (U := S) (k := 0) (fun j w w' hk hd => hd.1 (by omega)) hi hs hw.1 hQ fuel listed a w (closedB_spec hw.2) hf (by simpa using hr) hy hS h
/-- Take number i first, that reads by T. -/
theorem wpAnyD_takeT {i : Nat} {oi : Oper} {v : Value} {fuel : Nat} {listed : Array Bool} {a : Act} {w : World} (hi : ops[i]? = some oi) (hs : Region.noSelect ops = true) (hw : (kindWait md ops kind 1 i && closedB md ops listed) = true)
    (hf : Region.free md ops listed i = true) (hr : (Region.ready md ops listed).contains i = true) (hQ : ∀ c a w, Q (.panic c) (a.put oi.dst v) w → Q (.panic c) a w) (hy : YieldsIf P ops T oi v a) (hT : T w)
    (h : wpAnyD P md ops Q S T kind fuel (listed.setIfInBounds i true) (a.put oi.dst v) w) : wpAnyD P md ops Q S T kind (fuel + 1) listed a w := by
  simp only [Bool.and_eq_true] at hw
  exact D_first (U := T) (k := 1) (fun j w w' hk hd => hd.2 hk) hi hs hw.1 hQ fuel listed a w (closedB_spec hw.2) hf (by simpa using hr) hy hT h
theorem wpAnyD_one {i : Nat} {o : Oper} {fuel : Nat} {listed : Array Bool} {a : Act} {w : World} (hr : Region.ready md ops listed = [i]) (ho : ops[i]? = some o)
    (h : ∀ K' : Act → World → Prop, Shut (∀ a w', DoneD S T kind i w w' → wpAnyD P md ops Q S T kind fuel (listed.setIfInBounds i true) a w' → K' a w') → if Region.wanted o (yielded ops a.tmps) = true then Oper.wp P o a w K' Q else K' (a.put o.dst undef) w) :
    wpAnyD P md ops Q S T kind (fuel + 1) listed a w := by
  refine ⟨fun h0 => absurd (h0 ▸ hr) (by simp), fun j hj => ?_⟩
  rw [hr, List.mem_singleton] at hj
  subst hj
  exact wpOp_step ho fun K' hK => h K' fun a w hS hW => hK a w ⟨hS, hW⟩
theorem wpAnyD_done {listed : Array Bool} {a : Act} {w : World} (hr : Region.ready md ops listed = []) (h : Q .normal a w) : ∀ fuel, wpAnyD P md ops Q S T kind fuel listed a w
  | 0 => ⟨hr, h⟩
  | _ + 1 => ⟨fun _ => h, by rw [hr]; simp⟩
theorem region_D (kind : Nat → Nat) {id : Nat} {a : Act} {w : World} (hm : P.follows .mixedOrders = true) (hS : S w.drew) (h : S w.drew → wpAnyD P .any ops (OnlyN Q) S T kind ops.size (Array.replicate ops.size false) a w.drew) : (Code.region id ops true).wp P Q a w :=
  Code.wp_mono OnlyN.imp (wp_region_any hm (wpAny_of_D _ _ _ _ (h hS)))
theorem region_DIn (kind : Nat → Nat) {l n id : Nat} {a : Act} {w : World} (hm : P.follows .mixedOrders = true) (hd : noDeferB ops = true) (hS : S w.drew)
    (h : S w.drew → wpAnyD P .any ops (OnlyN Q) S T kind ops.size (Array.replicate ops.size false) a w.drew) : (Code.region id ops true).wpIn (Fence.wide.inRound l) n P Q a w :=
  wpIn_region_any hm (anyIn l n hd _ _ _ _ (wpAny_of_D _ _ _ _ (h hS)))
end
end Go.Proofs.YtnigpmbpipmgfaaDoor
