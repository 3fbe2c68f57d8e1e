/-
  A region that draws its order: one walk in the order of the text serves every order, where each operation either leaves the world alone and yields one value in every world of a class,
  or is one of some steps that stand in one forced order (calls, mostly): a step may yield any value of a set, and may turn the world within the class; what is known of what it has yielded is kept.
-/
import Derived.Test.YtgjfebnafjpcaaaDoorGrows
namespace Go.Proofs.YtgjfebnafjpcaaaDoor
open Go.RowKit

section
variable {P : Program} {ops : Array Oper} {md : Region.Mode} {C0 : World → Prop}

/-- One value, the world left alone. -/
def fixUpon (w : World) (v : Value) : Result Next → Prop
  | .ok (.value u) w' => w' = w ∧ u = v
  | .ok .skip w' => w' = w ∧ v = undef
  | _ => False
def fixAt (P : Program) (o : Oper) (a : Act) (w : World) (v : Value) : Prop := fixUpon w v ((execOp a.eval o).run P w)
/-- A value, and a world, of which something is known. -/
def stepUpon (P : Program) (R : Value → World → Prop) : Result Next → Prop
  | .ok (.value v) w' => R v w'
  | .ok .skip w' => R undef w'
  | .ok (.enter f args) w' => Calls P f args w' (fun e w'' => ∃ v, e = .returned v ∧ R v w'')
  | _ => False
def stepAt (P : Program) (o : Oper) (a : Act) (w : World) (R : Value → World → Prop) : Prop := stepUpon P R ((execOp a.eval o).run P w)

theorem wp_of_fix {o : Oper} {a : Act} {w : World} {v : Value} {K : Act → World → Prop} {Q : Exit → Act → World → Prop} (h : fixAt P o a w v) (hk : K (a.put o.dst v) w) : o.wp P a w K Q := by
  unfold fixAt at h
  unfold Oper.wp
  generalize (execOp a.eval o).run P w = r at *
  cases r with
  | ok n w' =>
    cases n <;> simp only [fixUpon] at h <;> simp only [Oper.upon]
    case value u => obtain ⟨rfl, rfl⟩ := h; exact hk
    case skip => obtain ⟨rfl, rfl⟩ := h; exact hk
  | halt x w' => simp only [fixUpon] at h
theorem wp_of_step {o : Oper} {a : Act} {w : World} {R : Value → World → Prop} {K : Act → World → Prop} {Q : Exit → Act → World → Prop} (h : stepAt P o a w R) (hk : ∀ v w', R v w' → K (a.put o.dst v) w') : o.wp P a w K Q := by
  unfold stepAt at h
  unfold Oper.wp
  generalize (execOp a.eval o).run P w = r at *
  cases r with
  | ok n w' =>
    cases n <;> simp only [stepUpon] at h <;> simp only [Oper.upon]
    case value u => exact hk _ _ h
    case skip => exact hk _ _ h
    case enter f args => exact h.mono fun e w'' ⟨v, he, hr⟩ => by subst he; exact hk _ _ hr
  | halt x w' => simp only [stepUpon] at h
theorem fix_one {o : Oper} {a : Act} {w : World} {u v : Value} (h : fixAt P o a w u) (h' : fixAt P o a w v) : u = v := by
  unfold fixAt at h h'
  generalize (execOp a.eval o).run P w = r at *
  cases r with
  | ok n w' =>
    cases n <;> simp only [fixUpon] at h h'
    case value x => exact h.2.symm.trans h'.2
    case skip => exact h.2.trans h'.2.symm
  | halt x w' => simp only [fixUpon] at h

/-- Operation number i comes up in state a, the world being of the class C. S: which operations are steps. -/
def mOp (P : Program) (ops : Array Oper) (C0 : World → Prop) (S : Nat → Bool) (i : Nat) (K : Act → (World → Prop) → Prop) (a : Act) (C : World → Prop) : Prop :=
  match ops[i]? with
  | none => K a C
  | some o =>
    if Region.wanted o (yielded ops a.tmps) then
      (S i = false ∧ ∃ v, (∀ w, C0 w → fixAt P o a w v) ∧ K (a.put o.dst v) C) ∨
      (S i = true ∧ ∃ (V0 : Value → Prop) (V : Value → World → Prop), (∃ v, V0 v) ∧ (∀ w, C w → stepAt P o a w (fun v w' => V0 v ∧ C0 w' ∧ C w' ∧ V v w')) ∧ ∀ v, V0 v → K (a.put o.dst v) (fun w => C w ∧ V v w))
    else K (a.put o.dst undef) C
theorem mOp_mono {S : Nat → Bool} {i : Nat} {K K' : Act → (World → Prop) → Prop} {a : Act} {C : World → Prop} (h : ∀ a C, K a C → K' a C) (hh : mOp P ops C0 S i K a C) : mOp P ops C0 S i K' a C := by
  unfold mOp at *
  split
  · exact h _ _ (by simpa [*] using hh)
  · rename_i o ho
    simp only [ho] at hh
    split
    · rename_i hw
      simp only [hw, if_true] at hh
      rcases hh with ⟨hs, v, h1, h2⟩ | ⟨hs, V0, V, h0, h1, h2⟩
      · exact .inl ⟨hs, v, h1, h _ _ h2⟩
      · exact .inr ⟨hs, V0, V, h0, h1, fun v hv => h _ _ (h2 v hv)⟩
    · rename_i hw
      simp only [hw] at hh
      exact h _ _ hh
/-- Whatever order is picked from here on. -/
def wpAnyM (P : Program) (md : Region.Mode) (ops : Array Oper) (C0 : World → Prop) (S : Nat → Bool) (Q : Act → (World → Prop) → Prop) : Nat → Array Bool → Act → (World → Prop) → Prop
  | 0, listed, a, C => Region.ready md ops listed = [] ∧ Q a C
  | fuel + 1, listed, a, C =>
    (Region.ready md ops listed = [] → Q a C) ∧
    ∀ i ∈ Region.ready md ops listed, mOp P ops C0 S i (wpAnyM P md ops C0 S Q fuel (listed.setIfInBounds i true)) a C

theorem wpAny_of_mix {S : Nat → Bool} {Q : Act → (World → Prop) → Prop} {Q' : Exit → Act → World → Prop} (hQ : ∀ a C w, C w → Q a C → Q' .normal a w) :
    ∀ (fuel : Nat) (listed : Array Bool) (a : Act) (C : World → Prop) (w : World), C w → C0 w → wpAnyM P md ops C0 S Q fuel listed a C → wpAny P md ops Q' fuel listed a w
  | 0, _, _, _, _, hw, _, h => ⟨h.1, hQ _ _ _ hw h.2⟩
  | fuel + 1, listed, a, C, w, hw, hw0, h => by
    refine ⟨fun h0 => hQ _ _ _ hw (h.1 h0), fun i hi => ?_⟩
    have hm := h.2 i hi
    unfold mOp at hm
    unfold wpOp
    split
    · rename_i ho
      simp only [ho] at hm
      exact wpAny_of_mix hQ fuel _ a C w hw hw0 hm
    · rename_i o ho
      simp only [ho] at hm
      split
      · rename_i hwt
        simp only [hwt, if_true] at hm
        refine .inl ?_
        rcases hm with ⟨_, v, h1, h2⟩ | ⟨_, V0, V, _, h1, h2⟩
        · exact wp_of_fix (h1 w hw0) (wpAny_of_mix hQ fuel _ _ C w hw hw0 h2)
        · exact wp_of_step (h1 w hw) fun v w' ⟨hv, c0, c, vv⟩ => wpAny_of_mix hQ fuel _ _ _ w' ⟨c, vv⟩ c0 (h2 v hv)
      · rename_i hwt
        simp only [hwt] at hm
        exact wpAny_of_mix hQ fuel _ _ C w hw hw0 hm

/-- In state a, in every world of the class, operation o leaves v in its temporary, and the world alone. -/
def FixIn (P : Program) (ops : Array Oper) (C0 : World → Prop) (o : Oper) (v : Value) (a : Act) : Prop :=
  (Region.wanted o (yielded ops a.tmps) = true ∧ ∀ w, C0 w → fixAt P o a w v) ∨ (Region.wanted o (yielded ops a.tmps) = false ∧ v = undef)
theorem FixIn.mOp {S : Nat → Bool} {i : Nat} {o : Oper} {v : Value} {a : Act} {C : World → Prop} (hi : ops[i]? = some o) (hS : S i = false) (hy : FixIn P ops C0 o v a) {K : Act → (World → Prop) → Prop} (h : K (a.put o.dst v) C) : mOp P ops C0 S i K a C := by
  unfold Go.Proofs.YtgjfebnafjpcaaaDoor.mOp
  simp only [hi]
  rcases hy with ⟨hw, hv⟩ | ⟨hw, rfl⟩
  · simp only [hw, if_true]; exact .inl ⟨hS, v, hv, h⟩
  · simp only [hw, Bool.false_eq_true, if_false]; exact h
theorem fixIn_skip {S : Nat → Bool} {i : Nat} {o : Oper} {a : Act} {C : World → Prop} (hi : ops[i]? = some o) (hw : Region.wanted o (yielded ops a.tmps) = false) {K : Act → (World → Prop) → Prop} (h : K (a.put o.dst undef) C) : Go.Proofs.YtgjfebnafjpcaaaDoor.mOp P ops C0 S i K a C := by
  unfold Go.Proofs.YtgjfebnafjpcaaaDoor.mOp
  simp only [hi, hw, Bool.false_eq_true, if_false]
  exact h
theorem FixIn.of_same {o : Oper} {v : Value} {a a' : Act} (hy : FixIn P ops C0 o v a) (he : execOp a'.eval o = execOp a.eval o)
    (hw : Region.wanted o (yielded ops a'.tmps) = Region.wanted o (yielded ops a.tmps)) : FixIn P ops C0 o v a' := by
  unfold FixIn fixAt at *
  rw [he, hw]
  exact hy

/-- Operation oj, apart from oi: whether oi's value is already in its temporary makes no difference to it. -/
theorem mOp_put {S : Nat → Bool} {j : Nat} {oi oj : Oper} {v : Value} (hj : ops[j]? = some oj) (hap : oi.apart ops oj = true)
    (hsi : ∀ cs b, oi.op ≠ .select cs b) (hsj : ∀ cs b, oj.op ≠ .select cs b) {K : Act → (World → Prop) → Prop} {a : Act} {C : World → Prop}
    (hy : FixIn P ops C0 oi v a) (h : mOp P ops C0 S j K (a.put oi.dst v) C) :
    mOp P ops C0 S j (fun a' C' => FixIn P ops C0 oi v a' ∧ K (a'.put oi.dst v) C') a C := by
  obtain ⟨h1, h2, h3⟩ := Oper.apart_spec hap
  have keep : ∀ (a : Act), FixIn P ops C0 oi v a → ∀ u, FixIn P ops C0 oi v (a.put oj.dst u) := fun a hy u =>
    hy.of_same (execOp_put oi hsi a oj.dst u h3) (wanted_put oi a oj.dst u h3)
  unfold mOp at *
  simp only [hj] at *
  rw [wanted_put oj a oi.dst v h1] at h
  split
  · rename_i hw
    simp only [hw, if_true] at h
    rcases h with ⟨hs, u, hu, hn⟩ | ⟨hs, V0, V, h0, hu, hn⟩
    · refine .inl ⟨hs, u, fun w hw' => ?_, keep a hy u, by rw [← Act.put_comm a v u h2]; exact hn⟩
      have := hu w hw'
      unfold fixAt at *
      rwa [execOp_put oj hsj a oi.dst v h1] at this
    · refine .inr ⟨hs, V0, V, h0, fun w hw' => ?_, fun u hu' => ⟨keep a hy u, by rw [← Act.put_comm a v u h2]; exact hn u hu'⟩⟩
      have := hu w hw'
      unfold stepAt at *
      rwa [execOp_put oj hsj a oi.dst v h1] at this
  · rename_i hw
    simp only [hw] at h
    exact ⟨keep a hy _, by rw [← Act.put_comm a v undef h2]; exact h⟩

/-- Such an operation may be taken first. -/
theorem anyM_first {S : Nat → Bool} {Q : Act → (World → Prop) → Prop} {i : Nat} {oi : Oper} {v : Value} (hi : ops[i]? = some oi) (hsel : ∀ (j : Nat) (o : Oper) cs b, ops[j]? = some o → o.op ≠ .select cs b) :
    ∀ (fuel : Nat) (listed : Array Bool) (a : Act) (C : World → Prop),
      (∀ j oj, ops[j]? = some oj → j ≠ i → listed.getD j true = false → (∀ e ∈ oj.after, Region.binds md e = true → e.on ≠ i) → oi.apart ops oj = true) →
      i ∈ Region.ready md ops listed → FixIn P ops C0 oi v a → (S i = false ∨ Region.wanted oi (yielded ops a.tmps) = false) →
      wpAnyM P md ops C0 S Q fuel (listed.setIfInBounds i true) (a.put oi.dst v) C → wpAnyM P md ops C0 S Q (fuel + 1) listed a C := by
  have now : ∀ (fuel : Nat) (listed : Array Bool) (a : Act) (C : World → Prop), FixIn P ops C0 oi v a → (S i = false ∨ Region.wanted oi (yielded ops a.tmps) = false) →
      wpAnyM P md ops C0 S Q fuel (listed.setIfInBounds i true) (a.put oi.dst v) C → mOp P ops C0 S i (wpAnyM P md ops C0 S Q fuel (listed.setIfInBounds i true)) a C := by
    intro fuel listed a C hy hS H
    rcases hS with hS | hS
    · exact hy.mOp hi hS H
    · rcases hy with ⟨hw, _⟩ | ⟨_, rfl⟩
      · rw [hS] at hw; cases hw
      · exact fixIn_skip hi hS H
  intro fuel
  induction fuel with
  | zero =>
    intro listed a C _ hr hy hS H
    refine ⟨fun h => (by rw [h] at hr; cases hr), fun j hj => ?_⟩
    by_cases hji : j = i
    · subst hji; exact now 0 listed a C hy hS H
    · have := ready_mono hj hji
      rw [H.1] at this
      cases this
  | succ fuel ih =>
    intro listed a C hfree hr hy hS H
    refine ⟨fun h => (by rw [h] at hr; cases hr), fun j hj => ?_⟩
    by_cases hji : j = i
    · subst hji; exact now _ listed a C hy hS H
    · have h1 := H.2 j (ready_mono hj hji)
      obtain ⟨hjun, oj, hoj, hall⟩ := mem_ready.1 hj
      have hnot : ∀ e ∈ oj.after, Region.binds md e = true → e.on ≠ i := fun e he hb heq => by
        have h1 := hall e he hb
        have h0 := (mem_ready.1 hr).1
        rw [heq] at h1
        rcases Nat.lt_or_ge i listed.size with h' | h'
        · simp [h'] at h0 h1; rw [h0] at h1; cases h1
        · simp [Array.getElem?_eq_none h'] at h1
      have hap := hfree j oj hoj hji hjun hnot
      have hkw : ∀ a' : Act, FixIn P ops C0 oi v a' → True := fun _ _ => trivial
      have h2 := mOp_put hoj hap (fun cs b => hsel i oi cs b hi) (fun cs b => hsel j oj cs b hoj) hy h1
      have hfree' : ∀ k ok, ops[k]? = some ok → k ≠ i → (listed.setIfInBounds j true).getD k true = false →
          (∀ e ∈ ok.after, Region.binds md e = true → e.on ≠ i) → oi.apart ops ok = true := fun k ok hk hki hun hno => by
        refine hfree k ok hk hki ?_ hno
        by_cases hjk : j = k
        · subst hjk; exact hjun
        · rw [getD_set_ne true hjk] at hun; exact hun
      -- whether i is wanted is not turned by j
      have h3' := (Oper.apart_spec hap).2.2
      have h4 : mOp P ops C0 S j (fun a' C' => (FixIn P ops C0 oi v a' ∧ wpAnyM P md ops C0 S Q fuel ((listed.setIfInBounds i true).setIfInBounds j true) (a'.put oi.dst v) C') ∧ ∃ u, a' = a.put oj.dst u) a C := by
        unfold mOp at h2 ⊢
        simp only [hoj] at h2 ⊢
        split
        · rename_i hw
          simp only [hw, if_true] at h2
          rcases h2 with ⟨hs, u, hu, hn⟩ | ⟨hs, V0, V, h0, hu, hn⟩
          · exact .inl ⟨hs, u, hu, hn, u, rfl⟩
          · exact .inr ⟨hs, V0, V, h0, hu, fun u hu' => ⟨hn u hu', u, rfl⟩⟩
        · rename_i hw
          simp only [hw] at h2
          exact ⟨h2, undef, rfl⟩
      refine mOp_mono (fun a' C' h3 => ?_) h4
      obtain ⟨⟨h3, h5⟩, u, rfl⟩ := h3
      refine ih (listed.setIfInBounds j true) _ C' hfree' (ready_mono hr (Ne.symm hji)) h3 ?_ ?_
      · rcases hS with hS | hS
        · exact .inl hS
        · exact .inr (by rw [wanted_put oi a oj.dst u h3']; exact hS)
      · rw [Array.setIfInBounds_comm _ _ hji]
        exact h5

/-- Is i ahead of j on every order? -/
def reachB (md : Region.Mode) (ops : Array Oper) : Nat → Nat → Nat → Bool
  | 0, _, _ => false
  | fuel + 1, i, j =>
    match ops[j]? with
    | some oj => oj.after.toList.any fun e => Region.binds md e && (e.on == i || reachB md ops fuel i e.on)
    | none => false
/-- What is listed has all listed that it waits for. -/
def Closed (md : Region.Mode) (ops : Array Oper) (listed : Array Bool) : Prop :=
  ∀ j oj, ops[j]? = some oj → listed.getD j false = true → ∀ e ∈ oj.after, Region.binds md e = true → listed.getD e.on false = true
theorem Closed.set {listed : Array Bool} {i : Nat} (hc : Closed md ops listed) (hi : i ∈ Region.ready md ops listed) : Closed md ops (listed.setIfInBounds i true) := by
  obtain ⟨_, oi, hoi, hall⟩ := mem_ready.1 hi
  intro j oj hj hl e he hb
  by_cases hij : i = j
  · subst hij
    obtain rfl : oj = oi := Option.some.inj (hj.symm.trans hoi)
    exact getD_set_true (hall e he hb)
  · rw [getD_set_ne false hij] at hl
    exact getD_set_true (hc j oj hj hl e he hb)
theorem reach_listed {listed : Array Bool} (hc : Closed md ops listed) : ∀ (fuel i j : Nat), reachB md ops fuel i j = true →
    (∀ oj, ops[j]? = some oj → ∀ e ∈ oj.after, Region.binds md e = true → listed.getD e.on false = true) → listed.getD i false = true
  | 0, _, _, h, _ => by cases h
  | fuel + 1, i, j, h, hj => by
    unfold reachB at h
    split at h
    · rename_i oj hoj
      obtain ⟨e, he, h1⟩ := List.any_eq_true.1 h
      simp only [Bool.and_eq_true, Bool.or_eq_true, beq_iff_eq] at h1
      have he' : e ∈ oj.after := by simpa using he
      have hl := hj oj hoj e he' h1.1
      rcases h1.2 with rfl | h2
      · exact hl
      · exact reach_listed hc fuel i e.on h2 fun ok hk e' he' hb => hc e.on ok hk hl e' he' hb
    · cases h

/-- A step may be taken first: the steps behind it wait for it. -/
theorem anyM_step {S : Nat → Bool} {Q : Act → (World → Prop) → Prop} {i : Nat} {oi : Oper} {V0 : Value → Prop} {V : Value → World → Prop} (hi : ops[i]? = some oi) (hS : S i = true) (hsel : ∀ (j : Nat) (o : Oper) cs b, ops[j]? = some o → o.op ≠ .select cs b)
    (hord : ∀ j, S j = true → j ≠ i → reachB md ops ops.size i j = true ∨ reachB md ops ops.size j i = true) (hne : ∃ v, V0 v) (hC0 : ∃ w, C0 w) :
    ∀ (fuel : Nat) (listed : Array Bool) (a : Act) (C : World → Prop), Closed md ops listed →
      (∀ j oj, ops[j]? = some oj → j ≠ i → listed.getD j true = false → (∀ e ∈ oj.after, Region.binds md e = true → e.on ≠ i) → oi.apart ops oj = true) →
      i ∈ Region.ready md ops listed → Region.wanted oi (yielded ops a.tmps) = true → (∀ w, C w → stepAt P oi a w (fun v w' => V0 v ∧ C0 w' ∧ C w' ∧ V v w')) →
      (∀ v, V0 v → wpAnyM P md ops C0 S Q fuel (listed.setIfInBounds i true) (a.put oi.dst v) (fun w => C w ∧ V v w)) → wpAnyM P md ops C0 S Q (fuel + 1) listed a C := by
  obtain ⟨v0, hv0⟩ := hne
  obtain ⟨wz, hwz⟩ := hC0
  have now : ∀ (fuel : Nat) (listed : Array Bool) (a : Act) (C : World → Prop), Region.wanted oi (yielded ops a.tmps) = true → (∀ w, C w → stepAt P oi a w (fun v w' => V0 v ∧ C0 w' ∧ C w' ∧ V v w')) →
      (∀ v, V0 v → wpAnyM P md ops C0 S Q fuel (listed.setIfInBounds i true) (a.put oi.dst v) (fun w => C w ∧ V v w)) → mOp P ops C0 S i (wpAnyM P md ops C0 S Q fuel (listed.setIfInBounds i true)) a C := by
    intro fuel listed a C hw hst H
    unfold mOp
    simp only [hi, hw, if_true]
    exact .inr ⟨hS, V0, V, ⟨v0, hv0⟩, hst, H⟩
  intro fuel
  induction fuel with
  | zero =>
    intro listed a C _ _ hr hw hst H
    refine ⟨fun h => (by rw [h] at hr; cases hr), fun j hj => ?_⟩
    by_cases hji : j = i
    · subst hji; exact now 0 listed a C hw hst H
    · have := ready_mono hj hji
      rw [(H v0 hv0).1] at this
      cases this
  | succ fuel ih =>
    intro listed a C hcl hfree hr hw hst H
    refine ⟨fun h => (by rw [h] at hr; cases hr), fun j hj => ?_⟩
    by_cases hji : j = i
    · subst hji; exact now _ listed a C hw hst H
    · obtain ⟨hjun, oj, hoj, hall⟩ := mem_ready.1 hj
      have hiun : listed.getD i false = false := by
        have h0 := (mem_ready.1 hr).1
        rcases Nat.lt_or_ge i listed.size with h' | h'
        · simp [h'] at h0 ⊢; exact h0
        · simp [Array.getElem?_eq_none h'] at h0 ⊢
      have hjun' : listed.getD j false = false := by
        rcases Nat.lt_or_ge j listed.size with h' | h'
        · simp [h'] at hjun ⊢; exact hjun
        · simp [Array.getElem?_eq_none h'] at hjun ⊢
      have hnS : S j = false := by
        cases hsj : S j with
        | false => rfl
        | true =>
          exfalso
          rcases hord j hsj hji with h | h
          · have := reach_listed hcl _ _ _ h (fun ok hk e he hb => by obtain rfl : ok = oj := Option.some.inj (hk.symm.trans hoj); exact hall e he hb)
            rw [hiun] at this
            cases this
          · obtain ⟨_, oi', hoi', halli⟩ := mem_ready.1 hr
            have := reach_listed hcl _ _ _ h (fun ok hk e he hb => by obtain rfl : ok = oi' := Option.some.inj (hk.symm.trans hoi'); exact halli e he hb)
            rw [hjun'] at this
            cases this
      have hnot : ∀ e ∈ oj.after, Region.binds md e = true → e.on ≠ i := fun e he hb heq => by
        have h1 := hall e he hb
        rw [heq, hiun] at h1
        cases h1
      obtain ⟨p1, p2, p3⟩ := Oper.apart_spec (hfree j oj hoj hji hjun hnot)
      have hfree' : ∀ k ok, ops[k]? = some ok → k ≠ i → (listed.setIfInBounds j true).getD k true = false →
          (∀ e ∈ ok.after, Region.binds md e = true → e.on ≠ i) → oi.apart ops ok = true := fun k ok hk hki hun hno => by
        refine hfree k ok hk hki ?_ hno
        by_cases hjk : j = k
        · subst hjk; exact hjun
        · rw [getD_set_ne true hjk] at hun; exact hun
      have hsi : ∀ cs b, oi.op ≠ .select cs b := fun cs b => hsel i oi cs b hi
      have hsj : ∀ cs b, oj.op ≠ .select cs b := fun cs b => hsel j oj cs b hoj
      -- what j yields, with whatever value of i in place
      have each : ∀ v, V0 v → (Region.wanted oj (yielded ops a.tmps) = true → ∃ u, (∀ w, C0 w → fixAt P oj a w u) ∧ wpAnyM P md ops C0 S Q fuel ((listed.setIfInBounds i true).setIfInBounds j true) ((a.put oi.dst v).put oj.dst u) (fun w => C w ∧ V v w)) ∧
          (Region.wanted oj (yielded ops a.tmps) = false → wpAnyM P md ops C0 S Q fuel ((listed.setIfInBounds i true).setIfInBounds j true) ((a.put oi.dst v).put oj.dst undef) (fun w => C w ∧ V v w)) := by
        intro v hv
        have h1 := (H v hv).2 j (ready_mono hj hji)
        unfold mOp at h1
        simp only [hoj] at h1
        rw [wanted_put oj a oi.dst v p1] at h1
        refine ⟨fun hwj => ?_, fun hwj => ?_⟩
        · simp only [hwj, if_true] at h1
          rcases h1 with ⟨_, u, hu, hn⟩ | ⟨hs, _⟩
          · refine ⟨u, fun w hw' => ?_, hn⟩
            have := hu w hw'
            unfold fixAt at *
            rwa [execOp_put oj hsj a oi.dst v p1] at this
          · rw [hnS] at hs; cases hs
        · simp only [hwj, Bool.false_eq_true, if_false] at h1
          exact h1
      have go : ∀ u, (∀ v, V0 v → wpAnyM P md ops C0 S Q fuel ((listed.setIfInBounds i true).setIfInBounds j true) ((a.put oi.dst v).put oj.dst u) (fun w => C w ∧ V v w)) → wpAnyM P md ops C0 S Q (fuel + 1) (listed.setIfInBounds j true) (a.put oj.dst u) C := by
        intro u hu
        refine ih (listed.setIfInBounds j true) _ C (hcl.set hj) hfree' (ready_mono hr (Ne.symm hji)) (by rw [wanted_put oi a oj.dst u p3]; exact hw) (fun w hw' => ?_) (fun v hv => ?_)
        · have := hst w hw'
          unfold stepAt at *
          rwa [execOp_put oi hsi a oj.dst u p3]
        · rw [Array.setIfInBounds_comm _ _ hji, ← Act.put_comm a v u p2]
          exact hu v hv
      unfold mOp
      simp only [hoj]
      split
      · rename_i hwj
        obtain ⟨u, hu, _⟩ := (each v0 hv0).1 hwj
        refine .inl ⟨hnS, u, hu, go u fun v hv => ?_⟩
        obtain ⟨u', hu', hn⟩ := (each v hv).1 hwj
        obtain rfl : u = u' := fix_one (hu wz hwz) (hu' wz hwz)
        exact hn
      · rename_i hwj
        exact go undef fun v hv => (each v hv).2 (by simpa using hwj)

/-- The walk in the order of the text; k: the number of the next operation. -/
def wpMix (P : Program) (ops : Array Oper) (C0 : World → Prop) (S : Nat → Bool) (Q : Act → (World → Prop) → Prop) : Nat → List Oper → Act → (World → Prop) → Prop
  | _, [], a, C => Q a C
  | k, o :: rest, a, C =>
    if Region.wanted o (yielded ops a.tmps) then
      (S k = false ∧ ∃ v, (∀ w, C0 w → fixAt P o a w v) ∧ wpMix P ops C0 S Q (k + 1) rest (a.put o.dst v) C) ∨
      (S k = true ∧ ∃ (V0 : Value → Prop) (V : Value → World → Prop), (∃ v, V0 v) ∧ (∀ w, C w → stepAt P o a w (fun v w' => V0 v ∧ C0 w' ∧ C w' ∧ V v w')) ∧ ∀ v, V0 v → wpMix P ops C0 S Q (k + 1) rest (a.put o.dst v) (fun w => C w ∧ V v w))
    else wpMix P ops C0 S Q (k + 1) rest (a.put o.dst undef) C

/-- The steps stand in one order. -/
def stepsB (md : Region.Mode) (ops : Array Oper) (S : Nat → Bool) : Bool :=
  (List.range ops.size).all fun i => !S i || (List.range ops.size).all fun j => !S j || i == j || (reachB md ops ops.size i j || reachB md ops ops.size j i)

theorem anyM_lex {S : Nat → Bool} {Q : Act → (World → Prop) → Prop} (hs : Region.noSelect ops = true) (hord : stepsB md ops S = true) (hSb : ∀ j, S j = true → j < ops.size) (hC0 : ∃ w, C0 w) :
    ∀ (l : List Oper) (k : Nat) (listed : Array Bool) (a : Act) (C : World → Prop), Closed md ops listed → (∀ j, l[j]? = ops[k + j]?) →
    Region.lexFrom md ops l.length k listed = true → wpMix P ops C0 S Q k l a C → wpAnyM P md ops C0 S Q l.length listed a C
  | [], _, _, _, _, _, _, hB, h => ⟨by simpa [Region.lexFrom] using hB, h⟩
  | o :: l, k, listed, a, C, hcl, hl, hB, h => by
    have h0 : ops[k]? = some o := by simpa using (hl 0).symm
    have hk : k < ops.size := (Array.getElem?_eq_some_iff.1 h0).1
    simp only [List.length_cons, Region.lexFrom, Bool.and_eq_true] at hB
    obtain ⟨⟨hr, hf⟩, hB'⟩ := hB
    have hr' : k ∈ Region.ready md ops listed := by simpa using hr
    have hl' : ∀ j, l[j]? = ops[k + 1 + j]? := fun j => by have := hl (j + 1); simpa [Nat.add_assoc, Nat.add_comm 1 j] using this
    have ih : ∀ (a : Act) (C : World → Prop), wpMix P ops C0 S Q (k + 1) l a C → wpAnyM P md ops C0 S Q l.length (listed.setIfInBounds k true) a C := fun a C h => anyM_lex hs hord hSb hC0 l (k + 1) (listed.setIfInBounds k true) a C (hcl.set hr') hl' hB' h
    unfold wpMix at h
    split at h
    · rename_i hw
      rcases h with ⟨hS, v, hv, hn⟩ | ⟨hS, V0, V, hne, hst, hn⟩
      · exact anyM_first h0 (Region.noSelect_spec hs) l.length listed a C (Region.free_spec h0 hf) hr' (.inl ⟨hw, hv⟩) (.inl hS) (ih _ _ hn)
      · refine anyM_step h0 hS (Region.noSelect_spec hs) ?_ hne hC0 l.length listed a C hcl (Region.free_spec h0 hf) hr' hw hst (fun v hv => ih _ _ (hn v hv))
        intro j hj hne
        unfold stepsB at hord
        have h1 := List.all_eq_true.1 hord k (List.mem_range.2 hk)
        simp only [hS, Bool.not_true, Bool.false_or] at h1
        have h2 := List.all_eq_true.1 h1 j (List.mem_range.2 (hSb j hj))
        simp only [hj, Bool.not_true, Bool.false_or, Bool.or_eq_true, beq_iff_eq] at h2
        rcases h2 with h2 | h2
        · exact absurd h2.symm hne
        · exact h2
    · rename_i hw
      have hw' : Region.wanted o (yielded ops a.tmps) = false := by simpa using hw
      exact anyM_first h0 (Region.noSelect_spec hs) l.length listed a C (Region.free_spec h0 hf) hr' (.inr ⟨hw', rfl⟩) (.inr hw') (ih _ _ h)

theorem getD_replicate_no (m j : Nat) : (Array.replicate m false).getD j false = false := by
  by_cases h : j < m <;> simp [Array.getD, h]
/-- The region, over whatever class of worlds. -/
theorem wp_region_mixC {id : Nat} {R : Exit → Act → World → Prop} {a : Act} {w : World} {l : List Oper} (C0 : World → Prop) (steps : List Nat) (hm : P.follows .mixedOrders = true) (hB : Region.lexB .any l.toArray = true)
    (hs : stepsB .any l.toArray (fun i => steps.contains i) = true) (hb : steps.all (· < l.length) = true) (h0 : C0 w.drew)
    (h : wpMix P l.toArray C0 (fun i => steps.contains i) (fun a' C => ∀ w', C w' → R .normal a' w') 0 l a C0) : (Code.region id l.toArray true).wp P R a w := by
  simp only [Region.lexB, Bool.and_eq_true] at hB
  refine wp_region_any hm (wpAny_of_mix (C0 := C0) (S := fun i => steps.contains i) (Q := fun a' C => ∀ w', C w' → R .normal a' w') (fun _ _ w' hw' h => h w' hw') _ _ _ C0 _ h0 h0 ?_)
  have := anyM_lex (C0 := C0) (md := .any) hB.1 hs (fun j hj => by
    have hj' : j ∈ steps := by simpa using hj
    have := List.all_eq_true.1 hb j hj'
    simpa using this) ⟨_, h0⟩ l 0 (Array.replicate l.length false) a C0 (fun j oj _ hl => by rw [getD_replicate_no] at hl; cases hl) (by simp) (by simpa using hB.2) h
  simpa using this
/-- The region. S lists the steps. -/
theorem wp_region_mix {id : Nat} {R : Exit → Act → World → Prop} {a : Act} {w : World} {l : List Oper} (steps : List Nat) (hm : P.follows .mixedOrders = true) (hB : Region.lexB .any l.toArray = true)
    (hs : stepsB .any l.toArray (fun i => steps.contains i) = true) (hb : steps.all (· < l.length) = true)
    (h : wpMix P l.toArray (Grows w) (fun i => steps.contains i) (fun a' C => ∀ w', C w' → R .normal a' w') 0 l a (Grows w)) : (Code.region id l.toArray true).wp P R a w := by
  simp only [Region.lexB, Bool.and_eq_true] at hB
  refine wp_region_any hm (wpAny_of_mix (C0 := Grows w) (S := fun i => steps.contains i) (Q := fun a' C => ∀ w', C w' → R .normal a' w') (fun _ _ w' hw' h => h w' hw') _ _ _ (Grows w) _ (Grows.refl w).drew (Grows.refl w).drew ?_)
  have := anyM_lex (C0 := Grows w) (md := .any) hB.1 hs (fun j hj => by
    have hj' : j ∈ steps := by simpa using hj
    have := List.all_eq_true.1 hb j hj'
    simpa using this) ⟨w, Grows.refl w⟩ l 0 (Array.replicate l.length false) a (Grows w) (fun j oj _ hl => by rw [getD_replicate_no] at hl; cases hl) (by simp) (by simpa using hB.2) h
  simpa using this

section
variable {S : Nat → Bool} {Q : Act → (World → Prop) → Prop} {k : Nat} {rest : List Oper} {a : Act} {C : World → Prop} {o : Oper}
theorem wpm_nil (h : Q a C) : wpMix P ops C0 S Q k [] a C := h
theorem wpm_fix (v : Value) (hw : Region.wanted o (yielded ops a.tmps) = true) (hS : S k = false) (hv : ∀ w, C0 w → fixAt P o a w v) (h : wpMix P ops C0 S Q (k + 1) rest (a.put o.dst v) C) : wpMix P ops C0 S Q k (o :: rest) a C := by
  unfold wpMix
  rw [if_pos hw]
  exact .inl ⟨hS, v, hv, h⟩
theorem wpm_skip (hw : Region.wanted o (yielded ops a.tmps) = false) (h : wpMix P ops C0 S Q (k + 1) rest (a.put o.dst undef) C) : wpMix P ops C0 S Q k (o :: rest) a C := by
  unfold wpMix
  rw [if_neg (by rw [hw]; exact Bool.false_ne_true)]
  exact h
theorem wpm_step (V0 : Value → Prop) (V : Value → World → Prop) (hw : Region.wanted o (yielded ops a.tmps) = true) (hS : S k = true) (hne : ∃ v, V0 v) (hv : ∀ w, C w → stepAt P o a w (fun v w' => V0 v ∧ C0 w' ∧ C w' ∧ V v w'))
    (h : ∀ v, V0 v → wpMix P ops C0 S Q (k + 1) rest (a.put o.dst v) (fun w => C w ∧ V v w)) : wpMix P ops C0 S Q k (o :: rest) a C := by
  unfold wpMix
  rw [if_pos hw]
  exact .inr ⟨hS, V0, V, hne, hv, h⟩
variable {dst : Option Tmp} {ty : TypeId} {pos : String} {after : Array Edge} {gd : Option (Nat × Bool)}
theorem wpm_move (x : Operand) (hw : Region.wanted { dst := dst, op := .move x, type := ty, pos := pos, after := after, guard := gd } (yielded ops a.tmps) = true) (hS : S k = false)
    (h : wpMix P ops C0 S Q (k + 1) rest (a.put dst (a.eval x)) C) : wpMix P ops C0 S Q k ({ dst := dst, op := .move x, type := ty, pos := pos, after := after, guard := gd } :: rest) a C :=
  wpm_fix _ hw hS (fun _ _ => ⟨rfl, rfl⟩) h
theorem wpm_assign (x : Operand) (hw : Region.wanted { dst := dst, op := .assign x, type := ty, pos := pos, after := after, guard := gd } (yielded ops a.tmps) = true) (hS : S k = false)
    (h : wpMix P ops C0 S Q (k + 1) rest (a.put dst (a.eval x)) C) : wpMix P ops C0 S Q k ({ dst := dst, op := .assign x, type := ty, pos := pos, after := after, guard := gd } :: rest) a C :=
  wpm_fix _ hw hS (fun _ _ => ⟨rfl, rfl⟩) h
/-- An operation whose run is known in every world of the class. -/
theorem wpm_run (v : Value) (hw : Region.wanted o (yielded ops a.tmps) = true) (hS : S k = false) (hv : ∀ w, C0 w → (execOp a.eval o).run P w = .ok (.value v) w) (h : wpMix P ops C0 S Q (k + 1) rest (a.put o.dst v) C) : wpMix P ops C0 S Q k (o :: rest) a C :=
  wpm_fix v hw hS (fun w hw' => by unfold fixAt; rw [hv w hw']; exact ⟨rfl, rfl⟩) h
theorem wpm_loadRow {t : TypeId} (x : Operand) (g : Nat) (e : TypeId) (cells : Array Value) (dd : TypeDesc) (hw : Region.wanted { dst := dst, op := .load t x, type := ty, pos := pos, after := after, guard := gd } (yielded ops a.tmps) = true) (hS : S k = false)
    (hx : a.eval x = .pointer (some ⟨g, 0, none⟩)) (hg : ∀ w, C0 w → Holds w g e cells)
    (hu : P.underlying t = some dd) (hd : (match dd with | .struct _ | .array _ _ => true | _ => false) = true) (hi : (P.info? t).map (·.size) = some cells.size)
    (h : wpMix P ops C0 S Q (k + 1) rest (a.put dst (.agg cells)) C) : wpMix P ops C0 S Q k ({ dst := dst, op := .load t x, type := ty, pos := pos, after := after, guard := gd } :: rest) a C := by
  refine wpm_fix _ hw hS (fun w hC => ?_) h
  unfold fixAt execOp
  simp only [hx, Instr.loadAt, Instr.sureAddr, Sem.run_bind, Sem.run_pure, Result.andThen_ok, run_loadVar_row w g e t cells (0, 0) dd (hg w hC) hu hd hi]
  exact ⟨rfl, rfl⟩
end
theorem wpm_loadFont {ops : Array Oper} {C0 : World → Prop} {S : Nat → Bool} {Q : Act → (World → Prop) → Prop} {k : Nat} {rest : List Oper} {a : Act} {C : World → Prop}
    {dst : Option Tmp} {ty : TypeId} {pos : String} {after : Array Edge} {gd : Option (Nat × Bool)}
    (x : Operand) (g : Nat) (F : Nat → Int) (hw : Region.wanted { dst := dst, op := .load 28 x, type := ty, pos := pos, after := after, guard := gd } (yielded ops a.tmps) = true) (hS : S k = false)
    (hx : a.eval x = .pointer (some ⟨g, 0, none⟩)) (hg : ∀ w, C0 w → Holds w g 28 (fcells F))
    (h : wpMix Tryd.prog ops C0 S Q (k + 1) rest (a.put dst (.agg (fcells F))) C) : wpMix Tryd.prog ops C0 S Q k ({ dst := dst, op := .load 28 x, type := ty, pos := pos, after := after, guard := gd } :: rest) a C :=
  wpm_loadRow x g _ _ _ hw hS hx hg Tryd.underlying28 rfl (by rw [fcells_size]; exact font_size) h
end

end Go.Proofs.YtgjfebnafjpcaaaDoor
