/-
  As Mix, with one kind of operation more: those that only let the world grow (a call that lays blocks of its own, an allocation). They may stand in whatever order among themselves. What is known of a value must stay known while the world grows.
-/
import Derived.Test.YtgjfebnafjpcaaaDoorMix
namespace Go.Proofs.YtgjfebnafjpcaaaDoor.Gr
open Go.RowKit

/-- What stays true while the world grows. -/
def Up (C : World → Prop) : Prop := ∀ w w', Below w.heap.size w w' → C w → C w'
theorem Up.and {C D : World → Prop} (h : Up C) (h' : Up D) : Up (fun w => C w ∧ D w) := fun w w' hb hc => ⟨h w w' hb hc.1, h' w w' hb hc.2⟩
theorem up_grows (W : World) : Up (Grows W) := fun _ _ hb h => Grows.trans h hb
theorem up_true : Up (fun _ => True) := fun _ _ _ _ => trivial

section
variable {P : Program} {ops : Array Oper} {md : Region.Mode} {C0 : World → Prop} {Sp : Nat → (Value → Prop) × (Value → World → Prop)}

/-- Operation number i comes up in state a, the world being of the class C. S: the steps; G: those that let the world grow; Sp: what the latter yield. -/
def mOp (P : Program) (ops : Array Oper) (C0 : World → Prop) (Sp : Nat → (Value → Prop) × (Value → World → Prop)) (S G : Nat → Bool) (i : Nat) (K : Act → (World → Prop) → Prop) (a : Act) (C : World → Prop) : Prop :=
  match ops[i]? with
  | none => K a C
  | some o =>
    if Region.wanted o (yielded ops a.tmps) then
      ((S i || G i) = false ∧ ∃ v, (∀ w, C0 w → fixAt P o a w v) ∧ K (a.put o.dst v) C) ∨
      (S i = true ∧ ∃ (V0 : Value → Prop) (V : Value → World → Prop), (∃ v, V0 v) ∧ (∀ v, Up (V v)) ∧ (∀ w, C w → stepAt P o a w (fun v w' => V0 v ∧ C0 w' ∧ C w' ∧ V v w')) ∧ ∀ v, V0 v → K (a.put o.dst v) (fun w => C w ∧ V v w)) ∨
      ((S i = false ∧ G i = true) ∧ (∃ v, (Sp i).1 v) ∧ (∀ w, C0 w → stepAt P o a w (fun v w' => (Sp i).1 v ∧ Below w.heap.size w w' ∧ (Sp i).2 v w')) ∧ ∀ v, (Sp i).1 v → K (a.put o.dst v) (fun w => C w ∧ (Sp i).2 v w))
    else K (a.put o.dst undef) C
theorem mOp_mono {S G : Nat → Bool} {i : Nat} {K K' : Act → (World → Prop) → Prop} {a : Act} {C : World → Prop} (h : ∀ a C, K a C → K' a C) (hh : mOp P ops C0 Sp S G i K a C) : mOp P ops C0 Sp S G i K' a C := by
  unfold mOp at *
  split
  · exact h _ _ (by simpa [*] using hh)
  · rename_i o ho
    simp only [ho] at hh
    split
    · rename_i hw
      simp only [hw, if_true] at hh
      rcases hh with ⟨hs, v, h1, h2⟩ | ⟨hs, V0, V, h0, hu, h1, h2⟩ | ⟨hs, h0, h1, h2⟩
      · exact .inl ⟨hs, v, h1, h _ _ h2⟩
      · exact .inr (.inl ⟨hs, V0, V, h0, hu, h1, fun v hv => h _ _ (h2 v hv)⟩)
      · exact .inr (.inr ⟨hs, h0, h1, fun v hv => h _ _ (h2 v hv)⟩)
    · rename_i hw
      simp only [hw] at hh
      exact h _ _ hh
/-- Whatever order is picked from here on. -/
def wpAnyM (P : Program) (md : Region.Mode) (ops : Array Oper) (C0 : World → Prop) (Sp : Nat → (Value → Prop) × (Value → World → Prop)) (S G : Nat → Bool) (Q : Act → (World → Prop) → Prop) : Nat → Array Bool → Act → (World → Prop) → Prop
  | 0, listed, a, C => Region.ready md ops listed = [] ∧ Q a C
  | fuel + 1, listed, a, C =>
    (Region.ready md ops listed = [] → Q a C) ∧
    ∀ i ∈ Region.ready md ops listed, mOp P ops C0 Sp S G i (wpAnyM P md ops C0 Sp S G Q fuel (listed.setIfInBounds i true)) a C

theorem stepAt_mono {P : Program} {o : Oper} {a : Act} {w : World} {R R' : Value → World → Prop} (h : stepAt P o a w R) (hr : ∀ v w', R v w' → R' v w') : stepAt P o a w R' := by
  unfold stepAt at *
  generalize (execOp a.eval o).run P w = r at *
  cases r with
  | ok n w' =>
    cases n <;> simp only [stepUpon] at h ⊢
    case value u => exact hr _ _ h
    case skip => exact hr _ _ h
    case enter f args => exact h.mono fun e w'' ⟨v, he, hh⟩ => ⟨v, he, hr _ _ hh⟩
  | halt x w' => simp only [stepUpon] at h

theorem wpAny_of_mix {S G : Nat → Bool} {Q : Act → (World → Prop) → Prop} {Q' : Exit → Act → World → Prop} (hQ : ∀ a C w, C w → Q a C → Q' .normal a w) (hU0 : Up C0) (hUG : ∀ i v, Up ((Sp i).2 v)) :
    ∀ (fuel : Nat) (listed : Array Bool) (a : Act) (C : World → Prop) (w : World), Up C → C w → C0 w → wpAnyM P md ops C0 Sp S G Q fuel listed a C → wpAny P md ops Q' fuel listed a w
  | 0, _, _, _, _, _, hw, _, h => ⟨h.1, hQ _ _ _ hw h.2⟩
  | fuel + 1, listed, a, C, w, hU, hw, hw0, h => by
    refine ⟨fun h0 => hQ _ _ _ hw (h.1 h0), fun i hi => ?_⟩
    have hm := h.2 i hi
    unfold mOp at hm
    unfold wpOp
    split
    · rename_i ho
      simp only [ho] at hm
      exact wpAny_of_mix hQ hU0 hUG fuel _ a C w hU hw hw0 hm
    · rename_i o ho
      simp only [ho] at hm
      split
      · rename_i hwt
        simp only [hwt, if_true] at hm
        refine .inl ?_
        rcases hm with ⟨_, v, h1, h2⟩ | ⟨_, V0, V, _, hu, h1, h2⟩ | ⟨_, _, h1, h2⟩
        · exact wp_of_fix (h1 w hw0) (wpAny_of_mix hQ hU0 hUG fuel _ _ C w hU hw hw0 h2)
        · exact wp_of_step (h1 w hw) fun v w' ⟨hv, c0, c, vv⟩ => wpAny_of_mix hQ hU0 hUG fuel _ _ _ w' (hU.and (hu v)) ⟨c, vv⟩ c0 (h2 v hv)
        · exact wp_of_step (h1 w hw0) fun v w' ⟨hv, hb, vv⟩ => wpAny_of_mix hQ hU0 hUG fuel _ _ _ w' (hU.and (hUG i v)) ⟨hU _ _ hb hw, vv⟩ (hU0 _ _ hb hw0) (h2 v hv)
      · rename_i hwt
        simp only [hwt] at hm
        exact wpAny_of_mix hQ hU0 hUG fuel _ _ C w hU hw hw0 hm

theorem fixMOp {S G : Nat → Bool} {i : Nat} {o : Oper} {v : Value} {a : Act} {C : World → Prop} (hi : ops[i]? = some o) (hS : (S i || G i) = false) (hy : FixIn P ops C0 o v a) {K : Act → (World → Prop) → Prop} (h : K (a.put o.dst v) C) : mOp P ops C0 Sp S G i K a C := by
  unfold mOp
  simp only [hi]
  rcases hy with ⟨hw, hv⟩ | ⟨hw, rfl⟩
  · simp only [hw, if_true]; exact .inl ⟨hS, v, hv, h⟩
  · simp only [hw, Bool.false_eq_true, if_false]; exact h
theorem fixSkip {S G : Nat → Bool} {i : Nat} {o : Oper} {a : Act} {C : World → Prop} (hi : ops[i]? = some o) (hw : Region.wanted o (yielded ops a.tmps) = false) {K : Act → (World → Prop) → Prop} (h : K (a.put o.dst undef) C) : mOp P ops C0 Sp S G i K a C := by
  unfold mOp
  simp only [hi, hw, Bool.false_eq_true, if_false]
  exact h

/-- Operation oj, apart from oi: whether oi's value is already in its temporary makes no difference to it. -/
theorem mOp_put {S G : Nat → Bool} {j : Nat} {oi oj : Oper} {v : Value} (hj : ops[j]? = some oj) (hap : oi.apart ops oj = true)
    (hsi : ∀ cs b, oi.op ≠ .select cs b) (hsj : ∀ cs b, oj.op ≠ .select cs b) {K : Act → (World → Prop) → Prop} {a : Act} {C : World → Prop}
    (hy : FixIn P ops C0 oi v a) (h : mOp P ops C0 Sp S G j K (a.put oi.dst v) C) :
    mOp P ops C0 Sp S G j (fun a' C' => FixIn P ops C0 oi v a' ∧ K (a'.put oi.dst v) C') a C := by
  obtain ⟨h1, h2, h3⟩ := Oper.apart_spec hap
  have keep : ∀ (a : Act), FixIn P ops C0 oi v a → ∀ u, FixIn P ops C0 oi v (a.put oj.dst u) := fun a hy u =>
    hy.of_same (execOp_put oi hsi a oj.dst u h3) (wanted_put oi a oj.dst u h3)
  unfold mOp at *
  simp only [hj] at *
  rw [wanted_put oj a oi.dst v h1] at h
  split
  · rename_i hw
    simp only [hw, if_true] at h
    rcases h with ⟨hs, u, hu, hn⟩ | ⟨hs, V0, V, h0, hup, hu, hn⟩ | ⟨hs, h0, hu, hn⟩
    · refine .inl ⟨hs, u, fun w hw' => ?_, keep a hy u, by rw [← Act.put_comm a v u h2]; exact hn⟩
      have := hu w hw'
      unfold fixAt at *
      rwa [execOp_put oj hsj a oi.dst v h1] at this
    · refine .inr (.inl ⟨hs, V0, V, h0, hup, fun w hw' => ?_, fun u hu' => ⟨keep a hy u, by rw [← Act.put_comm a v u h2]; exact hn u hu'⟩⟩)
      have := hu w hw'
      unfold stepAt at *
      rwa [execOp_put oj hsj a oi.dst v h1] at this
    · refine .inr (.inr ⟨hs, h0, fun w hw' => ?_, fun u hu' => ⟨keep a hy u, by rw [← Act.put_comm a v u h2]; exact hn u hu'⟩⟩)
      have := hu w hw'
      unfold stepAt at *
      rwa [execOp_put oj hsj a oi.dst v h1] at this
  · rename_i hw
    simp only [hw] at h
    exact ⟨keep a hy _, by rw [← Act.put_comm a v undef h2]; exact h⟩

/-- Such an operation may be taken first. -/
theorem anyM_first {S G : Nat → Bool} {Q : Act → (World → Prop) → Prop} {i : Nat} {oi : Oper} {v : Value} (hi : ops[i]? = some oi) (hsel : ∀ (j : Nat) (o : Oper) cs b, ops[j]? = some o → o.op ≠ .select cs b) :
    ∀ (fuel : Nat) (listed : Array Bool) (a : Act) (C : World → Prop),
      (∀ j oj, ops[j]? = some oj → j ≠ i → listed.getD j true = false → (∀ e ∈ oj.after, Region.binds md e = true → e.on ≠ i) → oi.apart ops oj = true) →
      i ∈ Region.ready md ops listed → FixIn P ops C0 oi v a → ((S i || G i) = false ∨ Region.wanted oi (yielded ops a.tmps) = false) →
      wpAnyM P md ops C0 Sp S G Q fuel (listed.setIfInBounds i true) (a.put oi.dst v) C → wpAnyM P md ops C0 Sp S G Q (fuel + 1) listed a C := by
  have now : ∀ (fuel : Nat) (listed : Array Bool) (a : Act) (C : World → Prop), FixIn P ops C0 oi v a → ((S i || G i) = false ∨ Region.wanted oi (yielded ops a.tmps) = false) →
      wpAnyM P md ops C0 Sp S G Q fuel (listed.setIfInBounds i true) (a.put oi.dst v) C → mOp P ops C0 Sp S G i (wpAnyM P md ops C0 Sp S G Q fuel (listed.setIfInBounds i true)) a C := by
    intro fuel listed a C hy hS H
    rcases hS with hS | hS
    · exact fixMOp hi hS hy H
    · rcases hy with ⟨hw, _⟩ | ⟨_, rfl⟩
      · rw [hS] at hw; cases hw
      · exact fixSkip hi hS H
  intro fuel
  induction fuel with
  | zero =>
    intro listed a C _ hr hy hS H
    refine ⟨fun h => (by rw [h] at hr; cases hr), fun j hj => ?_⟩
    by_cases hji : j = i
    · subst hji; exact now 0 listed a C hy hS H
    · have := ready_mono hj hji
      rw [H.1] at this
      cases this
  | succ fuel ih =>
    intro listed a C hfree hr hy hS H
    refine ⟨fun h => (by rw [h] at hr; cases hr), fun j hj => ?_⟩
    by_cases hji : j = i
    · subst hji; exact now _ listed a C hy hS H
    · have h1 := H.2 j (ready_mono hj hji)
      obtain ⟨hjun, oj, hoj, hall⟩ := mem_ready.1 hj
      have hnot : ∀ e ∈ oj.after, Region.binds md e = true → e.on ≠ i := fun e he hb heq => by
        have h1 := hall e he hb
        have h0 := (mem_ready.1 hr).1
        rw [heq] at h1
        rcases Nat.lt_or_ge i listed.size with h' | h'
        · simp [h'] at h0 h1; rw [h0] at h1; cases h1
        · simp [Array.getElem?_eq_none h'] at h1
      have hap := hfree j oj hoj hji hjun hnot
      have h2 := mOp_put hoj hap (fun cs b => hsel i oi cs b hi) (fun cs b => hsel j oj cs b hoj) hy h1
      have hfree' : ∀ k ok, ops[k]? = some ok → k ≠ i → (listed.setIfInBounds j true).getD k true = false →
          (∀ e ∈ ok.after, Region.binds md e = true → e.on ≠ i) → oi.apart ops ok = true := fun k ok hk hki hun hno => by
        refine hfree k ok hk hki ?_ hno
        by_cases hjk : j = k
        · subst hjk; exact hjun
        · rw [getD_set_ne true hjk] at hun; exact hun
      have h3' := (Oper.apart_spec hap).2.2
      have h4 : mOp P ops C0 Sp S G j (fun a' C' => (FixIn P ops C0 oi v a' ∧ wpAnyM P md ops C0 Sp S G Q fuel ((listed.setIfInBounds i true).setIfInBounds j true) (a'.put oi.dst v) C') ∧ ∃ u, a' = a.put oj.dst u) a C := by
        unfold mOp at h2 ⊢
        simp only [hoj] at h2 ⊢
        split
        · rename_i hw
          simp only [hw, if_true] at h2
          rcases h2 with ⟨hs, u, hu, hn⟩ | ⟨hs, V0, V, h0, hup, hu, hn⟩ | ⟨hs, h0, hu, hn⟩
          · exact .inl ⟨hs, u, hu, hn, u, rfl⟩
          · exact .inr (.inl ⟨hs, V0, V, h0, hup, hu, fun u hu' => ⟨hn u hu', u, rfl⟩⟩)
          · exact .inr (.inr ⟨hs, h0, hu, fun u hu' => ⟨hn u hu', u, rfl⟩⟩)
        · rename_i hw
          simp only [hw] at h2
          exact ⟨h2, undef, rfl⟩
      refine mOp_mono (fun a' C' h3 => ?_) h4
      obtain ⟨⟨h3, h5⟩, u, rfl⟩ := h3
      refine ih (listed.setIfInBounds j true) _ C' hfree' (ready_mono hr (Ne.symm hji)) h3 ?_ ?_
      · rcases hS with hS | hS
        · exact .inl hS
        · exact .inr (by rw [wanted_put oi a oj.dst u h3']; exact hS)
      · rw [Array.setIfInBounds_comm _ _ hji]
        exact h5

/-- A step, or one that lets the world grow, may be taken first: what lies open beside it either leaves the world alone, or only lets it grow, too. -/
theorem anyM_step {S G : Nat → Bool} {Q : Act → (World → Prop) → Prop} {i : Nat} {oi : Oper} {V0 : Value → Prop} {V : Value → World → Prop} (hi : ops[i]? = some oi) (hS : S i = true) (hUV : ∀ v, Up (V v)) (hsel : ∀ (j : Nat) (o : Oper) cs b, ops[j]? = some o → o.op ≠ .select cs b)
    (hord : ∀ j, (S j || G j) = true → j ≠ i → reachB md ops ops.size i j = true ∨ reachB md ops ops.size j i = true) (hne : ∃ v, V0 v) (hC0 : ∃ w, C0 w) :
    ∀ (fuel : Nat) (listed : Array Bool) (a : Act) (C : World → Prop), Closed md ops listed →
      (∀ j oj, ops[j]? = some oj → j ≠ i → listed.getD j true = false → (∀ e ∈ oj.after, Region.binds md e = true → e.on ≠ i) → oi.apart ops oj = true) →
      i ∈ Region.ready md ops listed → Region.wanted oi (yielded ops a.tmps) = true → (∀ w, C w → stepAt P oi a w (fun v w' => V0 v ∧ C0 w' ∧ C w' ∧ V v w')) →
      (∀ v, V0 v → wpAnyM P md ops C0 Sp S G Q fuel (listed.setIfInBounds i true) (a.put oi.dst v) (fun w => C w ∧ V v w)) → wpAnyM P md ops C0 Sp S G Q (fuel + 1) listed a C := by
  obtain ⟨v0, hv0⟩ := hne
  obtain ⟨wz, hwz⟩ := hC0
  have now : ∀ (fuel : Nat) (listed : Array Bool) (a : Act) (C : World → Prop), Region.wanted oi (yielded ops a.tmps) = true → (∀ w, C w → stepAt P oi a w (fun v w' => V0 v ∧ C0 w' ∧ C w' ∧ V v w')) →
      (∀ v, V0 v → wpAnyM P md ops C0 Sp S G Q fuel (listed.setIfInBounds i true) (a.put oi.dst v) (fun w => C w ∧ V v w)) → mOp P ops C0 Sp S G i (wpAnyM P md ops C0 Sp S G Q fuel (listed.setIfInBounds i true)) a C := by
    intro fuel listed a C hw hst H
    unfold mOp
    simp only [hi, hw, if_true]
    exact .inr (.inl ⟨hS, V0, V, ⟨v0, hv0⟩, hUV, hst, H⟩)
  intro fuel
  induction fuel with
  | zero =>
    intro listed a C _ _ hr hw hst H
    refine ⟨fun h => (by rw [h] at hr; cases hr), fun j hj => ?_⟩
    by_cases hji : j = i
    · subst hji; exact now 0 listed a C hw hst H
    · have := ready_mono hj hji
      rw [(H v0 hv0).1] at this
      cases this
  | succ fuel ih =>
    intro listed a C hcl hfree hr hw hst H
    refine ⟨fun h => (by rw [h] at hr; cases hr), fun j hj => ?_⟩
    by_cases hji : j = i
    · subst hji; exact now _ listed a C hw hst H
    · obtain ⟨hjun, oj, hoj, hall⟩ := mem_ready.1 hj
      have hiun : listed.getD i false = false := by
        have h0 := (mem_ready.1 hr).1
        rcases Nat.lt_or_ge i listed.size with h' | h'
        · simp [h'] at h0 ⊢; exact h0
        · simp [Array.getElem?_eq_none h'] at h0 ⊢
      have hjun' : listed.getD j false = false := by
        rcases Nat.lt_or_ge j listed.size with h' | h'
        · simp [h'] at hjun ⊢; exact hjun
        · simp [Array.getElem?_eq_none h'] at hjun ⊢
      have hnS : (S j || G j) = false := by
        cases hsj : (S j || G j) with
        | false => rfl
        | true =>
          exfalso
          rcases hord j hsj hji with h | h
          · have := reach_listed hcl _ _ _ h (fun ok hk e he hb => by obtain rfl : ok = oj := Option.some.inj (hk.symm.trans hoj); exact hall e he hb)
            rw [hiun] at this
            cases this
          · obtain ⟨_, oi', hoi', halli⟩ := mem_ready.1 hr
            have := reach_listed hcl _ _ _ h (fun ok hk e he hb => by obtain rfl : ok = oi' := Option.some.inj (hk.symm.trans hoi'); exact halli e he hb)
            rw [hjun'] at this
            cases this
      have hnot : ∀ e ∈ oj.after, Region.binds md e = true → e.on ≠ i := fun e he hb heq => by
        have h1 := hall e he hb
        rw [heq, hiun] at h1
        cases h1
      obtain ⟨p1, p2, p3⟩ := Oper.apart_spec (hfree j oj hoj hji hjun hnot)
      have hfree' : ∀ k ok, ops[k]? = some ok → k ≠ i → (listed.setIfInBounds j true).getD k true = false →
          (∀ e ∈ ok.after, Region.binds md e = true → e.on ≠ i) → oi.apart ops ok = true := fun k ok hk hki hun hno => by
        refine hfree k ok hk hki ?_ hno
        by_cases hjk : j = k
        · subst hjk; exact hjun
        · rw [getD_set_ne true hjk] at hun; exact hun
      have hsi : ∀ cs b, oi.op ≠ .select cs b := fun cs b => hsel i oi cs b hi
      have hsj : ∀ cs b, oj.op ≠ .select cs b := fun cs b => hsel j oj cs b hoj
      have each : ∀ v, V0 v → (Region.wanted oj (yielded ops a.tmps) = true → ∃ u, (∀ w, C0 w → fixAt P oj a w u) ∧ wpAnyM P md ops C0 Sp S G Q fuel ((listed.setIfInBounds i true).setIfInBounds j true) ((a.put oi.dst v).put oj.dst u) (fun w => C w ∧ V v w)) ∧
          (Region.wanted oj (yielded ops a.tmps) = false → wpAnyM P md ops C0 Sp S G Q fuel ((listed.setIfInBounds i true).setIfInBounds j true) ((a.put oi.dst v).put oj.dst undef) (fun w => C w ∧ V v w)) := by
        intro v hv
        have h1 := (H v hv).2 j (ready_mono hj hji)
        unfold mOp at h1
        simp only [hoj] at h1
        rw [wanted_put oj a oi.dst v p1] at h1
        have hnS' : S j = false ∧ G j = false := by simpa using hnS
        refine ⟨fun hwj => ?_, fun hwj => ?_⟩
        · simp only [hwj, if_true] at h1
          rcases h1 with ⟨_, u, hu, hn⟩ | ⟨hs, _⟩ | ⟨hs, _⟩
          · refine ⟨u, fun w hw' => ?_, hn⟩
            have := hu w hw'
            unfold fixAt at *
            rwa [execOp_put oj hsj a oi.dst v p1] at this
          · rw [hnS'.1] at hs; cases hs
          · rw [hnS'.2] at hs; cases hs.2
        · simp only [hwj, Bool.false_eq_true, if_false] at h1
          exact h1
      have go : ∀ u, (∀ v, V0 v → wpAnyM P md ops C0 Sp S G Q fuel ((listed.setIfInBounds i true).setIfInBounds j true) ((a.put oi.dst v).put oj.dst u) (fun w => C w ∧ V v w)) → wpAnyM P md ops C0 Sp S G Q (fuel + 1) (listed.setIfInBounds j true) (a.put oj.dst u) C := by
        intro u hu
        refine ih (listed.setIfInBounds j true) _ C (hcl.set hj) hfree' (ready_mono hr (Ne.symm hji)) (by rw [wanted_put oi a oj.dst u p3]; exact hw) (fun w hw' => ?_) (fun v hv => ?_)
        · have := hst w hw'
          unfold stepAt at *
          rwa [execOp_put oi hsi a oj.dst u p3]
        · rw [Array.setIfInBounds_comm _ _ hji, ← Act.put_comm a v u p2]
          exact hu v hv
      unfold mOp
      simp only [hoj]
      split
      · rename_i hwj
        obtain ⟨u, hu, _⟩ := (each v0 hv0).1 hwj
        refine .inl ⟨hnS, u, hu, go u fun v hv => ?_⟩
        obtain ⟨u', hu', hn⟩ := (each v hv).1 hwj
        obtain rfl : u = u' := fix_one (hu wz hwz) (hu' wz hwz)
        exact hn
      · rename_i hwj
        exact go undef fun v hv => (each v hv).2 (by simpa using hwj)

theorem class_swap {C D E : World → Prop} : (fun w => (C w ∧ D w) ∧ E w) = (fun w => (C w ∧ E w) ∧ D w) := by
  funext w
  exact propext ⟨fun ⟨⟨a, b⟩, c⟩ => ⟨⟨a, c⟩, b⟩, fun ⟨⟨a, b⟩, c⟩ => ⟨⟨a, c⟩, b⟩⟩

theorem anyM_grow {S G : Nat → Bool} {Q : Act → (World → Prop) → Prop} {i : Nat} {oi : Oper} (hi : ops[i]? = some oi) (hS : S i = false ∧ G i = true) (hsel : ∀ (j : Nat) (o : Oper) cs b, ops[j]? = some o → o.op ≠ .select cs b)
    (hord : ∀ j, S j = true → j ≠ i → reachB md ops ops.size i j = true ∨ reachB md ops ops.size j i = true) (hne : ∃ v, (Sp i).1 v) (hC0 : ∃ w, C0 w) :
    ∀ (fuel : Nat) (listed : Array Bool) (a : Act) (C : World → Prop), Closed md ops listed →
      (∀ j oj, ops[j]? = some oj → j ≠ i → listed.getD j true = false → (∀ e ∈ oj.after, Region.binds md e = true → e.on ≠ i) → oi.apart ops oj = true) →
      i ∈ Region.ready md ops listed → Region.wanted oi (yielded ops a.tmps) = true → (∀ w, C0 w → stepAt P oi a w (fun v w' => (Sp i).1 v ∧ Below w.heap.size w w' ∧ (Sp i).2 v w')) →
      (∀ v, (Sp i).1 v → wpAnyM P md ops C0 Sp S G Q fuel (listed.setIfInBounds i true) (a.put oi.dst v) (fun w => C w ∧ (Sp i).2 v w)) → wpAnyM P md ops C0 Sp S G Q (fuel + 1) listed a C := by
  obtain ⟨v0, hv0⟩ := hne
  obtain ⟨wz, hwz⟩ := hC0
  have now : ∀ (fuel : Nat) (listed : Array Bool) (a : Act) (C : World → Prop), Region.wanted oi (yielded ops a.tmps) = true → (∀ w, C0 w → stepAt P oi a w (fun v w' => (Sp i).1 v ∧ Below w.heap.size w w' ∧ (Sp i).2 v w')) →
      (∀ v, (Sp i).1 v → wpAnyM P md ops C0 Sp S G Q fuel (listed.setIfInBounds i true) (a.put oi.dst v) (fun w => C w ∧ (Sp i).2 v w)) → mOp P ops C0 Sp S G i (wpAnyM P md ops C0 Sp S G Q fuel (listed.setIfInBounds i true)) a C := by
    intro fuel listed a C hw hst H
    unfold mOp
    simp only [hi, hw, if_true]
    exact .inr (.inr ⟨hS, ⟨v0, hv0⟩, hst, H⟩)
  intro fuel
  induction fuel with
  | zero =>
    intro listed a C _ _ hr hw hst H
    refine ⟨fun h => (by rw [h] at hr; cases hr), fun j hj => ?_⟩
    by_cases hji : j = i
    · subst hji; exact now 0 listed a C hw hst H
    · have := ready_mono hj hji
      rw [(H v0 hv0).1] at this
      cases this
  | succ fuel ih =>
    intro listed a C hcl hfree hr hw hst H
    refine ⟨fun h => (by rw [h] at hr; cases hr), fun j hj => ?_⟩
    by_cases hji : j = i
    · subst hji; exact now _ listed a C hw hst H
    · obtain ⟨hjun, oj, hoj, hall⟩ := mem_ready.1 hj
      have hiun : listed.getD i false = false := by
        have h0 := (mem_ready.1 hr).1
        rcases Nat.lt_or_ge i listed.size with h' | h'
        · simp [h'] at h0 ⊢; exact h0
        · simp [Array.getElem?_eq_none h'] at h0 ⊢
      have hjun' : listed.getD j false = false := by
        rcases Nat.lt_or_ge j listed.size with h' | h'
        · simp [h'] at hjun ⊢; exact hjun
        · simp [Array.getElem?_eq_none h'] at hjun ⊢
      have hnS : S j = false := by
        cases hsj : S j with
        | false => rfl
        | true =>
          exfalso
          rcases hord j hsj hji with h | h
          · have := reach_listed hcl _ _ _ h (fun ok hk e he hb => by obtain rfl : ok = oj := Option.some.inj (hk.symm.trans hoj); exact hall e he hb)
            rw [hiun] at this
            cases this
          · obtain ⟨_, oi', hoi', halli⟩ := mem_ready.1 hr
            have := reach_listed hcl _ _ _ h (fun ok hk e he hb => by obtain rfl : ok = oi' := Option.some.inj (hk.symm.trans hoi'); exact halli e he hb)
            rw [hjun'] at this
            cases this
      have hnot : ∀ e ∈ oj.after, Region.binds md e = true → e.on ≠ i := fun e he hb heq => by
        have h1 := hall e he hb
        rw [heq, hiun] at h1
        cases h1
      obtain ⟨p1, p2, p3⟩ := Oper.apart_spec (hfree j oj hoj hji hjun hnot)
      have hfree' : ∀ k ok, ops[k]? = some ok → k ≠ i → (listed.setIfInBounds j true).getD k true = false →
          (∀ e ∈ ok.after, Region.binds md e = true → e.on ≠ i) → oi.apart ops ok = true := fun k ok hk hki hun hno => by
        refine hfree k ok hk hki ?_ hno
        by_cases hjk : j = k
        · subst hjk; exact hjun
        · rw [getD_set_ne true hjk] at hun; exact hun
      have hsi : ∀ cs b, oi.op ≠ .select cs b := fun cs b => hsel i oi cs b hi
      have hsj : ∀ cs b, oj.op ≠ .select cs b := fun cs b => hsel j oj cs b hoj
      -- behind j, whatever it has yielded, i may be taken first
      have go : ∀ u (D : World → Prop), (∀ v, (Sp i).1 v → wpAnyM P md ops C0 Sp S G Q fuel ((listed.setIfInBounds i true).setIfInBounds j true) ((a.put oi.dst v).put oj.dst u) (fun w => D w ∧ (Sp i).2 v w)) → wpAnyM P md ops C0 Sp S G Q (fuel + 1) (listed.setIfInBounds j true) (a.put oj.dst u) D := by
        intro u D hu
        refine ih (listed.setIfInBounds j true) _ D (hcl.set hj) hfree' (ready_mono hr (Ne.symm hji)) (by rw [wanted_put oi a oj.dst u p3]; exact hw) (fun w hw' => ?_) (fun v hv => ?_)
        · have := hst w hw'
          unfold stepAt at *
          rwa [execOp_put oi hsi a oj.dst u p3]
        · rw [Array.setIfInBounds_comm _ _ hji, ← Act.put_comm a v u p2]
          exact hu v hv
      cases hwj : Region.wanted oj (yielded ops a.tmps) with
      | false =>
        refine fixSkip hoj hwj (go undef C fun v hv => ?_)
        have h1 := (H v hv).2 j (ready_mono hj hji)
        unfold mOp at h1
        simp only [hoj] at h1
        rw [wanted_put oj a oi.dst v p1] at h1
        simp only [hwj, Bool.false_eq_true, if_false] at h1
        exact h1
      | true =>
        cases hG : G j with
        | true =>
          have each : ∀ v, (Sp i).1 v → (∃ u, (Sp j).1 u) ∧ (∀ w, C0 w → stepAt P oj a w (fun v w' => (Sp j).1 v ∧ Below w.heap.size w w' ∧ (Sp j).2 v w')) ∧ ∀ u, (Sp j).1 u → wpAnyM P md ops C0 Sp S G Q fuel ((listed.setIfInBounds i true).setIfInBounds j true) ((a.put oi.dst v).put oj.dst u) (fun w => (C w ∧ (Sp i).2 v w) ∧ (Sp j).2 u w) := by
            intro v hv
            have h1 := (H v hv).2 j (ready_mono hj hji)
            unfold mOp at h1
            simp only [hoj] at h1
            rw [wanted_put oj a oi.dst v p1] at h1
            simp only [hwj, if_true] at h1
            rcases h1 with ⟨hs, _⟩ | ⟨hs, _⟩ | ⟨_, h0, hu, hn⟩
            · rw [hG] at hs; simp at hs
            · rw [hnS] at hs; cases hs
            · refine ⟨h0, fun w hw' => ?_, hn⟩
              have := hu w hw'
              unfold stepAt at *
              rwa [execOp_put oj hsj a oi.dst v p1] at this
          unfold mOp
          simp only [hoj, hwj, if_true]
          refine .inr (.inr ⟨⟨hnS, hG⟩, (each v0 hv0).1, (each v0 hv0).2.1, fun u hu => go u _ fun v hv => ?_⟩)
          have := (each v hv).2.2 u hu
          rwa [class_swap] at this
        | false =>
          have each : ∀ v, (Sp i).1 v → ∃ u, (∀ w, C0 w → fixAt P oj a w u) ∧ wpAnyM P md ops C0 Sp S G Q fuel ((listed.setIfInBounds i true).setIfInBounds j true) ((a.put oi.dst v).put oj.dst u) (fun w => C w ∧ (Sp i).2 v w) := by
            intro v hv
            have h1 := (H v hv).2 j (ready_mono hj hji)
            unfold mOp at h1
            simp only [hoj] at h1
            rw [wanted_put oj a oi.dst v p1] at h1
            simp only [hwj, if_true] at h1
            rcases h1 with ⟨_, u, hu, hn⟩ | ⟨hs, _⟩ | ⟨hs, _⟩
            · refine ⟨u, fun w hw' => ?_, hn⟩
              have := hu w hw'
              unfold fixAt at *
              rwa [execOp_put oj hsj a oi.dst v p1] at this
            · rw [hnS] at hs; cases hs
            · rw [hG] at hs; cases hs.2
          obtain ⟨u, hu, _⟩ := each v0 hv0
          refine fixMOp hoj (by rw [hnS, hG]; rfl) (.inl ⟨hwj, hu⟩) (go u C fun v hv => ?_)
          obtain ⟨u', hu', hn⟩ := each v hv
          obtain rfl : u = u' := fix_one (hu wz hwz) (hu' wz hwz)
          exact hn

/-- The walk in the order of the text; k: the number of the next operation. -/
def wpMix (P : Program) (ops : Array Oper) (C0 : World → Prop) (Sp : Nat → (Value → Prop) × (Value → World → Prop)) (S G : Nat → Bool) (Q : Act → (World → Prop) → Prop) : Nat → List Oper → Act → (World → Prop) → Prop
  | _, [], a, C => Q a C
  | k, o :: rest, a, C =>
    if Region.wanted o (yielded ops a.tmps) then
      ((S k || G k) = false ∧ ∃ v, (∀ w, C0 w → fixAt P o a w v) ∧ wpMix P ops C0 Sp S G Q (k + 1) rest (a.put o.dst v) C) ∨
      (S k = true ∧ ∃ (V0 : Value → Prop) (V : Value → World → Prop), (∃ v, V0 v) ∧ (∀ v, Up (V v)) ∧ (∀ w, C w → stepAt P o a w (fun v w' => V0 v ∧ C0 w' ∧ C w' ∧ V v w')) ∧ ∀ v, V0 v → wpMix P ops C0 Sp S G Q (k + 1) rest (a.put o.dst v) (fun w => C w ∧ V v w)) ∨
      ((S k = false ∧ G k = true) ∧ (∃ v, (Sp k).1 v) ∧ (∀ w, C0 w → stepAt P o a w (fun v w' => (Sp k).1 v ∧ Below w.heap.size w w' ∧ (Sp k).2 v w')) ∧ ∀ v, (Sp k).1 v → wpMix P ops C0 Sp S G Q (k + 1) rest (a.put o.dst v) (fun w => C w ∧ (Sp k).2 v w))
    else wpMix P ops C0 Sp S G Q (k + 1) rest (a.put o.dst undef) C

/-- Each step stands in one order with every step, and with every operation that lets the world grow. -/
def stepsB (md : Region.Mode) (ops : Array Oper) (S G : Nat → Bool) : Bool :=
  (List.range ops.size).all fun i => !S i || (List.range ops.size).all fun j => !(S j || G j) || i == j || (reachB md ops ops.size i j || reachB md ops ops.size j i)
theorem stepsB_spec {S G : Nat → Bool} (h : stepsB md ops S G = true) {i j : Nat} (hi : i < ops.size) (hj : j < ops.size) (hS : S i = true) (hG : (S j || G j) = true) (hne : j ≠ i) : reachB md ops ops.size i j = true ∨ reachB md ops ops.size j i = true := by
  unfold stepsB at h
  have h1 := List.all_eq_true.1 h i (List.mem_range.2 hi)
  simp only [hS, Bool.not_true, Bool.false_or] at h1
  have h2 := List.all_eq_true.1 h1 j (List.mem_range.2 hj)
  simp only [hG, Bool.not_true, Bool.false_or, Bool.or_eq_true, beq_iff_eq] at h2
  rcases h2 with h2 | h2
  · exact absurd h2.symm hne
  · exact h2

theorem anyM_lex {S G : Nat → Bool} {Q : Act → (World → Prop) → Prop} (hs : Region.noSelect ops = true) (hord : stepsB md ops S G = true) (hSb : ∀ j, (S j || G j) = true → j < ops.size) (hC0 : ∃ w, C0 w) :
    ∀ (l : List Oper) (k : Nat) (listed : Array Bool) (a : Act) (C : World → Prop), Closed md ops listed → (∀ j, l[j]? = ops[k + j]?) →
    Region.lexFrom md ops l.length k listed = true → wpMix P ops C0 Sp S G Q k l a C → wpAnyM P md ops C0 Sp S G Q l.length listed a C
  | [], _, _, _, _, _, _, hB, h => ⟨by simpa [Region.lexFrom] using hB, h⟩
  | o :: l, k, listed, a, C, hcl, hl, hB, h => by
    have h0 : ops[k]? = some o := by simpa using (hl 0).symm
    have hk : k < ops.size := (Array.getElem?_eq_some_iff.1 h0).1
    simp only [List.length_cons, Region.lexFrom, Bool.and_eq_true] at hB
    obtain ⟨⟨hr, hf⟩, hB'⟩ := hB
    have hr' : k ∈ Region.ready md ops listed := by simpa using hr
    have hl' : ∀ j, l[j]? = ops[k + 1 + j]? := fun j => by have := hl (j + 1); simpa [Nat.add_assoc, Nat.add_comm 1 j] using this
    have ih : ∀ (a : Act) (C : World → Prop), wpMix P ops C0 Sp S G Q (k + 1) l a C → wpAnyM P md ops C0 Sp S G Q l.length (listed.setIfInBounds k true) a C := fun a C h => anyM_lex hs hord hSb hC0 l (k + 1) (listed.setIfInBounds k true) a C (hcl.set hr') hl' hB' h
    unfold wpMix at h
    split at h
    · rename_i hw
      rcases h with ⟨hS, v, hv, hn⟩ | ⟨hS, V0, V, hne, hu, hst, hn⟩ | ⟨hS, hne, hst, hn⟩
      · exact anyM_first h0 (Region.noSelect_spec hs) l.length listed a C (Region.free_spec h0 hf) hr' (.inl ⟨hw, hv⟩) (.inl hS) (ih _ _ hn)
      · exact anyM_step h0 hS hu (Region.noSelect_spec hs) (fun j hj hne => stepsB_spec hord hk (hSb j hj) hS hj hne) hne hC0 l.length listed a C hcl (Region.free_spec h0 hf) hr' hw hst (fun v hv => ih _ _ (hn v hv))
      · exact anyM_grow h0 hS (Region.noSelect_spec hs) (fun j hj hne => (stepsB_spec hord (hSb j (by rw [hj]; rfl)) hk hj (by rw [hS.2]; simp) (Ne.symm hne)).symm) hne hC0 l.length listed a C hcl (Region.free_spec h0 hf) hr' hw hst (fun v hv => ih _ _ (hn v hv))
    · rename_i hw
      have hw' : Region.wanted o (yielded ops a.tmps) = false := by simpa using hw
      exact anyM_first h0 (Region.noSelect_spec hs) l.length listed a C (Region.free_spec h0 hf) hr' (.inr ⟨hw', rfl⟩) (.inr hw') (ih _ _ h)

/-- The region. steps: in one forced order with all others; grows: these only let the world grow. -/
theorem wp_region {id : Nat} {R : Exit → Act → World → Prop} {a : Act} {w : World} {l : List Oper} (C0 : World → Prop) (Sp : Nat → (Value → Prop) × (Value → World → Prop)) (steps grows : List Nat) (hm : P.follows .mixedOrders = true) (hB : Region.lexB .any l.toArray = true)
    (hs : stepsB .any l.toArray (fun i => steps.contains i) (fun i => grows.contains i) = true) (hb : (steps ++ grows).all (· < l.length) = true) (hU0 : Up C0) (hUG : ∀ i v, Up ((Sp i).2 v)) (h0 : C0 w.drew)
    (h : wpMix P l.toArray C0 Sp (fun i => steps.contains i) (fun i => grows.contains i) (fun a' C => ∀ w', C w' → R .normal a' w') 0 l a C0) : (Code.region id l.toArray true).wp P R a w := by
  simp only [Region.lexB, Bool.and_eq_true] at hB
  refine wp_region_any hm (wpAny_of_mix (C0 := C0) (Sp := Sp) (S := fun i => steps.contains i) (G := fun i => grows.contains i) (Q := fun a' C => ∀ w', C w' → R .normal a' w') (fun _ _ w' hw' h => h w' hw') hU0 hUG _ _ _ C0 _ hU0 h0 h0 ?_)
  have := anyM_lex (C0 := C0) (Sp := Sp) (md := .any) hB.1 hs (fun j hj => by
    have hj' : j ∈ steps ++ grows := by simpa using hj
    have := List.all_eq_true.1 hb j hj'
    simpa using this) ⟨_, h0⟩ l 0 (Array.replicate l.length false) a C0 (fun j oj _ hl => by rw [getD_replicate_no] at hl; cases hl) (by simp) (by simpa using hB.2) h
  simpa using this

section
variable {S G : Nat → Bool} {Q : Act → (World → Prop) → Prop} {k : Nat} {rest : List Oper} {a : Act} {C : World → Prop} {o : Oper}
theorem nil (h : Q a C) : wpMix P ops C0 Sp S G Q k [] a C := h
theorem fix (v : Value) (hw : Region.wanted o (yielded ops a.tmps) = true) (hS : (S k || G k) = false) (hv : ∀ w, C0 w → fixAt P o a w v) (h : wpMix P ops C0 Sp S G Q (k + 1) rest (a.put o.dst v) C) : wpMix P ops C0 Sp S G Q k (o :: rest) a C := by
  unfold wpMix
  rw [if_pos hw]
  exact .inl ⟨hS, v, hv, h⟩
theorem step (V0 : Value → Prop) (V : Value → World → Prop) (hw : Region.wanted o (yielded ops a.tmps) = true) (hS : S k = true) (hne : ∃ v, V0 v) (hu : ∀ v, Up (V v)) (hv : ∀ w, C w → stepAt P o a w (fun v w' => V0 v ∧ C0 w' ∧ C w' ∧ V v w'))
    (h : ∀ v, V0 v → wpMix P ops C0 Sp S G Q (k + 1) rest (a.put o.dst v) (fun w => C w ∧ V v w)) : wpMix P ops C0 Sp S G Q k (o :: rest) a C := by
  unfold wpMix
  rw [if_pos hw]
  exact .inr (.inl ⟨hS, V0, V, hne, hu, hv, h⟩)
theorem grow (V0 : Value → Prop) (V : Value → World → Prop) (hSp : Sp k = (V0, V)) (hw : Region.wanted o (yielded ops a.tmps) = true) (hS : S k = false) (hG : G k = true) (hne : ∃ v, V0 v) (hv : ∀ w, C0 w → stepAt P o a w (fun v w' => V0 v ∧ Below w.heap.size w w' ∧ V v w'))
    (h : ∀ v, V0 v → wpMix P ops C0 Sp S G Q (k + 1) rest (a.put o.dst v) (fun w => C w ∧ V v w)) : wpMix P ops C0 Sp S G Q k (o :: rest) a C := by
  unfold wpMix
  rw [if_pos hw, hSp]
  exact .inr (.inr ⟨⟨hS, hG⟩, hne, hv, h⟩)
variable {dst : Option Tmp} {ty : TypeId} {pos : String} {after : Array Edge} {gd : Option (Nat × Bool)}
theorem move (x : Operand) (hw : Region.wanted { dst := dst, op := .move x, type := ty, pos := pos, after := after, guard := gd } (yielded ops a.tmps) = true) (hS : (S k || G k) = false)
    (h : wpMix P ops C0 Sp S G Q (k + 1) rest (a.put dst (a.eval x)) C) : wpMix P ops C0 Sp S G Q k ({ dst := dst, op := .move x, type := ty, pos := pos, after := after, guard := gd } :: rest) a C :=
  fix _ hw hS (fun _ _ => ⟨rfl, rfl⟩) h
theorem assign (x : Operand) (hw : Region.wanted { dst := dst, op := .assign x, type := ty, pos := pos, after := after, guard := gd } (yielded ops a.tmps) = true) (hS : (S k || G k) = false)
    (h : wpMix P ops C0 Sp S G Q (k + 1) rest (a.put dst (a.eval x)) C) : wpMix P ops C0 Sp S G Q k ({ dst := dst, op := .assign x, type := ty, pos := pos, after := after, guard := gd } :: rest) a C :=
  fix _ hw hS (fun _ _ => ⟨rfl, rfl⟩) h
/-- An operation whose run is known in every world of the class. -/
theorem run (v : Value) (hw : Region.wanted o (yielded ops a.tmps) = true) (hS : (S k || G k) = false) (hv : ∀ w, C0 w → (execOp a.eval o).run P w = .ok (.value v) w) (h : wpMix P ops C0 Sp S G Q (k + 1) rest (a.put o.dst v) C) : wpMix P ops C0 Sp S G Q k (o :: rest) a C :=
  fix v hw hS (fun w hw' => by unfold fixAt; rw [hv w hw']; exact ⟨rfl, rfl⟩) h
end
end

end Go.Proofs.YtgjfebnafjpcaaaDoor.Gr
