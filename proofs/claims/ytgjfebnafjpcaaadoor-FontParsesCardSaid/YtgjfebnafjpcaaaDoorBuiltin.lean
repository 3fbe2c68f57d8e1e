/-
  The contract of Builtin: the two fonts that are built in; of another name the zero font.
-/
import Derived.Test.YtgjfebnafjpcaaaDoorMakeWide
import Derived.Laws.EntriesVeiled
namespace Go.Proofs.YtgjfebnafjpcaaaDoor
open Go.RowKit

set_option maxHeartbeats 1000000 in
theorem builtin_any (name : ByteArray) (w : World) :
    Calls Tryd.prog 9 #[.string name] w fun e w' =>
      e = .returned (.tuple #[.agg (fcells (builtin name.data.toList).cell), .bool (isBuiltin name.data.toList)]) ∧ Below w.heap.size w w' := by
  rw [← ByteArray.toList_eq]
  by_cases h1 : name.toList = tinyName
  · have e1 : builtin name.toList = tiny := by unfold builtin; rw [if_pos h1]
    have e2 : isBuiltin name.toList = true := by unfold isBuiltin; simp [h1]
    rw [e1, e2]
    have g1 : (name.toList == [116, 105, 110, 121]) = true := by rw [h1]; rfl
    clear h1 e1 e2
    go_enter Tryd.func9, Tryd.ntmps9
    go_wp2_with (first | (with_reducible apply arm_alloc) | (go_at_call 21; refine (build_tiny _).mono ?_; rintro e w1 ⟨rfl, hb⟩; have hq := (Holds.new w 28 (fcells fun _ => 0)).below hb (by simp)) | ((with_reducible apply arm_storeAt) <;> try (first | exact rfl | exact hq)))
    refine bodyPost_ret (results_row_tmp rfl _ _ w.heap.size _ _ _ rfl (hq.row (fcells tiny.cell)) Tryd.underlying28 rfl (by rw [fcells_size]; exact font_size)) rfl ⟨rfl, ?_⟩
    exact below_setRow (((Below.refl _ _).alloc (Nat.le_refl _) _).trans (hb.mono (by simp))) (Nat.le_refl _) _
  · have g1 : (name.toList == [116, 105, 110, 121]) = false := by simpa [tinyName] using h1
    by_cases h2 : name.toList = wideName
    · have e1 : builtin name.toList = wide := by unfold builtin; rw [if_neg h1, if_pos h2]
      have e2 : isBuiltin name.toList = true := by unfold isBuiltin; simp [h2]
      rw [e1, e2]
      have g2 : (name.toList == [119, 105, 100, 101]) = true := by rw [h2]; rfl
      clear h1 h2 e1 e2
      go_enter Tryd.func9, Tryd.ntmps9
      go_wp2_with (first | (with_reducible apply arm_alloc) | (go_at_call 21; refine (build_wide _ _ (by rw [cell_of_row _ _ 0 _ _ (0, 0) (heap_alloc2_new _ _ _)]; rfl)).mono ?_; rintro e w1 ⟨rfl, hb⟩; have hq := ((Holds.new w 28 (fcells fun _ => 0)).alloc _).below hb (by simp; omega)) | ((with_reducible apply arm_storeAt) <;> try (first | exact rfl | exact hq)))
      exact bodyPost_ret (results_row_tmp rfl _ _ w.heap.size _ _ _ rfl (hq.row (fcells wide.cell)) Tryd.underlying28 rfl (by rw [fcells_size]; exact font_size)) rfl ⟨rfl, below_setRow ((((Below.refl _ _).alloc (Nat.le_refl _) _).alloc (by simp) _).trans (hb.mono (by simp; omega))) (Nat.le_refl _) _⟩
    · have e1 : builtin name.toList = Ft.none := by unfold builtin; rw [if_neg h1, if_neg h2]
      have e2 : isBuiltin name.toList = false := by unfold isBuiltin; simp [h1, h2]
      rw [e1, e2]
      have g2 : (name.toList == [119, 105, 100, 101]) = false := by simpa [wideName] using h2
      have ez : fcells Ft.none.cell = fcells fun _ => 0 := fcells_ext _ _ fun i _ => Ft.none_cell i
      rw [ez]
      clear h1 h2 e1 e2 ez
      go_enter Tryd.func9, Tryd.ntmps9
      go_wp2_with (first | (with_reducible apply arm_alloc) | (with_reducible apply arm_build0) | ((with_reducible apply arm_store) <;> try exact rfl))
      exact bodyPost_ret (results_row_tmp rfl _ _ w.heap.size _ _ _ rfl (Holds.new w _ _) Tryd.underlying28 rfl (by rw [fcells_size]; exact font_size)) rfl ⟨rfl, (Below.refl _ _).alloc (Nat.le_refl _) _⟩

end Go.Proofs.YtgjfebnafjpcaaaDoor
