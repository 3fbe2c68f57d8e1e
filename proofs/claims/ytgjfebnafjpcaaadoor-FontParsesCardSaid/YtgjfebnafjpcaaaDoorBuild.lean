/-
  The contracts of the built-in fonts' four function values, of build at each of the two fonts, and of Builtin.
-/
import Derived.Test.YtgjfebnafjpcaaaDoorFont
namespace Go.Proofs.YtgjfebnafjpcaaaDoor
open Go.RowKit

theorem widthF_cell (f : Ft) (l : List UInt8) : widthF f.cell l = (f.width l : Nat) := by
  unfold widthF Ft.width
  induction l with
  | nil => rfl
  | cons b l ih =>
    simp only [List.map_cons, List.sum_cons]
    rw [ih, Ft.cell_w, Int.natCast_add]
    rfl

/-- The width of a text, at a font that may be. -/
theorem width_fine (f : Ft) (hf : f.Fine) (s : ByteArray) (w : World) (hs : s.size ≤ 1099511627776) :
    Calls Tryd.prog 18 #[.agg (fcells f.cell), .string s] w fun e w' => e = .returned (.int .i64 (f.width s.data.toList : Nat)) ∧ Below w.heap.size w w' := by
  have h := width_any f.cell s w hs fun k _ => by
    have := Ft.letter_w hf (32 + k)
    rw [Ft.cell_w]
    rcases hf with hg | rfl
    · by_cases hk : k < f.ls.length
      · have := hg.wide (f.ls.getD k Lt.none) (by rw [List.getD_eq_getElem?_getD, List.getElem?_eq_getElem hk]; exact List.getElem_mem hk)
        omega
      · rw [List.getD_eq_getElem?_getD, List.getElem?_eq_none (by omega)]
        simp [Lt.none]
    · simp [Ft.none, Lt.none]
  rw [widthF_cell] at h
  exact h

set_option maxHeartbeats 400000 in
theorem tinyW_any (c : Int) (w : World) : Calls Tryd.prog 22 #[.int .i64 c] w fun e w' => e = .returned (.int .i64 4) ∧ w = w' := by
  go_enter Tryd.func22, Tryd.ntmps22
  go_wp2
  go_ret
  exact ⟨rfl, rfl⟩

set_option maxHeartbeats 400000 in
theorem tinyR_any (c y : Nat) (w : World) (hc : c < 127) (hy : y < 16) : Calls Tryd.prog 23 #[.int .i64 c, .int .i64 y] w fun e w' => e = .returned (.int .i64 (tinyR c y : Nat)) ∧ w = w' := by
  unfold tinyR
  by_cases h5 : y = 5
  · subst h5
    go_enter Tryd.func23, Tryd.ntmps23
    go_wp2
    go_ret
    exact ⟨rfl, rfl⟩
  · rw [if_neg h5]
    have hm0 : (0 : Int) ≤ (c : Int) * ((y : Int) + 3) := Int.mul_nonneg (by omega) (by omega)
    have hm1 : (c : Int) * ((y : Int) + 3) ≤ 127 * 19 := by
      have h1 : c * (y + 3) ≤ 127 * 19 := Nat.mul_le_mul (by omega) (by omega)
      have h2 : ((c * (y + 3) : Nat) : Int) = (c : Int) * ((y : Int) + 3) := by simp
      omega
    go_enter Tryd.func23, Tryd.ntmps23
    go_wp2
    go_ret
    exact ⟨rfl, rfl⟩

set_option maxHeartbeats 400000 in
theorem wideW_any (c : Nat) (w : World) (hc : c < 127) : Calls Tryd.prog 24 #[.int .i64 c] w fun e w' => e = .returned (.int .i64 (wideW c : Nat)) ∧ w = w' := by
  unfold wideW
  go_enter Tryd.func24, Tryd.ntmps24
  go_wp2
  go_ret
  exact ⟨rfl, rfl⟩

set_option maxHeartbeats 400000 in
theorem wideR_any (c y : Nat) (b : Nat) (w : World) (hc : c < 127) (hy : y < 16) (hb : w.cell? ⟨b, 0, none⟩ = some (.func (.func 24) #[] #[])) :
    Calls Tryd.prog 25 #[.int .i64 c, .int .i64 y, .pointer (some ⟨b, 0, none⟩)] w fun e w' => e = .returned (.int .i64 (wideR c y : Nat)) ∧ w = w' := by
  have hm0 : (0 : Int) ≤ (c : Int) * (2 * (y : Int) + 5) := Int.mul_nonneg (by omega) (by omega)
  have hm1 : (c : Int) * (2 * (y : Int) + 5) ≤ 127 * 37 := by
    have h1 : c * (2 * y + 5) ≤ 127 * 37 := Nat.mul_le_mul (by omega) (by omega)
    have h2 : ((c * (2 * y + 5) : Nat) : Int) = (c : Int) * (2 * (y : Int) + 5) := by simp
    omega
  have ct := fun w : World => wideW_any c w hc
  have h4 : wideW c = 5 ∨ wideW c = 6 ∨ wideW c = 7 ∨ wideW c = 8 := by unfold wideW; omega
  unfold wideR
  rcases h4 with e | e | e | e
  all_goals
    rw [e]
    simp only [e] at ct
    clear e
    go_enter Tryd.func25, Tryd.ntmps25
    go_wp2_with (go_at_call 24; refine (ct _).mono ?_; rintro e w' ⟨rfl, rfl⟩)
    go_ret
    exact ⟨rfl, rfl⟩

end Go.Proofs.YtgjfebnafjpcaaaDoor
