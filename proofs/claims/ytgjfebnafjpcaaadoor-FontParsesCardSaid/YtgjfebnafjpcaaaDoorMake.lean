/-
  The contract of build at the two built-in fonts.
-/
import Derived.Test.YtgjfebnafjpcaaaDoorBuild
import Derived.Deep.RegionHeld3
namespace Go.Proofs.YtgjfebnafjpcaaaDoor
open Go.RowKit

/-- The first n cells of C; behind them 0. -/
def upTo (C : Nat → Int) (n : Nat) (j : Nat) : Int := if j < n then C j else 0
theorem upTo_step (C : Nat → Int) (n : Nat) : (fcells (upTo C n)).setIfInBounds n (.int .i64 (C n)) = fcells (upTo C (n + 1)) := by
  rw [fcells_set]
  refine fcells_ext _ _ fun i _ => ?_
  unfold upTo
  by_cases h : i = n
  · subst h; rw [if_pos rfl, if_pos (by omega)]
  · rw [if_neg h]
    by_cases h2 : i < n
    · rw [if_pos h2, if_pos (by omega)]
    · rw [if_neg h2, if_neg (by omega)]
theorem upTo_skip (C : Nat → Int) (n m : Nat) (hn : n ≤ m) (h : ∀ j, n ≤ j → j < m → C j = 0) : fcells (upTo C n) = fcells (upTo C m) := by
  refine fcells_ext _ _ fun i _ => ?_
  unfold upTo
  by_cases h1 : i < n
  · rw [if_pos h1, if_pos (by omega)]
  · rw [if_neg h1]
    by_cases h2 : i < m
    · rw [if_pos h2, h i (by omega) h2]
    · rw [if_neg h2]
theorem upTo_all (C : Nat → Int) (n : Nat) (hn : 1617 ≤ n) : fcells (upTo C n) = fcells C := fcells_ext _ _ fun i _ => by unfold upTo; rw [if_pos (by omega)]

theorem make_w (asc desc : Nat) (W : Nat → Nat) (R : Nat → Nat → Nat) (i : Nat) (h : i < 95) : (Ft.make asc desc W R).cell (2 + 17 * i) = (W (32 + i) : Nat) := by
  rw [Ft.cell_w, Ft.make_getD _ _ _ _ _ h]
theorem make_r (asc desc : Nat) (W : Nat → Nat) (R : Nat → Nat → Nat) (i y : Nat) (h : i < 95) (h0 : i ≠ 0) (hy : y < asc + desc) (h16 : y < 16) : (Ft.make asc desc W R).cell (3 + 17 * i + y) = (R (32 + i) y : Nat) := by
  rw [Ft.cell_row _ _ _ h16, Ft.make_getD _ _ _ _ _ h]
  simp [hy, h0]
theorem make_0 (asc desc : Nat) (W : Nat → Nat) (R : Nat → Nat → Nat) (i y : Nat) (h : i < 95) (hy : i = 0 ∨ asc + desc ≤ y) (h16 : y < 16) : (Ft.make asc desc W R).cell (3 + 17 * i + y) = 0 := by
  rw [Ft.cell_row _ _ _ h16, Ft.make_getD _ _ _ _ _ h]
  rcases hy with rfl | hy
  · by_cases h : y < asc + desc <;> simp [h]
  · rw [List.getD_eq_getElem?_getD, List.getElem?_eq_none (by simp; omega)]
    simp

theorem tiny_start : fcells (fun i => if i = 0 then (5 : Int) else if i = 1 then 1 else 0) = fcells (upTo tiny.cell 2) := fcells_ext _ _ fun i _ => by
  unfold upTo
  rcases i with _ | _ | i
  · rfl
  · rfl
  · rw [if_neg (by omega), if_neg (by omega), if_neg (by omega)]
theorem wide_start : fcells (fun i => if i = 0 then (7 : Int) else if i = 1 then 2 else 0) = fcells (upTo wide.cell 2) := fcells_ext _ _ fun i _ => by
  unfold upTo
  rcases i with _ | _ | i
  · rfl
  · rfl
  · rw [if_neg (by omega), if_neg (by omega), if_neg (by omega)]

/-- The two blocks of build: the result's, and the font's. -/
def Made (w : World) (F : Nat → Int) (wr : World) : Prop :=
  Holds wr w.heap.size 28 (fcells fun _ => 0) ∧ Holds wr (w.heap.size + 1) 28 (fcells F) ∧ Below w.heap.size w wr

set_option maxHeartbeats 1000000 in
theorem build_tiny (w : World) :
    Calls Tryd.prog 21 #[.int .i64 5, .int .i64 1, .func (.func 22) #[] #[], .func (.func 23) #[] #[]] w fun e w' =>
      e = .returned (.agg (fcells tiny.cell)) ∧ Below w.heap.size w w' := by
  go_enter Tryd.func21, Tryd.ntmps21
  go_wp2_with (first
    | (with_reducible apply arm_alloc)
    | ((with_reducible apply arm_build) <;> try exact rfl)
    | ((with_reducible apply arm_store) <;> try exact rfl))
  rw [tiny_start]
  go_loopw [16] (fun c wr => ∃ i : Nat, i ≤ 95 ∧ c = .int .i64 i ∧ Made w (upTo tiny.cell (2 + 17 * i)) wr) (fun c _ => 95 - (intOf c).toNat)
  case atStart => exact ⟨0, by omega, rfl, heap_alloc2_old _ _ _, heap_alloc2_new _ _ _, ((Below.refl _ _).alloc (Nat.le_refl _) _).alloc (by simp) _⟩
  case round =>
    obtain ⟨i, hi, rfl, h1, h2, hB⟩ := hrel
    by_cases hlt : i < 95
    · have hc : wr.cell? ⟨w.heap.size + 1, 2 + i * 17, none⟩ = some (.int .i64 (upTo tiny.cell (2 + 17 * i) (2 + i * 17))) := by rw [h2.cell]; exact fcells_get _ _ (by omega)
      have hf : wr.frozen? ⟨w.heap.size + 1, 2 + i * 17, none⟩ = false := h2.frozen _
      have hs := h2.set (2 + i * 17) (.int .i64 4)
      have e4 : tiny.cell (2 + 17 * i) = 4 := make_w 5 1 tinyW tinyR i hlt
      rw [show 2 + i * 17 = 2 + 17 * i by omega, ← e4, upTo_step, e4, show 2 + 17 * i = 2 + i * 17 by omega] at hs
      have H1 := Lib.hid h1
      have HS := Lib.hid hs
      have HE := Lib.hid e4
      clear h1 h2 hs e4
      by_cases h0 : i = 0
      · subst h0
        go_wp2_with (go_at_call 22; refine (tinyW_any _ _).mono ?_; rintro e w' ⟨rfl, rfl⟩)
        go_roundw
        case rel =>
          refine ⟨1, by omega, rfl, H1.out.setFar (by simp) _, ?_, hB.setCell (by simp) _⟩
          have hk := upTo_skip tiny.cell (2 + 17 * 0 + 1) (2 + 17 * 1) (by omega) (fun j hj1 hj2 => by
            have := make_0 5 1 tinyW tinyR 0 (j - 3) (by omega) (.inl rfl) (by omega)
            rw [show 3 + 17 * 0 + (j - 3) = j by omega] at this
            exact this)
          rw [← hk]
          exact HS.out
        case measure => simp [intOf]
      · have h0' : ((i : Int) == 0) = false := by simp; omega
        have hh : ∀ w : World, Calls Tryd.prog 31 #[.agg (fcells (upTo tiny.cell (2 + i * 17 + 1)))] w fun e w' => e = .returned (.int .i64 6) ∧ Below w.heap.size w w' := fun w => by
          have e0 : upTo tiny.cell (2 + i * 17 + 1) 0 = 5 := by unfold upTo; rw [if_pos (by omega)]; rfl
          have e1 : upTo tiny.cell (2 + i * 17 + 1) 1 = 1 := by unfold upTo; rw [if_pos (by omega)]; rfl
          have := height_any (upTo tiny.cell (2 + i * 17 + 1)) w (by omega) (by omega) (by omega) (by omega)
          rw [e0, e1] at this
          exact this
        go_wp2_with (first | (go_at_call 22; refine (tinyW_any _ _).mono ?_; rintro e w' ⟨rfl, rfl⟩) | ((with_reducible apply arm_load) <;> try (first | exact rfl | exact HS.out)) | (go_at_call 31; refine (hh _).mono ?_; rintro e w1 ⟨rfl, hb⟩))
        have hz := H1.out.lt
        have hz2 := HS.out.lt
        have hM : Made w (upTo tiny.cell (3 + 17 * i + 0)) w1 := by
          rw [World.size_setCell] at hb
          refine ⟨(H1.out.setFar (by simp) _).below hb (by omega), ?_, (hB.setCell (by simp) _).trans (hb.mono (by omega))⟩
          rw [show 3 + 17 * i + 0 = 2 + i * 17 + 1 by omega]
          exact HS.out.below hb (by simpa using hz2)
        clear hb H1 HS hB hc hf hh HE
        obtain ⟨wo, rfl⟩ : ∃ wo : World, wo = wr := ⟨_, rfl⟩
        go_loopw [32] (fun c wr => ∃ y : Nat, y ≤ 6 ∧ c = .int .i64 y ∧ Made w (upTo tiny.cell (3 + 17 * i + y)) wr) (fun c _ => 6 - (intOf c).toNat)
        case atStart => exact ⟨0, by omega, rfl, hM⟩
        case round =>
          clear hM
          obtain ⟨y, hy, rfl, g1, g2, gB⟩ := hrel
          by_cases hly : y < 6
          · have e4 : tiny.cell (3 + 17 * i + y) = (tinyR (32 + i) y : Nat) := make_r 5 1 tinyW tinyR i y hlt h0 (by omega) (by omega)
            have hs : Holds (wr.setCell ⟨w.heap.size + 1, 2 + i * 17 + 1 + y, none⟩ (.int .i64 (tinyR (32 + i) y : Nat))) (w.heap.size + 1) 28 (fcells (upTo tiny.cell (3 + 17 * i + (y + 1)))) := by
              have h := g2.set (3 + 17 * i + y) (.int .i64 (tiny.cell (3 + 17 * i + y)))
              rw [upTo_step, e4] at h
              rw [show 2 + i * 17 + 1 + y = 3 + 17 * i + y by omega]
              exact h
            have hc : wr.cell? ⟨w.heap.size + 1, 2 + i * 17 + 1 + y, none⟩ = some (.int .i64 (upTo tiny.cell (3 + 17 * i + y) (2 + i * 17 + 1 + y))) := by rw [g2.cell]; exact fcells_get _ _ (by omega)
            have hf : wr.frozen? ⟨w.heap.size + 1, 2 + i * 17 + 1 + y, none⟩ = false := g2.frozen _
            have G1 := Lib.hid g1
            have GS := Lib.hid hs
            clear g1 g2 hs e4
            have hr : ∀ w : World, Calls Tryd.prog 23 #[.int .i64 (32 + (i : Int)), .int .i64 y] w fun e w' => e = .returned (.int .i64 (tinyR (32 + i) y : Nat)) ∧ w = w' := fun w => by
              have := tinyR_any (32 + i) y w (by omega) (by omega)
              rw [show ((32 + i : Nat) : Int) = 32 + (i : Int) by omega] at this
              exact this
            have hy0 : (0 : Int) ≤ (y : Int) := by omega
            have hy1 : (y : Int) < 16 := by omega
            have hi0 : (0 : Int) ≤ (i : Int) := by omega
            have hi1 : (i : Int) < 95 := by omega
            go_wp2_with fail
            go_region_held3 (fun _ => True) (trivial) (first | (go_at_call 23; refine (hr _).mono ?_; rintro e w' ⟨rfl, rfl⟩))
            go_wp2
            go_roundw
            case rel => exact ⟨y + 1, by omega, by go_num, (G1.out.setFar (by simp) _).drew, GS.out.drew, (gB.setCell (by simp) _).drew⟩
            case measure => simp [intOf]; omega
          · have hy6 : y = 6 := by omega
            subst hy6
            have G1 := Lib.hid g1
            have G2 := Lib.hid g2
            clear g1 g2
            go_wp2
            go_roundw
            case rel =>
              refine ⟨i + 1, by omega, by go_num, G1.out, ?_, gB⟩
              have hk := upTo_skip tiny.cell (3 + 17 * i + 6) (2 + 17 * (i + 1)) (by omega) (fun j hj1 hj2 => by
                have := make_0 5 1 tinyW tinyR i (j - (3 + 17 * i)) hlt (.inr (by omega)) (by omega)
                rw [show 3 + 17 * i + (j - (3 + 17 * i)) = j by omega] at this
                exact this)
              rw [← hk]
              exact G2.out
            case measure => simp [intOf]; omega
    · have hi95 : i = 95 := by omega
      subst hi95
      go_wp2_with (first | ((with_reducible apply arm_load) <;> try (first | exact rfl | exact h2)) | ((with_reducible apply arm_storeAt) <;> try (first | exact rfl | exact h1)))
      refine bodyPost_ret (results_cell_row rfl _ _ w.heap.size 28 _ _ _ rfl (h1.row _) Tryd.underlying28 rfl (by rw [fcells_size]; exact font_size)) rfl ?_
      exact ⟨by rw [upTo_all _ _ (by omega)], below_setRow hB (Nat.le_refl _) _⟩

end Go.Proofs.YtgjfebnafjpcaaaDoor
