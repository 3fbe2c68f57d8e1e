/-
  The contract of build at the font wide. (Printed by gen_makewide.py out of the text of build at tiny.)
-/
import Derived.Test.YtgjfebnafjpcaaaDoorMake
namespace Go.Proofs.YtgjfebnafjpcaaaDoor
open Go.RowKit

set_option maxHeartbeats 1000000 in
theorem build_wide (b : Nat) (w : World) (hcb : w.cell? ⟨b, 0, none⟩ = some (.func (.func 24) #[] #[])) :
    Calls Tryd.prog 21 #[.int .i64 7, .int .i64 2, .func (.func 24) #[] #[], .func (.func 25) #[] #[.pointer (some ⟨b, 0, none⟩)]] w fun e w' =>
      e = .returned (.agg (fcells wide.cell)) ∧ Below w.heap.size w w' := by
  have hbl := World.block_lt_of_cell? w _ hcb
  have HCB := Lib.hid hcb
  clear hcb
  go_enter Tryd.func21, Tryd.ntmps21
  go_wp2_with (first
    | (with_reducible apply arm_alloc)
    | ((with_reducible apply arm_build) <;> try exact rfl)
    | ((with_reducible apply arm_store) <;> try exact rfl))
  rw [wide_start]
  go_loopw [16] (fun c wr => ∃ i : Nat, i ≤ 95 ∧ c = .int .i64 i ∧ Made w (upTo wide.cell (2 + 17 * i)) wr) (fun c _ => 95 - (intOf c).toNat)
  case atStart => exact ⟨0, by omega, rfl, heap_alloc2_old _ _ _, heap_alloc2_new _ _ _, ((Below.refl _ _).alloc (Nat.le_refl _) _).alloc (by simp) _⟩
  case round =>
    obtain ⟨i, hi, rfl, h1, h2, hB⟩ := hrel
    by_cases hlt : i < 95
    · have hc : wr.cell? ⟨w.heap.size + 1, 2 + i * 17, none⟩ = some (.int .i64 (upTo wide.cell (2 + 17 * i) (2 + i * 17))) := by rw [h2.cell]; exact fcells_get _ _ (by omega)
      have hf : wr.frozen? ⟨w.heap.size + 1, 2 + i * 17, none⟩ = false := h2.frozen _
      have hs := h2.set (2 + i * 17) (.int .i64 (wideW (32 + i) : Nat))
      have e4 : wide.cell (2 + 17 * i) = (wideW (32 + i) : Nat) := make_w 7 2 wideW wideR i hlt
      rw [show 2 + i * 17 = 2 + 17 * i by omega, ← e4, upTo_step, e4, show 2 + 17 * i = 2 + i * 17 by omega] at hs
      have H1 := Lib.hid h1
      have HS := Lib.hid hs
      have HE := Lib.hid e4
      clear h1 h2 hs e4
      have hw : ∀ w : World, Calls Tryd.prog 24 #[.int .i64 (32 + (i : Int))] w fun e w' => e = .returned (.int .i64 (wideW (32 + i) : Nat)) ∧ w = w' := fun w => by
        have := wideW_any (32 + i) w (by omega)
        rw [show ((32 + i : Nat) : Int) = 32 + (i : Int) by omega] at this
        exact this
      by_cases h0 : i = 0
      · subst h0
        go_wp2_with (go_at_call 24; refine (hw _).mono ?_; rintro e w' ⟨rfl, rfl⟩)
        go_roundw
        case rel =>
          refine ⟨1, by omega, rfl, H1.out.setFar (by simp) _, ?_, hB.setCell (by simp) _⟩
          have hk := upTo_skip wide.cell (2 + 17 * 0 + 1) (2 + 17 * 1) (by omega) (fun j hj1 hj2 => by
            have := make_0 7 2 wideW wideR 0 (j - 3) (by omega) (.inl rfl) (by omega)
            rw [show 3 + 17 * 0 + (j - 3) = j by omega] at this
            exact this)
          rw [← hk]
          exact HS.out
        case measure => simp [intOf]
      · have h0' : ((i : Int) == 0) = false := by simp; omega
        have hh : ∀ w : World, Calls Tryd.prog 31 #[.agg (fcells (upTo wide.cell (2 + i * 17 + 1)))] w fun e w' => e = .returned (.int .i64 9) ∧ Below w.heap.size w w' := fun w => by
          have e0 : upTo wide.cell (2 + i * 17 + 1) 0 = 7 := by unfold upTo; rw [if_pos (by omega)]; rfl
          have e1 : upTo wide.cell (2 + i * 17 + 1) 1 = 2 := by unfold upTo; rw [if_pos (by omega)]; rfl
          have := height_any (upTo wide.cell (2 + i * 17 + 1)) w (by omega) (by omega) (by omega) (by omega)
          rw [e0, e1] at this
          exact this
        go_wp2_with (first | (go_at_call 24; refine (hw _).mono ?_; rintro e w' ⟨rfl, rfl⟩) | ((with_reducible apply arm_load) <;> try (first | exact rfl | exact HS.out)) | (go_at_call 31; refine (hh _).mono ?_; rintro e w1 ⟨rfl, hb⟩))
        have hz := H1.out.lt
        have hz2 := HS.out.lt
        have hM : Made w (upTo wide.cell (3 + 17 * i + 0)) w1 := by
          rw [World.size_setCell] at hb
          refine ⟨(H1.out.setFar (by simp) _).below hb (by omega), ?_, (hB.setCell (by simp) _).trans (hb.mono (by omega))⟩
          rw [show 3 + 17 * i + 0 = 2 + i * 17 + 1 by omega]
          exact HS.out.below hb (by simpa using hz2)
        clear hb H1 HS hB hc hf hh HE
        obtain ⟨wo, rfl⟩ : ∃ wo : World, wo = wr := ⟨_, rfl⟩
        go_loopw [32] (fun c wr => ∃ y : Nat, y ≤ 9 ∧ c = .int .i64 y ∧ Made w (upTo wide.cell (3 + 17 * i + y)) wr) (fun c _ => 9 - (intOf c).toNat)
        case atStart => exact ⟨0, by omega, rfl, hM⟩
        case round =>
          clear hM
          obtain ⟨y, hy, rfl, g1, g2, gB⟩ := hrel
          by_cases hly : y < 9
          · have e4 : wide.cell (3 + 17 * i + y) = (wideR (32 + i) y : Nat) := make_r 7 2 wideW wideR i y hlt h0 (by omega) (by omega)
            have hs : Holds (wr.setCell ⟨w.heap.size + 1, 2 + i * 17 + 1 + y, none⟩ (.int .i64 (wideR (32 + i) y : Nat))) (w.heap.size + 1) 28 (fcells (upTo wide.cell (3 + 17 * i + (y + 1)))) := by
              have h := g2.set (3 + 17 * i + y) (.int .i64 (wide.cell (3 + 17 * i + y)))
              rw [upTo_step, e4] at h
              rw [show 2 + i * 17 + 1 + y = 3 + 17 * i + y by omega]
              exact h
            have hc : wr.cell? ⟨w.heap.size + 1, 2 + i * 17 + 1 + y, none⟩ = some (.int .i64 (upTo wide.cell (3 + 17 * i + y) (2 + i * 17 + 1 + y))) := by rw [g2.cell]; exact fcells_get _ _ (by omega)
            have hf : wr.frozen? ⟨w.heap.size + 1, 2 + i * 17 + 1 + y, none⟩ = false := g2.frozen _
            have G1 := Lib.hid g1
            have GS := Lib.hid hs
            clear g1 g2 hs e4
            have hcw : wr.cell? ⟨b, 0, none⟩ = some (.func (.func 24) #[] #[]) := (gB.cell (p := ⟨b, 0, none⟩) hbl).trans HCB.out
            have hr : ∀ w : World, w.cell? ⟨b, 0, none⟩ = some (.func (.func 24) #[] #[]) → Calls Tryd.prog 25 #[.int .i64 (32 + (i : Int)), .int .i64 y, .pointer (some ⟨b, 0, none⟩)] w fun e w' => e = .returned (.int .i64 (wideR (32 + i) y : Nat)) ∧ w = w' := fun w hb => by
              have := wideR_any (32 + i) y b w (by omega) (by omega) hb
              rw [show ((32 + i : Nat) : Int) = 32 + (i : Int) by omega] at this
              exact this
            have HCW := Lib.hid hcw
            clear hcw
            have hy0 : (0 : Int) ≤ (y : Int) := by omega
            have hy1 : (y : Int) < 16 := by omega
            have hi0 : (0 : Int) ≤ (i : Int) := by omega
            have hi1 : (i : Int) < 95 := by omega
            go_wp2_with fail
            go_region_held3 (fun _ => True) (trivial) (first | (go_at_call 25; refine (hr _ (by exact HCW.out)).mono ?_; rintro e w' ⟨rfl, rfl⟩))
            go_wp2
            go_roundw
            case rel => exact ⟨y + 1, by omega, by go_num, (G1.out.setFar (by simp) _).drew, GS.out.drew, (gB.setCell (by simp) _).drew⟩
            case measure => simp [intOf]; omega
          · have hy6 : y = 9 := by omega
            subst hy6
            have G1 := Lib.hid g1
            have G2 := Lib.hid g2
            clear g1 g2
            go_wp2
            go_roundw
            case rel =>
              refine ⟨i + 1, by omega, by go_num, G1.out, ?_, gB⟩
              have hk := upTo_skip wide.cell (3 + 17 * i + 9) (2 + 17 * (i + 1)) (by omega) (fun j hj1 hj2 => by
                have := make_0 7 2 wideW wideR i (j - (3 + 17 * i)) hlt (.inr (by omega)) (by omega)
                rw [show 3 + 17 * i + (j - (3 + 17 * i)) = j by omega] at this
                exact this)
              rw [← hk]
              exact G2.out
            case measure => simp [intOf]; omega
    · have hi95 : i = 95 := by omega
      subst hi95
      go_wp2_with (first | ((with_reducible apply arm_load) <;> try (first | exact rfl | exact h2)) | ((with_reducible apply arm_storeAt) <;> try (first | exact rfl | exact h1)))
      refine bodyPost_ret (results_cell_row rfl _ _ w.heap.size 28 _ _ _ rfl (h1.row _) Tryd.underlying28 rfl (by rw [fcells_size]; exact font_size)) rfl ?_
      exact ⟨by rw [upTo_all _ _ (by omega)], below_setRow hB (Nat.le_refl _) _⟩

end Go.Proofs.YtgjfebnafjpcaaaDoor
