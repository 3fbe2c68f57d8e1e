/-
  The contract of the reference's made, at the font wide: the walk. (Printed by gen_madew.py out of the text at tiny.)
-/
import Derived.Test.YtgjfebnafjpcaaaDoorMadeT
import Derived.RegionTactic
import Derived.ChangeAlike
namespace Go.Proofs.YtgjfebnafjpcaaaDoor
open Go.RowKit

theorem MadeIn.drew {wo wr : World} {l : Lt} {y : Nat} (h : MadeIn wo l y wr) : MadeIn wo l y wr.drew := by
  obtain ⟨v, h1, h2, h3⟩ := h
  exact ⟨v, h1.drew, h2, h3.drew⟩

set_option maxRecDepth 100000 in
set_option maxHeartbeats 2000000 in
theorem made_wide (w : World) :
    Calls Tryd.prog 26 #[.int .i64 7, .int .i64 2, .int .i64 5, .int .i64 4, .bool true] w (MadeEnd w wide) := by
  obtain ⟨i0, hi0, hz0, hz1, hz2⟩ := info_parts int_info
  obtain ⟨j0, hj0, hy0, hy1, hy2⟩ := info_parts refGlyph_info
  have HI := Lib.hid hi0
  have HZ0 := Lib.hid hz0
  have HZ1 := Lib.hid hz1
  have HZ2 := Lib.hid hz2
  have HJ := Lib.hid hj0
  have HY0 := Lib.hid hy0
  have HY1 := Lib.hid hy1
  have HY2 := Lib.hid hy2
  clear hi0 hz0 hz1 hz2 hj0 hy0 hy1 hy2
  go_enter Tryd.func26, Tryd.ntmps26
  go_wp2
  go_loopw [12] (fun c wr => ∃ k : Nat, 32 ≤ k ∧ k ≤ 127 ∧ c = .int .i64 k ∧ MadeOut w wide (k - 32) wr) (fun c _ => 127 - (intOf c).toNat)
  case atStart => exact ⟨32, by omega, by omega, rfl, MadeOut.start w wide 7 2 rfl rfl⟩
  case round =>
    obtain ⟨k, hk1, hk2, rfl, hM⟩ := hrel
    obtain ⟨wo, rfl⟩ : ∃ wo : World, wo = wr := ⟨_, rfl⟩
    by_cases hlt : k < 127
    · obtain ⟨l, hl, hlw, hlr, hly⟩ := make_letter 7 2 wideW wideR (k - 32) (by omega)
      have hS := MadeIn.start wo l (5 + (k : Int) % 4) (by rw [hlw, show 32 + (k - 32) = k by omega]; unfold wideW; omega)
      have HL := Lib.hid hl
      have HLW := Lib.hid hlw
      have HLR := Lib.hid hlr
      have HLY := Lib.hid hly
      have HM := Lib.hid hM
      clear hM hl hlw hlr hly
      have hd : decide ((k : Int) < 127) = true := by simp; omega
      go_wp2
      go_region
      go_wp2
      go_loopw [14] (fun c wr => ∃ y : Nat, y ≤ 9 ∧ c = .int .i64 y ∧ MadeIn wo l y wr) (fun c _ => 9 - (intOf c).toNat)
      case atStart => exact ⟨0, by omega, rfl, hS.drew⟩
      case round =>
        clear hS
        obtain ⟨y, hy, rfl, hN⟩ := hrel
        by_cases hy6 : y < 9
        · obtain ⟨v, g1, g2, gB⟩ := hN
          have hc0 : wr.cell? ⟨wo.heap.size, 1, none⟩ = some v := by rw [g1.cell]; rfl
          have hzr : wo.heap.size + 1 ≤ wr.heap.size := g1.lt
          have G1 := Lib.hid g1
          have GB := Lib.hid gB
          clear g1 gB
          have hm0 : (0 : Int) ≤ (k : Int) * ((y : Int) + 3) := Int.mul_nonneg (by omega) (by omega)
          have hm1 : (k : Int) * ((y : Int) + 3) ≤ 127 * 19 := by
            have h1 : k * (y + 3) ≤ 127 * 19 := Nat.mul_le_mul (by omega) (by omega)
            have h2 : ((k * (y + 3) : Nat) : Int) = (k : Int) * ((y : Int) + 3) := by simp
            omega
          have hn0 := HLY.out y (by omega)
          have hwc : wr.cell? ⟨wo.heap.size, 0, none⟩ = some (.int .i64 (5 + (k : Int) % 4)) := by
            rw [G1.out.cell, HLW.out, show 32 + (k - 32) = k by omega]
            show some (Value.int .i64 ((5 + k % 4 : Nat) : Int)) = _
            rw [show ((5 + k % 4 : Nat) : Int) = 5 + (k : Int) % 4 by omega]
          have hm2 : (0 : Int) ≤ (k : Int) * (2 * (y : Int) + 5) := Int.mul_nonneg (by omega) (by omega)
          have hm3 : (k : Int) * (2 * (y : Int) + 5) ≤ 127 * 37 := by
            have h1 : k * (2 * y + 5) ≤ 127 * 37 := Nat.mul_le_mul (by omega) (by omega)
            have h2 : ((k * (2 * y + 5) : Nat) : Int) = (k : Int) * (2 * (y : Int) + 5) := by simp
            omega
          have hw9 : wideW k - 1 ≤ 16 := by unfold wideW; omega
          have hp : ∀ w : World, Calls Tryd.prog 42 #[.int .i64 (5 + (k : Int) % 4 - 1)] w fun e w' => e = .returned (.int .i64 (pw (wideW k - 1) : Nat)) ∧ w = w' := fun w => by
            have := power_any (wideW k - 1) hw9 w
            rw [show ((wideW k - 1 : Nat) : Int) = 5 + (k : Int) % 4 - 1 by unfold wideW; omega] at this
            exact this
          have hq1 : (1 : Int) ≤ (pw (wideW k - 1) : Nat) := by have := pw_pos (wideW k - 1); omega
          have hq2 : ((pw (wideW k - 1) : Nat) : Int) ≤ 65536 := by have := pw_le (wideW k - 1) hw9; omega
          by_cases h32 : k = 32
          · have h32' : ((k : Int) == 32) = true := by simp; omega
            have hn : l.rows[y]? = some 0 := by rw [hn0, if_pos (by omega)]
            clear hn0 h32
            go_wp2_with (first | (go_at_call 42; refine (hp _).mono ?_; rintro e w' ⟨rfl, rfl⟩) | ((with_reducible apply wpl_appendOne Tryd.underlying40 HI.out HZ0.out HZ1.out HZ2.out rfl (by omega) (wo.heap.size + 1) (v := v)) <;> try (first | exact rfl | exact g2 | exact one_int_list _ _ | exact (by unfold maxLen; omega) | omega)))
            intro g cap w2 hown hgr
            have hne : some wo.heap.size ≠ v.ownBlock := fun e => by have := (g2.lt _ e.symm).1; omega
            have q := (G1.out.alloc _).grown hgr hne
            have hc1 : w2.cell? ⟨wo.heap.size, 1, none⟩ = some v := by rw [q.cell]; rfl
            have hf1 := q.frozen 1
            have hstep := MadeIn.step G1.out g2 GB.out hn hown hgr
            have HST := Lib.hid hstep
            clear hstep hown hgr q hne hn
            go_wp2
            go_roundw
            case rel => exact ⟨y + 1, by omega, by go_num, HST.out⟩
            case measure => simp [intOf]; omega
          · have h32' : ((k : Int) == 32) = false := by simp; omega
            rw [if_neg (by omega), show 32 + (k - 32) = k by omega] at hn0
            have hval : ((k : Int) * (2 * (y : Int) + 5) + 7 * (y : Int)) % ((pw (wideW k - 1) : Nat) : Int) = ((wideR k y : Nat) : Int) := rfl
            have HV := Lib.hid hval
            have hn := hn0
            clear hn0 hval
            go_wp2_with (first | (go_at_call 42; refine (hp _).mono ?_; rintro e w' ⟨rfl, rfl⟩) | ((with_reducible apply wpl_appendOne Tryd.underlying40 HI.out HZ0.out HZ1.out HZ2.out rfl (by omega) (wo.heap.size + 1) (v := v)) <;> try (first | exact rfl | exact g2 | exact one_int_list _ _ | exact (by unfold maxLen; omega) | omega)))
            intro g cap w2 hown hgr
            rw [HV.out] at hown hgr
            have hne : some wo.heap.size ≠ v.ownBlock := fun e => by have := (g2.lt _ e.symm).1; omega
            have q := (G1.out.alloc _).grown hgr hne
            have hc1 : w2.cell? ⟨wo.heap.size, 1, none⟩ = some v := by rw [q.cell]; rfl
            have hf1 := q.frozen 1
            have hstep := MadeIn.step G1.out g2 GB.out hn hown hgr
            have HST := Lib.hid hstep
            clear hstep hown hgr q hne hn
            go_wp2
            go_roundw
            case rel => exact ⟨y + 1, by omega, by go_num, HST.out⟩
            case measure => simp [intOf]; omega
        · obtain rfl : y = 9 := by omega
          obtain ⟨v, g1, g2, gB⟩ := hN
          obtain ⟨u, xs, o1, o2, o3, o4, oB⟩ := HM.out
          have hc0 : wr.cell? ⟨wo.heap.size, 0, none⟩ = some (.int .i64 (l.w : Nat)) := by rw [g1.cell]; rfl
          have hc1 : wr.cell? ⟨wo.heap.size, 1, none⟩ = some v := by rw [g1.cell]; rfl
          have hc2 : wr.cell? ⟨w.heap.size + 1, 2, none⟩ = some u := by rw [(o2.below gB o2.lt).cell]; rfl
          have hzr : wo.heap.size + 1 ≤ wr.heap.size := g1.lt
          have hzo : w.heap.size ≤ wo.heap.size := oB.size
          have hg2 : wr.ownsRow (wo.heap.size + 1) 3 1 v l.rows.length ((l.rows.map Int.ofNat).map (Value.int .i64)) := by
            rw [List.take_of_length_le (by rw [HLR.out]; omega)] at g2
            rw [HLR.out]
            exact g2
          have hown : wr.ownsRow w.heap.size 54 2 u (k - 32) xs := o3.kept (row := none) ⟨gB.os, gB.tape, gB.output, gB.size, fun k hk _ => gB.block k hk⟩ (by cases hq : u.ownBlock <;> simp)
          have hv1 : ∀ x ∈ [Value.int .i64 (l.w : Nat), v], x.oneCell' = true := by
            rcases g2.2 with ⟨rfl, _⟩ | ⟨_, _, _, rfl, _⟩ <;> simp [Value.oneCell']
          have O2 := Lib.hid o2
          have O3 := Lib.hid o3
          have GB := Lib.hid gB
          have OO := Lib.hid (And.intro o1 (And.intro o4 oB))
          clear o1 o2 o3 o4 oB g1 gB g2 HM
          go_wp2_with ((with_reducible apply wpl_appendOne Tryd.underlying31 HJ.out HY0.out HY1.out HY2.out rfl (by omega) w.heap.size (v := u)) <;> try (first | exact rfl | exact hown | exact hv1 | exact (by unfold maxLen; omega) | omega))
          intro g cap w2 hown2 hgr
          have hst := MadeOut.step OO.out.1 O2.out O3.out OO.out.2.1 OO.out.2.2 HL.out hg2 GB.out hown2 hgr
          have k2 := (O2.out.below GB.out O2.out.lt).alloc (.cells [Value.int .i64 (l.w : Nat), v].toArray 54)
          have hown' := hown.alloc (.cells [Value.int .i64 (l.w : Nat), v].toArray 54)
          have q := k2.grown hgr (fun e => own_type hown' (e' := 33) (by decide) _ _ e.symm k2)
          have hc3 : w2.cell? ⟨w.heap.size + 1, 2, none⟩ = some u := by rw [q.cell]; rfl
          have hf3 := q.frozen 2
          rw [show k - 32 + 1 = k + 1 - 32 by omega] at hst
          have HST := Lib.hid hst
          clear hst hown2 hgr k2 hown' q hown hg2 hc0 hc1 hc2
          go_wp2
          go_roundw
          case rel =>
            refine ⟨k + 1, by omega, by omega, by go_num, ?_⟩
            rw [show k - 32 + 1 = k + 1 - 32 by omega]
            exact HST.out
          case measure => simp [intOf]; omega
    · obtain rfl : k = 127 := by omega
      obtain ⟨u, xs, o1, o2, o3, o4, oB⟩ := hM
      have hfin := MadeOut.finish wide_good o1 o2 o3 o4 oB
      have hu1 := one_font 7 2 u (by rcases o3.2 with ⟨rfl, _⟩ | ⟨_, _, _, rfl, _⟩ <;> rfl)
      have HF := Lib.hid hfin
      clear hfin
      go_wp2_with (first | ((with_reducible apply wpl_loadRow (t := 33) (hu := Tryd.underlying33) (hd := rfl)) <;> try (first | exact rfl | exact o2 | exact refFont_size)) | ((with_reducible apply wpl_storeRow (t := 33)) <;> try (first | exact rfl | exact o1 | exact refFont_size | exact hu1)))
      refine bodyPost_ret (results_cell_row rfl _ _ w.heap.size 33 _ _ _ rfl (o1.row #[.int .i64 (wide.asc : Nat), .int .i64 (wide.desc : Nat), u]) Tryd.underlying33 rfl refFont_size) rfl ?_
      exact ⟨_, rfl, HF.out⟩

end Go.Proofs.YtgjfebnafjpcaaaDoor
