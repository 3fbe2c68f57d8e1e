/-
  The contract of the reference's Same.
-/
import Derived.Test.YtgjfebnafjpcaaaDoorRefB
import Derived.Deep.QuietTactic
import Derived.BigQuiet
namespace Go.Proofs.YtgjfebnafjpcaaaDoor
open Go.RowKit
set_option maxRecDepth 100000

theorem ft_width_snoc (f : Ft) (s : ByteArray) (k : Nat) (h : k < s.size) : f.width (s.data.toList.take (k + 1)) = f.width (s.data.toList.take k) + (f.letter s[k].toNat).w := by
  rw [take_snoc s k h, Ft.width_append, Ft.width_one]

theorem refGlyph_field (x u : Value) (w : World) : (Instr.field 54 (.agg #[x, u]) 0).run Tryd.prog w = .ok x w := by kernel_rfl
theorem glyph_field (x u : Value) (w : World) : (Instr.field 42 (.agg #[x, u]) 0).run Tryd.prog w = .ok x w := by kernel_rfl

set_option maxHeartbeats 1000000 in
theorem same_any (l : Lt) (hl : l.rows.length ≤ 65536) (u v : Value) (w : World) (hu : IntRow w w.heap.size u (l.rows.map Int.ofNat)) (hv : IntRow w w.heap.size v (l.rows.map Int.ofNat)) :
    Calls Tryd.prog 20 #[.agg #[.int .i64 (l.w : Nat), u], .agg #[.int .i64 (l.w : Nat), v]] w fun e w' => e = .returned (.bool true) ∧ Below w.heap.size w w' := by
  obtain ⟨A, c, eu⟩ := hu.form
  obtain ⟨B, d, ev⟩ := hv.form
  rw [List.length_map] at eu ev
  subst eu ev
  go_enter Tryd.func20, Tryd.ntmps20
  go_wp2
  go_loopw [5] (fun i wr => ∃ k : Nat, k ≤ l.rows.length ∧ i = .int .i64 k ∧ Holds wr w.heap.size 54 #[.int .i64 (l.w : Nat), .slice A l.rows.length c] ∧
    Holds wr (w.heap.size + 1) 54 #[.int .i64 (l.w : Nat), .slice B l.rows.length d] ∧ Below w.heap.size w wr) (fun i _ => l.rows.length - (intOf i).toNat)
  case atStart => exact ⟨0, Nat.zero_le _, rfl, heap_alloc2_old _ _ _, heap_alloc2_new _ _ _, ((Below.refl _ _).alloc (Nat.le_refl _) _).alloc (by simp) _⟩
  case round =>
    obtain ⟨k, hk, rfl, h1, h2, hB⟩ := hrel
    have hc0 : wr.cell? ⟨w.heap.size, 1, none⟩ = some (.slice A l.rows.length c) := by rw [h1.cell]; rfl
    have hc1 : wr.cell? ⟨w.heap.size + 1, 1, none⟩ = some (.slice B l.rows.length d) := by rw [h2.cell]; rfl
    have H1 := Lib.hid h1
    have H2 := Lib.hid h2
    have HB := Lib.hid hB
    clear h1 h2 hB
    by_cases hlt : k < l.rows.length
    · have hz : (l.rows.map Int.ofNat)[k]? = some (Int.ofNat l.rows[k]) := by rw [List.getElem?_map, List.getElem?_eq_getElem hlt]; rfl
      obtain ⟨g, off, cap, hq, hcu⟩ := hu.at_ hz
      obtain ⟨g', off', cap', hq', hcv⟩ := hv.at_ hz
      have hA := (Value.slice.inj hq).1
      have hA' := (Value.slice.inj hq').1
      clear hq hq'
      subst hA hA'
      generalize Int.ofNat l.rows[k] = z at hcu hcv
      have hlg := World.block_lt_of_cell? w _ hcu
      have hlg' := World.block_lt_of_cell? w _ hcv
      have hcu' : wr.cell? ⟨g, off + k, none⟩ = some (.int .i64 z) := (HB.out.cell (p := ⟨g, off + k, none⟩) hlg).trans hcu
      have hcv' : wr.cell? ⟨g', off' + k, none⟩ = some (.int .i64 z) := (HB.out.cell (p := ⟨g', off' + k, none⟩) hlg').trans hcv
      have hk1 : (0 : Int) ≤ (k : Int) := by omega
      have hk2 : (k : Int) < (l.rows.length : Int) := by omega
      clear hu hv hz hcu hcv
      go_wp2_with fail
      go_quiet (fail)
      go_wp2
      go_roundw
      case rel => exact ⟨k + 1, by omega, by go_num, H1.out.drewN _, H2.out.drewN _, below_drewN HB.out _⟩
      case measure => simp [intOf]; omega
    · go_wp2
      go_ret
      exact ⟨rfl, HB.out⟩

end Go.Proofs.YtgjfebnafjpcaaaDoor
