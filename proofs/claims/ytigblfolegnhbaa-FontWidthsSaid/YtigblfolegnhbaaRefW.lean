/-
  The contracts of the reference's Width and Same.
-/
import Derived.Test.YtigblfolegnhbaaRefB
import Derived.Deep.QuietTactic
import Derived.BigQuiet
namespace Go.Proofs.Ytigblfolegnhbaa
open Go.RowKit

theorem ft_width_snoc (f : Ft) (s : ByteArray) (k : Nat) (h : k < s.size) : f.width (s.data.toList.take (k + 1)) = f.width (s.data.toList.take k) + (f.letter s[k].toNat).w := by
  rw [take_snoc s k h, Ft.width_append, Ft.width_one]

theorem refGlyph_field (x u : Value) (w : World) : (Instr.field 43 (.agg #[x, u]) 0).run Try.prog w = .ok x w := by kernel_rfl
theorem glyph_field (x u : Value) (w : World) : (Instr.field 37 (.agg #[x, u]) 0).run Try.prog w = .ok x w := by kernel_rfl

set_option maxHeartbeats 1000000 in
theorem refWidth_any (f : Ft) (hf : f.Fine) (v : Value) (lo hi : Nat) (s : ByteArray) (hs : s.size ≤ 1099511627776) (w : World) (hR : RefFont w lo hi f v) (hhi : hi ≤ w.heap.size) :
    Calls Try.prog 9 #[v, .string s] w fun e w' => e = .returned (.int .i64 (f.width s.data.toList : Nat)) ∧ Below w.heap.size w w' := by
  obtain ⟨u, rfl, hu⟩ := hR.agg
  have HR := Lib.hid hR
  clear hR hu
  go_enter Try.func9, Try.ntmps9
  go_wp2
  go_loopw [5, 6] (fun n i wr => ∃ k : Nat, k ≤ s.size ∧ i = .int .i64 k ∧ n = .int .i64 (f.width (s.data.toList.take k) : Nat) ∧ Holds wr w.heap.size 33 #[.int .i64 (f.asc : Nat), .int .i64 (f.desc : Nat), u] ∧ Below w.heap.size w wr) (fun _ i _ => s.size - (intOf i).toNat)
  case atStart => exact ⟨0, Nat.zero_le _, rfl, rfl, Holds.new _ _ _, (Below.refl _ _).alloc (Nat.le_refl _) _⟩
  case round =>
    obtain ⟨k, hk, rfl, rfl, h1, hB⟩ := hrel
    by_cases hlt : k < s.size
    · have hb := Ft.width_le hf (s.data.toList.take k)
      have hl : (s.data.toList.take k).length ≤ k := List.length_take_le _ _
      have hw := Ft.letter_w hf s[k].toNat
      have HS := Lib.hid (ft_width_snoc f s k hlt)
      have hz : w.heap.size ≤ wr.heap.size := hB.size
      have hc0 : wr.cell? ⟨w.heap.size, 0, none⟩ = some (.int .i64 (f.asc : Nat)) := by rw [h1.cell]; rfl
      have hc1 : wr.cell? ⟨w.heap.size, 1, none⟩ = some (.int .i64 (f.desc : Nat)) := by rw [h1.cell]; rfl
      have hc2 : wr.cell? ⟨w.heap.size, 2, none⟩ = some u := by rw [h1.cell]; rfl
      have hL : ∀ w' : World, Below w.heap.size w w' → Calls Try.prog 21 #[.agg #[.int .i64 (f.asc : Nat), .int .i64 (f.desc : Nat), u], .int .u8 ((s[k].toNat : Nat) : Int)] w' (LetterIs (f.letter s[k].toNat) w') := fun w' hb' =>
        refLetter_fine f hf _ lo w'.heap.size _ s[k].toNat_lt w' (HR.out.below hb' hhi (by have := hb'.size; omega)) (Nat.le_refl _)
      have H1 := Lib.hid h1
      have HB := Lib.hid hB
      clear h1 hB
      have hz' : w.heap.size < wr.heap.size := H1.out.lt
      have hfd := refGlyph_field
      go_wp2_with fail
      go_region_held3 (fun w' => w'.cell? ⟨w.heap.size, 0, none⟩ = some (.int .i64 (f.asc : Nat)) ∧ w'.cell? ⟨w.heap.size, 1, none⟩ = some (.int .i64 (f.desc : Nat)) ∧ w'.cell? ⟨w.heap.size, 2, none⟩ = some u)
        (first | exact ⟨hc0, hc1, hc2⟩ | exact ⟨(hb1.cell (p := ⟨w.heap.size, 0, none⟩) hz').trans hc0, (hb1.cell (p := ⟨w.heap.size, 1, none⟩) hz').trans hc1, (hb1.cell (p := ⟨w.heap.size, 2, none⟩) hz').trans hc2⟩)
        (first | (go_at_call 21; refine (hL _ HB.out.drew).mono ?_; rintro e w1 ⟨ul, rfl, hr, hb1⟩))
      go_wp2
      go_roundw
      case rel =>
        refine ⟨k + 1, by omega, by go_num, ?_, H1.out.drew.below hb1 hz', HB.out.drew.trans (hb1.mono hz)⟩
        rw [HS.out, IntWalk.i64_in _ (by omega), Int.natCast_add]
      case measure => simp [intOf]; omega
    · go_wp2
      go_ret
      exact ⟨by rw [List.take_of_length_le (by simp; omega)]; rfl, hB⟩

set_option maxHeartbeats 1000000 in
theorem same_any (l : Lt) (hl : l.rows.length ≤ 65536) (u v : Value) (w : World) (hu : IntRow w w.heap.size u (l.rows.map Int.ofNat)) (hv : IntRow w w.heap.size v (l.rows.map Int.ofNat)) :
    Calls Try.prog 10 #[.agg #[.int .i64 (l.w : Nat), u], .agg #[.int .i64 (l.w : Nat), v]] w fun e w' => e = .returned (.bool true) ∧ Below w.heap.size w w' := by
  obtain ⟨A, c, eu⟩ := hu.form
  obtain ⟨B, d, ev⟩ := hv.form
  rw [List.length_map] at eu ev
  subst eu ev
  go_enter Try.func10, Try.ntmps10
  go_wp2
  go_loopw [5] (fun i wr => ∃ k : Nat, k ≤ l.rows.length ∧ i = .int .i64 k ∧ Holds wr w.heap.size 43 #[.int .i64 (l.w : Nat), .slice A l.rows.length c] ∧
    Holds wr (w.heap.size + 1) 43 #[.int .i64 (l.w : Nat), .slice B l.rows.length d] ∧ Below w.heap.size w wr) (fun i _ => l.rows.length - (intOf i).toNat)
  case atStart => exact ⟨0, Nat.zero_le _, rfl, heap_alloc2_old _ _ _, heap_alloc2_new _ _ _, ((Below.refl _ _).alloc (Nat.le_refl _) _).alloc (by simp) _⟩
  case round =>
    obtain ⟨k, hk, rfl, h1, h2, hB⟩ := hrel
    have hc0 : wr.cell? ⟨w.heap.size, 1, none⟩ = some (.slice A l.rows.length c) := by rw [h1.cell]; rfl
    have hc1 : wr.cell? ⟨w.heap.size + 1, 1, none⟩ = some (.slice B l.rows.length d) := by rw [h2.cell]; rfl
    have H1 := Lib.hid h1
    have H2 := Lib.hid h2
    have HB := Lib.hid hB
    clear h1 h2 hB
    by_cases hlt : k < l.rows.length
    · have hz : (l.rows.map Int.ofNat)[k]? = some (Int.ofNat l.rows[k]) := by rw [List.getElem?_map, List.getElem?_eq_getElem hlt]; rfl
      obtain ⟨g, off, cap, hq, hcu⟩ := hu.at_ hz
      obtain ⟨g', off', cap', hq', hcv⟩ := hv.at_ hz
      have hA := (Value.slice.inj hq).1
      have hA' := (Value.slice.inj hq').1
      clear hq hq'
      subst hA hA'
      generalize Int.ofNat l.rows[k] = z at hcu hcv
      have hlg := World.block_lt_of_cell? w _ hcu
      have hlg' := World.block_lt_of_cell? w _ hcv
      have hcu' : wr.cell? ⟨g, off + k, none⟩ = some (.int .i64 z) := (HB.out.cell (p := ⟨g, off + k, none⟩) hlg).trans hcu
      have hcv' : wr.cell? ⟨g', off' + k, none⟩ = some (.int .i64 z) := (HB.out.cell (p := ⟨g', off' + k, none⟩) hlg').trans hcv
      have hk1 : (0 : Int) ≤ (k : Int) := by omega
      have hk2 : (k : Int) < (l.rows.length : Int) := by omega
      clear hu hv hz hcu hcv
      go_wp2_with fail
      go_quiet (fail)
      go_wp2
      go_roundw
      case rel => exact ⟨k + 1, by omega, by go_num, H1.out.drewN _, H2.out.drewN _, below_drewN HB.out _⟩
      case measure => simp [intOf]; omega
    · go_wp2
      go_ret
      exact ⟨rfl, HB.out⟩

end Go.Proofs.Ytigblfolegnhbaa
