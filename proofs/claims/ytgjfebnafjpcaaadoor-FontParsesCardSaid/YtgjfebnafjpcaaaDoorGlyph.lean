/-
  The contract of Glyph: the letter of a byte, its rows in a new block.
-/
import Derived.Test.YtgjfebnafjpcaaaDoorBuiltin
import Derived.Test.YtgjfebnafjpcaaaDoorIrow
namespace Go.Proofs.YtgjfebnafjpcaaaDoor
open Go.RowKit

/-- The cells of a letter. -/
def lcells (F : Nat → Int) : Array Value := ((List.range 17).map fun i => Value.int .i64 (F i)).toArray
theorem lcells_size (F : Nat → Int) : (lcells F).size = 17 := by simp [lcells]
theorem lcells_get (F : Nat → Int) (i : Nat) (h : i < 17) : (lcells F)[i]? = some (.int .i64 (F i)) := by simp [lcells, h]
theorem lcells_one (F : Nat → Int) : (lcells F).all (·.oneCell') = true := by
  unfold lcells
  simp [Value.oneCell']
theorem lcells_list (F : Nat → Int) (j : Nat) (v : Value) (h : (lcells F).toList[j]? = some v) : j < 17 ∧ v = .int .i64 (F j) := by
  have hj : j < 17 := by
    have := (List.getElem?_eq_some_iff.1 h).1
    rw [Array.length_toList, lcells_size] at this
    exact this
  rw [Array.getElem?_toList, lcells_get F j hj] at h
  injection h with h
  exact ⟨hj, h.symm⟩
theorem lcells_ext (F G : Nat → Int) (h : ∀ i, i < 17 → F i = G i) : lcells F = lcells G := by
  have e : ((List.range 17).map fun i => Value.int .i64 (F i)) = ((List.range 17).map fun i => Value.int .i64 (G i)) := List.map_congr_left fun i hi => by rw [h i (List.mem_range.1 hi)]
  unfold lcells
  rw [e]
attribute [irreducible] lcells
theorem letter_zero (w : World) : (zeroValue 25).run Tryd.prog w = .ok (.agg (lcells fun _ => 0)) w := by kernel_rfl
theorem letter_size : (Tryd.prog.info? 25).map (·.size) = some 17 := by kernel_rfl
theorem one_int_slice (k : IntKind) (n : Int) (A : Option Addr) (l c : Nat) : (#[Value.int k n, Value.slice A l c].all (·.oneCell')) = true := by simp [Value.oneCell']
theorem glyph_size : (Tryd.prog.info? 42).map (·.size) = some 2 := by kernel_rfl
theorem int_info : (Tryd.prog.info? 3).map (fun i => (i.zero, i.size, i.bytes)) = some (some (.int .i64 0), 1, 8) := by kernel_rfl
theorem int_size : (Tryd.prog.info? 3).map (·.size) = some 1 := by kernel_rfl

section
variable {ops : Array Oper} {rest : List Oper} {a : Act} {w : World} {Q : Exit → Act → World → Prop} {dst : Option Tmp} {ty : TypeId} {pos : String} {after : Array Edge}
theorem arm_allocL (h : wpList Tryd.prog ops Q rest (a.put dst (.pointer (some ⟨w.heap.size, 0, none⟩))) (w.alloc (.cells (lcells fun _ => 0) 25))) :
    wpList Tryd.prog ops Q ({ dst := dst, op := .alloc 25, type := ty, pos := pos, after := after, guard := none } :: rest) a w := wpl_alloc _ _ letter_zero h
theorem arm_storeL (x y : Operand) (F G : Nat → Int) (N : Nat) (hx : a.eval x = .pointer (some ⟨N, 0, none⟩)) (hN : w.heap.size = N) (hy : a.eval y = .agg (lcells G))
    (h : wpList Tryd.prog ops Q rest (a.put dst undef) (w.alloc (.cells (lcells G) 25))) :
    wpList Tryd.prog ops Q ({ dst := dst, op := .store 25 x y, type := ty, pos := pos, after := after, guard := none } :: rest) a (w.alloc (.cells (lcells F) 25)) := by
  subst hN
  refine wpList_store_row rfl _ x y rfl w.heap.size (lcells G) hx hy _ _ (heap_alloc_new w _) (by rw [lcells_size]; exact letter_size) (by rw [lcells_size, lcells_size]) (lcells_one G) ?_
  rw [alloc_setRow]
  exact h
/-- A letter read out of a font's block. -/
theorem arm_loadL (x : Operand) (g o : Nat) (F : Nat → Int) (hx : a.eval x = .pointer (some ⟨g, o, none⟩)) (hg : Holds w g 28 (fcells F)) (ho : o + 17 ≤ 1617)
    (h : wpList Tryd.prog ops Q rest (a.put dst (.agg (lcells fun j => F (o + j)))) w) :
    wpList Tryd.prog ops Q ({ dst := dst, op := .load 25 x, type := ty, pos := pos, after := after, guard := none } :: rest) a w := by
  refine wpList_load_mid rfl _ x rfl g o hx (lcells fun j => F (o + j)).toList _ ?_ Tryd.underlying25 rfl (by rw [Array.length_toList, lcells_size]; exact letter_size) (by rw [Array.toArray_toList]; exact h)
  intro j v hv
  obtain ⟨hj, rfl⟩ := lcells_list _ _ _ hv
  rw [hg.cell]
  exact fcells_get F _ (by omega)
end

/-- The height, at a font that may be. -/
theorem height_fine (f : Ft) (hf : f.Fine) (w : World) :
    Calls Tryd.prog 31 #[.agg (fcells f.cell)] w fun e w' => e = .returned (.int .i64 (f.high : Nat)) ∧ Below w.heap.size w w' := by
  have h : f.asc ≤ 16 ∧ f.desc ≤ 16 := by
    rcases hf with h | rfl
    · have := h.top; omega
    · simp [Ft.none]
  have := height_any f.cell w (by rw [Ft.cell_zero]; omega) (by rw [Ft.cell_zero]; omega) (by rw [Ft.cell_one]; omega) (by rw [Ft.cell_one]; omega)
  rw [Ft.cell_zero, Ft.cell_one] at this
  rw [show ((f.high : Nat) : Int) = (f.asc : Int) + (f.desc : Int) by unfold Ft.high; omega]
  exact this

/-- What Glyph hands back: how wide, and the rows in a block of its own. -/
def GlyphIs (l : Lt) (w : World) (e : Ending) (w' : World) : Prop :=
  ∃ g, e = .returned (.agg #[.int .i64 (l.w : Nat), .slice (some ⟨g, 0, none⟩) l.rows.length l.rows.length]) ∧ w.heap.size ≤ g ∧ Holds w' g 3 (ints (l.rows.map Int.ofNat)) ∧ Below w.heap.size w w'

set_option maxRecDepth 100000 in
set_option maxHeartbeats 1000000 in
theorem glyph_any (f : Ft) (hf : f.Good) (b : Nat) (hb : b < 256) (w : World) :
    Calls Tryd.prog 13 #[.agg (fcells f.cell), .int .u8 (b : Int)] w (GlyphIs (f.letter b) w) := by
  obtain ⟨i0, hi0, hz0, hz1, hz2⟩ := info_parts int_info
  have hlow := hf.low
  have htop := hf.top
  have hh : 1 ≤ f.high ∧ f.high ≤ 16 := ⟨hlow, htop⟩
  have ht := height_fine f (.inl hf)
  have hp := placeOf_lt b
  have hne : ((f.high : Int) == 0) = false := by simp; omega
  have HI := Lib.hid hi0
  have HZ0 := Lib.hid hz0
  have HZ1 := Lib.hid hz1
  have HZ2 := Lib.hid hz2
  clear hi0 hz0 hz1 hz2 hlow htop
  go_enter Tryd.func13, Tryd.ntmps13
  go_wp2_with ((with_reducible apply arm_load) <;> try (first | exact rfl | exact heap_alloc2_old _ _ _))
  refine (ht _).mono ?_
  rintro e w1 ⟨rfl, hb1⟩
  have q0 : Holds w1 w.heap.size 28 (fcells f.cell) := Holds.below (heap_alloc2_old _ _ _) hb1 (by simp; omega)
  have q1 : Holds w1 (w.heap.size + 1) 42 #[.int .i64 0, .slice none 0 0] := Holds.below (heap_alloc2_new _ _ _) hb1 (by simp)
  have z1 : w.heap.size + 2 ≤ w1.heap.size := by have := hb1.size; simp at this; omega
  have B1 : Below w.heap.size w w1 := (((Below.refl _ _).alloc (Nat.le_refl _) _).alloc (by simp) _).trans (hb1.mono (by simp; omega))
  clear hb1
  go_wp2_with (first | (go_at_call 32; refine (place_any _ _ hb).mono ?_; rintro e w' ⟨rfl, rfl⟩) | ((with_reducible apply arm_loadL) <;> try (first | exact rfl | exact q0 | omega)) | (with_reducible apply arm_allocL) | ((with_reducible apply arm_storeL) <;> try exact rfl) | ((with_reducible apply arm_load) <;> try (first | exact rfl | exact q0.alloc _)))
  refine (ht _).mono ?_
  rintro e w2 ⟨rfl, hb2⟩
  have q2 : Holds w2 w1.heap.size 25 (lcells fun j => f.cell (2 + placeOf b * 17 + j)) := (Holds.new w1 _ _).below hb2 (by simp)
  have q1' : Holds w2 (w.heap.size + 1) 42 #[.int .i64 0, .slice none 0 0] := (q1.alloc _).below hb2 (by simp; omega)
  have z2 : w1.heap.size < w2.heap.size := q2.lt
  have B2 : Below w.heap.size w w2 := (B1.alloc (by omega) _).trans (hb2.mono (by simp; omega))
  have hl : (f.letter b).rows.length = f.high := hf.rows _ (Ft.letter_mem hf b)
  have hsrc : ∀ j z, ((f.letter b).rows.map Int.ofNat)[j]? = some z → w2.cell? ((⟨w1.heap.size, 1, none⟩ : Addr).add j) = some (.int .i64 z) := by
    intro j z hj
    have hj1 : j < f.high := by
      have := (List.getElem?_eq_some_iff.1 hj).1
      rw [List.length_map, hl] at this
      exact this
    rw [Addr.add_mid, q2.cell, lcells_get _ _ (by omega)]
    rw [show 2 + placeOf b * 17 + (1 + j) = 3 + 17 * placeOf b + j by omega, Ft.cell_row _ _ _ (by omega)]
    rw [List.getElem?_map] at hj
    have hjr : j < (f.letter b).rows.length := by omega
    rw [List.getElem?_eq_getElem hjr] at hj
    injection hj with hj
    rw [← hj]
    have : (f.ls.getD (placeOf b) Lt.none).rows.getD j 0 = (f.letter b).rows[j] := by
      show (f.letter b).rows.getD j 0 = _
      rw [List.getD_eq_getElem?_getD, List.getElem?_eq_getElem hjr]
      rfl
    rw [this]
    rfl
  have hlen : ((f.letter b).rows.map Int.ofNat).length = f.high := by rw [List.length_map, hl]
  have HL := Lib.hid hl
  have HLEN := Lib.hid hlen
  clear hb2 q0 q1 ht hl hlen
  have hw : (lcells fun j => f.cell (2 + placeOf b * 17 + j))[0]? = some (.int .i64 ((f.letter b).w : Nat)) := by
    rw [lcells_get _ _ (by omega), Nat.add_zero, Nat.mul_comm, Ft.cell_w]
    rfl
  have hcw : w2.cell? ⟨w1.heap.size, 0, none⟩ = some (.int .i64 ((f.letter b).w : Nat)) := by rw [q2.cell]; exact hw
  go_wp2_with (first | ((with_reducible apply wpl_makeInts Tryd.underlying40 HI.out HZ0.out HZ1.out HZ2.out) <;> try (first | exact rfl | omega)) | ((with_reducible apply wpl_copyAll Tryd.underlying40 int_size) <;> try (first | exact rfl | exact hsrc | exact HLEN.out | exact zeros_length _ | omega)) | ((with_reducible apply wpl_storeRow (t := 42)) <;> try (first | exact rfl | exact q1'.alloc _ | exact glyph_size | exact one_int_slice _ _ _ _ _)))
  refine bodyPost_ret (results_cell_row rfl _ _ (w.heap.size + 1) 42 _ _ _ rfl ((q1'.alloc _).row _) Tryd.underlying42 rfl glyph_size) rfl ?_
  refine ⟨w2.heap.size, by rw [HL.out], by omega, ?_, below_setRow (B2.alloc (by omega) _) (by omega) _⟩
  exact (Holds.new w2 _ _).rowFar (by omega) _

set_option maxRecDepth 100000 in
set_option maxHeartbeats 1000000 in
theorem glyph_none (b : Nat) (w : World) :
    Calls Tryd.prog 13 #[.agg (fcells Ft.none.cell), .int .u8 (b : Int)] w fun e w' => e = .returned (.agg #[.int .i64 0, .slice none 0 0]) ∧ Below w.heap.size w w' := by
  have ht := height_fine Ft.none (.inr rfl)
  have hz : ((Ft.none.high : Nat) : Int) = 0 := rfl
  rw [hz] at ht
  clear hz
  go_enter Tryd.func13, Tryd.ntmps13
  go_wp2_with ((with_reducible apply arm_load) <;> try (first | exact rfl | exact heap_alloc2_old _ _ _))
  refine (ht _).mono ?_
  rintro e w1 ⟨rfl, hb1⟩
  have q1 : Holds w1 (w.heap.size + 1) 42 #[.int .i64 0, .slice none 0 0] := Holds.below (heap_alloc2_new _ _ _) hb1 (by simp)
  have B1 : Below w.heap.size w w1 := (((Below.refl _ _).alloc (Nat.le_refl _) _).alloc (by simp) _).trans (hb1.mono (by simp; omega))
  clear hb1 ht
  go_wp2_with ((with_reducible apply wpl_storeRow (t := 42)) <;> try (first | exact rfl | exact q1 | exact glyph_size | exact one_int_slice _ _ _ _ _))
  refine bodyPost_ret (results_cell_row rfl _ _ (w.heap.size + 1) 42 _ _ _ rfl (q1.row _) Tryd.underlying42 rfl glyph_size) rfl ?_
  exact ⟨rfl, below_setRow B1 (by omega) _⟩

end Go.Proofs.YtgjfebnafjpcaaaDoor
