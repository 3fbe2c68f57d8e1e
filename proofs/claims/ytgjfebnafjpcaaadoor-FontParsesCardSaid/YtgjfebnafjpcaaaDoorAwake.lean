/-
  The contract of the statements' example: awake returns true.
-/
import Derived.Test.YtgjfebnafjpcaaaDoorGuard
namespace Go.Proofs.YtgjfebnafjpcaaaDoor
open Go.RowKit
set_option maxRecDepth 100000

def tinyStr : ByteArray := { data := #[116, 105, 110, 121] }
def wideStr : ByteArray := { data := #[119, 105, 100, 101] }
theorem builtin_tiny (w : World) : Calls Tryd.prog 9 #[.string { data := #[116, 105, 110, 121] }] w fun e w' => e = .returned (.tuple #[.agg (fcells tiny.cell), .bool true]) ∧ Below w.heap.size w w' := builtin_any tinyStr w
theorem builtin_wide (w : World) : Calls Tryd.prog 9 #[.string { data := #[119, 105, 100, 101] }] w fun e w' => e = .returned (.tuple #[.agg (fcells wide.cell), .bool true]) ∧ Below w.heap.size w w' := builtin_any wideStr w

theorem tiny_A : tiny.letter 65 = ⟨4, [3, 5, 7, 1, 3, 0]⟩ := by kernel_rfl
theorem wide_A : (wide.letter 65).w = 6 := by decide
theorem tiny_AB : tiny.width [65, 66] = 8 := by decide
theorem width_AB (w : World) : Calls Tryd.prog 18 #[.agg (fcells tiny.cell), .string { data := #[65, 66] }] w fun e w' => e = .returned (.int .i64 8) ∧ Below w.heap.size w w' := by
  have := width_fine tiny (.inl tiny_good) { data := #[65, 66] } w (by decide)
  rw [show (tiny.width (ByteArray.mk #[65, 66]).data.toList) = 8 from tiny_AB] at this
  exact this
theorem glyph_A (w : World) : Calls Tryd.prog 13 #[.agg (fcells tiny.cell), .int .u8 65] w (GlyphIs ⟨4, [3, 5, 7, 1, 3, 0]⟩ w) := by
  have := glyph_any tiny tiny_good 65 (by omega) w
  rw [tiny_A] at this
  exact this
theorem glyph_W (w : World) : Calls Tryd.prog 13 #[.agg (fcells wide.cell), .int .u8 65] w fun e w' => ∃ u, e = .returned (.agg #[.int .i64 6, u]) ∧ Below w.heap.size w w' := by
  refine (glyph_any wide wide_good 65 (by omega) w).mono ?_
  rintro e w' ⟨g, rfl, _, _, hb⟩
  rw [wide_A]
  exact ⟨_, rfl, hb⟩
theorem ascent_T (w : World) : Calls Tryd.prog 14 #[.agg (fcells tiny.cell)] w fun e w' => e = .returned (.int .i64 5) ∧ Below w.heap.size w w' := ascent_any tiny.cell w
theorem descent_W (w : World) : Calls Tryd.prog 15 #[.agg (fcells wide.cell)] w fun e w' => e = .returned (.int .i64 2) ∧ Below w.heap.size w w' := descent_any wide.cell w

theorem IntRow.of_holds {w : World} {hi g : Nat} {zs : List Int} (h : Holds w g 3 (ints zs)) (hg : g < hi) : IntRow w hi (.slice (some ⟨g, 0, none⟩) zs.length zs.length) zs :=
  .inr ⟨g, 0, zs.length, ints zs, rfl, hg, Nat.le_refl _, h, fun i z hz => by rw [Nat.zero_add]; exact ints_get zs i z hz⟩
theorem six_ints : #[Value.int .i64 3, Value.int .i64 5, Value.int .i64 7, Value.int .i64 1, Value.int .i64 3, Value.int .i64 0] = ints [3, 5, 7, 1, 3, 0] := by unfold ints; rfl

set_option maxRecDepth 100000 in
set_option maxHeartbeats 1000000 in
theorem awake_any (w : World) : Calls Tryd.prog 8 #[] w fun e w' => e = .returned (.bool true) ∧ Below w.heap.size w w' := by
  go_enter Tryd.func8, Tryd.ntmps8
  go_wp2_with fail
  refine (builtin_tiny _).mono ?_
  rintro e w1 ⟨rfl, hb1⟩
  have z1 := hb1.size
  go_wp2_with (first | (with_reducible apply arm_alloc) | ((with_reducible apply arm_store) <;> try exact rfl) | ((with_reducible apply arm_load) <;> try (first | exact rfl | exact Holds.new _ _ _)))
  refine (glyph_A _).mono ?_
  rintro e w2 ⟨g2, rfl, hg2, hr2, hb2⟩
  have q2 : Holds w2 w1.heap.size 28 (fcells tiny.cell) := (Holds.new w1 _ _).below hb2 (by simp)
  have B2 : Below w.heap.size w w2 := (hb1.alloc z1 _).trans (hb2.mono (by simp; omega))
  have z2 : w1.heap.size < w2.heap.size := q2.lt
  clear hb1 hb2
  go_wp2_with fail
  refine (builtin_wide _).mono ?_
  rintro e w3 ⟨rfl, hb3⟩
  have q3 : Holds w3 w1.heap.size 28 (fcells tiny.cell) := (q2.alloc _).below hb3 (by simp; omega)
  have r3 : Holds w3 g2 3 (ints [3, 5, 7, 1, 3, 0]) := (hr2.alloc _).below hb3 (by have := hr2.lt; simp; omega)
  have s3 : Holds w3 w2.heap.size 42 #[.int .i64 4, .slice (some ⟨g2, 0, none⟩) 6 6] := (Holds.new w2 _ _).below hb3 (by simp)
  have B3 : Below w.heap.size w w3 := (B2.alloc (by omega) _).trans (hb3.mono (by simp; omega))
  have z3 : w2.heap.size < w3.heap.size := s3.lt
  clear hb3 q2 hr2 hg2 B2
  go_wp2_with (first | (with_reducible apply arm_alloc) | ((with_reducible apply arm_store) <;> try exact rfl) | ((with_reducible apply wpl_loadRowG (t := 42) (hu := Tryd.underlying42) (hd := rfl)) <;> try (first | exact rfl | exact s3.alloc _ | exact glyph_size)))
  have lg : g2 < w3.heap.size := r3.lt
  have k1 := ((r3.alloc (.cells (fcells wide.cell) 28)).alloc (.cells #[Value.int .i64 3, Value.int .i64 5, Value.int .i64 7, Value.int .i64 1, Value.int .i64 3, Value.int .i64 0] 3))
  have k2 := Holds.new (w3.alloc (.cells (fcells wide.cell) 28)) 3 #[Value.int .i64 3, Value.int .i64 5, Value.int .i64 7, Value.int .i64 1, Value.int .i64 3, Value.int .i64 0]
  have k3 := ((q3.alloc (.cells (fcells wide.cell) 28)).alloc (.cells #[Value.int .i64 3, Value.int .i64 5, Value.int .i64 7, Value.int .i64 1, Value.int .i64 3, Value.int .i64 0] 3))
  have k4 := ((Holds.new w3 28 (fcells wide.cell)).alloc (.cells #[Value.int .i64 3, Value.int .i64 5, Value.int .i64 7, Value.int .i64 1, Value.int .i64 3, Value.int .i64 0] 3))
  have k5 := ((B3.alloc (by omega) (.cells (fcells wide.cell) 28)).alloc (by simp; omega) (.cells #[Value.int .i64 3, Value.int .i64 5, Value.int .i64 7, Value.int .i64 1, Value.int .i64 3, Value.int .i64 0] 3))
  generalize hW : ((w3.alloc (.cells (fcells wide.cell) 28)).alloc (.cells #[Value.int .i64 3, Value.int .i64 5, Value.int .i64 7, Value.int .i64 1, Value.int .i64 3, Value.int .i64 0] 3)) = W at k1 k2 k3 k4 k5 ⊢
  clear hW
  rw [six_ints] at k2
  simp only [World.size_alloc] at k2
  refine (same_any ⟨4, [3, 5, 7, 1, 3, 0]⟩ (by decide) _ _ W (IntRow.of_holds (zs := [3, 5, 7, 1, 3, 0]) k1 k1.lt) (IntRow.of_holds (zs := [3, 5, 7, 1, 3, 0]) k2 k2.lt)).mono ?_
  rintro e w4 ⟨rfl, hb4⟩
  have q4 := k3.below hb4 k3.lt
  have p4 := k4.below hb4 k4.lt
  have zW : w.heap.size ≤ W.heap.size := k5.size
  have B4 := k5.trans (hb4.mono zW)
  clear k1 k2 k3 k4 k5 hb4 zW
  go_wp2_with ((with_reducible apply arm_loadG) <;> try (first | exact rfl | exact q4 | exact p4))
  refine (width_AB _).mono ?_
  rintro e w5 ⟨rfl, hb5⟩
  have q5 := q4.below hb5 q4.lt
  have p5 := p4.below hb5 p4.lt
  have B5 := B4.trans (hb5.mono B4.size)
  clear hb5 q4 p4 B4
  have hfd := glyph_field
  go_wp2_with ((with_reducible apply arm_loadG) <;> try (first | exact rfl | exact q5 | exact p5))
  refine (glyph_W _).mono ?_
  rintro e w6 ⟨u6, rfl, hb6⟩
  have q6 := q5.below hb6 q5.lt
  have p6 := p5.below hb6 p5.lt
  have B6 := B5.trans (hb6.mono B5.size)
  clear hb6 q5 p5 B5
  go_wp2_with ((with_reducible apply arm_loadG) <;> try (first | exact rfl | exact q6 | exact p6))
  refine (ascent_T _).mono ?_
  rintro e w7 ⟨rfl, hb7⟩
  have q7 := q6.below hb7 q6.lt
  have p7 := p6.below hb7 p6.lt
  have B7 := B6.trans (hb7.mono B6.size)
  clear hb7 q6 p6 B6
  go_wp2_with ((with_reducible apply arm_loadG) <;> try (first | exact rfl | exact q7 | exact p7))
  refine (descent_W _).mono ?_
  rintro e w8 ⟨rfl, hb8⟩
  have B8 := B7.trans (hb8.mono B7.size)
  clear hb8 q7 p7 B7
  go_wp2
  go_ret
  exact ⟨rfl, B8⟩

end Go.Proofs.YtgjfebnafjpcaaaDoor
