/-
  The program's font as a value: 1617 cells, all integers; the contracts of its small methods: height, place, Ascent, Descent, Width.
-/
import Derived.Test.YtgjfebnafjpcaaaDoorProg
import Derived.Test.YtgjfebnafjpcaaaDoorMem
import Derived.Test.YtgjfebnafjpcaaaDoorSpec
namespace Go.Proofs.YtgjfebnafjpcaaaDoor
open Go.RowKit

/-- The cells of a font: cell i holds F i. -/
def fcells (F : Nat → Int) : Array Value := ((List.range 1617).map fun i => Value.int .i64 (F i)).toArray
theorem fcells_size (F : Nat → Int) : (fcells F).size = 1617 := by simp [fcells]
theorem fcells_get (F : Nat → Int) (i : Nat) (h : i < 1617) : (fcells F)[i]? = some (.int .i64 (F i)) := by simp [fcells, h]
theorem fcells_ext (F G : Nat → Int) (h : ∀ i, i < 1617 → F i = G i) : fcells F = fcells G := by
  have e : ((List.range 1617).map fun i => Value.int .i64 (F i)) = ((List.range 1617).map fun i => Value.int .i64 (G i)) := List.map_congr_left fun i hi => by rw [h i (List.mem_range.1 hi)]
  unfold fcells
  rw [e]
theorem fcells_set (F : Nat → Int) (i : Nat) (n : Int) : (fcells F).setIfInBounds i (.int .i64 n) = fcells (fun j => if j = i then n else F j) := by
  apply Array.ext_getElem?
  intro j
  rw [Array.getElem?_setIfInBounds]
  by_cases hj : j < 1617
  · rw [fcells_get _ _ hj, fcells_get _ _ hj, fcells_size]
    by_cases hij : i = j
    · subst hij; simp [hj]
    · simp [hij, Ne.symm hij]
  · have h1 : (fcells F)[j]? = none := Array.getElem?_eq_none (by rw [fcells_size]; omega)
    have h2 : (fcells fun j => if j = i then n else F j)[j]? = none := Array.getElem?_eq_none (by rw [fcells_size]; omega)
    rw [h1, h2, fcells_size]
    by_cases hij : i = j
    · subst hij; simp [hj]
    · simp [hij]
theorem fcells_one (F : Nat → Int) : (fcells F).all (·.oneCell') = true := by
  unfold fcells
  simp [Value.oneCell']

theorem font_zero (w : World) : (zeroValue 28).run Tryd.prog w = .ok (.agg (fcells fun _ => 0)) w := by kernel_rfl
theorem font_size : (Tryd.prog.info? 28).map (·.size) = some 1617 := by kernel_rfl

attribute [irreducible] fcells

theorem font_build (a d : Int) (w : World) : (Instr.build 28 #[(0, .int .i64 a), (1, .int .i64 d)]).run Tryd.prog w = .ok (.agg (fcells fun i => if i = 0 then a else if i = 1 then d else 0)) w := by kernel_rfl
theorem font_build0 (w : World) : (Instr.build 28 #[]).run Tryd.prog w = .ok (.agg (fcells fun _ => 0)) w := by kernel_rfl
theorem font_under : ∃ fs, Tryd.prog.underlying 28 = some (.struct fs) := ⟨_, Tryd.underlying28⟩

/-! The operations on whole fonts, as the walk meets them. -/
section
variable {ops : Array Oper} {rest : List Oper} {a : Act} {w : World} {Q : Exit → Act → World → Prop} {dst : Option Tmp} {ty : TypeId} {pos : String} {after : Array Edge}
theorem arm_alloc (h : wpList Tryd.prog ops Q rest (a.put dst (.pointer (some ⟨w.heap.size, 0, none⟩))) (w.alloc (.cells (fcells fun _ => 0) 28))) :
    wpList Tryd.prog ops Q ({ dst := dst, op := .alloc 28, type := ty, pos := pos, after := after, guard := none } :: rest) a w := wpl_alloc _ _ font_zero h
theorem arm_build (x y : Operand) (m n : Int) (hx : a.eval x = .int .i64 m) (hy : a.eval y = .int .i64 n)
    (h : wpList Tryd.prog ops Q rest (a.put dst (.agg (fcells fun i => if i = 0 then m else if i = 1 then n else 0))) w) :
    wpList Tryd.prog ops Q ({ dst := dst, op := .build 28 #[(0, x), (1, y)], type := ty, pos := pos, after := after, guard := none } :: rest) a w := by
  refine wpl_run rfl _ _ ?_ h
  simp [execOp, hx, hy, font_build]
theorem arm_build0 (h : wpList Tryd.prog ops Q rest (a.put dst (.agg (fcells fun _ => 0))) w) :
    wpList Tryd.prog ops Q ({ dst := dst, op := .build 28 #[], type := ty, pos := pos, after := after, guard := none } :: rest) a w := by
  refine wpl_run rfl _ _ ?_ h
  simp [execOp, font_build0]
/-- A font stored into the block that has just been laid for it. -/
theorem arm_store (x y : Operand) (F G : Nat → Int) (N : Nat) (hx : a.eval x = .pointer (some ⟨N, 0, none⟩)) (hN : w.heap.size = N) (hy : a.eval y = .agg (fcells G))
    (h : wpList Tryd.prog ops Q rest (a.put dst undef) (w.alloc (.cells (fcells G) 28))) :
    wpList Tryd.prog ops Q ({ dst := dst, op := .store 28 x y, type := ty, pos := pos, after := after, guard := none } :: rest) a (w.alloc (.cells (fcells F) 28)) := by
  subst hN
  refine wpList_store_row rfl _ x y rfl w.heap.size (fcells G) hx hy _ _ (heap_alloc_new w _) (by rw [fcells_size]; exact font_size) (by rw [fcells_size, fcells_size]) (fcells_one G) ?_
  rw [alloc_setRow]
  exact h
/-- A font stored into an elder block. -/
theorem arm_storeAt (x y : Operand) (g : Nat) (F G : Nat → Int) (hx : a.eval x = .pointer (some ⟨g, 0, none⟩)) (hy : a.eval y = .agg (fcells G)) (hg : Holds w g 28 (fcells F))
    (h : wpList Tryd.prog ops Q rest (a.put dst undef) (w.setRow g (fcells G))) :
    wpList Tryd.prog ops Q ({ dst := dst, op := .store 28 x y, type := ty, pos := pos, after := after, guard := none } :: rest) a w :=
  wpList_store_row rfl _ x y rfl g (fcells G) hx hy _ _ hg (by rw [fcells_size]; exact font_size) (by rw [fcells_size, fcells_size]) (fcells_one G) h
theorem arm_load (x : Operand) (g : Nat) (F : Nat → Int) (hx : a.eval x = .pointer (some ⟨g, 0, none⟩)) (hg : Holds w g 28 (fcells F))
    (h : wpList Tryd.prog ops Q rest (a.put dst (.agg (fcells F))) w) :
    wpList Tryd.prog ops Q ({ dst := dst, op := .load 28 x, type := ty, pos := pos, after := after, guard := none } :: rest) a w :=
  wpList_load_row rfl _ x rfl g hx _ _ _ _ hg Tryd.underlying28 rfl (by rw [fcells_size]; exact font_size) h
end

set_option maxHeartbeats 400000 in
theorem height_any (F : Nat → Int) (w : World) (h0 : 0 ≤ F 0) (h1 : F 0 ≤ 16) (h2 : 0 ≤ F 1) (h3 : F 1 ≤ 16) :
    Calls Tryd.prog 31 #[.agg (fcells F)] w fun e w' => e = .returned (.int .i64 (F 0 + F 1)) ∧ Below w.heap.size w w' := by
  have c0 := fcells_get F 0 (by omega)
  have c1 := fcells_get F 1 (by omega)
  go_enter Tryd.func31, Tryd.ntmps31
  go_wp2
  go_ret
  exact ⟨rfl, (Below.refl _ _).alloc (Nat.le_refl _) _⟩

set_option maxHeartbeats 400000 in
theorem ascent_any (F : Nat → Int) (w : World) :
    Calls Tryd.prog 14 #[.agg (fcells F)] w fun e w' => e = .returned (.int .i64 (F 0)) ∧ Below w.heap.size w w' := by
  have c0 := fcells_get F 0 (by omega)
  go_enter Tryd.func14, Tryd.ntmps14
  go_wp2
  go_ret
  exact ⟨rfl, (Below.refl _ _).alloc (Nat.le_refl _) _⟩

set_option maxHeartbeats 400000 in
theorem descent_any (F : Nat → Int) (w : World) :
    Calls Tryd.prog 15 #[.agg (fcells F)] w fun e w' => e = .returned (.int .i64 (F 1)) ∧ Below w.heap.size w w' := by
  have c1 := fcells_get F 1 (by omega)
  go_enter Tryd.func15, Tryd.ntmps15
  go_wp2
  go_ret
  exact ⟨rfl, (Below.refl _ _).alloc (Nat.le_refl _) _⟩

set_option maxHeartbeats 400000 in
theorem place_any (b : Nat) (w : World) (hb : b < 256) :
    Calls Tryd.prog 32 #[.int .u8 (b : Int)] w fun e w' => e = .returned (.int .i64 (placeOf b : Nat)) ∧ w = w' := by
  unfold placeOf
  by_cases h1 : b < 32
  · rw [if_pos (Or.inl h1)]
    go_enter Tryd.func32, Tryd.ntmps32
    go_wp2
    go_ret
    exact ⟨rfl, rfl⟩
  · by_cases h2 : 126 < b
    · rw [if_pos (Or.inr h2)]
      go_enter Tryd.func32, Tryd.ntmps32
      go_wp2
      go_ret
      exact ⟨rfl, rfl⟩
    · rw [if_neg (by omega)]
      have hs : ((b - 32 : Nat) : Int) = (b : Int) - 32 := by omega
      have HS := Lib.hid hs
      clear hs
      go_enter Tryd.func32, Tryd.ntmps32
      go_wp2
      go_ret
      exact ⟨by rw [HS.out]; rfl, rfl⟩

/-- How wide the letters of a text are together. -/
def widthF (F : Nat → Int) (l : List UInt8) : Int := (l.map fun b => F (2 + 17 * placeOf b.toNat)).sum
theorem widthF_nil (F : Nat → Int) : widthF F [] = 0 := rfl
theorem widthF_append (F : Nat → Int) (l m : List UInt8) : widthF F (l ++ m) = widthF F l + widthF F m := by simp [widthF, List.sum_append]
theorem widthF_bounds (F : Nat → Int) (hF : ∀ k, k < 95 → 0 ≤ F (2 + 17 * k) ∧ F (2 + 17 * k) ≤ 16) (l : List UInt8) : 0 ≤ widthF F l ∧ widthF F l ≤ 16 * l.length := by
  induction l with
  | nil => simp [widthF]
  | cons b l ih =>
    have h := hF (placeOf b.toNat) (placeOf_lt _)
    have e : widthF F (b :: l) = F (2 + 17 * placeOf b.toNat) + widthF F l := by simp [widthF]
    rw [e, List.length_cons]
    omega
theorem take_snoc (s : ByteArray) (k : Nat) (h : k < s.size) : s.data.toList.take (k + 1) = s.data.toList.take k ++ [s[k]] := by
  rw [List.take_succ_eq_append_getElem (by simpa using h)]; rfl

set_option maxHeartbeats 400000 in
theorem width_any (F : Nat → Int) (s : ByteArray) (w : World) (hs : s.size ≤ 1099511627776) (hF : ∀ k, k < 95 → 0 ≤ F (2 + 17 * k) ∧ F (2 + 17 * k) ≤ 16) :
    Calls Tryd.prog 18 #[.agg (fcells F), .string s] w fun e w' => e = .returned (.int .i64 (widthF F s.data.toList)) ∧ Below w.heap.size w w' := by
  have HF := Lib.hid hF
  clear hF
  go_enter Tryd.func18, Tryd.ntmps18
  go_wp2
  go_loop [5, 9] (fun n i => ∃ k : Nat, k ≤ s.size ∧ i = .int .i64 k ∧ n = .int .i64 (widthF F (s.data.toList.take k))) (fun _ i => s.size - (intOf i).toNat)
  case atStart => exact ⟨0, Nat.zero_le _, rfl, rfl⟩
  case round =>
    obtain ⟨k, hk, rfl, rfl⟩ := hrel
    by_cases hlt : k < s.size
    · have hb := widthF_bounds F HF.out (s.data.toList.take k)
      have hl : (s.data.toList.take k).length ≤ k := List.length_take_le _ _
      have hp := placeOf_lt s[k].toNat
      have hf := HF.out (placeOf s[k].toNat) hp
      have e : widthF F (s.data.toList.take (k + 1)) = widthF F (s.data.toList.take k) + F (2 + 17 * placeOf s[k].toNat) := by rw [take_snoc s k hlt, widthF_append]; simp [widthF]
      have HS := Lib.hid e
      clear e
      have hc : (fcells F)[2 + placeOf s[k].toNat * 17]? = some (.int .i64 (F (2 + 17 * placeOf s[k].toNat))) := by rw [Nat.mul_comm]; exact fcells_get F _ (by omega)
      go_wp2_with (go_at_call 32; refine (place_any _ _ (by exact s[k].toNat_lt)).mono ?_; rintro e w' ⟨rfl, rfl⟩)
      go_round
      case rel => exact ⟨k + 1, by omega, by go_num, by rw [HS.out]⟩
      case measure => simp [intOf]; omega
    · go_wp2
      go_ret
      exact ⟨by rw [List.take_of_length_le (by simp; omega)]; rfl, (Below.refl _ _).alloc (Nat.le_refl _) _⟩

end Go.Proofs.YtgjfebnafjpcaaaDoor
