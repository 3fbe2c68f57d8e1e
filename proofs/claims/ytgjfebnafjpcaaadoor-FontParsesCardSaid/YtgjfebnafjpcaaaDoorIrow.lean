/-
  Laws on rows of integers and on small structs, over whatever program.
-/
import Derived.Test.YtgjfebnafjpcaaaDoorMem
import Derived.Laws.CopyOwn
namespace Go.Proofs.YtgjfebnafjpcaaaDoor
open Go.RowKit

/-- The cells of a row of integers. -/
def ints (l : List Int) : Array Value := (l.map (Value.int .i64)).toArray
theorem ints_size (l : List Int) : (ints l).size = l.length := by simp [ints]
theorem ints_get (l : List Int) (i : Nat) (n : Int) (h : l[i]? = some n) : (ints l)[i]? = some (.int .i64 n) := by
  unfold ints
  rw [List.getElem?_toArray, List.getElem?_map, h]
  rfl
theorem ints_one (l : List Int) : (ints l).all (·.oneCell') = true := by
  unfold ints
  simp [Value.oneCell']
theorem ints_toList (l : List Int) : (ints l).toList = l.map (Value.int .i64) := by simp [ints]
theorem ints_nil : ints [] = #[] := rfl
/-- n noughts. -/
def zeros (n : Nat) : List Int := List.replicate n 0
theorem zeros_length (n : Nat) : (zeros n).length = n := by simp [zeros]
attribute [irreducible] ints zeros

section
variable {P : Program} {ops : Array Oper} {rest : List Oper} {a : Act} {w : World} {Q : Exit → Act → World → Prop}
  {dst : Option Tmp} {ty : TypeId} {pos : String} {after : Array Edge}

/-- A struct stored into a block of its own. -/
theorem wpl_storeRow {t : TypeId} (x y : Operand) (g : Nat) (e : TypeId) (old cells : Array Value) (hx : a.eval x = .pointer (some ⟨g, 0, none⟩)) (hy : a.eval y = .agg cells) (hg : Holds w g e old)
    (hi : (P.info? t).map (·.size) = some cells.size) (ho : old.size = cells.size) (h1 : cells.all (·.oneCell') = true)
    (h : wpList P ops Q rest (a.put dst undef) (w.setRow g cells)) :
    wpList P ops Q ({ dst := dst, op := .store t x y, type := ty, pos := pos, after := after, guard := none } :: rest) a w :=
  wpList_store_row rfl _ x y rfl g cells hx hy _ _ hg hi ho h1 h
/-- A struct read out of a block of its own. -/
theorem wpl_loadRow {t : TypeId} (x : Operand) (g : Nat) (e : TypeId) (cells : Array Value) (dd : TypeDesc) (hx : a.eval x = .pointer (some ⟨g, 0, none⟩)) (hg : Holds w g e cells)
    (hu : P.underlying t = some dd) (hd : (match dd with | .struct _ | .array _ _ => true | _ => false) = true) (hi : (P.info? t).map (·.size) = some cells.size)
    (h : wpList P ops Q rest (a.put dst (.agg cells)) w) :
    wpList P ops Q ({ dst := dst, op := .load t x, type := ty, pos := pos, after := after, guard := none } :: rest) a w :=
  wpList_load_row rfl _ x rfl g hx _ _ _ _ hg hu hd hi h

/-- 'make([]int, n)'. -/
theorem run_makeInts (t e : TypeId) (i : TypeInfo) (ht : P.underlying t = some (.slice e)) (hi : P.info? e = some i) (hz : i.zero = some (.int .i64 0)) (hs : i.size = 1) (hb : i.bytes = 8) (n : Nat) (hn : n ≤ 1099511627776) (w : World) :
    (Instr.makeSlice t (.int .i64 (n : Int)) (.int .i64 (n : Int))).run P w = .ok (.slice (some ⟨w.heap.size, 0, none⟩) n n) (w.alloc (.cells (ints (zeros n)) e)) := by
  have h := run_make (P := P) w t e i _ ht hi hz .i64 .i64 (n : Int) (n : Int) (by omega) (by omega) (by rw [hb]; omega) (by omega)
  simp only [Int.toNat_natCast, hs, Nat.mul_one] at h
  rw [h]
  congr 3
  unfold ints zeros madeCells
  apply Array.ext_getElem?
  intro j
  by_cases hj : j < n
  · simp [hj, Value.cells, Nat.mod_one]
  · simp [hj]
theorem wpl_makeInts {t e : TypeId} {i : TypeInfo} (ht : P.underlying t = some (.slice e)) (hi : P.info? e = some i) (hz : i.zero = some (.int .i64 0)) (hs : i.size = 1) (hb : i.bytes = 8)
    (x y : Operand) (n : Nat) (hx : a.eval x = .int .i64 (n : Int)) (hy : a.eval y = .int .i64 (n : Int)) (hn : n ≤ 1099511627776)
    (h : wpList P ops Q rest (a.put dst (.slice (some ⟨w.heap.size, 0, none⟩) n n)) (w.alloc (.cells (ints (zeros n)) e))) :
    wpList P ops Q ({ dst := dst, op := .makeSlice t x y, type := ty, pos := pos, after := after, guard := none } :: rest) a w := by
  refine wpl_run rfl _ _ ?_ h
  simp [execOp, hx, hy, run_makeInts t e i ht hi hz hs hb n hn]

/-- 'copy' over the whole of a row that has just been laid. -/
theorem wpl_copyAll {t e : TypeId} (ht : P.underlying t = some (.slice e)) (hi : (P.info? e).map (·.size) = some 1) (x y : Operand) (N n : Nat) (dCap : Nat) (ad : Addr) (m c : Nat) (old : List Int) (zs : List Int)
    (hx : a.eval x = .slice (some ⟨N, 0, none⟩) n dCap) (hN : w.heap.size = N) (hy : a.eval y = .slice (some ad) m c) (hnm : n ≤ m) (hz : zs.length = n) (ho : old.length = n)
    (hsrc : ∀ j z, zs[j]? = some z → w.cell? (ad.add j) = some (.int .i64 z))
    (h : wpList P ops Q rest (a.put dst (goInt n)) (w.alloc (.cells (ints zs) e))) :
    wpList P ops Q ({ dst := dst, op := .call { callee := .builtin .copy, args := #[x, y], argTypes := #[t, t] }, type := ty, pos := pos, after := after, guard := none } :: rest) a (w.alloc (.cells (ints old) e)) := by
  subst hN
  refine wpList_copy_own rfl x y t t rfl e ht hi w.heap.size 0 n dCap ad m c hx hy (ints old) e (heap_alloc_new w _) (zs.map (Value.int .i64)) (by rw [List.length_map, hz]; exact (Nat.min_eq_right hnm).symm) ?_ (by rw [List.length_map, hz, ints_size, ho]; omega) (by simp [Value.oneCell']) ?_
  · intro j v hv
    rw [List.getElem?_map] at hv
    cases hj : zs[j]? with
    | none => rw [hj] at hv; cases hv
    | some z =>
      rw [hj] at hv
      injection hv with hv
      subst hv
      have hc := hsrc j z hj
      rw [World.cell?_alloc_lt _ _ _ (World.block_lt_of_cell? w _ hc)]
      exact hc
  · rw [alloc_setRow]
    have e1 : ((ints old).toList.take 0 ++ (zs.map (Value.int .i64) ++ (ints old).toList.drop (0 + (zs.map (Value.int .i64)).length))).toArray = ints zs := by
      rw [ints_toList, List.drop_of_length_le (by simp [hz, ho])]
      simp [ints]
    rw [e1, List.length_map, hz]
    exact h
end
end Go.Proofs.YtgjfebnafjpcaaaDoor
