/-
  Laws on memory, over whatever program: operations on values of many cells; a block that is known whole. No program is named here.
-/
import Derived.WalkKit
import Derived.WalkSpells
import Derived.WalkLawsBesides
import Derived.Deep.MidRow
import Derived.Lib.Hide
namespace Go.Proofs.YtgjfebnafjpcaaaDoor
open Go.RowKit

/-- Block g is just the cells cs, of element type t, none of them frozen. -/
def Holds (w : World) (g : Nat) (t : TypeId) (cs : Array Value) : Prop := w.heap[g]? = some (.cells cs t (0, 0))

section
variable {w w' : World} {g : Nat} {t : TypeId} {cs : Array Value}
theorem Holds.lt (h : Holds w g t cs) : g < w.heap.size := by
  rcases Nat.lt_or_ge g w.heap.size with hlt | hge
  · exact hlt
  · unfold Holds at h; rw [Array.getElem?_eq_none hge] at h; cases h
theorem Holds.cell (h : Holds w g t cs) (i : Nat) : w.cell? ⟨g, i, none⟩ = cs[i]? := cell_of_row w g i cs t (0, 0) h
theorem Holds.frozen (h : Holds w g t cs) (i : Nat) : w.frozen? ⟨g, i, none⟩ = false := frozen_of_row w g i cs t h
theorem Holds.new (w : World) (t : TypeId) (cs : Array Value) : Holds (w.alloc (.cells cs t)) w.heap.size t cs := heap_alloc_new w _
theorem Holds.drew (h : Holds w g t cs) : Holds w.drew g t cs := h
theorem Holds.drewN (h : Holds w g t cs) (n : Nat) : Holds (w.drewN n) g t cs := h
theorem Holds.alloc (h : Holds w g t cs) (o : Obj) : Holds (w.alloc o) g t cs := (Below.heap_alloc w o g h.lt).trans h
theorem Holds.set (h : Holds w g t cs) (i : Nat) (u : Value) : Holds (w.setCell ⟨g, i, none⟩ u) g t (cs.setIfInBounds i u) := by
  unfold Holds at h ⊢
  simp [World.setCell, Array.getElem?_modify, h]
theorem Holds.setFar (h : Holds w g t cs) {p : Addr} (hp : g ≠ p.block) (u : Value) : Holds (w.setCell p u) g t cs := (Below.heap_setCell w p u g hp).trans h
theorem Holds.row (h : Holds w g t cs) (cs' : Array Value) : Holds (w.setRow g cs') g t cs' := setRow_heap w g cs cs' t (0, 0) h
theorem Holds.rowFar (h : Holds w g t cs) {k : Nat} (hk : g ≠ k) (cs' : Array Value) : Holds (w.setRow k cs') g t cs := (setRow_other w k g cs' hk).trans h
theorem Holds.below {B : Nat} (h : Holds w g t cs) (hb : Below B w w') (hg : g < B) : Holds w' g t cs := (hb.block g hg).trans h
theorem Holds.grown {row : Option Nat} (h : Holds w g t cs) (hb : w.grownBy w' row) (hg : some g ≠ row) : Holds w' g t cs := (hb.block g h.lt hg).trans h

theorem below_setRow {B : Nat} {a w : World} (h : Below B a w) {k : Nat} (hk : B ≤ k) (cs : Array Value) : Below B a (w.setRow k cs) :=
  h.trans ⟨rfl, rfl, rfl, by simp, fun i hi => setRow_other w k i cs (by omega)⟩
theorem below_drewN {B : Nat} {a w : World} (h : Below B a w) (n : Nat) : Below B a (w.drewN n) := ⟨h.os, h.tape, h.output, h.size, h.block⟩
theorem alloc_setRow (w : World) (cs cs' : Array Value) (t : TypeId) : (w.alloc (.cells cs t)).setRow w.heap.size cs' = w.alloc (.cells cs' t) := by
  simp only [World.setRow, World.alloc]
  congr 1
  apply Array.ext_getElem?
  intro i
  rw [Array.getElem?_modify, Array.getElem?_push, Array.getElem?_push]
  by_cases hi : i = w.heap.size
  · subst hi; simp
  · simp [hi, Ne.symm hi]
/-- All that lay below B reads as before, cell by cell. -/
theorem below_reads {B : Nat} (hb : Below B w w') : (∀ b o, b < B → w'.cell? ⟨b, o, none⟩ = w.cell? ⟨b, o, none⟩) ∧ (∀ b o, b < B → w'.frozen? ⟨b, o, none⟩ = w.frozen? ⟨b, o, none⟩) :=
  ⟨fun b o h => hb.cell (p := ⟨b, o, none⟩) h, fun b o h => hb.frozen (p := ⟨b, o, none⟩) h⟩
end

section
variable {P : Program} {ops : Array Oper} {rest : List Oper} {a : Act} {w : World} {Q : Exit → Act → World → Prop}
  {dst : Option Tmp} {d : Tmp} {ty : TypeId} {pos : String} {after : Array Edge}

/-- An operation whose run is known: it yields v and leaves w'. -/
theorem wpl_run {o : Oper} (hg : o.guard = none) (v : Value) (w' : World) (hrun : (execOp a.eval o).run P w = .ok (.value v) w')
    (h : wpList P ops Q rest (a.put o.dst v) w') : wpList P ops Q (o :: rest) a w := by
  refine wpList_plain hg fun K hK => ?_
  unfold Oper.wp
  rw [hrun, Oper.upon_value]
  exact hK _ _ h

/-- A new variable of a type whose zero value is known. -/
theorem wpl_alloc (t : TypeId) (z : Array Value) (hz : ∀ w : World, (zeroValue t).run P w = .ok (.agg z) w)
    (h : wpList P ops Q rest (a.put dst (.pointer (some ⟨w.heap.size, 0, none⟩))) (w.alloc (.cells z t))) :
    wpList P ops Q ({ dst := dst, op := .alloc t, type := ty, pos := pos, after := after, guard := none } :: rest) a w := by
  refine wpl_run rfl _ _ ?_ h
  simp [execOp, Instr.alloc, hz, newVar, newRow, newObj, Value.cells]
  rfl

/-- A function's two results: a struct that lies in a block, and a slot. -/
theorem results_row_tmp {fn : Func} {p t : Tmp} {tt : TypeId} (h : fn.results = #[.cell p tt, .tmp t]) (tmps : Array Value) (w : World) (g : Nat) (e : TypeId) (cs : Array Value) (dd : TypeDesc)
    (hp : tmps.getD p undef = .pointer (some ⟨g, 0, none⟩)) (hg : Holds w g e cs) (hu : P.underlying tt = some dd) (hd : (match dd with | .struct _ | .array _ _ => true | _ => false) = true) (hi : (P.info? tt).map (·.size) = some cs.size) :
    (results fn tmps).run P w = .ok (.tuple #[.agg cs, tmps.getD t undef]) w := by
  have hp' : tmps[p]?.getD undef = .pointer (some ⟨g, 0, none⟩) := by simpa using hp
  simp [results, h, hp', asAddr, run_loadVar_row w g e tt cs (0, 0) dd hg hu hd hi]

/-- A struct or array literal without parts: the type's zero value. -/
theorem wpl_build0 (t : TypeId) (z : Array Value) (hz : ∀ w : World, (zeroValue t).run P w = .ok (.agg z) w) (hb : ∀ w : World, (Instr.build t #[]).run P w = .ok (.agg z) w)
    (h : wpList P ops Q rest (a.put dst (.agg z)) w) :
    wpList P ops Q ({ dst := dst, op := .build t #[], type := ty, pos := pos, after := after, guard := none } :: rest) a w := by
  have _ := hz
  refine wpl_run rfl _ _ ?_ h
  simp [execOp, hb]
end
end Go.Proofs.YtgjfebnafjpcaaaDoor
