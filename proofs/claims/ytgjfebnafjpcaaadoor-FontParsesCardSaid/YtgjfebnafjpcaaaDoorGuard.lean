/-
  Loads of whole structs that stand behind a guard which says yes.
-/
import Derived.Test.YtgjfebnafjpcaaaDoorSame
namespace Go.Proofs.YtgjfebnafjpcaaaDoor
open Go.RowKit
set_option maxRecDepth 100000

section
variable {P : Program} {ops : Array Oper} {rest : List Oper} {a : Act} {w : World} {Q : Exit → Act → World → Prop}
  {dst : Option Tmp} {ty : TypeId} {pos : String} {after : Array Edge} {gd : Option (Nat × Bool)}
theorem wpl_want {o : Oper} (hw : Region.wanted o (yielded ops a.tmps) = true) (h : ∀ K : Act → World → Prop, (∀ a w, wpList P ops Q rest a w → K a w) → o.wp P a w K Q) : wpList P ops Q (o :: rest) a w :=
  wpList_step fun K hK => by rw [if_pos hw]; exact h K hK
theorem wpl_loadRowG {t : TypeId} (x : Operand) (g : Nat) (e : TypeId) (cells : Array Value) (dd : TypeDesc) (hw : Region.wanted { dst := dst, op := .load t x, type := ty, pos := pos, after := after, guard := gd } (yielded ops a.tmps) = true)
    (hx : a.eval x = .pointer (some ⟨g, 0, none⟩)) (hg : Holds w g e cells)
    (hu : P.underlying t = some dd) (hd : (match dd with | .struct _ | .array _ _ => true | _ => false) = true) (hi : (P.info? t).map (·.size) = some cells.size)
    (h : wpList P ops Q rest (a.put dst (.agg cells)) w) :
    wpList P ops Q ({ dst := dst, op := .load t x, type := ty, pos := pos, after := after, guard := gd } :: rest) a w :=
  wpl_want hw fun _ hK => wp_load_row t x rfl g hx e cells (0, 0) dd hg hu hd hi (hK _ _ h)
/-- A struct stored into the block that has just been laid for it. -/
theorem wpl_storeNew {t e : TypeId} (x y : Operand) (N : Nat) (old cells : Array Value) (hx : a.eval x = .pointer (some ⟨N, 0, none⟩)) (hN : w.heap.size = N) (hy : a.eval y = .agg cells)
    (hi : (P.info? t).map (·.size) = some cells.size) (ho : old.size = cells.size) (h1 : cells.all (·.oneCell') = true)
    (h : wpList P ops Q rest (a.put dst undef) (w.alloc (.cells cells e))) :
    wpList P ops Q ({ dst := dst, op := .store t x y, type := ty, pos := pos, after := after, guard := none } :: rest) a (w.alloc (.cells old e)) := by
  subst hN
  refine wpList_store_row rfl _ x y rfl w.heap.size cells hx hy _ _ (heap_alloc_new w _) hi ho h1 ?_
  rw [alloc_setRow]
  exact h
theorem arm_loadG (x : Operand) (g : Nat) (F : Nat → Int) (hw : Region.wanted { dst := dst, op := .load 28 x, type := ty, pos := pos, after := after, guard := gd } (yielded ops a.tmps) = true)
    (hx : a.eval x = .pointer (some ⟨g, 0, none⟩)) (hg : Holds w g 28 (fcells F))
    (h : wpList Tryd.prog ops Q rest (a.put dst (.agg (fcells F))) w) :
    wpList Tryd.prog ops Q ({ dst := dst, op := .load 28 x, type := ty, pos := pos, after := after, guard := gd } :: rest) a w :=
  wpl_loadRowG x g _ _ _ hw hx hg Tryd.underlying28 rfl (by rw [fcells_size]; exact font_size) h
end

end Go.Proofs.YtgjfebnafjpcaaaDoor
