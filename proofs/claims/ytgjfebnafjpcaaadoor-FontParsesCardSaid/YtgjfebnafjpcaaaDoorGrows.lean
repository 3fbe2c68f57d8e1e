/-
  A region that draws its order, whose operations only read and whose callees may lay blocks of their own: one walk in the order of the text, over the class of worlds that have grown.
-/
import Derived.Test.YtgjfebnafjpcaaaDoorGuard
import Derived.Deep.QuietTactic
import Derived.BigQuiet
namespace Go.Proofs.YtgjfebnafjpcaaaDoor
open Go.RowKit

/-- Of what was there nothing has turned. -/
def Grows (W w : World) : Prop := Below W.heap.size W w
theorem Grows.refl (W : World) : Grows W W := Below.refl _ _
theorem Grows.drew {W w : World} (h : Grows W w) : Grows W w.drew := Below.drew h
theorem Grows.trans {W w w' : World} (h : Grows W w) (h' : Below w.heap.size w w') : Grows W w' := Below.trans h (h'.mono (Below.size h))
theorem Grows.holds {W w : World} {g : Nat} {e : TypeId} {cs : Array Value} (h : Grows W w) (hh : Holds W g e cs) : Holds w g e cs := hh.below h hh.lt
theorem grows_all (W : World) (p : Prop) : (∀ w, Grows W w → p) ↔ p := ⟨fun h => h W (Grows.refl W), fun h _ _ => h⟩

section
variable {P : Program} {ops : Array Oper} {rest : List Oper} {a : Act} {C : World → Prop} {Q : Act → Prop}
  {dst : Option Tmp} {ty : TypeId} {pos : String} {after : Array Edge} {gd : Option (Nat × Bool)}
theorem wp_region_grows {id : Nat} {R : Exit → Act → World → Prop} {a : Act} {w : World} {l : List Oper} (hm : P.follows .mixedOrders = true) (hB : Region.lexB .any l.toArray = true)
    (h : wpQuiet P l.toArray (Grows w) (fun a' => ∀ w', Grows w w' → R .normal a' w') l a) : (Code.region id l.toArray true).wp P R a w :=
  wp_region_quiet (C := Grows w) hm hB (Grows.refl w).drew (by simpa using h)
theorem wpq_step {o : Oper} {v : Value} (hw : Region.wanted o (yielded ops a.tmps) = true) (hv : ∀ w, C w → o.quietAt P a C w v) (h : wpQuiet P ops C Q rest (a.put o.dst v)) : wpQuiet P ops C Q (o :: rest) a := by
  unfold wpQuiet
  rw [if_pos hw]
  exact ⟨v, hv, h⟩
theorem wpq_loadRow {t : TypeId} (x : Operand) (g : Nat) (e : TypeId) (cells : Array Value) (dd : TypeDesc) (hw : Region.wanted { dst := dst, op := .load t x, type := ty, pos := pos, after := after, guard := gd } (yielded ops a.tmps) = true)
    (hx : a.eval x = .pointer (some ⟨g, 0, none⟩)) (hg : ∀ w, C w → Holds w g e cells)
    (hu : P.underlying t = some dd) (hd : (match dd with | .struct _ | .array _ _ => true | _ => false) = true) (hi : (P.info? t).map (·.size) = some cells.size)
    (h : wpQuiet P ops C Q rest (a.put dst (.agg cells))) : wpQuiet P ops C Q ({ dst := dst, op := .load t x, type := ty, pos := pos, after := after, guard := gd } :: rest) a := by
  refine wpq_step hw (fun w hC => ?_) h
  unfold Oper.quietAt execOp
  simp only [hx, Instr.loadAt, Instr.sureAddr, Sem.run_bind, Sem.run_pure, Result.andThen_ok, run_loadVar_row w g e t cells (0, 0) dd (hg w hC) hu hd hi]
  exact ⟨rfl, rfl⟩
theorem wpq_loadFont (x : Operand) (g : Nat) (F : Nat → Int) (hw : Region.wanted { dst := dst, op := .load 28 x, type := ty, pos := pos, after := after, guard := gd } (yielded ops a.tmps) = true)
    (hx : a.eval x = .pointer (some ⟨g, 0, none⟩)) (hg : ∀ w, C w → Holds w g 28 (fcells F))
    (h : wpQuiet Tryd.prog ops C Q rest (a.put dst (.agg (fcells F)))) : wpQuiet Tryd.prog ops C Q ({ dst := dst, op := .load 28 x, type := ty, pos := pos, after := after, guard := gd } :: rest) a :=
  wpq_loadRow x g _ _ _ hw hx hg Tryd.underlying28 rfl (by rw [fcells_size]; exact font_size) h
theorem wpq_nil (h : Q a) : wpQuiet P ops C Q [] a := h
theorem wpq_move (x : Operand) (hw : Region.wanted { dst := dst, op := .move x, type := ty, pos := pos, after := after, guard := gd } (yielded ops a.tmps) = true)
    (h : wpQuiet P ops C Q rest (a.put dst (a.eval x))) : wpQuiet P ops C Q ({ dst := dst, op := .move x, type := ty, pos := pos, after := after, guard := gd } :: rest) a :=
  wpq_step hw (fun _ _ => ⟨rfl, rfl⟩) h
theorem wpq_assign (x : Operand) (hw : Region.wanted { dst := dst, op := .assign x, type := ty, pos := pos, after := after, guard := gd } (yielded ops a.tmps) = true)
    (h : wpQuiet P ops C Q rest (a.put dst (a.eval x))) : wpQuiet P ops C Q ({ dst := dst, op := .assign x, type := ty, pos := pos, after := after, guard := gd } :: rest) a :=
  wpq_step hw (fun _ _ => ⟨rfl, rfl⟩) h
end

end Go.Proofs.YtgjfebnafjpcaaaDoor
