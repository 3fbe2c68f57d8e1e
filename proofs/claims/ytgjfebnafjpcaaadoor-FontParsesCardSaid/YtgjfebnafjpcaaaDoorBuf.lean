/-
  A slice of bytes that the call has made, wherever its row lies: '[]byte(s)', 'append' of a byte or of a text, 'string(b)'.
-/
import Derived.Test.YtgjfebnafjpcaaaDoorSay
import Derived.Deep.AppendSrc
import Derived.Laws.IdiomStrings
import Derived.Lib.SlBytesConst
namespace Go.Proofs.YtgjfebnafjpcaaaDoor
open Go.RowKit
set_option maxRecDepth 100000

theorem below_cells {B : Nat} {a : World} (b : Nat) (hb : B ≤ b) : ∀ (vs : List Value) (o : Nat) {w : World}, Below B a w → Below B a (w.setCells b o vs)
  | [], _, _, h => h
  | v :: vs, o, _, h => below_cells b hb vs (o + 1) (h.setCell (p := ⟨b, o, none⟩) hb v)
/-- The value v is a slice of just the bytes l, in a row of its own from block B on; the whole row may be written. -/
def OwnB (B : Nat) (w : World) (v : Value) (l : List UInt8) : Prop :=
  ∃ g cap, v = .slice (some ⟨g, 0, none⟩) l.length cap ∧ B ≤ g ∧ g < w.heap.size ∧ l.length ≤ cap ∧
    (∀ j, j < cap → (w.cell? ⟨g, j, none⟩).isSome = true ∧ w.frozen? ⟨g, j, none⟩ = false) ∧ ∀ j (hj : j < l.length), w.cell? ⟨g, j, none⟩ = some (.int .u8 (l[j].toNat : Int))
theorem OwnB.below {B : Nat} {w w' : World} {v : Value} {l : List UInt8} (h : OwnB B w v l) (hb : Below w.heap.size w w') : OwnB B w' v l := by
  obtain ⟨g, cap, rfl, h1, h2, h3, h4, h5⟩ := h
  refine ⟨g, cap, rfl, h1, Nat.lt_of_lt_of_le h2 hb.size, h3, fun j hj => ?_, fun j hj => ?_⟩
  · rw [hb.cell (p := ⟨g, j, none⟩) h2, hb.frozen (p := ⟨g, j, none⟩) h2]
    exact h4 j hj
  · rw [hb.cell (p := ⟨g, j, none⟩) h2]
    exact h5 j hj
theorem OwnB.drewN {B : Nat} {w : World} {v : Value} {l : List UInt8} (h : OwnB B w v l) (n : Nat) : OwnB B (w.drewN n) v l := h
theorem OwnB.alloc {B : Nat} {w : World} {v : Value} {l : List UInt8} (h : OwnB B w v l) (o : Obj) : OwnB B (w.alloc o) v l := h.below ((Below.refl _ _).alloc (Nat.le_refl _) _)

section
variable {P : Program}
/-- '[]byte(s)'. -/
theorem run_bytes (w : World) (src dst e : TypeId) (s : ByteArray) (hs : P.underlying src = some .string) (hd : P.underlying dst = some (.slice e)) (he : P.underlying e = some (.int .u8)) :
    ∃ v w', (convert src dst (.string s)).run P w = .ok v w' ∧ OwnB w.heap.size w' v s.data.toList ∧ Below w.heap.size w w' := by
  have hr := run_bytes_of_string (P := P) w src dst e s hs hd he
  have hg := grownCap_ge w s.size 0 e
  have hl : s.data.toList.length = s.size := by simp
  refine ⟨_, _, hr, ⟨w.heap.size, grownCap w s.size 0 e, by rw [hl], Nat.le_refl _, by simp, by omega, fun j hj => ?_, fun j hj => ?_⟩, (Below.drew (Below.refl _ _)).alloc (Nat.le_refl _) _⟩
  · have hsz : (bytesRow s (grownCap w s.size 0 e)).size = grownCap w s.size 0 e := by
      unfold bytesRow
      simp only [Array.size_append, Array.size_map, Array.size_replicate]
      have : s.data.size = s.size := rfl
      omega
    refine ⟨?_, ?_⟩
    · have := World.cell?_alloc_mark w.drew (bytesRow s (grownCap w s.size 0 e)) e ((bytesRow s (grownCap w s.size 0 e)).size, (bytesRow s (grownCap w s.size 0 e)).size + 1) j
      rw [show w.drew.heap.size = w.heap.size from rfl] at this
      rw [this, Array.getElem?_eq_getElem (by omega)]
      rfl
    · have := World.frozen?_alloc_mark w.drew (bytesRow s (grownCap w s.size 0 e)) e (bytesRow s (grownCap w s.size 0 e)).size ((bytesRow s (grownCap w s.size 0 e)).size + 1) j
      rw [show w.drew.heap.size = w.heap.size from rfl] at this
      rw [this, hsz]
      simp only [Bool.and_eq_false_imp, decide_eq_true_eq, decide_eq_false_iff_not]
      omega
  · have hj' : j < s.data.size := by simpa using hj
    have := World.cell?_alloc_mark w.drew (bytesRow s (grownCap w s.size 0 e)) e ((bytesRow s (grownCap w s.size 0 e)).size, (bytesRow s (grownCap w s.size 0 e)).size + 1) j
    rw [show w.drew.heap.size = w.heap.size from rfl] at this
    rw [this, bytesRow_at s _ j hj']
    simp
/-- 'append(v, x..)'. -/
theorem run_own_append (w : World) (t tx ty e : TypeId) (i : TypeInfo) (ht : P.underlying t = some (.slice e)) (hi : P.info? e = some i) (hz : i.zero = some (.int .u8 0)) (h1 : i.size = 1) (hby : i.bytes = 1)
    (B : Nat) (v x : Value) (l m : List UInt8) (hv : OwnB B w v l) (hx : Src P 1 tx x m.length (Lib.byteCells m) w) (hB : B ≤ w.heap.size) (hlen : l.length + m.length ≤ 140737488355328) :
    ∃ v' w', (Builtin.append_ #[t, tx] ty #[v, x]).run P w = .ok v' w' ∧ OwnB B w' v' (l ++ m) ∧ Below B w w' := by
  obtain ⟨g, cap, rfl, hBg, hg, hcap, hall, hl⟩ := hv
  have hml : (Lib.byteCells m).length = m.length := Lib.byteCells_length m
  have hmc : ∀ k (hk : k < m.length), (Lib.byteCells m)[k]? = some (.int .u8 (m[k].toNat : Int)) := fun k hk => by
    simp [Lib.byteCells, hk]
  by_cases hroom : l.length + m.length ≤ cap
  · have hr := run_append_room_src (P := P) w t tx ty e i ht hi g 0 l.length cap x m.length (Lib.byteCells m) (by rw [h1]; exact hx) hroom
      (fun j hj => (by rw [h1, Nat.zero_add, Nat.mul_one]; exact (hall _ (by omega)).1)) (fun j hj => (by rw [h1, Nat.zero_add, Nat.mul_one]; exact (hall _ (by omega)).2))
    rw [h1, Nat.zero_add, Nat.mul_one] at hr
    have hsm : ∀ j, j < (Lib.byteCells m).length → (w.cell? ⟨g, l.length + j, none⟩).isSome = true := fun j hj => (hall _ (by omega)).1
    refine ⟨_, _, hr, ⟨g, cap, by rw [List.length_append], hBg, ?_, by rw [List.length_append]; exact hroom, fun j hj => ⟨World.isSome_setCells g _ _ _ _ (hall j hj).1, ?_⟩, fun j hj => ?_⟩, below_cells (B := B) g hBg _ _ (Below.refl _ _)⟩
    · exact Nat.lt_of_lt_of_le hg (below_cells (B := B) g hBg (Lib.byteCells m) l.length (Below.refl B w)).size
    · rw [World.frozen?_setCells]
      exact (hall j hj).2
    · rw [List.length_append] at hj
      by_cases hjl : j < l.length
      · rw [World.cell?_setCells_out g _ _ _ _ (fun _ _ => .inl hjl), hl j hjl, List.getElem_append_left hjl]
      · have hk : j - l.length < m.length := by omega
        have := World.cell?_setCells_in g (Lib.byteCells m) l.length w hsm (j - l.length) (by omega)
        rw [show l.length + (j - l.length) = j by omega] at this
        rw [this, List.getElem_append_right (by omega)]
        have h2 := hmc _ hk
        rw [List.getElem?_eq_getElem (by omega)] at h2
        exact h2
  · have hold : (Builtin.firstCells i.size l.length (.slice (some ⟨g, 0, none⟩) l.length cap)).run P w.drew = .ok (Lib.byteCells l).toArray w.drew := by
      refine run_firstCells_some w.drew _ _ _ _ _ _ (by rw [Lib.byteCells_length, h1, Nat.mul_one]) (fun j u hj => ?_)
      have hjl : j < l.length := by
        have := (List.getElem?_eq_some_iff.1 hj).1
        rwa [Lib.byteCells_length] at this
      have : (Lib.byteCells l)[j]? = some (.int .u8 (l[j].toNat : Int)) := by simp [Lib.byteCells, hjl]
      rw [this] at hj
      rw [← Option.some.inj hj, Addr.add_mid, Nat.zero_add]
      exact hl j hjl
    have hr := run_append_grow_src (P := P) w t tx ty e i (.int .u8 0) ht hi hz (some ⟨g, 0, none⟩) l.length cap (Lib.byteCells l) hold x m.length (Lib.byteCells m) (by rw [h1]; exact hx) (by omega) (by omega)
      (by rw [hby]; exact growslice_fits (by omega) (by omega))
    have hge := grownCap_ge w (l.length + m.length) cap e
    have hzl : (Builtin.zeroCells (Value.int IntKind.u8 0).cells (grownCap w (l.length + m.length) cap e - (l.length + m.length))).size = grownCap w (l.length + m.length) cap e - (l.length + m.length) := by
      rw [size_zeroCells]
      simp [Value.cells]
    refine ⟨_, _, hr, ⟨w.heap.size, grownCap w (l.length + m.length) cap e, by rw [List.length_append], hB, by simp, by rw [List.length_append]; exact hge, fun j hj => ?_, fun j hj => ?_⟩, (Below.drew (Below.refl _ _)).alloc hB _⟩
    · have hh := heap_alloc_new w.drew (.cells ((Lib.byteCells l ++ Lib.byteCells m).toArray ++ Builtin.zeroCells (Value.int IntKind.u8 0).cells (grownCap w (l.length + m.length) cap e - (l.length + m.length))) e)
      rw [show w.drew.heap.size = w.heap.size from rfl] at hh
      refine ⟨?_, Lib.frozen_of_heap hh j⟩
      rw [Lib.cell_of_heap hh, Array.getElem?_eq_getElem (by
        simp only [Array.size_append, List.size_toArray, List.length_append, Lib.byteCells_length, hzl]
        omega)]
      rfl
    · have hh := heap_alloc_new w.drew (.cells ((Lib.byteCells l ++ Lib.byteCells m).toArray ++ Builtin.zeroCells (Value.int IntKind.u8 0).cells (grownCap w (l.length + m.length) cap e - (l.length + m.length))) e)
      rw [show w.drew.heap.size = w.heap.size from rfl] at hh
      rw [Lib.cell_of_heap hh, ← Lib.byteCells_append, Array.getElem?_append_left (by
        rw [List.size_toArray, Lib.byteCells_length]; exact hj), List.getElem?_toArray]
      unfold Lib.byteCells
      rw [List.getElem?_map, List.getElem?_eq_getElem hj]
      rfl

variable {ops : Array Oper} {rest : List Oper} {a : Act} {w : World} {Q : Exit → Act → World → Prop} {dst : Option Tmp} {ty : TypeId} {pos : String} {after : Array Edge}
theorem wpl_bytes (src d e : TypeId) (x : Operand) (s : ByteArray) (hx : a.eval x = .string s) (hs : P.underlying src = some .string) (hd : P.underlying d = some (.slice e)) (he : P.underlying e = some (.int .u8))
    (h : ∀ v w', OwnB w.heap.size w' v s.data.toList → Below w.heap.size w w' → wpList P ops Q rest (a.put dst v) w') :
    wpList P ops Q ({ dst := dst, op := .convert src d x, type := ty, pos := pos, after := after, guard := none } :: rest) a w := by
  obtain ⟨v, w', hr, h1, h2⟩ := run_bytes (P := P) w src d e s hs hd he
  refine wpl_run rfl _ _ ?_ (h v w' h1 h2)
  simp only [execOp, hx, Sem.run_bind, hr, Result.andThen_ok, Sem.run_pure]
theorem wpl_back (src d e : TypeId) (x : Operand) (B : Nat) (l : List UInt8) (hx : OwnB B w (a.eval x) l) (hs : P.underlying src = some (.slice e)) (he : P.underlying e = some (.int .u8)) (hd : P.underlying d = some .string)
    (h : wpList P ops Q rest (a.put dst (.string ⟨l.toArray⟩)) w) :
    wpList P ops Q ({ dst := dst, op := .convert src d x, type := ty, pos := pos, after := after, guard := none } :: rest) a w := by
  obtain ⟨g, cap, hv, h1, h2, h3, h4, h5⟩ := hx
  refine wpl_run rfl _ _ ?_ h
  simp only [execOp, hv, Sem.run_bind, run_convert_bytes_back (P := P) w src d e ⟨g, 0, none⟩ cap l hs he hd (fun j hj => by rw [Addr.add_mid, Nat.zero_add]; exact h5 j hj), Result.andThen_ok, Sem.run_pure]
theorem wpl_back1 (src d e : TypeId) (x : Operand) (g cap : Nat) (c : UInt8) (hx : a.eval x = .slice (some ⟨g, 0, none⟩) 1 cap) (hc : w.cell? ⟨g, 0, none⟩ = some (.int .u8 (c.toNat : Int))) (hs : P.underlying src = some (.slice e)) (he : P.underlying e = some (.int .u8)) (hd : P.underlying d = some .string)
    (h : wpList P ops Q rest (a.put dst (.string ⟨#[c]⟩)) w) :
    wpList P ops Q ({ dst := dst, op := .convert src d x, type := ty, pos := pos, after := after, guard := none } :: rest) a w := by
  have hr : (convert src d (.slice (some ⟨g, 0, none⟩) 1 cap)).run P w = .ok (.string ⟨#[c]⟩) w := run_convert_bytes_back (P := P) w src d e ⟨g, 0, none⟩ cap [c] hs he hd (fun j hj => by
    have : j = 0 := by simp at hj; exact hj
    subst this
    exact hc)
  refine wpl_run rfl _ _ ?_ h
  simp only [execOp, hx, Sem.run_bind, hr, Result.andThen_ok, Sem.run_pure]
theorem wpl_strAdd (t tr : TypeId) (x y : Operand) (s u : ByteArray) (hx : a.eval x = .string s) (hy : a.eval y = .string u) (hlen : s.size + u.size ≤ 9223372036854775807)
    (h : wpList P ops Q rest (a.put dst (.string (s ++ u))) w) :
    wpList P ops Q ({ dst := dst, op := .binOp .add t x y tr, type := ty, pos := pos, after := after, guard := none } :: rest) a w := by
  have hr : (binOp .add t (.string s) (.string u)).run P w = .ok (.string (s ++ u)) w := by
    simp only [binOp]
    exact run_string_add_sum w s u hlen
  refine wpl_run rfl _ _ ?_ h
  simp [execOp, hx, hy, eqGuard, hr]
theorem wpl_ownText (t u e : TypeId) (i : TypeInfo) (sl x : Operand) (B : Nat) (l : List UInt8) (s : ByteArray) (hv : OwnB B w (a.eval sl) l) (hx : a.eval x = .string s) (ht : P.underlying t = some (.slice e)) (hu : P.underlying u = some .string) (hi : P.info? e = some i) (hz : i.zero = some (.int .u8 0)) (h1 : i.size = 1) (hby : i.bytes = 1)
    (hB : B ≤ w.heap.size) (hlen : l.length + s.size ≤ 140737488355328)
    (h : ∀ v w', OwnB B w' v (l ++ s.data.toList) → Below B w w' → wpList P ops Q rest (a.put dst v) w') :
    wpList P ops Q ({ dst := dst, op := .call { callee := .builtin .append, args := #[sl, x], argTypes := #[t, u] }, type := ty, pos := pos, after := after, guard := none } :: rest) a w := by
  have hm : s.data.toList.length = s.size := by simp
  have hsrc : Src P 1 u (.string s) s.data.toList.length (Lib.byteCells s.data.toList) w := by
    rw [hm]
    exact Src.ofString w hu s
  obtain ⟨v', w', hr, h2, h3⟩ := run_own_append (P := P) w t u ty e i ht hi hz h1 hby B (a.eval sl) (.string s) l s.data.toList hv hsrc hB (by omega)
  refine wpl_run rfl v' w' ?_ (h v' w' h2 h3)
  simp [execOp, resolve, invoke, Go.builtin, hx, hr, Result.andThen]
theorem wpl_ownByte (t e : TypeId) (i : TypeInfo) (sl x : Operand) (B : Nat) (l : List UInt8) (c : UInt8) (g cap : Nat) (hv : OwnB B w (a.eval sl) l) (hx : a.eval x = .slice (some ⟨g, 0, none⟩) 1 cap) (hc : w.cell? ⟨g, 0, none⟩ = some (.int .u8 (c.toNat : Int))) (ht : P.underlying t = some (.slice e)) (hi : P.info? e = some i) (hz : i.zero = some (.int .u8 0)) (h1 : i.size = 1) (hby : i.bytes = 1)
    (hB : B ≤ w.heap.size) (hlen : l.length + 1 ≤ 140737488355328)
    (h : ∀ v w', OwnB B w' v (l ++ [c]) → Below B w w' → wpList P ops Q rest (a.put dst v) w') :
    wpList P ops Q ({ dst := dst, op := .call { callee := .builtin .append, args := #[sl, x], argTypes := #[t, t] }, type := ty, pos := pos, after := after, guard := none } :: rest) a w := by
  have hsrc : Src P 1 t (.slice (some ⟨g, 0, none⟩) 1 cap) ([c] : List UInt8).length (Lib.byteCells [c]) w :=
    Src.ofSlice w ht ⟨g, 0, none⟩ 1 cap (Lib.byteCells [c]) rfl (fun j u hj => by
      match j, hj with
      | 0, hj =>
        simp [Lib.byteCells] at hj
        subst hj
        exact hc) (fun u hu => by simp [Lib.byteCells] at hu; subst hu; rfl)
  obtain ⟨v', w', hr, h2, h3⟩ := run_own_append (P := P) w t t ty e i ht hi hz h1 hby B (a.eval sl) (.slice (some ⟨g, 0, none⟩) 1 cap) l [c] hv hsrc hB (by simp; omega)
  refine wpl_run rfl v' w' ?_ (h v' w' h2 h3)
  simp [execOp, resolve, invoke, Go.builtin, hx, hr, Result.andThen]
end

end Go.Proofs.YtgjfebnafjpcaaaDoor
