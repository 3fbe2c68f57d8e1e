/-
  The contract of the reference's made, at the font tiny.
-/
import Derived.Test.YtgjfebnafjpcaaaDoorRef
import Derived.Deep.RegionHeld3
namespace Go.Proofs.YtgjfebnafjpcaaaDoor
open Go.RowKit

theorem refFont_size : (Tryd.prog.info? 33).map (·.size) = some 3 := by kernel_rfl
theorem refGlyph_size : (Tryd.prog.info? 54).map (·.size) = some 2 := by kernel_rfl
theorem refGlyph_info : (Tryd.prog.info? 54).map (fun i => (i.zero, i.size, i.bytes)) = some (some (.agg #[.int .i64 0, .slice none 0 0]), 2, 32) := by kernel_rfl

/-- Between two letters: so many letters stand in the font. -/
def MadeOut (w : World) (f : Ft) (i : Nat) (wr : World) : Prop :=
  ∃ u xs, Holds wr w.heap.size 33 #[.int .i64 0, .int .i64 0, .slice none 0 0] ∧ Holds wr (w.heap.size + 1) 33 #[.int .i64 (f.asc : Nat), .int .i64 (f.desc : Nat), u] ∧
    wr.ownsRow w.heap.size 54 2 u i xs ∧ Glyphs wr wr.heap.size (f.ls.take i) xs ∧ Below w.heap.size w wr
/-- Between two rows of a letter: so many of its rows are there. -/
def MadeIn (wo : World) (l : Lt) (y : Nat) (wr : World) : Prop :=
  ∃ v, Holds wr wo.heap.size 54 #[.int .i64 (l.w : Nat), v] ∧ wr.ownsRow (wo.heap.size + 1) 3 1 v y (((l.rows.take y).map Int.ofNat).map (Value.int .i64)) ∧ Below wo.heap.size wo wr

theorem MadeOut.start (w : World) (f : Ft) (a d : Int) (ha : a = (f.asc : Nat)) (hd : d = (f.desc : Nat)) :
    MadeOut w f 0 ((w.alloc (.cells #[.int .i64 0, .int .i64 0, .slice none 0 0] 33)).alloc (.cells #[.int .i64 a, .int .i64 d, .slice none 0 0] 33)) := by
  subst ha hd
  exact ⟨.slice none 0 0, [], heap_alloc2_old _ _ _, heap_alloc2_new _ _ _, World.ownsRow_nil _ _ _ _, trivial, ((Below.refl _ _).alloc (Nat.le_refl _) _).alloc (by simp) _⟩
theorem MadeIn.start (wo : World) (l : Lt) (n : Int) (hn : n = (l.w : Nat)) : MadeIn wo l 0 (wo.alloc (.cells #[.int .i64 n, .slice none 0 0] 54)) := by
  subst hn
  exact ⟨.slice none 0 0, Holds.new _ _ _, World.ownsRow_nil _ _ _ _, (Below.refl _ _).alloc (Nat.le_refl _) _⟩
/-- A row more. -/
theorem MadeIn.step {wo wr w2 : World} {l : Lt} {y : Nat} {v : Value} {g cap : Nat} {n : Nat} (h1 : Holds wr wo.heap.size 54 #[.int .i64 (l.w : Nat), v])
    (h2 : wr.ownsRow (wo.heap.size + 1) 3 1 v y (((l.rows.take y).map Int.ofNat).map (Value.int .i64))) (hB : Below wo.heap.size wo wr)
    (hn : l.rows[y]? = some n)
    (hown : w2.ownsRow (wo.heap.size + 1) 3 1 (.slice (some ⟨g, 0, none⟩) (y + 1) cap) (y + 1) (((l.rows.take y).map Int.ofNat).map (Value.int .i64) ++ [.int .i64 (n : Nat)]))
    (hg : (wr.alloc (.cells [Value.int .i64 (n : Nat)].toArray 3)).grownBy w2 v.ownBlock) :
    MadeIn wo l (y + 1) (w2.setCell ⟨wo.heap.size, 1, none⟩ (.slice (some ⟨g, 0, none⟩) (y + 1) cap)) := by
  have hlt := h1.lt
  have hv := h2.lt
  have hne : some wo.heap.size ≠ v.ownBlock := fun e => by have := (hv _ e.symm).1; omega
  refine ⟨_, (((h1.alloc _).grown hg hne).set 1 _), ?_, ?_⟩
  · have e : l.rows.take (y + 1) = l.rows.take y ++ [n] := by
      have hy := (List.getElem?_eq_some_iff.1 hn)
      obtain ⟨hy, he⟩ := hy
      rw [List.take_succ_eq_append_getElem hy, he]
    rw [e, List.map_append, List.map_append]
    exact ownsRow_setCell_below hown (by simp) _
  · refine Below.setCell ?_ (by simp) _
    exact (hB.alloc (by omega) _).grown hg (by simp; omega) (fun k hk => by have := (hv k hk).1; omega)
/-- A letter more. -/
theorem MadeOut.step {w wo wr w2 : World} {f : Ft} {i : Nat} {l : Lt} {u v : Value} {xs : List Value} {g cap : Nat}
    (h1 : Holds wo w.heap.size 33 #[.int .i64 0, .int .i64 0, .slice none 0 0]) (h2 : Holds wo (w.heap.size + 1) 33 #[.int .i64 (f.asc : Nat), .int .i64 (f.desc : Nat), u])
    (hown : wo.ownsRow w.heap.size 54 2 u i xs) (hG : Glyphs wo wo.heap.size (f.ls.take i) xs) (hB : Below w.heap.size w wo)
    (hl : f.ls[i]? = some l) (hv : wr.ownsRow (wo.heap.size + 1) 3 1 v l.rows.length ((l.rows.map Int.ofNat).map (Value.int .i64))) (hBo : Below wo.heap.size wo wr)
    (hown2 : w2.ownsRow w.heap.size 54 2 (.slice (some ⟨g, 0, none⟩) (i + 1) cap) (i + 1) (xs ++ [.int .i64 (l.w : Nat), v]))
    (hg : (wr.alloc (.cells [Value.int .i64 (l.w : Nat), v].toArray 54)).grownBy w2 u.ownBlock) :
    MadeOut w f (i + 1) (w2.setCell ⟨w.heap.size + 1, 2, none⟩ (.slice (some ⟨g, 0, none⟩) (i + 1) cap)) := by
  have l1 := h1.lt
  have l2 := h2.lt
  have hs := hBo.size
  have hu := hown.lt
  have hvl := hv.lt
  have k1 := (h1.below hBo l1).alloc (.cells [Value.int .i64 (l.w : Nat), v].toArray 54)
  have k2 := (h2.below hBo l2).alloc (.cells [Value.int .i64 (l.w : Nat), v].toArray 54)
  have hown' : (wr.alloc (.cells [Value.int .i64 (l.w : Nat), v].toArray 54)).ownsRow w.heap.size 54 2 u i xs := by
    have h := hown.kept (w' := wr.alloc (.cells [Value.int .i64 (l.w : Nat), v].toArray 54)) (row := none) ⟨hBo.os, hBo.tape, hBo.output, by simp; omega, fun k hk _ => (Below.heap_alloc _ _ _ (by omega)).trans (hBo.block k hk)⟩ (by cases hq : u.ownBlock <;> simp)
    exact h
  have ne1 : some w.heap.size ≠ u.ownBlock := fun e => own_type hown' (e' := 33) (by decide) _ _ e.symm k1
  have ne2 : some (w.heap.size + 1) ≠ u.ownBlock := fun e => own_type hown' (e' := 33) (by decide) _ _ e.symm k2
  have hint := keep_grown (hi := wr.heap.size + 1) hg (fun g cs e => own_type hown' (e' := 3) (by decide) g cs e)
  have hset : ∀ g' cs, g' < wr.heap.size + 1 → Holds w2 g' 3 cs → Holds (w2.setCell ⟨w.heap.size + 1, 2, none⟩ (.slice (some ⟨g, 0, none⟩) (i + 1) cap)) g' 3 cs := by
    intro g' cs _ hh
    refine hh.setFar ?_ _
    rintro rfl
    have hk := k2.grown hg ne2
    unfold Holds at hh hk
    rw [hk] at hh
    injection hh with hh
    injection hh with _ hh
    exact absurd hh (by decide)
  have hsz : wr.heap.size + 1 ≤ w2.heap.size := by have := hg.size; simpa using this
  refine ⟨_, xs ++ [.int .i64 (l.w : Nat), v], (k1.grown hg ne1).setFar (by simp) _, (k2.grown hg ne2).set 2 _, ?_, ?_, ?_⟩
  · have ne3 : (⟨w.heap.size + 1, 2, none⟩ : Addr).block ≠ g := by
      intro e
      have hk := k2.grown hg ne2
      exact own_type hown2 (e' := 33) (by decide) g _ rfl (by rw [← e]; exact hk)
    obtain ⟨q1, q2⟩ := hown2
    refine ⟨q1, ?_⟩
    rcases q2 with ⟨q2, _⟩ | ⟨g', cap', cur, hq, r1, r2, r3⟩
    · cases q2
    · refine .inr ⟨g', cap', cur, hq, r1, ?_, r3⟩
      injection hq with hq
      injection hq with hq
      injection hq with hq
      subst hq
      rw [Below.heap_setCell _ _ _ _ (Ne.symm ne3)]
      exact r2
  · have e : f.ls.take (i + 1) = f.ls.take i ++ [l] := by
      obtain ⟨hy, he⟩ := (List.getElem?_eq_some_iff.1 hl)
      rw [List.take_succ_eq_append_getElem hy, he]
    rw [e]
    have hG' : Glyphs wr (wr.heap.size + 1) (f.ls.take i) xs := hG.keep (keep_below hBo (Nat.le_refl _)) (by omega)
    have hr : IntRow wr (wr.heap.size + 1) v (l.rows.map Int.ofNat) := IntRow.of_own hv (fun g hg => by have := (hvl g hg).2; omega)
    have hall := hG'.snoc hr
    refine hall.keep (fun g' cs hg' hh => hset g' cs hg' (hint g' cs hg' (hh.alloc _))) ?_
    simpa using hsz
  · refine Below.setCell ?_ (by simp) _
    exact ((hB.trans (hBo.mono (by omega))).alloc (by omega) _).grown hg (by simp; omega) (fun k hk => (hu k hk).1)

end Go.Proofs.YtgjfebnafjpcaaaDoor
