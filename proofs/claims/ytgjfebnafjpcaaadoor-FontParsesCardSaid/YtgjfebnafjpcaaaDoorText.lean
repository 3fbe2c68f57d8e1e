/-
  The contract of the program's Text: the font's text.
-/
import Derived.Test.YtgjfebnafjpcaaaDoorSay
import Derived.Test.YtgjfebnafjpcaaaDoorMade
namespace Go.Proofs.YtgjfebnafjpcaaaDoor
open Go.RowKit
set_option maxRecDepth 100000

/-- The cells of a font's letters. -/
def acells (F : Nat → Int) : Array Value := ((List.range 1615).map fun i => Value.int .i64 (F (2 + i))).toArray
theorem acells_size (F : Nat → Int) : (acells F).size = 1615 := by simp [acells]
theorem acells_get (F : Nat → Int) (i : Nat) (h : i < 1615) : (acells F)[i]? = some (.int .i64 (F (2 + i))) := by simp [acells, h]
theorem acells_list (F : Nat → Int) (j : Nat) (v : Value) (h : (acells F).toList[j]? = some v) : j < 1615 ∧ v = .int .i64 (F (2 + j)) := by
  have hj : j < 1615 := by
    have := (List.getElem?_eq_some_iff.1 h).1
    rw [Array.length_toList, acells_size] at this
    exact this
  rw [Array.getElem?_toList, acells_get F j hj] at h
  injection h with h
  exact ⟨hj, h.symm⟩
attribute [irreducible] acells
theorem all_size : (Tryd.prog.info? 26).map (·.size) = some 1615 := by kernel_rfl

theorem run_indexA (F : Nat → Int) (k : Nat) (hk : k < 95) (w : World) : (Instr.index 26 (.agg (acells F)) (.int .i64 (k : Int))).run Tryd.prog w = .ok (.agg (lcells fun j => F (2 + 17 * k + j))) w := by
  have h1 : (0 : Int) ≤ (k : Int) ∧ (k : Int) < ((95 : Nat) : Int) := by omega
  have e : (acells F).extract (k * 17) (k * 17 + 17) = lcells fun j => F (2 + 17 * k + j) := by
    apply Array.ext_getElem?
    intro j
    rw [Array.getElem?_extract]
    by_cases hj : j < 17
    · rw [if_pos (by rw [acells_size]; omega), acells_get _ _ (by omega), lcells_get _ _ hj]
      congr 3
      omega
    · rw [if_neg (by omega), Array.getElem?_eq_none (by rw [lcells_size]; omega)]
  have hA := Tryd.underlying26
  have hz := Tryd.sizeOf25 w
  have hg := Tryd.isAgg25 w
  simp only [Instr.index, asIntOf, Sem.run_bind, Sem.run_pure, Result.andThen_ok, run_underlying hA, part, Int.toNat_natCast]
  rw [if_pos h1]
  simp [hz, e]

section
variable {ops : Array Oper} {rest : List Oper} {a : Act} {w : World} {Q : Exit → Act → World → Prop} {dst : Option Tmp} {ty : TypeId} {pos : String} {after : Array Edge}
/-- All letters read out of a font's block. -/
theorem arm_loadA (x : Operand) (g : Nat) (F : Nat → Int) (hx : a.eval x = .pointer (some ⟨g, 2, none⟩)) (hg : Holds w g 28 (fcells F))
    (h : wpList Tryd.prog ops Q rest (a.put dst (.agg (acells F))) w) :
    wpList Tryd.prog ops Q ({ dst := dst, op := .load 26 x, type := ty, pos := pos, after := after, guard := none } :: rest) a w := by
  refine wpList_load_mid rfl _ x rfl g 2 hx (acells F).toList _ ?_ Tryd.underlying26 rfl (by rw [Array.length_toList, acells_size]; exact all_size) (by rw [Array.toArray_toList]; exact h)
  intro j v hv
  obtain ⟨hj, rfl⟩ := acells_list _ _ _ hv
  rw [hg.cell]
  exact fcells_get F _ (by omega)
theorem arm_indexA (x y : Operand) (F : Nat → Int) (k : Nat) (hx : a.eval x = .agg (acells F)) (hy : a.eval y = .int .i64 (k : Int)) (hk : k < 95)
    (h : wpList Tryd.prog ops Q rest (a.put dst (.agg (lcells fun j => F (2 + 17 * k + j)))) w) :
    wpList Tryd.prog ops Q ({ dst := dst, op := .index 26 x y, type := ty, pos := pos, after := after, guard := none } :: rest) a w := by
  refine wpl_run rfl _ _ ?_ h
  simp only [execOp, hx, hy, Sem.run_bind, run_indexA F k hk w, Result.andThen_ok, Sem.run_pure]
end

set_option maxHeartbeats 2000000 in
theorem text_any (f : Ft) (hf : f.Good) (w : World) (ht : Tab w.heap.size w) :
    Calls Tryd.prog 17 #[.agg (fcells f.cell)] w fun e w' => e = .returned (.string ⟨f.text.toArray⟩) ∧ Below w.heap.size w w' := by
  have hlow := hf.low
  have htop := hf.top
  have hh : 1 ≤ f.high ∧ f.high ≤ 16 := ⟨hlow, htop⟩
  have hte := height_fine f (.inl hf)
  have hne : ((f.high : Int) == 0) = false := by simp; omega
  go_enter Tryd.func17, Tryd.ntmps17
  go_wp2_with ((with_reducible apply arm_load) <;> try (first | exact rfl | exact Holds.new _ _ _))
  refine (hte _).mono ?_
  rintro e w1 ⟨rfl, b1⟩
  have q1 : Holds w1 w.heap.size 28 (fcells f.cell) := (Holds.new w _ _).below b1 (by simp)
  have z1 := q1.lt
  have B1 : Below w.heap.size w w1 := ((Below.refl _ _).alloc (Nat.le_refl _) _).trans (b1.mono (by simp))
  clear b1
  go_wp2_with fail
  have s1 := Sb.new w1
  have t1 : Tab w1.heap.size w1 := (ht.on B1).mono (by omega)
  have b1 : Below w1.heap.size w1 (w1.alloc (.cells #[.pointer none, .slice none 0 0] 74)) := (Below.refl _ _).alloc (Nat.le_refl _) _
  refine (writeString w1.heap.size w1.heap.size [] _ _ s1 (by simp) (by decide) (by simp)).mono ?_
  rintro e w2 ⟨⟨v2, rfl⟩, s2, b2, _⟩
  have b2 := b1.trans b2
  have z2 := b2.size
  clear s1 b1
  have c0 : ∀ w' : World, Below w1.heap.size w1 w' → w'.cell? ⟨w.heap.size, 0, none⟩ = some (.int .i64 (f.asc : Nat)) := fun w' hb => by
    rw [(q1.below hb z1).cell, fcells_get _ _ (by omega)]; rfl
  have c1 : ∀ w' : World, Below w1.heap.size w1 w' → w'.cell? ⟨w.heap.size, 1, none⟩ = some (.int .i64 (f.desc : Nat)) := fun w' hb => by
    rw [(q1.below hb z1).cell, fcells_get _ _ (by omega)]; rfl
  have d0 := c0 w2 b2
  go_wp2_with fail
  refine (say_any w1.heap.size w1.heap.size _ f.asc (by omega) _ s2 (by simp) (by omega) (t1.on b2)).mono ?_
  rintro e w3 ⟨⟨v3, rfl⟩, s3, b3, _⟩
  have b3 := b2.trans b3
  have z3 := b3.size
  have d1 := c1 w3 b3
  clear s2 b2 d0
  go_wp2_with fail
  have l1 := dec_length f.asc
  have l2 := dec_length f.desc
  refine (say_any w1.heap.size w1.heap.size _ f.desc (by omega) _ s3 (by simp; omega) (by omega) (t1.on b3)).mono ?_
  rintro e w4 ⟨⟨v4, rfl⟩, s4, b4, _⟩
  have b4 := b3.trans b4
  have z4 := b4.size
  clear s3 b3 d1
  go_wp2_with fail
  refine (writeByte w1.heap.size w1.heap.size _ 10 _ s4 (by simp; omega) (by omega)).mono ?_
  rintro e w5 ⟨rfl, s5, b5, _⟩
  have b5 := b4.trans b5
  have z5 := b5.size
  have s5 : Sb w1.heap.size w1.heap.size (f.upto 0) w5 := by
    rw [Ft.upto_zero]
    exact s5
  clear s4 b4 l1 l2
  go_wp2_with ((with_reducible apply arm_loadA) <;> try (first | exact rfl | exact q1.below b5 z1))
  clear hne
  go_loopw [25] (fun i wr => ∃ k : Nat, k ≤ 95 ∧ i = .int .i64 k ∧ Sb w1.heap.size w1.heap.size (f.upto k) wr ∧ Below w1.heap.size w1 wr) (fun i _ => 95 - (intOf i).toNat)
  case atStart => exact ⟨0, by omega, rfl, s5, b5⟩
  case round =>
    obtain ⟨k, hk, rfl, sk, bk⟩ := hrel
    clear s5 b5 z5
    by_cases hlt : k < 95
    · have hup := Ft.upto_length hf k (by omega)
      have hm := Ft.mem_getD hf k hlt
      have hlen := hf.rows _ hm
      have hwid := hf.wide _ hm
      have hrow : ∀ r ∈ (f.ls.getD k Lt.none).rows, r < 65536 := fun r hr => Ft.row_lt hf hm hr
      have hsucc := Ft.upto_succ f k
      have hll := lineText_length hf (32 + k) (by omega) hm
      have g0 : (lcells fun j => f.cell (2 + 17 * k + j))[0]? = some (.int .i64 ((f.ls.getD k Lt.none).w : Nat)) := by
        rw [lcells_get _ _ (by omega), Nat.add_zero, Ft.cell_w]
      have gy : ∀ y, y < 16 → (lcells fun j => f.cell (2 + 17 * k + j))[1 + y]? = some (.int .i64 ((f.ls.getD k Lt.none).rows.getD y 0 : Nat)) := fun y hy => by
        rw [lcells_get _ _ (by omega), show 2 + 17 * k + (1 + y) = 3 + 17 * k + y by omega, Ft.cell_row _ _ _ hy]
      have zk' := sk.lt.2
      have hqk := q1.below bk z1
      have zk := bk.size
      go_wp2_with (first | ((with_reducible apply arm_indexA) <;> try (first | exact rfl | omega)) | (with_reducible apply arm_allocL) | ((with_reducible apply arm_storeL) <;> try exact rfl))
      generalize (lcells fun j => f.cell (2 + 17 * k + j)) = LC at g0 gy ⊢
      generalize f.ls.getD k Lt.none = l at hm hlen hwid hrow hsucc hll g0 gy
      have s0 : Sb w1.heap.size w1.heap.size (f.upto k) (wr.alloc (.cells LC 25)) := sk.below ((Below.refl _ _).alloc (Nat.le_refl _) _)
      have x0 : Below w1.heap.size w1 (wr.alloc (.cells LC 25)) := bk.alloc zk _
      have p0 := Holds.new wr 25 LC
      have hI : ∀ w' : World, Below w1.heap.size w1 w' → Calls Tryd.prog 39 #[.int .i64 (32 + (k : Int))] w' fun e w'' => e = .returned (.string ⟨(dec (32 + k)).toArray⟩) ∧ Below w'.heap.size w' w'' := fun w' hb => by
        have := itoa_any w1.heap.size (32 + k) (by omega) w' (t1.on hb)
        rwa [Int.natCast_add] at this
      refine (hI _ x0).mono ?_
      rintro e w6 ⟨rfl, b6⟩
      have s6 := s0.below b6
      have p6 := p0.below b6 (by simp)
      have x6 := x0.trans (b6.mono (by simp; omega))
      have z6 := b6.size
      have hd6 := dec_length (32 + k)
      simp only [World.size_alloc] at z6
      clear s0 x0 p0 b6 hI sk hqk
      go_wp2_with fail
      refine (writeString w1.heap.size w1.heap.size _ ⟨(dec (32 + k)).toArray⟩ _ s6 (by omega) (by show (dec (32 + k)).toArray.size ≤ _; simp; omega) (by omega)).mono ?_
      rintro e w7 ⟨⟨v7, rfl⟩, s7, b7, k7⟩
      have p7 := k7.holds p6 (by omega) (by decide)
      have x7 := x6.trans b7
      have z7 := p7.lt
      have hl0 : w7.cell? ⟨wr.heap.size, 0, none⟩ = some (.int .i64 (l.w : Nat)) := by rw [p7.cell]; exact g0
      clear s6 b7 k7 p6 x6
      go_wp2_with fail
      refine (say_any w1.heap.size w1.heap.size _ l.w (by omega) _ s7 (by simp; omega) (by omega) (t1.on x7)).mono ?_
      rintro e w8 ⟨⟨v8, rfl⟩, s8, b8, k8⟩
      have p8 := k8.holds p7 (by omega) (by decide)
      have x8 := x7.trans b8
      have z8 := p8.lt
      have q8 := q1.below x8 z1
      clear s7 b8 k8 p7 x7 hl0
      go_wp2_with ((with_reducible apply arm_load) <;> try (first | exact rfl | exact q8))
      refine (hte _).mono ?_
      rintro e w9 ⟨rfl, b9⟩
      have s9 := s8.below b9
      have p9 := p8.below b9 z8
      have x9 := x8.trans (b9.mono (by omega))
      have z9 := p9.lt
      have hhi : l.rows.length = f.high := hlen
      have hhi1 : (f.high : Int) ≤ 16 := by omega
      have hhi2 : (0 : Int) ≤ (f.high : Int) := by omega
      clear s8 b9 p8 x8 q8 hte
      go_wp2_with fail
      have hln : ((((f.upto k ++ dec (32 + k)) ++ (32 :: dec l.w))).length) ≤ 1000000000 := by
        have := dec_length l.w
        simp only [List.length_append, List.length_cons]
        omega
      go_loopw [42] (fun i wr' => ∃ y : Nat, y ≤ f.high ∧ i = .int .i64 y ∧ Sb w1.heap.size w1.heap.size (((f.upto k ++ dec (32 + k)) ++ (32 :: dec l.w)) ++ rowsText (l.rows.take y)) wr' ∧ Below w1.heap.size w1 wr' ∧ Holds wr' wr.heap.size 25 LC) (fun i _ => f.high - (intOf i).toNat)
      case atStart => exact ⟨0, by omega, rfl, by simpa [rowsText_nil] using s9, x9, p9⟩
      case round =>
        obtain ⟨y, hy, rfl, sy, xy, py⟩ := hrel
        clear s9 x9 p9 z9
        by_cases hly : y < f.high
        · have hyr : y < l.rows.length := by omega
          have hce := gy y (by omega)
          rw [List.getD_eq_getElem?_getD, List.getElem?_eq_getElem hyr] at hce
          have hcell := (py.cell (1 + y)).trans hce
          have hlt16 := hrow l.rows[y] (List.getElem_mem _)
          have hrl : (rowsText (l.rows.take y)).length ≤ 16 * 65538 := by
            have h1 := rowsText_length (l.rows.take y) (fun r hr => hrow r (List.mem_of_mem_take hr))
            have h2 : (l.rows.take y).length ≤ 16 := by rw [List.length_take]; omega
            exact Nat.le_trans h1 (Nat.mul_le_mul_right _ h2)
          have hsn : rowsText (l.rows.take (y + 1)) = rowsText (l.rows.take y) ++ (32 :: dec l.rows[y]) := by
            rw [List.take_succ_eq_append_getElem hyr, rowsText_snoc]
          have zy := py.lt
          simp only [Option.getD_some] at hcell
          go_wp2_with fail
          refine (say_any w1.heap.size w1.heap.size _ l.rows[y] (by omega) _ sy (by rw [List.length_append]; omega) (by have := sy.lt; omega) (t1.on xy)).mono ?_
          rintro e w10 ⟨⟨v10, rfl⟩, s10, b10, k10⟩
          have p10 := k10.holds py (by omega) (by decide)
          have x10 := xy.trans b10
          rw [List.append_assoc _ (rowsText _), ← hsn] at s10
          clear hsn hrl hce hcell
          go_wp2_with fail
          go_roundw
          case rel => exact ⟨y + 1, by omega, by go_num, s10, x10, p10⟩
          case measure => simp [intOf]; omega
        · have hy' : y = f.high := by omega
          subst hy'
          have htk : l.rows.take f.high = l.rows := List.take_of_length_le (by omega)
          rw [htk] at sy
          have hrl : (rowsText l.rows).length ≤ 16 * 65538 := Nat.le_trans (rowsText_length l.rows hrow) (Nat.mul_le_mul_right _ (by omega))
          have zy := py.lt
          go_wp2_with fail
          refine (writeByte w1.heap.size w1.heap.size _ 10 _ sy (by rw [List.length_append]; omega) (by omega)).mono ?_
          rintro e w10 ⟨rfl, s10, b10, _⟩
          have x10 := xy.trans b10
          have e10 : ((((f.upto k ++ dec (32 + k)) ++ (32 :: dec l.w)) ++ rowsText l.rows) ++ [10]) = f.upto (k + 1) := by
            rw [hsucc]
            simp [lineText]
          rw [e10] at s10
          clear e10 hln hup hll htk
          go_wp2_with fail
          go_roundw
          case rel => exact ⟨k + 1, by omega, by go_num, s10, x10⟩
          case measure => simp [intOf]; omega
    · have hk' : k = 95 := by omega
      subst hk'
      go_wp2_with fail
      refine (Tryd.Builder_String_any w1.heap.size w1.heap.size (f.upto 95) _ sk (by have := bk.size; omega)).mono ?_
      rintro e w6 ⟨rfl, b6⟩
      go_wp2_with fail
      go_ret
      refine ⟨?_, B1.trans ((bk.trans b6).mono (by omega))⟩
      have e : f.text = f.upto 95 := by
        unfold Ft.text
        rw [if_neg (by omega)]
      rw [e]
      rfl

set_option maxHeartbeats 1000000 in
theorem text_none (w : World) :
    Calls Tryd.prog 17 #[.agg (fcells Ft.none.cell)] w fun e w' => e = .returned (.string ⟨Ft.none.text.toArray⟩) ∧ Below w.heap.size w w' := by
  have hte := height_fine Ft.none (.inr rfl)
  go_enter Tryd.func17, Tryd.ntmps17
  go_wp2_with ((with_reducible apply arm_load) <;> try (first | exact rfl | exact Holds.new _ _ _))
  refine (hte _).mono ?_
  rintro e w1 ⟨rfl, b1⟩
  have B1 : Below w.heap.size w w1 := ((Below.refl _ _).alloc (Nat.le_refl _) _).trans (b1.mono (by simp))
  have hh : ((Ft.none.high : Nat) : Int) = 0 := rfl
  rw [hh]
  go_wp2_with fail
  go_ret
  exact ⟨rfl, B1⟩

theorem text_fine (f : Ft) (hf : f.Fine) (w : World) (ht : Tab w.heap.size w) :
    Calls Tryd.prog 17 #[.agg (fcells f.cell)] w fun e w' => e = .returned (.string ⟨f.text.toArray⟩) ∧ Below w.heap.size w w' := by
  rcases hf with hf | rfl
  · exact text_any f hf w ht
  · exact text_none w

end Go.Proofs.YtgjfebnafjpcaaaDoor
