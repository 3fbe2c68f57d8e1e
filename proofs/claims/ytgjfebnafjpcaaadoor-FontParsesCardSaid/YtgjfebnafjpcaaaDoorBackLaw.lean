/-
  The statement FontBack: the walk. (Printed by gen_back.py.)
-/
import Derived.Test.YtgjfebnafjpcaaaDoorParse
import Derived.Test.YtgjfebnafjpcaaaDoorBuiltinLaw
namespace Go.Proofs.YtgjfebnafjpcaaaDoor
open Go.RowKit
set_option maxRecDepth 100000

theorem builtin_two (n : List UInt8) : (isBuiltin n = true ∧ (builtin n).Good) ∨ (isBuiltin n = false ∧ builtin n = Ft.none) := by
  unfold isBuiltin builtin
  by_cases h1 : n = tinyName
  · left; rw [if_pos h1]; exact ⟨by simp [h1], tiny_good⟩
  · by_cases h2 : n = wideName
    · left; rw [if_neg h1, if_pos h2]; exact ⟨by simp [h2], wide_good⟩
    · right; rw [if_neg h1, if_neg h2]; exact ⟨by simp [h1, h2], rfl⟩
theorem parse_back (g : Ft) (hg : g.Good) (w : World) (hm : MaxL w) :
    Calls Tryd.prog 12 #[.string ⟨g.text.toArray⟩] w fun e w' => e = .returned (.tuple #[.agg (fcells g.cell), .int .i64 0, .int .i64 0]) ∧ Below w.heap.size w w' := by
  have h := parse_any ⟨g.text.toArray⟩ w hm
  unfold ParseIs at h
  rw [arr_list, parse_text hg] at h
  exact h
theorem text_zero (w : World) (ht : Tab w.heap.size w) :
    Calls Tryd.prog 17 #[.agg (fcells Ft.none.cell)] w fun e w' => e = .returned (.string ⟨#[]⟩) ∧ Below w.heap.size w w' := text_fine Ft.none (.inr rfl) w ht
theorem text_of (f : Ft) (hf : f.Good) (s : ByteArray) (hs : f.text = s.data.toList) (w : World) (ht : Tab w.heap.size w) :
    Calls Tryd.prog 17 #[.agg (fcells f.cell)] w fun e w' => e = .returned (.string s) ∧ Below w.heap.size w w' := by
  have h := text_fine f (.inl hf) w ht
  rw [hs] at h
  exact h

set_option maxHeartbeats 4000000 in
theorem fontBack_any (s name : ByteArray) (w : World) (hm : MaxL w) (ht : Tab w.heap.size w) :
    Calls Tryd.prog 6 #[.string s, .string name] w fun e w' => e = .returned (.bool true) ∧ Below w.heap.size w w' := by
  by_cases hs : 20000 < s.size
  · have d1 : decide ((20000 : Int) < (s.size : Int)) = true := by simp; omega
    go_enter Tryd.func6, Tryd.ntmps6
    go_wp2_with fail
    refine (awake_any _).mono ?_
    rintro e w1 ⟨rfl, B1⟩
    go_wp2_with fail
    go_ret
    exact ⟨rfl, B1⟩
  · have d1 : decide ((20000 : Int) < (s.size : Int)) = false := by simp; omega
    by_cases hn : 300 < name.size
    · have d2 : decide ((300 : Int) < (name.size : Int)) = true := by simp; omega
      go_enter Tryd.func6, Tryd.ntmps6
      go_wp2_with fail
      refine (awake_any _).mono ?_
      rintro e w1 ⟨rfl, B1⟩
      go_wp2_with fail
      go_ret
      exact ⟨rfl, B1⟩
    · have d2 : decide ((300 : Int) < (name.size : Int)) = false := by simp; omega
      go_enter Tryd.func6, Tryd.ntmps6
      go_wp2_with fail
      refine (awake_any _).mono ?_
      rintro e w1 ⟨rfl, B1⟩
      go_wp2_with fail
      refine (parse_any s _ (hm.on B1)).mono ?_
      rintro e w2 ⟨rfl, hb2⟩
      have B2 := B1.trans (hb2.mono B1.size)
      have hpc := parse_cases s.data.toList
      clear B1 hb2
      generalize (parse s.data.toList).2.2 = code at *
      generalize (parse s.data.toList).2.1 = line at *
      generalize (parse s.data.toList).1 = f at *
      have p1 := Holds.new w2 28 (fcells f.cell)
      have B3 := B2.alloc B2.size (.cells (fcells f.cell) 28)
      have tp : Tab (w2.alloc (.cells (fcells f.cell) 28)).heap.size (w2.alloc (.cells (fcells f.cell) 28)) := (ht.on B3).mono B3.size
      rcases hpc with ⟨rfl, rfl, hgood, hts⟩ | ⟨rfl, hl, hc1, hc2⟩
      · go_wp2_with (first | (with_reducible apply arm_alloc) | ((with_reducible apply arm_store) <;> try exact rfl) | ((with_reducible apply arm_loadG) <;> try (first | exact rfl | exact p1)))
        refine (text_of f hgood s hts _ tp).mono ?_
        rintro e w4 ⟨rfl, hb4⟩
        have Bx := B3.trans (hb4.mono B3.size)
        clear hb4 p1 B3 tp
        go_wp2_with fail
        refine (builtin_any name _).mono ?_
        rintro e w5 ⟨rfl, hb5⟩
        have B5 := Bx.trans (hb5.mono Bx.size)
        have t5 : Tab w5.heap.size w5 := (ht.on B5).mono B5.size
        have m5 := hm.on B5
        clear hb5 Bx
        have hcase : (isBuiltin name.data.toList = true ∧ (builtin name.data.toList).Good) ∨ (isBuiltin name.data.toList = false ∧ builtin name.data.toList = Ft.none) := builtin_two _
        generalize builtin name.data.toList = g at *
        generalize isBuiltin name.data.toList = ok at *
        rcases hcase with ⟨rfl, hg⟩ | ⟨rfl, rfl⟩
        · have q5 := Holds.new w5 28 (fcells g.cell)
          have b5 := B5.alloc B5.size (.cells (fcells g.cell) 28)
          have t6 : Tab (w5.alloc (.cells (fcells g.cell) 28)).heap.size (w5.alloc (.cells (fcells g.cell) 28)) := (ht.on b5).mono b5.size
          go_wp2_with (first | (with_reducible apply arm_alloc) | ((with_reducible apply arm_store) <;> try exact rfl) | ((with_reducible apply arm_load) <;> try (first | exact rfl | exact q5)))
          refine (text_fine g (.inl hg) _ t6).mono ?_
          rintro e w6 ⟨rfl, hb6⟩
          have q6 := q5.below hb6 q5.lt
          have B6 := b5.trans (hb6.mono b5.size)
          clear hb6 q5 b5 t6 t5 m5 B5
          go_wp2_with fail
          refine (parse_back g hg _ (hm.on B6)).mono ?_
          rintro e w7 ⟨rfl, hb7⟩
          have q7 := q6.below hb7 q6.lt
          have B7 := B6.trans (hb7.mono B6.size)
          clear hb7 q6 B6
          have k1 := q7.alloc (.cells (fcells g.cell) 28)
          have k2 := Holds.new w7 28 (fcells g.cell)
          have B8 := B7.alloc B7.size (.cells (fcells g.cell) 28)
          have ne : w5.heap.size ≠ w7.heap.size := by have := q7.lt; omega
          go_wp2_with (first | (with_reducible apply arm_alloc) | ((with_reducible apply arm_store) <;> try exact rfl))
          generalize (w7.alloc (.cells (fcells g.cell) 28)) = V at k1 k2 B8 ⊢
          have t8 : Tab V.heap.size V := (ht.on B8).mono B8.size
          refine wp_region_grows (by kernel_rfl) (by kernel_rfl) ?_
          refine wpq_move _ rfl ?_; go_simp
          refine wpq_step (v := .bool true) rfl (fun w' h' => ?_) ?_
          · unfold Oper.quietAt; go_simp; try (first | exact ⟨rfl, rfl⟩ | omega | exact IntWalk.i64_in _ (by omega))
          go_simp
          refine wpq_move _ rfl ?_; go_simp
          refine wpq_move _ rfl ?_; go_simp
          refine wpq_step (v := .bool true) rfl (fun w' h' => ?_) ?_
          · unfold Oper.quietAt; go_simp; try (first | exact ⟨rfl, rfl⟩ | omega | exact IntWalk.i64_in _ (by omega))
          go_simp
          refine wpq_step (v := .bool true) rfl (fun w' h' => ?_) ?_
          · unfold Oper.quietAt; go_simp; try (first | exact ⟨rfl, rfl⟩ | omega | exact IntWalk.i64_in _ (by omega))
          go_simp
          refine wpq_move _ rfl ?_; go_simp
          refine wpq_loadFont _ w7.heap.size g.cell rfl rfl (fun w' h' => Grows.holds h' k2) ?_; go_simp
          refine wpq_step (v := .string ⟨g.text.toArray⟩) rfl (fun w' h' => ?_) ?_
          · unfold Oper.quietAt; go_simp
            exact (text_fine g (.inl hg) w' ((t8.on h').mono (Below.size h'))).mono fun e w5 ⟨he, hb⟩ => ⟨he, Grows.trans h' hb⟩
          go_simp
          refine wpq_loadFont _ w5.heap.size g.cell rfl rfl (fun w' h' => Grows.holds h' k1) ?_; go_simp
          refine wpq_step (v := .string ⟨g.text.toArray⟩) rfl (fun w' h' => ?_) ?_
          · unfold Oper.quietAt; go_simp
            exact (text_fine g (.inl hg) w' ((t8.on h').mono (Below.size h'))).mono fun e w5 ⟨he, hb⟩ => ⟨he, Grows.trans h' hb⟩
          go_simp
          refine wpq_step (v := .bool true) rfl (fun w' h' => ?_) ?_
          · unfold Oper.quietAt; go_simp; try (first | exact ⟨rfl, rfl⟩ | omega | exact IntWalk.i64_in _ (by omega))
          go_simp
          refine wpq_step (v := .bool true) rfl (fun w' h' => ?_) ?_
          · unfold Oper.quietAt; go_simp; try (first | exact ⟨rfl, rfl⟩ | omega | exact IntWalk.i64_in _ (by omega))
          go_simp
          refine wpq_move _ rfl ?_; go_simp
          refine wpq_loadFont _ w7.heap.size g.cell rfl rfl (fun w' h' => Grows.holds h' k2) ?_; go_simp
          refine wpq_step (v := .int .i64 (g.width (ByteArray.mk #[97, 32, 98, 126]).data.toList : Nat)) rfl (fun w' h' => ?_) ?_
          · unfold Oper.quietAt; go_simp
            exact (width_fine g (.inl hg) ⟨#[97, 32, 98, 126]⟩ w' (by decide)).mono fun e w5 ⟨he, hb⟩ => ⟨he, Grows.trans h' hb⟩
          go_simp
          refine wpq_loadFont _ w5.heap.size g.cell rfl rfl (fun w' h' => Grows.holds h' k1) ?_; go_simp
          refine wpq_step (v := .int .i64 (g.width (ByteArray.mk #[97, 32, 98, 126]).data.toList : Nat)) rfl (fun w' h' => ?_) ?_
          · unfold Oper.quietAt; go_simp
            exact (width_fine g (.inl hg) ⟨#[97, 32, 98, 126]⟩ w' (by decide)).mono fun e w5 ⟨he, hb⟩ => ⟨he, Grows.trans h' hb⟩
          go_simp
          refine wpq_step (v := .bool true) rfl (fun w' h' => ?_) ?_
          · unfold Oper.quietAt; go_simp; try (first | exact ⟨rfl, rfl⟩ | omega | exact IntWalk.i64_in _ (by omega))
          go_simp
          refine wpq_step (v := .bool true) rfl (fun w' h' => ?_) ?_
          · unfold Oper.quietAt; go_simp; try (first | exact ⟨rfl, rfl⟩ | omega | exact IntWalk.i64_in _ (by omega))
          go_simp
          refine wpq_assign _ rfl ?_; go_simp
          refine wpq_nil ?_
          intro w9 h9
          go_wp2_with fail
          go_ret
          exact ⟨rfl, B8.trans (Below.mono h9 B8.size)⟩
        · have q5 := Holds.new w5 28 (fcells Ft.none.cell)
          have b5 := B5.alloc B5.size (.cells (fcells Ft.none.cell) 28)
          have t6 : Tab (w5.alloc (.cells (fcells Ft.none.cell) 28)).heap.size (w5.alloc (.cells (fcells Ft.none.cell) 28)) := (ht.on b5).mono b5.size
          go_wp2_with (first | (with_reducible apply arm_alloc) | ((with_reducible apply arm_store) <;> try exact rfl) | ((with_reducible apply arm_load) <;> try (first | exact rfl | exact q5)))
          refine (text_zero _ t6).mono ?_
          rintro e w6 ⟨rfl, hb6⟩
          go_wp2_with fail
          go_ret
          exact ⟨rfl, b5.trans (hb6.mono b5.size)⟩
      · have hcn : ((code : Int) == 0) = false := by simp; omega
        go_wp2_with (first | (with_reducible apply arm_alloc) | ((with_reducible apply arm_store) <;> try exact rfl))
        generalize (w2.alloc (.cells (fcells Ft.none.cell) 28)) = V at p1 B3 tp ⊢
        refine wp_region_grows (by kernel_rfl) (by kernel_rfl) ?_
        refine wpq_loadFont _ w2.heap.size Ft.none.cell rfl rfl (fun w' h' => Grows.holds h' p1) ?_; go_simp
        refine wpq_step (v := .string ⟨#[]⟩) rfl (fun w' h' => ?_) ?_
        · unfold Oper.quietAt; go_simp
          exact (text_zero w' ((tp.on h').mono (Below.size h'))).mono fun e w5 ⟨he, hb⟩ => ⟨he, Grows.trans h' hb⟩
        go_simp
        refine wpq_step (v := .bool false) rfl (fun w' h' => ?_) ?_
        · unfold Oper.quietAt; go_simp; try (first | exact ⟨rfl, rfl⟩ | omega | exact IntWalk.i64_in _ (by omega))
        go_simp
        refine wpq_move _ rfl ?_; go_simp
        refine wpq_loadFont _ w2.heap.size Ft.none.cell rfl rfl (fun w' h' => Grows.holds h' p1) ?_; go_simp
        refine wpq_step (v := .int .i64 0) rfl (fun w' h' => ?_) ?_
        · unfold Oper.quietAt; go_simp
          exact (ascent_any Ft.none.cell w').mono fun e w5 ⟨he, hb⟩ => ⟨he, Grows.trans h' hb⟩
        go_simp
        refine wpq_loadFont _ w2.heap.size Ft.none.cell rfl rfl (fun w' h' => Grows.holds h' p1) ?_; go_simp
        refine wpq_step (v := .int .i64 0) rfl (fun w' h' => ?_) ?_
        · unfold Oper.quietAt; go_simp
          exact (descent_any Ft.none.cell w').mono fun e w5 ⟨he, hb⟩ => ⟨he, Grows.trans h' hb⟩
        go_simp
        refine wpq_step (v := .int .i64 0) rfl (fun w' h' => ?_) ?_
        · unfold Oper.quietAt; go_simp; try (first | exact ⟨rfl, rfl⟩ | omega | exact IntWalk.i64_in _ (by omega))
        go_simp
        refine wpq_step (v := .bool false) rfl (fun w' h' => ?_) ?_
        · unfold Oper.quietAt; go_simp; try (first | exact ⟨rfl, rfl⟩ | omega | exact IntWalk.i64_in _ (by omega))
        go_simp
        refine wpq_step (v := .bool false) rfl (fun w' h' => ?_) ?_
        · unfold Oper.quietAt; go_simp; try (first | exact ⟨rfl, rfl⟩ | omega | exact IntWalk.i64_in _ (by omega))
        go_simp
        refine wpq_nil ?_
        intro w4 h4
        have Bx := B3.trans (Below.mono h4 B3.size)
        clear h4 p1 B3 tp
        go_wp2_with fail
        refine (builtin_any name _).mono ?_
        rintro e w5 ⟨rfl, hb5⟩
        have B5 := Bx.trans (hb5.mono Bx.size)
        have t5 : Tab w5.heap.size w5 := (ht.on B5).mono B5.size
        have m5 := hm.on B5
        clear hb5 Bx
        have hcase : (isBuiltin name.data.toList = true ∧ (builtin name.data.toList).Good) ∨ (isBuiltin name.data.toList = false ∧ builtin name.data.toList = Ft.none) := builtin_two _
        generalize builtin name.data.toList = g at *
        generalize isBuiltin name.data.toList = ok at *
        rcases hcase with ⟨rfl, hg⟩ | ⟨rfl, rfl⟩
        · have q5 := Holds.new w5 28 (fcells g.cell)
          have b5 := B5.alloc B5.size (.cells (fcells g.cell) 28)
          have t6 : Tab (w5.alloc (.cells (fcells g.cell) 28)).heap.size (w5.alloc (.cells (fcells g.cell) 28)) := (ht.on b5).mono b5.size
          go_wp2_with (first | (with_reducible apply arm_alloc) | ((with_reducible apply arm_store) <;> try exact rfl) | ((with_reducible apply arm_load) <;> try (first | exact rfl | exact q5)))
          refine (text_fine g (.inl hg) _ t6).mono ?_
          rintro e w6 ⟨rfl, hb6⟩
          have q6 := q5.below hb6 q5.lt
          have B6 := b5.trans (hb6.mono b5.size)
          clear hb6 q5 b5 t6 t5 m5 B5
          go_wp2_with fail
          refine (parse_back g hg _ (hm.on B6)).mono ?_
          rintro e w7 ⟨rfl, hb7⟩
          have q7 := q6.below hb7 q6.lt
          have B7 := B6.trans (hb7.mono B6.size)
          clear hb7 q6 B6
          have k1 := q7.alloc (.cells (fcells g.cell) 28)
          have k2 := Holds.new w7 28 (fcells g.cell)
          have B8 := B7.alloc B7.size (.cells (fcells g.cell) 28)
          have ne : w5.heap.size ≠ w7.heap.size := by have := q7.lt; omega
          go_wp2_with (first | (with_reducible apply arm_alloc) | ((with_reducible apply arm_store) <;> try exact rfl))
          generalize (w7.alloc (.cells (fcells g.cell) 28)) = V at k1 k2 B8 ⊢
          have t8 : Tab V.heap.size V := (ht.on B8).mono B8.size
          refine wp_region_grows (by kernel_rfl) (by kernel_rfl) ?_
          refine wpq_move _ rfl ?_; go_simp
          refine wpq_step (v := .bool true) rfl (fun w' h' => ?_) ?_
          · unfold Oper.quietAt; go_simp; try (first | exact ⟨rfl, rfl⟩ | omega | exact IntWalk.i64_in _ (by omega))
          go_simp
          refine wpq_move _ rfl ?_; go_simp
          refine wpq_move _ rfl ?_; go_simp
          refine wpq_step (v := .bool true) rfl (fun w' h' => ?_) ?_
          · unfold Oper.quietAt; go_simp; try (first | exact ⟨rfl, rfl⟩ | omega | exact IntWalk.i64_in _ (by omega))
          go_simp
          refine wpq_step (v := .bool true) rfl (fun w' h' => ?_) ?_
          · unfold Oper.quietAt; go_simp; try (first | exact ⟨rfl, rfl⟩ | omega | exact IntWalk.i64_in _ (by omega))
          go_simp
          refine wpq_move _ rfl ?_; go_simp
          refine wpq_loadFont _ w7.heap.size g.cell rfl rfl (fun w' h' => Grows.holds h' k2) ?_; go_simp
          refine wpq_step (v := .string ⟨g.text.toArray⟩) rfl (fun w' h' => ?_) ?_
          · unfold Oper.quietAt; go_simp
            exact (text_fine g (.inl hg) w' ((t8.on h').mono (Below.size h'))).mono fun e w5 ⟨he, hb⟩ => ⟨he, Grows.trans h' hb⟩
          go_simp
          refine wpq_loadFont _ w5.heap.size g.cell rfl rfl (fun w' h' => Grows.holds h' k1) ?_; go_simp
          refine wpq_step (v := .string ⟨g.text.toArray⟩) rfl (fun w' h' => ?_) ?_
          · unfold Oper.quietAt; go_simp
            exact (text_fine g (.inl hg) w' ((t8.on h').mono (Below.size h'))).mono fun e w5 ⟨he, hb⟩ => ⟨he, Grows.trans h' hb⟩
          go_simp
          refine wpq_step (v := .bool true) rfl (fun w' h' => ?_) ?_
          · unfold Oper.quietAt; go_simp; try (first | exact ⟨rfl, rfl⟩ | omega | exact IntWalk.i64_in _ (by omega))
          go_simp
          refine wpq_step (v := .bool true) rfl (fun w' h' => ?_) ?_
          · unfold Oper.quietAt; go_simp; try (first | exact ⟨rfl, rfl⟩ | omega | exact IntWalk.i64_in _ (by omega))
          go_simp
          refine wpq_move _ rfl ?_; go_simp
          refine wpq_loadFont _ w7.heap.size g.cell rfl rfl (fun w' h' => Grows.holds h' k2) ?_; go_simp
          refine wpq_step (v := .int .i64 (g.width (ByteArray.mk #[97, 32, 98, 126]).data.toList : Nat)) rfl (fun w' h' => ?_) ?_
          · unfold Oper.quietAt; go_simp
            exact (width_fine g (.inl hg) ⟨#[97, 32, 98, 126]⟩ w' (by decide)).mono fun e w5 ⟨he, hb⟩ => ⟨he, Grows.trans h' hb⟩
          go_simp
          refine wpq_loadFont _ w5.heap.size g.cell rfl rfl (fun w' h' => Grows.holds h' k1) ?_; go_simp
          refine wpq_step (v := .int .i64 (g.width (ByteArray.mk #[97, 32, 98, 126]).data.toList : Nat)) rfl (fun w' h' => ?_) ?_
          · unfold Oper.quietAt; go_simp
            exact (width_fine g (.inl hg) ⟨#[97, 32, 98, 126]⟩ w' (by decide)).mono fun e w5 ⟨he, hb⟩ => ⟨he, Grows.trans h' hb⟩
          go_simp
          refine wpq_step (v := .bool true) rfl (fun w' h' => ?_) ?_
          · unfold Oper.quietAt; go_simp; try (first | exact ⟨rfl, rfl⟩ | omega | exact IntWalk.i64_in _ (by omega))
          go_simp
          refine wpq_step (v := .bool true) rfl (fun w' h' => ?_) ?_
          · unfold Oper.quietAt; go_simp; try (first | exact ⟨rfl, rfl⟩ | omega | exact IntWalk.i64_in _ (by omega))
          go_simp
          refine wpq_assign _ rfl ?_; go_simp
          refine wpq_nil ?_
          intro w9 h9
          go_wp2_with fail
          go_ret
          exact ⟨rfl, B8.trans (Below.mono h9 B8.size)⟩
        · have q5 := Holds.new w5 28 (fcells Ft.none.cell)
          have b5 := B5.alloc B5.size (.cells (fcells Ft.none.cell) 28)
          have t6 : Tab (w5.alloc (.cells (fcells Ft.none.cell) 28)).heap.size (w5.alloc (.cells (fcells Ft.none.cell) 28)) := (ht.on b5).mono b5.size
          go_wp2_with (first | (with_reducible apply arm_alloc) | ((with_reducible apply arm_store) <;> try exact rfl) | ((with_reducible apply arm_load) <;> try (first | exact rfl | exact q5)))
          refine (text_zero _ t6).mono ?_
          rintro e w6 ⟨rfl, hb6⟩
          go_wp2_with fail
          go_ret
          exact ⟨rfl, b5.trans (hb6.mono b5.size)⟩

end Go.Proofs.YtgjfebnafjpcaaaDoor
