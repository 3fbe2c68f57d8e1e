/-
  The statement FontBuiltin: the walk.
-/
import Derived.Test.YtgjfebnafjpcaaaDoorIs
import Derived.Test.YtgjfebnafjpcaaaDoorAwake
namespace Go.Proofs.YtgjfebnafjpcaaaDoor
open Go.RowKit
set_option maxRecDepth 100000

theorem builtin_ls (name : List UInt8) : (builtin name).ls.length = if isBuiltin name then 95 else 0 := by
  unfold builtin isBuiltin
  by_cases h1 : name = tinyName
  · simp [h1, tiny_good.all]
  · by_cases h2 : name = wideName
    · rw [if_neg h1, if_pos h2, wide_good.all]; simp [h2]
    · rw [if_neg h1, if_neg h2]; simp [h1, h2, Ft.none]

theorem refFont_form {w : World} {lo hi : Nat} {f : Ft} {v : Value} (h : RefFont w lo hi f v) : ∃ A c, v = .agg #[.int .i64 (f.asc : Nat), .int .i64 (f.desc : Nat), .slice A f.ls.length c] := by
  obtain ⟨u, xs, rfl, hown, _⟩ := h
  rcases hown.2 with ⟨rfl, h0⟩ | ⟨g, cap, cur, rfl, _⟩
  · exact ⟨_, 0, by rw [h0]⟩
  · exact ⟨_, _, rfl⟩

set_option maxHeartbeats 2000000 in
theorem fontBuiltin_any (name : ByteArray) (w : World) (ht : Tab w.heap.size w) :
    Calls Tryd.prog 3 #[.string name] w fun e w' => e = .returned (.bool true) ∧ Below w.heap.size w w' := by
  by_cases hn : name.size ≤ 300
  · have d3 : decide ((300 : Int) < (name.size : Int)) = false := by simp; omega
    go_enter Tryd.func3, Tryd.ntmps3
    go_wp2_with fail
    refine (awake_any _).mono ?_
    rintro e w1 ⟨rfl, B1⟩
    go_wp2_with fail
    refine (builtin_any _ _).mono ?_
    rintro e w2 ⟨rfl, hb2⟩
    have B2 := B1.trans (hb2.mono B1.size)
    clear B1 hb2
    go_wp2_with (first | (with_reducible apply arm_alloc) | ((with_reducible apply arm_store) <;> try exact rfl))
    refine (refBuiltin_any _ _).mono ?_
    rintro e w3 ⟨v, rfl, hR, hb3⟩
    obtain ⟨A, c, rfl⟩ := refFont_form hR
    have q3 := (Holds.new w2 28 (fcells (builtin name.data.toList).cell)).below hb3 (by simp)
    have B3 := (B2.alloc B2.size _).trans (hb3.mono (by have := B2.size; simp; omega))
    have z3 := q3.lt
    clear hb3 B2
    have hu1 := one_font ((builtin name.data.toList).asc : Nat) ((builtin name.data.toList).desc : Nat) (.slice A (builtin name.data.toList).ls.length c) rfl
    have hfine := builtin_fine name.data.toList
    have hlen := builtin_ls name.data.toList
    generalize builtin name.data.toList = f at *
    generalize isBuiltin name.data.toList = ok at *
    have k1 : Holds (w3.alloc (.cells #[.int .i64 (f.asc : Nat), .int .i64 (f.desc : Nat), .slice A f.ls.length c] 33)) w2.heap.size 28 (fcells f.cell) := q3.alloc _
    have k2 := Holds.new w3 33 #[.int .i64 (f.asc : Nat), .int .i64 (f.desc : Nat), .slice A f.ls.length c]
    have k3 : RefFont (w3.alloc (.cells #[.int .i64 (f.asc : Nat), .int .i64 (f.desc : Nat), .slice A f.ls.length c] 33)) 0 w3.heap.size f (.agg #[.int .i64 (f.asc : Nat), .int .i64 (f.desc : Nat), .slice A f.ls.length c]) :=
      (hR.low (Nat.zero_le _)).below ((Below.refl _ _).alloc (Nat.le_refl _) _) (Nat.le_refl _) (Nat.le_refl _)
    have k4 := B3.alloc (B3.size) (.cells #[.int .i64 (f.asc : Nat), .int .i64 (f.desc : Nat), .slice A f.ls.length c] 33)
    have k5 : w3.heap.size < (w3.alloc (.cells #[.int .i64 (f.asc : Nat), .int .i64 (f.desc : Nat), .slice A f.ls.length c] 33)).heap.size := by simp
    clear q3 B3 hR
    have hcase : (ok = true ∧ f.ls.length = 95) ∨ (ok = false ∧ f.ls.length = 0) := by
      rw [hlen]
      cases ok <;> simp
    have t4 : Tab (w3.alloc (.cells #[.int .i64 (f.asc : Nat), .int .i64 (f.desc : Nat), .slice A f.ls.length c] 33)).heap.size (w3.alloc (.cells #[.int .i64 (f.asc : Nat), .int .i64 (f.desc : Nat), .slice A f.ls.length c] 33)) := (ht.on k4).mono k4.size
    have his := is_any f hfine _ 0 w3.heap.size _ k3 (Nat.le_of_lt k5) t4
    clear hlen k3 hfine t4
    generalize f.ls.length = L at *
    rcases hcase with ⟨rfl, rfl⟩ | ⟨rfl, rfl⟩
    all_goals
      go_wp2_with (first | ((with_reducible apply wpl_storeNew (t := 33)) <;> try (first | exact rfl | exact refFont_size | exact hu1)) | ((with_reducible apply arm_loadG) <;> try (first | exact rfl | exact k1)) | ((with_reducible apply wpl_loadRowG (t := 33) (hu := Tryd.underlying33) (hd := rfl)) <;> try (first | exact rfl | exact k2 | exact refFont_size)))
      refine his.mono ?_
      rintro e w4 ⟨rfl, b4⟩
      go_wp2_with fail
      go_ret
      exact ⟨rfl, k4.trans (b4.mono k4.size)⟩
  · have d3 : decide ((300 : Int) < (name.size : Int)) = true := by simp; omega
    go_enter Tryd.func3, Tryd.ntmps3
    go_wp2_with fail
    refine (awake_any _).mono ?_
    rintro e w1 ⟨rfl, B1⟩
    go_wp2_with fail
    go_ret
    exact ⟨rfl, B1⟩

end Go.Proofs.YtgjfebnafjpcaaaDoor
