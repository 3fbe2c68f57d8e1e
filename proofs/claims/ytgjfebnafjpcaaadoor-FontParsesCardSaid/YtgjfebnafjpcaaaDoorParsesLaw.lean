/-
  The statement FontParses: the walk.
-/
import Derived.Test.YtgjfebnafjpcaaaDoorRefParse
namespace Go.Proofs.YtgjfebnafjpcaaaDoor
open Go.RowKit
set_option maxRecDepth 100000

theorem away (s : ByteArray) (w : World) (h : (20000 < s.size ∧ s.size ≤ 65536) ∨ 70000 < s.size) :
    Calls Tryd.prog 5 #[.string s] w fun e w' => e = .returned (.bool true) ∧ Below w.heap.size w w' := by
  by_cases h1 : 70000 < s.size
  · have d1 : decide ((20000 : Int) < (s.size : Int)) = true := by simp; omega
    have d2 : decide ((s.size : Int) ≤ 65536) = false := by simp; omega
    have d3 : decide ((70000 : Int) < (s.size : Int)) = true := by simp; omega
    clear h
    go_enter Tryd.func5, Tryd.ntmps5
    go_wp2_with fail
    refine (awake_any _).mono ?_
    rintro e w1 ⟨rfl, B1⟩
    go_wp2_with fail
    go_ret
    exact ⟨rfl, B1⟩
  · have d1 : decide ((20000 : Int) < (s.size : Int)) = true := by simp; omega
    have d2 : decide ((s.size : Int) ≤ 65536) = true := by simp; omega
    clear h
    go_enter Tryd.func5, Tryd.ntmps5
    go_wp2_with fail
    refine (awake_any _).mono ?_
    rintro e w1 ⟨rfl, B1⟩
    go_wp2_with fail
    go_ret
    exact ⟨rfl, B1⟩

set_option maxHeartbeats 4000000 in
theorem fontParses_any (s : ByteArray) (w : World) (hm : MaxL w) (ht : Tab w.heap.size w) :
    Calls Tryd.prog 5 #[.string s] w fun e w' => e = .returned (.bool true) ∧ Below w.heap.size w w' := by
  by_cases hbig : (20000 < s.size ∧ s.size ≤ 65536) ∨ 70000 < s.size
  · exact away s w hbig
  · have hs7 : s.size ≤ 70000 := by omega
    have d3 : decide ((70000 : Int) < (s.size : Int)) = false := by simp; omega
    have hcase : decide ((20000 : Int) < (s.size : Int)) = false ∨ (decide ((20000 : Int) < (s.size : Int)) = true ∧ decide ((s.size : Int) ≤ 65536) = false) := by
      by_cases h : s.size ≤ 20000
      · left; simp; omega
      · right
        refine ⟨by simp; omega, by simp; omega⟩
    clear hbig
    have hfine := parse_fine s.data.toList
    rcases hcase with d1 | ⟨d1, d2⟩
    all_goals
      go_enter Tryd.func5, Tryd.ntmps5
      go_wp2_with fail
      refine (awake_any _).mono ?_
      rintro e w1 ⟨rfl, B1⟩
      go_wp2_with fail
      refine (parse_any s _ (hm.on B1)).mono ?_
      rintro e w2 ⟨rfl, hb2⟩
      have B2 := B1.trans (hb2.mono B1.size)
      clear B1 hb2
      go_wp2_with (first | (with_reducible apply arm_alloc) | ((with_reducible apply arm_store) <;> try exact rfl))
      refine (refParse_any s _ hs7).mono ?_
      rintro e w3 ⟨v, rfl, hR, hb3⟩
      obtain ⟨A, c, rfl⟩ := refFont_form hR
      have q3 := (Holds.new w2 28 (fcells (parse s.data.toList).1.cell)).below hb3 (by simp)
      have B3 := (B2.alloc B2.size _).trans (hb3.mono (by have := B2.size; simp; omega))
      have z3 := q3.lt
      clear hb3 B2
      generalize (parse s.data.toList).2.1 = line at *
      generalize (parse s.data.toList).2.2 = code at *
      generalize (parse s.data.toList).1 = f at *
      have hu1 := one_font (f.asc : Nat) (f.desc : Nat) (.slice A f.ls.length c) rfl
      have k1 : Holds (w3.alloc (.cells #[.int .i64 (f.asc : Nat), .int .i64 (f.desc : Nat), .slice A f.ls.length c] 33)) w2.heap.size 28 (fcells f.cell) := q3.alloc _
      have k2 := Holds.new w3 33 #[.int .i64 (f.asc : Nat), .int .i64 (f.desc : Nat), .slice A f.ls.length c]
      have k3 : RefFont (w3.alloc (.cells #[.int .i64 (f.asc : Nat), .int .i64 (f.desc : Nat), .slice A f.ls.length c] 33)) 0 w3.heap.size f (.agg #[.int .i64 (f.asc : Nat), .int .i64 (f.desc : Nat), .slice A f.ls.length c]) :=
        (hR.low (Nat.zero_le _)).below ((Below.refl _ _).alloc (Nat.le_refl _) _) (Nat.le_refl _) (Nat.le_refl _)
      have k4 := B3.alloc (B3.size) (.cells #[.int .i64 (f.asc : Nat), .int .i64 (f.desc : Nat), .slice A f.ls.length c] 33)
      have k5 : w3.heap.size < (w3.alloc (.cells #[.int .i64 (f.asc : Nat), .int .i64 (f.desc : Nat), .slice A f.ls.length c] 33)).heap.size := by simp
      have t4 : Tab (w3.alloc (.cells #[.int .i64 (f.asc : Nat), .int .i64 (f.desc : Nat), .slice A f.ls.length c] 33)).heap.size (w3.alloc (.cells #[.int .i64 (f.asc : Nat), .int .i64 (f.desc : Nat), .slice A f.ls.length c] 33)) := (ht.on k4).mono k4.size
      have his := is_any f hfine _ 0 w3.heap.size _ k3 (Nat.le_of_lt k5) t4
      clear q3 B3 hR k3 hfine t4 k5
      go_wp2_with (first | ((with_reducible apply wpl_storeNew (t := 33)) <;> try (first | exact rfl | exact refFont_size | exact hu1)) | ((with_reducible apply arm_loadG) <;> try (first | exact rfl | exact k1)) | ((with_reducible apply wpl_loadRowG (t := 33) (hu := Tryd.underlying33) (hd := rfl)) <;> try (first | exact rfl | exact k2 | exact refFont_size)))
      refine his.mono ?_
      rintro e w4 ⟨rfl, b4⟩
      go_wp2_with fail
      go_ret
      exact ⟨rfl, k4.trans (b4.mono k4.size)⟩

end Go.Proofs.YtgjfebnafjpcaaaDoor
