/-
  The statement FontWidths: the walk.
-/
import Derived.Test.YtigblfolegnhbaaAwake
import Derived.Test.YtigblfolegnhbaaMix
import Derived.Deep.RegionHeld3
namespace Go.Proofs.Ytigblfolegnhbaa
open Go.RowKit

/-- The width of a letter that the program yields. -/
theorem glyph_w (f : Ft) (hf : f.Fine) (b : Nat) (hb : b < 256) (w : World) :
    Calls Try.prog 7 #[.agg (fcells f.cell), .int .u8 (b : Int)] w fun e w' => ∃ v, e = .returned v ∧ (∃ u, v = .agg #[.int .i64 ((f.letter b).w : Nat), u]) ∧ Below w.heap.size w w' := by
  rcases hf with hf | rfl
  · exact (glyph_any f hf b hb w).mono fun e w' ⟨g, he, _, _, hB⟩ => ⟨_, he, ⟨_, rfl⟩, hB⟩
  · exact (glyph_none b w).mono fun e w' ⟨he, hB⟩ => ⟨_, he, ⟨.slice none 0 0, by rw [Ft.none_letter]; rfl⟩, hB⟩

theorem str_add (s t : ByteArray) : (s ++ t).data.toList = s.data.toList ++ t.data.toList := by simp

set_option maxRecDepth 100000 in
set_option maxHeartbeats 2000000 in
theorem widths_any (name s t : ByteArray) (w : World) :
    Calls Try.prog 3 #[.string name, .string s, .string t] w fun e w' => e = .returned (.bool true) ∧ Below w.heap.size w w' := by
  by_cases hs : s.size ≤ 2000
  · by_cases ht : t.size ≤ 2000
    · by_cases hn : name.size ≤ 300
      · have d1 : decide ((2000 : Int) < (s.size : Int)) = false := by simp; omega
        have d2 : decide ((2000 : Int) < (t.size : Int)) = false := by simp; omega
        have d3 : decide ((300 : Int) < (name.size : Int)) = false := by simp; omega
        go_enter Try.func3, Try.ntmps3
        go_wp2_with fail
        refine (awake_any _).mono ?_
        rintro e w1 ⟨rfl, B1⟩
        go_wp2_with fail
        refine (builtin_any _ _).mono ?_
        rintro e w2 ⟨rfl, hb2⟩
        have B2 := B1.trans (hb2.mono B1.size)
        clear B1 hb2
        go_wp2_with (first | (with_reducible apply arm_alloc) | ((with_reducible apply arm_store) <;> try exact rfl))
        refine (refBuiltin_any _ _).mono ?_
        rintro e w3 ⟨v, rfl, hR, hb3⟩
        obtain ⟨u, rfl, hu⟩ := hR.agg
        have q3 := (Holds.new w2 28 (fcells (builtin name.data.toList).cell)).below hb3 (by simp)
        have B3 := (B2.alloc B2.size _).trans (hb3.mono (by have := B2.size; simp; omega))
        have z3 := q3.lt
        clear hb3 B2
        have hu1 := one_font ((builtin name.data.toList).asc : Nat) ((builtin name.data.toList).desc : Nat) u hu
        go_wp2_with ((with_reducible apply wpl_storeNew (t := 33)) <;> try (first | exact rfl | exact refFont_size | exact hu1))
        have hfine := builtin_fine name.data.toList
        have k1 : Holds (w3.alloc (.cells #[.int .i64 ((builtin name.data.toList).asc : Nat), .int .i64 ((builtin name.data.toList).desc : Nat), u] 33)) w2.heap.size 28 (fcells (builtin name.data.toList).cell) := q3.alloc _
        have k2 := Holds.new w3 33 #[.int .i64 ((builtin name.data.toList).asc : Nat), .int .i64 ((builtin name.data.toList).desc : Nat), u]
        have k3 : RefFont (w3.alloc (.cells #[.int .i64 ((builtin name.data.toList).asc : Nat), .int .i64 ((builtin name.data.toList).desc : Nat), u] 33)) 0 w3.heap.size (builtin name.data.toList) (.agg #[.int .i64 ((builtin name.data.toList).asc : Nat), .int .i64 ((builtin name.data.toList).desc : Nat), u]) :=
          (hR.low (Nat.zero_le _)).below ((Below.refl _ _).alloc (Nat.le_refl _) _) (Nat.le_refl _) (Nat.le_refl _)
        have k4 := B3.alloc (B3.size) (.cells #[.int .i64 ((builtin name.data.toList).asc : Nat), .int .i64 ((builtin name.data.toList).desc : Nat), u] 33)
        clear q3 B3 hR hu hu1
        generalize builtin name.data.toList = f at *
        generalize (w3.alloc (.cells #[.int .i64 (f.asc : Nat), .int .i64 (f.desc : Nat), u] 33)) = W at k1 k2 k3 k4 ⊢
        go_loopw [10, 11] (fun n i wr => ∃ k : Nat, k ≤ s.size ∧ i = .int .i64 k ∧ n = .int .i64 (f.width (s.data.toList.take k) : Nat) ∧ Grows W wr) (fun _ i _ => s.size - (intOf i).toNat)
        case atStart => exact ⟨0, Nat.zero_le _, rfl, rfl, Grows.refl _⟩
        case round =>
          obtain ⟨k, hk, rfl, rfl, hB⟩ := hrel
          by_cases hlt : k < s.size
          · have hb := Ft.width_le hfine (s.data.toList.take k)
            have hl : (s.data.toList.take k).length ≤ k := List.length_take_le _ _
            have hw := Ft.letter_w hfine s[k].toNat
            have HS := Lib.hid (ft_width_snoc f s k hlt)
            go_wp2_with fail
            refine wp_region_mix [5] (by kernel_rfl) (by kernel_rfl) (by kernel_rfl) (by kernel_rfl) ?_
            refine wpm_move _ rfl rfl ?_; go_simp
            refine wpm_loadFont _ w2.heap.size f.cell rfl rfl rfl (fun w' h' => Grows.holds (Grows.trans hB h') k1) ?_; go_simp
            refine wpm_move _ rfl rfl ?_; go_simp
            refine wpm_move _ rfl rfl ?_; go_simp
            refine wpm_fix (.int .u8 ((s[k].toNat : Nat) : Int)) rfl rfl (fun w' h' => ?_) ?_
            · clear HS hb hl hw
              unfold fixAt; go_simp; exact ⟨rfl, rfl⟩
            go_simp
            refine wpm_step (fun v => ∃ u, v = .agg #[.int .i64 ((f.letter s[k].toNat).w : Nat), u]) (fun _ _ => True) rfl rfl ⟨_, undef, rfl⟩ (fun w' h' => ?_) ?_
            · unfold stepAt
              go_simp
              refine (glyph_w f hfine s[k].toNat s[k].toNat_lt _).mono ?_
              rintro e w5 ⟨v, rfl, hv, h5⟩
              have h6 := Grows.trans h' h5
              exact ⟨v, rfl, hv, h6⟩
            rintro _ ⟨u2, rfl⟩
            go_simp
            refine wpm_fix (.int .i64 ((f.letter s[k].toNat).w : Nat)) rfl rfl (fun w' h' => ?_) ?_
            · clear HS hb hl hw
              have hfd := glyph_field
              unfold fixAt; go_simp; exact ⟨rfl, rfl⟩
            go_simp
            refine wpm_fix (.int .i64 (f.width (s.data.toList.take (k+1)) : Nat)) rfl rfl (fun w' h' => ?_) ?_
            · unfold fixAt; go_simp
              rw [HS.out, IntWalk.i64_in _ (by omega), Int.natCast_add]
              exact ⟨rfl, rfl⟩
            go_simp
            refine wpm_assign _ rfl rfl ?_; go_simp
            refine wpm_nil ?_
            intro w5 h5
            go_wp2
            refine ⟨⟨k + 1, by omega, by go_num, rfl, Grows.trans hB h5⟩, ?_⟩
            simp [intOf] at *; omega
          · have hk' : k = s.size := by omega
            subst hk'
            go_wp2_with fail
            have e1 : s.data.toList.take s.size = s.data.toList := List.take_of_length_le (by simp)
            rw [e1]
            clear hlt hk e1
            have wid : ∀ (w' : World) (x : ByteArray), Grows wr w' → x.size ≤ 4000 → Calls Try.prog 8 #[.agg (fcells f.cell), .string x] w' fun e w'' => e = .returned (.int .i64 (f.width x.data.toList : Nat)) ∧ Grows wr w'' := fun w' x h' hx =>
              (width_fine f hfine x w' (by omega)).mono fun e w'' ⟨he, hb⟩ => ⟨he, Grows.trans h' hb⟩
            have wir : ∀ (w' : World) (x : ByteArray), Grows wr w' → x.size ≤ 4000 → Calls Try.prog 9 #[.agg #[.int .i64 (f.asc : Nat), .int .i64 (f.desc : Nat), u], .string x] w' fun e w'' => e = .returned (.int .i64 (f.width x.data.toList : Nat)) ∧ Grows wr w'' := fun w' x h' hx =>
              (refWidth_any f hfine _ 0 w'.heap.size x (by omega) w' (k3.below (Grows.trans hB h') (by have := k2.lt; omega) (by have := (Grows.trans hB h').size; have := k2.lt; omega)) (Nat.le_refl _)).mono fun e w'' ⟨he, hb⟩ => ⟨he, Grows.trans h' hb⟩
            have hst : f.width (s ++ t).data.toList = f.width s.data.toList + f.width t.data.toList := by rw [str_add, Ft.width_append]
            have l1 := Ft.width_le hfine s.data.toList
            have l2 := Ft.width_le hfine t.data.toList
            have l3 : s.data.toList.length = s.size := by simp
            have l4 : t.data.toList.length = t.size := by simp
            have hq : f.width (⟨#[0]⟩ : ByteArray).data.toList = f.width (⟨#[63]⟩ : ByteArray).data.toList := rfl
            have h0 : f.width (⟨#[]⟩ : ByteArray).data.toList = 0 := rfl
            refine wp_region_grows (by kernel_rfl) (by kernel_rfl) ?_
            refine wpq_loadFont _ w2.heap.size f.cell rfl rfl (fun w' h' => Grows.holds (Grows.trans hB h') k1) ?_; go_simp
            refine wpq_move _ rfl ?_; go_simp
            refine wpq_step (v := .int .i64 (f.width (s).data.toList : Nat)) rfl (fun w' h' => ?_) ?_
            · unfold Oper.quietAt; go_simp; try exact wid _ _ h' (by first | omega | (simp; omega) | decide)
            go_simp
            refine wpq_move _ rfl ?_; go_simp
            refine wpq_step (v := .bool true) rfl (fun w' h' => ?_) ?_
            · unfold Oper.quietAt; go_simp; try exact ⟨rfl, rfl⟩
            go_simp
            refine wpq_move _ rfl ?_; go_simp
            refine wpq_loadFont _ w2.heap.size f.cell rfl rfl (fun w' h' => Grows.holds (Grows.trans hB h') k1) ?_; go_simp
            refine wpq_move _ rfl ?_; go_simp
            refine wpq_step (v := .int .i64 (f.width (s).data.toList : Nat)) rfl (fun w' h' => ?_) ?_
            · unfold Oper.quietAt; go_simp; try exact wid _ _ h' (by first | omega | (simp; omega) | decide)
            go_simp
            refine wpq_loadRow _ w3.heap.size 33 _ _ rfl rfl (fun w' h' => Grows.holds (Grows.trans hB h') k2) Try.underlying33 rfl rfl ?_; go_simp
            refine wpq_move _ rfl ?_; go_simp
            refine wpq_step (v := .int .i64 (f.width (s).data.toList : Nat)) rfl (fun w' h' => ?_) ?_
            · unfold Oper.quietAt; go_simp; exact wir _ _ h' (by first | omega | (simp; omega) | decide)
            go_simp
            refine wpq_step (v := .bool true) rfl (fun w' h' => ?_) ?_
            · unfold Oper.quietAt; go_simp; try exact ⟨rfl, rfl⟩
            go_simp
            refine wpq_step (v := .bool true) rfl (fun w' h' => ?_) ?_
            · unfold Oper.quietAt; go_simp; try exact ⟨rfl, rfl⟩
            go_simp
            refine wpq_move _ rfl ?_; go_simp
            refine wpq_loadFont _ w2.heap.size f.cell rfl rfl (fun w' h' => Grows.holds (Grows.trans hB h') k1) ?_; go_simp
            refine wpq_move _ rfl ?_; go_simp
            refine wpq_move _ rfl ?_; go_simp
            refine wpq_step (v := .string (s ++ t)) rfl (fun w' h' => ?_) ?_
            · unfold Oper.quietAt; go_simp; rw [if_neg (by omega)]; exact ⟨rfl, rfl⟩
            go_simp
            refine wpq_step (v := .int .i64 (f.width (s ++ t).data.toList : Nat)) rfl (fun w' h' => ?_) ?_
            · unfold Oper.quietAt; go_simp; try exact wid _ _ h' (by first | omega | (simp; omega) | decide)
            go_simp
            refine wpq_loadFont _ w2.heap.size f.cell rfl rfl (fun w' h' => Grows.holds (Grows.trans hB h') k1) ?_; go_simp
            refine wpq_move _ rfl ?_; go_simp
            refine wpq_step (v := .int .i64 (f.width (s).data.toList : Nat)) rfl (fun w' h' => ?_) ?_
            · unfold Oper.quietAt; go_simp; try exact wid _ _ h' (by first | omega | (simp; omega) | decide)
            go_simp
            refine wpq_loadFont _ w2.heap.size f.cell rfl rfl (fun w' h' => Grows.holds (Grows.trans hB h') k1) ?_; go_simp
            refine wpq_move _ rfl ?_; go_simp
            refine wpq_step (v := .int .i64 (f.width (t).data.toList : Nat)) rfl (fun w' h' => ?_) ?_
            · unfold Oper.quietAt; go_simp; try exact wid _ _ h' (by first | omega | (simp; omega) | decide)
            go_simp
            refine wpq_step (v := .int .i64 (f.width (s ++ t).data.toList : Nat)) rfl (fun w' h' => ?_) ?_
            · unfold Oper.quietAt; go_simp; rw [Ft.width_append, IntWalk.i64_in _ (by omega), Int.natCast_add]
            go_simp
            refine wpq_step (v := .bool true) rfl (fun w' h' => ?_) ?_
            · unfold Oper.quietAt; go_simp; try exact ⟨rfl, rfl⟩
            go_simp
            refine wpq_step (v := .bool true) rfl (fun w' h' => ?_) ?_
            · unfold Oper.quietAt; go_simp; try exact ⟨rfl, rfl⟩
            go_simp
            refine wpq_move _ rfl ?_; go_simp
            refine wpq_loadFont _ w2.heap.size f.cell rfl rfl (fun w' h' => Grows.holds (Grows.trans hB h') k1) ?_; go_simp
            refine wpq_step (v := .int .i64 (f.width (⟨#[0]⟩ : ByteArray).data.toList : Nat)) rfl (fun w' h' => ?_) ?_
            · unfold Oper.quietAt; go_simp; try exact wid _ _ h' (by first | omega | (simp; omega) | decide)
            go_simp
            refine wpq_loadFont _ w2.heap.size f.cell rfl rfl (fun w' h' => Grows.holds (Grows.trans hB h') k1) ?_; go_simp
            refine wpq_step (v := .int .i64 (f.width (⟨#[63]⟩ : ByteArray).data.toList : Nat)) rfl (fun w' h' => ?_) ?_
            · unfold Oper.quietAt; go_simp; try exact wid _ _ h' (by first | omega | (simp; omega) | decide)
            go_simp
            refine wpq_step (v := .bool true) rfl (fun w' h' => ?_) ?_
            · unfold Oper.quietAt; go_simp; try exact ⟨rfl, rfl⟩
            go_simp
            refine wpq_step (v := .bool true) rfl (fun w' h' => ?_) ?_
            · unfold Oper.quietAt; go_simp; try exact ⟨rfl, rfl⟩
            go_simp
            refine wpq_move _ rfl ?_; go_simp
            refine wpq_loadFont _ w2.heap.size f.cell rfl rfl (fun w' h' => Grows.holds (Grows.trans hB h') k1) ?_; go_simp
            refine wpq_step (v := .int .i64 (f.width (⟨#[]⟩ : ByteArray).data.toList : Nat)) rfl (fun w' h' => ?_) ?_
            · unfold Oper.quietAt; go_simp; try exact wid _ _ h' (by first | omega | (simp; omega) | decide)
            go_simp
            refine wpq_step (v := .bool true) rfl (fun w' h' => ?_) ?_
            · unfold Oper.quietAt; go_simp; try exact ⟨rfl, rfl⟩
            go_simp
            refine wpq_step (v := .bool true) rfl (fun w' h' => ?_) ?_
            · unfold Oper.quietAt; go_simp; try exact ⟨rfl, rfl⟩
            go_simp
            refine wpq_assign _ rfl ?_; go_simp
            refine wpq_nil ?_
            intro w5 h5
            go_wp2
            go_ret
            exact ⟨rfl, k4.trans ((hB.trans h5).mono k4.size)⟩
      · have d1 : decide ((2000 : Int) < (s.size : Int)) = false := by simp; omega
        have d2 : decide ((2000 : Int) < (t.size : Int)) = false := by simp; omega
        have d3 : decide ((300 : Int) < (name.size : Int)) = true := by simp; omega
        go_enter Try.func3, Try.ntmps3
        go_wp2_with fail
        refine (awake_any _).mono ?_
        rintro e w1 ⟨rfl, B1⟩
        go_wp2_with fail
        first | exact ⟨rfl, B1⟩ | (go_ret; exact ⟨rfl, B1⟩)
    · have d1 : decide ((2000 : Int) < (s.size : Int)) = false := by simp; omega
      have d2 : decide ((2000 : Int) < (t.size : Int)) = true := by simp; omega
      go_enter Try.func3, Try.ntmps3
      go_wp2_with fail
      refine (awake_any _).mono ?_
      rintro e w1 ⟨rfl, B1⟩
      go_wp2_with fail
      first | exact ⟨rfl, B1⟩ | (go_ret; exact ⟨rfl, B1⟩)
  · have d1 : decide ((2000 : Int) < (s.size : Int)) = true := by simp; omega
    go_enter Try.func3, Try.ntmps3
    go_wp2_with fail
    refine (awake_any _).mono ?_
    rintro e w1 ⟨rfl, B1⟩
    go_wp2_with fail
    first | exact ⟨rfl, B1⟩ | (go_ret; exact ⟨rfl, B1⟩)

end Go.Proofs.Ytigblfolegnhbaa
