/-
  The statement FontLines: the walk. (Printed by gen_lines.py.)
-/
import Derived.Test.YtgjfebnafjpcaaaDoorBackLaw
import Derived.Test.YtgjfebnafjpcaaaDoorLinesLaw
namespace Go.Proofs.YtgjfebnafjpcaaaDoor
open Go.RowKit
set_option maxRecDepth 100000

theorem refTiny (w : World) : Calls Tryd.prog 10 #[.string { data := #[116, 105, 110, 121] }] w (MadeEnd w tiny) := refBuiltin_any tinyStr w
theorem refWide (w : World) : Calls Tryd.prog 10 #[.string { data := #[119, 105, 100, 101] }] w (MadeEnd w wide) := refBuiltin_any wideStr w

theorem text_cut {f : Ft} (hf : f.Good) (k : Nat) (hk : k < 96) (T : ByteArray) (hT : T.data.toList = f.text) (a z : Nat) (ha : a = (ahead f k).length) (hzz : z = (ahead f k).length + (lineAt f k).length) :
    z < T.size ∧ (∀ j, j < a → (T.data.toList.take j).count 10 < k) ∧ (T.data.toList.take a).count 10 = k ∧
    (∀ j (h : j < T.size), (T.data.toList.take (j + 1)).count 10 = (T.data.toList.take j).count 10 + if T[j] = 10 then 1 else 0) ∧
    (∀ j (h : j < T.size), a ≤ j → j < z → T[j] ≠ 10) ∧ (∀ h : z < T.size, T[z] = 10) ∧
    (T.data.toList.take a = ahead f k ∧ T.data.toList.drop (z + 1) = behind f k) ∧ (T.data.toList.take (z + 1)).drop a = lineAt f k ++ [10] ∧ T.data.toList.take z = ahead f k ++ lineAt f k := by
  have hs : T.data.toList.length = T.size := by simp
  have hp := text_parts hf k hk
  rw [← hT] at hp
  have hg : ∀ j (h : j < T.size), T.data.toList[j]? = some T[j] := fun j h => by rw [List.getElem?_eq_getElem (by omega), list_at T j h (by omega)]
  generalize T.data.toList = l at hs hp hg ⊢
  have hlen := congrArg List.length hp
  simp only [List.length_append, List.length_cons] at hlen
  refine ⟨by omega, ?_, ?_, ?_, ?_, ?_, ⟨?_, ?_⟩, ?_, ?_⟩
  · intro j hj
    rw [hp, List.take_append_of_le_length (by omega)]
    exact count_part f k j (by omega) (by omega)
  · rw [hp, ha, List.take_left]
    exact count_ahead f k (by omega)
  · intro j h
    have hj := hg j h
    rw [List.getElem?_eq_getElem (by omega)] at hj
    rw [List.take_succ_eq_append_getElem (by omega), List.count_append, Option.some.inj hj]
    by_cases h10 : T[j] = 10
    · rw [h10, if_pos rfl]; rfl
    · rw [if_neg h10, List.count_singleton, if_neg (by simpa using h10)]
  · intro j h h1 h2
    have hj : l[j]? = (lineAt f k)[j - a]? := by
      rw [hp, List.getElem?_append_right (by omega), ← ha, List.getElem?_append_left (by omega)]
    rw [hg j h, List.getElem?_eq_getElem (by omega)] at hj
    rw [Option.some.inj hj]
    intro e
    exact lines_no10 f _ (lineAt_mem f k hk) (by rw [← e]; exact List.getElem_mem _)
  · intro h
    have hj : l[z]? = some 10 := by
      rw [hp, List.getElem?_append_right (by omega), List.getElem?_append_right (by omega), show z - (ahead f k).length - (lineAt f k).length = 0 by omega]
      rfl
    rw [hg z h] at hj
    exact Option.some.inj hj
  · rw [hp, ha, List.take_left]
  · rw [hp, hzz, ← List.append_assoc, show (ahead f k).length + (lineAt f k).length + 1 = (ahead f k ++ lineAt f k).length + 1 by rw [List.length_append], List.drop_append, List.drop_of_length_le (by omega), Nat.add_sub_cancel_left]
    rfl
  · have e : lineAt f k ++ 10 :: behind f k = (lineAt f k ++ [10]) ++ behind f k := by simp
    rw [hp, e, ← List.append_assoc, hzz, show (ahead f k).length + (lineAt f k).length + 1 = (ahead f k ++ (lineAt f k ++ [10])).length by simp; omega, List.take_left, ha, List.drop_left]
  · rw [hp, ← List.append_assoc, hzz, ← List.length_append, List.take_left]

theorem wpq_strAdd {P : Program} {ops : Array Oper} {rest : List Oper} {a : Act} {C : World → Prop} {Q : Act → Prop} {dst : Option Tmp} {ty : TypeId} {pos : String} {after : Array Edge} {gd : Option (Nat × Bool)} (t tr : TypeId) (x y : Operand) (s u : ByteArray)
    (hw : Region.wanted { dst := dst, op := .binOp .add t x y tr, type := ty, pos := pos, after := after, guard := gd } (yielded ops a.tmps) = true) (hx : a.eval x = .string s) (hy : a.eval y = .string u) (hlen : s.size + u.size ≤ 9223372036854775807)
    (h : wpQuiet P ops C Q rest (a.put dst (.string (s ++ u)))) : wpQuiet P ops C Q ({ dst := dst, op := .binOp .add t x y tr, type := ty, pos := pos, after := after, guard := gd } :: rest) a := by
  refine wpq_step hw (fun w _ => ?_) h
  have hr : (binOp .add t (.string s) (.string u)).run P w = .ok (.string (s ++ u)) w := by
    simp only [binOp]
    exact run_string_add_sum w s u hlen
  unfold Oper.quietAt
  simp [execOp, hx, hy, eqGuard, hr]
  exact ⟨rfl, rfl⟩

theorem parse_wrong (s : ByteArray) (n : Nat) (w : World) (hm : MaxL w) (hp : ∃ e, 1 ≤ e ∧ parse s.data.toList = (Ft.none, n, e)) :
    Calls Tryd.prog 12 #[.string s] w fun e w' => ∃ c : Nat, 1 ≤ c ∧ e = .returned (.tuple #[.agg (fcells Ft.none.cell), .int .i64 (n : Nat), .int .i64 (c : Nat)]) ∧ Below w.heap.size w w' := by
  obtain ⟨c, hc, hp⟩ := hp
  have h := parse_any s w hm
  unfold ParseIs at h
  rw [hp] at h
  exact h.mono fun e w' ⟨h1, h2⟩ => ⟨c, hc, h1, h2⟩
theorem str_add (s t : ByteArray) : (s ++ t).data.toList = s.data.toList ++ t.data.toList := by simp

set_option maxHeartbeats 4000000 in
theorem fontLines_any (b : Bool) (n1 n2 : Nat) (h1 : n1 < 256) (h2 : n2 < 256) (w : World) (hm : MaxL w) (ht : Tab w.heap.size w) :
    Calls Tryd.prog 7 #[.bool b, .int .u8 (n1 : Int), .int .u8 (n2 : Int)] w fun e w' => e = .returned (.bool true) ∧ Below w.heap.size w w' := by
  cases b
  · go_enter Tryd.func7, Tryd.ntmps7
    go_wp2_with fail
    refine (awake_any _).mono ?_
    rintro e w1 ⟨rfl, B1⟩
    go_wp2_with fail
    refine (refTiny _).mono ?_
    have hf := tiny_good
    generalize tiny = f at hf
    rintro e w2 ⟨v, rfl, hR, hb2⟩
    obtain ⟨A0, c0, rfl⟩ := refFont_form hR
    have B2 := B1.trans (hb2.mono B1.size)
    have hfl : f.ls.length = 95 := hf.all
    rw [hfl] at hR ⊢
    clear hb2 B1
    have k2 := Holds.new w2 33 #[.int .i64 (f.asc : Nat), .int .i64 (f.desc : Nat), .slice A0 95 c0]
    have k3 : RefFont (w2.alloc (.cells #[.int .i64 (f.asc : Nat), .int .i64 (f.desc : Nat), .slice A0 95 c0] 33)) 0 w2.heap.size f (.agg #[.int .i64 (f.asc : Nat), .int .i64 (f.desc : Nat), .slice A0 95 c0]) :=
      (hR.low (Nat.zero_le _)).below ((Below.refl _ _).alloc (Nat.le_refl _) _) (Nat.le_refl _) (Nat.le_refl _)
    have B3 := B2.alloc B2.size (.cells #[.int .i64 (f.asc : Nat), .int .i64 (f.desc : Nat), .slice A0 95 c0] 33)
    have hu1 := one_font (f.asc : Nat) (f.desc : Nat) (.slice A0 95 c0) rfl
    go_wp2_with (first | ((with_reducible apply wpl_storeNew (t := 33)) <;> try (first | exact rfl | exact refFont_size | exact hu1)) | ((with_reducible apply wpl_loadRowG (t := 33) (hu := Tryd.underlying33) (hd := rfl)) <;> try (first | exact rfl | exact k2 | exact refFont_size)))
    have hrt := refText_fine f (.inl hf) _ 0 w2.heap.size _ k3 (by simp)
    refine hrt.mono ?_
    rintro e w4 ⟨rfl, hb4⟩
    have B4 := B3.trans (hb4.mono B3.size)
    clear hrt hb4 B3 k2 k3 hR B2 hu1
    obtain ⟨k, hk⟩ : ∃ k : Nat, (n1 : Int) % 96 = (k : Int) := ⟨n1 % 96, (Int.natCast_emod n1 96).symm⟩
    have hk96 : k < 96 := by omega
    obtain ⟨T, hT⟩ : ∃ T : ByteArray, T = ⟨f.text.toArray⟩ := ⟨_, rfl⟩
    have hTl : T.data.toList = f.text := by rw [hT]
    rw [← hT]
    clear hT
    have hTs : T.data.toList.length = T.size := by simp
    have hTb : T.size ≤ 20000 := by rw [← hTs, hTl]; exact Ft.text_short hf
    obtain ⟨a, ha⟩ : ∃ a : Nat, a = (ahead f k).length := ⟨_, rfl⟩
    obtain ⟨z, hzz⟩ : ∃ z : Nat, z = (ahead f k).length + (lineAt f k).length := ⟨_, rfl⟩
    have hat : a ≤ z := by omega
    obtain ⟨hsz, hc1, hc2, hc3, hx1, hx2, hp1, hp2, hp3⟩ := text_cut hf k hk96 T hTl a z ha hzz
    clear ha hzz hTl
    have HC := Lib.hid (And.intro hc1 (And.intro hc2 (And.intro hc3 (And.intro hx1 (And.intro hx2 (And.intro hp1 (And.intro hp2 hp3)))))))
    clear hc1 hc2 hc3 hx1 hx2 hp1 hp2 hp3 hTs
    go_wp2_with fail
    go_loop [11, 12] (fun p q => ∃ j : Nat, j ≤ a ∧ p = .int .i64 j ∧ q = .int .i64 (((T.data.toList.take j).count 10 : Nat) : Int)) (fun p _ => a - (intOf p).toNat)
    case atStart => exact ⟨0, by omega, rfl, by simp⟩
    case round =>
      obtain ⟨j, hj, rfl, rfl⟩ := hrel
      by_cases hja : j < a
      · have hlt := HC.out.1 j hja
        have hd : decide ((((T.data.toList.take j).count 10 : Nat) : Int) < (k : Int)) = true := by simp; omega
        have hst := HC.out.2.2.1 j (by omega)
        have hjT : j < T.size := by omega
        have hj0 : (0 : Int) ≤ (j : Int) := by omega
        have hj1 : (j : Int) < (T.size : Int) := by omega
        generalize (T.data.toList.take j).count 10 = m at hd hst hlt ⊢
        have hmb : (m : Int) ≤ 95 := by omega
        by_cases h10 : T[j] = 10
        · have e10 : (((T[j].toNat : Nat) : Int) == 10) = true := by rw [h10]; rfl
          rw [if_pos h10] at hst
          have HS := Lib.hid hst
          clear hst
          go_wp2_with fail
          go_round
          case rel => exact ⟨j + 1, by omega, by go_num, by rw [HS.out]; go_num⟩
          case measure => simp [intOf]; omega
        · have e10 : (((T[j].toNat : Nat) : Int) == 10) = false := by
            have : T[j].toNat ≠ 10 := fun e => h10 (UInt8.toNat_inj.1 (by simpa using e))
            simp
            omega
          rw [if_neg h10] at hst
          have HS := Lib.hid hst
          clear hst
          go_wp2_with fail
          go_round
          case rel => exact ⟨j + 1, by omega, by go_num, by rw [HS.out, Nat.add_zero]⟩
          case measure => simp [intOf]; omega
      · have hja' : a = j := by omega
        subst hja'
        have hck := HC.out.2.1
        rw [hck]
        clear hck
        go_wp2_with fail
        go_loop [13] (fun p => ∃ j : Nat, a ≤ j ∧ j ≤ z ∧ p = .int .i64 j) (fun p => z - (intOf p).toNat)
        case atStart => exact ⟨a, by omega, by omega, rfl⟩
        case round =>
          obtain ⟨j, hj1, hj2, rfl⟩ := hrel
          have hjT : j < T.size := by omega
          have hj3 : (0 : Int) ≤ (j : Int) := by omega
          have hj4 : (j : Int) < (T.size : Int) := by omega
          by_cases hjz : j < z
          · have hne := HC.out.2.2.2.1 j hjT hj1 hjz
            have e10 : (((T[j].toNat : Nat) : Int) != 10) = true := by
              have : T[j].toNat ≠ 10 := fun e => hne (UInt8.toNat_inj.1 (by simpa using e))
              simp
              omega
            have e10' : (((T[j].toNat : Nat) : Int) == 10) = false := by
              have : T[j].toNat ≠ 10 := fun e => hne (UInt8.toNat_inj.1 (by simpa using e))
              simp
              omega
            clear hne
            go_wp2_with fail
            go_round
            case rel => exact ⟨j + 1, by omega, by omega, by go_num⟩
            case measure => simp [intOf]; omega
          · have hjz' : z = j := by omega
            subst hjz'
            have h10 := HC.out.2.2.2.2.1 hjT
            have e10 : (((T[z].toNat : Nat) : Int) != 10) = false := by rw [h10]; rfl
            have e10' : (((T[z].toNat : Nat) : Int) == 10) = true := by rw [h10]; rfl
            clear h10
            have hz0 : (0 : Int) ≤ (z : Int) := by omega
            have hz1 : (z : Int) < (T.size : Int) := by omega
            have ha0 : (0 : Int) ≤ (a : Int) := by omega
            have ha1 : (a : Int) ≤ (z : Int) := by omega
            have haT : (a : Int) ≤ (T.size : Int) := by omega
            have hz2 : (z : Int) + 1 ≤ (T.size : Int) := by omega
            have hn3 : n2 % 3 = 0 ∨ n2 % 3 = 1 ∨ n2 % 3 = 2 := by omega
            have z0 : (T.extract 0 a).size = a := by simp; omega
            have z1 : (T.extract 0 (z + 1)).size = z + 1 := by simp; omega
            have z2 : (T.extract (z + 1) T.size).size = T.size - (z + 1) := by simp
            have z3 : (T.extract a (z + 1)).size = z + 1 - a := by simp; omega
            have hs0 : (T.extract 0 a).size + (T.extract (z + 1) T.size).size ≤ 9223372036854775807 := by omega
            have hs1 : (T.extract 0 (z + 1)).size + (T.extract a (z + 1)).size ≤ 9223372036854775807 := by omega
            have hs2 : (T.extract 0 (z + 1) ++ T.extract a (z + 1)).size + (T.extract (z + 1) T.size).size ≤ 9223372036854775807 := by
              have : (T.extract 0 (z + 1) ++ T.extract a (z + 1)).size = (T.extract 0 (z + 1)).size + (T.extract a (z + 1)).size := by simp
              omega
            clear z0 z1 z2 z3
            have HS := Lib.hid (And.intro hs0 (And.intro hs1 hs2))
            clear hs0 hs1 hs2
            have p0 : ∃ e, 1 ≤ e ∧ parse (T.extract 0 a ++ T.extract (z + 1) T.size).data.toList = (Ft.none, k + 1, e) := by
              rw [str_add, extract_list, extract_list, List.drop_zero, List.take_of_length_le (i := T.size) (by simp), HC.out.2.2.2.2.2.1.1, HC.out.2.2.2.2.2.1.2]
              exact parse_out hf k hk96
            have p1 : ∃ e, 1 ≤ e ∧ parse (T.extract 0 (z + 1) ++ T.extract a (z + 1) ++ T.extract (z + 1) T.size).data.toList = (Ft.none, k + 2, e) := by
              have e1 : T.data.toList.take (z + 1) = ahead f k ++ (lineAt f k ++ [10]) := by
                have h := List.take_append_drop a (T.data.toList.take (z + 1))
                rw [List.take_take, Nat.min_eq_left (by omega), HC.out.2.2.2.2.2.1.1, HC.out.2.2.2.2.2.2.1] at h
                exact h.symm
              rw [str_add, str_add, extract_list, extract_list, extract_list, List.drop_zero, List.take_of_length_le (i := T.size) (by simp), HC.out.2.2.2.2.2.2.1, e1, HC.out.2.2.2.2.2.1.2]
              have e2 : ahead f k ++ (lineAt f k ++ [10]) ++ (lineAt f k ++ [10]) ++ behind f k = ahead f k ++ (lineAt f k ++ 10 :: (lineAt f k ++ 10 :: behind f k)) := by simp
              rw [e2]
              exact parse_twice hf k hk96
            have p2 : ∃ e, 1 ≤ e ∧ parse (T.extract 0 z).data.toList = (Ft.none, k + 1, e) := by
              rw [extract_list, List.drop_zero, HC.out.2.2.2.2.2.2.2]
              exact parse_cut hf k hk96
            have P0 := Lib.hid p0
            have P1 := Lib.hid p1
            have P2 := Lib.hid p2
            clear p0 p1 p2 HC
            rcases hn3 with hn3 | hn3 | hn3
            · have hn4 : (n2 : Int) % 3 = 0 := by omega
              clear hn3
              go_wp2_with fail
              obtain ⟨hs0, hs1, hs2⟩ := HS.out
              refine wp_region_grows (by kernel_rfl) (by kernel_rfl) ?_
              refine wpq_move _ rfl ?_; go_simp
              refine wpq_move _ rfl ?_; go_simp
              refine wpq_step (v := .string (T.extract 0 a)) rfl (fun w' h' => ?_) ?_
              · unfold Oper.quietAt; go_simp; try (first | exact ⟨rfl, rfl⟩ | omega | exact IntWalk.i64_in _ (by omega))
              go_simp
              refine wpq_move _ rfl ?_; go_simp
              refine wpq_move _ rfl ?_; go_simp
              refine wpq_step (v := .int .i64 ((z : Int) + 1)) rfl (fun w' h' => ?_) ?_
              · unfold Oper.quietAt; go_simp; try (first | exact ⟨rfl, rfl⟩ | omega | exact IntWalk.i64_in _ (by omega))
              go_simp
              refine wpq_step (v := .string (T.extract (z + 1) T.size)) rfl (fun w' h' => ?_) ?_
              · unfold Oper.quietAt; go_simp; try (first | exact ⟨rfl, rfl⟩ | omega | exact IntWalk.i64_in _ (by omega))
              go_simp
              refine wpq_strAdd (t := 9) _ _ _ _ _ rfl rfl rfl (hs0) ?_; go_simp
              refine wpq_assign _ rfl ?_; go_simp
              refine wpq_nil ?_
              intro w5 h5
              have BB := B4.trans (Below.mono h5 B4.size)
              clear h5
              go_wp2_with fail
              refine (parse_wrong _ (k + 1) _ (hm.on BB) P0.out).mono ?_
              rintro e w6 ⟨c, hc, rfl, hb6⟩
              have B6 := BB.trans (hb6.mono BB.size)
              have hcn : ((c : Int) != 0) = true := by simp; omega
              have hcn' : ((c : Int) == 0) = false := by simp; omega
              have q6 := Holds.new w6 28 (fcells Ft.none.cell)
              have B7 := B6.alloc B6.size (.cells (fcells Ft.none.cell) 28)
              have t7 : Tab (w6.alloc (.cells (fcells Ft.none.cell) 28)).heap.size (w6.alloc (.cells (fcells Ft.none.cell) 28)) := (ht.on B7).mono B7.size
              go_wp2_with (first | (with_reducible apply arm_alloc) | ((with_reducible apply arm_store) <;> try exact rfl) | ((with_reducible apply arm_loadG) <;> try (first | exact rfl | exact q6)))
              refine (text_zero _ t7).mono ?_
              rintro e w8 ⟨rfl, hb8⟩
              go_wp2_with fail
              go_ret
              exact ⟨rfl, B7.trans (hb8.mono B7.size)⟩
            · have hn4 : (n2 : Int) % 3 = 1 := by omega
              clear hn3
              go_wp2_with fail
              obtain ⟨hs0, hs1, hs2⟩ := HS.out
              refine wp_region_grows (by kernel_rfl) (by kernel_rfl) ?_
              refine wpq_move _ rfl ?_; go_simp
              refine wpq_move _ rfl ?_; go_simp
              refine wpq_step (v := .int .i64 ((z : Int) + 1)) rfl (fun w' h' => ?_) ?_
              · unfold Oper.quietAt; go_simp; try (first | exact ⟨rfl, rfl⟩ | omega | exact IntWalk.i64_in _ (by omega))
              go_simp
              refine wpq_step (v := .string (T.extract 0 (z + 1))) rfl (fun w' h' => ?_) ?_
              · unfold Oper.quietAt; go_simp; try (first | exact ⟨rfl, rfl⟩ | omega | exact IntWalk.i64_in _ (by omega))
              go_simp
              refine wpq_move _ rfl ?_; go_simp
              refine wpq_strAdd (t := 9) _ _ _ _ _ rfl rfl rfl (hs1) ?_; go_simp
              refine wpq_move _ rfl ?_; go_simp
              refine wpq_move _ rfl ?_; go_simp
              refine wpq_step (v := .int .i64 ((z : Int) + 1)) rfl (fun w' h' => ?_) ?_
              · unfold Oper.quietAt; go_simp; try (first | exact ⟨rfl, rfl⟩ | omega | exact IntWalk.i64_in _ (by omega))
              go_simp
              refine wpq_step (v := .string (T.extract (z + 1) T.size)) rfl (fun w' h' => ?_) ?_
              · unfold Oper.quietAt; go_simp; try (first | exact ⟨rfl, rfl⟩ | omega | exact IntWalk.i64_in _ (by omega))
              go_simp
              refine wpq_strAdd (t := 9) _ _ _ _ _ rfl rfl rfl (hs2) ?_; go_simp
              refine wpq_assign _ rfl ?_; go_simp
              refine wpq_nil ?_
              intro w5 h5
              have BB := B4.trans (Below.mono h5 B4.size)
              clear h5
              go_wp2_with fail
              refine (parse_wrong _ (k + 2) _ (hm.on BB) P1.out).mono ?_
              rintro e w6 ⟨c, hc, rfl, hb6⟩
              have B6 := BB.trans (hb6.mono BB.size)
              have hcn : ((c : Int) != 0) = true := by simp; omega
              have hcn' : ((c : Int) == 0) = false := by simp; omega
              have q6 := Holds.new w6 28 (fcells Ft.none.cell)
              have B7 := B6.alloc B6.size (.cells (fcells Ft.none.cell) 28)
              have t7 : Tab (w6.alloc (.cells (fcells Ft.none.cell) 28)).heap.size (w6.alloc (.cells (fcells Ft.none.cell) 28)) := (ht.on B7).mono B7.size
              go_wp2_with (first | (with_reducible apply arm_alloc) | ((with_reducible apply arm_store) <;> try exact rfl) | ((with_reducible apply arm_loadG) <;> try (first | exact rfl | exact q6)))
              refine (text_zero _ t7).mono ?_
              rintro e w8 ⟨rfl, hb8⟩
              go_wp2_with fail
              go_ret
              exact ⟨rfl, B7.trans (hb8.mono B7.size)⟩
            · have hn4 : (n2 : Int) % 3 = 2 := by omega
              clear hn3
              go_wp2_with fail
              have BB := B4
              refine (parse_wrong _ (k + 1) _ (hm.on BB) P2.out).mono ?_
              rintro e w6 ⟨c, hc, rfl, hb6⟩
              have B6 := BB.trans (hb6.mono BB.size)
              have hcn : ((c : Int) != 0) = true := by simp; omega
              have hcn' : ((c : Int) == 0) = false := by simp; omega
              have q6 := Holds.new w6 28 (fcells Ft.none.cell)
              have B7 := B6.alloc B6.size (.cells (fcells Ft.none.cell) 28)
              have t7 : Tab (w6.alloc (.cells (fcells Ft.none.cell) 28)).heap.size (w6.alloc (.cells (fcells Ft.none.cell) 28)) := (ht.on B7).mono B7.size
              go_wp2_with (first | (with_reducible apply arm_alloc) | ((with_reducible apply arm_store) <;> try exact rfl) | ((with_reducible apply arm_loadG) <;> try (first | exact rfl | exact q6)))
              refine (text_zero _ t7).mono ?_
              rintro e w8 ⟨rfl, hb8⟩
              go_wp2_with fail
              go_ret
              exact ⟨rfl, B7.trans (hb8.mono B7.size)⟩
  · go_enter Tryd.func7, Tryd.ntmps7
    go_wp2_with fail
    refine (awake_any _).mono ?_
    rintro e w1 ⟨rfl, B1⟩
    go_wp2_with fail
    refine (refWide _).mono ?_
    have hf := wide_good
    generalize wide = f at hf
    rintro e w2 ⟨v, rfl, hR, hb2⟩
    obtain ⟨A0, c0, rfl⟩ := refFont_form hR
    have B2 := B1.trans (hb2.mono B1.size)
    have hfl : f.ls.length = 95 := hf.all
    rw [hfl] at hR ⊢
    clear hb2 B1
    have k2 := Holds.new w2 33 #[.int .i64 (f.asc : Nat), .int .i64 (f.desc : Nat), .slice A0 95 c0]
    have k3 : RefFont (w2.alloc (.cells #[.int .i64 (f.asc : Nat), .int .i64 (f.desc : Nat), .slice A0 95 c0] 33)) 0 w2.heap.size f (.agg #[.int .i64 (f.asc : Nat), .int .i64 (f.desc : Nat), .slice A0 95 c0]) :=
      (hR.low (Nat.zero_le _)).below ((Below.refl _ _).alloc (Nat.le_refl _) _) (Nat.le_refl _) (Nat.le_refl _)
    have B3 := B2.alloc B2.size (.cells #[.int .i64 (f.asc : Nat), .int .i64 (f.desc : Nat), .slice A0 95 c0] 33)
    have hu1 := one_font (f.asc : Nat) (f.desc : Nat) (.slice A0 95 c0) rfl
    go_wp2_with (first | ((with_reducible apply wpl_storeNew (t := 33)) <;> try (first | exact rfl | exact refFont_size | exact hu1)) | ((with_reducible apply wpl_loadRowG (t := 33) (hu := Tryd.underlying33) (hd := rfl)) <;> try (first | exact rfl | exact k2 | exact refFont_size)))
    have hrt := refText_fine f (.inl hf) _ 0 w2.heap.size _ k3 (by simp)
    refine hrt.mono ?_
    rintro e w4 ⟨rfl, hb4⟩
    have B4 := B3.trans (hb4.mono B3.size)
    clear hrt hb4 B3 k2 k3 hR B2 hu1
    obtain ⟨k, hk⟩ : ∃ k : Nat, (n1 : Int) % 96 = (k : Int) := ⟨n1 % 96, (Int.natCast_emod n1 96).symm⟩
    have hk96 : k < 96 := by omega
    obtain ⟨T, hT⟩ : ∃ T : ByteArray, T = ⟨f.text.toArray⟩ := ⟨_, rfl⟩
    have hTl : T.data.toList = f.text := by rw [hT]
    rw [← hT]
    clear hT
    have hTs : T.data.toList.length = T.size := by simp
    have hTb : T.size ≤ 20000 := by rw [← hTs, hTl]; exact Ft.text_short hf
    obtain ⟨a, ha⟩ : ∃ a : Nat, a = (ahead f k).length := ⟨_, rfl⟩
    obtain ⟨z, hzz⟩ : ∃ z : Nat, z = (ahead f k).length + (lineAt f k).length := ⟨_, rfl⟩
    have hat : a ≤ z := by omega
    obtain ⟨hsz, hc1, hc2, hc3, hx1, hx2, hp1, hp2, hp3⟩ := text_cut hf k hk96 T hTl a z ha hzz
    clear ha hzz hTl
    have HC := Lib.hid (And.intro hc1 (And.intro hc2 (And.intro hc3 (And.intro hx1 (And.intro hx2 (And.intro hp1 (And.intro hp2 hp3)))))))
    clear hc1 hc2 hc3 hx1 hx2 hp1 hp2 hp3 hTs
    go_wp2_with fail
    go_loop [11, 12] (fun p q => ∃ j : Nat, j ≤ a ∧ p = .int .i64 j ∧ q = .int .i64 (((T.data.toList.take j).count 10 : Nat) : Int)) (fun p _ => a - (intOf p).toNat)
    case atStart => exact ⟨0, by omega, rfl, by simp⟩
    case round =>
      obtain ⟨j, hj, rfl, rfl⟩ := hrel
      by_cases hja : j < a
      · have hlt := HC.out.1 j hja
        have hd : decide ((((T.data.toList.take j).count 10 : Nat) : Int) < (k : Int)) = true := by simp; omega
        have hst := HC.out.2.2.1 j (by omega)
        have hjT : j < T.size := by omega
        have hj0 : (0 : Int) ≤ (j : Int) := by omega
        have hj1 : (j : Int) < (T.size : Int) := by omega
        generalize (T.data.toList.take j).count 10 = m at hd hst hlt ⊢
        have hmb : (m : Int) ≤ 95 := by omega
        by_cases h10 : T[j] = 10
        · have e10 : (((T[j].toNat : Nat) : Int) == 10) = true := by rw [h10]; rfl
          rw [if_pos h10] at hst
          have HS := Lib.hid hst
          clear hst
          go_wp2_with fail
          go_round
          case rel => exact ⟨j + 1, by omega, by go_num, by rw [HS.out]; go_num⟩
          case measure => simp [intOf]; omega
        · have e10 : (((T[j].toNat : Nat) : Int) == 10) = false := by
            have : T[j].toNat ≠ 10 := fun e => h10 (UInt8.toNat_inj.1 (by simpa using e))
            simp
            omega
          rw [if_neg h10] at hst
          have HS := Lib.hid hst
          clear hst
          go_wp2_with fail
          go_round
          case rel => exact ⟨j + 1, by omega, by go_num, by rw [HS.out, Nat.add_zero]⟩
          case measure => simp [intOf]; omega
      · have hja' : a = j := by omega
        subst hja'
        have hck := HC.out.2.1
        rw [hck]
        clear hck
        go_wp2_with fail
        go_loop [13] (fun p => ∃ j : Nat, a ≤ j ∧ j ≤ z ∧ p = .int .i64 j) (fun p => z - (intOf p).toNat)
        case atStart => exact ⟨a, by omega, by omega, rfl⟩
        case round =>
          obtain ⟨j, hj1, hj2, rfl⟩ := hrel
          have hjT : j < T.size := by omega
          have hj3 : (0 : Int) ≤ (j : Int) := by omega
          have hj4 : (j : Int) < (T.size : Int) := by omega
          by_cases hjz : j < z
          · have hne := HC.out.2.2.2.1 j hjT hj1 hjz
            have e10 : (((T[j].toNat : Nat) : Int) != 10) = true := by
              have : T[j].toNat ≠ 10 := fun e => hne (UInt8.toNat_inj.1 (by simpa using e))
              simp
              omega
            have e10' : (((T[j].toNat : Nat) : Int) == 10) = false := by
              have : T[j].toNat ≠ 10 := fun e => hne (UInt8.toNat_inj.1 (by simpa using e))
              simp
              omega
            clear hne
            go_wp2_with fail
            go_round
            case rel => exact ⟨j + 1, by omega, by omega, by go_num⟩
            case measure => simp [intOf]; omega
          · have hjz' : z = j := by omega
            subst hjz'
            have h10 := HC.out.2.2.2.2.1 hjT
            have e10 : (((T[z].toNat : Nat) : Int) != 10) = false := by rw [h10]; rfl
            have e10' : (((T[z].toNat : Nat) : Int) == 10) = true := by rw [h10]; rfl
            clear h10
            have hz0 : (0 : Int) ≤ (z : Int) := by omega
            have hz1 : (z : Int) < (T.size : Int) := by omega
            have ha0 : (0 : Int) ≤ (a : Int) := by omega
            have ha1 : (a : Int) ≤ (z : Int) := by omega
            have haT : (a : Int) ≤ (T.size : Int) := by omega
            have hz2 : (z : Int) + 1 ≤ (T.size : Int) := by omega
            have hn3 : n2 % 3 = 0 ∨ n2 % 3 = 1 ∨ n2 % 3 = 2 := by omega
            have z0 : (T.extract 0 a).size = a := by simp; omega
            have z1 : (T.extract 0 (z + 1)).size = z + 1 := by simp; omega
            have z2 : (T.extract (z + 1) T.size).size = T.size - (z + 1) := by simp
            have z3 : (T.extract a (z + 1)).size = z + 1 - a := by simp; omega
            have hs0 : (T.extract 0 a).size + (T.extract (z + 1) T.size).size ≤ 9223372036854775807 := by omega
            have hs1 : (T.extract 0 (z + 1)).size + (T.extract a (z + 1)).size ≤ 9223372036854775807 := by omega
            have hs2 : (T.extract 0 (z + 1) ++ T.extract a (z + 1)).size + (T.extract (z + 1) T.size).size ≤ 9223372036854775807 := by
              have : (T.extract 0 (z + 1) ++ T.extract a (z + 1)).size = (T.extract 0 (z + 1)).size + (T.extract a (z + 1)).size := by simp
              omega
            clear z0 z1 z2 z3
            have HS := Lib.hid (And.intro hs0 (And.intro hs1 hs2))
            clear hs0 hs1 hs2
            have p0 : ∃ e, 1 ≤ e ∧ parse (T.extract 0 a ++ T.extract (z + 1) T.size).data.toList = (Ft.none, k + 1, e) := by
              rw [str_add, extract_list, extract_list, List.drop_zero, List.take_of_length_le (i := T.size) (by simp), HC.out.2.2.2.2.2.1.1, HC.out.2.2.2.2.2.1.2]
              exact parse_out hf k hk96
            have p1 : ∃ e, 1 ≤ e ∧ parse (T.extract 0 (z + 1) ++ T.extract a (z + 1) ++ T.extract (z + 1) T.size).data.toList = (Ft.none, k + 2, e) := by
              have e1 : T.data.toList.take (z + 1) = ahead f k ++ (lineAt f k ++ [10]) := by
                have h := List.take_append_drop a (T.data.toList.take (z + 1))
                rw [List.take_take, Nat.min_eq_left (by omega), HC.out.2.2.2.2.2.1.1, HC.out.2.2.2.2.2.2.1] at h
                exact h.symm
              rw [str_add, str_add, extract_list, extract_list, extract_list, List.drop_zero, List.take_of_length_le (i := T.size) (by simp), HC.out.2.2.2.2.2.2.1, e1, HC.out.2.2.2.2.2.1.2]
              have e2 : ahead f k ++ (lineAt f k ++ [10]) ++ (lineAt f k ++ [10]) ++ behind f k = ahead f k ++ (lineAt f k ++ 10 :: (lineAt f k ++ 10 :: behind f k)) := by simp
              rw [e2]
              exact parse_twice hf k hk96
            have p2 : ∃ e, 1 ≤ e ∧ parse (T.extract 0 z).data.toList = (Ft.none, k + 1, e) := by
              rw [extract_list, List.drop_zero, HC.out.2.2.2.2.2.2.2]
              exact parse_cut hf k hk96
            have P0 := Lib.hid p0
            have P1 := Lib.hid p1
            have P2 := Lib.hid p2
            clear p0 p1 p2 HC
            rcases hn3 with hn3 | hn3 | hn3
            · have hn4 : (n2 : Int) % 3 = 0 := by omega
              clear hn3
              go_wp2_with fail
              obtain ⟨hs0, hs1, hs2⟩ := HS.out
              refine wp_region_grows (by kernel_rfl) (by kernel_rfl) ?_
              refine wpq_move _ rfl ?_; go_simp
              refine wpq_move _ rfl ?_; go_simp
              refine wpq_step (v := .string (T.extract 0 a)) rfl (fun w' h' => ?_) ?_
              · unfold Oper.quietAt; go_simp; try (first | exact ⟨rfl, rfl⟩ | omega | exact IntWalk.i64_in _ (by omega))
              go_simp
              refine wpq_move _ rfl ?_; go_simp
              refine wpq_move _ rfl ?_; go_simp
              refine wpq_step (v := .int .i64 ((z : Int) + 1)) rfl (fun w' h' => ?_) ?_
              · unfold Oper.quietAt; go_simp; try (first | exact ⟨rfl, rfl⟩ | omega | exact IntWalk.i64_in _ (by omega))
              go_simp
              refine wpq_step (v := .string (T.extract (z + 1) T.size)) rfl (fun w' h' => ?_) ?_
              · unfold Oper.quietAt; go_simp; try (first | exact ⟨rfl, rfl⟩ | omega | exact IntWalk.i64_in _ (by omega))
              go_simp
              refine wpq_strAdd (t := 9) _ _ _ _ _ rfl rfl rfl (hs0) ?_; go_simp
              refine wpq_assign _ rfl ?_; go_simp
              refine wpq_nil ?_
              intro w5 h5
              have BB := B4.trans (Below.mono h5 B4.size)
              clear h5
              go_wp2_with fail
              refine (parse_wrong _ (k + 1) _ (hm.on BB) P0.out).mono ?_
              rintro e w6 ⟨c, hc, rfl, hb6⟩
              have B6 := BB.trans (hb6.mono BB.size)
              have hcn : ((c : Int) != 0) = true := by simp; omega
              have hcn' : ((c : Int) == 0) = false := by simp; omega
              have q6 := Holds.new w6 28 (fcells Ft.none.cell)
              have B7 := B6.alloc B6.size (.cells (fcells Ft.none.cell) 28)
              have t7 : Tab (w6.alloc (.cells (fcells Ft.none.cell) 28)).heap.size (w6.alloc (.cells (fcells Ft.none.cell) 28)) := (ht.on B7).mono B7.size
              go_wp2_with (first | (with_reducible apply arm_alloc) | ((with_reducible apply arm_store) <;> try exact rfl) | ((with_reducible apply arm_loadG) <;> try (first | exact rfl | exact q6)))
              refine (text_zero _ t7).mono ?_
              rintro e w8 ⟨rfl, hb8⟩
              go_wp2_with fail
              go_ret
              exact ⟨rfl, B7.trans (hb8.mono B7.size)⟩
            · have hn4 : (n2 : Int) % 3 = 1 := by omega
              clear hn3
              go_wp2_with fail
              obtain ⟨hs0, hs1, hs2⟩ := HS.out
              refine wp_region_grows (by kernel_rfl) (by kernel_rfl) ?_
              refine wpq_move _ rfl ?_; go_simp
              refine wpq_move _ rfl ?_; go_simp
              refine wpq_step (v := .int .i64 ((z : Int) + 1)) rfl (fun w' h' => ?_) ?_
              · unfold Oper.quietAt; go_simp; try (first | exact ⟨rfl, rfl⟩ | omega | exact IntWalk.i64_in _ (by omega))
              go_simp
              refine wpq_step (v := .string (T.extract 0 (z + 1))) rfl (fun w' h' => ?_) ?_
              · unfold Oper.quietAt; go_simp; try (first | exact ⟨rfl, rfl⟩ | omega | exact IntWalk.i64_in _ (by omega))
              go_simp
              refine wpq_move _ rfl ?_; go_simp
              refine wpq_strAdd (t := 9) _ _ _ _ _ rfl rfl rfl (hs1) ?_; go_simp
              refine wpq_move _ rfl ?_; go_simp
              refine wpq_move _ rfl ?_; go_simp
              refine wpq_step (v := .int .i64 ((z : Int) + 1)) rfl (fun w' h' => ?_) ?_
              · unfold Oper.quietAt; go_simp; try (first | exact ⟨rfl, rfl⟩ | omega | exact IntWalk.i64_in _ (by omega))
              go_simp
              refine wpq_step (v := .string (T.extract (z + 1) T.size)) rfl (fun w' h' => ?_) ?_
              · unfold Oper.quietAt; go_simp; try (first | exact ⟨rfl, rfl⟩ | omega | exact IntWalk.i64_in _ (by omega))
              go_simp
              refine wpq_strAdd (t := 9) _ _ _ _ _ rfl rfl rfl (hs2) ?_; go_simp
              refine wpq_assign _ rfl ?_; go_simp
              refine wpq_nil ?_
              intro w5 h5
              have BB := B4.trans (Below.mono h5 B4.size)
              clear h5
              go_wp2_with fail
              refine (parse_wrong _ (k + 2) _ (hm.on BB) P1.out).mono ?_
              rintro e w6 ⟨c, hc, rfl, hb6⟩
              have B6 := BB.trans (hb6.mono BB.size)
              have hcn : ((c : Int) != 0) = true := by simp; omega
              have hcn' : ((c : Int) == 0) = false := by simp; omega
              have q6 := Holds.new w6 28 (fcells Ft.none.cell)
              have B7 := B6.alloc B6.size (.cells (fcells Ft.none.cell) 28)
              have t7 : Tab (w6.alloc (.cells (fcells Ft.none.cell) 28)).heap.size (w6.alloc (.cells (fcells Ft.none.cell) 28)) := (ht.on B7).mono B7.size
              go_wp2_with (first | (with_reducible apply arm_alloc) | ((with_reducible apply arm_store) <;> try exact rfl) | ((with_reducible apply arm_loadG) <;> try (first | exact rfl | exact q6)))
              refine (text_zero _ t7).mono ?_
              rintro e w8 ⟨rfl, hb8⟩
              go_wp2_with fail
              go_ret
              exact ⟨rfl, B7.trans (hb8.mono B7.size)⟩
            · have hn4 : (n2 : Int) % 3 = 2 := by omega
              clear hn3
              go_wp2_with fail
              have BB := B4
              refine (parse_wrong _ (k + 1) _ (hm.on BB) P2.out).mono ?_
              rintro e w6 ⟨c, hc, rfl, hb6⟩
              have B6 := BB.trans (hb6.mono BB.size)
              have hcn : ((c : Int) != 0) = true := by simp; omega
              have hcn' : ((c : Int) == 0) = false := by simp; omega
              have q6 := Holds.new w6 28 (fcells Ft.none.cell)
              have B7 := B6.alloc B6.size (.cells (fcells Ft.none.cell) 28)
              have t7 : Tab (w6.alloc (.cells (fcells Ft.none.cell) 28)).heap.size (w6.alloc (.cells (fcells Ft.none.cell) 28)) := (ht.on B7).mono B7.size
              go_wp2_with (first | (with_reducible apply arm_alloc) | ((with_reducible apply arm_store) <;> try exact rfl) | ((with_reducible apply arm_loadG) <;> try (first | exact rfl | exact q6)))
              refine (text_zero _ t7).mono ?_
              rintro e w8 ⟨rfl, hb8⟩
              go_wp2_with fail
              go_ret
              exact ⟨rfl, B7.trans (hb8.mono B7.size)⟩

end Go.Proofs.YtgjfebnafjpcaaaDoor
