/-
  The statement FontLetters: the walk.
-/
import Derived.Test.YtgjfebnafjpcaaaDoorParse
import Derived.Test.YtgjfebnafjpcaaaDoorAwake
namespace Go.Proofs.YtgjfebnafjpcaaaDoor
open Go.RowKit
set_option maxRecDepth 100000

/-- The font that the statement looks at. -/
def looked (s : List UInt8) : Ft := if (parse s).2.2 = 0 then (parse s).1 else wide
theorem looked_good (s : List UInt8) : (looked s).Good := by
  unfold looked
  rcases parse_cases s with h | h
  · rw [if_pos h.2.1]; exact h.2.2.1
  · rw [if_neg (by omega)]; exact wide_good

theorem glyph_field1 (x u : Value) (w : World) : (Instr.field 42 (.agg #[x, u]) 1).run Tryd.prog w = .ok u w := by kernel_rfl

set_option maxHeartbeats 4000000 in
theorem fontLetters_any (s : ByteArray) (b at_ : Nat) (n : Int) (hb : b < 256) (ha : at_ < 256) (w : World) (hm : MaxL w) :
    Calls Tryd.prog 4 #[.string s, .int .u8 (b : Int), .int .u8 (at_ : Int), .int .i64 n] w fun e w' => e = .returned (.bool true) ∧ Below w.heap.size w w' := by
  by_cases hs : s.size ≤ 20000
  · have d3 : decide ((20000 : Int) < (s.size : Int)) = false := by simp; omega
    go_enter Tryd.func4, Tryd.ntmps4
    go_wp2_with fail
    refine (awake_any _).mono ?_
    rintro e w1 ⟨rfl, B1⟩
    go_wp2_with fail
    refine (parse_any s _ (hm.on B1)).mono ?_
    rintro e w2 ⟨rfl, hb2⟩
    have B2 := B1.trans (hb2.mono B1.size)
    have z2 := B2.size
    have hg := looked_good s.data.toList
    have hcase : ((parse s.data.toList).2.2 = 0 ∧ looked s.data.toList = (parse s.data.toList).1) ∨ ((parse s.data.toList).2.2 ≠ 0 ∧ looked s.data.toList = wide) := by
      unfold looked
      by_cases h : (parse s.data.toList).2.2 = 0
      · left; rw [if_pos h]; exact ⟨h, rfl⟩
      · right; rw [if_neg h]; exact ⟨h, rfl⟩
    clear B1 hb2
    generalize (parse s.data.toList).2.2 = code at *
    generalize (parse s.data.toList).2.1 = line at *
    generalize (parse s.data.toList).1 = fp at *
    generalize looked s.data.toList = f at *
    have hbr : ∀ b, (f.letter b).rows.length = f.high := fun b => hg.rows _ (Ft.letter_mem hg b)
    have hlm := Ft.letter_mem hg b
    have hrl : (f.letter b).rows.length = f.high := hg.rows _ hlm
    have hw16 := hg.wide _ hlm
    have hbits := hg.bits _ hlm
    have hgl : ∀ w, Calls Tryd.prog 13 #[.agg (fcells f.cell), .int .u8 (b : Int)] w fun e w' => ∃ g, e = .returned (.agg #[.int .i64 ((f.letter b).w : Nat), .slice (some ⟨g, 0, none⟩) f.high f.high]) ∧ w.heap.size ≤ g ∧ Holds w' g 3 (ints ((f.letter b).rows.map Int.ofNat)) ∧ Below w.heap.size w w' := fun w => by
      rw [← hrl]
      exact glyph_any f hg b hb w
    have hlow : 1 ≤ f.high := hg.low
    have htop : f.high ≤ 16 := hg.top
    have hsum : (f.asc : Int) + (f.desc : Int) = ((f.high : Nat) : Int) := by unfold Ft.high; omega
    generalize f.letter b = l at *
    clear hlm
    have code0 : fcells fp.cell = fcells f.cell ∨ code ≠ 0 := by
      rcases hcase with ⟨_, h⟩ | ⟨h, _⟩
      · left; rw [h]
      · exact .inr h
    by_cases hc : code = 0
    -- BRANCHES (printed by gen_letters.py)
    -- BRANCHES (printed by gen_letters.py)
    -- BRANCHES (printed by gen_letters.py)
    -- BRANCHES (printed by gen_letters.py)
    -- BRANCHES (printed by gen_letters.py)
    -- BRANCHES (printed by gen_letters.py)
    -- BRANCHES (printed by gen_letters.py)
    -- BRANCHES (printed by gen_letters.py)
    -- BRANCHES (printed by gen_letters.py)
    -- BRANCHES (printed by gen_letters.py)
    -- BRANCHES (printed by gen_letters.py)
    -- BRANCHES (printed by gen_letters.py)
    · have hff : fcells fp.cell = fcells f.cell := by
        rcases code0 with h | h
        · exact h
        · exact absurd hc h
      subst hc
      rw [hff]
      clear hff code0 hcase
      have qN : Holds (w2.alloc (.cells (fcells f.cell) 28)) w2.heap.size 28 (fcells f.cell) := Holds.new _ _ _
      have BN := B2.alloc B2.size (.cells (fcells f.cell) 28)
      go_wp2_with (first | (with_reducible apply arm_alloc) | ((with_reducible apply arm_store) <;> try exact rfl) | ((with_reducible apply arm_load) <;> try (first | exact rfl | exact Holds.new _ _ _)))
      refine (hgl _).mono ?_
      rintro e w4 ⟨gr, rfl, hgr, hr4, hb4⟩
      have q4 := qN.below hb4 qN.lt
      have B4 := BN.trans (hb4.mono BN.size)
      have z4 := q4.lt
      have zN := qN.lt
      clear hb4 qN BN
      go_wp2_with fail
      have k1 := q4.alloc (.cells #[.int .i64 (l.w : Nat), .slice (some ⟨gr, 0, none⟩) f.high f.high] 42)
      have k2 := Holds.new w4 42 #[.int .i64 (l.w : Nat), .slice (some ⟨gr, 0, none⟩) f.high f.high]
      have k3 := hr4.alloc (.cells #[.int .i64 (l.w : Nat), .slice (some ⟨gr, 0, none⟩) f.high f.high] 42)
      have B5 := B4.alloc B4.size (.cells #[.int .i64 (l.w : Nat), .slice (some ⟨gr, 0, none⟩) f.high f.high] 42)
      have z5 := hr4.lt
      generalize (w4.alloc (.cells #[.int .i64 (l.w : Nat), .slice (some ⟨gr, 0, none⟩) f.high f.high] 42)) = V at k1 k2 k3 B5 ⊢
      clear q4 B4 hr4
      have g1 : gr ≠ w4.heap.size := by omega
      have g2 : gr ≠ w2.heap.size := by omega
      have g3 : w4.heap.size ≠ w2.heap.size := by omega
      have hgW : w.heap.size ≤ gr := by omega
      clear z4 z5 zN hgr
      refine wp_region_grows (by kernel_rfl) (by kernel_rfl) ?_
      refine wpq_step (v := .pointer (some ⟨w4.heap.size, 1, none⟩)) rfl (fun w' h' => ?_) ?_
      · unfold Oper.quietAt; go_simp; try (first | exact ⟨rfl, rfl⟩ | omega | exact IntWalk.i64_in _ (by omega))
      go_simp
      refine wpq_step (v := .slice (some ⟨gr, 0, none⟩) f.high f.high) rfl (fun w' h' => ?_) ?_
      · have hc := (Grows.holds h' k2).cell 1
        simp at hc
        unfold Oper.quietAt; go_simp; try (first | exact ⟨rfl, rfl⟩ | omega | exact IntWalk.i64_in _ (by omega))
      go_simp
      refine wpq_step (v := .int .i64 (f.high : Nat)) rfl (fun w' h' => ?_) ?_
      · unfold Oper.quietAt; go_simp; try (first | exact ⟨rfl, rfl⟩ | omega | exact IntWalk.i64_in _ (by omega))
      go_simp
      refine wpq_loadFont _ w2.heap.size f.cell rfl rfl (fun w' h' => Grows.holds h' k1) ?_; go_simp
      refine wpq_step (v := .int .i64 (f.asc : Nat)) rfl (fun w' h' => ?_) ?_
      · unfold Oper.quietAt; go_simp
        exact (ascent_any f.cell w').mono fun e w5 ⟨he, hb⟩ => ⟨he, Grows.trans h' hb⟩
      go_simp
      refine wpq_loadFont _ w2.heap.size f.cell rfl rfl (fun w' h' => Grows.holds h' k1) ?_; go_simp
      refine wpq_step (v := .int .i64 (f.desc : Nat)) rfl (fun w' h' => ?_) ?_
      · unfold Oper.quietAt; go_simp
        exact (descent_any f.cell w').mono fun e w5 ⟨he, hb⟩ => ⟨he, Grows.trans h' hb⟩
      go_simp
      refine wpq_step (v := .int .i64 (f.high : Nat)) rfl (fun w' h' => ?_) ?_
      · unfold Oper.quietAt; go_simp; try (first | exact ⟨rfl, rfl⟩ | omega | exact IntWalk.i64_in _ (by omega))
      go_simp
      refine wpq_step (v := .bool false) rfl (fun w' h' => ?_) ?_
      · unfold Oper.quietAt; go_simp; try (first | exact ⟨rfl, rfl⟩ | omega | exact IntWalk.i64_in _ (by omega))
      go_simp
      refine wpq_move _ rfl ?_; go_simp
      refine wpq_step (v := .pointer (some ⟨w4.heap.size, 1, none⟩)) rfl (fun w' h' => ?_) ?_
      · unfold Oper.quietAt; go_simp; try (first | exact ⟨rfl, rfl⟩ | omega | exact IntWalk.i64_in _ (by omega))
      go_simp
      refine wpq_step (v := .slice (some ⟨gr, 0, none⟩) f.high f.high) rfl (fun w' h' => ?_) ?_
      · have hc := (Grows.holds h' k2).cell 1
        simp at hc
        unfold Oper.quietAt; go_simp; try (first | exact ⟨rfl, rfl⟩ | omega | exact IntWalk.i64_in _ (by omega))
      go_simp
      refine wpq_step (v := .int .i64 (f.high : Nat)) rfl (fun w' h' => ?_) ?_
      · unfold Oper.quietAt; go_simp; try (first | exact ⟨rfl, rfl⟩ | omega | exact IntWalk.i64_in _ (by omega))
      go_simp
      refine wpq_step (v := .bool false) rfl (fun w' h' => ?_) ?_
      · unfold Oper.quietAt; go_simp; try (first | exact ⟨rfl, rfl⟩ | omega | exact IntWalk.i64_in _ (by omega))
      go_simp
      refine wpq_step (v := .bool false) rfl (fun w' h' => ?_) ?_
      · unfold Oper.quietAt; go_simp; try (first | exact ⟨rfl, rfl⟩ | omega | exact IntWalk.i64_in _ (by omega))
      go_simp
      refine wpq_move _ rfl ?_; go_simp
      refine wpq_step (v := .pointer (some ⟨w4.heap.size, 1, none⟩)) rfl (fun w' h' => ?_) ?_
      · unfold Oper.quietAt; go_simp; try (first | exact ⟨rfl, rfl⟩ | omega | exact IntWalk.i64_in _ (by omega))
      go_simp
      refine wpq_step (v := .slice (some ⟨gr, 0, none⟩) f.high f.high) rfl (fun w' h' => ?_) ?_
      · have hc := (Grows.holds h' k2).cell 1
        simp at hc
        unfold Oper.quietAt; go_simp; try (first | exact ⟨rfl, rfl⟩ | omega | exact IntWalk.i64_in _ (by omega))
      go_simp
      refine wpq_step (v := .int .i64 (f.high : Nat)) rfl (fun w' h' => ?_) ?_
      · unfold Oper.quietAt; go_simp; try (first | exact ⟨rfl, rfl⟩ | omega | exact IntWalk.i64_in _ (by omega))
      go_simp
      refine wpq_step (v := .bool false) rfl (fun w' h' => ?_) ?_
      · unfold Oper.quietAt; go_simp; try (first | exact ⟨rfl, rfl⟩ | omega | exact IntWalk.i64_in _ (by omega))
      go_simp
      refine wpq_step (v := .bool false) rfl (fun w' h' => ?_) ?_
      · unfold Oper.quietAt; go_simp; try (first | exact ⟨rfl, rfl⟩ | omega | exact IntWalk.i64_in _ (by omega))
      go_simp
      refine wpq_move _ rfl ?_; go_simp
      refine wpq_step (v := .pointer (some ⟨w4.heap.size, 0, none⟩)) rfl (fun w' h' => ?_) ?_
      · unfold Oper.quietAt; go_simp; try (first | exact ⟨rfl, rfl⟩ | omega | exact IntWalk.i64_in _ (by omega))
      go_simp
      refine wpq_step (v := .int .i64 (l.w : Nat)) rfl (fun w' h' => ?_) ?_
      · have hc := (Grows.holds h' k2).cell 0
        simp at hc
        unfold Oper.quietAt; go_simp; try (first | exact ⟨rfl, rfl⟩ | omega | exact IntWalk.i64_in _ (by omega))
      go_simp
      refine wpq_step (v := .bool false) rfl (fun w' h' => ?_) ?_
      · unfold Oper.quietAt; go_simp; try (first | exact ⟨rfl, rfl⟩ | omega | exact IntWalk.i64_in _ (by omega))
      go_simp
      refine wpq_step (v := .bool false) rfl (fun w' h' => ?_) ?_
      · unfold Oper.quietAt; go_simp; try (first | exact ⟨rfl, rfl⟩ | omega | exact IntWalk.i64_in _ (by omega))
      go_simp
      refine wpq_move _ rfl ?_; go_simp
      refine wpq_step (v := .pointer (some ⟨w4.heap.size, 0, none⟩)) rfl (fun w' h' => ?_) ?_
      · unfold Oper.quietAt; go_simp; try (first | exact ⟨rfl, rfl⟩ | omega | exact IntWalk.i64_in _ (by omega))
      go_simp
      refine wpq_step (v := .int .i64 (l.w : Nat)) rfl (fun w' h' => ?_) ?_
      · have hc := (Grows.holds h' k2).cell 0
        simp at hc
        unfold Oper.quietAt; go_simp; try (first | exact ⟨rfl, rfl⟩ | omega | exact IntWalk.i64_in _ (by omega))
      go_simp
      refine wpq_step (v := .bool false) rfl (fun w' h' => ?_) ?_
      · unfold Oper.quietAt; go_simp; try (first | exact ⟨rfl, rfl⟩ | omega | exact IntWalk.i64_in _ (by omega))
      go_simp
      refine wpq_step (v := .bool false) rfl (fun w' h' => ?_) ?_
      · unfold Oper.quietAt; go_simp; try (first | exact ⟨rfl, rfl⟩ | omega | exact IntWalk.i64_in _ (by omega))
      go_simp
      refine wpq_nil ?_
      intro w6 h6
      go_wp2_with fail
      have hv6 : Grows V w6 := h6
      clear h6
      have rdl : ∀ w', Grows V w' → w'.cell? ⟨w4.heap.size, 0, none⟩ = some (.int .i64 (l.w : Nat)) ∧ w'.cell? ⟨w4.heap.size, 1, none⟩ = some (.slice (some ⟨gr, 0, none⟩) f.high f.high) := fun w' h => by
        have h2 := Grows.holds h k2
        exact ⟨(h2.cell 0).trans rfl, (h2.cell 1).trans rfl⟩
      have rdr : ∀ w' i (hi : i < l.rows.length), Grows V w' → w'.cell? ⟨gr, i, none⟩ = some (.int .i64 (l.rows[i] : Nat)) := fun w' i hi h => by
        have h3 := Grows.holds h k3
        rw [h3.cell]
        exact ints_get _ _ _ (by rw [List.getElem?_map, List.getElem?_eq_getElem hi]; rfl)
      have RDL := Lib.hid rdl
      have RDR := Lib.hid rdr
      clear rdl rdr
      go_loopw [13] (fun i wr => ∃ k : Nat, k ≤ f.high ∧ i = .int .i64 k ∧ Grows V wr) (fun i _ => f.high - (intOf i).toNat)
      case atStart => exact ⟨0, by omega, rfl, hv6⟩
      case round =>
        obtain ⟨k, hk, rfl, hv⟩ := hrel
        obtain ⟨hw0, hw1⟩ := RDL.out wr hv
        by_cases hlt : k < f.high
        · have hrk := RDR.out wr k (by omega) hv
          have hbk := hbits l.rows[k] (List.getElem_mem _)
          have hk0 : (0 : Int) ≤ (k : Int) := by omega
          have hk1 : (k : Int) < (f.high : Int) := by omega
          generalize l.rows[k] = r at hrk hbk
          have d1 : decide ((r : Int) < 0) = false := by simp
          have e5 := shr_no r l.w hbk
          have hw17 : (l.w : Int) ≤ 16 := by omega
          go_wp2_with fail
          go_quiet (fail)
          go_wp2_with fail
          exact ⟨⟨k + 1, by omega, by go_num, below_drewN hv nq⟩, by simp [intOf]; omega⟩
        · have hkh : k = f.high := by omega
          subst hkh
          have hi : at_ % f.high < l.rows.length := by rw [hrl]; exact Nat.mod_lt _ (by omega)
          have hri := RDR.out wr (at_ % f.high) hi hv
          have hx0 : (0 : Int) ≤ (at_ : Int) % (f.high : Int) := by omega
          have hx1 : (at_ : Int) % (f.high : Int) < (f.high : Int) := Int.emod_lt_of_pos _ (by omega)
          have hx2 : ((at_ : Int) % (f.high : Int)).toNat = at_ % f.high := by
            have : ((at_ % f.high : Nat) : Int) = (at_ : Int) % (f.high : Int) := Int.natCast_emod _ _
            omega
          have hnz : ((f.high : Int) == 0) = false := by simp; omega
          have ha0 : (0 : Int) ≤ (at_ : Int) := by omega
          have hrr : (l.rows.map Int.ofNat)[at_ % f.high]? = some ((l.rows[at_ % f.high] : Nat) : Int) := by rw [List.getElem?_map, List.getElem?_eq_getElem hi]; rfl
          generalize l.rows[at_ % f.high] = r at hri hrr
          have HRR := Lib.hid hrr
          clear hrr
          go_wp2_with fail
          go_quiet (fail)
          go_wp2_with fail
          have p1 : Holds (wr.drewN nq) w2.heap.size 28 (fcells f.cell) := (Grows.holds hv k1).drewN nq
          have p2 : Holds (wr.drewN nq) w4.heap.size 42 #[.int .i64 (l.w : Nat), .slice (some ⟨gr, 0, none⟩) f.high f.high] := (Grows.holds hv k2).drewN nq
          have p3 : ∃ cs : Array Value, Holds (wr.drewN nq) gr 3 cs ∧ cs.size = f.high := ⟨_, (Grows.holds hv k3).drewN nq, by rw [ints_size, List.length_map, hrl]⟩
          have pB : Below w.heap.size w (wr.drewN nq) := below_drewN (B5.trans (hv.mono B5.size)) nq
          generalize wr.drewN nq = V2 at p1 p2 p3 pB ⊢
          clear hv hri hw0 hw1 RDL RDR hv6 k1 k2 k3
          have hgw : w.heap.size ≤ gr := hgW
          refine wp_region_mixC (fun w' => Holds w' w2.heap.size 28 (fcells f.cell) ∧ Holds w' w4.heap.size 42 #[.int .i64 (l.w : Nat), .slice (some ⟨gr, 0, none⟩) f.high f.high] ∧ (∃ cs : Array Value, Holds w' gr 3 cs ∧ cs.size = f.high) ∧ Below w.heap.size w w') [10] (by kernel_rfl) (by kernel_rfl) (by kernel_rfl) (by kernel_rfl) ⟨p1.drew, p2.drew, (by obtain ⟨cs, h1, h2⟩ := p3; exact ⟨cs, h1.drew, h2⟩), pB.drew⟩ ?_
          refine wpm_run (.pointer (some ⟨w4.heap.size, 1, none⟩)) rfl rfl (fun w' h' => ?_) ?_
          · go_simp
          go_simp
          refine wpm_run (.slice (some ⟨gr, 0, none⟩) f.high f.high) rfl rfl (fun w' h' => ?_) ?_
          · have hc := h'.2.1.cell 1
            simp at hc
            go_simp
          go_simp
          refine wpm_move _ rfl rfl ?_; go_simp
          refine wpm_run (.int .i64 (at_ : Int)) rfl rfl (fun w' h' => ?_) ?_
          · go_simp
            exact IntWalk.i64_in _ (by omega)
          go_simp
          refine wpm_run (.pointer (some ⟨w4.heap.size, 1, none⟩)) rfl rfl (fun w' h' => ?_) ?_
          · go_simp
          go_simp
          refine wpm_run (.slice (some ⟨gr, 0, none⟩) f.high f.high) rfl rfl (fun w' h' => ?_) ?_
          · have hc := h'.2.1.cell 1
            simp at hc
            go_simp
          go_simp
          refine wpm_run (.int .i64 (f.high : Nat)) rfl rfl (fun w' h' => ?_) ?_
          · go_simp
          go_simp
          refine wpm_run (.int .i64 ((at_ : Int) % (f.high : Int))) rfl rfl (fun w' h' => ?_) ?_
          · go_simp
            rw [if_neg (by omega), Int.tmod_eq_emod_of_nonneg (by omega)]
          go_simp
          refine wpm_move _ rfl rfl ?_; go_simp
          refine wpm_run (.pointer (some ⟨gr, at_ % f.high, none⟩)) rfl rfl (fun w' h' => ?_) ?_
          · go_simp
          go_simp
          refine wpm_step (fun v => v = undef) (fun _ _ => True) rfl rfl ⟨_, rfl⟩ (fun w' h' => ?_) ?_
          · obtain ⟨h1, h2, ⟨cs, h3, h4⟩, h5⟩ := h'
            have hat : at_ % f.high < cs.size := by rw [h4]; exact Nat.mod_lt _ (by omega)
            have hcc := h3.cell (at_ % f.high)
            rw [Array.getElem?_eq_getElem hat] at hcc
            have hff := h3.frozen (at_ % f.high)
            have hC : Holds (w'.setCell ⟨gr, at_ % f.high, none⟩ (.int .i64 n)) w2.heap.size 28 (fcells f.cell) ∧ Holds (w'.setCell ⟨gr, at_ % f.high, none⟩ (.int .i64 n)) w4.heap.size 42 #[.int .i64 (l.w : Nat), .slice (some ⟨gr, 0, none⟩) f.high f.high] ∧ (∃ cs : Array Value, Holds (w'.setCell ⟨gr, at_ % f.high, none⟩ (.int .i64 n)) gr 3 cs ∧ cs.size = f.high) ∧ Below w.heap.size w (w'.setCell ⟨gr, at_ % f.high, none⟩ (.int .i64 n)) :=
              ⟨h1.setFar (Ne.symm g2) _, h2.setFar (Ne.symm g1) _, ⟨_, h3.set _ _, by rw [Array.size_setIfInBounds, h4]⟩, h5.setCell (p := ⟨gr, at_ % f.high, none⟩) hgw _⟩
            have HC := Lib.hid hC
            clear hC h1 h2 h3 h5
            unfold stepAt
            go_simp
            first | exact ⟨rfl, HC.out⟩ | exact ⟨rfl, HC.out, HC.out⟩
          rintro _ rfl
          go_simp
          refine wpm_nil ?_
          intro w9 h9
          obtain ⟨p1', p2', _, pB'⟩ := h9
          clear p1 p2 p3 pB
          go_wp2_with fail
          refine wp_region_mixC (fun w' => Holds w' w2.heap.size 28 (fcells f.cell) ∧ Holds w' w4.heap.size 42 #[.int .i64 (l.w : Nat), .slice (some ⟨gr, 0, none⟩) f.high f.high] ∧ Below w.heap.size w w') [2, 11] (by kernel_rfl) (by kernel_rfl) (by kernel_rfl) (by kernel_rfl) ⟨p1'.drew, p2'.drew, pB'.drew⟩ ?_
          refine wpm_loadFont _ w2.heap.size f.cell rfl rfl rfl (fun w' h' => h'.1) ?_; go_simp
          refine wpm_move _ rfl rfl ?_; go_simp
          refine wpm_step (fun v => ∃ g, v = .agg #[.int .i64 (l.w : Nat), .slice (some ⟨g, 0, none⟩) f.high f.high]) (fun v w' => ∃ g, v = .agg #[.int .i64 (l.w : Nat), .slice (some ⟨g, 0, none⟩) f.high f.high] ∧ Holds w' g 3 (ints (l.rows.map Int.ofNat))) rfl rfl ⟨_, 0, rfl⟩ (fun w' h' => ?_) ?_
          · unfold stepAt
            go_simp
            refine (hgl w').mono ?_
            rintro e w5 ⟨g, rfl, _, hr, hbb⟩
            have hC := And.intro (h'.1.below hbb h'.1.lt) (And.intro (h'.2.1.below hbb h'.2.1.lt) (h'.2.2.trans (hbb.mono h'.2.2.size)))
            first | exact ⟨_, rfl, ⟨g, rfl⟩, hC, hC, ⟨g, rfl, hr⟩⟩ | exact ⟨_, rfl, ⟨g, rfl⟩, hC, ⟨g, rfl, hr⟩⟩ | exact ⟨_, rfl, hC, ⟨g, rfl, hr⟩⟩
          rintro _ ⟨g5, rfl⟩
          go_simp
          refine wpm_run (.slice (some ⟨g5, 0, none⟩) f.high f.high) rfl rfl (fun w' h' => ?_) ?_
          · have hfd := glyph_field1
            go_simp
          go_simp
          refine wpm_move _ rfl rfl ?_; go_simp
          refine wpm_run (.int .i64 (at_ : Int)) rfl rfl (fun w' h' => ?_) ?_
          · go_simp
            exact IntWalk.i64_in _ (by omega)
          go_simp
          refine wpm_run (.pointer (some ⟨w4.heap.size, 1, none⟩)) rfl rfl (fun w' h' => ?_) ?_
          · go_simp
          go_simp
          refine wpm_run (.slice (some ⟨gr, 0, none⟩) f.high f.high) rfl rfl (fun w' h' => ?_) ?_
          · have hc := h'.2.1.cell 1
            simp at hc
            go_simp
          go_simp
          refine wpm_run (.int .i64 (f.high : Nat)) rfl rfl (fun w' h' => ?_) ?_
          · go_simp
          go_simp
          refine wpm_run (.int .i64 ((at_ : Int) % (f.high : Int))) rfl rfl (fun w' h' => ?_) ?_
          · go_simp
            rw [if_neg (by omega), Int.tmod_eq_emod_of_nonneg (by omega)]
          go_simp
          refine wpm_run (.pointer (some ⟨g5, at_ % f.high, none⟩)) rfl rfl (fun w' h' => ?_) ?_
          · go_simp
          go_simp
          refine wpm_step (fun v => v = .int .i64 (r : Nat)) (fun _ _ => True) rfl rfl ⟨_, rfl⟩ (fun w' h' => ?_) ?_
          · have hr6 : Holds w' g5 3 (ints (l.rows.map Int.ofNat)) := h'.2
            have h1 := h'.1
            clear h'
            have hcc : w'.cell? ⟨g5, at_ % f.high, none⟩ = some (.int .i64 (r : Nat)) := by
              rw [hr6.cell]
              exact ints_get _ _ _ HRR.out
            have HH := Lib.hid (And.intro h1 hr6)
            clear h1 hr6
            unfold stepAt
            go_simp
            first | exact ⟨rfl, HH.out⟩ | exact ⟨rfl, HH.out.1, HH.out⟩
          rintro _ rfl
          go_simp
          refine wpm_move _ rfl rfl ?_; go_simp
          refine wpm_run (.bool true) rfl rfl (fun w' h' => ?_) ?_
          · go_simp
          go_simp
          refine wpm_assign _ rfl rfl ?_; go_simp
          refine wpm_nil ?_
          intro w10 h10
          have pB'' : Below w.heap.size w w10 := by first | exact h10.1.1.2.2 | exact h10.1.2.2 | exact h10.2.2
          go_wp2_with fail
          go_ret
          exact ⟨rfl, pB''⟩
    · have hfw : wide = f := by
        rcases hcase with ⟨h, _⟩ | ⟨_, h⟩
        · exact absurd h hc
        · exact h.symm
      clear code0 hcase
      have hcn : ((code : Int) != 0) = true := by simp; omega
      have hcn' : ((code : Int) == 0) = false := by simp; omega
      go_wp2_with (first | (with_reducible apply arm_alloc) | ((with_reducible apply arm_store) <;> try exact rfl))
      refine (builtin_wide _).mono ?_
      rintro e w3 ⟨rfl, hb3⟩
      have q3 := (Holds.new w2 28 (fcells fp.cell)).below hb3 (by simp)
      have qN := q3.row (fcells wide.cell)
      have BN := below_setRow ((B2.alloc B2.size _).trans (hb3.mono (by have := B2.size; simp; omega))) B2.size (fcells wide.cell) (k := w2.heap.size)
      have hwf : fcells wide.cell = fcells f.cell := by rw [hfw]
      rw [hwf] at qN BN ⊢
      clear hb3
      go_wp2_with (first | ((with_reducible apply arm_storeAt) <;> try (first | exact rfl | exact q3)) | ((with_reducible apply arm_load) <;> try (first | exact rfl | exact qN)))
      clear q3 hwf hfw
      refine (hgl _).mono ?_
      rintro e w4 ⟨gr, rfl, hgr, hr4, hb4⟩
      have q4 := qN.below hb4 qN.lt
      have B4 := BN.trans (hb4.mono BN.size)
      have z4 := q4.lt
      have zN := qN.lt
      clear hb4 qN BN
      go_wp2_with fail
      have k1 := q4.alloc (.cells #[.int .i64 (l.w : Nat), .slice (some ⟨gr, 0, none⟩) f.high f.high] 42)
      have k2 := Holds.new w4 42 #[.int .i64 (l.w : Nat), .slice (some ⟨gr, 0, none⟩) f.high f.high]
      have k3 := hr4.alloc (.cells #[.int .i64 (l.w : Nat), .slice (some ⟨gr, 0, none⟩) f.high f.high] 42)
      have B5 := B4.alloc B4.size (.cells #[.int .i64 (l.w : Nat), .slice (some ⟨gr, 0, none⟩) f.high f.high] 42)
      have z5 := hr4.lt
      generalize (w4.alloc (.cells #[.int .i64 (l.w : Nat), .slice (some ⟨gr, 0, none⟩) f.high f.high] 42)) = V at k1 k2 k3 B5 ⊢
      clear q4 B4 hr4
      have g1 : gr ≠ w4.heap.size := by omega
      have g2 : gr ≠ w2.heap.size := by omega
      have g3 : w4.heap.size ≠ w2.heap.size := by omega
      have hgW : w.heap.size ≤ gr := by omega
      clear z4 z5 zN hgr
      refine wp_region_grows (by kernel_rfl) (by kernel_rfl) ?_
      refine wpq_step (v := .pointer (some ⟨w4.heap.size, 1, none⟩)) rfl (fun w' h' => ?_) ?_
      · unfold Oper.quietAt; go_simp; try (first | exact ⟨rfl, rfl⟩ | omega | exact IntWalk.i64_in _ (by omega))
      go_simp
      refine wpq_step (v := .slice (some ⟨gr, 0, none⟩) f.high f.high) rfl (fun w' h' => ?_) ?_
      · have hc := (Grows.holds h' k2).cell 1
        simp at hc
        unfold Oper.quietAt; go_simp; try (first | exact ⟨rfl, rfl⟩ | omega | exact IntWalk.i64_in _ (by omega))
      go_simp
      refine wpq_step (v := .int .i64 (f.high : Nat)) rfl (fun w' h' => ?_) ?_
      · unfold Oper.quietAt; go_simp; try (first | exact ⟨rfl, rfl⟩ | omega | exact IntWalk.i64_in _ (by omega))
      go_simp
      refine wpq_loadFont _ w2.heap.size f.cell rfl rfl (fun w' h' => Grows.holds h' k1) ?_; go_simp
      refine wpq_step (v := .int .i64 (f.asc : Nat)) rfl (fun w' h' => ?_) ?_
      · unfold Oper.quietAt; go_simp
        exact (ascent_any f.cell w').mono fun e w5 ⟨he, hb⟩ => ⟨he, Grows.trans h' hb⟩
      go_simp
      refine wpq_loadFont _ w2.heap.size f.cell rfl rfl (fun w' h' => Grows.holds h' k1) ?_; go_simp
      refine wpq_step (v := .int .i64 (f.desc : Nat)) rfl (fun w' h' => ?_) ?_
      · unfold Oper.quietAt; go_simp
        exact (descent_any f.cell w').mono fun e w5 ⟨he, hb⟩ => ⟨he, Grows.trans h' hb⟩
      go_simp
      refine wpq_step (v := .int .i64 (f.high : Nat)) rfl (fun w' h' => ?_) ?_
      · unfold Oper.quietAt; go_simp; try (first | exact ⟨rfl, rfl⟩ | omega | exact IntWalk.i64_in _ (by omega))
      go_simp
      refine wpq_step (v := .bool false) rfl (fun w' h' => ?_) ?_
      · unfold Oper.quietAt; go_simp; try (first | exact ⟨rfl, rfl⟩ | omega | exact IntWalk.i64_in _ (by omega))
      go_simp
      refine wpq_move _ rfl ?_; go_simp
      refine wpq_step (v := .pointer (some ⟨w4.heap.size, 1, none⟩)) rfl (fun w' h' => ?_) ?_
      · unfold Oper.quietAt; go_simp; try (first | exact ⟨rfl, rfl⟩ | omega | exact IntWalk.i64_in _ (by omega))
      go_simp
      refine wpq_step (v := .slice (some ⟨gr, 0, none⟩) f.high f.high) rfl (fun w' h' => ?_) ?_
      · have hc := (Grows.holds h' k2).cell 1
        simp at hc
        unfold Oper.quietAt; go_simp; try (first | exact ⟨rfl, rfl⟩ | omega | exact IntWalk.i64_in _ (by omega))
      go_simp
      refine wpq_step (v := .int .i64 (f.high : Nat)) rfl (fun w' h' => ?_) ?_
      · unfold Oper.quietAt; go_simp; try (first | exact ⟨rfl, rfl⟩ | omega | exact IntWalk.i64_in _ (by omega))
      go_simp
      refine wpq_step (v := .bool false) rfl (fun w' h' => ?_) ?_
      · unfold Oper.quietAt; go_simp; try (first | exact ⟨rfl, rfl⟩ | omega | exact IntWalk.i64_in _ (by omega))
      go_simp
      refine wpq_step (v := .bool false) rfl (fun w' h' => ?_) ?_
      · unfold Oper.quietAt; go_simp; try (first | exact ⟨rfl, rfl⟩ | omega | exact IntWalk.i64_in _ (by omega))
      go_simp
      refine wpq_move _ rfl ?_; go_simp
      refine wpq_step (v := .pointer (some ⟨w4.heap.size, 1, none⟩)) rfl (fun w' h' => ?_) ?_
      · unfold Oper.quietAt; go_simp; try (first | exact ⟨rfl, rfl⟩ | omega | exact IntWalk.i64_in _ (by omega))
      go_simp
      refine wpq_step (v := .slice (some ⟨gr, 0, none⟩) f.high f.high) rfl (fun w' h' => ?_) ?_
      · have hc := (Grows.holds h' k2).cell 1
        simp at hc
        unfold Oper.quietAt; go_simp; try (first | exact ⟨rfl, rfl⟩ | omega | exact IntWalk.i64_in _ (by omega))
      go_simp
      refine wpq_step (v := .int .i64 (f.high : Nat)) rfl (fun w' h' => ?_) ?_
      · unfold Oper.quietAt; go_simp; try (first | exact ⟨rfl, rfl⟩ | omega | exact IntWalk.i64_in _ (by omega))
      go_simp
      refine wpq_step (v := .bool false) rfl (fun w' h' => ?_) ?_
      · unfold Oper.quietAt; go_simp; try (first | exact ⟨rfl, rfl⟩ | omega | exact IntWalk.i64_in _ (by omega))
      go_simp
      refine wpq_step (v := .bool false) rfl (fun w' h' => ?_) ?_
      · unfold Oper.quietAt; go_simp; try (first | exact ⟨rfl, rfl⟩ | omega | exact IntWalk.i64_in _ (by omega))
      go_simp
      refine wpq_move _ rfl ?_; go_simp
      refine wpq_step (v := .pointer (some ⟨w4.heap.size, 0, none⟩)) rfl (fun w' h' => ?_) ?_
      · unfold Oper.quietAt; go_simp; try (first | exact ⟨rfl, rfl⟩ | omega | exact IntWalk.i64_in _ (by omega))
      go_simp
      refine wpq_step (v := .int .i64 (l.w : Nat)) rfl (fun w' h' => ?_) ?_
      · have hc := (Grows.holds h' k2).cell 0
        simp at hc
        unfold Oper.quietAt; go_simp; try (first | exact ⟨rfl, rfl⟩ | omega | exact IntWalk.i64_in _ (by omega))
      go_simp
      refine wpq_step (v := .bool false) rfl (fun w' h' => ?_) ?_
      · unfold Oper.quietAt; go_simp; try (first | exact ⟨rfl, rfl⟩ | omega | exact IntWalk.i64_in _ (by omega))
      go_simp
      refine wpq_step (v := .bool false) rfl (fun w' h' => ?_) ?_
      · unfold Oper.quietAt; go_simp; try (first | exact ⟨rfl, rfl⟩ | omega | exact IntWalk.i64_in _ (by omega))
      go_simp
      refine wpq_move _ rfl ?_; go_simp
      refine wpq_step (v := .pointer (some ⟨w4.heap.size, 0, none⟩)) rfl (fun w' h' => ?_) ?_
      · unfold Oper.quietAt; go_simp; try (first | exact ⟨rfl, rfl⟩ | omega | exact IntWalk.i64_in _ (by omega))
      go_simp
      refine wpq_step (v := .int .i64 (l.w : Nat)) rfl (fun w' h' => ?_) ?_
      · have hc := (Grows.holds h' k2).cell 0
        simp at hc
        unfold Oper.quietAt; go_simp; try (first | exact ⟨rfl, rfl⟩ | omega | exact IntWalk.i64_in _ (by omega))
      go_simp
      refine wpq_step (v := .bool false) rfl (fun w' h' => ?_) ?_
      · unfold Oper.quietAt; go_simp; try (first | exact ⟨rfl, rfl⟩ | omega | exact IntWalk.i64_in _ (by omega))
      go_simp
      refine wpq_step (v := .bool false) rfl (fun w' h' => ?_) ?_
      · unfold Oper.quietAt; go_simp; try (first | exact ⟨rfl, rfl⟩ | omega | exact IntWalk.i64_in _ (by omega))
      go_simp
      refine wpq_nil ?_
      intro w6 h6
      go_wp2_with fail
      have hv6 : Grows V w6 := h6
      clear h6
      have rdl : ∀ w', Grows V w' → w'.cell? ⟨w4.heap.size, 0, none⟩ = some (.int .i64 (l.w : Nat)) ∧ w'.cell? ⟨w4.heap.size, 1, none⟩ = some (.slice (some ⟨gr, 0, none⟩) f.high f.high) := fun w' h => by
        have h2 := Grows.holds h k2
        exact ⟨(h2.cell 0).trans rfl, (h2.cell 1).trans rfl⟩
      have rdr : ∀ w' i (hi : i < l.rows.length), Grows V w' → w'.cell? ⟨gr, i, none⟩ = some (.int .i64 (l.rows[i] : Nat)) := fun w' i hi h => by
        have h3 := Grows.holds h k3
        rw [h3.cell]
        exact ints_get _ _ _ (by rw [List.getElem?_map, List.getElem?_eq_getElem hi]; rfl)
      have RDL := Lib.hid rdl
      have RDR := Lib.hid rdr
      clear rdl rdr
      go_loopw [13] (fun i wr => ∃ k : Nat, k ≤ f.high ∧ i = .int .i64 k ∧ Grows V wr) (fun i _ => f.high - (intOf i).toNat)
      case atStart => exact ⟨0, by omega, rfl, hv6⟩
      case round =>
        obtain ⟨k, hk, rfl, hv⟩ := hrel
        obtain ⟨hw0, hw1⟩ := RDL.out wr hv
        by_cases hlt : k < f.high
        · have hrk := RDR.out wr k (by omega) hv
          have hbk := hbits l.rows[k] (List.getElem_mem _)
          have hk0 : (0 : Int) ≤ (k : Int) := by omega
          have hk1 : (k : Int) < (f.high : Int) := by omega
          generalize l.rows[k] = r at hrk hbk
          have d1 : decide ((r : Int) < 0) = false := by simp
          have e5 := shr_no r l.w hbk
          have hw17 : (l.w : Int) ≤ 16 := by omega
          go_wp2_with fail
          go_quiet (fail)
          go_wp2_with fail
          exact ⟨⟨k + 1, by omega, by go_num, below_drewN hv nq⟩, by simp [intOf]; omega⟩
        · have hkh : k = f.high := by omega
          subst hkh
          have hi : at_ % f.high < l.rows.length := by rw [hrl]; exact Nat.mod_lt _ (by omega)
          have hri := RDR.out wr (at_ % f.high) hi hv
          have hx0 : (0 : Int) ≤ (at_ : Int) % (f.high : Int) := by omega
          have hx1 : (at_ : Int) % (f.high : Int) < (f.high : Int) := Int.emod_lt_of_pos _ (by omega)
          have hx2 : ((at_ : Int) % (f.high : Int)).toNat = at_ % f.high := by
            have : ((at_ % f.high : Nat) : Int) = (at_ : Int) % (f.high : Int) := Int.natCast_emod _ _
            omega
          have hnz : ((f.high : Int) == 0) = false := by simp; omega
          have ha0 : (0 : Int) ≤ (at_ : Int) := by omega
          have hrr : (l.rows.map Int.ofNat)[at_ % f.high]? = some ((l.rows[at_ % f.high] : Nat) : Int) := by rw [List.getElem?_map, List.getElem?_eq_getElem hi]; rfl
          generalize l.rows[at_ % f.high] = r at hri hrr
          have HRR := Lib.hid hrr
          clear hrr
          go_wp2_with fail
          go_quiet (fail)
          go_wp2_with fail
          have p1 : Holds (wr.drewN nq) w2.heap.size 28 (fcells f.cell) := (Grows.holds hv k1).drewN nq
          have p2 : Holds (wr.drewN nq) w4.heap.size 42 #[.int .i64 (l.w : Nat), .slice (some ⟨gr, 0, none⟩) f.high f.high] := (Grows.holds hv k2).drewN nq
          have p3 : ∃ cs : Array Value, Holds (wr.drewN nq) gr 3 cs ∧ cs.size = f.high := ⟨_, (Grows.holds hv k3).drewN nq, by rw [ints_size, List.length_map, hrl]⟩
          have pB : Below w.heap.size w (wr.drewN nq) := below_drewN (B5.trans (hv.mono B5.size)) nq
          generalize wr.drewN nq = V2 at p1 p2 p3 pB ⊢
          clear hv hri hw0 hw1 RDL RDR hv6 k1 k2 k3
          have hgw : w.heap.size ≤ gr := hgW
          refine wp_region_mixC (fun w' => Holds w' w2.heap.size 28 (fcells f.cell) ∧ Holds w' w4.heap.size 42 #[.int .i64 (l.w : Nat), .slice (some ⟨gr, 0, none⟩) f.high f.high] ∧ (∃ cs : Array Value, Holds w' gr 3 cs ∧ cs.size = f.high) ∧ Below w.heap.size w w') [10] (by kernel_rfl) (by kernel_rfl) (by kernel_rfl) (by kernel_rfl) ⟨p1.drew, p2.drew, (by obtain ⟨cs, h1, h2⟩ := p3; exact ⟨cs, h1.drew, h2⟩), pB.drew⟩ ?_
          refine wpm_run (.pointer (some ⟨w4.heap.size, 1, none⟩)) rfl rfl (fun w' h' => ?_) ?_
          · go_simp
          go_simp
          refine wpm_run (.slice (some ⟨gr, 0, none⟩) f.high f.high) rfl rfl (fun w' h' => ?_) ?_
          · have hc := h'.2.1.cell 1
            simp at hc
            go_simp
          go_simp
          refine wpm_move _ rfl rfl ?_; go_simp
          refine wpm_run (.int .i64 (at_ : Int)) rfl rfl (fun w' h' => ?_) ?_
          · go_simp
            exact IntWalk.i64_in _ (by omega)
          go_simp
          refine wpm_run (.pointer (some ⟨w4.heap.size, 1, none⟩)) rfl rfl (fun w' h' => ?_) ?_
          · go_simp
          go_simp
          refine wpm_run (.slice (some ⟨gr, 0, none⟩) f.high f.high) rfl rfl (fun w' h' => ?_) ?_
          · have hc := h'.2.1.cell 1
            simp at hc
            go_simp
          go_simp
          refine wpm_run (.int .i64 (f.high : Nat)) rfl rfl (fun w' h' => ?_) ?_
          · go_simp
          go_simp
          refine wpm_run (.int .i64 ((at_ : Int) % (f.high : Int))) rfl rfl (fun w' h' => ?_) ?_
          · go_simp
            rw [if_neg (by omega), Int.tmod_eq_emod_of_nonneg (by omega)]
          go_simp
          refine wpm_move _ rfl rfl ?_; go_simp
          refine wpm_run (.pointer (some ⟨gr, at_ % f.high, none⟩)) rfl rfl (fun w' h' => ?_) ?_
          · go_simp
          go_simp
          refine wpm_step (fun v => v = undef) (fun _ _ => True) rfl rfl ⟨_, rfl⟩ (fun w' h' => ?_) ?_
          · obtain ⟨h1, h2, ⟨cs, h3, h4⟩, h5⟩ := h'
            have hat : at_ % f.high < cs.size := by rw [h4]; exact Nat.mod_lt _ (by omega)
            have hcc := h3.cell (at_ % f.high)
            rw [Array.getElem?_eq_getElem hat] at hcc
            have hff := h3.frozen (at_ % f.high)
            have hC : Holds (w'.setCell ⟨gr, at_ % f.high, none⟩ (.int .i64 n)) w2.heap.size 28 (fcells f.cell) ∧ Holds (w'.setCell ⟨gr, at_ % f.high, none⟩ (.int .i64 n)) w4.heap.size 42 #[.int .i64 (l.w : Nat), .slice (some ⟨gr, 0, none⟩) f.high f.high] ∧ (∃ cs : Array Value, Holds (w'.setCell ⟨gr, at_ % f.high, none⟩ (.int .i64 n)) gr 3 cs ∧ cs.size = f.high) ∧ Below w.heap.size w (w'.setCell ⟨gr, at_ % f.high, none⟩ (.int .i64 n)) :=
              ⟨h1.setFar (Ne.symm g2) _, h2.setFar (Ne.symm g1) _, ⟨_, h3.set _ _, by rw [Array.size_setIfInBounds, h4]⟩, h5.setCell (p := ⟨gr, at_ % f.high, none⟩) hgw _⟩
            have HC := Lib.hid hC
            clear hC h1 h2 h3 h5
            unfold stepAt
            go_simp
            first | exact ⟨rfl, HC.out⟩ | exact ⟨rfl, HC.out, HC.out⟩
          rintro _ rfl
          go_simp
          refine wpm_nil ?_
          intro w9 h9
          obtain ⟨p1', p2', _, pB'⟩ := h9
          clear p1 p2 p3 pB
          go_wp2_with fail
          refine wp_region_mixC (fun w' => Holds w' w2.heap.size 28 (fcells f.cell) ∧ Holds w' w4.heap.size 42 #[.int .i64 (l.w : Nat), .slice (some ⟨gr, 0, none⟩) f.high f.high] ∧ Below w.heap.size w w') [2, 11] (by kernel_rfl) (by kernel_rfl) (by kernel_rfl) (by kernel_rfl) ⟨p1'.drew, p2'.drew, pB'.drew⟩ ?_
          refine wpm_loadFont _ w2.heap.size f.cell rfl rfl rfl (fun w' h' => h'.1) ?_; go_simp
          refine wpm_move _ rfl rfl ?_; go_simp
          refine wpm_step (fun v => ∃ g, v = .agg #[.int .i64 (l.w : Nat), .slice (some ⟨g, 0, none⟩) f.high f.high]) (fun v w' => ∃ g, v = .agg #[.int .i64 (l.w : Nat), .slice (some ⟨g, 0, none⟩) f.high f.high] ∧ Holds w' g 3 (ints (l.rows.map Int.ofNat))) rfl rfl ⟨_, 0, rfl⟩ (fun w' h' => ?_) ?_
          · unfold stepAt
            go_simp
            refine (hgl w').mono ?_
            rintro e w5 ⟨g, rfl, _, hr, hbb⟩
            have hC := And.intro (h'.1.below hbb h'.1.lt) (And.intro (h'.2.1.below hbb h'.2.1.lt) (h'.2.2.trans (hbb.mono h'.2.2.size)))
            first | exact ⟨_, rfl, ⟨g, rfl⟩, hC, hC, ⟨g, rfl, hr⟩⟩ | exact ⟨_, rfl, ⟨g, rfl⟩, hC, ⟨g, rfl, hr⟩⟩ | exact ⟨_, rfl, hC, ⟨g, rfl, hr⟩⟩
          rintro _ ⟨g5, rfl⟩
          go_simp
          refine wpm_run (.slice (some ⟨g5, 0, none⟩) f.high f.high) rfl rfl (fun w' h' => ?_) ?_
          · have hfd := glyph_field1
            go_simp
          go_simp
          refine wpm_move _ rfl rfl ?_; go_simp
          refine wpm_run (.int .i64 (at_ : Int)) rfl rfl (fun w' h' => ?_) ?_
          · go_simp
            exact IntWalk.i64_in _ (by omega)
          go_simp
          refine wpm_run (.pointer (some ⟨w4.heap.size, 1, none⟩)) rfl rfl (fun w' h' => ?_) ?_
          · go_simp
          go_simp
          refine wpm_run (.slice (some ⟨gr, 0, none⟩) f.high f.high) rfl rfl (fun w' h' => ?_) ?_
          · have hc := h'.2.1.cell 1
            simp at hc
            go_simp
          go_simp
          refine wpm_run (.int .i64 (f.high : Nat)) rfl rfl (fun w' h' => ?_) ?_
          · go_simp
          go_simp
          refine wpm_run (.int .i64 ((at_ : Int) % (f.high : Int))) rfl rfl (fun w' h' => ?_) ?_
          · go_simp
            rw [if_neg (by omega), Int.tmod_eq_emod_of_nonneg (by omega)]
          go_simp
          refine wpm_run (.pointer (some ⟨g5, at_ % f.high, none⟩)) rfl rfl (fun w' h' => ?_) ?_
          · go_simp
          go_simp
          refine wpm_step (fun v => v = .int .i64 (r : Nat)) (fun _ _ => True) rfl rfl ⟨_, rfl⟩ (fun w' h' => ?_) ?_
          · have hr6 : Holds w' g5 3 (ints (l.rows.map Int.ofNat)) := h'.2
            have h1 := h'.1
            clear h'
            have hcc : w'.cell? ⟨g5, at_ % f.high, none⟩ = some (.int .i64 (r : Nat)) := by
              rw [hr6.cell]
              exact ints_get _ _ _ HRR.out
            have HH := Lib.hid (And.intro h1 hr6)
            clear h1 hr6
            unfold stepAt
            go_simp
            first | exact ⟨rfl, HH.out⟩ | exact ⟨rfl, HH.out.1, HH.out⟩
          rintro _ rfl
          go_simp
          refine wpm_move _ rfl rfl ?_; go_simp
          refine wpm_run (.bool true) rfl rfl (fun w' h' => ?_) ?_
          · go_simp
          go_simp
          refine wpm_assign _ rfl rfl ?_; go_simp
          refine wpm_nil ?_
          intro w10 h10
          have pB'' : Below w.heap.size w w10 := by first | exact h10.1.1.2.2 | exact h10.1.2.2 | exact h10.2.2
          go_wp2_with fail
          go_ret
          exact ⟨rfl, pB''⟩
  · have d3 : decide ((20000 : Int) < (s.size : Int)) = true := by simp; omega
    go_enter Tryd.func4, Tryd.ntmps4
    go_wp2_with fail
    refine (awake_any _).mono ?_
    rintro e w1 ⟨rfl, B1⟩
    go_wp2_with fail
    go_ret
    exact ⟨rfl, B1⟩

end Go.Proofs.YtgjfebnafjpcaaaDoor
