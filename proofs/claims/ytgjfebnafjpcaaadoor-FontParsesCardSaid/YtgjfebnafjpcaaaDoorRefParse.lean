/-
  The contract of the reference's Parse.
-/
import Derived.Test.YtgjfebnafjpcaaaDoorRefLine
import Derived.Test.YtgjfebnafjpcaaaDoorRefB
import Derived.Test.YtgjfebnafjpcaaaDoorBackLaw
import Derived.Test.YtgjfebnafjpcaaaDoorLinesLaw
import Derived.Test.YtgjfebnafjpcaaaDoorMixG
namespace Go.Proofs.YtgjfebnafjpcaaaDoor
open Go.RowKit
set_option maxRecDepth 100000

/-- What the reference's Parse hands back. -/
def RefParseIs (s : List UInt8) (w : World) (e : Ending) (w' : World) : Prop :=
  ∃ v, e = .returned (.tuple #[v, .int .i64 ((parse s).2.1 : Nat), .int .i64 ((parse s).2.2 : Nat)]) ∧ RefFont w' w.heap.size w'.heap.size (parse s).1 v ∧ Below w.heap.size w w'

/-- The letters that are read so far lie in the font of block M. -/
structure RF (W0 wr : World) (M a d : Nat) (ls : List Lt) (u : Value) (xs : List Value) : Prop where
  at_ : Holds wr M 33 #[.int .i64 (a : Nat), .int .i64 (d : Nat), u]
  hi : W0.heap.size ≤ M
  own : wr.ownsRow W0.heap.size 54 2 u ls.length xs
  gly : Glyphs wr wr.heap.size ls xs
  bel : Below W0.heap.size W0 wr
theorem RF.below {W0 wr w' : World} {M a d : Nat} {ls : List Lt} {u : Value} {xs : List Value} (h : RF W0 wr M a d ls u xs) (hb : Below wr.heap.size wr w') : RF W0 w' M a d ls u xs where
  at_ := h.at_.below hb h.at_.lt
  hi := h.hi
  own := h.own.kept (w' := w') (row := none) ⟨hb.os, hb.tape, hb.output, hb.size, fun k hk _ => hb.block k hk⟩ (by cases hq : u.ownBlock <;> simp)
  gly := h.gly.keep (keep_below hb (Nat.le_refl _)) hb.size
  bel := h.bel.trans (hb.mono h.bel.size)
theorem RF.step {W0 wr w2 : World} {M a d : Nat} {ls : List Lt} {l : Lt} {u v : Value} {xs : List Value} {g cap : Nat} (h : RF W0 wr M a d ls u xs) (hv : IntRow wr wr.heap.size v (l.rows.map Int.ofNat))
    (hown2 : w2.ownsRow W0.heap.size 54 2 (.slice (some ⟨g, 0, none⟩) (ls.length + 1) cap) (ls.length + 1) (xs ++ [.int .i64 (l.w : Nat), v]))
    (hg : (wr.alloc (.cells [Value.int .i64 (l.w : Nat), v].toArray 54)).grownBy w2 u.ownBlock) :
    RF W0 (w2.setCell ⟨M, 2, none⟩ (.slice (some ⟨g, 0, none⟩) (ls.length + 1) cap)) M a d (ls ++ [l]) (.slice (some ⟨g, 0, none⟩) (ls.length + 1) cap) (xs ++ [.int .i64 (l.w : Nat), v]) := by
  have ha := h.below (w' := wr.alloc (.cells [Value.int .i64 (l.w : Nat), v].toArray 54)) ((Below.refl _ _).alloc (Nat.le_refl _) _)
  have hu := h.own.lt
  have ne2 : some M ≠ u.ownBlock := fun e => own_type ha.own (e' := 33) (by decide) _ _ e.symm ha.at_
  have hk := ha.at_.grown hg ne2
  have hint := keep_grown (hi := wr.heap.size + 1) hg (fun g cs e => own_type ha.own (e' := 3) (by decide) g cs e)
  have hset : ∀ g' cs, g' < wr.heap.size + 1 → Holds w2 g' 3 cs → Holds (w2.setCell ⟨M, 2, none⟩ (.slice (some ⟨g, 0, none⟩) (ls.length + 1) cap)) g' 3 cs := by
    intro g' cs _ hh
    refine hh.setFar ?_ _
    rintro rfl
    unfold Holds at hh hk
    rw [hk] at hh
    injection hh with hh
    injection hh with _ hh
    exact absurd hh (by decide)
  have hsz : wr.heap.size + 1 ≤ w2.heap.size := by have := hg.size; simpa using this
  have ne3 : (⟨M, 2, none⟩ : Addr).block ≠ g := by
    intro e
    exact own_type hown2 (e' := 33) (by decide) g _ rfl (by rw [← e]; exact hk)
  refine ⟨hk.set 2 _, h.hi, ?_, ?_, ?_⟩
  · have hll : (ls ++ [l]).length = ls.length + 1 := by simp
    rw [hll]
    obtain ⟨q1, q2⟩ := hown2
    refine ⟨q1, ?_⟩
    rcases q2 with ⟨q2, _⟩ | ⟨g', cap', cur, hq, r1, r2, r3⟩
    · cases q2
    · refine .inr ⟨g', cap', cur, hq, r1, ?_, r3⟩
      injection hq with hq
      injection hq with hq
      injection hq with hq
      subst hq
      rw [Below.heap_setCell _ _ _ _ (Ne.symm ne3)]
      exact r2
  · have hG' : Glyphs wr (wr.heap.size + 1) ls xs := h.gly.keep (fun _ _ _ hh => hh) (by omega)
    have hr : IntRow wr (wr.heap.size + 1) v (l.rows.map Int.ofNat) := hv.keep (fun _ _ _ hh => hh) (by omega)
    have hall := hG'.snoc hr
    refine hall.keep (fun g' cs hg' hh => hset g' cs hg' (hint g' cs hg' (hh.alloc _))) ?_
    simpa using hsz
  · refine Below.setCell ?_ (by simpa using h.hi) _
    exact ha.bel.grown hg (by have := h.bel.size; simp; omega) (fun k hk => (hu k hk).1)
theorem RF.font {W0 wr : World} {M a d : Nat} {ls : List Lt} {u : Value} {xs : List Value} (h : RF W0 wr M a d ls u xs) : RefFont wr W0.heap.size wr.heap.size ⟨a, d, ls⟩ (.agg #[.int .i64 (a : Nat), .int .i64 (d : Nat), u]) :=
  ⟨u, xs, rfl, h.own, fun g hg => (own_lt h.own g hg).2, h.gly⟩
theorem RF.start (W0 : World) (a d : Nat) : RF W0 (W0.alloc (.cells #[.int .i64 (a : Nat), .int .i64 (d : Nat), .slice none 0 0] 33)) W0.heap.size a d [] (.slice none 0 0) [] :=
  ⟨Holds.new _ _ _, Nat.le_refl _, World.ownsRow_nil _ _ _ _, trivial, (Below.refl _ _).alloc (Nat.le_refl _) _⟩

theorem split_le (c : UInt8) (l : List UInt8) : ∀ y ∈ split c l, y.length ≤ l.length := by
  induction l with
  | nil => intro y hy; simp [split] at hy; subst hy; simp
  | cons b l ih =>
    intro y hy
    by_cases hb : b = c
    · subst hb
      rw [split_sep] at hy
      rcases List.mem_cons.1 hy with rfl | hy
      · simp
      · have := ih y hy
        rw [List.length_cons]
        omega
    · rw [split_cons c b l hb] at hy
      have hne := split_ne c l
      generalize split c l = L at ih hy hne
      cases L with
      | nil => exact absurd rfl hne
      | cons x L =>
        rw [List.headD_cons, List.tail_cons] at hy
        rcases List.mem_cons.1 hy with rfl | hy
        · have := ih x (by simp)
          simp only [List.length_cons]
          omega
        · have := ih y (by simp [hy])
          rw [List.length_cons]
          omega
theorem split_size (s : ByteArray) (c : UInt8) (bs : List ByteArray) (h : bs.map (·.data.toList) = split c s.data.toList) (hs : s.size ≤ 70000) : ∀ x ∈ bs, x.size ≤ 70000 := by
  intro x hx
  have h1 : x.data.toList ∈ split c s.data.toList := by rw [← h]; exact List.mem_map.2 ⟨x, hx, rfl⟩
  have h2 := split_le c _ _ h1
  have h3 : x.data.toList.length = x.size := by simp
  have h4 : s.data.toList.length = s.size := by simp
  omega
theorem head_line {l : List UInt8} : headOf l = if (split 32 l).headD [] = fontWord then
    match numsOf (split 32 l).tail with
    | some [a, b] => if 16 < a ∨ 16 < b ∨ a + b < 1 ∨ 16 < a + b then .error 1 else .ok (a, b)
    | _ => .error 2
  else .error 2 := rfl

set_option maxHeartbeats 8000000 in
theorem refParse_any (s : ByteArray) (w : World) (hs : s.size ≤ 70000) :
    Calls Tryd.prog 16 #[.string s] w (RefParseIs s.data.toList w) := by
  have hsl : s.data.toList.length = s.size := by simp
  have hz3 := one_font 0 0 (.slice none 0 0) rfl
  -- what the call ends with where an error is told
  have fin : ∀ (n c : Nat) (w' : World), Below w.heap.size w w' → parse s.data.toList = (Ft.none, n, c) → RefParseIs s.data.toList w (.returned (.tuple #[.agg #[.int .i64 0, .int .i64 0, .slice none 0 0], .int .i64 (n : Int), .int .i64 (c : Int)])) w' := fun n c w' hb hp => by
    unfold RefParseIs
    rw [hp]
    exact ⟨_, rfl, RefFont.none _ _ _, hb⟩
  by_cases h0 : s.size = 0
  · have e0 := empty_yes s h0
    have hp : parse s.data.toList = (Ft.none, 0, 13) := by
      unfold parse
      rw [if_pos (List.length_eq_zero_iff.1 (by omega))]
    have HE := Lib.hid (fin 0 13 (w.alloc (.cells #[.int .i64 0, .int .i64 0, .slice none 0 0] 33)) ((Below.refl _ _).alloc (Nat.le_refl _) _) hp)
    clear fin hp
    go_enter Tryd.func16, Tryd.ntmps16
    go_wp2_with fail
    refine bodyPost_ret (results_row_tmp2 rfl _ _ w.heap.size 33 _ _ rfl (Holds.new w _ _) Tryd.underlying33 rfl refFont_size) rfl ?_
    exact HE.out
  · have e0 := empty_no s h0
    by_cases hb : 65536 < s.size
    · have e1 : decide ((65536 : Int) < (s.size : Int)) = true := by simp; omega
      have hp : parse s.data.toList = (Ft.none, 0, 4) := by
        unfold parse
        rw [if_neg (fun e => h0 (by rw [← hsl, e]; rfl)), if_pos (by omega)]
      have HE := Lib.hid (fin 0 4 (w.alloc (.cells #[.int .i64 0, .int .i64 0, .slice none 0 0] 33)) ((Below.refl _ _).alloc (Nat.le_refl _) _) hp)
      clear fin hp
      go_enter Tryd.func16, Tryd.ntmps16
      go_wp2_with fail
      refine bodyPost_ret (results_row_tmp2 rfl _ _ w.heap.size 33 _ _ rfl (Holds.new w _ _) Tryd.underlying33 rfl refFont_size) rfl ?_
      exact HE.out
    · have e1 : decide ((65536 : Int) < (s.size : Int)) = false := by simp; omega
      have hne : s.data.toList ≠ [] := fun e => h0 (by rw [← hsl, e]; rfl)
      have hle : s.data.toList.length ≤ 65536 := by omega
      have hcut := refCut_any s 10 (w.alloc (.cells #[.int .i64 0, .int .i64 0, .slice none 0 0] 33)) hs
      go_enter Tryd.func16, Tryd.ntmps16
      go_wp2_with fail
      refine hcut.mono ?_
      rintro e w1 ⟨v5, bs, rfl, hbs, hstr, hb1⟩
      have q1 := (Holds.new w 33 #[.int .i64 0, .int .i64 0, .slice none 0 0]).below hb1 (by simp)
      have B1 := ((Below.refl w.heap.size w).alloc (Nat.le_refl _) (.cells #[.int .i64 0, .int .i64 0, .slice none 0 0] 33)).trans (hb1.mono (by simp))
      have hLl : (split 10 s.data.toList).length = bs.length := by
        have := congrArg List.length hbs
        rw [List.length_map] at this
        exact this.symm
      have hpos := List.length_pos_iff.2 (split_ne 10 s.data.toList)
      have hbl : bs.length ≤ 70001 := by
        have h2 : s.data.toList.count 10 ≤ s.data.toList.length := List.count_le_length
        rw [split_length] at hLl
        omega
      have hsize : ∀ x ∈ bs, x.size ≤ 70000 := split_size s 10 bs hbs hs
      obtain ⟨gl, cl, cs, rfl, hgl, hcl, ql, hat⟩ := hstr
      have HAT := Lib.hid hat
      have HSZ := Lib.hid hsize
      have HBS := Lib.hid hbs
      clear hb1 hcut hat hsize hbs
      by_cases hl2 : bs.length < 2
      · have e2 : decide ((bs.length : Int) < 2) = true := by simp; omega
        have hp : parse s.data.toList = (Ft.none, 1, 3) := by
          unfold parse
          rw [if_neg hne, if_neg (by omega), if_pos (by omega)]
        have HE := Lib.hid (fin 1 3 _ (below_setRow B1 (Nat.le_refl _) #[.int .i64 0, .int .i64 0, .slice none 0 0] (k := w.heap.size)) hp)
        clear fin hp
        go_wp2_with ((with_reducible apply wpl_storeRow (t := 33)) <;> try (first | exact rfl | exact q1 | exact refFont_size | exact hz3))
        refine bodyPost_ret (results_row_tmp2 rfl _ _ w.heap.size 33 _ _ rfl (q1.row _) Tryd.underlying33 rfl refFont_size) rfl ?_
        exact HE.out
      · have e2 : decide ((bs.length : Int) < 2) = false := by simp; omega
        have hb0 : (0 : Int) < (bs.length : Int) := by omega
        have hl0 : 0 < bs.length := by omega
        have hcell0 : w1.cell? ⟨gl, 0, none⟩ = some (.string bs[0]) := (ql.cell 0).trans (HAT.out 0 _ (List.getElem?_eq_getElem hl0))
        have hs0 := HSZ.out bs[0] (List.getElem_mem _)
        have hhd : (split 10 s.data.toList).headD [] = bs[0].data.toList := by
          rw [← HBS.out, headD_getD, List.getD_eq_getElem?_getD, List.getElem?_map, List.getElem?_eq_getElem hl0]
          rfl
        have hpl := parse_lines hne hle (by omega)
        rw [hhd] at hpl
        clear hhd
        generalize bs[0] = x0 at hcell0 hs0 hpl
        have HPL := Lib.hid hpl
        clear hpl
        have hcut2 := refCut_any x0 32 w1 hs0
        go_wp2_with fail
        refine hcut2.mono ?_
        rintro e w2 ⟨v6, ws, rfl, hws, hstr2, hb2⟩
        have q2 := q1.below hb2 q1.lt
        have B2 := B1.trans (hb2.mono B1.size)
        have ql2 := ql.below hb2 ql.lt
        have hwsl := congrArg List.length hws
        rw [List.length_map, split_length] at hwsl
        have hwb : ws.length ≤ 70001 := by
          have h2 : x0.data.toList.count 32 ≤ x0.data.toList.length := List.count_le_length
          have h3 : x0.data.toList.length = x0.size := by simp
          omega
        have hnum := refNumbers_any ws v6 1 w2.heap.size w2 hstr2 (Nat.le_refl _) (by omega) hwb
        rw [hws, List.drop_one] at hnum
        obtain ⟨gw, cw, cs2, rfl, hgw, hcw, qw, hat2⟩ := hstr2
        have hw0 : 0 < ws.length := by omega
        have hwc : w2.cell? ⟨gw, 0, none⟩ = some (.string ws[0]) := (qw.cell 0).trans (hat2 0 _ (List.getElem?_eq_getElem hw0))
        have hhd : (split 32 x0.data.toList).headD [] = ws[0].data.toList := by
          rw [← hws, headD_getD, List.getD_eq_getElem?_getD, List.getElem?_map, List.getElem?_eq_getElem hw0]
          rfl
        have hho := @head_line x0.data.toList
        rw [hhd] at hho
        clear hb2 hcut2 hws hwsl hat2 hhd q1 B1 ql
        generalize ws[0] = y0 at hwc hho
        have HHO := Lib.hid hho
        clear hho
        go_wp2_with fail
        refine hnum.mono ?_
        rintro e w3 ⟨h3, hb3⟩
        have q3 := q2.below hb3 q2.lt
        have B3 := B2.trans (hb3.mono B2.size)
        have ql3 := ql2.below hb3 ql2.lt
        have hwc3 : w3.cell? ⟨gw, 0, none⟩ = some (.string y0) := (hb3.cell (p := ⟨gw, 0, none⟩) hgw).trans hwc
        have hw01 : (0 : Int) < (ws.length : Int) := by omega
        clear hnum hb3 q2 B2 ql2 hwc hcell0
        have bad1 : ∀ c, headOf x0.data.toList = .error c → parse s.data.toList = (Ft.none, 1, c) := fun c hc => by rw [HPL.out, hc]
        -- BEHIND THE FIRST LINE's WORDS (printed by gen_refparse.py)
        by_cases hf : y0.data.toList = fontWord
        · have e4 : (y0.toList == [102, 111, 110, 116]) = true := by rw [toList_eq, hf]; rfl
          rcases h3 with ⟨u, hn, rfl, A, c, rfl⟩ | ⟨ns, u, hn, rfl, hrow⟩
          · have hp := bad1 2 (by rw [HHO.out, if_pos hf, hn])
            have HE := Lib.hid (fin 1 2 _ (below_setRow B3 (Nat.le_refl _) #[.int .i64 0, .int .i64 0, .slice none 0 0] (k := w.heap.size)) hp)
            have qx := q3
            clear fin hp bad1 hn hf
            go_wp2_with ((with_reducible apply wpl_storeRow (t := 33)) <;> try (first | exact rfl | exact qx | exact refFont_size | exact hz3))
            refine bodyPost_ret (results_row_tmp2 rfl _ _ w.heap.size 33 _ _ rfl (qx.row _) Tryd.underlying33 rfl refFont_size) rfl ?_
            exact HE.out
          · obtain ⟨A, c, rfl⟩ := hrow.form
            rw [List.length_map]
            by_cases hl : ns.length = 2
            · obtain ⟨a, b, rfl⟩ : ∃ a b, ns = [a, b] := by
                rcases ns with _ | ⟨a, _ | ⟨b, _ | ⟨c, l⟩⟩⟩
                · simp at hl
                · simp at hl
                · exact ⟨a, b, rfl⟩
                · simp at hl
              have h2' : headOf x0.data.toList = if 16 < a ∨ 16 < b ∨ a + b < 1 ∨ 16 < a + b then .error 1 else .ok (a, b) := by rw [HHO.out, if_pos hf, hn]
              obtain ⟨gn, off, cap, hq, hcA⟩ := hrow.at_ (i := 0) (z := (a : Int)) rfl
              obtain ⟨gn', off', cap', hq', hcB⟩ := hrow.at_ (i := 1) (z := (b : Int)) rfl
              obtain rfl : A = some ⟨gn, off, none⟩ := (Value.slice.inj hq).1
              obtain ⟨rfl, rfl⟩ : gn = gn' ∧ off = off' := by
                have := (Value.slice.inj hq').1
                simpa using this
              rw [Nat.add_zero] at hcA
              have hgn := World.block_lt_of_cell? w3 _ hcA
              have ha5 := numsOf_lt hn (x := a) (by simp)
              have hb5 := numsOf_lt hn (x := b) (by simp)
              clear hq hq' hrow hn hf hl HHO
              by_cases hc0 : 16 < a
              · have f0 : decide ((16 : Int) < (a : Int)) = true := by simp; omega
                go_wp2_with fail
                go_quiet (fail)
                have hp := bad1 1 (by rw [h2', if_pos (.inl hc0)])
                have HE := Lib.hid (fin 1 1 _ (below_setRow (below_drewN B3 nq) (Nat.le_refl _) #[.int .i64 0, .int .i64 0, .slice none 0 0] (k := w.heap.size)) hp)
                have qx := q3.drewN nq
                clear fin hp bad1
                go_wp2_with ((with_reducible apply wpl_storeRow (t := 33)) <;> try (first | exact rfl | exact qx | exact refFont_size | exact hz3))
                refine bodyPost_ret (results_row_tmp2 rfl _ _ w.heap.size 33 _ _ rfl (qx.row _) Tryd.underlying33 rfl refFont_size) rfl ?_
                exact HE.out
              · have f0 : decide ((16 : Int) < (a : Int)) = false := by simp; omega
                by_cases hc1 : 16 < b
                · have f1 : decide ((16 : Int) < (b : Int)) = true := by simp; omega
                  go_wp2_with fail
                  go_quiet (fail)
                  have hp := bad1 1 (by rw [h2', if_pos (.inr (.inl hc1))])
                  have HE := Lib.hid (fin 1 1 _ (below_setRow (below_drewN B3 nq) (Nat.le_refl _) #[.int .i64 0, .int .i64 0, .slice none 0 0] (k := w.heap.size)) hp)
                  have qx := q3.drewN nq
                  clear fin hp bad1
                  go_wp2_with ((with_reducible apply wpl_storeRow (t := 33)) <;> try (first | exact rfl | exact qx | exact refFont_size | exact hz3))
                  refine bodyPost_ret (results_row_tmp2 rfl _ _ w.heap.size 33 _ _ rfl (qx.row _) Tryd.underlying33 rfl refFont_size) rfl ?_
                  exact HE.out
                · have f1 : decide ((16 : Int) < (b : Int)) = false := by simp; omega
                  by_cases hc2 : a + b < 1
                  · have f2 : decide ((a : Int) + (b : Int) < 1) = true := by simp; omega
                    go_wp2_with fail
                    go_quiet (fail)
                    have hp := bad1 1 (by rw [h2', if_pos (.inr (.inr (.inl hc2)))])
                    have HE := Lib.hid (fin 1 1 _ (below_setRow (below_drewN B3 nq) (Nat.le_refl _) #[.int .i64 0, .int .i64 0, .slice none 0 0] (k := w.heap.size)) hp)
                    have qx := q3.drewN nq
                    clear fin hp bad1
                    go_wp2_with ((with_reducible apply wpl_storeRow (t := 33)) <;> try (first | exact rfl | exact qx | exact refFont_size | exact hz3))
                    refine bodyPost_ret (results_row_tmp2 rfl _ _ w.heap.size 33 _ _ rfl (qx.row _) Tryd.underlying33 rfl refFont_size) rfl ?_
                    exact HE.out
                  · have f2 : decide ((a : Int) + (b : Int) < 1) = false := by simp; omega
                    by_cases hc3 : 16 < a + b
                    · have f3 : decide ((16 : Int) < (a : Int) + (b : Int)) = true := by simp; omega
                      go_wp2_with fail
                      go_quiet (fail)
                      have hp := bad1 1 (by rw [h2', if_pos (.inr (.inr (.inr hc3)))])
                      have HE := Lib.hid (fin 1 1 _ (below_setRow (below_drewN B3 nq) (Nat.le_refl _) #[.int .i64 0, .int .i64 0, .slice none 0 0] (k := w.heap.size)) hp)
                      have qx := q3.drewN nq
                      clear fin hp bad1
                      go_wp2_with ((with_reducible apply wpl_storeRow (t := 33)) <;> try (first | exact rfl | exact qx | exact refFont_size | exact hz3))
                      refine bodyPost_ret (results_row_tmp2 rfl _ _ w.heap.size 33 _ _ rfl (qx.row _) Tryd.underlying33 rfl refFont_size) rfl ?_
                      exact HE.out
                    · have f3 : decide ((16 : Int) < (a : Int) + (b : Int)) = false := by simp; omega
                      have hho : headOf x0.data.toList = .ok (a, b) := by rw [h2', if_neg (by omega)]
                      have hpar : parse s.data.toList = lettersOf a b (split 10 s.data.toList) 95 [] := by rw [HPL.out, hho]
                      have HPAR := Lib.hid hpar
                      clear hho hpar h2' bad1
                      go_wp2_with fail
                      go_quiet (fail)
                      go_wp2_with fail
                      have q4 := q3.drewN nq
                      have B4 := below_drewN B3 nq
                      have ql4 := ql3.drewN nq
                      have hcA4 : (w3.drewN nq).cell? ⟨gn, off, none⟩ = some (.int .i64 (a : Int)) := hcA
                      have hcB4 : (w3.drewN nq).cell? ⟨gn, off + 1, none⟩ = some (.int .i64 (b : Int)) := hcB
                      have hgn4 : gn < (w3.drewN nq).heap.size := hgn
                      clear q3 B3 ql3 hcA hcB hgn hwc3 qw
                      generalize w3.drewN nq = W0 at q4 B4 ql4 hcA4 hcB4 hgn4 ⊢
                      have hn2 : (1 : Int) < 2 := by decide
                      refine wp_region_mix [7, 8] (by kernel_rfl) (by kernel_rfl) (by kernel_rfl) (by kernel_rfl) ?_
                      refine wpm_move _ rfl rfl ?_; go_simp
                      refine wpm_run (.pointer (some ⟨gn, off, none⟩)) rfl rfl (fun w' h' => ?_) ?_
                      · go_simp
                      go_simp
                      refine wpm_run (.int .i64 (a : Nat)) rfl rfl (fun w' h' => ?_) ?_
                      · have hc := (Below.cell (p := ⟨gn, off, none⟩) h' hgn4).trans hcA4
                        go_simp
                      go_simp
                      refine wpm_move _ rfl rfl ?_; go_simp
                      refine wpm_run (.pointer (some ⟨gn, off + 1, none⟩)) rfl rfl (fun w' h' => ?_) ?_
                      · go_simp
                      go_simp
                      refine wpm_run (.int .i64 (b : Nat)) rfl rfl (fun w' h' => ?_) ?_
                      · have hc := (Below.cell (p := ⟨gn, off + 1, none⟩) h' hgn4).trans hcB4
                        go_simp
                      go_simp
                      refine wpm_run (.agg #[.int .i64 (a : Nat), .int .i64 (b : Nat), .slice none 0 0]) rfl rfl (fun w' h' => ?_) ?_
                      · go_simp
                      go_simp
                      refine wpm_step (fun v => ∃ g : Nat, v = .pointer (some ⟨g, 0, none⟩)) (fun v w' => ∃ g : Nat, v = .pointer (some ⟨g, 0, none⟩) ∧ W0.heap.size ≤ g ∧ ∃ x y z, Holds w' g 33 #[x, y, z]) rfl rfl ⟨_, 0, rfl⟩ (fun w' h' => ?_) ?_
                      · have hC : Grows W0 (w'.alloc (.cells #[.int .i64 0, .int .i64 0, .slice none 0 0] 33)) := Below.alloc h' h'.size _
                        have hH := Holds.new w' 33 #[.int .i64 0, .int .i64 0, .slice none 0 0]
                        have hS := h'.size
                        have HC := Lib.hid (And.intro hC (And.intro hS hH))
                        clear hC hH hS
                        unfold stepAt
                        go_simp
                        exact ⟨⟨_, rfl⟩, HC.out.1, ⟨_, rfl, HC.out.2.1, _, _, _, HC.out.2.2⟩⟩
                      rintro _ ⟨M, rfl⟩
                      go_simp
                      refine wpm_step (fun v => v = undef) (fun _ w' => Holds w' M 33 #[.int .i64 (a : Nat), .int .i64 (b : Nat), .slice none 0 0] ∧ W0.heap.size ≤ M) rfl rfl ⟨_, rfl⟩ (fun w' h' => ?_) ?_
                      · obtain ⟨hgr, hMw, x, y, z, hq⟩ := h'
                        have hcc0 := hq.cell 0
                        have hcc1 := hq.cell 1
                        have hcc2 := hq.cell 2
                        have hff0 := hq.frozen 0
                        have hff1 := hq.frozen 1
                        have hff2 := hq.frozen 2
                        have hst : Holds (((w'.setCell ⟨M, 0, none⟩ (.int .i64 (a : Nat))).setCell ⟨M, 1, none⟩ (.int .i64 (b : Nat))).setCell ⟨M, 2, none⟩ (.slice none 0 0)) M 33 #[.int .i64 (a : Nat), .int .i64 (b : Nat), .slice none 0 0] := ((hq.set 0 _).set 1 _).set 2 _
                        have hC : Grows W0 (((w'.setCell ⟨M, 0, none⟩ (.int .i64 (a : Nat))).setCell ⟨M, 1, none⟩ (.int .i64 (b : Nat))).setCell ⟨M, 2, none⟩ (.slice none 0 0)) := ((Below.setCell hgr (p := ⟨M, 0, none⟩) hMw _).setCell (p := ⟨M, 1, none⟩) hMw _).setCell (p := ⟨M, 2, none⟩) hMw _
                        have HST := Lib.hid (And.intro hst (And.intro hC hMw))
                        clear hst hC hMw hgr hq
                        unfold stepAt
                        go_simp
                        exact ⟨rfl, HST.out.2.1, ⟨HST.out.2.1, HST.out.2.2, _, _, _, HST.out.1⟩, HST.out.1, HST.out.2.2⟩
                      rintro _ rfl
                      go_simp
                      refine wpm_nil ?_
                      intro w5 h5
                      obtain ⟨⟨hg5, _⟩, hq5, hM5⟩ := h5
                      have rf0 : RF W0 w5 M a b [] (.slice none 0 0) [] := ⟨hq5, hM5, World.ownsRow_nil _ _ _ _, trivial, hg5⟩
                      have hab : a + b ≤ 16 := by omega
                      clear hq5 hM5 hg5
                      go_wp2_with fail
                      -- THE LOOP
                      obtain ⟨j0, hj0, hy0, hy1, hy2⟩ := info_parts refGlyph_info
                      have HJ := Lib.hid hj0
                      have HY0 := Lib.hid hy0
                      have HY1 := Lib.hid hy1
                      have HY2 := Lib.hid hy2
                      have HA4 := Lib.hid (And.intro hcA4 (And.intro hcB4 ql4))
                      clear hj0 hy0 hy1 hy2 hcA4 hcB4 ql4
                      go_loopw [10] (fun p wr => ∃ (ls : List Lt) (u : Value) (xs : List Value), ls.length ≤ 95 ∧ p = .int .i64 (ls.length : Nat) ∧ RF W0 wr M a b ls u xs ∧ parse s.data.toList = lettersOf a b (split 10 s.data.toList) (95 - ls.length) ls ∧ ls.length + 2 ≤ bs.length) (fun p _ => 95 - (intOf p).toNat)
                      case atStart => exact ⟨[], .slice none 0 0, [], by simp, rfl, rf0, HPAR.out, by simp; omega⟩
                      case round =>
                        clear rf0
                        obtain ⟨ls, u, xs, hls, rfl, rf, hpar, hlb⟩ := hrel
                        have hgnr : gn < wr.heap.size := Nat.lt_of_lt_of_le hgn4 rf.bel.size
                        have hcAr : wr.cell? ⟨gn, off, none⟩ = some (.int .i64 (a : Int)) := (rf.bel.cell (p := ⟨gn, off, none⟩) hgn4).trans HA4.out.1
                        have hcBr : wr.cell? ⟨gn, off + 1, none⟩ = some (.int .i64 (b : Int)) := (rf.bel.cell (p := ⟨gn, off + 1, none⟩) hgn4).trans HA4.out.2.1
                        have qlr := HA4.out.2.2.below rf.bel HA4.out.2.2.lt
                        have hglr := qlr.lt
                        have qr := q4.below rf.bel q4.lt
                        have Br := B4.trans (rf.bel.mono B4.size)
                        obtain ⟨i, hi⟩ : ∃ i, i = ls.length := ⟨_, rfl⟩
                        rw [← hi] at hls hlb hpar ⊢
                        have HI := Lib.hid hi
                        by_cases hlt : i < 95
                        · have hd : decide ((i : Int) < 95) = true := by simp; omega
                          have hi0 : (0 : Int) ≤ (i : Int) := by omega
                          have hi9 : (i : Int) ≤ 94 := by omega
                          by_cases hsh : bs.length < i + 3
                          · have hd2 : decide ((bs.length : Int) < (i : Int) + 3) = true := by simp; omega
                            have hp : parse s.data.toList = (Ft.none, i + 2, 3) := by
                              rw [hpar, show 95 - i = (94 - i) + 1 by omega, lettersOf, ← hi, if_pos (by omega)]
                            have HE := fin (i + 2) 3 _ (below_setRow Br (Nat.le_refl _) #[.int .i64 0, .int .i64 0, .slice none 0 0] (k := w.heap.size)) hp
                            rw [show ((i + 2 : Nat) : Int) = (i : Int) + 2 by omega] at HE
                            have HE := Lib.hid HE
                            have qx := qr
                            clear fin hp hpar hi
                            go_wp2_with ((with_reducible apply wpl_storeRow (t := 33)) <;> try (first | exact rfl | exact qx | exact refFont_size | exact hz3))
                            refine bodyPost_ret (results_row_tmp2 rfl _ _ w.heap.size 33 _ _ rfl (qx.row _) Tryd.underlying33 rfl refFont_size) rfl ?_
                            exact HE.out
                          · have hd2 : decide ((bs.length : Int) < (i : Int) + 3) = false := by simp; omega
                            have hi1 : i + 1 < bs.length := by omega
                            have hi2 : (i : Int) + 1 < (bs.length : Int) := by omega
                            have hcx : wr.cell? ⟨gl, i + 1, none⟩ = some (.string bs[i + 1]) := (qlr.cell (i + 1)).trans (HAT.out (i + 1) _ (List.getElem?_eq_getElem hi1))
                            have hs1 := HSZ.out bs[i + 1] (List.getElem_mem _)
                            have hLx : (split 10 s.data.toList).getD (i + 1) [] = bs[i + 1].data.toList := by
                              rw [← HBS.out, List.getD_eq_getElem?_getD, List.getElem?_map, List.getElem?_eq_getElem hi1]
                              rfl
                            have hp1 : parse s.data.toList = match letterOf (32 + i) (a + b) bs[i + 1].data.toList with
                                | .error e => (Ft.none, i + 2, e)
                                | .ok l => lettersOf a b (split 10 s.data.toList) (94 - i) (ls ++ [l]) := by
                              rw [hpar, show 95 - i = (94 - i) + 1 by omega, lettersOf, ← hi, if_neg (by omega), hLx]
                              rcases letterOf (32 + i) (a + b) bs[i + 1].data.toList with e | l <;> rfl
                            clear hLx hpar
                            generalize bs[i + 1] = x1 at hcx hs1 hp1
                            have hlin : ∀ w : World, Calls Tryd.prog 35 #[.string x1, .int .i64 (32 + (i : Int)), .int .i64 ((a : Int) + (b : Int))] w (LetIs (32 + i) (a + b) x1.data.toList w) := fun w => by
                              have := refLine_any (32 + i) (a + b) hab x1 w hs1
                              rw [show ((32 + i : Nat) : Int) = 32 + (i : Int) by omega, show ((a + b : Nat) : Int) = (a : Int) + (b : Int) by omega] at this
                              exact this
                            clear hi
                            have HP1 := Lib.hid hp1
                            clear hp1
                            cases hlc : letterOf (32 + i) (a + b) x1.data.toList with
                            | error c =>
                              have hp : parse s.data.toList = (Ft.none, i + 2, c) := by rw [HP1.out, hlc]
                              have hc1 := (letterOf_err hlc).1
                              have hc2 := (letterOf_err hlc).2
                              have hcn : ((c : Int) != 0) = true := by simp; omega
                              have hcn' : ((c : Int) == 0) = false := by simp; omega
                              go_wp2_with fail
                              refine Gr.wp_region (Grows wr) (fun k => if k = 14 then (fun v => v = .tuple #[.agg #[.int .i64 0, .slice none 0 0], .int .i64 (c : Nat)], fun _ _ => True) else (fun v => ∃ g : Nat, v = .pointer (some ⟨g, 0, none⟩), fun v w' => ∃ g : Nat, v = .pointer (some ⟨g, 0, none⟩) ∧ wr.heap.size ≤ g ∧ ∃ x y, Holds w' g 54 #[x, y])) [19] [14, 18] (by kernel_rfl) (by kernel_rfl) (by kernel_rfl) (by kernel_rfl) (Gr.up_grows wr) ?_ (Grows.refl wr).drew ?_
                              · intro k v
                                by_cases hk : k = 14
                                · simp only [hk, if_true]
                                  exact Gr.up_true
                                · simp only [hk, if_false]
                                  rintro wa wb hb ⟨g, he, hg, x, y, hq⟩
                                  exact ⟨g, he, Nat.le_trans hg (Nat.le_refl _), x, y, hq.below hb hq.lt⟩
                              refine Gr.move _ rfl rfl ?_; go_simp
                              refine Gr.move _ rfl rfl ?_; go_simp
                              refine Gr.run (.int .i64 ((i : Int) + 1)) rfl rfl (fun w' h' => ?_) ?_
                              · go_simp
                                try (first | exact IntWalk.i64_in _ (by omega) | (intro hbad; omega))
                              go_simp
                              refine Gr.run (.pointer (some ⟨gl, i + 1, none⟩)) rfl rfl (fun w' h' => ?_) ?_
                              · go_simp
                                try (first | exact IntWalk.i64_in _ (by omega) | (intro hbad; omega))
                              go_simp
                              refine Gr.run (.string x1) rfl rfl (fun w' h' => ?_) ?_
                              · have hc := (Below.cell (p := ⟨gl, i + 1, none⟩) h' hglr).trans hcx
                                go_simp
                              go_simp
                              refine Gr.move _ rfl rfl ?_; go_simp
                              refine Gr.run (.int .i64 (32 + (i : Int))) rfl rfl (fun w' h' => ?_) ?_
                              · go_simp
                                try (first | exact IntWalk.i64_in _ (by omega) | (intro hbad; omega))
                              go_simp
                              refine Gr.move _ rfl rfl ?_; go_simp
                              refine Gr.run (.pointer (some ⟨gn, off, none⟩)) rfl rfl (fun w' h' => ?_) ?_
                              · go_simp
                              go_simp
                              refine Gr.run (.int .i64 (a : Nat)) rfl rfl (fun w' h' => ?_) ?_
                              · have hc := (Below.cell (p := ⟨gn, off, none⟩) h' hgnr).trans hcAr
                                go_simp
                              go_simp
                              refine Gr.move _ rfl rfl ?_; go_simp
                              refine Gr.run (.pointer (some ⟨gn, off + 1, none⟩)) rfl rfl (fun w' h' => ?_) ?_
                              · go_simp
                                try (first | exact IntWalk.i64_in _ (by omega) | (intro hbad; omega))
                              go_simp
                              refine Gr.run (.int .i64 (b : Nat)) rfl rfl (fun w' h' => ?_) ?_
                              · have hc := (Below.cell (p := ⟨gn, off + 1, none⟩) h' hgnr).trans hcBr
                                go_simp
                              go_simp
                              refine Gr.run (.int .i64 ((a : Int) + (b : Int))) rfl rfl (fun w' h' => ?_) ?_
                              · go_simp
                                try (first | exact IntWalk.i64_in _ (by omega) | (intro hbad; omega))
                              go_simp
                              refine Gr.grow (fun v => v = .tuple #[.agg #[.int .i64 0, .slice none 0 0], .int .i64 (c : Nat)]) (fun _ _ => True) rfl rfl rfl rfl ⟨_, rfl⟩ (fun w' h' => ?_) ?_
                              · unfold stepAt
                                go_simp
                                refine (hlin w').mono ?_
                                intro e w5 hh
                                unfold LetIs at hh
                                rw [hlc] at hh
                                exact ⟨_, hh.1, rfl, hh.2⟩
                              rintro _ rfl
                              go_simp
                              refine Gr.move _ rfl rfl ?_; go_simp
                              refine Gr.run (.agg #[.int .i64 0, .slice none 0 0]) rfl rfl (fun w' h' => ?_) ?_
                              · go_simp
                              go_simp
                              refine Gr.run (.int .i64 (c : Nat)) rfl rfl (fun w' h' => ?_) ?_
                              · go_simp
                              go_simp
                              refine Gr.grow (fun v => ∃ g : Nat, v = .pointer (some ⟨g, 0, none⟩)) (fun v w' => ∃ g : Nat, v = .pointer (some ⟨g, 0, none⟩) ∧ wr.heap.size ≤ g ∧ ∃ x y, Holds w' g 54 #[x, y]) rfl rfl rfl rfl ⟨_, 0, rfl⟩ (fun w' h' => ?_) ?_
                              · have hC : Below w'.heap.size w' (w'.alloc (.cells #[.int .i64 0, .slice none 0 0] 54)) := (Below.refl _ _).alloc (Nat.le_refl _) _
                                have hH := Holds.new w' 54 #[.int .i64 0, .slice none 0 0]
                                have hS := Below.size h'
                                have HC := Lib.hid (And.intro hC (And.intro hS hH))
                                clear hC hH hS
                                unfold stepAt
                                go_simp
                                exact ⟨⟨_, rfl⟩, HC.out.1, ⟨_, rfl, HC.out.2.1, _, _, HC.out.2.2⟩⟩
                              rintro _ ⟨gg, rfl⟩
                              go_simp
                              refine Gr.step (fun v => v = undef) (fun _ _ => True) rfl rfl ⟨_, rfl⟩ (fun _ => Gr.up_true) (fun w' h' => ?_) ?_
                              · obtain ⟨hgr, hgw, x, y, hq⟩ := h'
                                have hcc0 := hq.cell 0
                                have hcc1 := hq.cell 1
                                have hff0 := hq.frozen 0
                                have hff1 := hq.frozen 1
                                have hst := (hq.set 0 (.int .i64 0)).set 1 (.slice none 0 0)
                                have hst : Holds ((w'.setCell ⟨gg, 0, none⟩ (.int .i64 0)).setCell ⟨gg, 1, none⟩ (.slice none 0 0)) gg 54 #[.int .i64 0, .slice none 0 0] := hst
                                have hC : Grows wr ((w'.setCell ⟨gg, 0, none⟩ (.int .i64 0)).setCell ⟨gg, 1, none⟩ (.slice none 0 0)) := (Below.setCell hgr (p := ⟨gg, 0, none⟩) hgw _).setCell (p := ⟨gg, 1, none⟩) hgw _
                                have HST := Lib.hid (And.intro hst (And.intro hC hgw))
                                clear hst hC hgw hgr hq
                                unfold stepAt
                                go_simp
                                first | exact ⟨rfl, HST.out.2.1, HST.out.2.2, _, _, HST.out.1⟩ | exact ⟨rfl, HST.out.2.1, HST.out.2.1, HST.out.2.2, _, _, HST.out.1⟩
                              rintro _ rfl
                              go_simp
                              refine Gr.assign _ rfl rfl ?_; go_simp
                              refine Gr.nil ?_
                              intro w9 h9
                              have hg9 : Grows wr w9 := h9.1
                              clear h9
                              have b9 := Br.trans (Below.mono hg9 Br.size)
                              have HE := fin (i + 2) c _ (below_setRow b9 (Nat.le_refl _) #[.int .i64 0, .int .i64 0, .slice none 0 0] (k := w.heap.size)) hp
                              rw [show ((i + 2 : Nat) : Int) = (i : Int) + 2 by omega] at HE
                              have HE := Lib.hid HE
                              have qx := qr.below hg9 qr.lt
                              clear fin hp hlc hlin
                              go_wp2_with ((with_reducible apply wpl_storeRow (t := 33)) <;> try (first | exact rfl | exact qx | exact refFont_size | exact hz3))
                              refine bodyPost_ret (results_row_tmp2 rfl _ _ w.heap.size 33 _ _ rfl (qx.row _) Tryd.underlying33 rfl refFont_size) rfl ?_
                              exact HE.out
                            | ok l =>
                              have hp : parse s.data.toList = lettersOf a b (split 10 s.data.toList) (94 - i) (ls ++ [l]) := by rw [HP1.out, hlc]
                              have HP := Lib.hid hp
                              clear hp
                              go_wp2_with fail
                              refine Gr.wp_region (Grows wr) (fun k => if k = 14 then (fun v => ∃ u1, v = .tuple #[.agg #[.int .i64 (l.w : Nat), u1], .int .i64 0], fun v w' => ∃ u1, v = .tuple #[.agg #[.int .i64 (l.w : Nat), u1], .int .i64 0] ∧ IntRow w' w'.heap.size u1 (l.rows.map Int.ofNat)) else (fun v => ∃ g : Nat, v = .pointer (some ⟨g, 0, none⟩), fun v w' => ∃ g : Nat, v = .pointer (some ⟨g, 0, none⟩) ∧ wr.heap.size ≤ g ∧ ∃ x y, Holds w' g 54 #[x, y])) [19] [14, 18] (by kernel_rfl) (by kernel_rfl) (by kernel_rfl) (by kernel_rfl) (Gr.up_grows wr) ?_ (Grows.refl wr).drew ?_
                              · intro k v
                                by_cases hk : k = 14
                                · simp only [hk, if_true]
                                  rintro wa wb hb ⟨u1, he, hr⟩
                                  exact ⟨u1, he, hr.keep (keep_below hb (Nat.le_refl _)) hb.size⟩
                                · simp only [hk, if_false]
                                  rintro wa wb hb ⟨g, he, hg, x, y, hq⟩
                                  exact ⟨g, he, Nat.le_trans hg (Nat.le_refl _), x, y, hq.below hb hq.lt⟩
                              refine Gr.move _ rfl rfl ?_; go_simp
                              refine Gr.move _ rfl rfl ?_; go_simp
                              refine Gr.run (.int .i64 ((i : Int) + 1)) rfl rfl (fun w' h' => ?_) ?_
                              · go_simp
                                try (first | exact IntWalk.i64_in _ (by omega) | (intro hbad; omega))
                              go_simp
                              refine Gr.run (.pointer (some ⟨gl, i + 1, none⟩)) rfl rfl (fun w' h' => ?_) ?_
                              · go_simp
                                try (first | exact IntWalk.i64_in _ (by omega) | (intro hbad; omega))
                              go_simp
                              refine Gr.run (.string x1) rfl rfl (fun w' h' => ?_) ?_
                              · have hc := (Below.cell (p := ⟨gl, i + 1, none⟩) h' hglr).trans hcx
                                go_simp
                              go_simp
                              refine Gr.move _ rfl rfl ?_; go_simp
                              refine Gr.run (.int .i64 (32 + (i : Int))) rfl rfl (fun w' h' => ?_) ?_
                              · go_simp
                                try (first | exact IntWalk.i64_in _ (by omega) | (intro hbad; omega))
                              go_simp
                              refine Gr.move _ rfl rfl ?_; go_simp
                              refine Gr.run (.pointer (some ⟨gn, off, none⟩)) rfl rfl (fun w' h' => ?_) ?_
                              · go_simp
                              go_simp
                              refine Gr.run (.int .i64 (a : Nat)) rfl rfl (fun w' h' => ?_) ?_
                              · have hc := (Below.cell (p := ⟨gn, off, none⟩) h' hgnr).trans hcAr
                                go_simp
                              go_simp
                              refine Gr.move _ rfl rfl ?_; go_simp
                              refine Gr.run (.pointer (some ⟨gn, off + 1, none⟩)) rfl rfl (fun w' h' => ?_) ?_
                              · go_simp
                                try (first | exact IntWalk.i64_in _ (by omega) | (intro hbad; omega))
                              go_simp
                              refine Gr.run (.int .i64 (b : Nat)) rfl rfl (fun w' h' => ?_) ?_
                              · have hc := (Below.cell (p := ⟨gn, off + 1, none⟩) h' hgnr).trans hcBr
                                go_simp
                              go_simp
                              refine Gr.run (.int .i64 ((a : Int) + (b : Int))) rfl rfl (fun w' h' => ?_) ?_
                              · go_simp
                                try (first | exact IntWalk.i64_in _ (by omega) | (intro hbad; omega))
                              go_simp
                              refine Gr.grow (fun v => ∃ u1, v = .tuple #[.agg #[.int .i64 (l.w : Nat), u1], .int .i64 0]) (fun v w' => ∃ u1, v = .tuple #[.agg #[.int .i64 (l.w : Nat), u1], .int .i64 0] ∧ IntRow w' w'.heap.size u1 (l.rows.map Int.ofNat)) rfl rfl rfl rfl ⟨_, undef, rfl⟩ (fun w' h' => ?_) ?_
                              · unfold stepAt
                                go_simp
                                refine (hlin w').mono ?_
                                intro e w5 hh
                                unfold LetIs at hh
                                rw [hlc] at hh
                                obtain ⟨u1, he, hr, hb⟩ := hh
                                exact ⟨_, he, ⟨u1, rfl⟩, hb, ⟨u1, rfl, hr⟩⟩
                              rintro _ ⟨u1, rfl⟩
                              go_simp
                              refine Gr.move _ rfl rfl ?_; go_simp
                              refine Gr.run (.agg #[.int .i64 (l.w : Nat), u1]) rfl rfl (fun w' h' => ?_) ?_
                              · go_simp
                              go_simp
                              refine Gr.run (.int .i64 0) rfl rfl (fun w' h' => ?_) ?_
                              · go_simp
                              go_simp
                              refine Gr.grow (fun v => ∃ g : Nat, v = .pointer (some ⟨g, 0, none⟩)) (fun v w' => ∃ g : Nat, v = .pointer (some ⟨g, 0, none⟩) ∧ wr.heap.size ≤ g ∧ ∃ x y, Holds w' g 54 #[x, y]) rfl rfl rfl rfl ⟨_, 0, rfl⟩ (fun w' h' => ?_) ?_
                              · have hC : Below w'.heap.size w' (w'.alloc (.cells #[.int .i64 0, .slice none 0 0] 54)) := (Below.refl _ _).alloc (Nat.le_refl _) _
                                have hH := Holds.new w' 54 #[.int .i64 0, .slice none 0 0]
                                have hS := Below.size h'
                                have HC := Lib.hid (And.intro hC (And.intro hS hH))
                                clear hC hH hS
                                unfold stepAt
                                go_simp
                                exact ⟨⟨_, rfl⟩, HC.out.1, ⟨_, rfl, HC.out.2.1, _, _, HC.out.2.2⟩⟩
                              rintro _ ⟨gg, rfl⟩
                              go_simp
                              refine Gr.step (fun v => v = undef) (fun _ w' => Holds w' gg 54 #[.int .i64 (l.w : Nat), u1]) rfl rfl ⟨_, rfl⟩ (fun _ wa wb hb hh => hh.below hb hh.lt) (fun w' h' => ?_) ?_
                              · obtain ⟨⟨hgr, hir⟩, hgw, x, y, hq⟩ := h'
                                have hcc0 := hq.cell 0
                                have hcc1 := hq.cell 1
                                have hff0 := hq.frozen 0
                                have hff1 := hq.frozen 1
                                obtain ⟨A1, c1, rfl⟩ := hir.form
                                rw [List.length_map] at hir ⊢
                                have hst := (hq.set 0 (.int .i64 (l.w : Nat))).set 1 (.slice A1 l.rows.length c1)
                                have hst : Holds ((w'.setCell ⟨gg, 0, none⟩ (.int .i64 (l.w : Nat))).setCell ⟨gg, 1, none⟩ (.slice A1 l.rows.length c1)) gg 54 #[.int .i64 (l.w : Nat), .slice A1 l.rows.length c1] := hst
                                have hC : Grows wr ((w'.setCell ⟨gg, 0, none⟩ (.int .i64 (l.w : Nat))).setCell ⟨gg, 1, none⟩ (.slice A1 l.rows.length c1)) := (Below.setCell hgr (p := ⟨gg, 0, none⟩) hgw _).setCell (p := ⟨gg, 1, none⟩) hgw _
                                have hR : IntRow ((w'.setCell ⟨gg, 0, none⟩ (.int .i64 (l.w : Nat))).setCell ⟨gg, 1, none⟩ (.slice A1 l.rows.length c1)) ((w'.setCell ⟨gg, 0, none⟩ (.int .i64 (l.w : Nat))).setCell ⟨gg, 1, none⟩ (.slice A1 l.rows.length c1)).heap.size (.slice A1 l.rows.length c1) (l.rows.map Int.ofNat) := by
                                  refine hir.keep (fun g cs _ hh => ?_) (by simp)
                                  have hne : g ≠ gg := by
                                    rintro rfl
                                    unfold Holds at hh hq
                                    rw [hq] at hh
                                    injection hh with hh
                                    injection hh with _ hh
                                    exact absurd hh (by decide)
                                  exact (hh.setFar hne _).setFar hne _
                                have HST := Lib.hid (And.intro hst (And.intro (And.intro hC hR) hgw))
                                clear hst hC hgw hgr hq hR hir
                                unfold stepAt
                                go_simp
                                first | exact ⟨rfl, HST.out.2.1.1, ⟨⟨HST.out.2.1.1, HST.out.2.1.2⟩, HST.out.2.2, _, _, HST.out.1⟩, HST.out.1⟩ | exact ⟨rfl, HST.out.2.1.1, HST.out.2.1, HST.out.2.2, ⟨_, _, HST.out.1⟩, HST.out.1⟩
                              rintro _ rfl
                              go_simp
                              refine Gr.assign _ rfl rfl ?_; go_simp
                              refine Gr.nil ?_
                              intro w9 h9
                              have hg9 : Grows wr w9 := h9.1.1.1
                              have hr9 : IntRow w9 w9.heap.size u1 (l.rows.map Int.ofNat) := h9.1.1.2
                              have hq9 := h9.2
                              clear h9
                              have rf9 := rf.below hg9
                              have hc0 : w9.cell? ⟨gg, 0, none⟩ = some (.int .i64 (l.w : Nat)) := (hq9.cell 0).trans rfl
                              have hc1 : w9.cell? ⟨gg, 1, none⟩ = some u1 := (hq9.cell 1).trans rfl
                              have hc2 : w9.cell? ⟨M, 2, none⟩ = some u := (rf9.at_.cell 2).trans rfl
                              have hown : w9.ownsRow W0.heap.size 54 2 u i xs := by rw [HI.out]; exact rf9.own
                              have hv1 : ∀ x ∈ [Value.int .i64 (l.w : Nat), u1], x.oneCell' = true := by
                                obtain ⟨A1, c1, rfl⟩ := hr9.form
                                simp [Value.oneCell']
                              have zW : W0.heap.size ≤ w9.heap.size := rf9.bel.size
                              have hcn : ((0 : Int) != 0) = false := rfl
                              have RF9 := Lib.hid (And.intro rf9 hr9)
                              clear rf9 hr9 hq9 hlin hlc fin rf hcx hcAr hcBr
                              go_wp2_with ((with_reducible apply wpl_appendOne Tryd.underlying31 HJ.out HY0.out HY1.out HY2.out rfl (by omega) W0.heap.size (v := u)) <;> try (first | exact rfl | exact hown | exact hv1 | exact zW | exact (by unfold maxLen; omega) | omega))
                              intro g cap w5' hown2 hgr
                              have hll : (ls ++ [l]).length = i + 1 := by rw [List.length_append, List.length_singleton, HI.out]
                              have hst : RF W0 (w5'.setCell ⟨M, 2, none⟩ (.slice (some ⟨g, 0, none⟩) (i + 1) cap)) M a b (ls ++ [l]) (.slice (some ⟨g, 0, none⟩) (i + 1) cap) (xs ++ [.int .i64 (l.w : Nat), u1]) := by
                                rw [HI.out] at hown2 ⊢
                                exact RF.step RF9.out.1 RF9.out.2 hown2 hgr
                              have ka := RF9.out.1.at_.alloc (.cells [Value.int .i64 (l.w : Nat), u1].toArray 54)
                              have hown' := hown.alloc (.cells [Value.int .i64 (l.w : Nat), u1].toArray 54)
                              have q := ka.grown hgr (fun e => own_type hown' (e' := 33) (by decide) _ _ e.symm ka)
                              have hc3 : w5'.cell? ⟨M, 2, none⟩ = some u := (q.cell 2).trans rfl
                              have hf3 := q.frozen 2
                              have HST := Lib.hid (And.intro hst hll)
                              clear hst hll hown2 hgr ka hown' q hown hc0 hc1 hc2 hv1
                              go_wp2_with fail
                              go_roundw
                              case rel =>
                                refine ⟨ls ++ [l], _, _, by rw [HST.out.2]; omega, ?_, HST.out.1, ?_, by rw [HST.out.2]; omega⟩
                                · rw [HST.out.2]; go_num
                                · rw [HST.out.2, show 95 - (i + 1) = 94 - i by omega]; exact HP.out
                              case measure => simp [intOf]; omega
                        · have hie : i = 95 := by omega
                          subst hie
                          have hd : decide (((95 : Nat) : Int) < 95) = false := by decide
                          rw [Nat.sub_self, lettersOf, hLl] at hpar
                          have hi96 : 96 < bs.length := by omega
                          have hi97 : (96 : Int) < (bs.length : Int) := by omega
                          by_cases h97 : 97 < bs.length
                          · have d97 : decide ((97 : Int) < (bs.length : Int)) = true := by simp; omega
                            rw [if_pos (.inl h97)] at hpar
                            have HE := Lib.hid (fin 97 4 _ (below_setRow Br (Nat.le_refl _) #[.int .i64 0, .int .i64 0, .slice none 0 0] (k := w.heap.size)) hpar)
                            have qx := qr
                            clear fin hpar
                            go_wp2_with ((with_reducible apply wpl_storeRow (t := 33)) <;> try (first | exact rfl | exact qx | exact refFont_size | exact hz3))
                            refine bodyPost_ret (results_row_tmp2 rfl _ _ w.heap.size 33 _ _ rfl (qx.row _) Tryd.underlying33 rfl refFont_size) rfl ?_
                            exact HE.out
                          · have d97 : decide ((97 : Int) < (bs.length : Int)) = false := by simp; omega
                            have hcx : wr.cell? ⟨gl, 96, none⟩ = some (.string bs[96]) := (qlr.cell 96).trans (HAT.out 96 _ (List.getElem?_eq_getElem hi96))
                            have hLx : (split 10 s.data.toList).getD 96 [] = bs[96].data.toList := by
                              rw [← HBS.out, List.getD_eq_getElem?_getD, List.getElem?_map, List.getElem?_eq_getElem hi96]
                              rfl
                            rw [hLx] at hpar
                            clear hLx
                            generalize bs[96] = x1 at hcx hpar
                            have hx1 : x1.data.toList.length = x1.size := by simp
                            by_cases hx0 : x1.size = 0
                            · have ex := empty_yes x1 hx0
                              rw [if_neg (by
                                rintro (h | h)
                                · exact h97 h
                                · exact h (List.length_eq_zero_iff.1 (by omega)))] at hpar
                              have hu1 := one_font (a : Int) (b : Int) u (by
                                rcases rf.own.2 with ⟨h, _⟩ | ⟨_, _, _, h, _⟩ <;> rw [h] <;> rfl)
                              have hrf := rf.font
                              have hEnd : RefParseIs s.data.toList w (.returned (.tuple #[.agg #[.int .i64 (a : Nat), .int .i64 (b : Nat), u], .int .i64 0, .int .i64 0])) (wr.setRow w.heap.size #[.int .i64 (a : Nat), .int .i64 (b : Nat), u]) := by
                                unfold RefParseIs
                                rw [hpar]
                                refine ⟨_, rfl, ?_, below_setRow Br (Nat.le_refl _) _⟩
                                refine ((hrf.low B4.size).setRow qr _).more ?_
                                simp
                              have HE := Lib.hid hEnd
                              have qM := rf.at_
                              clear hEnd hpar fin hrf rf
                              go_wp2_with (first | ((with_reducible apply wpl_loadRow (t := 33) (hu := Tryd.underlying33) (hd := rfl)) <;> try (first | exact rfl | exact qM | exact refFont_size)) | ((with_reducible apply wpl_storeRow (t := 33)) <;> try (first | exact rfl | exact qr | exact refFont_size | exact hu1)))
                              refine bodyPost_ret (results_row_tmp2 rfl _ _ w.heap.size 33 _ _ rfl (qr.row #[.int .i64 (a : Nat), .int .i64 (b : Nat), u]) Tryd.underlying33 rfl refFont_size) rfl ?_
                              exact HE.out
                            · have ex := empty_no x1 hx0
                              rw [if_pos (.inr (fun e => hx0 (by rw [← hx1, e]; rfl)))] at hpar
                              have HE := Lib.hid (fin 97 4 _ (below_setRow Br (Nat.le_refl _) #[.int .i64 0, .int .i64 0, .slice none 0 0] (k := w.heap.size)) hpar)
                              have qx := qr
                              clear fin hpar
                              go_wp2_with ((with_reducible apply wpl_storeRow (t := 33)) <;> try (first | exact rfl | exact qx | exact refFont_size | exact hz3))
                              refine bodyPost_ret (results_row_tmp2 rfl _ _ w.heap.size 33 _ _ rfl (qx.row _) Tryd.underlying33 rfl refFont_size) rfl ?_
                              exact HE.out
            · have hne2 : ((ns.length : Int) != 2) = true := by simp; omega
              have hne2' : ((ns.length : Int) == 2) = false := by simp; omega
              have hp := bad1 2 (by
                rw [HHO.out, if_pos hf, hn]
                rcases ns with _ | ⟨a, _ | ⟨b, _ | ⟨c, l⟩⟩⟩ <;> first | rfl | (exact absurd rfl hl))
              have HE := Lib.hid (fin 1 2 _ (below_setRow B3 (Nat.le_refl _) #[.int .i64 0, .int .i64 0, .slice none 0 0] (k := w.heap.size)) hp)
              have qx := q3
              clear fin hp bad1 hn hf
              go_wp2_with ((with_reducible apply wpl_storeRow (t := 33)) <;> try (first | exact rfl | exact qx | exact refFont_size | exact hz3))
              refine bodyPost_ret (results_row_tmp2 rfl _ _ w.heap.size 33 _ _ rfl (qx.row _) Tryd.underlying33 rfl refFont_size) rfl ?_
              exact HE.out
        · have e4 : (y0.toList == [102, 111, 110, 116]) = false := by
            rw [toList_eq]
            simpa [fontWord] using hf
          have hp := bad1 2 (by rw [HHO.out, if_neg hf])
          have HE := Lib.hid (fin 1 2 _ (below_setRow B3 (Nat.le_refl _) #[.int .i64 0, .int .i64 0, .slice none 0 0] (k := w.heap.size)) hp)
          have qx := q3
          clear fin hp bad1 hf
          rcases h3 with ⟨u, hn, rfl, A, c, rfl⟩ | ⟨ns, u, hn, rfl, hrow⟩
          · clear hn
            go_wp2_with ((with_reducible apply wpl_storeRow (t := 33)) <;> try (first | exact rfl | exact qx | exact refFont_size | exact hz3))
            refine bodyPost_ret (results_row_tmp2 rfl _ _ w.heap.size 33 _ _ rfl (qx.row _) Tryd.underlying33 rfl refFont_size) rfl ?_
            exact HE.out
          · obtain ⟨A, c, rfl⟩ := hrow.form
            clear hn hrow
            go_wp2_with ((with_reducible apply wpl_storeRow (t := 33)) <;> try (first | exact rfl | exact qx | exact refFont_size | exact hz3))
            refine bodyPost_ret (results_row_tmp2 rfl _ _ w.heap.size 33 _ _ rfl (qx.row _) Tryd.underlying33 rfl refFont_size) rfl ?_
            exact HE.out

end Go.Proofs.YtgjfebnafjpcaaaDoor
