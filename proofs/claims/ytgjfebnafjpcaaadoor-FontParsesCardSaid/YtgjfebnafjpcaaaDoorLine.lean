/-
  The contract of the program's line: the line of a letter.
-/
import Derived.Test.YtgjfebnafjpcaaaDoorHead
import Derived.Test.YtgjfebnafjpcaaaDoorGlyph
namespace Go.Proofs.YtgjfebnafjpcaaaDoor
open Go.RowKit
set_option maxRecDepth 100000

/-- One letter more. -/
theorem cell_more (a d : Nat) (ls : List Lt) (l : Lt) (i : Nat) :
    Ft.cell ⟨a, d, ls ++ [l]⟩ i = if 2 + 17 * ls.length ≤ i ∧ i < 2 + 17 * ls.length + 17 then (if i = 2 + 17 * ls.length then (l.w : Int) else ((l.rows.getD (i - (2 + 17 * ls.length) - 1) 0 : Nat) : Int)) else Ft.cell ⟨a, d, ls⟩ i := by
  unfold Ft.cell
  by_cases h0 : i = 0
  · subst h0; simp
  · by_cases h1 : i = 1
    · subst h1; simp; omega
    · rw [if_neg h0, if_neg h1, if_neg h0, if_neg h1]
      by_cases hin : 2 + 17 * ls.length ≤ i ∧ i < 2 + 17 * ls.length + 17
      · rw [if_pos hin]
        have hq : (i - 2) / 17 = ls.length := by omega
        have hg : (ls ++ [l]).getD ls.length Lt.none = l := by simp
        rw [hq]
        simp only [hg]
        by_cases hw : i = 2 + 17 * ls.length
        · rw [if_pos (by omega), if_pos hw]
        · rw [if_neg (by omega), if_neg hw]
          congr 3
          omega
      · rw [if_neg hin]
        have hne : (i - 2) / 17 ≠ ls.length := by omega
        have hg : (ls ++ [l]).getD ((i - 2) / 17) Lt.none = ls.getD ((i - 2) / 17) Lt.none := by
          by_cases hlt : (i - 2) / 17 < ls.length
          · simp [List.getD_eq_getElem?_getD, List.getElem?_append_left hlt]
          · simp only [List.getD_eq_getElem?_getD]
            rw [List.getElem?_eq_none (by simp; omega), List.getElem?_eq_none (by omega)]
        rw [hg]

theorem numsOf_lt {ws : List (List UInt8)} {ns : List Nat} (h : numsOf ws = some ns) {x : Nat} (hx : x ∈ ns) : x < 100000 := by
  induction ws generalizing ns with
  | nil => simp [numsOf] at h; subst h; cases hx
  | cons w ws ih =>
    rw [numsOf] at h
    cases hn : numOf w with
    | none => rw [hn] at h; cases h
    | some n =>
      rw [hn] at h
      cases hs : numsOf ws with
      | none => rw [hs] at h; cases h
      | some m =>
        rw [hs] at h
        simp at h
        subst h
        rcases List.mem_cons.1 hx with rfl | hx
        · exact numOf_lt hn
        · exact ih hs hx
theorem row_form {w : World} {hi n c : Nat} {A : Option Addr} {zs : List Int} (h : IntRow w hi (.slice A n c) zs) (hz : zs ≠ []) :
    ∃ gn off, A = some ⟨gn, off, none⟩ ∧ gn < w.heap.size ∧ zs.length ≤ c ∧ ∀ (i : Nat) (z : Int), zs[i]? = some z → w.cell? ⟨gn, off + i, none⟩ = some (.int .i64 z) := by
  rcases h with ⟨h, _⟩ | ⟨g', off, cap, cs', hv, _, hc, hh, hat⟩
  · exact absurd h hz
  · obtain ⟨rfl, _, rfl⟩ := Value.slice.inj hv
    exact ⟨g', off, rfl, hh.lt, hc, fun i z hi => (hh.cell _).trans (hat i z hi)⟩

theorem letter_build (n : Int) (w : World) : (Instr.build 25 #[(0, .int .i64 n)]).run Tryd.prog w = .ok (.agg (lcells fun i => if i = 0 then n else 0)) w := by kernel_rfl
theorem arm_buildL {ops : Array Oper} {rest : List Oper} {a : Act} {w : World} {Q : Exit → Act → World → Prop} {dst : Option Tmp} {ty : TypeId} {pos : String} {after : Array Edge} (x : Operand) (n : Int) (hx : a.eval x = .int .i64 n)
    (h : wpList Tryd.prog ops Q rest (a.put dst (.agg (lcells fun i => if i = 0 then n else 0))) w) :
    wpList Tryd.prog ops Q ({ dst := dst, op := .build 25 #[(0, x)], type := ty, pos := pos, after := after, guard := none } :: rest) a w := by
  refine wpl_run rfl _ _ ?_ h
  simp [execOp, hx, letter_build]

/-- A letter of which some rows are laid. -/
def part (n : Nat) (l : List Nat) (i : Nat) : Int := if i = 0 then (n : Int) else ((l.getD (i - 1) 0 : Nat) : Int)
theorem part_nil (n : Nat) : (lcells fun i => if i = 0 then (n : Int) else 0) = lcells (part n []) := by
  apply lcells_ext
  intro i _
  unfold part
  by_cases h : i = 0 <;> simp [h]

theorem shr_nat (r n : Nat) : ((r : Int) / 2 ^ n) = ((r / 2 ^ n : Nat) : Int) := by
  rw [Int.natCast_ediv, Int.natCast_pow]
  rfl
theorem shr_no (r n : Nat) (h : r < 2 ^ n) : ((r : Int) / 2 ^ n != 0) = false := by
  rw [shr_nat, Nat.div_eq_of_lt h]
  rfl
theorem shr_yes (r n : Nat) (h : 2 ^ n ≤ r) : ((r : Int) / 2 ^ n != 0) = true := by
  have h1 : 0 < r / 2 ^ n := Nat.div_pos h (Nat.two_pow_pos n)
  rw [shr_nat]
  simp only [bne_iff_ne]
  omega
theorem part_set (n : Nat) (l : List Nat) (r : Nat) (h : l.length < 16) : (lcells (part n l)).setIfInBounds (1 + l.length) (.int .i64 (r : Int)) = lcells (part n (l ++ [r])) := by
  apply Array.ext_getElem?
  intro i
  rw [Array.getElem?_setIfInBounds]
  by_cases hi : i < 17
  · rw [lcells_get _ _ hi, lcells_get _ _ hi, lcells_size]
    unfold part
    by_cases h1 : 1 + l.length = i
    · subst h1
      simp [hi]
    · rw [if_neg h1]
      by_cases h0 : i = 0
      · simp [h0]
      · rw [if_neg h0, if_neg h0]
        congr 3
        simp only [List.getD_eq_getElem?_getD]
        by_cases h2 : i - 1 < l.length
        · rw [List.getElem?_append_left h2]
        · rw [List.getElem?_eq_none (by omega), List.getElem?_eq_none (by simp; omega)]
  · have h1 : (lcells (part n l))[i]? = none := Array.getElem?_eq_none (by rw [lcells_size]; omega)
    have h2 : (lcells (part n (l ++ [r])))[i]? = none := Array.getElem?_eq_none (by rw [lcells_size]; omega)
    rw [h1, h2, lcells_size]
    by_cases h3 : 1 + l.length = i
    · subst h3; simp [hi]
    · simp [h3]

theorem Holds.cells {g : Nat} {t : TypeId} : ∀ (vs : List Value) (o : Nat) {w : World} {cs : Array Value}, Holds w g t cs → ∃ cs', Holds (w.setCells g o vs) g t cs' ∧ cs'.size = cs.size
  | [], _, _, cs, h => ⟨cs, h, rfl⟩
  | v :: vs, o, _, _, h => by
    obtain ⟨cs', h1, h2⟩ := Holds.cells vs (o + 1) (h.set o v)
    exact ⟨cs', h1, by rw [h2, Array.size_setIfInBounds]⟩
/-- The cell is none of the letter's. -/
def OutOf (n i : Nat) : Prop := ¬ (2 + 17 * n ≤ i ∧ i < 2 + 17 * n + 17)
theorem below_keep (w : World) (g : Nat) : ∀ (vs : List Value) (o : Nat), w.grownBy (w.setCells g o vs) (some g) := fun vs => by
  induction vs generalizing w with
  | nil => exact fun o => ⟨rfl, rfl, rfl, Nat.le_refl _, fun _ _ _ => rfl⟩
  | cons v vs ih =>
    intro o
    have h := ih (w.setCell ⟨g, o, none⟩ v) (o + 1)
    have hs : (w.setCell ⟨g, o, none⟩ v).heap.size = w.heap.size := by simp [World.setCell]
    refine ⟨h.os, h.tape, h.output, by have := h.size; rw [hs] at this; exact this, fun k hk hkg => ?_⟩
    exact (h.block k (by rw [hs]; exact hk) hkg).trans (Below.heap_setCell _ _ _ _ (by simpa using hkg))
/-- A letter stored into a font. -/
theorem font_store {w : World} {g : Nat} {a d : Nat} {ls : List Lt} {l : Lt} {F : Nat → Int} (hF : ∀ i, OutOf ls.length i → F i = Ft.cell ⟨a, d, ls⟩ i) (h : Holds w g 28 (fcells F)) :
    Holds (w.setCells g (2 + ls.length * 17) (lcells (part l.w l.rows)).toList) g 28 (fcells (Ft.cell ⟨a, d, ls ++ [l]⟩)) := by
  obtain ⟨cs', h1, h2⟩ := Holds.cells (lcells (part l.w l.rows)).toList (2 + ls.length * 17) h
  rw [fcells_size] at h2
  have e : cs' = fcells (Ft.cell ⟨a, d, ls ++ [l]⟩) := by
    apply Array.ext_getElem?
    intro i
    by_cases hi : i < 1617
    · rw [fcells_get _ _ hi, cell_more, ← h1.cell i]
      have hll : (lcells (part l.w l.rows)).toList.length = 17 := by rw [Array.length_toList, lcells_size]
      by_cases hin : 2 + 17 * ls.length ≤ i ∧ i < 2 + 17 * ls.length + 17
      · rw [if_pos hin]
        have hj : i - (2 + ls.length * 17) < (lcells (part l.w l.rows)).toList.length := by omega
        have := World.cell?_setCells_in g (lcells (part l.w l.rows)).toList (2 + ls.length * 17) w (fun j hj => by rw [h.cell, fcells_get _ _ (by rw [hll] at hj; omega)]; rfl) (i - (2 + ls.length * 17)) hj
        rw [show 2 + ls.length * 17 + (i - (2 + ls.length * 17)) = i by omega] at this
        rw [this]
        have h3 := lcells_get (part l.w l.rows) (i - (2 + ls.length * 17)) (by omega)
        rw [← Array.getElem?_toList, List.getElem?_eq_getElem hj] at h3
        rw [h3]
        unfold part
        by_cases h0 : i = 2 + 17 * ls.length
        · rw [if_pos (by omega), if_pos h0]
        · rw [if_neg (by omega), if_neg h0]
          congr 5
          omega
      · rw [if_neg hin, World.cell?_setCells_out g _ _ _ _ (fun _ _ => by show i < _ ∨ _ ≤ i; omega), h.cell, fcells_get _ _ hi, hF i hin]
    · rw [Array.getElem?_eq_none (by omega), Array.getElem?_eq_none (by rw [fcells_size]; omega)]
  rw [← e]
  exact h1

/-- What line leaves of the font in block g. -/
def LineIs (a d : Nat) (ls : List Lt) (line : List UInt8) (g : Nat) (w : World) (e : Ending) (w' : World) : Prop :=
  match letterOf (32 + ls.length) (a + d) line with
  | .error c => e = .returned (.int .i64 (c : Int)) ∧ Below w.heap.size w w'
  | .ok l => e = .returned (.int .i64 0) ∧ Holds w' g 28 (fcells (Ft.cell ⟨a, d, ls ++ [l]⟩)) ∧ w.grownBy w' (some g)

set_option maxHeartbeats 4000000 in
theorem line_any (a d : Nat) (ls : List Lt) (had : a + d ≤ 16) (hls : ls.length < 95) (s : ByteArray) (g : Nat) (w : World) (hg : Holds w g 28 (fcells (Ft.cell ⟨a, d, ls⟩))) (hs : s.size ≤ 70000) (hm : MaxL w) :
    Calls Tryd.prog 30 #[.pointer (some ⟨g, 0, none⟩), .int .i64 (ls.length : Nat), .string s] w (LineIs a d ls s.data.toList g w) := by
  go_enter Tryd.func30, Tryd.ntmps30
  go_wp2_with fail
  refine (numbers_any s _ hs hm).mono ?_
  rintro e w1 ⟨h1, b1⟩
  have hm2 : ∀ c (w' : World), Below w1.heap.size w1 w' → letterOf (32 + ls.length) (a + d) s.data.toList = .error c → LineIs a d ls s.data.toList g w (.returned (.int .i64 (c : Int))) w' := fun c w' hb hc => by
    unfold LineIs
    rw [hc]
    exact ⟨rfl, b1.trans (hb.mono b1.size)⟩
  have q1 : Holds w1 g 28 (fcells (Ft.cell ⟨a, d, ls⟩)) := hg.below b1 hg.lt
  rcases h1 with ⟨v, hn, rfl⟩ | ⟨ns, v, hn, rfl, hrow⟩
  · have he : letterOf (32 + ls.length) (a + d) s.data.toList = .error 2 := by unfold letterOf; rw [hn]
    have HE := Lib.hid (hm2 2 w1 (Below.refl _ _) he)
    clear hm2 he hn
    go_wp2_with fail
    go_ret
    exact HE.out
  · obtain ⟨A, c, rfl⟩ := hrow.form
    rw [List.length_map] at hrow ⊢
    by_cases hl : ns.length < 3
    · have he : letterOf (32 + ls.length) (a + d) s.data.toList = .error 2 := by
        unfold letterOf
        rw [hn]
        rcases ns with _ | ⟨x, _ | ⟨y, _ | ⟨z, l⟩⟩⟩ <;> first | rfl | (simp at hl; omega)
      have e1 : decide ((ns.length : Int) < 3) = true := by simp; omega
      have HE := Lib.hid (hm2 2 w1 (Below.refl _ _) he)
      clear hm2 he hn
      go_wp2_with fail
      go_ret
      exact HE.out
    · obtain ⟨n0, n1, r0, rs, rfl⟩ : ∃ n0 n1 r0 rs, ns = n0 :: n1 :: r0 :: rs := by
        rcases ns with _ | ⟨x, _ | ⟨y, _ | ⟨z, l⟩⟩⟩
        · simp at hl
        · simp at hl
        · simp at hl
        · exact ⟨x, y, z, l, rfl⟩
      obtain ⟨gn, off, rfl, hgl, hcap, hat⟩ := row_form hrow (by simp)
      have hgn : gn ≠ g := row_apart hrow (by simp) q1 (by decide)
      clear hl
      have hc0 := hat 0 _ rfl
      have hc1 := hat 1 _ rfl
      rw [Nat.add_zero] at hc0
      have hlt : ∀ x ∈ n0 :: n1 :: r0 :: rs, x < 100000 := fun x hx => numsOf_lt hn hx
      have hlen : (n0 :: n1 :: r0 :: rs).length = rs.length + 3 := rfl
      rw [hlen]
      have e1 : decide (((rs.length + 3 : Nat) : Int) < 3) = false := by simp; omega
      have hlet : letterOf (32 + ls.length) (a + d) s.data.toList = if n0 ≠ 32 + ls.length then .error 8 else if 16 < n1 then .error 1 else if (r0 :: rs).length ≠ a + d then .error 17
          else if ∃ x ∈ r0 :: rs, 2 ^ n1 ≤ x then .error 22 else .ok ⟨n1, r0 :: rs⟩ := by unfold letterOf; rw [hn]
      have hat1 : (ls.length : Int) ≤ 94 := by omega
      have hrl : rs.length ≤ 100000 := by
        have h1 := numsOf_length hn
        rw [split_length] at h1
        have h2 : s.data.toList.count 32 ≤ s.data.toList.length := List.count_le_length
        have h3 : s.data.toList.length = s.size := by simp
        simp only [List.length_cons] at h1
        omega
      by_cases h0 : n0 ≠ 32 + ls.length
      · have he : letterOf (32 + ls.length) (a + d) s.data.toList = .error 8 := by rw [hlet, if_pos h0]
        have e2 : ((n0 : Int) != 32 + (ls.length : Int)) = true := by simp; omega
        have e2' : ((n0 : Int) == 32 + (ls.length : Int)) = false := by simp; omega
        have HE := Lib.hid (hm2 8 w1 (Below.refl _ _) he)
        clear hm2 he hn hlet hat hrow hlt hlen
        go_wp2_with fail
        go_ret
        exact HE.out
      · rw [if_neg h0] at hlet
        have h0' : n0 = 32 + ls.length := by omega
        have e2 : ((n0 : Int) != 32 + (ls.length : Int)) = false := by simp; omega
        have e2' : ((n0 : Int) == 32 + (ls.length : Int)) = true := by simp; omega
        by_cases h1 : 16 < n1
        · have he : letterOf (32 + ls.length) (a + d) s.data.toList = .error 1 := by rw [hlet, if_pos h1]
          have e3 : decide ((16 : Int) < (n1 : Int)) = true := by simp; omega
          have HE := Lib.hid (hm2 1 w1 (Below.refl _ _) he)
          clear hm2 he hn hlet hat hrow hlt hlen h0' h0
          go_wp2_with fail
          go_ret
          exact HE.out
        · rw [if_neg h1] at hlet
          have e3 : decide ((16 : Int) < (n1 : Int)) = false := by simp; omega
          have F0 : Ft.cell ⟨a, d, ls⟩ 0 = (a : Int) := rfl
          have F1 : Ft.cell ⟨a, d, ls⟩ 1 = (d : Int) := rfl
          have hte := height_any (Ft.cell ⟨a, d, ls⟩) w1 (by rw [F0]; omega) (by rw [F0]; omega) (by rw [F1]; omega) (by rw [F1]; omega)
          rw [F0, F1] at hte
          have HL := Lib.hid hlet
          have HM := Lib.hid hm2
          have HAT := Lib.hid hat
          have HLT := Lib.hid hlt
          clear hlet hm2 hat hlt hn hrow hlen F0 F1 h0' h0
          go_wp2_with ((with_reducible apply arm_load) <;> try (first | exact rfl | exact q1))
          refine hte.mono ?_
          rintro e w2 ⟨rfl, b2⟩
          by_cases hh : (r0 :: rs).length ≠ a + d
          · have he : letterOf (32 + ls.length) (a + d) s.data.toList = .error 17 := by rw [HL.out, if_pos hh]
            have HE := Lib.hid (HM.out 17 w2 b2 he)
            have e4 : ((rs.length : Int) + 3 - 2 != (a : Int) + (d : Int)) = true := by
              simp only [List.length_cons] at hh
              simp
              omega
            clear he hh
            go_wp2_with fail
            go_ret
            exact HE.out
          · have e4 : ((rs.length : Int) + 3 - 2 != (a : Int) + (d : Int)) = false := by
              simp only [List.length_cons] at hh
              simp
              omega
            have q2 : Holds w2 g 28 (fcells (Ft.cell ⟨a, d, ls⟩)) := q1.below b2 q1.lt
            have B2 : Below w.heap.size w w2 := b1.trans (b2.mono b1.size)
            have hc1' : w2.cell? ⟨gn, off + 1, none⟩ = some (.int .i64 (Int.ofNat n1)) := (b2.cell (p := ⟨gn, off + 1, none⟩) hgl).trans hc1
            have hat2 : ∀ (i : Nat) (z : Int), ((n0 :: n1 :: r0 :: rs).map Int.ofNat)[i]? = some z → w2.cell? ⟨gn, off + i, none⟩ = some (.int .i64 z) := fun i z hz => (b2.cell (p := ⟨gn, off + i, none⟩) hgl).trans (HAT.out i z hz)
            have HAT2 := Lib.hid hat2
            have hcap1 : rs.length + 3 ≤ c := by simpa using hcap
            have hcap2 : (rs.length : Int) + 3 ≤ (c : Int) := by omega
            have hcap3 : (2 : Int) ≤ (rs.length : Int) + 3 := by omega
            clear HM HAT hat2 hcap
            go_wp2_with (first | ((with_reducible apply arm_buildL) <;> try exact rfl) | (with_reducible apply arm_allocL) | ((with_reducible apply arm_storeL) <;> try exact rfl))
            clear e1 e2 e2' e3 e4 hc0 hc1 hc1' hcap1 hcap2 hcap3 hte hm
            have p2 := Holds.new w2 25 (lcells fun i => if i = 0 then (n1 : Int) else 0)
            generalize hW3 : (w2.alloc (Obj.cells (lcells fun i => if i = 0 then (n1 : Int) else 0) 25)) = W at p2 ⊢
            have B3 : Below w.heap.size w W := by subst hW3; exact B2.alloc B2.size _
            have z3 := p2.lt
            have hcs : ∀ (i : Nat) (z : Int), ((n0 :: n1 :: r0 :: rs).map Int.ofNat)[i]? = some z → W.cell? ⟨gn, off + i, none⟩ = some (.int .i64 z) := fun i z hz => by
              subst hW3
              have := HAT2.out i z hz
              exact (World.cell?_of_block (a := ⟨gn, off + i, none⟩) (Below.heap_alloc _ _ _ (World.block_lt_of_cell? w2 _ this))).trans this
            have HCS := Lib.hid hcs
            have qW : Holds W g 28 (fcells (Ft.cell ⟨a, d, ls⟩)) := by subst hW3; exact q2.alloc _
            have hgL : g < w2.heap.size := q2.lt
            have hgnL : gn < w2.heap.size := by have := b2.size; omega
            clear hcs hW3 HAT2 q2 q1 b2 hg
            rw [part_nil] at p2
            generalize hrow : r0 :: rs = rows at *
            have hrl2 : rows.length = rs.length + 1 := by rw [← hrow]; rfl
            go_loopw [53] (fun i wr => ∃ y : Nat, y ≤ rows.length ∧ i = .int .i64 y ∧ (∀ x ∈ rows.take y, x < 2 ^ n1) ∧ Holds wr w2.heap.size 25 (lcells (part n1 (rows.take y))) ∧ Below w2.heap.size W wr) (fun i _ => rows.length - (intOf i).toNat)
            case atStart => exact ⟨0, by omega, rfl, by simp, by simpa using p2, Below.refl _ _⟩
            case round =>
              obtain ⟨y, hy, rfl, hsm, py, by'⟩ := hrel
              have zy := by'.size
              have hpc : wr.cell? ⟨w2.heap.size, 0, none⟩ = some (.int .i64 (n1 : Int)) := by
                rw [py.cell, lcells_get _ _ (by omega)]; rfl
              by_cases hyl : y < rows.length
              · have hce : wr.cell? ⟨gn, off + 2 + y, none⟩ = some (.int .i64 ((rows[y] : Nat) : Int)) := by
                  rw [by'.cell (p := ⟨gn, off + 2 + y, none⟩) hgnL, Nat.add_assoc]
                  exact HCS.out (2 + y) _ (by rw [Nat.add_comm 2 y]; simp [hyl])
                have hrx := HLT.out rows[y] (by simp)
                have hy0 : (0 : Int) ≤ (y : Int) := by omega
                have hy1 : (y : Int) < (rs.length : Int) + 3 - 2 := by omega
                have hy2 : (y : Int) < (rs.length : Int) + 1 := by omega
                have hy16 : y < 16 := by omega
                by_cases hr : rows[y] < 2 ^ n1
                · have e5 := shr_no rows[y] n1 hr
                  have htl : (rows.take y).length = y := by rw [List.length_take]; omega
                  have hcy := py.cell (1 + y)
                  rw [lcells_get _ _ (by omega)] at hcy
                  have hfy := py.frozen (1 + y)
                  have hst := py.set (1 + y) (.int .i64 ((rows[y] : Nat) : Int))
                  have hps := part_set n1 (rows.take y) rows[y] (by omega)
                  rw [htl, ← List.take_succ_eq_append_getElem hyl] at hps
                  rw [hps] at hst
                  have bst : Below w2.heap.size W (wr.setCell ⟨w2.heap.size, 1 + y, none⟩ (.int .i64 ((rows[y] : Nat) : Int))) := by'.setCell (p := ⟨w2.heap.size, 1 + y, none⟩) (Nat.le_refl _) _
                  have hsm' : ∀ x ∈ rows.take (y + 1), x < 2 ^ n1 := by
                    intro x hx
                    rw [List.take_succ_eq_append_getElem hyl] at hx
                    rcases List.mem_append.1 hx with hx | hx
                    · exact hsm x hx
                    · rw [List.mem_singleton] at hx; subst hx; exact hr
                  have HS := Lib.hid (And.intro hst (And.intro bst hsm'))
                  clear hst bst hsm' hps htl
                  go_wp2_with fail
                  go_roundw
                  case rel => exact ⟨y + 1, by omega, by go_num, HS.out.2.2, HS.out.1, HS.out.2.1⟩
                  case measure => simp [intOf]; omega
                · have e5 := shr_yes rows[y] n1 (by omega)
                  have he : letterOf (32 + ls.length) (a + d) s.data.toList = .error 22 := by
                    rw [HL.out, if_neg hh, if_pos ⟨rows[y], List.getElem_mem _, by omega⟩]
                  have HE : LineIs a d ls s.data.toList g w (.returned (.int .i64 22)) wr := by
                    unfold LineIs
                    rw [he]
                    exact ⟨rfl, B3.trans (by'.mono B2.size)⟩
                  clear he
                  go_wp2_with fail
                  go_ret
                  exact HE
              · have hyr : y = rows.length := by omega
                have htk : rows.take y = rows := List.take_of_length_le (by omega)
                rw [htk] at py hsm
                have qr := qW.below by' hgL
                have he : letterOf (32 + ls.length) (a + d) s.data.toList = .ok ⟨n1, rows⟩ := by
                  rw [HL.out, if_neg hh, if_neg (fun ⟨x, hx, hx2⟩ => by have := hsm x hx; omega)]
                have HE := Lib.hid he
                have HSM := Lib.hid hsm
                have hLg : w2.heap.size ≠ g := by omega
                clear he hsm htk
                go_wp2_with fail
                refine wp_region_mixC (fun w' => (∃ F : Nat → Int, (∀ i, OutOf ls.length i → F i = Ft.cell ⟨a, d, ls⟩ i) ∧ Holds w' g 28 (fcells F)) ∧ wr.grownBy w' (some g)) [6] (by kernel_rfl) (by kernel_rfl) (by kernel_rfl) (by kernel_rfl) ⟨⟨_, fun _ _ => rfl, qr⟩, ⟨rfl, rfl, rfl, Nat.le_refl _, fun _ _ _ => rfl⟩⟩ ?_
                refine wpm_move _ rfl rfl ?_; go_simp
                refine wpm_move _ rfl rfl ?_; go_simp
                refine wpm_loadRow _ w2.heap.size 25 (lcells (part n1 rows)) _ rfl rfl rfl (fun w' h' => py.grown h'.2 (by simpa using hLg)) Tryd.underlying25 rfl (by rw [lcells_size]; exact letter_size) ?_; go_simp
                refine wpm_run (.pointer (some ⟨g, 0, none⟩)) rfl rfl (fun w' h' => ?_) ?_
                · go_simp
                go_simp
                refine wpm_run (.pointer (some ⟨g, 2, none⟩)) rfl rfl (fun w' h' => ?_) ?_
                · go_simp
                go_simp
                refine wpm_run (.pointer (some ⟨g, 2 + ls.length * 17, none⟩)) rfl rfl (fun w' h' => ?_) ?_
                · go_simp
                  intro hbad
                  omega
                go_simp
                refine wpm_step (fun v => v = undef) (fun _ w' => Holds w' g 28 (fcells (Ft.cell ⟨a, d, ls ++ [⟨n1, rows⟩]⟩))) rfl rfl ⟨_, rfl⟩ (fun w' h' => ?_) ?_
                · obtain ⟨⟨F, hF, hq⟩, hv⟩ := h'
                  have hnew := font_store (l := ⟨n1, rows⟩) hF hq
                  have hll : (lcells (part n1 rows)).toList.length = 17 := by rw [Array.length_toList, lcells_size]
                  have hst := run_storeCells_cells (P := Tryd.prog) g (2 + ls.length * 17) (lcells (part n1 rows)).toList 0 w' (fun j hj => by rw [hq.cell, fcells_get _ _ (by rw [hll] at hj; omega)]; rfl) (fun j hj => hq.frozen _)
                    (fun v hv => (Array.all_eq_true_iff_forall_mem.1 (lcells_one (part n1 rows))) v (by simpa using hv))
                  simp only [Nat.add_zero] at hst
                  have hsz := lcells_size (part n1 rows)
                  have hgr : wr.grownBy (w'.setCells g (2 + ls.length * 17) (lcells (part n1 rows)).toList) (some g) := by
                    have hb := below_keep w' g (lcells (part n1 rows)).toList (2 + ls.length * 17)
                    exact ⟨hb.os.trans hv.os, hb.tape.trans hv.tape, hb.output.trans hv.output, Nat.le_trans hv.size hb.size, fun k hk hkg => (hb.block k (Nat.lt_of_lt_of_le hk hv.size) hkg).trans (hv.block k hk hkg)⟩
                  have hC : (∃ F : Nat → Int, (∀ i, OutOf ls.length i → F i = Ft.cell ⟨a, d, ls⟩ i) ∧ Holds (w'.setCells g (2 + ls.length * 17) (lcells (part n1 rows)).toList) g 28 (fcells F)) ∧ wr.grownBy (w'.setCells g (2 + ls.length * 17) (lcells (part n1 rows)).toList) (some g) :=
                    ⟨⟨_, fun i hi => by rw [cell_more, if_neg hi], hnew⟩, hgr⟩
                  have HC := Lib.hid hC
                  have HN := Lib.hid hnew
                  clear hC hnew hgr hF hq hv hll
                  unfold stepAt
                  go_simp
                  first | exact ⟨rfl, HC.out, HN.out⟩ | exact ⟨rfl, HC.out, HC.out, HN.out⟩
                rintro _ rfl
                go_simp
                refine wpm_nil ?_
                rintro w5 ⟨⟨_, hv⟩, hq⟩
                go_wp2_with fail
                go_ret
                unfold LineIs
                rw [HE.out]
                have B5 := B3.trans (by'.mono B2.size)
                refine ⟨rfl, hq, ?_⟩
                exact ⟨hv.os.trans B5.os, hv.tape.trans B5.tape, hv.output.trans B5.output, Nat.le_trans B5.size hv.size, fun k hk hkg => (hv.block k (Nat.lt_of_lt_of_le hk B5.size) hkg).trans (B5.block k hk)⟩

end Go.Proofs.YtgjfebnafjpcaaaDoor
