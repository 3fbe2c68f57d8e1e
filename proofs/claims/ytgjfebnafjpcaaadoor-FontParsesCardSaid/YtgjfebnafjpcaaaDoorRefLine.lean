/-
  The contract of the reference's letter: the line of a letter.
-/
import Derived.Test.YtgjfebnafjpcaaaDoorRefCut
namespace Go.Proofs.YtgjfebnafjpcaaaDoor
open Go.RowKit
set_option maxRecDepth 100000

/-- What the reference's letter hands back. -/
def LetIs (i h : Nat) (line : List UInt8) (w : World) (e : Ending) (w' : World) : Prop :=
  match letterOf i h line with
  | .error c => e = .returned (.tuple #[.agg #[.int .i64 0, .slice none 0 0], .int .i64 (c : Int)]) ∧ Below w.heap.size w w'
  | .ok l => ∃ u, e = .returned (.tuple #[.agg #[.int .i64 (l.w : Nat), u], .int .i64 0]) ∧ IntRow w' w'.heap.size u (l.rows.map Int.ofNat) ∧ Below w.heap.size w w'

theorem row_tail {w : World} {hi gn off c : Nat} {n0 n1 : Nat} {rows : List Nat} (hne : rows ≠ []) (h : IntRow w hi (.slice (some ⟨gn, off, none⟩) (rows.length + 2) c) ((n0 :: n1 :: rows).map Int.ofNat)) (hhi : hi ≤ w.heap.size) :
    IntRow w w.heap.size (.slice (some ⟨gn, off + 2, none⟩) rows.length (c - 2)) (rows.map Int.ofNat) := by
  have _ := hne
  rcases h with ⟨h, _⟩ | ⟨g', off', cap, cs, hv, hg, hc, hh, hat⟩
  · simp at h
  · have hq := Value.slice.inj hv
    have h1 := hq.1
    simp at h1
    obtain ⟨rfl, rfl⟩ := h1
    obtain rfl := hq.2.2
    refine .inr ⟨gn, off + 2, c - 2, cs, by rw [List.length_map], by omega, ?_, hh, fun i z hz => ?_⟩
    · rw [List.length_map] at hc ⊢
      simp at hc
      omega
    · have := hat (i + 2) z (by simpa using hz)
      rw [show off + (i + 2) = off + 2 + i by omega] at this
      exact this

set_option maxHeartbeats 4000000 in
theorem refLine_any (i h : Nat) (hh : h ≤ 16) (s : ByteArray) (w : World) (hs : s.size ≤ 70000) :
    Calls Tryd.prog 35 #[.string s, .int .i64 (i : Int), .int .i64 (h : Int)] w (LetIs i h s.data.toList w) := by
  have hsl : s.data.toList.length = s.size := by simp
  go_enter Tryd.func35, Tryd.ntmps35
  go_wp2_with fail
  have hcut := refCut_any s 32 (w.alloc (.cells #[.int .i64 0, .slice none 0 0] 54)) hs
  refine hcut.mono ?_
  rintro e w1 ⟨v, bs, rfl, hbs, hstr, hb1⟩
  have q1 := (Holds.new w 54 #[.int .i64 0, .slice none 0 0]).below hb1 (by simp)
  have B1 := ((Below.refl w.heap.size w).alloc (Nat.le_refl _) (.cells #[.int .i64 0, .slice none 0 0] 54)).trans (hb1.mono (by simp))
  have hbl : bs.length ≤ 70001 := by
    have h1 := congrArg List.length hbs
    rw [List.length_map, split_length] at h1
    have h2 : s.data.toList.count 32 ≤ s.data.toList.length := List.count_le_length
    omega
  clear hb1 hcut
  have hnum := refNumbers_any bs v 0 w1.heap.size w1 hstr (Nat.le_refl _) (by omega) hbl
  rw [hbs, List.drop_zero] at hnum
  clear hstr
  go_wp2_with fail
  refine hnum.mono ?_
  rintro e w2 ⟨h2, hb2⟩
  have q2 := q1.below hb2 q1.lt
  have B2 := B1.trans (hb2.mono B1.size)
  clear hnum hb2 q1 B1 hbs
  -- the way out at an error
  have out : ∀ (w' : World) (c : Nat), Below w.heap.size w w' → letterOf i h s.data.toList = .error c → LetIs i h s.data.toList w (.returned (.tuple #[.agg #[.int .i64 0, .slice none 0 0], .int .i64 (c : Int)])) w' := fun w' c hb hc => by
    unfold LetIs
    rw [hc]
    exact ⟨rfl, hb⟩
  rcases h2 with ⟨u, hn, rfl, A, c, rfl⟩ | ⟨ns, u, hn, rfl, hrow⟩
  · have he : letterOf i h s.data.toList = .error 2 := by unfold letterOf; rw [hn]
    clear hn
    have HE := Lib.hid (out _ 2 (below_setRow B2 (Nat.le_refl _) #[.int .i64 0, .slice none 0 0] (k := w.heap.size)) he)
    have qx := q2
    clear out he
    go_wp2_with ((with_reducible apply wpl_storeRow (t := 54)) <;> try (first | exact rfl | exact qx | exact refGlyph_size | exact one_int_slice _ _ _ _ _))
    refine bodyPost_ret (results_row_tmp rfl _ _ w.heap.size 54 _ _ rfl (qx.row _) Tryd.underlying54 rfl refGlyph_size) rfl ?_
    exact HE.out
  · obtain ⟨A, c, rfl⟩ := hrow.form
    rw [List.length_map] at hrow ⊢
    by_cases hl : ns.length < 3
    · have e1 : decide ((ns.length : Int) < 3) = true := by simp; omega
      have he : letterOf i h s.data.toList = .error 2 := by
        unfold letterOf
        rw [hn]
        rcases ns with _ | ⟨x, _ | ⟨y, _ | ⟨z, l⟩⟩⟩ <;> first | rfl | (simp at hl; omega)
      clear hn
      have HE := Lib.hid (out _ 2 (below_setRow B2 (Nat.le_refl _) #[.int .i64 0, .slice none 0 0] (k := w.heap.size)) he)
      have qx := q2
      clear out he
      go_wp2_with ((with_reducible apply wpl_storeRow (t := 54)) <;> try (first | exact rfl | exact qx | exact refGlyph_size | exact one_int_slice _ _ _ _ _))
      refine bodyPost_ret (results_row_tmp rfl _ _ w.heap.size 54 _ _ rfl (qx.row _) Tryd.underlying54 rfl refGlyph_size) rfl ?_
      exact HE.out
    · obtain ⟨n0, n1, r0, rs, rfl⟩ : ∃ n0 n1 r0 rs, ns = n0 :: n1 :: r0 :: rs := by
        rcases ns with _ | ⟨x, _ | ⟨y, _ | ⟨z, l⟩⟩⟩
        · simp at hl
        · simp at hl
        · simp at hl
        · exact ⟨x, y, z, l, rfl⟩
      obtain ⟨gn, off, rfl, hgl, hcap, hat⟩ := row_form hrow (by simp)
      have hgn : gn ≠ w.heap.size := row_apart hrow (by simp) q2 (by decide)
      have hc0 := hat 0 _ rfl
      have hc1 := hat 1 _ rfl
      rw [Nat.add_zero] at hc0
      have hlt : ∀ x ∈ n0 :: n1 :: r0 :: rs, x < 100000 := fun x hx => numsOf_lt hn hx
      have hl0 := hlt n0 (by simp)
      have hl1 := hlt n1 (by simp)
      have hlen : (n0 :: n1 :: r0 :: rs).length = rs.length + 3 := rfl
      rw [hlen] at hrow hl ⊢
      have e1 : decide (((rs.length + 3 : Nat) : Int) < 3) = false := by simp; omega
      have hlet : letterOf i h s.data.toList = if n0 ≠ i then .error 8 else if 16 < n1 then .error 1 else if (r0 :: rs).length ≠ h then .error 17
          else if ∃ x ∈ r0 :: rs, 2 ^ n1 ≤ x then .error 22 else .ok ⟨n1, r0 :: rs⟩ := by unfold letterOf; rw [hn]
      have hrl : rs.length ≤ 70001 := by
        have h1 := numsOf_length hn
        rw [split_length] at h1
        have h2 : s.data.toList.count 32 ≤ s.data.toList.length := List.count_le_length
        simp only [List.length_cons] at h1
        omega
      have hcap1 : rs.length + 3 ≤ c := by simpa using hcap
      clear hn hlen hcap hl
      have HAT := Lib.hid hat
      have HROW := Lib.hid hrow
      have HLT := Lib.hid hlt
      have HL := Lib.hid hlet
      clear hat hrow hlt hlet
      by_cases h0 : n0 ≠ i
      · have e2 : ((n0 : Int) != (i : Int)) = true := by simp; omega
        have e2' : ((n0 : Int) == (i : Int)) = false := by simp; omega
        have he : letterOf i h s.data.toList = .error 8 := by rw [HL.out, if_pos h0]
        clear h0
        have HE := Lib.hid (out _ 8 (below_setRow B2 (Nat.le_refl _) #[.int .i64 0, .slice none 0 0] (k := w.heap.size)) he)
        have qx := q2
        clear out he
        go_wp2_with ((with_reducible apply wpl_storeRow (t := 54)) <;> try (first | exact rfl | exact qx | exact refGlyph_size | exact one_int_slice _ _ _ _ _))
        refine bodyPost_ret (results_row_tmp rfl _ _ w.heap.size 54 _ _ rfl (qx.row _) Tryd.underlying54 rfl refGlyph_size) rfl ?_
        exact HE.out
      · have e2 : ((n0 : Int) != (i : Int)) = false := by simp; omega
        have e2' : ((n0 : Int) == (i : Int)) = true := by simp; omega
        by_cases h1 : 16 < n1
        · have e3 : decide ((16 : Int) < (n1 : Int)) = true := by simp; omega
          have he : letterOf i h s.data.toList = .error 1 := by rw [HL.out, if_neg h0, if_pos h1]
          clear h0
          have HE := Lib.hid (out _ 1 (below_setRow B2 (Nat.le_refl _) #[.int .i64 0, .slice none 0 0] (k := w.heap.size)) he)
          have qx := q2
          clear out he
          go_wp2_with ((with_reducible apply wpl_storeRow (t := 54)) <;> try (first | exact rfl | exact qx | exact refGlyph_size | exact one_int_slice _ _ _ _ _))
          refine bodyPost_ret (results_row_tmp rfl _ _ w.heap.size 54 _ _ rfl (qx.row _) Tryd.underlying54 rfl refGlyph_size) rfl ?_
          exact HE.out
        · have e3 : decide ((16 : Int) < (n1 : Int)) = false := by simp; omega
          by_cases h17 : (r0 :: rs).length ≠ h
          · have e4 : ((rs.length : Int) + 3 != 2 + (h : Int)) = true := by
              simp only [List.length_cons] at h17
              simp
              omega
            have e4' : ((rs.length : Int) + 3 == 2 + (h : Int)) = false := by
              simp only [List.length_cons] at h17
              simp
              omega
            have he : letterOf i h s.data.toList = .error 17 := by rw [HL.out, if_neg h0, if_neg h1, if_pos h17]
            clear h0 h17
            have HE := Lib.hid (out _ 17 (below_setRow B2 (Nat.le_refl _) #[.int .i64 0, .slice none 0 0] (k := w.heap.size)) he)
            have qx := q2
            clear out he
            go_wp2_with ((with_reducible apply wpl_storeRow (t := 54)) <;> try (first | exact rfl | exact qx | exact refGlyph_size | exact one_int_slice _ _ _ _ _))
            refine bodyPost_ret (results_row_tmp rfl _ _ w.heap.size 54 _ _ rfl (qx.row _) Tryd.underlying54 rfl refGlyph_size) rfl ?_
            exact HE.out
          · have e4 : ((rs.length : Int) + 3 != 2 + (h : Int)) = false := by
              simp only [List.length_cons] at h17
              simp
              omega
            have e4' : ((rs.length : Int) + 3 == 2 + (h : Int)) = true := by
              simp only [List.length_cons] at h17
              simp
              omega
            obtain ⟨N, hN⟩ : ∃ N, N = n0 :: n1 :: r0 :: rs := ⟨_, rfl⟩
            have hNl : N.length = rs.length + 3 := by rw [hN]; rfl
            have hNat : ∀ (j : Nat) (hj : j < N.length), w2.cell? ⟨gn, off + j, none⟩ = some (.int .i64 ((N[j] : Nat) : Int)) := fun j hj => HAT.out j _ (by rw [← hN, List.getElem?_map, List.getElem?_eq_getElem hj]; rfl)
            have hNlt : ∀ (j : Nat) (hj : j < N.length), N[j] < 100000 := fun j hj => HLT.out _ (by rw [← hN]; exact List.getElem_mem _)
            have hNd : N.drop 2 = r0 :: rs := by rw [hN]; rfl
            have hN1 : N.drop 1 = n1 :: r0 :: rs := by rw [hN]; rfl
            clear hN HAT HLT
            have HN := Lib.hid (And.intro hNat (And.intro hNlt hNd))
            clear hNat hNlt hNd hN1
            have hn16 : n1 ≤ 16 := by omega
            have z2 := q2.lt
            go_wp2_with fail
            go_loopw [10] (fun p wr => ∃ k : Nat, 2 ≤ k ∧ k ≤ rs.length + 3 ∧ p = .int .i64 k ∧ (∀ x ∈ (N.take k).drop 2, x < 2 ^ n1) ∧ Below w2.heap.size w2 wr) (fun p _ => rs.length + 3 - (intOf p).toNat)
            case atStart => exact ⟨2, by omega, by omega, rfl, by simp, Below.refl _ _⟩
            case round =>
              obtain ⟨k, hk1, hk2, rfl, hsm, hB⟩ := hrel
              have HSM := Lib.hid hsm
              clear hsm
              by_cases hlt : k < rs.length + 3
              · have hd : decide ((k : Int) < (rs.length : Int) + 3) = true := by simp; omega
                have hkN : k < N.length := by omega
                have hk0 : (0 : Int) ≤ (k : Int) := by omega
                have hk3 : (k : Int) < (rs.length : Int) + 3 := by omega
                have hcell : wr.cell? ⟨gn, off + k, none⟩ = some (.int .i64 ((N[k] : Nat) : Int)) := (hB.cell (p := ⟨gn, off + k, none⟩) hgl).trans (HN.out.1 k hkN)
                have hcell1 : wr.cell? ⟨gn, off + 1, none⟩ = some (.int .i64 ((n1 : Nat) : Int)) := (hB.cell (p := ⟨gn, off + 1, none⟩) hgl).trans hc1
                have htk : (N.take (k + 1)).drop 2 = (N.take k).drop 2 ++ [N[k]] := by
                  rw [List.take_succ_eq_append_getElem hkN, List.drop_append_of_le_length (by rw [List.length_take]; omega)]
                have hmem : N[k] ∈ r0 :: rs := by
                  rw [← HN.out.2.2]
                  have e : N[k] = (N.drop 2)[k - 2]'(by rw [List.length_drop]; omega) := by
                    rw [List.getElem_drop]
                    congr 1
                    omega
                  rw [e]
                  exact List.getElem_mem _
                have hx5 := HN.out.2.1 k hkN
                have HT := Lib.hid htk
                have HM := Lib.hid hmem
                clear htk hmem
                generalize N[k] = x at *
                have hgw : gn < wr.heap.size := Nat.lt_of_lt_of_le hgl hB.size
                have hb1 : (1 : Int) < (rs.length : Int) + 3 := by omega
                go_wp2_with fail
                refine wp_region_grows (by kernel_rfl) (by kernel_rfl) ?_
                refine wpq_move _ rfl ?_; go_simp
                refine wpq_move _ rfl ?_; go_simp
                refine wpq_step (v := .pointer (some ⟨gn, off + k, none⟩)) rfl (fun w' h' => ?_) ?_
                · unfold Oper.quietAt; go_simp; try exact ⟨rfl, rfl⟩
                go_simp
                refine wpq_step (v := .int .i64 (x : Nat)) rfl (fun w' h' => ?_) ?_
                · have hc := (Below.cell (p := ⟨gn, off + k, none⟩) h' hgw).trans hcell
                  unfold Oper.quietAt; go_simp; try exact ⟨rfl, rfl⟩
                go_simp
                refine wpq_move _ rfl ?_; go_simp
                refine wpq_step (v := .pointer (some ⟨gn, off + 1, none⟩)) rfl (fun w' h' => ?_) ?_
                · unfold Oper.quietAt; go_simp; try exact ⟨rfl, rfl⟩
                go_simp
                refine wpq_step (v := .int .i64 (n1 : Nat)) rfl (fun w' h' => ?_) ?_
                · have hc := (Below.cell (p := ⟨gn, off + 1, none⟩) h' hgw).trans hcell1
                  unfold Oper.quietAt; go_simp; try exact ⟨rfl, rfl⟩
                go_simp
                refine wpq_step (v := .int .i64 (pw n1 : Nat)) rfl (fun w' h' => ?_) ?_
                · unfold Oper.quietAt; go_simp
                  refine (power_any n1 hn16 w').mono ?_
                  rintro e w5 ⟨he, rfl⟩
                  exact ⟨he, h'⟩
                go_simp
                by_cases hbig : 2 ^ n1 ≤ x
                · refine wpq_step (v := .bool true) rfl (fun w' h' => ?_) ?_
                  · have hb' : pw n1 ≤ x := hbig
                    unfold Oper.quietAt; go_simp; try (first | exact ⟨rfl, rfl⟩ | omega)
                  go_simp
                  refine wpq_nil ?_
                  intro w5 h5
                  have he : letterOf i h s.data.toList = .error 22 := by rw [HL.out, if_neg h0, if_neg h1, if_neg h17, if_pos ⟨x, HM.out, hbig⟩]
                  have b5 := hB.trans (Below.mono h5 hB.size)
                  have HE := Lib.hid (out _ 22 (below_setRow (B2.trans (b5.mono B2.size)) (Nat.le_refl _) #[.int .i64 0, .slice none 0 0] (k := w.heap.size)) he)
                  have qx := q2.below b5 z2
                  clear out he h0 h17
                  go_wp2_with ((with_reducible apply wpl_storeRow (t := 54)) <;> try (first | exact rfl | exact qx | exact refGlyph_size | exact one_int_slice _ _ _ _ _))
                  refine bodyPost_ret (results_row_tmp rfl _ _ w.heap.size 54 _ _ rfl (qx.row _) Tryd.underlying54 rfl refGlyph_size) rfl ?_
                  exact HE.out
                · refine wpq_step (v := .bool false) rfl (fun w' h' => ?_) ?_
                  · have hb' : x < pw n1 := by
                      have : ¬ pw n1 ≤ x := hbig
                      omega
                    unfold Oper.quietAt; go_simp; try (first | exact ⟨rfl, rfl⟩ | omega)
                  go_simp
                  refine wpq_nil ?_
                  intro w5 h5
                  have b5 := hB.trans (Below.mono h5 hB.size)
                  have hsm' : ∀ y ∈ (N.take (k + 1)).drop 2, y < 2 ^ n1 := by
                    intro y hy
                    rw [HT.out] at hy
                    rcases List.mem_append.1 hy with hy | hy
                    · exact HSM.out y hy
                    · rw [List.mem_singleton] at hy; subst hy; omega
                  have HS := Lib.hid (And.intro hsm' b5)
                  clear hsm' b5
                  go_wp2_with fail
                  go_roundw
                  case rel => exact ⟨k + 1, by omega, by omega, by go_num, HS.out.1, HS.out.2⟩
                  case measure => simp [intOf]; omega
              · have hke : k = rs.length + 3 := by omega
                subst hke
                have hd : decide ((((rs.length + 3 : Nat) : Nat) : Int) < (rs.length : Int) + 3) = false := by simp
                have hall : ∀ y ∈ r0 :: rs, y < 2 ^ n1 := fun y hy => HSM.out y (by rw [List.take_of_length_le (by omega), HN.out.2.2]; exact hy)
                have he : letterOf i h s.data.toList = .ok ⟨n1, r0 :: rs⟩ := by
                  rw [HL.out, if_neg h0, if_neg h1, if_neg h17, if_neg (fun ⟨y, hy, hy2⟩ => by have := hall y hy; omega)]
                have HE := Lib.hid he
                clear he hall HSM
                have hcell1 : wr.cell? ⟨gn, off + 1, none⟩ = some (.int .i64 ((n1 : Nat) : Int)) := (hB.cell (p := ⟨gn, off + 1, none⟩) hgl).trans hc1
                have hb1 : (1 : Int) < (rs.length : Int) + 3 := by omega
                have hcapz : (rs.length : Int) + 3 ≤ (c : Int) := by omega
                have htwo : (2 : Int) ≤ (rs.length : Int) + 3 := by omega
                have hgw : gn < wr.heap.size := Nat.lt_of_lt_of_le hgl hB.size
                have hrow : IntRow w2 w2.heap.size (.slice (some ⟨gn, off, none⟩) ((r0 :: rs).length + 2) c) ((n0 :: n1 :: r0 :: rs).map Int.ofNat) := HROW.out
                have hrt := row_tail (by simp) hrow (Nat.le_refl _)
                have hrt' : IntRow wr wr.heap.size (.slice (some ⟨gn, off + 2, none⟩) (r0 :: rs).length (c - 2)) ((r0 :: rs).map Int.ofNat) := hrt.keep (keep_below hB (Nat.le_refl _)) hB.size
                have qr := q2.below hB z2
                have B5 := B2.trans (hB.mono B2.size)
                have HRT := Lib.hid hrt'
                clear hrow hrt hrt' h0 h17 out hc0 e1 e2 e2' e3 e4 e4'
                go_wp2_with fail
                refine wp_region_mixC (fun w' => (∃ x y, Holds w' w.heap.size 54 #[x, y]) ∧ wr.grownBy w' (some w.heap.size)) [6] (by kernel_rfl) (by kernel_rfl) (by kernel_rfl) (by kernel_rfl) ⟨⟨_, _, qr⟩, ⟨rfl, rfl, rfl, Nat.le_refl _, fun _ _ _ => rfl⟩⟩ ?_
                have rd : ∀ w' : World, wr.grownBy w' (some w.heap.size) → w'.cell? ⟨gn, off + 1, none⟩ = some (.int .i64 (n1 : Nat)) := fun w' hg' => by
                  have hb := hg'.block gn hgw (by simpa using hgn)
                  exact (World.cell?_of_block (a := ⟨gn, off + 1, none⟩) hb).trans hcell1
                have RD := Lib.hid rd
                clear rd
                refine wpm_move _ rfl rfl ?_; go_simp
                refine wpm_run (.pointer (some ⟨gn, off + 1, none⟩)) rfl rfl (fun w' h' => ?_) ?_
                · go_simp
                go_simp
                refine wpm_run (.int .i64 (n1 : Nat)) rfl rfl (fun w' h' => ?_) ?_
                · have hc := RD.out w' h'.2
                  go_simp
                go_simp
                refine wpm_move _ rfl rfl ?_; go_simp
                refine wpm_run (.slice (some ⟨gn, off + 2, none⟩) (rs.length + 1) (c - 2)) rfl rfl (fun w' h' => ?_) ?_
                · go_simp
                  omega
                go_simp
                refine wpm_run (.agg #[.int .i64 (n1 : Nat), .slice (some ⟨gn, off + 2, none⟩) (rs.length + 1) (c - 2)]) rfl rfl (fun w' h' => ?_) ?_
                · go_simp
                go_simp
                refine wpm_step (fun v => v = undef) (fun _ w' => Holds w' w.heap.size 54 #[.int .i64 (n1 : Nat), .slice (some ⟨gn, off + 2, none⟩) (rs.length + 1) (c - 2)]) rfl rfl ⟨_, rfl⟩ (fun w' h' => ?_) ?_
                · obtain ⟨⟨x, y, hq⟩, hv⟩ := h'
                  have hcc0 := hq.cell 0
                  have hcc1 := hq.cell 1
                  have hff0 := hq.frozen 0
                  have hff1 := hq.frozen 1
                  have hst := (hq.set 0 (.int .i64 (n1 : Nat))).set 1 (.slice (some ⟨gn, off + 2, none⟩) (rs.length + 1) (c - 2))
                  have hst : Holds ((w'.setCell ⟨w.heap.size, 0, none⟩ (.int .i64 (n1 : Nat))).setCell ⟨w.heap.size, 1, none⟩ (.slice (some ⟨gn, off + 2, none⟩) (rs.length + 1) (c - 2))) w.heap.size 54 #[.int .i64 (n1 : Nat), .slice (some ⟨gn, off + 2, none⟩) (rs.length + 1) (c - 2)] := hst
                  have hgr : wr.grownBy ((w'.setCell ⟨w.heap.size, 0, none⟩ (.int .i64 (n1 : Nat))).setCell ⟨w.heap.size, 1, none⟩ (.slice (some ⟨gn, off + 2, none⟩) (rs.length + 1) (c - 2))) (some w.heap.size) := by
                    refine ⟨hv.os, hv.tape, hv.output, by have := hv.size; simp [World.setCell]; exact this, fun k hk hkg => ?_⟩
                    rw [Below.heap_setCell _ _ _ _ (by simpa using hkg), Below.heap_setCell _ _ _ _ (by simpa using hkg)]
                    exact hv.block k hk hkg
                  have HST := Lib.hid (And.intro hst hgr)
                  clear hst hgr hq hv
                  unfold stepAt
                  go_simp
                  exact ⟨rfl, ⟨⟨_, _, HST.out.1⟩, HST.out.2⟩, HST.out.1⟩
                rintro _ rfl
                go_simp
                refine wpm_assign _ rfl rfl ?_; go_simp
                refine wpm_nil ?_
                rintro w5 ⟨⟨_, hv⟩, hq⟩
                have hEnd : LetIs i h s.data.toList w (.returned (.tuple #[.agg #[.int .i64 (n1 : Nat), .slice (some ⟨gn, off + 2, none⟩) (rs.length + 1) (c - 2)], .int .i64 0])) w5 := by
                  unfold LetIs
                  rw [HE.out]
                  refine ⟨_, rfl, HRT.out.keep (fun g cs hg hh => ?_) hv.size, ?_⟩
                  · refine hh.grown hv ?_
                    intro e
                    have e' : g = w.heap.size := by simpa using e
                    subst e'
                    unfold Holds at hh qr
                    rw [qr] at hh
                    injection hh with hh
                    injection hh with _ hh
                    exact absurd hh (by decide)
                  · exact ⟨hv.os.trans B5.os, hv.tape.trans B5.tape, hv.output.trans B5.output, Nat.le_trans B5.size hv.size, fun k hk => (hv.block k (Nat.lt_of_lt_of_le hk B5.size) (by simp; omega)).trans (B5.block k hk)⟩
                have HEnd := Lib.hid hEnd
                clear hEnd hv HE HRT HL HROW
                go_wp2_with fail
                refine bodyPost_ret (results_row_tmp rfl _ _ w.heap.size 54 _ _ rfl hq Tryd.underlying54 rfl refGlyph_size) rfl ?_
                exact HEnd.out

end Go.Proofs.YtgjfebnafjpcaaaDoor
