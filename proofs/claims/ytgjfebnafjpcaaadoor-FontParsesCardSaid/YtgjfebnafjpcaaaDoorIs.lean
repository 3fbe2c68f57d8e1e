/-
  The contract of is: the program's font and the reference's, where they are one font.
-/
import Derived.Test.YtgjfebnafjpcaaaDoorText
import Derived.Test.YtgjfebnafjpcaaaDoorRefText
namespace Go.Proofs.YtgjfebnafjpcaaaDoor
open Go.RowKit
set_option maxRecDepth 100000

/-- A letter's value, whichever font it is of. -/
def LetterV (l : Lt) (v : Value) (w : World) : Prop := ∃ u, v = .agg #[.int .i64 (l.w : Nat), u] ∧ IntRow w w.heap.size u (l.rows.map Int.ofNat)
theorem LetterV.below {l : Lt} {v : Value} {w w' : World} (h : LetterV l v w) (hb : Below w.heap.size w w') : LetterV l v w' := by
  obtain ⟨u, rfl, h⟩ := h
  exact ⟨u, rfl, h.keep (keep_below hb (Nat.le_refl _)) hb.size⟩
theorem glyph_v (f : Ft) (hf : f.Fine) (b : Nat) (hb : b < 256) (w : World) :
    Calls Tryd.prog 13 #[.agg (fcells f.cell), .int .u8 (b : Int)] w fun e w' => ∃ v, e = .returned v ∧ LetterV (f.letter b) v w' ∧ Below w.heap.size w w' := by
  rcases hf with hf | rfl
  · refine (glyph_any f hf b hb w).mono ?_
    rintro e w' ⟨g, he, hg, hh, hB⟩
    refine ⟨_, he, ⟨_, rfl, ?_⟩, hB⟩
    refine .inr ⟨g, 0, (f.letter b).rows.length, _, by rw [List.length_map], hh.lt, by rw [List.length_map]; exact Nat.le_refl _, hh, fun i z hz => ?_⟩
    rw [Nat.zero_add]
    exact ints_get _ _ _ hz
  · refine (glyph_none b w).mono ?_
    rintro e w' ⟨he, hB⟩
    rw [Ft.none_letter]
    exact ⟨_, he, ⟨_, rfl, .inl ⟨rfl, _, _, rfl⟩⟩, hB⟩
theorem letter_v (f : Ft) (hf : f.Fine) (v : Value) (lo hi : Nat) (b : Nat) (hb : b < 256) (w : World) (hR : RefFont w lo hi f v) (hhi : hi ≤ w.heap.size) :
    Calls Tryd.prog 27 #[v, .int .u8 (b : Int)] w fun e w' => ∃ v, e = .returned v ∧ LetterV (f.letter b) v w' ∧ Below w.heap.size w w' := by
  refine (refLetter_fine f hf v lo hi b hb w hR hhi).mono ?_
  rintro e w' ⟨u, he, hr, hB⟩
  exact ⟨_, he, ⟨u, rfl, hr.keep (keep_below hB (Nat.le_refl _)) hB.size⟩, hB⟩

theorem Ft.letter_rows {f : Ft} (h : f.Fine) (b : Nat) : (f.letter b).rows.length ≤ 65536 := by
  rcases h with h | rfl
  · have := h.rows _ (Ft.letter_mem h b)
    have := h.top
    omega
  · rw [Ft.none_letter]; simp [Lt.none]

set_option maxHeartbeats 4000000 in
theorem is_any (f : Ft) (hf : f.Fine) (v : Value) (lo hi : Nat) (w : World) (hR : RefFont w lo hi f v) (hhi : hi ≤ w.heap.size) (ht : Tab w.heap.size w) :
    Calls Tryd.prog 11 #[.agg (fcells f.cell), v] w fun e w' => e = .returned (.bool true) ∧ Below w.heap.size w w' := by
  obtain ⟨u, rfl, hu⟩ := hR.agg
  clear hu
  go_enter Tryd.func11, Tryd.ntmps11
  go_wp2_with fail
  generalize hW : ((w.alloc (Obj.cells (fcells f.cell) 28)).alloc (Obj.cells #[Value.int IntKind.i64 (f.asc : Nat), Value.int IntKind.i64 (f.desc : Nat), u] 33)) = W
  have q1 : Holds W w.heap.size 28 (fcells f.cell) := by subst hW; exact heap_alloc2_old _ _ _
  have q2 : Holds W (w.heap.size + 1) 33 #[Value.int IntKind.i64 (f.asc : Nat), Value.int IntKind.i64 (f.desc : Nat), u] := by subst hW; exact heap_alloc2_new _ _ _
  have B0 : Below w.heap.size w W := by subst hW; exact ((Below.refl _ _).alloc (Nat.le_refl _) _).alloc (by simp) _
  have z2 := q2.lt
  have hR' : RefFont W lo hi f (.agg #[.int .i64 (f.asc : Nat), .int .i64 (f.desc : Nat), u]) := hR.below B0 hhi (Nat.le_refl _)
  have t0 : Tab W.heap.size W := (ht.on B0).mono (by omega)
  clear hW hR ht
  refine wp_region_grows (by kernel_rfl) (by kernel_rfl) ?_
  refine wpq_loadFont _ w.heap.size f.cell rfl rfl (fun w' h' => Grows.holds h' q1) ?_; go_simp
  refine wpq_step (v := .int .i64 (f.asc : Nat)) rfl (fun w' h' => ?_) ?_
  · unfold Oper.quietAt; go_simp
    exact (ascent_any f.cell w').mono fun e w5 ⟨he, hb⟩ => ⟨he, Grows.trans h' hb⟩
  go_simp
  refine wpq_step (v := .pointer (some ⟨w.heap.size + 1, 0, none⟩)) rfl (fun w' h' => ?_) ?_
  · unfold Oper.quietAt; go_simp; try exact ⟨rfl, rfl⟩
  go_simp
  refine wpq_step (v := .int .i64 (f.asc : Nat)) rfl (fun w' h' => ?_) ?_
  · have hc := (Grows.holds h' q2).cell 0
    simp at hc
    unfold Oper.quietAt; go_simp; try exact ⟨rfl, rfl⟩
  go_simp
  refine wpq_step (v := .bool false) rfl (fun w' h' => ?_) ?_
  · unfold Oper.quietAt; go_simp; try exact ⟨rfl, rfl⟩
  go_simp
  refine wpq_move _ rfl ?_; go_simp
  refine wpq_loadFont _ w.heap.size f.cell rfl rfl (fun w' h' => Grows.holds h' q1) ?_; go_simp
  refine wpq_step (v := .int .i64 (f.desc : Nat)) rfl (fun w' h' => ?_) ?_
  · unfold Oper.quietAt; go_simp
    exact (descent_any f.cell w').mono fun e w5 ⟨he, hb⟩ => ⟨he, Grows.trans h' hb⟩
  go_simp
  refine wpq_step (v := .pointer (some ⟨w.heap.size + 1, 1, none⟩)) rfl (fun w' h' => ?_) ?_
  · unfold Oper.quietAt; go_simp; try exact ⟨rfl, rfl⟩
  go_simp
  refine wpq_step (v := .int .i64 (f.desc : Nat)) rfl (fun w' h' => ?_) ?_
  · have hc := (Grows.holds h' q2).cell 1
    simp at hc
    unfold Oper.quietAt; go_simp; try exact ⟨rfl, rfl⟩
  go_simp
  refine wpq_step (v := .bool false) rfl (fun w' h' => ?_) ?_
  · unfold Oper.quietAt; go_simp; try exact ⟨rfl, rfl⟩
  go_simp
  refine wpq_step (v := .bool false) rfl (fun w' h' => ?_) ?_
  · unfold Oper.quietAt; go_simp; try exact ⟨rfl, rfl⟩
  go_simp
  refine wpq_nil ?_
  intro w1 h1
  go_wp2_with fail
  have hB1 : Grows W w1 := h1
  clear h1
  go_loopw [5] (fun i wr => ∃ b : Nat, b ≤ 256 ∧ i = .int .i64 b ∧ Grows W wr) (fun i _ => 256 - (intOf i).toNat)
  case atStart => exact ⟨0, by omega, rfl, hB1⟩
  case round =>
    obtain ⟨b, hb, rfl, hB⟩ := hrel
    clear hB1
    by_cases hlt : b < 256
    · have hb0 : (0 : Int) ≤ (b : Int) := by omega
      have hb1 : (b : Int) ≤ 255 := by omega
      have hwr : IntKind.u8.wrap (b : Int) = (b : Int) := IntWalk.u8_in _ (by omega)
      go_wp2_with fail
      refine wp_region_mix [3, 7, 8] (by kernel_rfl) (by kernel_rfl) (by kernel_rfl) (by kernel_rfl) ?_
      refine wpm_loadFont _ w.heap.size f.cell rfl rfl rfl (fun w' h' => Grows.holds (Grows.trans hB h') q1) ?_; go_simp
      refine wpm_move _ rfl rfl ?_; go_simp
      refine wpm_run (.int .u8 (b : Int)) rfl rfl (fun w' h' => ?_) ?_
      · go_simp
      go_simp
      refine wpm_step (fun v => ∃ u, v = .agg #[.int .i64 ((f.letter b).w : Nat), u]) (fun v w' => LetterV (f.letter b) v w') rfl rfl ⟨_, undef, rfl⟩ (fun w' h' => ?_) ?_
      · unfold stepAt
        go_simp
        refine (glyph_v f hf b hlt w').mono ?_
        rintro e w5 ⟨v, rfl, hv, h5⟩
        have hu := hv
        obtain ⟨u5, he, _⟩ := hu
        exact ⟨v, rfl, ⟨u5, he⟩, Grows.trans h' h5, hv⟩
      rintro _ ⟨u5, rfl⟩
      go_simp
      refine wpm_loadRow _ (w.heap.size + 1) 33 _ _ rfl rfl rfl (fun w' h' => Grows.holds (Grows.trans hB h') q2) Tryd.underlying33 rfl rfl ?_; go_simp
      refine wpm_move _ rfl rfl ?_; go_simp
      refine wpm_run (.int .u8 (b : Int)) rfl rfl (fun w' h' => ?_) ?_
      · go_simp
      go_simp
      refine wpm_step (fun v => ∃ u, v = .agg #[.int .i64 ((f.letter b).w : Nat), u]) (fun v w' => LetterV (f.letter b) v w') rfl rfl ⟨_, undef, rfl⟩ (fun w' h' => ?_) ?_
      · obtain ⟨h', hv0⟩ := h'
        have hg := Grows.trans hB h'
        unfold stepAt
        go_simp
        refine (letter_v f hf _ lo W.heap.size b hlt w' (hR'.below hg (by omega) (by omega)) (Below.size hg)).mono ?_
        rintro e w5 ⟨v, rfl, hv, h5⟩
        have hu := hv
        obtain ⟨u6, he, _⟩ := hu
        have h6 := Grows.trans h' h5
        exact ⟨v, rfl, ⟨u6, he⟩, h6, ⟨h6, hv0.below h5⟩, hv⟩
      rintro _ ⟨u6, rfl⟩
      go_simp
      refine wpm_step (fun v => v = .bool true) (fun _ _ => True) rfl rfl ⟨_, rfl⟩ (fun w' h' => ?_) ?_
      · obtain ⟨⟨h', hv0⟩, hv1⟩ := h'
        obtain ⟨x, hx, hr0⟩ := hv0
        obtain ⟨y, hy, hr1⟩ := hv1
        have hv0 : LetterV (f.letter b) (.agg #[.int .i64 ((f.letter b).w : Nat), u5]) w' := ⟨x, hx, hr0⟩
        have hv1 : LetterV (f.letter b) (.agg #[.int .i64 ((f.letter b).w : Nat), u6]) w' := ⟨y, hy, hr1⟩
        obtain rfl : u5 = x := by simpa using hx
        obtain rfl : u6 = y := by simpa using hy
        unfold stepAt
        go_simp
        refine (same_any (f.letter b) (Ft.letter_rows hf b) u5 u6 w' hr0 hr1).mono ?_
        rintro e w5 ⟨rfl, h5⟩
        have h6 := Grows.trans h' h5
        exact ⟨_, rfl, rfl, h6, ⟨h6, hv0.below h5⟩, hv1.below h5⟩
      rintro _ rfl
      go_simp
      refine wpm_run (.bool false) rfl rfl (fun w' h' => ?_) ?_
      · go_simp
      go_simp
      refine wpm_nil ?_
      rintro w5 ⟨⟨h5, -⟩, -⟩
      go_wp2
      go_roundw
      case rel => exact ⟨b + 1, by omega, by go_num, Grows.trans hB h5⟩
      case measure => simp [intOf]; omega
    · have hb' : b = 256 := by omega
      subst hb'
      go_wp2_with fail
      refine wp_region_grows (by kernel_rfl) (by kernel_rfl) ?_
      refine wpq_loadFont _ w.heap.size f.cell rfl rfl (fun w' h' => Grows.holds (Grows.trans hB h') q1) ?_; go_simp
      refine wpq_step (v := .string ⟨f.text.toArray⟩) rfl (fun w' h' => ?_) ?_
      · unfold Oper.quietAt; go_simp
        have hg := Grows.trans hB h'
        exact (text_fine f hf w' ((t0.on hg).mono (Below.size hg))).mono fun e w5 ⟨he, hb⟩ => ⟨he, Grows.trans h' hb⟩
      go_simp
      refine wpq_loadRow _ (w.heap.size + 1) 33 _ _ rfl rfl (fun w' h' => Grows.holds (Grows.trans hB h') q2) Tryd.underlying33 rfl rfl ?_; go_simp
      refine wpq_step (v := .string ⟨f.text.toArray⟩) rfl (fun w' h' => ?_) ?_
      · unfold Oper.quietAt; go_simp
        have hg := Grows.trans hB h'
        exact (refText_fine f hf _ lo W.heap.size w' (hR'.below hg (by omega) (by omega)) (Below.size hg)).mono fun e w5 ⟨he, hb⟩ => ⟨he, Grows.trans h' hb⟩
      go_simp
      refine wpq_step (v := .bool true) rfl (fun w' h' => ?_) ?_
      · unfold Oper.quietAt; go_simp; try exact ⟨rfl, rfl⟩
      go_simp
      refine wpq_assign _ rfl ?_; go_simp
      refine wpq_nil ?_
      intro w2 h2
      go_wp2_with fail
      go_ret
      exact ⟨rfl, B0.trans ((Grows.trans hB h2).mono (by omega))⟩

end Go.Proofs.YtgjfebnafjpcaaaDoor
