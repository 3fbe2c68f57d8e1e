/-
  The contracts of the reference's Builtin and Letter.
-/
import Derived.Test.YtgjfebnafjpcaaaDoorMadeW
namespace Go.Proofs.YtgjfebnafjpcaaaDoor
open Go.RowKit
set_option maxRecDepth 100000

theorem RefFont.agg {w : World} {lo hi : Nat} {f : Ft} {v : Value} (h : RefFont w lo hi f v) : ∃ u, v = .agg #[.int .i64 (f.asc : Nat), .int .i64 (f.desc : Nat), u] ∧ u.oneCell' = true := by
  obtain ⟨u, xs, rfl, hown, _⟩ := h
  refine ⟨u, rfl, ?_⟩
  rcases hown.2 with ⟨rfl, _⟩ | ⟨_, _, _, rfl, _⟩ <;> rfl
/-- Below hi nothing has turned. -/
theorem RefFont.below {w w' : World} {lo hi hi' B : Nat} {f : Ft} {v : Value} (h : RefFont w lo hi f v) (hb : Below B w w') (hB : hi ≤ B) (hh : hi ≤ hi') : RefFont w' lo hi' f v := by
  obtain ⟨u, xs, rfl, hown, hlt, hG⟩ := h
  refine ⟨u, xs, rfl, ?_, fun g hg => by have := hlt g hg; omega, hG.keep (keep_below hb hB) hh⟩
  obtain ⟨q1, q2⟩ := hown
  refine ⟨q1, ?_⟩
  rcases q2 with q2 | ⟨g', cap', cur, hq, r1, r2, r3⟩
  · exact .inl q2
  · refine .inr ⟨g', cap', cur, hq, r1, ?_, r3⟩
    rw [hb.block g' (by have := hlt g' (by rw [hq]; rfl); omega)]
    exact r2
/-- A row of another type was written. -/
theorem RefFont.setRow {w : World} {lo hi : Nat} {f : Ft} {v : Value} {g : Nat} {old : Array Value} (h : RefFont w lo hi f v) (hg : Holds w g 33 old) (cs : Array Value) : RefFont (w.setRow g cs) lo hi f v := by
  obtain ⟨u, xs, rfl, hown, hlt, hG⟩ := h
  have hgr : w.grownBy (w.setRow g cs) (some g) := ⟨rfl, rfl, rfl, by simp, fun k _ hk => setRow_other _ _ _ _ (fun e => hk (by rw [e]))⟩
  refine ⟨u, xs, rfl, hown.kept hgr (.inr fun e => own_type hown (e' := 33) (by decide) _ _ e hg), hlt, hG.keep (keep_grown hgr ?_) (Nat.le_refl _)⟩
  intro g' cs' e hh
  injection e with e
  subst e
  unfold Holds at hh hg
  rw [hg] at hh
  injection hh with hh
  injection hh with _ hh
  exact absurd hh (by decide)

theorem RefFont.low {w : World} {lo lo' hi : Nat} {f : Ft} {v : Value} (h : RefFont w lo hi f v) (hl : lo' ≤ lo) : RefFont w lo' hi f v := by
  obtain ⟨u, xs, rfl, hown, hlt, hG⟩ := h
  refine ⟨u, xs, rfl, ?_, hlt, hG⟩
  obtain ⟨q1, q2⟩ := hown
  refine ⟨q1, ?_⟩
  rcases q2 with q2 | ⟨g', cap', cur, hq, r1, r2⟩
  · exact .inl q2
  · exact .inr ⟨g', cap', cur, hq, by omega, r2⟩
theorem RefFont.more {w : World} {lo hi hi' : Nat} {f : Ft} {v : Value} (h : RefFont w lo hi f v) (hh : hi ≤ hi') : RefFont w lo hi' f v := by
  obtain ⟨u, xs, rfl, hown, hlt, hG⟩ := h
  exact ⟨u, xs, rfl, hown, fun g hg => by have := hlt g hg; omega, hG.keep (fun _ _ _ h => h) hh⟩
theorem RefFont.none (w : World) (lo hi : Nat) : RefFont w lo hi Ft.none (.agg #[.int .i64 0, .int .i64 0, .slice none 0 0]) :=
  ⟨.slice .none 0 0, [], rfl, World.ownsRow_nil _ _ _ _, fun g hg => by simp [Value.ownBlock] at hg, trivial⟩

set_option maxHeartbeats 1000000 in
theorem refBuiltin_any (name : ByteArray) (w : World) : Calls Tryd.prog 10 #[.string name] w (MadeEnd w (builtin name.data.toList)) := by
  rw [← ByteArray.toList_eq]
  by_cases h1 : name.toList = tinyName
  · have e1 : builtin name.toList = tiny := by unfold builtin; rw [if_pos h1]
    rw [e1]
    have g1 : (name.toList == [116, 105, 110, 121]) = true := by rw [h1]; rfl
    clear h1 e1
    go_enter Tryd.func10, Tryd.ntmps10
    go_wp2_with fail
    refine (made_tiny _).mono ?_
    rintro e w1 ⟨v, rfl, hR, hb⟩
    obtain ⟨u, rfl, hu⟩ := hR.agg
    have q := (Holds.new w 33 #[.int .i64 0, .int .i64 0, .slice none 0 0]).below hb (by simp)
    have hu1 := one_font (tiny.asc : Nat) (tiny.desc : Nat) u hu
    go_wp2_with ((with_reducible apply wpl_storeRow (t := 33)) <;> try (first | exact rfl | exact q | exact refFont_size | exact hu1))
    refine bodyPost_ret (results_cell_row rfl _ _ w.heap.size 33 _ _ _ rfl (q.row #[.int .i64 (tiny.asc : Nat), .int .i64 (tiny.desc : Nat), u]) Tryd.underlying33 rfl refFont_size) rfl ?_
    refine ⟨_, rfl, ?_, below_setRow (((Below.refl _ _).alloc (Nat.le_refl _) _).trans (hb.mono (by simp))) (Nat.le_refl _) _⟩
    refine ((hR.low (by simp)).setRow q _).more ?_
    simp
  · have g1 : (name.toList == [116, 105, 110, 121]) = false := by simpa [tinyName] using h1
    by_cases h2 : name.toList = wideName
    · have e1 : builtin name.toList = wide := by unfold builtin; rw [if_neg h1, if_pos h2]
      rw [e1]
      have g2 : (name.toList == [119, 105, 100, 101]) = true := by rw [h2]; rfl
      clear h1 h2 e1
      go_enter Tryd.func10, Tryd.ntmps10
      go_wp2_with fail
      refine (made_wide _).mono ?_
      rintro e w1 ⟨v, rfl, hR, hb⟩
      obtain ⟨u, rfl, hu⟩ := hR.agg
      have q := (Holds.new w 33 #[.int .i64 0, .int .i64 0, .slice none 0 0]).below hb (by simp)
      have hu1 := one_font (wide.asc : Nat) (wide.desc : Nat) u hu
      go_wp2_with ((with_reducible apply wpl_storeRow (t := 33)) <;> try (first | exact rfl | exact q | exact refFont_size | exact hu1))
      refine bodyPost_ret (results_cell_row rfl _ _ w.heap.size 33 _ _ _ rfl (q.row #[.int .i64 (wide.asc : Nat), .int .i64 (wide.desc : Nat), u]) Tryd.underlying33 rfl refFont_size) rfl ?_
      refine ⟨_, rfl, ?_, below_setRow (((Below.refl _ _).alloc (Nat.le_refl _) _).trans (hb.mono (by simp))) (Nat.le_refl _) _⟩
      refine ((hR.low (by simp)).setRow q _).more ?_
      simp
    · have e1 : builtin name.toList = Ft.none := by unfold builtin; rw [if_neg h1, if_neg h2]
      rw [e1]
      have g2 : (name.toList == [119, 105, 100, 101]) = false := by simpa [wideName] using h2
      clear h1 h2 e1
      go_enter Tryd.func10, Tryd.ntmps10
      go_wp2
      refine bodyPost_ret (results_cell_row rfl _ _ w.heap.size 33 _ _ _ rfl (Holds.new w _ _) Tryd.underlying33 rfl refFont_size) rfl ?_
      exact ⟨_, rfl, RefFont.none _ _ _, (Below.refl _ _).alloc (Nat.le_refl _) _⟩

theorem own_form {w : World} {base n size : Nat} {e : TypeId} {v : Value} {xs : List Value} (h : w.ownsRow base e size v n xs) (hn : 0 < n) : ∃ g cap, v = .slice (some ⟨g, 0, none⟩) n cap ∧ g < w.heap.size ∧ n ≤ cap := by
  rcases h.2 with ⟨_, h0⟩ | ⟨g, cap, cur, hv, _, hg, hc, _⟩
  · omega
  · exact ⟨g, cap, hv, (Array.getElem?_eq_some_iff.1 hg).1, hc⟩

/-- What the reference's Letter hands back: how wide, and rows that read so. -/
def LetterIs (l : Lt) (w : World) (e : Ending) (w' : World) : Prop :=
  ∃ u, e = .returned (.agg #[.int .i64 (l.w : Nat), u]) ∧ IntRow w w.heap.size u (l.rows.map Int.ofNat) ∧ Below w.heap.size w w'

set_option maxHeartbeats 1000000 in
theorem refLetter_any (f : Ft) (hf : f.Good) (v : Value) (lo hi : Nat) (b : Nat) (hb : b < 256) (w : World) (hR : RefFont w lo hi f v) (hhi : hi ≤ w.heap.size) :
    Calls Tryd.prog 27 #[v, .int .u8 (b : Int)] w (LetterIs (f.letter b) w) := by
  obtain ⟨u, xs, rfl, hown, hlt, hG⟩ := hR
  have hp := placeOf_lt b
  have hlen : placeOf b < f.ls.length := by rw [hf.all]; exact hp
  have hl : f.ls[placeOf b]? = some (f.letter b) := by
    unfold Ft.letter
    rw [List.getD_eq_getElem?_getD, List.getElem?_eq_getElem hlen]
    rfl
  obtain ⟨hx0, uv, hx1, hr⟩ := hG.get hl
  obtain ⟨g, cap, rfl, hg, _⟩ := own_form hown (by rw [hf.all]; omega)
  have hc0 : w.cell? ⟨g, 2 * placeOf b, none⟩ = some (.int .i64 ((f.letter b).w : Nat)) := (hown.cellAt _ (by omega)).trans hx0
  have hc1 : w.cell? ⟨g, 2 * placeOf b + 1, none⟩ = some uv := (hown.cellAt _ (by omega)).trans hx1
  obtain ⟨A, cu, hu⟩ := hr.form
  rw [List.length_map] at hu
  subst hu
  rw [hf.all] at *
  have hB : Below w.heap.size w ((w.alloc (.cells #[.int .i64 (f.asc : Nat), .int .i64 (f.desc : Nat), .slice (some ⟨g, 0, none⟩) 95 cap] 33)).alloc (.cells #[.int .i64 ((f.letter b).w : Nat), .slice A (f.letter b).rows.length cu] 54)) := ((Below.refl _ _).alloc (Nat.le_refl _) _).alloc (by simp) _
  have hr' : IntRow w w.heap.size (.slice A (f.letter b).rows.length cu) ((f.letter b).rows.map Int.ofNat) := hr.keep (fun _ _ _ h => h) hhi
  have HR := Lib.hid hr'
  have HB := Lib.hid hB
  clear hr hr' hB hG hown hl hx0 hx1 hlt
  by_cases h1 : b < 32 ∨ 126 < b
  · have hpl : placeOf b = 31 := by unfold placeOf; rw [if_pos h1]
    rw [hpl] at hc0 hc1
    simp only [Nat.reduceMul, Nat.reduceAdd] at hc0 hc1
    clear hpl hp hlen
    rcases h1 with h1 | h1
    all_goals
      go_enter Tryd.func27, Tryd.ntmps27
      go_wp2
      refine bodyPost_ret (results_cell_row rfl _ _ (w.heap.size + 1) 54 _ _ _ rfl (heap_alloc2_new w _ _) Tryd.underlying54 rfl refGlyph_size) rfl ?_
      exact ⟨_, rfl, HR.out, HB.out⟩
  · have hpl : placeOf b = b - 32 := by unfold placeOf; rw [if_neg h1]
    rw [hpl, Nat.mul_comm] at hc0 hc1
    have h2 : 32 ≤ b := by omega
    have h3 : b ≤ 126 := by omega
    clear hpl hp hlen h1
    go_enter Tryd.func27, Tryd.ntmps27
    go_wp2
    refine bodyPost_ret (results_cell_row rfl _ _ (w.heap.size + 1) 54 _ _ _ rfl (heap_alloc2_new w _ _) Tryd.underlying54 rfl refGlyph_size) rfl ?_
    exact ⟨_, rfl, HR.out, HB.out⟩

/-- Of the zero font. -/
theorem refLetter_none (b : Nat) (A : Option Addr) (c : Nat) (w : World) :
    Calls Tryd.prog 27 #[.agg #[.int .i64 0, .int .i64 0, .slice A 0 c], .int .u8 (b : Int)] w fun e w' => e = .returned (.agg #[.int .i64 0, .slice none 0 0]) ∧ Below w.heap.size w w' := by
  go_enter Tryd.func27, Tryd.ntmps27
  go_wp2
  refine bodyPost_ret (results_cell_row rfl _ _ (w.heap.size + 1) 54 _ _ _ rfl (heap_alloc2_new w _ _) Tryd.underlying54 rfl refGlyph_size) rfl ?_
  exact ⟨rfl, ((Below.refl _ _).alloc (Nat.le_refl _) _).alloc (by simp) _⟩

/-- At a font that may be. -/
theorem refLetter_fine (f : Ft) (hf : f.Fine) (v : Value) (lo hi : Nat) (b : Nat) (hb : b < 256) (w : World) (hR : RefFont w lo hi f v) (hhi : hi ≤ w.heap.size) :
    Calls Tryd.prog 27 #[v, .int .u8 (b : Int)] w (LetterIs (f.letter b) w) := by
  rcases hf with hf | rfl
  · exact refLetter_any f hf v lo hi b hb w hR hhi
  · obtain ⟨u, xs, rfl, hown, _, _⟩ := hR
    have hu : ∃ A c, u = .slice A 0 c := by
      rcases hown.2 with ⟨h, _⟩ | ⟨g, cap, cur, rfl, _⟩
      · exact ⟨_, _, h⟩
      · exact ⟨_, _, rfl⟩
    obtain ⟨A, c, rfl⟩ := hu
    refine (refLetter_none b A c w).mono ?_
    rintro e w' ⟨rfl, hb⟩
    rw [Ft.none_letter]
    exact ⟨.slice none 0 0, rfl, .inl ⟨rfl, _, _, rfl⟩, hb⟩

end Go.Proofs.YtgjfebnafjpcaaaDoor
