/-
  The contracts of strings.CutPrefix at the word of the first line, and of the program's head.
-/
import Derived.Test.YtgjfebnafjpcaaaDoorNums
import Derived.Test.YtgjfebnafjpcaaaDoorMix
namespace Go.Proofs.YtgjfebnafjpcaaaDoor
open Go.RowKit
set_option maxRecDepth 100000

theorem loop_eq (x : ByteArray) : ∀ (n i : Nat) (r : List UInt8), x.size - i = n → ByteArray.toList.loop x i r = r.reverse ++ x.data.toList.drop i := by
  intro n
  induction n with
  | zero =>
    intro i r h
    unfold ByteArray.toList.loop
    rw [if_neg (by omega), List.drop_eq_nil_of_le (by
      have : x.data.toList.length = x.size := by simp
      omega), List.append_nil]
  | succ n ih =>
    intro i r h
    have hl : i < x.data.toList.length := by
      have : x.data.toList.length = x.size := by simp
      omega
    unfold ByteArray.toList.loop
    rw [if_pos (by omega), ih _ _ (by omega), List.drop_eq_getElem_cons hl, List.reverse_cons, List.append_assoc]
    congr 1
    have hg : x.get! i = x.data.toList[i] := by
      have h2 : i < x.data.size := by simpa using hl
      show x.data[i]! = _
      rw [getElem!_pos x.data i h2]
      simp
    rw [hg]
    rfl
theorem toList_eq (x : ByteArray) : x.toList = x.data.toList := by
  have := loop_eq x x.size 0 [] (by omega)
  simpa [ByteArray.toList] using this
theorem extract_list (s : ByteArray) (a b : Nat) : (s.extract a b).data.toList = (s.data.toList.take b).drop a := by
  rw [Lib.extract_data]
  simp [List.drop_take]

/-- strings.CutPrefix at the word that a font's text begins with, and a blank. -/
theorem cutPrefix_any (s : ByteArray) (w : World) :
    Calls Tryd.prog 44 #[.string s, .string ⟨#[102, 111, 110, 116, 32]⟩] w fun e w' =>
      ((∃ r : List UInt8, s.data.toList = fontWord ++ 32 :: r ∧ e = .returned (.tuple #[.string ⟨r.toArray⟩, .bool true])) ∨
       ((∀ r : List UInt8, s.data.toList ≠ fontWord ++ 32 :: r) ∧ e = .returned (.tuple #[.string s, .bool false]))) ∧ Below w.heap.size w w' := by
  have hsl : s.data.toList.length = s.size := by simp
  by_cases h : s.size < 5
  · have d : decide ((5 : Int) ≤ (s.size : Int)) = false := by simp; omega
    have hno : ∀ r : List UInt8, s.data.toList ≠ fontWord ++ 32 :: r := fun r e => by
      rw [e] at hsl
      simp [fontWord] at hsl
      omega
    go_enter Tryd.func44, Tryd.ntmps44
    go_wp2
    go_ret2
    exact ⟨.inr ⟨hno, rfl⟩, Below.refl _ _⟩
  · have d : decide ((5 : Int) ≤ (s.size : Int)) = true := by simp; omega
    have he : (s.extract 0 5).toList = s.data.toList.take 5 := by rw [toList_eq, extract_list]; simp
    have hr : (⟨(s.data.toList.drop 5).toArray⟩ : ByteArray) = s.extract 5 s.size := by
      apply ByteArray.ext
      apply Array.ext'
      rw [extract_list, List.take_of_length_le (by omega)]
    by_cases hp : s.data.toList.take 5 = [102, 111, 110, 116, 32]
    · have hb : ((s.extract 0 5).toList == [102, 111, 110, 116, 32]) = true := by rw [he, hp]; rfl
      have hyes : s.data.toList = fontWord ++ 32 :: s.data.toList.drop 5 := by
        conv => lhs; rw [← List.take_append_drop 5 s.data.toList, hp]
        rfl
      have HY := Lib.hid hyes
      have HR := Lib.hid hr
      clear hyes hr he hp hsl
      go_enter Tryd.func44, Tryd.ntmps44
      go_wp2
      go_ret2
      exact ⟨.inl ⟨_, HY.out, by rw [HR.out]; rfl⟩, Below.refl _ _⟩
    · have hb : ((s.extract 0 5).toList == [102, 111, 110, 116, 32]) = false := by
        rw [he]
        simpa using hp
      have hno : ∀ r : List UInt8, s.data.toList ≠ fontWord ++ 32 :: r := fun r e => hp (by rw [e]; rfl)
      have HN := Lib.hid hno
      clear hno hr he hp hsl
      go_enter Tryd.func44, Tryd.ntmps44
      go_wp2
      go_ret2
      exact ⟨.inr ⟨HN.out, rfl⟩, Below.refl _ _⟩

/-- A font with no letters yet. -/
def bare (a d : Int) (i : Nat) : Int := if i = 0 then a else if i = 1 then d else 0
theorem bare_set0 (a d x : Int) : (fcells (bare a d)).setIfInBounds 0 (.int .i64 x) = fcells (bare x d) := by
  rw [fcells_set]
  congr 1
  funext j
  unfold bare
  by_cases h : j = 0 <;> simp [h]
theorem bare_set1 (a d x : Int) : (fcells (bare a d)).setIfInBounds 1 (.int .i64 x) = fcells (bare a x) := by
  rw [fcells_set]
  congr 1
  funext j
  unfold bare
  by_cases h : j = 1 <;> simp [h]
theorem bare_same {w : World} {g : Nat} {t : TypeId} {x y a b : Int} (h : Holds w g t (fcells (bare x y))) (h' : Holds w g t (fcells (bare a b))) : x = a ∧ y = b := by
  have e0 := (h.cell 0).symm.trans (h'.cell 0)
  have e1 := (h.cell 1).symm.trans (h'.cell 1)
  rw [fcells_get _ _ (by omega), fcells_get _ _ (by omega)] at e0 e1
  unfold bare at e0 e1
  simp at e0 e1
  exact ⟨e0, e1⟩
theorem bare_cell (a d : Nat) : fcells (bare a d) = fcells (Ft.cell ⟨a, d, []⟩) := by
  apply fcells_ext
  intro i _
  unfold bare Ft.cell
  by_cases h0 : i = 0
  · simp [h0]
  · by_cases h1 : i = 1
    · simp [h1]
    · rw [if_neg h0, if_neg h1, if_neg h0, if_neg h1]
      simp [Lt.none]

theorem headOf_yes (r : List UInt8) : headOf (fontWord ++ 32 :: r) = match numsOf (split 32 r) with
    | some [a, b] => if 16 < a ∨ 16 < b ∨ a + b < 1 ∨ 16 < a + b then .error 1 else .ok (a, b)
    | _ => .error 2 := by
  unfold headOf
  rw [split_hit 32 fontWord r (by decide)]
  rw [List.headD_cons, if_pos rfl, List.tail_cons]
  rcases numsOf (split 32 r) with _ | ⟨_ | ⟨a, _ | ⟨b, _ | ⟨c, l⟩⟩⟩⟩ <;> rfl
theorem headOf_no (l : List UInt8) (h : ∀ r : List UInt8, l ≠ fontWord ++ 32 :: r) : headOf l = .error 2 := by
  unfold headOf
  rcases index_one 32 l with ⟨hm, _⟩ | ⟨a, b, rfl, ha, _⟩
  · rw [split_miss 32 l hm, List.headD_cons, List.tail_cons]
    split <;> rfl
  · rw [split_hit 32 a b ha, List.headD_cons, List.tail_cons]
    by_cases hf : a = fontWord
    · exact absurd (by rw [hf]) (h b)
    · rw [if_neg hf]

theorem row_apart {w : World} {hi gn off n c g : Nat} {zs : List Int} {t : TypeId} {cs : Array Value} (h : IntRow w hi (.slice (some ⟨gn, off, none⟩) n c) zs) (hz : zs ≠ []) (hg : Holds w g t cs) (ht : t ≠ 3) : gn ≠ g := by
  rcases h with ⟨h, _⟩ | ⟨g', off', cap, cs', hv, _, _, hh, _⟩
  · exact absurd h hz
  · have e : gn = g' := by
      have := (Value.slice.inj hv).1
      simp at this
      exact this.1
    subst e
    intro e
    subst e
    unfold Holds at hg hh
    rw [hg] at hh
    injection hh with hh
    injection hh with _ h2 _
    exact ht h2

/-- What head leaves of the font in block g. -/
def HeadIs (line : List UInt8) (g : Nat) (w : World) (e : Ending) (w' : World) : Prop :=
  match headOf line with
  | .error c => e = .returned (.int .i64 (c : Int)) ∧ Below w.heap.size w w'
  | .ok (a, b) => e = .returned (.int .i64 0) ∧ Holds w' g 28 (fcells (Ft.cell ⟨a, b, []⟩)) ∧ w.grownBy w' (some g)

set_option maxHeartbeats 4000000 in
theorem head_any (s : ByteArray) (g : Nat) (w : World) (hg : Holds w g 28 (fcells (bare 0 0))) (hs : s.size ≤ 70000) (hm : MaxL w) :
    Calls Tryd.prog 29 #[.pointer (some ⟨g, 0, none⟩), .string s] w (HeadIs s.data.toList g w) := by
  go_enter Tryd.func29, Tryd.ntmps29
  go_wp2_with fail
  refine (cutPrefix_any s _).mono ?_
  rintro e w1 ⟨h | ⟨hno, rfl⟩, b1⟩
  · obtain ⟨r, hr, rfl⟩ := h
    have hh := headOf_yes r
    rw [← hr] at hh
    have hrs : (⟨r.toArray⟩ : ByteArray).size ≤ 70000 := by
      have h1 : s.data.toList.length = s.size := by simp
      rw [hr] at h1
      have h2 : (⟨r.toArray⟩ : ByteArray).size = r.length := List.size_toArray
      simp [fontWord] at h1
      omega
    have HH := Lib.hid hh
    clear hr hh
    go_wp2_with fail
    refine (numbers_any ⟨r.toArray⟩ _ hrs (hm.on b1)).mono ?_
    rintro e w2 ⟨h2, b2⟩
    rw [show (⟨r.toArray⟩ : ByteArray).data.toList = r by simp] at h2
    have B2 : Below w.heap.size w w2 := b1.trans (b2.mono b1.size)
    have hm3 : ∀ n, headOf s.data.toList = .error 1 → HeadIs s.data.toList g w (.returned (.int .i64 1)) (w2.drewN n) := fun n hc => by
      unfold HeadIs
      rw [hc]
      exact ⟨rfl, below_drewN B2 n⟩
    have hm2 : ∀ c, headOf s.data.toList = .error c → HeadIs s.data.toList g w (.returned (.int .i64 (c : Int))) w2 := fun c hc => by
      unfold HeadIs
      rw [hc]
      exact ⟨rfl, B2⟩
    rcases h2 with ⟨v, hn, rfl⟩ | ⟨ns, v, hn, rfl, hrow⟩
    · have he : headOf s.data.toList = .error 2 := by rw [HH.out, hn]
      have HE := Lib.hid (hm2 2 he)
      clear hm2 he hn
      go_wp2_with fail
      go_ret
      exact HE.out
    · obtain ⟨A, c, rfl⟩ := hrow.form
      rw [List.length_map]
      by_cases hl : ns.length = 2
      · obtain ⟨a, b, rfl⟩ : ∃ a b, ns = [a, b] := by
          rcases ns with _ | ⟨a, _ | ⟨b, _ | ⟨c, l⟩⟩⟩
          · simp at hl
          · simp at hl
          · exact ⟨a, b, rfl⟩
          · simp at hl
        have h2 : headOf s.data.toList = if 16 < a ∨ 16 < b ∨ a + b < 1 ∨ 16 < a + b then .error 1 else .ok (a, b) := by rw [HH.out, hn]
        clear hn hl HH
        have q2 : Holds w2 g 28 (fcells (bare 0 0)) := (hg.below b1 hg.lt).below b2 (by have := hg.lt; have := b1.size; omega)
        obtain ⟨gn, off, cap, hq, hc0⟩ := hrow.at_ (i := 0) (z := (a : Int)) rfl
        obtain ⟨gn', off', cap', hq', hc1⟩ := hrow.at_ (i := 1) (z := (b : Int)) rfl
        obtain rfl : A = some ⟨gn, off, none⟩ := (Value.slice.inj hq).1
        obtain ⟨rfl, rfl⟩ : gn = gn' ∧ off = off' := by
          have := (Value.slice.inj hq').1
          simpa using this
        rw [Nat.add_zero] at hc0
        have hgne : gn ≠ g := row_apart hrow (by simp) q2 (by decide)
        clear hq hq' hrow
        by_cases ha : 16 < a
        · have HE := Lib.hid (fun n => hm3 n (by rw [h2, if_pos (.inl ha)]))
          have e1 : decide ((16 : Int) < (a : Int)) = true := by simp; omega
          clear hm2 hm3 h2
          go_wp2_with fail
          go_quiet (fail)
          go_wp2_with fail
          go_ret
          exact HE.out _
        · by_cases hb : 16 < b
          · have HE := Lib.hid (fun n => hm3 n (by rw [h2, if_pos (.inr (.inl hb))]))
            have e1 : decide ((16 : Int) < (a : Int)) = false := by simp; omega
            have e2 : decide ((16 : Int) < (b : Int)) = true := by simp; omega
            clear hm2 hm3 h2
            go_wp2_with fail
            go_quiet (fail)
            go_wp2_with fail
            go_ret
            exact HE.out _
          · by_cases hs1 : a + b < 1
            · have HE := Lib.hid (fun n => hm3 n (by rw [h2, if_pos (.inr (.inr (.inl hs1)))]))
              have e1 : decide ((16 : Int) < (a : Int)) = false := by simp; omega
              have e2 : decide ((16 : Int) < (b : Int)) = false := by simp; omega
              have e3 : decide ((a : Int) + (b : Int) < 1) = true := by simp; omega
              clear hm2 hm3 h2
              go_wp2_with fail
              go_quiet (fail)
              go_wp2_with fail
              go_ret
              exact HE.out _
            · by_cases hs2 : 16 < a + b
              · have HE := Lib.hid (fun n => hm3 n (by rw [h2, if_pos (.inr (.inr (.inr hs2)))]))
                have e1 : decide ((16 : Int) < (a : Int)) = false := by simp; omega
                have e2 : decide ((16 : Int) < (b : Int)) = false := by simp; omega
                have e3 : decide ((a : Int) + (b : Int) < 1) = false := by simp; omega
                have e4 : decide ((16 : Int) < (a : Int) + (b : Int)) = true := by simp; omega
                clear hm2 hm3 h2
                go_wp2_with fail
                go_quiet (fail)
                go_wp2_with fail
                go_ret
                exact HE.out _
              · have he : headOf s.data.toList = .ok (a, b) := by rw [h2, if_neg (by omega)]
                have e1 : decide ((16 : Int) < (a : Int)) = false := by simp; omega
                have e2 : decide ((16 : Int) < (b : Int)) = false := by simp; omega
                have e3 : decide ((a : Int) + (b : Int) < 1) = false := by simp; omega
                have e4 : decide ((16 : Int) < (a : Int) + (b : Int)) = false := by simp; omega
                have HE := Lib.hid he
                clear hm2 hm3 h2 he
                go_wp2_with fail
                go_quiet (fail)
                go_wp2_with fail
                have q3 : Holds (w2.drewN nq) g 28 (fcells (bare 0 0)) := q2.drewN nq
                have B3 := below_drewN B2 nq
                have c0 : (w2.drewN nq).cell? ⟨gn, off, none⟩ = some (.int .i64 (a : Int)) := hc0
                have c1 : (w2.drewN nq).cell? ⟨gn, off + 1, none⟩ = some (.int .i64 (b : Int)) := hc1
                generalize w2.drewN nq = V at q3 B3 c0 c1 ⊢
                have rd : ∀ w' : World, V.grownBy w' (some g) → w'.cell? ⟨gn, off, none⟩ = some (.int .i64 (a : Int)) ∧ w'.cell? ⟨gn, off + 1, none⟩ = some (.int .i64 (b : Int)) := fun w' hg' => by
                  have hlt := World.block_lt_of_cell? V _ c0
                  have hb := hg'.block gn hlt (by simpa using hgne)
                  exact ⟨(World.cell?_of_block (a := ⟨gn, off, none⟩) hb).trans c0, (World.cell?_of_block (a := ⟨gn, off + 1, none⟩) hb).trans c1⟩
                refine wp_region_mixC (fun w' => (∃ x y : Int, Holds w' g 28 (fcells (bare x y))) ∧ V.grownBy w' (some g)) [10, 13] (by kernel_rfl) (by kernel_rfl) (by kernel_rfl) (by kernel_rfl) ⟨⟨0, 0, q3⟩, ⟨rfl, rfl, rfl, Nat.le_refl _, fun _ _ _ => rfl⟩⟩ ?_
                refine wpm_move _ rfl rfl ?_; go_simp
                refine wpm_move _ rfl rfl ?_; go_simp
                refine wpm_move _ rfl rfl ?_; go_simp
                refine wpm_run (.pointer (some ⟨gn, off, none⟩)) rfl rfl (fun w' h' => ?_) ?_
                · go_simp
                go_simp
                refine wpm_run (.int .i64 (a : Int)) rfl rfl (fun w' h' => ?_) ?_
                · have hc := (rd w' h'.2).1
                  go_simp
                go_simp
                refine wpm_move _ rfl rfl ?_; go_simp
                refine wpm_run (.pointer (some ⟨gn, off + 1, none⟩)) rfl rfl (fun w' h' => ?_) ?_
                · go_simp
                go_simp
                refine wpm_run (.int .i64 (b : Int)) rfl rfl (fun w' h' => ?_) ?_
                · have hc := (rd w' h'.2).2
                  go_simp
                go_simp
                refine wpm_run (.pointer (some ⟨g, 0, none⟩)) rfl rfl (fun w' h' => ?_) ?_
                · go_simp
                go_simp
                refine wpm_run (.pointer (some ⟨g, 0, none⟩)) rfl rfl (fun w' h' => ?_) ?_
                · go_simp
                go_simp
                refine wpm_step (fun v => v = undef) (fun _ w' => ∃ y : Int, Holds w' g 28 (fcells (bare a y))) rfl rfl ⟨_, rfl⟩ (fun w' h' => ?_) ?_
                · obtain ⟨⟨x, y, hq⟩, hv⟩ := h'
                  have hcc := hq.cell 0
                  rw [fcells_get _ _ (by omega)] at hcc
                  have hff := hq.frozen 0
                  have hst := hq.set 0 (.int .i64 (a : Int))
                  rw [bare_set0] at hst
                  have hgr : V.grownBy (w'.setCell ⟨g, 0, none⟩ (.int .i64 (a : Int))) (some g) := by
                    refine ⟨hv.os, hv.tape, hv.output, by have := hv.size; simp [World.setCell]; exact this, fun k hk hkg => ?_⟩
                    rw [Below.heap_setCell _ _ _ _ (by simpa using hkg)]
                    exact hv.block k hk hkg
                  unfold stepAt
                  go_simp
                  exact ⟨rfl, ⟨⟨_, _, hst⟩, hgr⟩, ⟨_, hst⟩⟩
                rintro _ rfl
                go_simp
                refine wpm_run (.pointer (some ⟨g, 0, none⟩)) rfl rfl (fun w' h' => ?_) ?_
                · go_simp
                go_simp
                refine wpm_run (.pointer (some ⟨g, 1, none⟩)) rfl rfl (fun w' h' => ?_) ?_
                · go_simp
                go_simp
                refine wpm_step (fun v => v = undef) (fun _ w' => ∃ x : Int, Holds w' g 28 (fcells (bare x b))) rfl rfl ⟨_, rfl⟩ (fun w' h' => ?_) ?_
                · obtain ⟨⟨⟨x, y, hq⟩, hv⟩, y0, hk0⟩ := h'
                  obtain ⟨rfl, rfl⟩ := bare_same hq hk0
                  have hcc := hq.cell 1
                  rw [fcells_get _ _ (by omega)] at hcc
                  have hff := hq.frozen 1
                  have hst := hq.set 1 (.int .i64 (b : Int))
                  rw [bare_set1] at hst
                  have hgr : V.grownBy (w'.setCell ⟨g, 1, none⟩ (.int .i64 (b : Int))) (some g) := by
                    refine ⟨hv.os, hv.tape, hv.output, by have := hv.size; simp [World.setCell]; exact this, fun k hk hkg => ?_⟩
                    rw [Below.heap_setCell _ _ _ _ (by simpa using hkg)]
                    exact hv.block k hk hkg
                  unfold stepAt
                  go_simp
                  exact ⟨rfl, ⟨⟨_, _, hst⟩, hgr⟩, ⟨⟨⟨_, _, hst⟩, hgr⟩, ⟨_, hst⟩⟩, ⟨_, hst⟩⟩
                rintro _ rfl
                go_simp
                refine wpm_nil ?_
                rintro w5 ⟨⟨⟨_, hv⟩, y0, hk0⟩, x0, hk1⟩
                obtain ⟨rfl, rfl⟩ := bare_same hk0 hk1
                go_wp2_with fail
                go_ret
                have e := HE.out
                unfold HeadIs
                rw [e]
                refine ⟨rfl, by rw [← bare_cell]; exact hk0, ?_⟩
                exact ⟨hv.os.trans B3.os, hv.tape.trans B3.tape, hv.output.trans B3.output, Nat.le_trans B3.size hv.size, fun k hk hkg => (hv.block k (Nat.lt_of_lt_of_le hk B3.size) hkg).trans (B3.block k hk)⟩
      · have he : headOf s.data.toList = .error 2 := by
          rw [HH.out, hn]
          rcases ns with _ | ⟨a, _ | ⟨b, _ | ⟨c, l⟩⟩⟩ <;> first | rfl | (exact absurd rfl hl)
        have hne : ((ns.length : Int) != 2) = true := by simp; omega
        have hne' : ((ns.length : Int) == 2) = false := by simp; omega
        have HE := Lib.hid (hm2 2 he)
        clear hm2 he hn
        go_wp2_with fail
        go_ret
        exact HE.out
  · have hh := headOf_no _ hno
    have HE : HeadIs s.data.toList g w (.returned (.int .i64 2)) w1 := by
      unfold HeadIs
      rw [hh]
      exact ⟨rfl, b1⟩
    clear hh hno
    go_wp2_with fail
    go_ret
    exact HE

end Go.Proofs.YtgjfebnafjpcaaaDoor
