/-
  Plain laws: what is read has just the text that it was read from; a font's text is read as that font; texts of which a line is out, or told twice, or cut. No program is named here.
-/
import Derived.Test.YtgjfebnafjpcaaaDoorDecLaw
namespace Go.Proofs.YtgjfebnafjpcaaaDoor

/-- The line of a letter without its end. -/
def bodyText (c : Nat) (l : Lt) : List UInt8 := dec c ++ (32 :: dec l.w) ++ rowsText l.rows
def headBody (f : Ft) : List UInt8 := fontWord ++ (32 :: dec f.asc) ++ (32 :: dec f.desc)
/-- The lines of a font's text. -/
def linesOf (f : Ft) : List (List UInt8) := headBody f :: (List.range 95).map fun i => bodyText (32 + i) (f.ls.getD i Lt.none)
theorem linesOf_length (f : Ft) : (linesOf f).length = 96 := by simp [linesOf]
theorem linesOf_zero (f : Ft) (x : List UInt8) : (linesOf f).getD 0 x = headBody f := rfl
theorem linesOf_succ (f : Ft) (i : Nat) (h : i < 95) (x : List UInt8) : (linesOf f).getD (i + 1) x = bodyText (32 + i) (f.ls.getD i Lt.none) := by
  simp [linesOf, List.getD_eq_getElem?_getD, h]
theorem upto_lines (f : Ft) : f.upto 95 = (linesOf f).flatMap (fun y => y ++ [10]) := by
  unfold Ft.upto linesOf
  rw [List.flatMap_cons, List.flatMap_map]
  rfl

theorem word_no10 (n : Nat) : (10 : UInt8) ∉ dec n := dec_no n 10 (by decide)
theorem word_no32 (n : Nat) : (32 : UInt8) ∉ dec n := dec_no n 32 (by decide)
theorem rows_no10 (l : List Nat) : (10 : UInt8) ∉ rowsText l := by
  intro h
  unfold rowsText at h
  obtain ⟨r, _, h⟩ := List.mem_flatMap.1 h
  rcases List.mem_cons.1 h with h | h
  · exact absurd h (by decide)
  · exact word_no10 _ h
theorem lines_no10 (f : Ft) : ∀ x ∈ linesOf f, (10 : UInt8) ∉ x := by
  intro x hx
  unfold linesOf at hx
  rcases List.mem_cons.1 hx with rfl | hx
  · unfold headBody fontWord
    simp only [List.mem_append, List.mem_cons, not_or]
    exact ⟨⟨by decide, by decide, word_no10 _⟩, by decide, word_no10 _⟩
  · obtain ⟨i, _, rfl⟩ := List.mem_map.1 hx
    unfold bodyText
    simp only [List.mem_append, List.mem_cons, not_or]
    exact ⟨⟨word_no10 _, by decide, word_no10 _⟩, rows_no10 _⟩

/-- The words of a line of numbers. -/
theorem split_body (c : Nat) (l : Lt) : split 32 (bodyText c l) = (c :: l.w :: l.rows).map dec := by
  have h : bodyText c l = dec c ++ ((l.w :: l.rows).map dec).flatMap (fun y => 32 :: y) := by
    unfold bodyText rowsText
    rw [List.flatMap_map, List.flatMap_cons, List.append_assoc]
  rw [h, split_words 32 _ _ (word_no32 _) (by
    intro y hy
    obtain ⟨n, _, rfl⟩ := List.mem_map.1 hy
    exact word_no32 _)]
  rfl
theorem split_head (f : Ft) : split 32 (headBody f) = fontWord :: [f.asc, f.desc].map dec := by
  have h : headBody f = fontWord ++ ([f.asc, f.desc].map dec).flatMap (fun y => 32 :: y) := by
    unfold headBody
    simp
  rw [h, split_words 32 _ _ (by decide) (by
    intro y hy
    obtain ⟨n, _, rfl⟩ := List.mem_map.1 hy
    exact word_no32 _)]
theorem body_nums (c : Nat) (l : Lt) (hc : c < 100000) (hw : l.w < 100000) (hr : ∀ r ∈ l.rows, r < 100000) : numsOf (split 32 (bodyText c l)) = some (c :: l.w :: l.rows) := by
  rw [split_body]
  refine numsOf_dec _ fun n hn => ?_
  rcases List.mem_cons.1 hn with rfl | hn
  · exact hc
  · rcases List.mem_cons.1 hn with rfl | hn
    · exact hw
    · exact hr _ hn

theorem headOf_good {f : Ft} (h : f.Good) : headOf (headBody f) = .ok (f.asc, f.desc) := by
  have h1 := h.low
  have h2 := h.top
  unfold headOf
  rw [split_head, List.headD_cons, if_pos rfl, List.tail_cons, numsOf_dec _ (by simp; omega)]
  simp only
  rw [if_neg (by omega)]
theorem headOf_body (c : Nat) (l : Lt) : headOf (bodyText c l) = .error 2 := by
  unfold headOf
  rw [split_body, List.map_cons, List.headD_cons, if_neg]
  intro h
  have h1 : (102 : UInt8) ∈ dec c := by rw [h]; decide
  exact dec_no c 102 (by decide) h1
theorem letter_good {f : Ft} (h : f.Good) {l : Lt} (hl : l ∈ f.ls) (c i : Nat) (hc : c < 100000) : letterOf i (f.asc + f.desc) (bodyText c l) = if c ≠ i then .error 8 else .ok l := by
  have hw := h.wide l hl
  have hr := h.rows l hl
  have hb := h.bits l hl
  have hlow := h.low
  unfold letterOf
  rw [body_nums c l hc (by omega) (fun r hr' => by have := Ft.row_lt h hl hr'; omega)]
  obtain ⟨w, rows⟩ := l
  simp only at hw hr hb ⊢
  rcases rows with _ | ⟨r, rs⟩
  · simp at hr; omega
  · simp only
    by_cases hci : c ≠ i
    · rw [if_pos hci, if_pos hci]
    · rw [if_neg hci, if_neg hci, if_neg (by omega), if_neg (by omega), if_neg]
      rintro ⟨x, hx, hx2⟩
      have := hb x hx
      omega
theorem letter_head (f : Ft) (i h : Nat) : letterOf i h (headBody f) = .error 2 := by
  unfold letterOf
  rw [split_head, numsOf]
  have : numOf fontWord = none := by decide
  rw [this]

/-- While the lines are those of a font, its letters are read. -/
theorem letters_read {f : Ft} (h : f.Good) (L : List (List UInt8)) : ∀ (k : Nat), k ≤ 95 → (∀ i, i < k → i + 3 ≤ L.length ∧ L.getD (i + 1) [] = bodyText (32 + i) (f.ls.getD i Lt.none)) →
    lettersOf f.asc f.desc L 95 [] = lettersOf f.asc f.desc L (95 - k) (f.ls.take k)
  | 0, _, _ => by simp
  | k + 1, hk, hL => by
    rw [letters_read h L k (by omega) fun i hi => hL i (by omega)]
    obtain ⟨h1, h2⟩ := hL k (by omega)
    have hlen : (f.ls.take k).length = k := by rw [List.length_take, h.all]; omega
    have hget : f.ls.getD k Lt.none = f.ls[k]'(by rw [h.all]; omega) := by
      rw [List.getD_eq_getElem?_getD, List.getElem?_eq_getElem (by rw [h.all]; omega)]; rfl
    rw [show 95 - k = (95 - (k + 1)) + 1 by omega, lettersOf, hlen, if_neg (by omega), h2,
      letter_good h (Ft.mem_getD h k (by omega)) _ _ (by omega), if_neg (by omega)]
    simp only
    rw [hget, ← List.take_succ_eq_append_getElem]

theorem Ft.text_good {f : Ft} (h : f.Good) : f.text = (linesOf f).flatMap (fun y => y ++ [10]) := by
  unfold Ft.text Ft.high
  have := h.low
  rw [if_neg (by omega), upto_lines]
theorem split_text {f : Ft} (h : f.Good) : split 10 f.text = linesOf f ++ [[]] := by
  have := split_lines 10 (linesOf f) [] (lines_no10 f)
  rw [List.append_nil] at this
  rw [Ft.text_good h, this]
  rfl
theorem rowsText_short (l : List Nat) (h : ∀ r ∈ l, r < 65536) : (rowsText l).length ≤ l.length * 6 := by
  induction l with
  | nil => simp [rowsText]
  | cons r l ih =>
    have h1 := dec_len5 (n := r) (by have := h r (by simp); omega)
    have h3 := ih fun x hx => h x (by simp [hx])
    have e : (rowsText (r :: l)).length = (dec r).length + 1 + (rowsText l).length := by simp [rowsText]; omega
    rw [e, List.length_cons]
    omega
theorem Ft.upto_short {f : Ft} (h : f.Good) (k : Nat) (hk : k ≤ 95) : (f.upto k).length ≤ 17 + k * 110 := by
  induction k with
  | zero =>
    rw [Ft.upto_zero]
    have h3 := h.top
    have h1 := dec_short 4 f.asc (by omega)
    have h2 := dec_short 4 f.desc (by omega)
    unfold headText
    simp only [List.length_append, List.length_cons, List.length_nil]
    omega
  | succ k ih =>
    rw [Ft.upto_succ, List.length_append]
    have h1 := ih (by omega)
    have hm := Ft.mem_getD h k (by omega)
    generalize f.ls.getD k Lt.none = l at hm ⊢
    have h2 := rowsText_short l.rows fun r hr => Ft.row_lt h hm hr
    have h3 := dec_short 4 (32 + k) (by omega)
    have h4 := dec_short 4 l.w (by have := h.wide l hm; omega)
    have h5 := h.rows l hm
    have h6 := h.top
    unfold lineText
    simp only [List.length_append, List.length_cons, List.length_nil]
    omega
theorem Ft.text_short {f : Ft} (h : f.Good) : f.text.length ≤ 20000 := by
  unfold Ft.text
  split
  · simp
  · have := Ft.upto_short h 95 (by omega)
    omega
theorem parse_lines {s : List UInt8} (h0 : s ≠ []) (h1 : s.length ≤ 65536) (h2 : 2 ≤ (split 10 s).length) : parse s = match headOf ((split 10 s).headD []) with
    | .error e => (Ft.none, 1, e)
    | .ok (a, d) => lettersOf a d (split 10 s) 95 [] := by
  unfold parse
  rw [if_neg h0, if_neg (by omega), if_neg (by omega)]
  generalize headOf ((split 10 s).headD []) = x
  rcases x with e | ⟨a, d⟩ <;> rfl
theorem text_ne {f : Ft} (h : f.Good) : f.text ≠ [] := by
  rw [Ft.text_good h]
  unfold linesOf headBody
  simp
/-- A font's text is read as that font. -/
theorem parse_text {f : Ft} (h : f.Good) : parse f.text = (f, 0, 0) := by
  have hs := split_text h
  have hl := Ft.text_short h
  rw [parse_lines (text_ne h) (by omega) (by rw [hs, List.length_append, linesOf_length]; simp), hs]
  have hh : (linesOf f ++ [[]]).headD [] = headBody f := rfl
  rw [hh, headOf_good h]
  simp only
  rw [letters_read h _ 95 (Nat.le_refl _) (fun i hi => ?_)]
  · have ht : f.ls.take 95 = f.ls := List.take_of_length_le (by rw [h.all]; exact Nat.le_refl _)
    rw [ht]
    have hg : (linesOf f ++ [[]]).getD 96 [] = [] := by
      rw [List.getD_eq_getElem?_getD, List.getElem?_append_right (by rw [linesOf_length]; omega), linesOf_length]
      rfl
    have hlen : (linesOf f ++ [[]]).length = 97 := by rw [List.length_append, linesOf_length]; rfl
    rw [Nat.sub_self, lettersOf, hg, hlen, if_neg (by simp)]
  · refine ⟨by rw [List.length_append, linesOf_length, List.length_singleton]; omega, ?_⟩
    have := linesOf_succ f i hi []
    rw [List.getD_eq_getElem?_getD] at this ⊢
    rw [List.getElem?_append_left (by rw [linesOf_length]; omega)]
    exact this

/-- What is read of the first line. -/
theorem headOf_ok {line : List UInt8} {a d : Nat} (h : headOf line = .ok (a, d)) : line = headBody ⟨a, d, []⟩ ∧ a ≤ 16 ∧ d ≤ 16 ∧ 1 ≤ a + d ∧ a + d ≤ 16 := by
  unfold headOf at h
  split at h
  · rename_i hw
    split at h
    · rename_i x y hn
      split at h
      · cases h
      · injection h with h
        injection h with h1 h2
        subst h1 h2
        refine ⟨?_, by omega, by omega, by omega, by omega⟩
        have hd := dec_numsOf hn
        have hj := join_split 32 line
        have hne := split_ne 32 line
        generalize split 32 line = L at *
        cases L with
        | nil => exact absurd rfl hne
        | cons w ws =>
          rw [List.headD_cons] at hw
          rw [List.tail_cons] at hd
          subst hw
          subst hd
          rw [← hj, join_flat]
          unfold headBody
          simp
    · cases h
  · cases h
theorem letterOf_ok {i h : Nat} {line : List UInt8} {l : Lt} (hh : letterOf i h line = .ok l) : line = bodyText i l ∧ l.w ≤ 16 ∧ l.rows.length = h ∧ ∀ r ∈ l.rows, r < 2 ^ l.w := by
  unfold letterOf at hh
  split at hh
  · rename_i n0 n1 r rs hn
    split at hh
    · cases hh
    · split at hh
      · cases hh
      · split at hh
        · cases hh
        · split at hh
          · cases hh
          · injection hh with hh
            subst hh
            rename_i h1 h2 h3 h4
            refine ⟨?_, by simp only; omega, by simp only; omega, fun x hx => ?_⟩
            · have hd := dec_numsOf hn
              have hj := join_split 32 line
              rw [hd, List.map_cons, join_flat] at hj
              rw [← hj, show n0 = i by omega]
              unfold bodyText rowsText
              rw [List.flatMap_map, List.flatMap_cons, List.append_assoc]
            · rcases Nat.lt_or_ge x (2 ^ n1) with h | h
              · exact h
              · exact absurd ⟨x, hx, h⟩ h4
  · cases hh
theorem letterOf_err {i h : Nat} {line : List UInt8} {e : Nat} (hh : letterOf i h line = .error e) : 1 ≤ e ∧ e ≤ 22 := by
  unfold letterOf at hh
  split at hh
  · split at hh
    · injection hh; omega
    · split at hh
      · injection hh; omega
      · split at hh
        · injection hh; omega
        · split at hh
          · injection hh; omega
          · cases hh
  · injection hh; omega
theorem headOf_err {line : List UInt8} {e : Nat} (hh : headOf line = .error e) : 1 ≤ e ∧ e ≤ 22 := by
  unfold headOf at hh
  split at hh
  · split at hh
    · split at hh
      · injection hh; omega
      · cases hh
    · injection hh; omega
  · injection hh; omega

/-- What so many letters are that have been read. -/
structure Read (a d : Nat) (L : List (List UInt8)) (ls : List Lt) : Prop where
  wide : ∀ l ∈ ls, l.w ≤ 16
  rows : ∀ l ∈ ls, l.rows.length = a + d
  bits : ∀ l ∈ ls, ∀ r ∈ l.rows, r < 2 ^ l.w
  line : ∀ i, i < ls.length → L.getD (i + 1) [] = bodyText (32 + i) (ls.getD i Lt.none)
  long : ls.length = 0 ∨ ls.length + 2 ≤ L.length
theorem Read.nil (a d : Nat) (L : List (List UInt8)) : Read a d L [] := ⟨by simp, by simp, by simp, by simp, .inl rfl⟩
theorem Read.snoc {a d : Nat} {L : List (List UInt8)} {ls : List Lt} {l : Lt} (h : Read a d L ls) (hl : ls.length + 3 ≤ L.length) (ho : letterOf (32 + ls.length) (a + d) (L.getD (ls.length + 1) []) = .ok l) : Read a d L (ls ++ [l]) := by
  obtain ⟨h1, h2, h3, h4⟩ := letterOf_ok ho
  refine ⟨?_, ?_, ?_, ?_, ?_⟩
  · intro x hx
    rcases List.mem_append.1 hx with hx | hx
    · exact h.wide x hx
    · rw [List.mem_singleton] at hx; subst hx; exact h2
  · intro x hx
    rcases List.mem_append.1 hx with hx | hx
    · exact h.rows x hx
    · rw [List.mem_singleton] at hx; subst hx; exact h3
  · intro x hx
    rcases List.mem_append.1 hx with hx | hx
    · exact h.bits x hx
    · rw [List.mem_singleton] at hx; subst hx; exact h4
  · intro i hi
    rw [List.length_append, List.length_singleton] at hi
    by_cases hlt : i < ls.length
    · rw [h.line i hlt]
      simp [List.getD_eq_getElem?_getD, List.getElem?_append_left hlt]
    · obtain rfl : i = ls.length := by omega
      rw [h1]
      simp
  · right
    rw [List.length_append, List.length_singleton]
    omega
/-- What Parse may tell. -/
def Told (L : List (List UInt8)) (a d : Nat) (p : Ft × Nat × Nat) : Prop :=
  (p.2.1 = 0 ∧ p.2.2 = 0 ∧ p.1.asc = a ∧ p.1.desc = d ∧ Read a d L p.1.ls ∧ p.1.ls.length = 95 ∧ L.length = 97 ∧ L.getD 96 [] = []) ∨ (p.1 = Ft.none ∧ p.2.1 ≤ 97 ∧ 1 ≤ p.2.2 ∧ p.2.2 ≤ 22)
theorem lettersOf_told (a d : Nat) (L : List (List UInt8)) : ∀ (n : Nat) (ls : List Lt), n + ls.length = 95 → Read a d L ls → Told L a d (lettersOf a d L n ls)
  | 0, ls, hn, hr => by
    unfold lettersOf
    by_cases hc : 97 < L.length ∨ L.getD 96 [] ≠ []
    · rw [if_pos hc]
      exact .inr ⟨rfl, by simp, by simp, by simp⟩
    · rw [if_neg hc]
      have h1 : L.getD 96 [] = [] := by
        by_cases h : L.getD 96 [] = []
        · exact h
        · exact absurd (.inr h) hc
      have h2 := hr.long
      exact .inl ⟨rfl, rfl, rfl, rfl, hr, by simp only; omega, by omega, h1⟩
  | n + 1, ls, hn, hr => by
    unfold lettersOf
    by_cases hl : L.length < ls.length + 3
    · rw [if_pos hl]
      exact .inr ⟨rfl, by simp only; omega, by simp, by simp⟩
    · rw [if_neg hl]
      cases ho : letterOf (32 + ls.length) (a + d) (L.getD (ls.length + 1) []) with
      | error e =>
        have := letterOf_err ho
        exact .inr ⟨rfl, by simp only; omega, this.1, this.2⟩
      | ok l => exact lettersOf_told a d L n (ls ++ [l]) (by simp; omega) (hr.snoc (by omega) ho)

/-- Parse tells a font that may be, or the zero font, a line and what is wrong; what is read has just that text. -/
theorem parse_cases (s : List UInt8) : ((parse s).2.1 = 0 ∧ (parse s).2.2 = 0 ∧ (parse s).1.Good ∧ (parse s).1.text = s) ∨ ((parse s).1 = Ft.none ∧ (parse s).2.1 ≤ 97 ∧ 1 ≤ (parse s).2.2 ∧ (parse s).2.2 ≤ 22) := by
  by_cases h0 : s = []
  · unfold parse; rw [if_pos h0]; exact .inr ⟨rfl, by simp, by simp, by simp⟩
  · by_cases h1 : 65536 < s.length
    · unfold parse; rw [if_neg h0, if_pos h1]; exact .inr ⟨rfl, by simp, by simp, by simp⟩
    · by_cases h2 : (split 10 s).length < 2
      · unfold parse; rw [if_neg h0, if_neg h1, if_pos h2]; exact .inr ⟨rfl, by simp, by simp, by simp⟩
      · rw [parse_lines h0 (by omega) (by omega)]
        cases hh : headOf ((split 10 s).headD []) with
        | error e =>
          have := headOf_err hh
          exact .inr ⟨rfl, by simp, this.1, this.2⟩
        | ok p =>
          obtain ⟨a, d⟩ := p
          obtain ⟨h3, h4, h5, h6, h7⟩ := headOf_ok hh
          rcases lettersOf_told a d (split 10 s) 95 [] rfl (Read.nil _ _ _) with ⟨k1, k2, k3, k4, k5, k6, k7, k8⟩ | h
          · left
            simp only
            generalize lettersOf a d (split 10 s) 95 [] = p at *
            obtain ⟨⟨a', d', ls⟩, n, e⟩ := p
            simp only at k1 k2 k3 k4 k5 k6
            subst k3 k4
            have hg : Ft.Good ⟨a', d', ls⟩ := ⟨h6, h7, k6, k5.wide, k5.rows, k5.bits⟩
            refine ⟨k1, k2, hg, ?_⟩
            rw [Ft.text_good hg, ← join_end]
            have : linesOf ⟨a', d', ls⟩ ++ [[]] = split 10 s := by
              apply List.ext_getElem?
              intro i
              by_cases hi : i < 96
              · rw [List.getElem?_append_left (by rw [linesOf_length]; exact hi)]
                have e1 : (linesOf ⟨a', d', ls⟩).getD i [] = (split 10 s).getD i [] := by
                  rcases i with _ | i
                  · rw [linesOf_zero]
                    rw [show headBody ⟨a', d', ls⟩ = headBody ⟨a', d', []⟩ from rfl, ← h3]
                    cases split 10 s <;> rfl
                  · rw [linesOf_succ _ _ (by omega), k5.line i (by omega)]
                rw [List.getD_eq_getElem?_getD, List.getD_eq_getElem?_getD, List.getElem?_eq_getElem (by rw [linesOf_length]; exact hi), List.getElem?_eq_getElem (by omega)] at e1
                rw [List.getElem?_eq_getElem (by rw [linesOf_length]; exact hi), List.getElem?_eq_getElem (by omega)]
                exact congrArg some e1
              · rw [List.getElem?_append_right (by rw [linesOf_length]; omega), linesOf_length]
                by_cases hi2 : i = 96
                · subst hi2
                  rw [List.getD_eq_getElem?_getD, List.getElem?_eq_getElem (by omega)] at k8
                  rw [List.getElem?_eq_getElem (l := split 10 s) (i := 96) (by omega)]
                  exact congrArg some k8.symm
                · have n1 : ([[]] : List (List UInt8)).length ≤ i - 96 := by simp only [List.length_singleton]; omega
                  have n2 : (split 10 s).length ≤ i := by omega
                  rw [List.getElem?_eq_none n1, List.getElem?_eq_none n2]
            rw [this, join_split]
          · exact .inr h
theorem parse_fine (s : List UInt8) : (parse s).1.Fine := by
  rcases parse_cases s with h | h
  · exact .inl h.2.2.1
  · exact .inr h.1
/-- A text too long is none. -/
theorem parse_long {s : List UInt8} (h : 20000 < s.length) : (parse s).1 = Ft.none := by
  rcases parse_cases s with hc | hc
  · have := Ft.text_short hc.2.2.1
    rw [hc.2.2.2] at this
    omega
  · exact hc.1

end Go.Proofs.YtgjfebnafjpcaaaDoor
