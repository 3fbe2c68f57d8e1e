/-
  Plain laws: a font's text of which a line is out, or told twice, or cut at its end, is none; which line is told. No program is named here.
-/
import Derived.Test.YtgjfebnafjpcaaaDoorParseLaw
namespace Go.Proofs.YtgjfebnafjpcaaaDoor

/-- The lines ahead of line k, that line, and those behind it. -/
def ahead (f : Ft) (k : Nat) : List UInt8 := ((linesOf f).take k).flatMap (fun y => y ++ [10])
def lineAt (f : Ft) (k : Nat) : List UInt8 := (linesOf f).getD k []
def behind (f : Ft) (k : Nat) : List UInt8 := ((linesOf f).drop (k + 1)).flatMap (fun y => y ++ [10])
theorem lines_parts (f : Ft) (k : Nat) (h : k < 96) : linesOf f = (linesOf f).take k ++ lineAt f k :: (linesOf f).drop (k + 1) := by
  have hk : k < (linesOf f).length := by rw [linesOf_length]; exact h
  have e : lineAt f k = (linesOf f)[k] := by
    unfold lineAt
    rw [List.getD_eq_getElem?_getD, List.getElem?_eq_getElem hk]; rfl
  rw [e, List.getElem_cons_drop, List.take_append_drop]
theorem text_parts {f : Ft} (h : f.Good) (k : Nat) (hk : k < 96) : f.text = ahead f k ++ (lineAt f k ++ 10 :: behind f k) := by
  rw [Ft.text_good h]
  conv => lhs; rw [lines_parts f k hk]
  simp [ahead, behind]
theorem lineAt_mem (f : Ft) (k : Nat) (h : k < 96) : lineAt f k ∈ linesOf f := by
  rw [lines_parts f k h]
  simp
theorem take_mem {f : Ft} {k : Nat} : ∀ x ∈ (linesOf f).take k, (10 : UInt8) ∉ x := fun x hx => lines_no10 f x (List.mem_of_mem_take hx)
theorem drop_mem {f : Ft} {k : Nat} : ∀ x ∈ (linesOf f).drop k, (10 : UInt8) ∉ x := fun x hx => lines_no10 f x (List.mem_of_mem_drop hx)
theorem split_out (f : Ft) (k : Nat) : split 10 (ahead f k ++ behind f k) = (linesOf f).take k ++ ((linesOf f).drop (k + 1) ++ [[]]) := by
  have h := split_lines 10 ((linesOf f).drop (k + 1)) [] drop_mem
  rw [List.append_nil] at h
  have e : split 10 ([] : List UInt8) = [[]] := rfl
  rw [e] at h
  unfold ahead behind
  rw [split_lines 10 _ _ take_mem, h]
theorem split_twice (f : Ft) (k : Nat) (hk : k < 96) : split 10 (ahead f k ++ (lineAt f k ++ 10 :: (lineAt f k ++ 10 :: behind f k))) = (linesOf f).take k ++ (lineAt f k :: lineAt f k :: ((linesOf f).drop (k + 1) ++ [[]])) := by
  have h := split_lines 10 ((linesOf f).drop (k + 1)) [] drop_mem
  rw [List.append_nil] at h
  have e : split 10 ([] : List UInt8) = [[]] := rfl
  rw [e] at h
  have hx := lines_no10 f _ (lineAt_mem f k hk)
  unfold ahead behind
  rw [split_lines 10 _ _ take_mem, split_hit 10 _ _ hx, split_hit 10 _ _ hx, h]
theorem split_cut (f : Ft) (k : Nat) (hk : k < 96) : split 10 (ahead f k ++ lineAt f k) = (linesOf f).take k ++ [lineAt f k] := by
  have hx := lines_no10 f _ (lineAt_mem f k hk)
  unfold ahead
  rw [split_lines 10 _ _ take_mem, split_miss 10 _ hx]

theorem getD_left {α : Type} (a b : List α) (i : Nat) (x : α) (h : i < a.length) : (a ++ b).getD i x = a.getD i x := by
  rw [List.getD_eq_getElem?_getD, List.getD_eq_getElem?_getD, List.getElem?_append_left h]
theorem getD_right {α : Type} (a b : List α) (i : Nat) (x : α) (h : a.length ≤ i) : (a ++ b).getD i x = b.getD (i - a.length) x := by
  rw [List.getD_eq_getElem?_getD, List.getD_eq_getElem?_getD, List.getElem?_append_right h]
theorem getD_take {α : Type} (a : List α) (k i : Nat) (x : α) (h : i < k) : (a.take k).getD i x = a.getD i x := by
  rw [List.getD_eq_getElem?_getD, List.getD_eq_getElem?_getD, List.getElem?_take, if_pos h]
theorem getD_drop {α : Type} (a : List α) (k i : Nat) (x : α) : (a.drop k).getD i x = a.getD (k + i) x := by
  rw [List.getD_eq_getElem?_getD, List.getD_eq_getElem?_getD, List.getElem?_drop]
theorem headD_getD {α : Type} (a : List α) (x : α) : a.headD x = a.getD 0 x := by cases a <;> rfl

/-- Where the first lines are those of a font, its first letters are read. -/
theorem parse_upto {f : Ft} (h : f.Good) {s : List UInt8} (h1 : s.length ≤ 65536) (j : Nat) (hj : j ≤ 95) (hl : j + 2 ≤ (split 10 s).length) (hL : ∀ i, i < j + 1 → (split 10 s).getD i [] = (linesOf f).getD i []) :
    parse s = lettersOf f.asc f.desc (split 10 s) (95 - j) (f.ls.take j) := by
  have h0 : s ≠ [] := by
    rintro rfl
    have := hL 0 (by omega)
    rw [linesOf_zero] at this
    have e : (split 10 ([] : List UInt8)).getD 0 [] = [] := rfl
    rw [e] at this
    unfold headBody fontWord at this
    cases this
  rw [parse_lines h0 h1 (by omega), headD_getD, hL 0 (by omega), linesOf_zero, headOf_good h]
  simp only
  exact letters_read h _ j hj fun i hi => ⟨by omega, by rw [hL (i + 1) (by omega), linesOf_succ _ _ (by omega)]⟩
theorem stop_short {f : Ft} (h : f.Good) {L : List (List UInt8)} (j : Nat) (hj : j < 95) (hl : L.length < j + 3) : lettersOf f.asc f.desc L (95 - j) (f.ls.take j) = (Ft.none, j + 2, 3) := by
  have hlen : (f.ls.take j).length = j := by rw [List.length_take, h.all]; omega
  rw [show 95 - j = (94 - j) + 1 by omega, lettersOf, hlen, if_pos hl]
theorem stop_bad {f : Ft} (h : f.Good) {L : List (List UInt8)} (j e : Nat) (hj : j < 95) (hl : j + 3 ≤ L.length) (hb : letterOf (32 + j) (f.asc + f.desc) (L.getD (j + 1) []) = .error e) : lettersOf f.asc f.desc L (95 - j) (f.ls.take j) = (Ft.none, j + 2, e) := by
  have hlen : (f.ls.take j).length = j := by rw [List.length_take, h.all]; omega
  rw [show 95 - j = (94 - j) + 1 by omega, lettersOf, hlen, if_neg (by omega), hb]
theorem stop_more {f : Ft} {L : List (List UInt8)} (hl : 97 < L.length) : lettersOf f.asc f.desc L (95 - 95) (f.ls.take 95) = (Ft.none, 97, 4) := by
  rw [Nat.sub_self, lettersOf, if_pos (.inl hl)]
/-- The line of a letter at another letter's place. -/
theorem letter_other {f : Ft} (h : f.Good) (i m : Nat) (hm : m < 95) (hne : i ≠ 32 + m) : letterOf i (f.asc + f.desc) ((linesOf f).getD (m + 1) []) = .error 8 := by
  rw [linesOf_succ _ _ hm, letter_good h (Ft.mem_getD h m hm) _ _ (by omega), if_pos (by omega)]

theorem parts_length {f : Ft} (h : f.Good) (k : Nat) (hk : k < 96) : (ahead f k).length + (lineAt f k).length + (behind f k).length < 20000 := by
  have h1 := Ft.text_short h
  rw [text_parts h k hk] at h1
  simp only [List.length_append, List.length_cons] at h1
  omega

/-- A line is out. -/
theorem parse_out {f : Ft} (h : f.Good) (k : Nat) (hk : k < 96) : ∃ e, 1 ≤ e ∧ parse (ahead f k ++ behind f k) = (Ft.none, k + 1, e) := by
  have hs := split_out f k
  have hp := parts_length h k hk
  have htl : ((linesOf f).take k).length = k := by rw [List.length_take, linesOf_length]; omega
  have hdl : ((linesOf f).drop (k + 1)).length = 95 - k := by rw [List.length_drop, linesOf_length]; omega
  have hlen : (split 10 (ahead f k ++ behind f k)).length = 96 := by
    rw [hs, List.length_append, List.length_append, htl, hdl, List.length_singleton]; omega
  have hlt : ∀ i, i < k → (split 10 (ahead f k ++ behind f k)).getD i [] = (linesOf f).getD i [] := fun i hi => by
    rw [hs, getD_left _ _ _ _ (by omega), getD_take _ _ _ _ hi]
  have hge : ∀ i, k ≤ i → i < 95 → (split 10 (ahead f k ++ behind f k)).getD i [] = (linesOf f).getD (i + 1) [] := fun i hi hi2 => by
    rw [hs, getD_right _ _ _ _ (by omega), htl, getD_left _ _ _ _ (by omega), getD_drop, show k + 1 + (i - k) = i + 1 by omega]
  have hll : (ahead f k ++ behind f k).length ≤ 65536 := by rw [List.length_append]; omega
  rcases k with _ | k
  · refine ⟨2, by omega, ?_⟩
    have h0 : ahead f 0 ++ behind f 0 ≠ [] := by
      intro e
      rw [e] at hlen
      have : (split 10 ([] : List UInt8)).length = 1 := rfl
      omega
    rw [parse_lines h0 hll (by omega), headD_getD, hge 0 (by omega) (by omega), linesOf_succ _ _ (by omega), headOf_body]
  · rw [parse_upto h hll k (by omega) (by omega) fun i hi => hlt i (by omega)]
    by_cases h95 : k = 94
    · exact ⟨3, by omega, stop_short h k (by omega) (by omega)⟩
    · refine ⟨8, by omega, stop_bad h k 8 (by omega) (by omega) ?_⟩
      rw [hge (k + 1) (by omega) (by omega)]
      exact letter_other h _ _ (by omega) (by omega)
/-- A line stands twice. -/
theorem parse_twice {f : Ft} (h : f.Good) (k : Nat) (hk : k < 96) : ∃ e, 1 ≤ e ∧ parse (ahead f k ++ (lineAt f k ++ 10 :: (lineAt f k ++ 10 :: behind f k))) = (Ft.none, k + 2, e) := by
  have hs := split_twice f k hk
  have hp := parts_length h k hk
  have htl : ((linesOf f).take k).length = k := by rw [List.length_take, linesOf_length]; omega
  have hdl : ((linesOf f).drop (k + 1)).length = 95 - k := by rw [List.length_drop, linesOf_length]; omega
  have hll : (ahead f k ++ (lineAt f k ++ 10 :: (lineAt f k ++ 10 :: behind f k))).length ≤ 65536 := by
    simp only [List.length_append, List.length_cons]
    omega
  generalize ahead f k ++ (lineAt f k ++ 10 :: (lineAt f k ++ 10 :: behind f k)) = s at hs hll ⊢
  have hlen : (split 10 s).length = 98 := by
    rw [hs, List.length_append, List.length_cons, List.length_cons, List.length_append, htl, hdl, List.length_singleton]; omega
  have hlt : ∀ i, i < k + 1 → (split 10 s).getD i [] = (linesOf f).getD i [] := fun i hi => by
    by_cases hik : i < k
    · rw [hs, getD_left _ _ _ _ (by omega), getD_take _ _ _ _ hik]
    · obtain rfl : i = k := by omega
      rw [hs, getD_right _ _ _ _ (by omega), htl, Nat.sub_self]
      rfl
  have hat : (split 10 s).getD (k + 1) [] = (linesOf f).getD k [] := by
    rw [hs, getD_right _ _ _ _ (by omega), htl, show k + 1 - k = 1 by omega]
    rfl
  rw [parse_upto h hll k (by omega) (by omega) hlt]
  by_cases h95 : k = 95
  · subst h95
    exact ⟨4, by omega, stop_more (by omega)⟩
  · rcases k with _ | k
    · refine ⟨2, by omega, stop_bad h 0 2 (by omega) (by omega) ?_⟩
      rw [hat, linesOf_zero]
      exact letter_head _ _ _
    · refine ⟨8, by omega, stop_bad h (k + 1) 8 (by omega) (by omega) ?_⟩
      rw [hat]
      exact letter_other h _ _ (by omega) (by omega)
/-- A line is cut at its end. -/
theorem parse_cut {f : Ft} (h : f.Good) (k : Nat) (hk : k < 96) : ∃ e, 1 ≤ e ∧ parse (ahead f k ++ lineAt f k) = (Ft.none, k + 1, e) := by
  have hs := split_cut f k hk
  have hp := parts_length h k hk
  have htl : ((linesOf f).take k).length = k := by rw [List.length_take, linesOf_length]; omega
  have hll : (ahead f k ++ lineAt f k).length ≤ 65536 := by rw [List.length_append]; omega
  refine ⟨3, by omega, ?_⟩
  rcases k with _ | k
  · have e : ahead f 0 ++ lineAt f 0 = headBody f := rfl
    rw [e] at hs hll ⊢
    have h1 : (split 10 (headBody f)).length < 2 := by rw [hs]; simp
    unfold parse
    rw [if_neg (by unfold headBody fontWord; simp), if_neg (by omega), if_pos h1]
  · have hlen : (split 10 (ahead f (k + 1) ++ lineAt f (k + 1))).length = k + 2 := by rw [hs, List.length_append, htl, List.length_singleton]
    rw [parse_upto h hll k (by omega) (by omega) (fun i hi => by rw [hs, getD_left _ _ _ _ (by omega), getD_take _ _ _ _ hi])]
    exact stop_short h k (by omega) (by omega)

/-- How many line feeds stand ahead. -/
theorem count_ahead (f : Ft) (k : Nat) (hk : k ≤ 96) : (ahead f k).count 10 = k := by
  have key : ∀ l : List (List UInt8), (∀ x ∈ l, (10 : UInt8) ∉ x) → (l.flatMap (fun y => y ++ [10])).count 10 = l.length := by
    intro l
    induction l with
    | nil => intro _; rfl
    | cons x l ih =>
      intro h
      rw [List.flatMap_cons, List.count_append, List.count_append, ih fun y hy => h y (by simp [hy]), List.count_eq_zero_of_not_mem (h x (by simp))]
      simp
      omega
  unfold ahead
  rw [key _ take_mem, List.length_take, linesOf_length]
  omega
theorem count_part (f : Ft) (k j : Nat) (hk : k ≤ 96) (hj : j < (ahead f k).length) : ((ahead f k).take j).count 10 < k := by
  rcases k with _ | k
  · simp [ahead] at hj
  · have hlast : ∃ A, ahead f (k + 1) = A ++ [10] := by
      have hkl : k < (linesOf f).length := by rw [linesOf_length]; omega
      unfold ahead
      rw [List.take_succ_eq_append_getElem hkl, List.flatMap_append]
      exact ⟨_, by rw [List.flatMap_cons, List.flatMap_nil, List.append_nil, ← List.append_assoc]⟩
    obtain ⟨A, hA⟩ := hlast
    have h1 := count_ahead f (k + 1) hk
    rw [hA] at hj h1 ⊢
    rw [List.count_append, List.count_singleton_self] at h1
    rw [List.length_append, List.length_singleton] at hj
    rw [List.take_append_of_le_length (by omega)]
    have h2 := List.Sublist.count_le (10 : UInt8) (List.take_sublist j A)
    omega

end Go.Proofs.YtgjfebnafjpcaaaDoor
