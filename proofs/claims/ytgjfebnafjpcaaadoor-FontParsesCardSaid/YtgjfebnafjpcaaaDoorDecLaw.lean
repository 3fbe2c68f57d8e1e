/-
  Plain laws: numerals, words and lines of a font's text are cut and joined again. No program is named here.
-/
import Derived.Test.YtgjfebnafjpcaaaDoorParseSpec
namespace Go.Proofs.YtgjfebnafjpcaaaDoor

/-- The pieces joined again, a byte c between two. -/
def joinBy (c : UInt8) : List (List UInt8) → List UInt8
  | [] => []
  | [x] => x
  | x :: y :: l => x ++ c :: joinBy c (y :: l)
theorem joinBy_cons (c : UInt8) (x : List UInt8) (l : List (List UInt8)) (h : l ≠ []) : joinBy c (x :: l) = x ++ c :: joinBy c l := by
  cases l with
  | nil => exact absurd rfl h
  | cons y l => rfl
theorem join_split (c : UInt8) (s : List UInt8) : joinBy c (split c s) = s := by
  induction s with
  | nil => rfl
  | cons b l ih =>
    by_cases hb : b = c
    · subst hb
      rw [split_sep, joinBy_cons _ _ _ (split_ne _ _), ih]
      rfl
    · rw [split_cons c b l hb]
      have hne := split_ne c l
      generalize split c l = L at ih hne
      cases L with
      | nil => exact absurd rfl hne
      | cons x L =>
        cases L with
        | nil =>
        have h2 : x = l := ih
        subst h2
        rfl
        | cons y L =>
          rw [joinBy_cons _ _ _ (by simp)] at ih
          simp only [List.headD_cons, List.tail_cons]
          rw [joinBy_cons _ _ _ (by simp), List.cons_append, ih]
theorem join_flat (c : UInt8) (x : List UInt8) (l : List (List UInt8)) : joinBy c (x :: l) = x ++ l.flatMap (fun y => c :: y) := by
  induction l generalizing x with
  | nil => simp [joinBy]
  | cons y l ih =>
    rw [joinBy_cons _ _ _ (by simp), ih]
    simp
theorem join_end (c : UInt8) (l : List (List UInt8)) : joinBy c (l ++ [[]]) = l.flatMap (fun y => y ++ [c]) := by
  induction l with
  | nil => rfl
  | cons y l ih =>
    rw [List.cons_append, joinBy_cons _ _ _ (by simp), ih]
    simp
/-- Lines that hold no c, each ended by one. -/
theorem split_lines (c : UInt8) (l : List (List UInt8)) (r : List UInt8) (h : ∀ x ∈ l, c ∉ x) : split c (l.flatMap (fun y => y ++ [c]) ++ r) = l ++ split c r := by
  induction l with
  | nil => rfl
  | cons x l ih =>
    have h1 : (x :: l).flatMap (fun y => y ++ [c]) ++ r = x ++ c :: (l.flatMap (fun y => y ++ [c]) ++ r) := by simp
    rw [h1, split_hit c x _ (h x (by simp)), ih fun y hy => h y (by simp [hy])]
    rfl
theorem split_words (c : UInt8) (x : List UInt8) (l : List (List UInt8)) (h0 : c ∉ x) (h : ∀ y ∈ l, c ∉ y) : split c (x ++ l.flatMap (fun y => c :: y)) = x :: l := by
  induction l generalizing x with
  | nil => simpa using split_miss c x h0
  | cons y l ih =>
    have h1 : x ++ (y :: l).flatMap (fun y => c :: y) = x ++ c :: (y ++ l.flatMap (fun y => c :: y)) := by simp
    rw [h1, split_hit c x _ h0, ih y (h y (by simp)) fun z hz => h z (by simp [hz])]

theorem numeral_small {n : Nat} (h : n < 10) : dec n = [UInt8.ofNat (48 + n)] := by unfold dec; rw [Go.Lib.decDigits, dif_pos h]
theorem numeral_big {n : Nat} (h : ¬ n < 10) : dec n = dec (n / 10) ++ [UInt8.ofNat (48 + n % 10)] := by unfold dec; rw [Go.Lib.decDigits, dif_neg h]
theorem ofNat_val {k : Nat} (h : k < 10) : (UInt8.ofNat (48 + k)).toNat = 48 + k := by
  rw [UInt8.toNat_ofNat']
  omega
theorem digit_ofNat {k : Nat} (h : k < 10) : digit (UInt8.ofNat (48 + k)) = true := by
  have := ofNat_val h
  unfold digit
  rw [this]
  simp
  omega
theorem dec_ne (n : Nat) : dec n ≠ [] := by
  by_cases h : n < 10
  · rw [numeral_small h]; simp
  · rw [numeral_big h]; simp
theorem dec_digits (n : Nat) : (dec n).all digit = true := by
  induction n using Nat.strongRecOn with
  | ind n ih =>
    by_cases h : n < 10
    · rw [numeral_small h, List.all_cons, digit_ofNat h]
      rfl
    · rw [numeral_big h, List.all_append, ih (n / 10) (by omega), List.all_cons, digit_ofNat (show n % 10 < 10 by omega)]
      rfl
theorem dec_val (n : Nat) : valOf (dec n) = n := by
  induction n using Nat.strongRecOn with
  | ind n ih =>
    by_cases h : n < 10
    · rw [numeral_small h]
      have := ofNat_val h
      simp only [valOf, List.foldl_cons, List.foldl_nil, this]
      omega
    · rw [numeral_big h, valOf_snoc, ih (n / 10) (by omega), ofNat_val (show n % 10 < 10 by omega)]
      omega
theorem dec_short (k : Nat) : ∀ n, n < 10 ^ (k + 1) → (dec n).length ≤ k + 1 := by
  induction k with
  | zero => intro n h; rw [numeral_small (by simpa using h)]; simp
  | succ k ih =>
    intro n h
    by_cases h' : n < 10
    · rw [numeral_small h']; simp
    · rw [numeral_big h', List.length_append, List.length_singleton]
      have := ih (n / 10) (by
        rw [Nat.pow_succ] at h
        omega)
      omega
theorem dec_len5 {n : Nat} (h : n < 100000) : (dec n).length ≤ 5 := dec_short 4 n h
theorem headD_append (a b : List UInt8) (h : a ≠ []) : (a ++ b).headD 0 = a.headD 0 := by
  cases a with
  | nil => exact absurd rfl h
  | cons x a => rfl
theorem dec_head {n : Nat} (h : 0 < n) : (dec n).headD 0 ≠ 48 := by
  induction n using Nat.strongRecOn with
  | ind n ih =>
    by_cases h' : n < 10
    · rw [numeral_small h']
      intro e
      have e2 : (UInt8.ofNat (48 + n)).toNat = 48 := by
        have e3 : UInt8.ofNat (48 + n) = 48 := e
        rw [e3]; rfl
      rw [ofNat_val h'] at e2
      omega
    · rw [numeral_big h', headD_append _ _ (dec_ne _)]
      exact ih (n / 10) (by omega) (by omega)
theorem dec_no (n : Nat) (c : UInt8) (h : digit c = false) : c ∉ dec n := by
  intro hc
  have := List.all_eq_true.1 (dec_digits n) c hc
  rw [this] at h
  cases h
theorem numOf_dec {n : Nat} (h : n < 100000) : numOf (dec n) = some n := by
  unfold numOf
  rw [if_neg, dec_val]
  rintro (h1 | h1 | ⟨h1, h2⟩ | h1)
  · exact dec_ne n h1
  · have := dec_len5 h; omega
  · by_cases h0 : 0 < n
    · exact dec_head h0 h2
    · rw [show n = 0 by omega, numeral_small (by omega)] at h1
      simp at h1
  · rw [dec_digits] at h1; cases h1
theorem valOf_pos {l : List UInt8} (hd : l.all digit = true) (hne : l ≠ []) (hh : l.headD 0 ≠ 48) : 0 < valOf l := by
  cases l with
  | nil => exact absurd rfl hne
  | cons b l =>
    rw [List.all_cons, Bool.and_eq_true] at hd
    have h1 := digit_lt hd.1
    have h2 : b.toNat ≠ 48 := fun e => hh (UInt8.toNat_inj.1 (by simpa using e))
    have key : ∀ (l : List UInt8) (n0 : Nat), 0 < n0 → 0 < l.foldl (fun n b => n * 10 + (b.toNat - 48)) n0 := by
      intro l
      induction l with
      | nil => intro n0 h; exact h
      | cons b l ih => intro n0 h; exact ih _ (Nat.add_pos_left (by omega) _)
    unfold valOf
    rw [List.foldl_cons]
    exact key l _ (by omega)
/-- A word that is a number is that number's numeral. -/
theorem dec_valOf : ∀ (k : Nat) (w : List UInt8), w.length = k → w ≠ [] → w.all digit = true → (1 < w.length → w.headD 0 ≠ 48) → dec (valOf w) = w
  | 0, w, hk, hne, _, _ => absurd (List.length_eq_zero_iff.1 hk) hne
  | k + 1, w, hk, hne, hd, hh => by
    obtain ⟨l, b, rfl⟩ : ∃ l b, w = l ++ [b] := ⟨w.dropLast, w.getLast hne, (List.dropLast_concat_getLast hne).symm⟩
    rw [List.all_append, Bool.and_eq_true] at hd
    have hb : digit b = true := by simpa using hd.2
    have hb' := digit_lt hb
    have hbb : UInt8.ofNat (48 + (b.toNat - 48)) = b := by
      apply UInt8.toNat_inj.1
      rw [UInt8.toNat_ofNat']
      omega
    rw [valOf_snoc]
    by_cases hl : l = []
    · subst hl
      have : valOf [] = 0 := rfl
      rw [this, Nat.zero_mul, Nat.zero_add, numeral_small (by omega), hbb]
      rfl
    · have hll : 0 < l.length := List.length_pos_iff.2 hl
      have hh2 : l.headD 0 ≠ 48 := by
        have := hh (by simp; omega)
        rwa [headD_append _ _ hl] at this
      have hp := valOf_pos hd.1 hl hh2
      have h1 : (valOf l * 10 + (b.toNat - 48)) / 10 = valOf l := by omega
      have h2 : (valOf l * 10 + (b.toNat - 48)) % 10 = b.toNat - 48 := by omega
      rw [numeral_big (by omega), h1, h2, hbb, dec_valOf k l (by simp at hk; omega) hl hd.1 fun _ => hh2]
theorem dec_numOf {w : List UInt8} {n : Nat} (h : numOf w = some n) : w = dec n := by
  unfold numOf at h
  split at h
  · cases h
  · rename_i hc
    simp only [not_or, Bool.not_eq_false] at hc
    injection h with h
    subst h
    exact (dec_valOf _ w rfl hc.1 hc.2.2.2 fun h1 e => hc.2.2.1 ⟨h1, e⟩).symm
theorem dec_numsOf {ws : List (List UInt8)} {ns : List Nat} (h : numsOf ws = some ns) : ws = ns.map dec := by
  induction ws generalizing ns with
  | nil => simp [numsOf] at h; subst h; rfl
  | cons w ws ih =>
    rw [numsOf] at h
    cases hn : numOf w with
    | none => rw [hn] at h; cases h
    | some n =>
      rw [hn] at h
      cases hs : numsOf ws with
      | none => rw [hs] at h; cases h
      | some m =>
        rw [hs] at h
        simp at h
        subst h
        rw [List.map_cons, ← ih hs, ← dec_numOf hn]
theorem numsOf_dec (ns : List Nat) (h : ∀ n ∈ ns, n < 100000) : numsOf (ns.map dec) = some ns := by
  induction ns with
  | nil => rfl
  | cons n ns ih =>
    rw [List.map_cons, numsOf, numOf_dec (h n (by simp)), ih fun m hm => h m (by simp [hm])]
    rfl

end Go.Proofs.YtgjfebnafjpcaaaDoor
