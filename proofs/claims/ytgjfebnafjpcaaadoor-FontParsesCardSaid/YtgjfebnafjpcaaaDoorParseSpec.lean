/-
  How a font's text is read, in plain Lean: lines, words, numbers, letters. No program is named here.
-/
import Derived.Test.YtgjfebnafjpcaaaDoorTextSpec
namespace Go.Proofs.YtgjfebnafjpcaaaDoor

/-- The pieces of a text between the bytes c. -/
def split (c : UInt8) : List UInt8 → List (List UInt8)
  | [] => [[]]
  | b :: l => if b = c then [] :: split c l else (b :: (split c l).headD []) :: (split c l).tail
theorem split_ne (c : UInt8) (l : List UInt8) : split c l ≠ [] := by
  cases l with
  | nil => simp [split]
  | cons b l => unfold split; split <;> simp
theorem split_cons (c b : UInt8) (l : List UInt8) (h : b ≠ c) : split c (b :: l) = (b :: (split c l).headD []) :: (split c l).tail := by
  rw [split, if_neg h]
theorem split_sep (c : UInt8) (l : List UInt8) : split c (c :: l) = [] :: split c l := by rw [split, if_pos rfl]
theorem split_miss (c : UInt8) (l : List UInt8) (h : c ∉ l) : split c l = [l] := by
  induction l with
  | nil => rfl
  | cons b l ih =>
    have hb : b ≠ c := fun e => h (by simp [e])
    rw [split_cons c b l hb, ih fun hm => h (by simp [hm])]
    rfl
theorem split_hit (c : UInt8) (l m : List UInt8) (h : c ∉ l) : split c (l ++ c :: m) = l :: split c m := by
  induction l with
  | nil => exact split_sep c m
  | cons b l ih =>
    have hb : b ≠ c := fun e => h (by simp [e])
    rw [List.cons_append, split_cons c b _ hb, ih fun hm => h (by simp [hm])]
    rfl
theorem split_length (c : UInt8) (l : List UInt8) : (split c l).length = l.count c + 1 := by
  induction l with
  | nil => rfl
  | cons b l ih =>
    by_cases hb : b = c
    · subst hb
      rw [split_sep, List.length_cons, ih, List.count_cons_self]
    · have := List.length_pos_iff.2 (split_ne c l)
      rw [split_cons c b l hb, List.length_cons, List.length_tail, List.count_cons_of_ne hb]
      omega

/-- Is a byte a digit? -/
def digit (b : UInt8) : Bool := decide (48 ≤ b.toNat) && decide (b.toNat ≤ 57)
/-- The number of some digits. -/
def valOf (l : List UInt8) : Nat := l.foldl (fun n b => n * 10 + (b.toNat - 48)) 0
/-- The number of a word, if it is one: one to five digits, no 0 ahead. -/
def numOf (w : List UInt8) : Option Nat :=
  if w = [] ∨ 5 < w.length ∨ (1 < w.length ∧ w.headD 0 = 48) ∨ w.all digit = false then none else some (valOf w)
theorem valOf_snoc (l : List UInt8) (b : UInt8) : valOf (l ++ [b]) = valOf l * 10 + (b.toNat - 48) := by simp [valOf]
theorem digit_lt {b : UInt8} (h : digit b = true) : 48 ≤ b.toNat ∧ b.toNat ≤ 57 := by simpa [digit] using h
theorem fold_lt (l : List UInt8) : ∀ n0 : Nat, l.all digit = true → l.foldl (fun n b => n * 10 + (b.toNat - 48)) n0 < (n0 + 1) * 10 ^ l.length := by
  induction l with
  | nil => intro n0 _; simp
  | cons b l ih =>
    intro n0 h
    rw [List.all_cons, Bool.and_eq_true] at h
    have h3 := digit_lt h.1
    have h1 := ih (n0 * 10 + (b.toNat - 48)) h.2
    rw [List.foldl_cons, List.length_cons, Nat.pow_succ, Nat.mul_comm (10 ^ l.length) 10, ← Nat.mul_assoc]
    exact Nat.lt_of_lt_of_le h1 (Nat.mul_le_mul_right _ (by omega))
theorem valOf_lt (l : List UInt8) (h : l.all digit = true) : valOf l < 10 ^ l.length := by
  have := fold_lt l 0 h
  simpa [valOf] using this
theorem pow_le5 (n : Nat) (h : n ≤ 5) : 10 ^ n ≤ 100000 := Nat.pow_le_pow_right (n := 10) (by omega) h
theorem numOf_lt {w : List UInt8} {n : Nat} (h : numOf w = some n) : n < 100000 := by
  unfold numOf at h
  split at h
  · cases h
  · rename_i hc
    simp only [not_or, Bool.not_eq_false] at hc
    have h1 := valOf_lt w hc.2.2.2
    have h2 := pow_le5 w.length (by omega)
    injection h with h
    omega
/-- The numbers of some words, if each is one. -/
def numsOf : List (List UInt8) → Option (List Nat)
  | [] => some []
  | w :: ws => match numOf w with
    | none => none
    | some n => (numsOf ws).map (n :: ·)
theorem numsOf_append (a b : List (List UInt8)) : numsOf (a ++ b) = match numsOf a with
    | none => none
    | some m => (numsOf b).map (m ++ ·) := by
  induction a with
  | nil => simp [numsOf]
  | cons w ws ih =>
    rw [List.cons_append, numsOf, numsOf]
    cases numOf w with
    | none => rfl
    | some n =>
      rw [ih]
      cases numsOf ws with
      | none => rfl
      | some m => simp [Option.map_map, Function.comp_def]
theorem numsOf_length {ws : List (List UInt8)} {ns : List Nat} (h : numsOf ws = some ns) : ns.length = ws.length := by
  induction ws generalizing ns with
  | nil => simp [numsOf] at h; subst h; rfl
  | cons w ws ih =>
    rw [numsOf] at h
    cases hn : numOf w with
    | none => rw [hn] at h; cases h
    | some n =>
      rw [hn] at h
      cases hs : numsOf ws with
      | none => rw [hs] at h; cases h
      | some m =>
        rw [hs] at h
        simp at h
        subst h
        simp [ih hs]
/-- Where a word is no number, the words are none. -/
theorem numsOf_bad {ws : List (List UInt8)} {k : Nat} (hk : k < ws.length) (h : numOf ws[k] = none) : numsOf ws = none := by
  have e : ws = ws.take k ++ ws[k] :: ws.drop (k + 1) := by simp
  rw [e, numsOf_append]
  cases numsOf (ws.take k) with
  | none => rfl
  | some m => simp [numsOf, h]
theorem numsOf_snoc {ws : List (List UInt8)} {k : Nat} (hk : k < ws.length) {ns : List Nat} {n : Nat} (hs : numsOf (ws.take k) = some ns) (h : numOf ws[k] = some n) : numsOf (ws.take (k + 1)) = some (ns ++ [n]) := by
  rw [List.take_succ_eq_append_getElem hk, numsOf_append, hs]
  simp [numsOf, h]

def fontWord : List UInt8 := [102, 111, 110, 116]
/-- The first line: ascent and descent, or what is wrong. -/
def headOf (line : List UInt8) : Except Nat (Nat × Nat) :=
  if (split 32 line).headD [] = fontWord then
    match numsOf (split 32 line).tail with
    | some [a, b] => if 16 < a ∨ 16 < b ∨ a + b < 1 ∨ 16 < a + b then .error 1 else .ok (a, b)
    | _ => .error 2
  else .error 2
/-- The line of a letter: its byte is i, the font is h high. -/
def letterOf (i h : Nat) (line : List UInt8) : Except Nat Lt :=
  match numsOf (split 32 line) with
  | some (n0 :: n1 :: r :: rs) =>
    if n0 ≠ i then .error 8 else if 16 < n1 then .error 1 else if (r :: rs).length ≠ h then .error 17
    else if ∃ x ∈ r :: rs, 2 ^ n1 ≤ x then .error 22 else .ok ⟨n1, r :: rs⟩
  | _ => .error 2
/-- The letters' lines, from the one on that comes behind those that are read, and the end. -/
def lettersOf (a d : Nat) (L : List (List UInt8)) : Nat → List Lt → Ft × Nat × Nat
  | 0, ls => if 97 < L.length ∨ L.getD 96 [] ≠ [] then (Ft.none, 97, 4) else (⟨a, d, ls⟩, 0, 0)
  | n + 1, ls =>
    if L.length < ls.length + 3 then (Ft.none, ls.length + 2, 3) else
    match letterOf (32 + ls.length) (a + d) (L.getD (ls.length + 1) []) with
    | .error e => (Ft.none, ls.length + 2, e)
    | .ok l => lettersOf a d L n (ls ++ [l])
/-- The font of a text; or the line and what is wrong. -/
def parse (s : List UInt8) : Ft × Nat × Nat :=
  if s = [] then (Ft.none, 0, 13) else if 65536 < s.length then (Ft.none, 0, 4) else
  if (split 10 s).length < 2 then (Ft.none, 1, 3) else
  match headOf ((split 10 s).headD []) with
  | .error e => (Ft.none, 1, e)
  | .ok (a, d) => lettersOf a d (split 10 s) 95 []

end Go.Proofs.YtgjfebnafjpcaaaDoor
