/-
  The text of a font, in plain Lean: its bytes. No program is named here.
-/
import Derived.Test.YtgjfebnafjpcaaaDoorSpec
import Derived.Lib.ItoaNum
namespace Go.Proofs.YtgjfebnafjpcaaaDoor

/-- A number in tens. -/
def dec (n : Nat) : List UInt8 := Go.Lib.decDigits n
/-- The rows of a letter, a blank ahead of each. -/
def rowsText (l : List Nat) : List UInt8 := l.flatMap fun r => 32 :: dec r
/-- The line of a letter. -/
def lineText (c : Nat) (l : Lt) : List UInt8 := dec c ++ (32 :: dec l.w) ++ rowsText l.rows ++ [10]
/-- The first line. -/
def headText (f : Ft) : List UInt8 := [102, 111, 110, 116] ++ (32 :: dec f.asc) ++ (32 :: dec f.desc) ++ [10]
/-- The first k letters' lines behind the first line. -/
def Ft.upto (f : Ft) (k : Nat) : List UInt8 := headText f ++ (List.range k).flatMap fun i => lineText (32 + i) (f.ls.getD i Lt.none)
def Ft.text (f : Ft) : List UInt8 := if f.high = 0 then [] else f.upto 95

theorem dec_length (n : Nat) : (dec n).length ≤ n + 1 := by
  unfold dec
  induction n using Nat.strongRecOn with
  | ind n ih =>
    rw [Go.Lib.decDigits]
    split
    · simp
    · have := ih (n / 10) (by omega)
      simp only [List.length_append, List.length_cons, List.length_nil]
      omega
theorem rowsText_nil : rowsText [] = [] := rfl
theorem rowsText_snoc (l : List Nat) (r : Nat) : rowsText (l ++ [r]) = rowsText l ++ (32 :: dec r) := by simp [rowsText]
theorem rowsText_length (l : List Nat) (h : ∀ r ∈ l, r < 65536) : (rowsText l).length ≤ l.length * 65538 := by
  induction l with
  | nil => simp [rowsText]
  | cons r l ih =>
    have h1 := dec_length r
    have h2 := h r (by simp)
    have h3 := ih fun x hx => h x (by simp [hx])
    have e : (rowsText (r :: l)).length = (dec r).length + 1 + (rowsText l).length := by simp [rowsText]; omega
    rw [e, List.length_cons]
    omega
theorem Ft.row_lt {f : Ft} (h : f.Good) {l : Lt} (hl : l ∈ f.ls) {r : Nat} (hr : r ∈ l.rows) : r < 65536 := by
  have h1 := h.bits l hl r hr
  have h2 : 2 ^ l.w ≤ 2 ^ 16 := Nat.pow_le_pow_right (by omega) (h.wide l hl)
  omega
theorem lineText_length {f : Ft} (h : f.Good) (c : Nat) (hc : c < 128) {l : Lt} (hl : l ∈ f.ls) : (lineText c l).length ≤ 1048800 := by
  have h1 := dec_length c
  have h2 := dec_length l.w
  have h3 := h.wide l hl
  have h4 := rowsText_length l.rows fun r hr => Ft.row_lt h hl hr
  have h5 := h.rows l hl
  have h6 := h.top
  unfold lineText
  simp only [List.length_append, List.length_cons, List.length_nil]
  have h7 : l.rows.length * 65538 ≤ 16 * 65538 := Nat.mul_le_mul_right _ (by omega)
  omega
theorem Ft.mem_getD {f : Ft} (h : f.Good) (i : Nat) (hi : i < 95) : f.ls.getD i Lt.none ∈ f.ls := by
  rw [List.getD_eq_getElem?_getD, List.getElem?_eq_getElem (by rw [h.all]; exact hi)]
  exact List.getElem_mem _
theorem Ft.upto_zero (f : Ft) : f.upto 0 = headText f := by simp [Ft.upto]
theorem Ft.upto_succ (f : Ft) (k : Nat) : f.upto (k + 1) = f.upto k ++ lineText (32 + k) (f.ls.getD k Lt.none) := by
  simp [Ft.upto, List.range_succ]
theorem Ft.upto_length {f : Ft} (h : f.Good) (k : Nat) (hk : k ≤ 95) : (f.upto k).length ≤ 100 + k * 1048800 := by
  induction k with
  | zero =>
    rw [Ft.upto_zero]
    have h1 := dec_length f.asc
    have h2 := dec_length f.desc
    have h3 := h.top
    unfold headText
    simp only [List.length_append, List.length_cons, List.length_nil]
    omega
  | succ k ih =>
    rw [Ft.upto_succ, List.length_append]
    have h1 := ih (by omega)
    have h2 := lineText_length h (32 + k) (by omega) (Ft.mem_getD h k (by omega))
    omega
theorem Ft.none_text : Ft.none.text = [] := rfl

end Go.Proofs.YtgjfebnafjpcaaaDoor
