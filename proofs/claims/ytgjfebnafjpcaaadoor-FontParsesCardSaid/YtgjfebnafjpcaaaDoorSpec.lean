/-
  The fonts of the document, in plain Lean: a font is an ascent, a descent, and the letters of the bytes from 32 to 126. No program is named here.
-/
namespace Go.Proofs.YtgjfebnafjpcaaaDoor

/-- A letter: how wide it is, and its rows. -/
structure Lt where
  w : Nat
  rows : List Nat
/-- A font; without letters: the zero font. -/
structure Ft where
  asc : Nat
  desc : Nat
  ls : List Lt

def Lt.none : Lt := ⟨0, []⟩
def Ft.none : Ft := ⟨0, 0, []⟩

/-- Where the letter of a byte stands. -/
def placeOf (b : Nat) : Nat := if b < 32 ∨ 126 < b then 31 else b - 32
theorem placeOf_lt (b : Nat) : placeOf b < 95 := by unfold placeOf; split <;> omega

/-- The letter of a byte. -/
def Ft.letter (f : Ft) (b : Nat) : Lt := f.ls.getD (placeOf b) Lt.none
/-- The height. -/
def Ft.high (f : Ft) : Nat := f.asc + f.desc

/-- What a font is that may be: its height is from 1 to 16, it has 95 letters, each as high as the font, at most 16 wide, no row has a bit behind its width. -/
structure Ft.Good (f : Ft) : Prop where
  low : 1 ≤ f.asc + f.desc
  top : f.asc + f.desc ≤ 16
  all : f.ls.length = 95
  wide : ∀ l ∈ f.ls, l.w ≤ 16
  rows : ∀ l ∈ f.ls, l.rows.length = f.asc + f.desc
  bits : ∀ l ∈ f.ls, ∀ r ∈ l.rows, r < 2 ^ l.w

/-- Either that, or the zero font. -/
def Ft.Fine (f : Ft) : Prop := f.Good ∨ f = Ft.none

/-- The program's cell number i of a font. -/
def Ft.cell (f : Ft) (i : Nat) : Int :=
  if i = 0 then f.asc else if i = 1 then f.desc else
    if (i - 2) % 17 = 0 then (f.ls.getD ((i - 2) / 17) Lt.none).w else (((f.ls.getD ((i - 2) / 17) Lt.none).rows.getD ((i - 2) % 17 - 1) 0 : Nat) : Int)

theorem Ft.cell_zero (f : Ft) : f.cell 0 = f.asc := rfl
theorem Ft.cell_one (f : Ft) : f.cell 1 = f.desc := rfl
theorem Ft.cell_w (f : Ft) (k : Nat) : f.cell (2 + 17 * k) = (f.ls.getD k Lt.none).w := by
  have h1 : (2 + 17 * k - 2) % 17 = 0 := by omega
  have h2 : (2 + 17 * k - 2) / 17 = k := by omega
  unfold Ft.cell
  rw [if_neg (by omega), if_neg (by omega), if_pos h1, h2]
theorem Ft.cell_row (f : Ft) (k y : Nat) (hy : y < 16) : f.cell (3 + 17 * k + y) = ((f.ls.getD k Lt.none).rows.getD y 0 : Nat) := by
  have h1 : (3 + 17 * k + y - 2) % 17 = y + 1 := by omega
  have h2 : (3 + 17 * k + y - 2) / 17 = k := by omega
  unfold Ft.cell
  rw [if_neg (by omega), if_neg (by omega), if_neg (by omega), h1, h2, Nat.add_sub_cancel]
theorem Ft.none_cell (i : Nat) : Ft.none.cell i = 0 := by
  unfold Ft.cell Ft.none Lt.none
  simp

/-- The letters of a text together, how wide. -/
def Ft.width (f : Ft) (l : List UInt8) : Nat := (l.map fun b => (f.letter b.toNat).w).sum
theorem Ft.width_nil (f : Ft) : f.width [] = 0 := rfl
theorem Ft.width_append (f : Ft) (l m : List UInt8) : f.width (l ++ m) = f.width l + f.width m := by simp [Ft.width, List.sum_append]
theorem Ft.width_one (f : Ft) (b : UInt8) : f.width [b] = (f.letter b.toNat).w := by simp [Ft.width]

theorem Ft.letter_mem {f : Ft} (h : f.Good) (b : Nat) : f.letter b ∈ f.ls := by
  have hp := placeOf_lt b
  unfold Ft.letter
  rw [List.getD_eq_getElem?_getD, List.getElem?_eq_getElem (by rw [h.all]; exact hp)]
  exact List.getElem_mem _
theorem Ft.none_letter (b : Nat) : Ft.none.letter b = Lt.none := by simp [Ft.letter, Ft.none]
theorem Ft.letter_w {f : Ft} (h : f.Fine) (b : Nat) : (f.letter b).w ≤ 16 := by
  rcases h with h | rfl
  · exact h.wide _ (Ft.letter_mem h b)
  · rw [Ft.none_letter]; simp [Lt.none]
theorem Ft.width_le {f : Ft} (h : f.Fine) (l : List UInt8) : f.width l ≤ 16 * l.length := by
  induction l with
  | nil => simp [Ft.width]
  | cons b l ih =>
    have h1 := Ft.letter_w h b.toNat
    have e : f.width (b :: l) = (f.letter b.toNat).w + f.width l := by simp [Ft.width]
    rw [e, List.length_cons]
    omega

/-- A font by rules: how wide a byte's letter is, and its rows; all rows of the first one are 0. -/
def Ft.make (asc desc : Nat) (W : Nat → Nat) (R : Nat → Nat → Nat) : Ft :=
  ⟨asc, desc, (List.range 95).map fun i => ⟨W (32 + i), (List.range (asc + desc)).map fun y => if i = 0 then 0 else R (32 + i) y⟩⟩
theorem Ft.make_getD (asc desc : Nat) (W : Nat → Nat) (R : Nat → Nat → Nat) (i : Nat) (h : i < 95) :
    (Ft.make asc desc W R).ls.getD i Lt.none = ⟨W (32 + i), (List.range (asc + desc)).map fun y => if i = 0 then 0 else R (32 + i) y⟩ := by
  simp [Ft.make, h]
theorem Ft.make_good (asc desc : Nat) (W : Nat → Nat) (R : Nat → Nat → Nat) (h1 : 1 ≤ asc + desc) (h2 : asc + desc ≤ 16) (hW : ∀ c, W c ≤ 16) (hR : ∀ c y, R c y < 2 ^ W c) : (Ft.make asc desc W R).Good where
  low := h1
  top := h2
  all := by simp [Ft.make]
  wide := by
    intro l hl
    simp only [Ft.make, List.mem_map] at hl
    obtain ⟨i, _, rfl⟩ := hl
    exact hW _
  rows := by
    intro l hl
    simp only [Ft.make, List.mem_map] at hl
    obtain ⟨i, _, rfl⟩ := hl
    simp [Ft.make]
  bits := by
    intro l hl r hr
    simp only [Ft.make, List.mem_map] at hl
    obtain ⟨i, _, rfl⟩ := hl
    simp only [List.mem_map] at hr
    obtain ⟨y, _, rfl⟩ := hr
    split
    · exact Nat.two_pow_pos _
    · exact hR _ _

def tinyW (_ : Nat) : Nat := 4
def tinyR (c y : Nat) : Nat := if y = 5 then 0 else (c * (y + 3) + y) % 8
def wideW (c : Nat) : Nat := 5 + c % 4
def wideR (c y : Nat) : Nat := (c * (2 * y + 5) + 7 * y) % 2 ^ (wideW c - 1)
def tiny : Ft := Ft.make 5 1 tinyW tinyR
def wide : Ft := Ft.make 7 2 wideW wideR
theorem tiny_good : tiny.Good := Ft.make_good _ _ _ _ (by omega) (by omega) (fun _ => by unfold tinyW; omega) (fun c y => by unfold tinyW tinyR; split <;> omega)
theorem wide_good : wide.Good := Ft.make_good _ _ _ _ (by omega) (by omega) (fun c => by unfold wideW; omega) (fun c y => by
  unfold wideR
  refine Nat.lt_of_lt_of_le (Nat.mod_lt _ (Nat.two_pow_pos _)) (Nat.pow_le_pow_right (by omega) (by omega)))

def tinyName : List UInt8 := [116, 105, 110, 121]
def wideName : List UInt8 := [119, 105, 100, 101]
/-- The font of a name. -/
def builtin (name : List UInt8) : Ft := if name = tinyName then tiny else if name = wideName then wide else Ft.none
/-- Is there one of that name? -/
def isBuiltin (name : List UInt8) : Bool := name = tinyName || name = wideName
theorem builtin_fine (name : List UInt8) : (builtin name).Fine := by
  unfold builtin
  split
  · exact .inl tiny_good
  · split
    · exact .inl wide_good
    · exact .inr rfl

end Go.Proofs.YtgjfebnafjpcaaaDoor
