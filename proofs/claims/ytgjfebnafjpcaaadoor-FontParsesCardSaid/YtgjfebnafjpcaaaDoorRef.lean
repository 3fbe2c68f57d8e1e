/-
  The reference's font in memory: three cells, the last one a slice of letters, each letter a width and a slice of rows; and appends of one element.
-/
import Derived.Test.YtgjfebnafjpcaaaDoorGlyph
import Derived.Maps.AppendAt
namespace Go.Proofs.YtgjfebnafjpcaaaDoor
open Go.RowKit

/-- A slice of integers that reads as zs; its block lies below hi. -/
def IntRow (w : World) (hi : Nat) (v : Value) (zs : List Int) : Prop :=
  (zs = [] ∧ ∃ A c, v = .slice A 0 c) ∨
  ∃ g off cap cs, v = .slice (some ⟨g, off, none⟩) zs.length cap ∧ g < hi ∧ zs.length ≤ cap ∧ Holds w g 3 cs ∧ ∀ i z, zs[i]? = some z → cs[off + i]? = some (.int .i64 z)
/-- The cells of a row of letters. -/
def Glyphs (w : World) (hi : Nat) : List Lt → List Value → Prop
  | [], [] => True
  | l :: ls, a :: u :: xs => a = .int .i64 (l.w : Nat) ∧ IntRow w hi u (l.rows.map Int.ofNat) ∧ Glyphs w hi ls xs
  | _, _ => False
/-- The reference's font. -/
def RefFont (w : World) (lo hi : Nat) (f : Ft) (v : Value) : Prop :=
  ∃ u xs, v = .agg #[.int .i64 (f.asc : Nat), .int .i64 (f.desc : Nat), u] ∧ w.ownsRow lo 54 2 u f.ls.length xs ∧ (∀ g, u.ownBlock = some g → g < hi) ∧ Glyphs w hi f.ls xs

section
variable {w w' : World} {hi hi' : Nat}
theorem IntRow.form {v : Value} {zs : List Int} (h : IntRow w hi v zs) : ∃ A c, v = .slice A zs.length c := by
  rcases h with ⟨rfl, A, c, rfl⟩ | ⟨g, off, cap, cs, rfl, _⟩
  · exact ⟨A, c, rfl⟩
  · exact ⟨_, _, rfl⟩
theorem IntRow.keep {v : Value} {zs : List Int} (h : IntRow w hi v zs) (hk : ∀ g cs, g < hi → Holds w g 3 cs → Holds w' g 3 cs) (hh : hi ≤ hi') : IntRow w' hi' v zs := by
  rcases h with h | ⟨g, off, cap, cs, h1, h2, h3, h4, h5⟩
  · exact .inl h
  · exact .inr ⟨g, off, cap, cs, h1, by omega, h3, hk g cs h2 h4, h5⟩
theorem IntRow.at_ {v : Value} {zs : List Int} (h : IntRow w hi v zs) {i : Nat} {z : Int} (hz : zs[i]? = some z) : ∃ g off cap, v = .slice (some ⟨g, off, none⟩) zs.length cap ∧ w.cell? ⟨g, off + i, none⟩ = some (.int .i64 z) := by
  rcases h with ⟨rfl, _⟩ | ⟨g, off, cap, cs, h1, _, _, h4, h5⟩
  · cases hz
  · exact ⟨g, off, cap, h1, by rw [h4.cell]; exact h5 i z hz⟩
theorem IntRow.of_own {lo n : Nat} {v : Value} {zs : List Int} (h : w.ownsRow lo 3 1 v n (zs.map (Value.int .i64))) (hb : ∀ g, v.ownBlock = some g → g < hi) : IntRow w hi v zs := by
  obtain ⟨h1, h2⟩ := h
  have hn : zs.length = n := by simpa using h1
  rcases h2 with ⟨rfl, rfl⟩ | ⟨g, cap, cur, rfl, _, hg, hc, _, _, ht⟩
  · exact .inl ⟨List.eq_nil_of_length_eq_zero hn, _, _, rfl⟩
  · subst hn
    refine .inr ⟨g, 0, cap, cur, rfl, hb g rfl, hc, hg, fun i z hz => ?_⟩
    have hz' : (zs.map (Value.int .i64))[i]? = some (.int .i64 z) := by rw [List.getElem?_map, hz]; rfl
    rw [← ht, List.getElem?_take] at hz'
    split at hz'
    · rw [Nat.zero_add]; simpa using hz'
    · cases hz'

theorem Glyphs.keep : ∀ {ls : List Lt} {xs : List Value}, Glyphs w hi ls xs → (∀ g cs, g < hi → Holds w g 3 cs → Holds w' g 3 cs) → hi ≤ hi' → Glyphs w' hi' ls xs
  | [], [], _, _, _ => trivial
  | _ :: _, _ :: _ :: _, ⟨h1, h2, h3⟩, hk, hh => ⟨h1, h2.keep hk hh, Glyphs.keep h3 hk hh⟩
theorem Glyphs.snoc : ∀ {ls : List Lt} {xs : List Value} {l : Lt} {u : Value}, Glyphs w hi ls xs → IntRow w hi u (l.rows.map Int.ofNat) → Glyphs w hi (ls ++ [l]) (xs ++ [.int .i64 (l.w : Nat), u])
  | [], [], _, _, _, h => ⟨rfl, h, trivial⟩
  | _ :: _, _ :: _ :: _, _, _, ⟨h1, h2, h3⟩, h => ⟨h1, h2, Glyphs.snoc h3 h⟩
theorem Glyphs.get : ∀ {ls : List Lt} {xs : List Value} {k : Nat} {l : Lt}, Glyphs w hi ls xs → ls[k]? = some l → xs[2 * k]? = some (.int .i64 (l.w : Nat)) ∧ ∃ u, xs[2 * k + 1]? = some u ∧ IntRow w hi u (l.rows.map Int.ofNat)
  | _ :: _, _ :: _ :: _, 0, _, ⟨h1, h2, _⟩, hl => by
    injection hl with hl
    subst hl
    exact ⟨by rw [h1]; rfl, _, rfl, h2⟩
  | _ :: _, _ :: _ :: _, k + 1, _, ⟨_, _, h3⟩, hl => Glyphs.get (k := k) h3 hl
theorem Glyphs.len : ∀ {ls : List Lt} {xs : List Value}, Glyphs w hi ls xs → xs.length = 2 * ls.length
  | [], [], _ => rfl
  | _ :: ls, _ :: _ :: xs, ⟨_, _, h3⟩ => by
    have := Glyphs.len h3
    simp only [List.length_cons]
    omega
/-- Below hi nothing has turned. -/
theorem keep_below {B : Nat} (hb : Below B w w') (hB : hi ≤ B) : ∀ g cs, g < hi → Holds w g 3 cs → Holds w' g 3 cs := fun _ _ hg h => h.below hb (by omega)
/-- A row of another type was written. -/
theorem keep_grown {w1 : World} {row : Option Nat} (hg : w.grownBy w1 row) (hr : ∀ g cs, row = some g → ¬ Holds w g 3 cs) : ∀ g cs, g < hi → Holds w g 3 cs → Holds w1 g 3 cs :=
  fun g cs _ h => h.grown hg fun e => hr g cs e.symm h
theorem own_type {lo n size : Nat} {e e' : TypeId} {v : Value} {xs : List Value} (h : w.ownsRow lo e size v n xs) (hne : e ≠ e') : ∀ g cs, v.ownBlock = some g → ¬ Holds w g e' cs := by
  intro g cs hv hh
  rcases h.2 with ⟨rfl, _⟩ | ⟨g', cap, cur, rfl, _, hg, _⟩
  · simp [Value.ownBlock] at hv
  · have : g' = g := by simpa [Value.ownBlock] using hv
    subst this
    unfold Holds at hh
    rw [hg] at hh
    injection hh with hh
    injection hh with _ h2
    exact hne h2
theorem own_lt {lo n size : Nat} {e : TypeId} {v : Value} {xs : List Value} (h : w.ownsRow lo e size v n xs) : ∀ g, v.ownBlock = some g → lo ≤ g ∧ g < w.heap.size := h.lt
end

section
variable {P : Program} {ops : Array Oper} {rest : List Oper} {a : Act} {w : World} {Q : Exit → Act → World → Prop}
  {dst : Option Tmp} {ty : TypeId} {pos : String} {after : Array Edge}
/-- append of one element, which has just been laid in a block of its own, onto a row of the call's own. -/
theorem wpl_appendOne {t e : TypeId} {i : TypeInfo} {z : Value} {size bytes : Nat} (ht : P.underlying t = some (.slice e)) (hi : P.info? e = some i) (hz : i.zero = some z) (hsize : i.size = size) (hby : i.bytes = bytes) (hzs : z.cells.size = size) (hsz : 0 < size)
    (base : Nat) (s x : Operand) (v : Value) (n : Nat) (xs : List Value) (hs : a.eval s = v) (hown : w.ownsRow base e size v n xs) (N : Nat) (hx : a.eval x = .slice (some ⟨N, 0, none⟩) 1 1) (hN : w.heap.size = N)
    (news : List Value) (hl : news.length = size) (h1 : ∀ u ∈ news, u.oneCell' = true) (hn : n + 1 ≤ maxLen) (hb : (n + 1) * bytes ≤ 140737488355328) (hbase : base ≤ w.heap.size)
    (h : ∀ g cap w', w'.ownsRow base e size (.slice (some ⟨g, 0, none⟩) (n + 1) cap) (n + 1) (xs ++ news) → (w.alloc (.cells news.toArray e)).grownBy w' v.ownBlock → wpList P ops Q rest (a.put dst (.slice (some ⟨g, 0, none⟩) (n + 1) cap)) w') :
    wpList P ops Q ({ dst := dst, op := .call { callee := .builtin .append, args := #[s, x], argTypes := #[t, t] }, type := ty, pos := pos, after := after, guard := none } :: rest) a (w.alloc (.cells news.toArray e)) := by
  subst hN
  refine wpList_append_own _ rfl s x t rfl base e i z size bytes ht hi hz hsize hby hzs hsz v n xs hs (hown.alloc _) ⟨w.heap.size, 0, none⟩ 1 1 news hx (by rw [hl, Nat.one_mul]) ?_ h1 hn hb (by simp; omega) ?_
  · intro j u hj
    rw [Addr.add_mid, Nat.zero_add, (Holds.new w e news.toArray).cell]
    simpa using hj
  · intro v' w' hown' hg _
    rcases hown'.2 with ⟨_, h0⟩ | ⟨g, cap, cur, rfl, _⟩
    · omega
    · exact h g cap w' hown' hg
end

/-- 2 to the power of n, behind a name of its own. -/
def pw (n : Nat) : Nat := 2 ^ n
theorem pw_zero : pw 0 = 1 := rfl
theorem pw_succ (n : Nat) : pw (n + 1) = 2 * pw n := by unfold pw; rw [Nat.pow_succ, Nat.mul_comm]
theorem pw_le (n : Nat) (h : n ≤ 16) : pw n ≤ 65536 := Nat.pow_le_pow_right (n := 2) (by omega) h
theorem pw_pos (n : Nat) : 0 < pw n := Nat.two_pow_pos n
theorem power_any (n : Nat) (hn : n ≤ 16) (w : World) : Calls Tryd.prog 42 #[.int .i64 (n : Int)] w fun e w' => e = .returned (.int .i64 (pw n : Nat)) ∧ w = w' := by
  go_enter Tryd.func42, Tryd.ntmps42
  go_wp2
  go_loop [3, 4] (fun p i => ∃ k : Nat, k ≤ n ∧ i = .int .i64 k ∧ p = .int .i64 (pw k : Nat)) (fun _ i => n - (intOf i).toNat)
  case atStart => exact ⟨0, Nat.zero_le _, rfl, rfl⟩
  case round =>
    obtain ⟨k, hk, rfl, rfl⟩ := hrel
    by_cases hlt : k < n
    · have h1 := pw_le k (by omega)
      have HE := Lib.hid (pw_succ k)
      go_wp2
      go_round
      case rel => exact ⟨k + 1, by omega, by go_num, by rw [HE.out]; go_num⟩
      case measure => simp [intOf]; omega
    · obtain rfl : k = n := by omega
      go_wp2
      go_ret
      exact ⟨rfl, rfl⟩

end Go.Proofs.YtgjfebnafjpcaaaDoor
