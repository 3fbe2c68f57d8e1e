/-
  A strings.Builder that the call has made: what its methods do, told over its bytes; the closure that Text writes a number by.
-/
import Derived.Test.YtgjfebnafjpcaaaDoorShelf
import Derived.Test.YtgjfebnafjpcaaaDoorGlyph
import Derived.Test.YtgjfebnafjpcaaaDoorTextSpec
import Derived.Lib.AppendIntMem
import Derived.Lib.OthersKept
namespace Go.Proofs.YtgjfebnafjpcaaaDoor
open Go.RowKit
set_option maxRecDepth 100000

/-- Block b holds a builder of the bytes l, its blocks from B on. -/
def Sb (B b : Nat) (l : List UInt8) (w : World) : Prop := Lib.IsBuilder 74 5 B b (Lib.byteCells l) w
theorem Sb.below {B b : Nat} {l : List UInt8} {w w' : World} (h : Sb B b l w) (hb : Below w.heap.size w w') : Sb B b l w' := by
  have k : ∀ p, Lib.BuilderAt 74 5 B b p (Lib.byteCells l) w → Lib.BuilderAt 74 5 B b p (Lib.byteCells l) w' := by
    rintro p ⟨hB, v, hv, hown, hne⟩
    have hlt : b < w.heap.size := by
      rcases Nat.lt_or_ge b w.heap.size with h' | h'
      · exact h'
      · rw [Array.getElem?_eq_none h'] at hv; cases hv
    exact ⟨hB, v, (hb.block b hlt).trans hv, hown.kept (row := none) ⟨hb.os, hb.tape, hb.output, hb.size, fun i hi _ => hb.block i hi⟩ (by
      cases hv : v.ownBlock with
      | none => exact .inl rfl
      | some x => exact .inr (by simp)), hne⟩
  rcases h with h | h
  · exact .inl (k _ h)
  · exact .inr (k _ h)
theorem Sb.lt {B b : Nat} {l : List UInt8} {w : World} (h : Sb B b l w) : B ≤ b ∧ b < w.heap.size := by
  rcases h with h | h <;> exact ⟨h.1, h.lt⟩
theorem Sb.new (w : World) : Sb w.heap.size w.heap.size [] (w.alloc (.cells #[.pointer none, .slice none 0 0] 74)) := Lib.fresh_isBuilder _ _ _
theorem Sb.drewN {B b : Nat} {l : List UInt8} {w : World} (h : Sb B b l w) (n : Nat) : Sb B b l (w.drewN n) := h

/-- Every block but b, and but those of bytes, stands as it stood. -/
abbrev Kept (b : Nat) (w w' : World) : Prop := Lib.OthersKept 5 (some b) w w'
theorem Kept.holds {b g : Nat} {w w' : World} {t : TypeId} {cs : Array Value} (h : Kept b w w') (hh : Holds w g t cs) (hg : g ≠ b) (ht : t ≠ 5) : Holds w' g t cs :=
  h g _ hh (by simpa using hg) (fun c fz he => by injection he with _ h2 _; exact ht h2)
theorem Kept.below {b : Nat} {a w w' : World} (h : Kept b a w) (hb : Below w.heap.size w w') : Kept b a w' := fun k o hk hkb ho => by
  have h1 := h k o hk hkb ho
  exact (hb.block k ((Array.getElem?_eq_some_iff.1 h1).1)).trans h1

/-- What copyCheck leaves. -/
theorem checked_any (B b : Nat) (l : List UInt8) (w : World) (h : Sb B b l w) :
    Calls Tryd.prog 47 #[.pointer (some ⟨b, 0, none⟩)] w fun e w' => e = .returned (.tuple #[]) ∧ Lib.BuilderAt 74 5 B b (.pointer (some ⟨b, 0, none⟩)) (Lib.byteCells l) w' ∧ Below B w w' ∧ Kept b w w' := by
  rcases h with h | h
  · refine (Any.Builder_copyCheck_fresh Tryd.lays240 Tryd.Builder_X72_240 b w h.cell0 h.shape h.frozen0).mono ?_
    rintro e w' ⟨rfl, rfl⟩
    exact ⟨rfl, h.used _, (Below.refl B w).setCell (p := ⟨b, 0, none⟩) h.1 _, (Lib.OthersKept.refl _ _ w).setCell ⟨b, 0, none⟩ rfl _⟩
  · refine (Any.Builder_copyCheck_used Tryd.lays240 Tryd.Builder_X72_240 b w h.cell0).mono ?_
    rintro e w' ⟨rfl, rfl⟩
    exact ⟨rfl, h, Below.refl B _, Lib.OthersKept.refl _ _ _⟩

theorem byte_info : (Tryd.prog.info? 5).map (fun i => (i.zero, i.size, i.bytes)) = some (some (.int .u8 0), 1, 1) := by kernel_rfl
theorem own_kind {w : World} {B n : Nat} {v : Value} {xs : List Value} (h : w.ownsRow B 5 1 v n xs) : ∀ g, v.ownBlock = some g → ∃ c fz, w.heap[g]? = some (.cells c 5 fz) := by
  intro g hg
  rcases h.2 with ⟨rfl, _⟩ | ⟨g', cap, cur, rfl, _, hh, _⟩
  · simp [Value.ownBlock] at hg
  · simp only [Value.ownBlock, Option.some.injEq] at hg
    subst hg
    exact ⟨_, _, hh⟩

set_option maxHeartbeats 1000000 in
theorem writeByte (B b : Nat) (l : List UInt8) (c : UInt8) (w : World) (h : Sb B b l w) (hlen : l.length ≤ 1099511627776) (hBw : B ≤ w.heap.size) :
    Calls Tryd.prog 37 #[.pointer (some ⟨b, 0, none⟩), .int .u8 (c.toNat : Nat)] w fun e w' => e = .returned .nilIface ∧ Sb B b (l ++ [c]) w' ∧ Below B w w' ∧ Kept b w w' := by
  obtain ⟨i0, hi, hz0, hz1, hz2⟩ := info_parts byte_info
  have hc : Tryd.prog.underlying 72 = some (.slice 5) := Tryd.underlying72
  go_enter Tryd.func37, Tryd.ntmps37
  go_wp2_with fail
  refine (checked_any B b l _ h).mono ?_
  rintro e w1 ⟨rfl, h1, hb1, hk1⟩
  obtain ⟨hB, v, hbk, hown, hne⟩ := h1
  have hll := Lib.byteCells_length l
  have z1 := hb1.size
  have c0 : w1.cell? ⟨b, 0, none⟩ = some (.pointer (some ⟨b, 0, none⟩)) := by rw [Lib.cell_of_heap hbk]; rfl
  have c1 : w1.cell? ⟨b, 1, none⟩ = some v := by rw [Lib.cell_of_heap hbk]; rfl
  go_wp2_with (at_builtin; refine wpList_append_own _ rfl _ _ 72 rfl B 5 i0 (.int .u8 0) 1 1 hc hi hz0 hz1 hz2 rfl (by decide) _ _ _ rfl (hown.alloc _) ⟨w1.heap.size, 0, none⟩ 1 1 [.int .u8 (c.toNat : Nat)] rfl rfl ?c1 ?c2 ?c3 ?c4 ?c5 ?_)
  case c1 =>
    intro j u hj
    match j, hj with
    | 0, hj => simp at hj; subst hj; simp [Addr.add]
  case c2 => intro u hu; simp at hu; subst hu; rfl
  case c3 => unfold maxLen; omega
  case c4 => omega
  case c5 => simp; omega
  intro v' w2 hown' hgrow _
  have hlt : b < w1.heap.size := by
    rcases Nat.lt_or_ge b w1.heap.size with h' | h'
    · exact h'
    · simp [Array.getElem?_eq_none h'] at hbk
  have hb2 : w2.heap[b]? = some (.cells #[.pointer (some ⟨b, 0, none⟩), v] 74 (0, 0)) := by
    rw [hgrow.block b (by simp; omega) (fun e => hne e.symm), Lib.alloc_old w1 _ b hlt]
    exact hbk
  have d0 : w2.cell? ⟨b, 0, none⟩ = some (.pointer (some ⟨b, 0, none⟩)) := by rw [Lib.cell_of_heap hb2]; rfl
  have d1 : w2.cell? ⟨b, 1, none⟩ = some v := by rw [Lib.cell_of_heap hb2]; rfl
  have f1 : w2.frozen? ⟨b, 1, none⟩ = false := Lib.frozen_of_heap hb2 1
  obtain ⟨g, cap, rfl⟩ : ∃ g cap, v' = .slice (some ⟨g, 0, none⟩) (l.length + 1) cap := by
    rcases hown'.2 with ⟨_, h0⟩ | ⟨g, cap, cur, hv, _⟩
    · omega
    · exact ⟨g, cap, hv⟩
  go_wp2
  go_ret
  refine ⟨rfl, .inr ?_, ?_, ((hk1.alloc _).grown hgrow (own_kind (hown.alloc _))).setCell ⟨b, 1, none⟩ rfl _⟩
  · rw [Lib.byteCells_append]
    exact Lib.BuilderAt.put hB hb2 (bs' := Lib.byteCells l ++ [.int .u8 (c.toNat : Nat)]) (by simpa [Lib.byteCells_length] using hown') (by decide)
  · exact ((hb1.alloc (by omega) _).grown hgrow (by simp; omega) (fun k hk => (hown.lt k hk).1)).setCell (p := ⟨b, 1, none⟩) hB _

set_option maxHeartbeats 1000000 in
theorem writeString (B b : Nat) (l : List UInt8) (s : ByteArray) (w : World) (h : Sb B b l w) (hlen : l.length ≤ 1099511627776) (hs : s.size ≤ 1099511627776) (hBw : B ≤ w.heap.size) :
    Calls Tryd.prog 38 #[.pointer (some ⟨b, 0, none⟩), .string s] w fun e w' => (∃ v, e = .returned v) ∧ Sb B b (l ++ s.data.toList) w' ∧ Below B w w' ∧ Kept b w w' := by
  obtain ⟨i0, hi, hz0, hz1, hz2⟩ := info_parts byte_info
  have hc : Tryd.prog.underlying 72 = some (.slice 5) := Tryd.underlying72
  go_enter Tryd.func38, Tryd.ntmps38
  go_wp2_with fail
  refine (checked_any B b l _ h).mono ?_
  rintro e w1 ⟨rfl, h1, hb1, hk1⟩
  obtain ⟨hB, v, hbk, hown, hne⟩ := h1
  have hll := Lib.byteCells_length l
  have z1 := hb1.size
  have c0 : w1.cell? ⟨b, 0, none⟩ = some (.pointer (some ⟨b, 0, none⟩)) := by rw [Lib.cell_of_heap hbk]; rfl
  have c1 : w1.cell? ⟨b, 1, none⟩ = some v := by rw [Lib.cell_of_heap hbk]; rfl
  go_wp2_with (at_builtin; refine Lib.wpList_append_own_string _ rfl _ _ 72 9 rfl B 5 i0 hc Tryd.underlying9 hi hz0 hz1 hz2 _ _ _ rfl hown s rfl ?c3 ?c4 ?c5 ?_)
  case c3 => unfold maxLen; omega
  case c4 => omega
  case c5 => omega
  intro v' w2 hown' hgrow _
  have hlt : b < w1.heap.size := by
    rcases Nat.lt_or_ge b w1.heap.size with h' | h'
    · exact h'
    · simp [Array.getElem?_eq_none h'] at hbk
  have hb2 : w2.heap[b]? = some (.cells #[.pointer (some ⟨b, 0, none⟩), v] 74 (0, 0)) := by
    rw [hgrow.block b hlt (fun e => hne e.symm)]
    exact hbk
  have d0 : w2.cell? ⟨b, 0, none⟩ = some (.pointer (some ⟨b, 0, none⟩)) := by rw [Lib.cell_of_heap hb2]; rfl
  have d1 : w2.cell? ⟨b, 1, none⟩ = some v := by rw [Lib.cell_of_heap hb2]; rfl
  have f1 : w2.frozen? ⟨b, 1, none⟩ = false := Lib.frozen_of_heap hb2 1
  obtain ⟨ao, n', cap, rfl⟩ : ∃ ao n' cap, v' = .slice ao n' cap := by
    rcases hown'.2 with ⟨hv, _⟩ | ⟨g, cap, cur, hv, _⟩
    · exact ⟨_, _, _, hv⟩
    · exact ⟨_, _, _, hv⟩
  go_wp2
  go_ret2
  refine ⟨⟨_, rfl⟩, .inr ?_, ?_, (hk1.grown hgrow (own_kind hown)).setCell ⟨b, 1, none⟩ rfl _⟩
  · rw [Lib.byteCells_append, ← Lib.strCells_eq]
    exact Lib.BuilderAt.put hB hb2 (bs' := Lib.byteCells l ++ Lib.strCells s) (by simpa [Lib.strCells_length, Lib.byteCells_length] using hown') (by decide)
  · exact (hb1.grown hgrow (by omega) (fun k hk => (hown.lt k hk).1)).setCell (p := ⟨b, 1, none⟩) hB _

/-- The table that Itoa reads. -/
def Tab (B : Nat) (w : World) : Prop := Lib.TabBelow Tryd.prog B w "internal/strconv.uint64pow10" .u64 Lib.pow10Tab
theorem Tab.on {B : Nat} {w w' : World} (h : Tab B w) (hb : Below B w w') : Tab B w' := Lib.TabBelow.on h hb
theorem Tab.mono {B B' : Nat} {w : World} (h : Tab B w) (hB : B ≤ B') : Tab B' w := fun w' hb => h w' (hb.mono hB)
theorem itoa_any (B n : Nat) (hn : n ≤ 4294967296) (w : World) (ht : Tab B w) : Calls Tryd.prog 39 #[.int .i64 (n : Int)] w fun e w' => e = .returned (.string ⟨(dec n).toArray⟩) ∧ Below w.heap.size w w' := by
  refine (Tryd.strconv_Itoa n (by omega) (by omega) w ht.here).mono ?_
  rintro e w' ⟨rfl, k, os, rfl⟩
  refine ⟨?_, Lib.below_grow _ _ (Nat.le_refl _) _ _⟩
  unfold Lib.itoa dec
  rw [if_neg (by omega), Int.toNat_natCast]

/-- What the closure that says a number does: a blank, and the number. -/
theorem say_any (B b : Nat) (l : List UInt8) (n : Nat) (hn : n ≤ 4294967296) (w : World) (h : Sb B b l w) (hlen : l.length ≤ 549755813888) (hB : B ≤ w.heap.size) (ht : Tab B w) :
    Calls Tryd.prog 36 #[.int .i64 (n : Int), .pointer (some ⟨b, 0, none⟩)] w fun e w' => (∃ v, e = .returned v) ∧ Sb B b (l ++ (32 :: dec n)) w' ∧ Below B w w' ∧ Kept b w w' := by
  have hd := dec_length n
  go_enter Tryd.func36, Tryd.ntmps36
  go_wp2_with fail
  refine (writeByte B b l 32 _ h (by omega) hB).mono ?_
  rintro e w1 ⟨rfl, h1, b1, k1⟩
  go_wp2_with fail
  have z1 : w.heap.size ≤ w1.heap.size := by have := b1.size; exact this
  refine (itoa_any B n hn _ (ht.on b1)).mono ?_
  rintro e w2 ⟨rfl, b2⟩
  have h2 := h1.below b2
  have z2 : w1.heap.size ≤ w2.heap.size := b2.size
  have B2 : Below B w w2 := b1.trans (b2.mono (by omega))
  go_wp2_with fail
  refine (writeString B b _ ⟨(dec n).toArray⟩ _ h2 (by simp; omega) (by show (dec n).toArray.size ≤ _; simp; omega) (by omega)).mono ?_
  rintro e w3 ⟨⟨v, rfl⟩, h3, b3, k3⟩
  go_wp2_with fail
  refine ⟨rfl, _, results_none rfl _ _ _, ⟨_, rfl⟩, by simpa using h3, B2.trans b3, (k1.below b2).trans k3⟩

end Go.Proofs.YtgjfebnafjpcaaaDoor
