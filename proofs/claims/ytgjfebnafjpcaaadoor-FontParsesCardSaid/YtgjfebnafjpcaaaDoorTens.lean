/-
  The contract of the reference's Tens: a number in tens.
-/
import Derived.Test.YtgjfebnafjpcaaaDoorBuf
namespace Go.Proofs.YtgjfebnafjpcaaaDoor
open Go.RowKit
set_option maxRecDepth 100000

theorem dec_small (n : Nat) (h : n < 10) : ∃ c : UInt8, (c.toNat : Int) = 48 + (n : Int) ∧ dec n = [c] := by
  refine ⟨UInt8.ofNat (48 + n), ?_, ?_⟩
  · rw [UInt8.toNat_ofNat']
    omega
  · unfold dec
    rw [Go.Lib.decDigits, dif_pos h]
theorem dec_big (n : Nat) (h : 10 ≤ n) : ∃ c : UInt8, (c.toNat : Int) = 48 + (n : Int) % 10 ∧ dec n = dec (n / 10) ++ [c] := by
  refine ⟨UInt8.ofNat (48 + n % 10), ?_, ?_⟩
  · rw [UInt8.toNat_ofNat']
    omega
  · unfold dec
    rw [Go.Lib.decDigits, dif_neg (by omega)]
theorem cat_eq (c : UInt8) (l : List UInt8) : (⟨#[c]⟩ ++ ⟨l.toArray⟩ : ByteArray) = ⟨([c] ++ l).toArray⟩ := by
  apply ByteArray.ext
  simp
theorem cat_size (c : UInt8) (l : List UInt8) (h : l.length ≤ 4294967297) : (⟨#[c]⟩ : ByteArray).size + (⟨l.toArray⟩ : ByteArray).size ≤ 9223372036854775807 := by
  show 1 + l.toArray.size ≤ _
  rw [List.size_toArray]
  omega

set_option maxHeartbeats 1000000 in
theorem tens_any (n : Nat) (hn : n ≤ 4294967296) (w : World) :
    Calls Tryd.prog 41 #[.int .i64 (n : Int)] w fun e w' => e = .returned (.string ⟨(dec n).toArray⟩) ∧ Below w.heap.size w w' := by
  go_enter Tryd.func41, Tryd.ntmps41
  go_wp2
  go_loopw [0, 3] (fun v t wr => ∃ (m : Nat) (l : List UInt8), m ≤ n ∧ v = .int .i64 m ∧ t = .string ⟨l.toArray⟩ ∧ dec m ++ l = dec n ∧ Below w.heap.size w wr) (fun v _ _ => (intOf v).toNat)
  case atStart => exact ⟨n, [], Nat.le_refl _, rfl, rfl, by simp, Below.refl _ _⟩
  case round =>
    obtain ⟨m, l, hm, rfl, rfl, hl, hB⟩ := hrel
    have hlen : l.length ≤ 4294967297 := by
      have h1 := dec_length n
      rw [← hl, List.length_append] at h1
      omega
    have z := hB.size
    by_cases h10 : 10 ≤ m
    · have hgt : decide ((9 : Int) < (m : Int)) = true := by simp; omega
      obtain ⟨c, hc, hdec⟩ := dec_big m h10
      have hcell : ((wr.alloc (.cells #[.int .u8 (48 + (m : Int) % 10)] 5)).cell? ⟨wr.heap.size, 0, none⟩) = some (.int .u8 (c.toNat : Int)) := by
        rw [Lib.cell_of_heap (heap_alloc_new wr _), hc]
        rfl
      go_wp2_with (first | ((with_reducible apply wpl_back1 (c := c) (hs := Tryd.underlying72) (he := Tryd.underlying5) (hd := Tryd.underlying9)) <;> try (first | exact rfl | exact hcell)) | ((with_reducible apply wpl_strAdd (t := 9)) <;> try (first | exact rfl | exact cat_size _ _ hlen)))
      go_roundw
      case rel =>
        refine ⟨m / 10, c :: l, by omega, by go_num, ?_, ?_, hB.alloc z _⟩
        · congr 1
        · rw [← hl, hdec]; simp
      case measure => simp [intOf]; omega
    · have hgt : decide ((9 : Int) < (m : Int)) = false := by simp; omega
      obtain ⟨c, hc, hdec⟩ := dec_small m (by omega)
      have hcell : ((wr.alloc (.cells #[.int .u8 (48 + (m : Int))] 5)).cell? ⟨wr.heap.size, 0, none⟩) = some (.int .u8 (c.toNat : Int)) := by
        rw [Lib.cell_of_heap (heap_alloc_new wr _), hc]
        rfl
      go_wp2_with (first | ((with_reducible apply wpl_back1 (c := c) (hs := Tryd.underlying72) (he := Tryd.underlying5) (hd := Tryd.underlying9)) <;> try (first | exact rfl | exact hcell)) | ((with_reducible apply wpl_strAdd (t := 9)) <;> try (first | exact rfl | exact cat_size _ _ hlen)))
      go_ret
      refine ⟨?_, hB.alloc z _⟩
      rw [← hl, hdec]
      show Ending.returned (.string (⟨#[c]⟩ ++ ⟨l.toArray⟩)) = _
      rw [cat_eq]

end Go.Proofs.YtgjfebnafjpcaaaDoor
