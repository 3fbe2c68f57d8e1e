/-
  The contract of the program's numbers: the numbers of a line's words.
-/
import Derived.Test.YtgjfebnafjpcaaaDoorShelf
import Derived.Test.YtgjfebnafjpcaaaDoorRef
import Derived.Test.YtgjfebnafjpcaaaDoorParseSpec
import Derived.Test.YtgjfebnafjpcaaaDoorSame
namespace Go.Proofs.YtgjfebnafjpcaaaDoor
open Go.RowKit
set_option maxRecDepth 100000

theorem index_one (c : UInt8) (l : List UInt8) : (c ∉ l ∧ Lib.index l [c] = -1) ∨ ∃ a b, l = a ++ c :: b ∧ c ∉ a ∧ Lib.index l [c] = a.length := by
  induction l with
  | nil => left; exact ⟨by simp, rfl⟩
  | cons x l ih =>
    by_cases hx : x = c
    · subst hx
      right
      refine ⟨[], l, rfl, by simp, ?_⟩
      unfold Lib.index
      rw [if_pos (by simp)]
      rfl
    · have hp : ([c] : List UInt8).isPrefixOf (x :: l) = false := by
        simp [List.isPrefixOf, Ne.symm hx]
      rcases ih with ⟨hn, he⟩ | ⟨a, b, rfl, ha, he⟩
      · left
        refine ⟨by simp [hn, Ne.symm hx], ?_⟩
        unfold Lib.index
        rw [hp, he]
        rfl
      · right
        refine ⟨x :: a, b, rfl, by simp [ha, Ne.symm hx], ?_⟩
        unfold Lib.index
        rw [hp, he, if_neg (by simp), if_neg (by simp)]
        simp

theorem List.drop_append_of_le_length' (c : UInt8) (a b : List UInt8) : (a ++ c :: b).drop (a.length + ([c] : List UInt8).length) = b := by
  rw [List.drop_append]
  simp
theorem split_eq (c : UInt8) : ∀ (n : Nat) (s : List UInt8), s.length ≤ n → Lib.splitK [c] 0 (Lib.count s [c]) s = split c s ∧ Lib.count s [c] + 1 = (split c s).length
  | n, s, hn => by
    rcases index_one c s with ⟨hm, hi⟩ | ⟨a, b, rfl, ha, hi⟩
    · rw [split_miss c s hm, Lib.count_miss hi]
      exact ⟨rfl, rfl⟩
    · rw [split_hit c a b ha, Lib.count_hit (i := a.length) (by simp) hi]
      have hd : (a ++ c :: b).drop (a.length + ([c] : List UInt8).length) = b := by
        rw [List.drop_append_of_le_length' c a b]
      rw [hd]
      have hl : b.length < n := by
        simp only [List.length_append, List.length_cons] at hn
        omega
      obtain ⟨h1, h2⟩ := split_eq c (n - 1) b (by omega)
      refine ⟨?_, by rw [List.length_cons]; omega⟩
      rw [Nat.add_comm 1, Lib.splitK, hi, if_neg (by simp), ← h1]
      have e : ((a.length : Int)).toNat = a.length := Int.toNat_natCast _
      rw [e]
      congr 1
      · simp
      · rw [hd]
termination_by n _ => n

/-- The library's variable that the search reads: it holds some number. -/
def MaxL (w : World) : Prop := ∃ m, w.cell? ⟨0, 0, none⟩ = some (.int .i64 m)
theorem MaxL.on {w w' : World} (h : MaxL w) (hb : Below w.heap.size w w') : MaxL w' := by
  obtain ⟨m, h⟩ := h
  exact ⟨m, (hb.cell (p := ⟨0, 0, none⟩) (World.block_lt_of_cell? w _ h)).trans h⟩
theorem MaxL.on' {B : Nat} {w w' : World} (h : MaxL w) (h0 : 0 < B) (hb : Below B w w') : MaxL w' := by
  obtain ⟨m, h⟩ := h
  exact ⟨m, (hb.cell (p := ⟨0, 0, none⟩) h0).trans h⟩

/-- strings.Split at one byte. -/
theorem split_any (s : ByteArray) (c : UInt8) (w : World) (hs : s.size < 4294967281) (hm : MaxL w) :
    Calls Tryd.prog 51 #[.string s, .string ⟨#[c]⟩] w fun e w' => ∃ bs : List ByteArray, bs.map (·.data.toList) = split c s.data.toList ∧ e = .returned (.slice (some ⟨w.heap.size, 0, none⟩) bs.length bs.length) ∧ w' = w.alloc (.cells (bs.map Value.string).toArray 9) := by
  obtain ⟨m, hm⟩ := hm
  refine (Tryd.strings_Split s ⟨#[c]⟩ m w hs hm (Nat.le_refl 1)).mono ?_
  rintro e w' ⟨rfl, rfl⟩
  obtain ⟨h1, h2⟩ := split_eq c s.data.toList.length s.data.toList (Nat.le_refl _)
  have h3 := Lib.splitB_data ⟨#[c]⟩ 0 (Lib.countB s ⟨#[c]⟩) s
  have h4 : (Lib.splitB ⟨#[c]⟩ 0 (Lib.countB s ⟨#[c]⟩) s).map (·.data.toList) = split c s.data.toList := h3.trans h1
  have h5 : (Lib.splitB ⟨#[c]⟩ 0 (Lib.countB s ⟨#[c]⟩) s).length = Lib.countB s ⟨#[c]⟩ + 1 := by
    have := congrArg List.length h4
    rw [List.length_map] at this
    exact this.trans h2.symm
  exact ⟨_, h4, by rw [h5], rfl⟩
/-- strings.Cut at one byte: the byte is not in the text. -/
theorem cut_any (s : ByteArray) (c : UInt8) (w : World) (hs : s.size < 4294967281) (hm : MaxL w) :
    Calls Tryd.prog 28 #[.string s, .string ⟨#[c]⟩] w fun e w' =>
      ((c ∉ s.data.toList ∧ e = .returned (.tuple #[.string s, .string ⟨#[]⟩, .bool false])) ∨
       ∃ a b : List UInt8, s.data.toList = a ++ c :: b ∧ c ∉ a ∧ e = .returned (.tuple #[.string ⟨a.toArray⟩, .string ⟨b.toArray⟩, .bool true])) ∧ Below w.heap.size w w' := by
  obtain ⟨m, hm⟩ := hm
  refine (Tryd.strings_Cut s ⟨#[c]⟩ m w hs hm).mono ?_
  rintro e w' ⟨rfl, n, rfl⟩
  refine ⟨?_, below_drewN (Below.refl _ _) n⟩
  have hc : (⟨#[c]⟩ : ByteArray).data.toList = [c] := rfl
  rw [hc]
  rcases index_one c s.data.toList with ⟨hn, hi⟩ | ⟨a, b, hs', ha, hi⟩
  · left
    refine ⟨hn, ?_⟩
    unfold Lib.cut
    rw [hi, if_neg (by omega)]
  · right
    refine ⟨a, b, hs', ha, ?_⟩
    unfold Lib.cut
    rw [hi, if_pos (by omega), hs', Int.toNat_natCast]
    have h1 : (a ++ c :: b).take a.length = a := by simp
    have h2 : (a ++ c :: b).drop (a.length + ([c] : List UInt8).length) = b := List.drop_append_of_le_length' c a b
    rw [h1, h2]

theorem one_of (n : Int) : ∀ u ∈ [Value.int .i64 n], u.oneCell' = true := by
  intro u hu
  rw [List.mem_singleton] at hu
  subst hu
  rfl
theorem loop_length (x : ByteArray) : ∀ (n i : Nat) (r : List UInt8), x.size - i = n → (ByteArray.toList.loop x i r).length = r.length + n := by
  intro n
  induction n with
  | zero =>
    intro i r h
    unfold ByteArray.toList.loop
    rw [if_neg (by omega)]
    simp
  | succ n ih =>
    intro i r h
    unfold ByteArray.toList.loop
    rw [if_pos (by omega), ih _ _ (by omega), List.length_cons]
    omega
theorem toList_length (x : ByteArray) : x.toList.length = x.size := by
  have := loop_length x x.size 0 [] (by omega)
  simpa [ByteArray.toList] using this
theorem empty_yes (x : ByteArray) (h : x.size = 0) : x.toList.isEmpty = true := by
  rw [List.isEmpty_iff, ← List.length_eq_zero_iff, toList_length, h]
theorem empty_no (x : ByteArray) (h : x.size ≠ 0) : x.toList.isEmpty = false := by
  cases e : x.toList.isEmpty with
  | false => rfl
  | true =>
    rw [List.isEmpty_iff, ← List.length_eq_zero_iff, toList_length] at e
    exact absurd e h
theorem list_at (x : ByteArray) (i : Nat) (h : i < x.size) (h' : i < x.data.toList.length) : x.data.toList[i] = x[i] := by
  cases x; rfl
theorem head_at (x : ByteArray) (h : 0 < x.size) : x.data.toList.headD 0 = x[0] := by
  have h' : 0 < x.data.toList.length := by simpa using h
  rw [← list_at x 0 h h']
  generalize x.data.toList = l at h'
  cases l with
  | nil => simp at h'
  | cons a l => rfl

set_option maxHeartbeats 4000000 in
theorem numbers_any (s : ByteArray) (w : World) (hs : s.size ≤ 70000) (hm : MaxL w) :
    Calls Tryd.prog 45 #[.string s] w fun e w' =>
      ((∃ v, numsOf (split 32 s.data.toList) = none ∧ e = .returned (.tuple #[v, .bool false])) ∨
       ∃ ns v, numsOf (split 32 s.data.toList) = some ns ∧ e = .returned (.tuple #[v, .bool true]) ∧ IntRow w' w'.heap.size v (ns.map Int.ofNat)) ∧ Below w.heap.size w w' := by
  go_enter Tryd.func45, Tryd.ntmps45
  go_wp2_with fail
  refine (split_any s 32 _ (by omega) hm).mono ?_
  rintro e w1 ⟨bs, hbs, rfl, rfl⟩
  have hlen : bs.length ≤ 70001 := by
    have h1 := congrArg List.length hbs
    rw [List.length_map, split_length] at h1
    have h2 : s.data.toList.count 32 ≤ s.data.toList.length := List.count_le_length
    have h3 : s.data.toList.length = s.size := by simp
    omega
  obtain ⟨i0, hi0, hz0, hz1, hz2⟩ := info_parts int_info
  have HI := Lib.hid hi0
  have HZ0 := Lib.hid hz0
  have HZ1 := Lib.hid hz1
  have HZ2 := Lib.hid hz2
  clear hi0 hz0 hz1 hz2
  have q0 := Holds.new w 9 (bs.map Value.string).toArray
  have B0 : Below w.heap.size w (w.alloc (.cells (bs.map Value.string).toArray 9)) := (Below.refl _ _).alloc (Nat.le_refl _) _
  go_wp2_with fail
  generalize (w.alloc (.cells (bs.map Value.string).toArray 9)) = W at q0 B0 ⊢
  have z0 := q0.lt
  go_loopw [4, 12] (fun v i wr => ∃ (k : Nat) (ns : List Nat), k ≤ bs.length ∧ i = .int .i64 k ∧ ns.length = k ∧ numsOf ((split 32 s.data.toList).take k) = some ns ∧ wr.ownsRow W.heap.size 3 1 v ns.length ((ns.map Int.ofNat).map (Value.int .i64)) ∧ Below W.heap.size W wr) (fun _ i _ => bs.length - (intOf i).toNat)
  case atStart => exact ⟨0, [], Nat.zero_le _, rfl, rfl, by simp [numsOf], ⟨rfl, .inl ⟨rfl, rfl⟩⟩, Below.refl _ _⟩
  case round =>
    obtain ⟨k, ns, hk, rfl, hnl, hns, hown, hB⟩ := hrel
    have qk := q0.below hB z0
    have zB := hB.size
    by_cases hlt : k < bs.length
    · have hcell : wr.cell? ⟨w.heap.size, k, none⟩ = some (.string bs[k]) := by
        rw [qk.cell]
        simp [hlt]
      have hk0 : (0 : Int) ≤ (k : Int) := by omega
      have hk1 : (k : Int) < (bs.length : Int) := by omega
      have hx : (split 32 s.data.toList)[k]? = some bs[k].data.toList := by rw [← hbs]; simp [hlt]
      have hkl : k < (split 32 s.data.toList).length := by rw [← hbs, List.length_map]; exact hlt
      have hxx : (split 32 s.data.toList)[k] = bs[k].data.toList := by
        have := List.getElem?_eq_getElem hkl
        rw [hx] at this
        exact (Option.some.inj this).symm
      clear hx
      generalize bs[k] = x at hcell hxx
      have hxs : x.data.toList.length = x.size := by simp
      have bad : numOf (split 32 s.data.toList)[k] = none → numsOf (split 32 s.data.toList) = none := numsOf_bad hkl
      by_cases h0 : x.size = 0
      · have e0 : x.toList.isEmpty = true := by
          exact empty_yes x h0
        have hn : numOf (split 32 s.data.toList)[k] = none := by
          rw [hxx]
          unfold numOf
          rw [if_pos (.inl (List.length_eq_zero_iff.1 (by omega)))]
        go_wp2_with fail
        go_ret2
        exact ⟨.inl ⟨_, bad hn, rfl⟩, B0.trans (hB.mono (by omega))⟩
      · have e0 : x.toList.isEmpty = false := empty_no x h0
        by_cases h5 : 5 < x.size
        · have e5 : decide ((5 : Int) < (x.size : Int)) = true := by simp; omega
          have hn : numOf (split 32 s.data.toList)[k] = none := by
            rw [hxx]
            unfold numOf
            rw [if_pos (.inr (.inl (by omega)))]
          have d1 : decide ((1 : Int) < (x.size : Int)) = true := by simp; omega
          go_wp2_with fail
          go_ret2
          exact ⟨.inl ⟨_, bad hn, rfl⟩, B0.trans (hB.mono (by omega))⟩
        · have e5 : decide ((5 : Int) < (x.size : Int)) = false := by simp; omega
          have hx0 : 0 < x.size := by omega
          have hx00 : x.data.toList.headD 0 = x[0] := head_at x hx0
          by_cases hz : 1 < x.size ∧ x[0] = 48
          · have d1 : decide ((1 : Int) < (x.size : Int)) = true := by simp; omega
            have e48 : (((x[0].toNat : Nat) : Int) == 48) = true := by rw [hz.2]; rfl
            have hn : numOf (split 32 s.data.toList)[k] = none := by
              rw [hxx]
              unfold numOf
              rw [if_pos (.inr (.inr (.inl ⟨by omega, by rw [hx00]; exact hz.2⟩)))]
            go_wp2_with fail
            go_ret2
            exact ⟨.inl ⟨_, bad hn, rfl⟩, B0.trans (hB.mono (by omega))⟩
          · have hcase : (decide ((1 : Int) < (x.size : Int)) = false) ∨ (decide ((1 : Int) < (x.size : Int)) = true ∧ (((x[0].toNat : Nat) : Int) == 48) = false) := by
              by_cases h1 : 1 < x.size
              · right
                refine ⟨by simp; omega, ?_⟩
                have : x[0] ≠ 48 := fun e => hz ⟨h1, e⟩
                have h2 : x[0].toNat ≠ 48 := fun e => this (UInt8.toNat_inj.1 e)
                simp
                omega
              · left; simp; omega
            rcases hcase with d1 | ⟨d1, e48⟩
            all_goals
              go_wp2_with fail
              go_loop [7, 35] (fun v i => ∃ j : Nat, j ≤ x.size ∧ i = .int .i64 j ∧ v = .int .i64 (valOf (x.data.toList.take j) : Nat) ∧ (x.data.toList.take j).all digit = true) (fun _ i => x.size - (intOf i).toNat)
              case atStart => exact ⟨0, by omega, rfl, by simp [valOf], by simp⟩
              case round =>
                obtain ⟨j, hj, rfl, rfl, hd⟩ := hrel
                have hv := valOf_lt _ hd
                have hv5 := pow_le5 (x.data.toList.take j).length (by rw [List.length_take]; omega)
                by_cases hjl : j < x.size
                · have hj0 : (0 : Int) ≤ (j : Int) := by omega
                  have hj1 : (j : Int) < (x.size : Int) := by omega
                  have hjx : j < x.data.toList.length := by omega
                  have hat := list_at x j hjl hjx
                  have htk : x.data.toList.take (j + 1) = x.data.toList.take j ++ [x[j]] := by rw [List.take_succ_eq_append_getElem hjx, hat]
                  by_cases hdg : digit x[j] = true
                  · have hdd := digit_lt hdg
                    have a1 : decide (((x[j].toNat : Nat) : Int) < 48) = false := by simp; omega
                    have a2 : decide ((57 : Int) < ((x[j].toNat : Nat) : Int)) = false := by simp; omega
                    have hvs := valOf_snoc (x.data.toList.take j) x[j]
                    rw [← htk] at hvs
                    have hal : (x.data.toList.take (j + 1)).all digit = true := by rw [htk, List.all_append, hd]; simpa using hdg
                    go_wp2_with fail
                    refine ⟨⟨j + 1, by omega, by go_num, ?_, hal⟩, by simp [intOf]; omega⟩
                    congr 1
                    rw [hvs]
                    omega
                  · have hn : numOf (split 32 s.data.toList)[k] = none := by
                      rw [hxx]
                      unfold numOf
                      refine if_pos (.inr (.inr (.inr ?_)))
                      have e := (List.take_append_drop j x.data.toList).symm
                      rw [List.drop_eq_getElem_cons hjx, hat] at e
                      have : digit x[j] = false := by simpa using hdg
                      rw [e, List.all_append, List.all_cons, this]
                      simp
                    have hbad : x[j].toNat < 48 ∨ 57 < x[j].toNat := by
                      have : ¬ (48 ≤ x[j].toNat ∧ x[j].toNat ≤ 57) := by simpa [digit] using hdg
                      omega
                    rcases hbad with hbad | hbad
                    · have a1 : decide (((x[j].toNat : Nat) : Int) < 48) = true := by simp; omega
                      go_wp2_with fail
                      go_ret2
                      first | exact ⟨.inl ⟨_, bad hn, rfl⟩, B0.trans (hB.mono (by omega))⟩ | exact ⟨.inl ⟨bad hn, _, rfl⟩, B0.trans (hB.mono (by omega))⟩
                    · have a1 : decide (((x[j].toNat : Nat) : Int) < 48) = false := by simp; omega
                      have a2 : decide ((57 : Int) < ((x[j].toNat : Nat) : Int)) = true := by simp; omega
                      go_wp2_with fail
                      go_ret2
                      first | exact ⟨.inl ⟨_, bad hn, rfl⟩, B0.trans (hB.mono (by omega))⟩ | exact ⟨.inl ⟨bad hn, _, rfl⟩, B0.trans (hB.mono (by omega))⟩
                · have hj' : j = x.size := by omega
                  subst hj'
                  have hfull : x.data.toList.take x.size = x.data.toList := List.take_of_length_le (by omega)
                  rw [hfull] at hd hv hv5 ⊢
                  have hn : numOf (split 32 s.data.toList)[k] = some (valOf x.data.toList) := by
                    rw [hxx]
                    unfold numOf
                    refine if_neg ?_
                    rintro (h | h | h | h)
                    · rw [h] at hxs; simp at hxs; omega
                    · omega
                    · exact hz ⟨by omega, by rw [← hx00]; exact h.2⟩
                    · rw [hd] at h; cases h
                  generalize valOf x.data.toList = n at *
                  have hsn := numsOf_snoc hkl hns hn
                  clear hd hv hv5 hfull
                  go_wp2_with ((with_reducible apply wpl_appendOne Tryd.underlying40 HI.out HZ0.out HZ1.out HZ2.out rfl (by omega) W.heap.size (v := u4)) <;> try (first | exact rfl | exact hown | exact one_of _ | exact zB | exact (by unfold maxLen; omega) | omega))
                  intro g5 cap5 w5 ho hg
                  have b5 : Below W.heap.size W w5 := (hB.alloc zB _).grown hg (by simp; omega) (fun g hg' => (own_lt hown g hg').1)
                  have ho' : w5.ownsRow W.heap.size 3 1 (.slice (some ⟨g5, 0, none⟩) (k + 1) cap5) (ns ++ [n]).length (((ns ++ [n]).map Int.ofNat).map (Value.int .i64)) := by
                    rw [List.length_append, List.length_singleton, hnl]
                    simpa using ho
                  clear ho hg
                  go_wp2_with fail
                  go_roundw
                  case rel => exact ⟨k + 1, ns ++ [n], by omega, by go_num, by simp [hnl], hsn, ho', b5⟩
                  case measure => simp [intOf]; omega
    · have hkb : k = bs.length := by omega
      have hfull : (split 32 s.data.toList).take k = split 32 s.data.toList := List.take_of_length_le (by rw [← hbs, List.length_map]; omega)
      rw [hfull] at hns
      go_wp2_with fail
      go_ret2
      exact ⟨.inr ⟨ns, _, hns, rfl, IntRow.of_own hown (fun g hg => (own_lt hown g hg).2)⟩, B0.trans (hB.mono (by omega))⟩

end Go.Proofs.YtgjfebnafjpcaaaDoor
