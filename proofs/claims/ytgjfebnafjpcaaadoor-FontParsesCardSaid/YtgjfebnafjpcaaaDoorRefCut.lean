/-
  The contracts of the reference's number and cut.
-/
import Derived.Test.YtgjfebnafjpcaaaDoorParse
import Derived.Test.YtgjfebnafjpcaaaDoorMade
namespace Go.Proofs.YtgjfebnafjpcaaaDoor
open Go.RowKit
set_option maxRecDepth 100000

/-- The number of a word; -1: it is none. -/
def numI (w : List UInt8) : Int := match numOf w with
  | none => -1
  | some n => (n : Int)

set_option maxHeartbeats 4000000 in
theorem refNumber_any (x : ByteArray) (w : World) :
    Calls Tryd.prog 46 #[.string x] w fun e w' => e = .returned (.int .i64 (numI x.data.toList)) ∧ w = w' := by
  have hxs : x.data.toList.length = x.size := by simp
  have bad : numOf x.data.toList = none → numI x.data.toList = -1 := fun h => by unfold numI; rw [h]
  by_cases h0 : x.size = 0
  · have hn : numOf x.data.toList = none := by
      unfold numOf
      rw [if_pos (.inl (List.length_eq_zero_iff.1 (by omega)))]
    have HB := Lib.hid (bad hn)
    have d0 : ((x.size : Int) == 0) = true := by rw [h0]; rfl
    clear bad hn
    go_enter Tryd.func46, Tryd.ntmps46
    go_wp2_with fail
    go_ret
    exact ⟨by rw [HB.out]; rfl, rfl⟩
  · have d0 : ((x.size : Int) == 0) = false := by
      have : (x.size : Int) ≠ 0 := by omega
      simpa using this
    by_cases h5 : 5 < x.size
    · have e5 : decide ((5 : Int) < (x.size : Int)) = true := by simp; omega
      have hn : numOf x.data.toList = none := by
        unfold numOf
        rw [if_pos (.inr (.inl (by omega)))]
      have HB := Lib.hid (bad hn)
      clear bad hn
      go_enter Tryd.func46, Tryd.ntmps46
      go_wp2_with fail
      go_ret
      exact ⟨by rw [HB.out]; rfl, rfl⟩
    · have e5 : decide ((5 : Int) < (x.size : Int)) = false := by simp; omega
      have hx0 : 0 < x.size := by omega
      have hx00 : x.data.toList.headD 0 = x[0] := head_at x hx0
      by_cases hz : 1 < x.size ∧ x[0] = 48
      · have d1 : decide ((1 : Int) < (x.size : Int)) = true := by simp; omega
        have e48 : (((x[0].toNat : Nat) : Int) == 48) = true := by rw [hz.2]; rfl
        have hn : numOf x.data.toList = none := by
          unfold numOf
          rw [if_pos (.inr (.inr (.inl ⟨by omega, by rw [hx00]; exact hz.2⟩)))]
        have HB := Lib.hid (bad hn)
        clear bad hn
        go_enter Tryd.func46, Tryd.ntmps46
        go_wp2_with fail
        go_ret
        exact ⟨by rw [HB.out]; rfl, rfl⟩
      · have hcase : (decide ((1 : Int) < (x.size : Int)) = false) ∨ (decide ((1 : Int) < (x.size : Int)) = true ∧ (((x[0].toNat : Nat) : Int) == 48) = false) := by
          by_cases h1 : 1 < x.size
          · right
            refine ⟨by simp; omega, ?_⟩
            have : x[0] ≠ 48 := fun e => hz ⟨h1, e⟩
            have h2 : x[0].toNat ≠ 48 := fun e => this (UInt8.toNat_inj.1 e)
            simp
            omega
          · left; simp; omega
        rcases hcase with d1 | ⟨d1, e48⟩
        all_goals
          go_enter Tryd.func46, Tryd.ntmps46
          go_wp2_with fail
          go_loop [3, 4] (fun v i => ∃ j : Nat, j ≤ x.size ∧ i = .int .i64 j ∧ v = .int .i64 (valOf (x.data.toList.take j) : Nat) ∧ (x.data.toList.take j).all digit = true) (fun _ i => x.size - (intOf i).toNat)
          case atStart => exact ⟨0, by omega, rfl, by simp [valOf], by simp⟩
          case round =>
            obtain ⟨j, hj, rfl, rfl, hd⟩ := hrel
            have hv := valOf_lt _ hd
            have hv5 := pow_le5 (x.data.toList.take j).length (by rw [List.length_take]; omega)
            by_cases hjl : j < x.size
            · have hj0 : (0 : Int) ≤ (j : Int) := by omega
              have hj1 : (j : Int) < (x.size : Int) := by omega
              have hjx : j < x.data.toList.length := by omega
              have hat := list_at x j hjl hjx
              have htk : x.data.toList.take (j + 1) = x.data.toList.take j ++ [x[j]] := by rw [List.take_succ_eq_append_getElem hjx, hat]
              by_cases hdg : digit x[j] = true
              · have hdd := digit_lt hdg
                have a1 : decide (((x[j].toNat : Nat) : Int) < 48) = false := by simp; omega
                have a2 : decide ((57 : Int) < ((x[j].toNat : Nat) : Int)) = false := by simp; omega
                have hvs := valOf_snoc (x.data.toList.take j) x[j]
                rw [← htk] at hvs
                have hal : (x.data.toList.take (j + 1)).all digit = true := by rw [htk, List.all_append, hd]; simpa using hdg
                have HVS := Lib.hid (And.intro hvs hal)
                clear hvs hal hat htk
                generalize valOf (x.data.toList.take j) = m at *
                go_wp2_with fail
                go_round
                case rel =>
                  refine ⟨j + 1, by omega, by go_num, ?_, HVS.out.2⟩
                  rw [HVS.out.1]
                  congr 1
                  omega
                case measure => simp [intOf]; omega
              · have hn : numOf x.data.toList = none := by
                  unfold numOf
                  refine if_pos (.inr (.inr (.inr ?_)))
                  have e := (List.take_append_drop j x.data.toList).symm
                  rw [List.drop_eq_getElem_cons hjx, hat] at e
                  have : digit x[j] = false := by simpa using hdg
                  rw [e, List.all_append, List.all_cons, this]
                  simp
                have HB := Lib.hid (bad hn)
                have hbad : x[j].toNat < 48 ∨ 57 < x[j].toNat := by
                  have : ¬ (48 ≤ x[j].toNat ∧ x[j].toNat ≤ 57) := by simpa [digit] using hdg
                  omega
                clear bad hn hat htk
                rcases hbad with hbad | hbad
                · have a1 : decide (((x[j].toNat : Nat) : Int) < 48) = true := by simp; omega
                  go_wp2_with fail
                  go_ret
                  exact ⟨by rw [HB.out]; rfl, rfl⟩
                · have a1 : decide (((x[j].toNat : Nat) : Int) < 48) = false := by simp; omega
                  have a2 : decide ((57 : Int) < ((x[j].toNat : Nat) : Int)) = true := by simp; omega
                  go_wp2_with fail
                  go_ret
                  exact ⟨by rw [HB.out]; rfl, rfl⟩
            · have hj' : j = x.size := by omega
              subst hj'
              have hfull : x.data.toList.take x.size = x.data.toList := List.take_of_length_le (by omega)
              rw [hfull] at hd hv hv5 ⊢
              have hn : numOf x.data.toList = some (valOf x.data.toList) := by
                unfold numOf
                refine if_neg ?_
                rintro (h | h | h | h)
                · rw [h] at hxs; simp at hxs; omega
                · omega
                · exact hz ⟨by omega, by rw [← hx00]; exact h.2⟩
                · rw [hd] at h; cases h
              have hi : numI x.data.toList = (valOf x.data.toList : Nat) := by unfold numI; rw [hn]
              have HI := Lib.hid hi
              clear hi hn hd bad hfull
              go_wp2_with fail
              go_ret
              exact ⟨by rw [HI.out]; rfl, rfl⟩

/-- A slice of strings that reads as ss; its block lies below hi. -/
def StrRow (w : World) (hi : Nat) (v : Value) (ss : List ByteArray) : Prop :=
  ∃ (g c : Nat) (cs : Array Value), v = .slice (some ⟨g, 0, none⟩) ss.length c ∧ g < hi ∧ ss.length ≤ c ∧ Holds w g 9 cs ∧ ∀ (i : Nat) (s : ByteArray), ss[i]? = some s → cs[i]? = some (Value.string s)
theorem StrRow.below {w w' : World} {hi hi' B : Nat} {v : Value} {ss : List ByteArray} (h : StrRow w hi v ss) (hb : Below B w w') (hB : hi ≤ B) (hh : hi ≤ hi') : StrRow w' hi' v ss := by
  obtain ⟨g, c, cs, h1, h2, h3, h4, h5⟩ := h
  exact ⟨g, c, cs, h1, by omega, h3, h4.below hb (by omega), h5⟩
theorem StrRow.of_own {w : World} {lo hi n : Nat} {v : Value} {ss : List ByteArray} (h : w.ownsRow lo 9 1 v n (ss.map Value.string)) (hn : 0 < n) (hb : ∀ g, v.ownBlock = some g → g < hi) : StrRow w hi v ss := by
  obtain ⟨h1, h2⟩ := h
  have hl : ss.length = n := by simpa using h1
  rcases h2 with ⟨_, h0⟩ | ⟨g, cap, cur, rfl, _, hg, hc, _, _, ht⟩
  · omega
  · subst hl
    refine ⟨g, cap, cur, rfl, hb g rfl, hc, hg, fun i s hs => ?_⟩
    have hs' : (ss.map Value.string)[i]? = some (.string s) := by rw [List.getElem?_map, hs]; rfl
    rw [← ht, List.getElem?_take] at hs'
    split at hs'
    · simpa using hs'
    · cases hs'
theorem string_info : (Tryd.prog.info? 9).map (fun i => (i.zero, i.size, i.bytes)) = some (some (Value.string ⟨#[]⟩), 1, 16) := by kernel_rfl
theorem one_str (s : ByteArray) : ∀ u ∈ [Value.string s], u.oneCell' = true := by
  intro u hu
  rw [List.mem_singleton] at hu
  subst hu
  rfl

/-- Where the cutting stands: place k comes next, the piece began at j. -/
def CutAt (c : UInt8) (l : List UInt8) (k j : Nat) (ps : List (List UInt8)) : Prop :=
  (k ≤ l.length ∧ j ≤ k ∧ ps ++ split c (l.drop j) = split c l ∧ c ∉ (l.drop j).take (k - j)) ∨ (k = l.length + 1 ∧ ps = split c l)
theorem CutAt.start (c : UInt8) (l : List UInt8) : CutAt c l 0 0 [] := .inl ⟨by omega, by omega, by simp, by simp⟩
theorem CutAt.bound {c : UInt8} {l : List UInt8} {k j : Nat} {ps : List (List UInt8)} (h : CutAt c l k j ps) : ps.length ≤ l.length + 1 := by
  have hc : l.count c ≤ l.length := List.count_le_length
  rcases h with ⟨_, _, h, _⟩ | ⟨_, h⟩
  · have := congrArg List.length h
    rw [List.length_append, split_length c l] at this
    omega
  · rw [h, split_length]; omega
theorem CutAt.last {c : UInt8} {l : List UInt8} {j : Nat} {ps : List (List UInt8)} (j' : Nat) (h : CutAt c l l.length j ps) : j ≤ l.length ∧ CutAt c l (l.length + 1) j' (ps ++ [(l.take l.length).drop j]) := by
  rcases h with ⟨_, h1, h2, h3⟩ | ⟨h, _⟩
  · refine ⟨h1, .inr ⟨rfl, ?_⟩⟩
    rw [List.take_of_length_le (by rw [List.length_drop]; exact Nat.le_refl _)] at h3
    rw [List.take_length, ← h2, split_miss c _ h3]
  · omega
theorem CutAt.hit {c : UInt8} {l : List UInt8} {k j : Nat} {ps : List (List UInt8)} (h : CutAt c l k j ps) (hk : k < l.length) (hc : l[k] = c) : j ≤ k ∧ CutAt c l (k + 1) (k + 1) (ps ++ [(l.take k).drop j]) := by
  rcases h with ⟨_, h1, h2, h3⟩ | ⟨h, _⟩
  · refine ⟨h1, .inl ⟨by omega, by omega, ?_, by simp⟩⟩
    have e : l.drop j = (l.drop j).take (k - j) ++ c :: l.drop (k + 1) := by
      have := (List.take_append_drop (k - j) (l.drop j)).symm
      rw [List.drop_drop, show j + (k - j) = k by omega, List.drop_eq_getElem_cons hk, hc] at this
      exact this
    have e2 : (l.take k).drop j = (l.drop j).take (k - j) := List.drop_take
    rw [e2, ← h2]
    conv => rhs; rw [e, split_hit c _ _ h3]
    simp
  · omega
theorem CutAt.miss {c : UInt8} {l : List UInt8} {k j : Nat} {ps : List (List UInt8)} (h : CutAt c l k j ps) (hk : k < l.length) (hc : l[k] ≠ c) : CutAt c l (k + 1) j ps := by
  rcases h with ⟨_, h1, h2, h3⟩ | ⟨h, _⟩
  · refine .inl ⟨by omega, by omega, h2, ?_⟩
    have hlt : k - j < (l.drop j).length := by rw [List.length_drop]; omega
    rw [show k + 1 - j = (k - j) + 1 by omega, List.take_succ_eq_append_getElem hlt]
    intro hm
    rcases List.mem_append.1 hm with hm | hm
    · exact h3 hm
    · rw [List.mem_singleton, List.getElem_drop] at hm
      apply hc
      rw [hm]
      congr 1
      omega
  · omega

set_option maxHeartbeats 4000000 in
theorem refCut_any (x : ByteArray) (c : UInt8) (w : World) (hs : x.size ≤ 70000) :
    Calls Tryd.prog 33 #[.string x, .int .u8 (c.toNat : Int)] w fun e w' =>
      ∃ v bs, e = .returned v ∧ bs.map (·.data.toList) = split c x.data.toList ∧ StrRow w' w'.heap.size v bs ∧ Below w.heap.size w w' := by
  have hxs : x.data.toList.length = x.size := by simp
  obtain ⟨i0, hi0, hz0, hz1, hz2⟩ := info_parts string_info
  have HI := Lib.hid hi0
  have HZ0 := Lib.hid hz0
  have HZ1 := Lib.hid hz1
  have HZ2 := Lib.hid hz2
  clear hi0 hz0 hz1 hz2
  go_enter Tryd.func33, Tryd.ntmps33
  go_wp2_with fail
  go_loopw [5, 6, 7] (fun v p i wr => ∃ (k j : Nat) (bs : List ByteArray), k ≤ x.size + 1 ∧ j ≤ x.size + 1 ∧ i = .int .i64 k ∧ p = .int .i64 j ∧ wr.ownsRow w.heap.size 9 1 v bs.length (bs.map Value.string) ∧ Below w.heap.size w wr ∧ CutAt c x.data.toList k j (bs.map (·.data.toList))) (fun _ _ i _ => x.size + 1 - (intOf i).toNat)
  case atStart => exact ⟨0, 0, [], by omega, by omega, rfl, rfl, ⟨rfl, .inl ⟨rfl, rfl⟩⟩, Below.refl _ _, CutAt.start _ _⟩
  case round =>
    obtain ⟨k, j, bs, hk, hj, rfl, rfl, hown, hB, hat⟩ := hrel
    have hbl := hat.bound
    rw [List.length_map, hxs] at hbl
    have zB := hB.size
    by_cases hle : k ≤ x.size
    · have d0 : decide ((k : Int) ≤ (x.size : Int)) = true := by simp; omega
      have hk0 : (0 : Int) ≤ (k : Int) := by omega
      have hj0 : (0 : Int) ≤ (j : Int) := by omega
      have hk1 : (k : Int) ≤ (x.size : Int) := by omega
      by_cases hend : k = x.size
      · have d1 : ((k : Int) == (x.size : Int)) = true := by simp; omega
        subst hend
        have hl := hat
        rw [← hxs] at hl
        obtain ⟨hjk, hl⟩ := hl.last (x.size + 1)
        have hj1 : (j : Int) ≤ (x.size : Int) := by omega
        have hnew : CutAt c x.data.toList (x.size + 1) (x.size + 1) ((bs ++ [x.extract j x.size]).map (·.data.toList)) := by
          rw [List.map_append, List.map_cons, List.map_nil, extract_list]
          rw [hxs] at hl
          exact hl
        have HN := Lib.hid hnew
        clear hnew hl hat
        go_wp2_with ((with_reducible apply wpl_appendOne Tryd.underlying65 HI.out HZ0.out HZ1.out HZ2.out rfl (by omega) w.heap.size (v := u5)) <;> try (first | exact rfl | exact hown | exact one_str _ | exact zB | exact (by unfold maxLen; omega) | omega))
        intro g5 cap5 w5 ho hg
        have b5 : Below w.heap.size w w5 := (hB.alloc zB _).grown hg (by simp; omega) (fun g hg' => (own_lt hown g hg').1)
        have ho' : w5.ownsRow w.heap.size 9 1 (.slice (some ⟨g5, 0, none⟩) (bs.length + 1) cap5) (bs ++ [x.extract j x.size]).length ((bs ++ [x.extract j x.size]).map Value.string) := by
          rw [List.length_append, List.length_singleton]
          simpa using ho
        clear ho hg
        go_wp2_with fail
        go_roundw
        case rel => exact ⟨x.size + 1, x.size + 1, _, by omega, by omega, by go_num, by go_num, ho', b5, HN.out⟩
        case measure => simp [intOf]
      · have d1 : ((k : Int) == (x.size : Int)) = false := by simp; omega
        have hkl : k < x.size := by omega
        have hk2 : (k : Int) < (x.size : Int) := by omega
        have hx := list_at x k hkl (by omega)
        by_cases hc : x[k] = c
        · have e2 : (((x[k].toNat : Nat) : Int) == ((c.toNat : Nat) : Int)) = true := by rw [hc]; simp
          obtain ⟨hjk, hnew⟩ := hat.hit (by omega) (by rw [hx]; exact hc)
          have hj1 : (j : Int) ≤ (k : Int) := by omega
          have hnew : CutAt c x.data.toList (k + 1) (k + 1) ((bs ++ [x.extract j k]).map (·.data.toList)) := by
            rw [List.map_append, List.map_cons, List.map_nil, extract_list]
            exact hnew
          have HN := Lib.hid hnew
          clear hnew hat hx hc
          go_wp2_with ((with_reducible apply wpl_appendOne Tryd.underlying65 HI.out HZ0.out HZ1.out HZ2.out rfl (by omega) w.heap.size (v := u5)) <;> try (first | exact rfl | exact hown | exact one_str _ | exact zB | exact (by unfold maxLen; omega) | omega))
          intro g5 cap5 w5 ho hg
          have b5 : Below w.heap.size w w5 := (hB.alloc zB _).grown hg (by simp; omega) (fun g hg' => (own_lt hown g hg').1)
          have ho' : w5.ownsRow w.heap.size 9 1 (.slice (some ⟨g5, 0, none⟩) (bs.length + 1) cap5) (bs ++ [x.extract j k]).length ((bs ++ [x.extract j k]).map Value.string) := by
            rw [List.length_append, List.length_singleton]
            simpa using ho
          clear ho hg
          go_wp2_with fail
          go_roundw
          case rel => exact ⟨k + 1, k + 1, _, by omega, by omega, by go_num, by go_num, ho', b5, HN.out⟩
          case measure => simp [intOf]; omega
        · have e2 : (((x[k].toNat : Nat) : Int) == ((c.toNat : Nat) : Int)) = false := by
            have : x[k].toNat ≠ c.toNat := fun e => hc (UInt8.toNat_inj.1 e)
            simp
            omega
          have HN := Lib.hid (hat.miss (by omega) (by rw [hx]; exact hc))
          clear hat hx hc
          go_wp2_with fail
          go_roundw
          case rel => exact ⟨k + 1, j, bs, by omega, by omega, by go_num, rfl, hown, hB, HN.out⟩
          case measure => simp [intOf]; omega
    · have d0 : decide ((k : Int) ≤ (x.size : Int)) = false := by simp; omega
      have hfin : bs.map (·.data.toList) = split c x.data.toList := by
        rcases hat with ⟨h, _⟩ | ⟨_, h⟩
        · omega
        · exact h
      have hpos : 0 < bs.length := by
        have := congrArg List.length hfin
        rw [List.length_map, split_length] at this
        omega
      have HF := Lib.hid (And.intro hfin (StrRow.of_own (hi := wr.heap.size) hown hpos (fun g hg => (own_lt hown g hg).2)))
      clear hfin hat
      go_wp2_with fail
      go_ret
      exact ⟨_, bs, rfl, HF.out.1, HF.out.2, hB⟩

set_option maxHeartbeats 4000000 in
theorem refNumbers_any (ss : List ByteArray) (v : Value) (lo hi : Nat) (w : World) (hv : StrRow w hi v ss) (hhi : hi ≤ w.heap.size) (hlo : lo ≤ ss.length) (hss : ss.length ≤ 70001) :
    Calls Tryd.prog 34 #[v, .int .i64 (lo : Int)] w fun e w' =>
      ((∃ u, numsOf ((ss.map (·.data.toList)).drop lo) = none ∧ e = .returned (.tuple #[u, .bool false]) ∧ ∃ A c, u = .slice A 0 c) ∨
       ∃ ns u, numsOf ((ss.map (·.data.toList)).drop lo) = some ns ∧ e = .returned (.tuple #[u, .bool true]) ∧ IntRow w' w'.heap.size u (ns.map Int.ofNat)) ∧ Below w.heap.size w w' := by
  obtain ⟨g, c, cs, rfl, hg, hc, q0, hat⟩ := hv
  obtain ⟨i0, hi0, hz0, hz1, hz2⟩ := info_parts int_info
  have HI := Lib.hid hi0
  have HZ0 := Lib.hid hz0
  have HZ1 := Lib.hid hz1
  have HZ2 := Lib.hid hz2
  have HAT := Lib.hid hat
  clear hi0 hz0 hz1 hz2 hat
  go_enter Tryd.func34, Tryd.ntmps34
  go_wp2_with fail
  go_loopw [6, 7] (fun v i wr => ∃ (k : Nat) (ns : List Nat), lo + k ≤ ss.length ∧ i = .int .i64 ((lo + k : Nat) : Int) ∧ ns.length = k ∧ numsOf (((ss.map (·.data.toList)).drop lo).take k) = some ns ∧ wr.ownsRow w.heap.size 3 1 v ns.length ((ns.map Int.ofNat).map (Value.int .i64)) ∧ Below w.heap.size w wr) (fun _ i _ => ss.length - (intOf i).toNat)
  case atStart => exact ⟨0, [], by omega, rfl, rfl, by simp [numsOf], ⟨rfl, .inl ⟨rfl, rfl⟩⟩, Below.refl _ _⟩
  case round =>
    obtain ⟨k, ns, hk, rfl, hnl, hns, hown, hB⟩ := hrel
    have zB := hB.size
    obtain ⟨p, hp⟩ : ∃ p, p = lo + k := ⟨_, rfl⟩
    rw [← hp] at hk ⊢
    by_cases hlt : p < ss.length
    · have hd : decide ((p : Int) < (ss.length : Int)) = true := by simp; omega
      have hp0 : (0 : Int) ≤ (p : Int) := by omega
      have hp1 : (p : Int) < (ss.length : Int) := by omega
      have hcell : wr.cell? ⟨g, p, none⟩ = some (.string ss[p]) := by
        rw [hB.cell (p := ⟨g, p, none⟩) (by show g < _; omega), q0.cell]
        exact HAT.out p _ (List.getElem?_eq_getElem hlt)
      have hkl : k < ((ss.map (·.data.toList)).drop lo).length := by rw [List.length_drop, List.length_map]; omega
      have hxx : ((ss.map (·.data.toList)).drop lo)[k] = ss[p].data.toList := by
        rw [List.getElem_drop, List.getElem_map]
        simp only [hp]
      have hbad : numOf ((ss.map (·.data.toList)).drop lo)[k] = none → numsOf ((ss.map (·.data.toList)).drop lo) = none := numsOf_bad hkl
      rw [hxx] at hbad
      have hgood : ∀ n, numOf ss[p].data.toList = some n → numsOf (((ss.map (·.data.toList)).drop lo).take (k + 1)) = some (ns ++ [n]) := fun n hn => numsOf_snoc hkl hns (by rw [hxx]; exact hn)
      clear hxx hkl
      generalize ss[p] = x at hcell hbad hgood
      have HBAD := Lib.hid hbad
      have HGOOD := Lib.hid hgood
      have hkb : ns.length ≤ 70001 := by omega
      have HP := Lib.hid hp
      clear hbad hgood hns hp
      go_wp2_with fail
      refine (refNumber_any x _).mono ?_
      rintro e wx ⟨rfl, rfl⟩
      cases hn : numOf x.data.toList with
      | none =>
        have hi : numI x.data.toList = -1 := by unfold numI; rw [hn]
        have HB := Lib.hid (HBAD.out hn)
        rw [hi]
        clear hi hn
        go_wp2_with fail
        go_ret2
        exact ⟨.inl ⟨_, HB.out, rfl, _, _, rfl⟩, hB⟩
      | some n =>
        have hi : numI x.data.toList = (n : Int) := by unfold numI; rw [hn]
        have hsn := Lib.hid (HGOOD.out n hn)
        rw [hi]
        clear hi hn
        have hn0 : decide ((n : Int) < 0) = false := by simp
        go_wp2_with ((with_reducible apply wpl_appendOne Tryd.underlying40 HI.out HZ0.out HZ1.out HZ2.out rfl (by omega) w.heap.size (v := u6)) <;> try (first | exact rfl | exact hown | exact one_of _ | exact zB | exact (by unfold maxLen; omega) | omega))
        intro g5 cap5 w5 ho hgr
        have b5 : Below w.heap.size w w5 := (hB.alloc zB _).grown hgr (by simp; omega) (fun g hg' => (own_lt hown g hg').1)
        have ho' : w5.ownsRow w.heap.size 3 1 (.slice (some ⟨g5, 0, none⟩) (k + 1) cap5) (ns ++ [n]).length (((ns ++ [n]).map Int.ofNat).map (Value.int .i64)) := by
          rw [List.length_append, List.length_singleton, hnl]
          simpa [hnl] using ho
        clear ho hgr
        go_wp2_with fail
        go_roundw
        case rel =>
          have hp := HP.out
          refine ⟨k + 1, ns ++ [n], by omega, ?_, by simp [hnl], hsn.out, ?_, b5⟩
          · rw [show lo + (k + 1) = p + 1 by omega]
            go_num
          · exact ho'
        case measure => simp [intOf]; omega
    · have hpe : p = ss.length := by omega
      have hfull : ((ss.map (·.data.toList)).drop lo).take k = (ss.map (·.data.toList)).drop lo := List.take_of_length_le (by rw [List.length_drop, List.length_map]; omega)
      rw [hfull] at hns
      have hd : decide ((p : Int) < (ss.length : Int)) = false := by simp; omega
      have HF := Lib.hid (And.intro hns (IntRow.of_own (hi := wr.heap.size) hown (fun g hg => (own_lt hown g hg).2)))
      clear hns hfull
      go_wp2_with fail
      go_ret2
      exact ⟨.inr ⟨ns, _, HF.out.1, rfl, HF.out.2⟩, hB⟩

end Go.Proofs.YtgjfebnafjpcaaaDoor
