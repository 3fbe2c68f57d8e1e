/-
  The contract of the program's Parse.
-/
import Derived.Test.YtgjfebnafjpcaaaDoorLine
import Derived.Test.YtgjfebnafjpcaaaDoorParseLaw
namespace Go.Proofs.YtgjfebnafjpcaaaDoor
open Go.RowKit
set_option maxRecDepth 100000

theorem arr_list (P : List UInt8) : (⟨P.toArray⟩ : ByteArray).data.toList = P := by simp
/-- What Parse hands back. -/
def ParseIs (s : List UInt8) (w : World) (e : Ending) (w' : World) : Prop :=
  e = .returned (.tuple #[.agg (fcells (parse s).1.cell), .int .i64 ((parse s).2.1 : Nat), .int .i64 ((parse s).2.2 : Nat)]) ∧ Below w.heap.size w w'

theorem results_row_tmp2 {P : Program} {fn : Func} {p t u : Tmp} {tt : TypeId} (h : fn.results = #[.cell p tt, .tmp t, .tmp u]) (tmps : Array Value) (w : World) (g : Nat) (e : TypeId) (cs : Array Value) (dd : TypeDesc)
    (hp : tmps.getD p undef = .pointer (some ⟨g, 0, none⟩)) (hg : Holds w g e cs) (hu : P.underlying tt = some dd) (hd : (match dd with | .struct _ | .array _ _ => true | _ => false) = true) (hi : (P.info? tt).map (·.size) = some cs.size) :
    (results fn tmps).run P w = .ok (.tuple #[.agg cs, tmps.getD t undef, tmps.getD u undef]) w := by
  have hp' : tmps[p]?.getD undef = .pointer (some ⟨g, 0, none⟩) := by simpa using hp
  simp [results, h, hp', asAddr, run_loadVar_row w g e tt cs (0, 0) dd hg hu hd hi]

theorem getD_drop' {α : Type} (a : List α) (k i : Nat) (x : α) : (a.drop k).getD i x = a.getD (k + i) x := by
  rw [List.getD_eq_getElem?_getD, List.getD_eq_getElem?_getD, List.getElem?_drop]
/-- So many letters of a text are read; r is left. -/
structure On (s r : List UInt8) (a d : Nat) (ls : List Lt) : Prop where
  le : ls.length ≤ 95
  ad : a + d ≤ 16
  spl : split 10 r = (split 10 s).drop (ls.length + 1)
  len : ls.length + 2 ≤ (split 10 s).length
  par : parse s = lettersOf a d (split 10 s) (95 - ls.length) ls
  short : r.length ≤ s.length
theorem head_miss {s : List UInt8} (h0 : s ≠ []) (hl : s.length ≤ 65536) (hm : (10 : UInt8) ∉ s) : parse s = (Ft.none, 1, 3) := by
  unfold parse
  rw [if_neg h0, if_neg (by omega), if_pos (by rw [split_miss 10 s hm]; simp)]
theorem head_hit {s A B : List UInt8} (hl : s.length ≤ 65536) (hs : s = A ++ 10 :: B) (hA : (10 : UInt8) ∉ A) : split 10 s = A :: split 10 B ∧ parse s = match headOf A with
    | .error e => (Ft.none, 1, e)
    | .ok (a, d) => lettersOf a d (split 10 s) 95 [] := by
  have hne := List.length_pos_iff.2 (split_ne 10 B)
  have h2 : split 10 s = A :: split 10 B := by rw [hs]; exact split_hit 10 A B hA
  have h0 : s ≠ [] := by rw [hs]; simp
  refine ⟨h2, ?_⟩
  rw [parse_lines h0 hl (by rw [h2, List.length_cons]; omega)]
  have e : (split 10 s).headD [] = A := by rw [h2]; rfl
  rw [e]
  rcases headOf A with e | ⟨a, d⟩ <;> rfl
theorem head_bad {s A B : List UInt8} (hl : s.length ≤ 65536) (hs : s = A ++ 10 :: B) (hA : (10 : UInt8) ∉ A) {c : Nat} (hc : headOf A = .error c) : parse s = (Ft.none, 1, c) := by
  rw [(head_hit hl hs hA).2, hc]
theorem head_good {s A B : List UInt8} (hl : s.length ≤ 65536) (hs : s = A ++ 10 :: B) (hA : (10 : UInt8) ∉ A) {a d : Nat} (hc : headOf A = .ok (a, d)) : On s B a d [] := by
  have hne := List.length_pos_iff.2 (split_ne 10 B)
  obtain ⟨h1, h2⟩ := head_hit hl hs hA
  rw [hc] at h2
  refine ⟨by simp, (headOf_ok hc).2.2.2.2, by rw [h1]; rfl, by rw [h1]; simp; omega, h2, by rw [hs]; simp; omega⟩
theorem On.miss {s r : List UInt8} {a d : Nat} {ls : List Lt} (h : On s r a d ls) (hl : ls.length < 95) (hm : (10 : UInt8) ∉ r) : parse s = (Ft.none, ls.length + 2, 3) := by
  have h1 := congrArg List.length h.spl
  rw [split_miss 10 r hm, List.length_singleton, List.length_drop] at h1
  rw [h.par, show 95 - ls.length = (94 - ls.length) + 1 by omega, lettersOf, if_pos (by omega)]
theorem On.hit {s r : List UInt8} {a d : Nat} {ls : List Lt} (h : On s r a d ls) (hl : ls.length < 95) {A B : List UInt8} (hr : r = A ++ 10 :: B) (hA : (10 : UInt8) ∉ A) :
    ls.length + 3 ≤ (split 10 s).length ∧ split 10 B = (split 10 s).drop (ls.length + 2) ∧ parse s = match letterOf (32 + ls.length) (a + d) A with
    | .error e => (Ft.none, ls.length + 2, e)
    | .ok l => lettersOf a d (split 10 s) (94 - ls.length) (ls ++ [l]) := by
  have hne := List.length_pos_iff.2 (split_ne 10 B)
  have h1 := h.spl
  rw [hr, split_hit 10 A B hA] at h1
  have h2 := congrArg List.length h1
  rw [List.length_cons, List.length_drop] at h2
  have h3 : (split 10 s).getD (ls.length + 1) [] = A := by
    have := congrArg (fun l => l.getD 0 []) h1
    rw [getD_drop', Nat.add_zero] at this
    exact this.symm
  have h4 : split 10 B = (split 10 s).drop (ls.length + 2) := by
    have := congrArg List.tail h1
    rw [List.tail_cons, List.tail_drop] at this
    exact this
  refine ⟨by omega, h4, ?_⟩
  rw [h.par, show 95 - ls.length = (94 - ls.length) + 1 by omega, lettersOf, if_neg (by omega), h3]
  rcases letterOf (32 + ls.length) (a + d) A with e | l <;> rfl
theorem On.bad {s r : List UInt8} {a d : Nat} {ls : List Lt} (h : On s r a d ls) (hl : ls.length < 95) {A B : List UInt8} (hr : r = A ++ 10 :: B) (hA : (10 : UInt8) ∉ A) {c : Nat} (hc : letterOf (32 + ls.length) (a + d) A = .error c) : parse s = (Ft.none, ls.length + 2, c) := by
  rw [(h.hit hl hr hA).2.2, hc]
theorem On.good {s r : List UInt8} {a d : Nat} {ls : List Lt} (h : On s r a d ls) (hl : ls.length < 95) {A B : List UInt8} (hr : r = A ++ 10 :: B) (hA : (10 : UInt8) ∉ A) {l : Lt} (hc : letterOf (32 + ls.length) (a + d) A = .ok l) : On s B a d (ls ++ [l]) := by
  obtain ⟨h1, h2, h3⟩ := h.hit hl hr hA
  have hs := h.short
  rw [hc] at h3
  have e : (ls ++ [l]).length = ls.length + 1 := by simp
  refine ⟨by rw [e]; omega, h.ad, by rw [e]; exact h2, by rw [e]; omega, by rw [e, show 95 - (ls.length + 1) = 94 - ls.length by omega]; exact h3, ?_⟩
  rw [hr] at hs
  simp at hs
  omega
theorem On.end_ {s r : List UInt8} {a d : Nat} {ls : List Lt} (h : On s r a d ls) (hl : ls.length = 95) : parse s = if r = [] then (⟨a, d, ls⟩, 0, 0) else (Ft.none, 97, 4) := by
  have h1 := h.spl
  have h2 := h.len
  rw [h.par, hl, Nat.sub_self, lettersOf]
  rw [hl] at h1 h2
  have hlen := congrArg List.length h1
  rw [List.length_drop] at hlen
  have hg : (split 10 s).getD 96 [] = (split 10 r).getD 0 [] := by
    rw [h1, getD_drop']
  rw [hg]
  by_cases hr : r = []
  · subst hr
    have e : split 10 ([] : List UInt8) = [[]] := rfl
    rw [e] at hlen ⊢
    rw [List.length_singleton] at hlen
    rw [if_pos rfl, if_neg]
    rintro (h | h)
    · omega
    · exact h rfl
  · rw [if_neg hr, if_pos]
    by_cases hm : (10 : UInt8) ∈ r
    · left
      rw [split_length] at hlen
      have := List.count_pos_iff.2 hm
      omega
    · right
      rw [split_miss 10 r hm]
      exact hr

/-- Where the loop stands: line number n comes next, r is left of the text, the font holds F. -/
def At (s : List UInt8) (n : Nat) (r : List UInt8) (F : Nat → Int) : Prop :=
  (n = 1 ∧ r = s ∧ F = bare 0 0) ∨ ∃ a d ls, n = ls.length + 2 ∧ F = Ft.cell ⟨a, d, ls⟩ ∧ On s r a d ls
theorem zero_bare : (fcells fun _ => 0) = fcells (bare 0 0) := fcells_ext _ _ fun i _ => by
  unfold bare
  by_cases h0 : i = 0
  · rw [if_pos h0]
  · by_cases h1 : i = 1
    · rw [if_neg h0, if_pos h1]
    · rw [if_neg h0, if_neg h1]
theorem zero_none : (fcells fun _ => 0) = fcells Ft.none.cell := fcells_ext _ _ fun i _ => (Ft.none_cell i).symm

set_option maxHeartbeats 4000000 in
theorem parse_any (s : ByteArray) (w : World) (hm : MaxL w) :
    Calls Tryd.prog 12 #[.string s] w (ParseIs s.data.toList w) := by
  have hsl : s.data.toList.length = s.size := by simp
  -- what the call ends with where an error is told
  have fin : ∀ (n c : Nat) (w' : World), Below w.heap.size w w' → parse s.data.toList = (Ft.none, n, c) → ParseIs s.data.toList w (.returned (.tuple #[.agg (fcells fun _ => 0), .int .i64 (n : Int), .int .i64 (c : Int)])) w' := fun n c w' hb hp => by
    unfold ParseIs
    rw [hp, zero_none]
    exact ⟨rfl, hb⟩
  by_cases h0 : s.size = 0
  · have e0 := empty_yes s h0
    have hp : parse s.data.toList = (Ft.none, 0, 13) := by
      unfold parse
      rw [if_pos (List.length_eq_zero_iff.1 (by omega))]
    have HE := Lib.hid (fin 0 13 (w.alloc (.cells (fcells fun _ => 0) 28)) ((Below.refl _ _).alloc (Nat.le_refl _) _) hp)
    clear fin hp
    go_enter Tryd.func12, Tryd.ntmps12
    go_wp2_with (first | (with_reducible apply arm_alloc) | (with_reducible apply arm_build0) | ((with_reducible apply arm_store) <;> try exact rfl))
    refine bodyPost_ret (results_row_tmp2 rfl _ _ w.heap.size _ _ _ rfl (Holds.new w _ _) Tryd.underlying28 rfl (by rw [fcells_size]; exact font_size)) rfl ?_
    exact HE.out
  · have e0 := empty_no s h0
    by_cases hb : 65536 < s.size
    · have e1 : decide ((65536 : Int) < (s.size : Int)) = true := by simp; omega
      have hp : parse s.data.toList = (Ft.none, 0, 4) := by
        unfold parse
        rw [if_neg (fun e => h0 (by rw [← hsl, e]; rfl)), if_pos (by omega)]
      have HE := Lib.hid (fin 0 4 (w.alloc (.cells (fcells fun _ => 0) 28)) ((Below.refl _ _).alloc (Nat.le_refl _) _) hp)
      clear fin hp
      go_enter Tryd.func12, Tryd.ntmps12
      go_wp2_with (first | (with_reducible apply arm_alloc) | (with_reducible apply arm_build0) | ((with_reducible apply arm_store) <;> try exact rfl))
      refine bodyPost_ret (results_row_tmp2 rfl _ _ w.heap.size _ _ _ rfl (Holds.new w _ _) Tryd.underlying28 rfl (by rw [fcells_size]; exact font_size)) rfl ?_
      exact HE.out
    · have e1 : decide ((65536 : Int) < (s.size : Int)) = false := by simp; omega
      have hne : s.data.toList ≠ [] := fun e => h0 (by rw [← hsl, e]; rfl)
      have hle : s.data.toList.length ≤ 65536 := by omega
      go_enter Tryd.func12, Tryd.ntmps12
      go_wp2_with (first | (with_reducible apply arm_alloc) | (with_reducible apply arm_build0))
      go_loopw [0, 6] (fun t i wr => ∃ (n : Nat) (r : ByteArray) (F : Nat → Int), 1 ≤ n ∧ n ≤ 97 ∧ t = .string r ∧ i = .int .i64 n ∧ At s.data.toList n r.data.toList F ∧
        Holds wr w.heap.size 28 (fcells fun _ => 0) ∧ Holds wr (w.heap.size + 1) 28 (fcells F) ∧ Below w.heap.size w wr) (fun _ i _ => 97 - (intOf i).toNat)
      case atStart =>
        refine ⟨1, s, bare 0 0, by omega, by omega, rfl, rfl, .inl ⟨rfl, rfl, rfl⟩, heap_alloc2_old _ _ _, ?_, ((Below.refl _ _).alloc (Nat.le_refl _) _).alloc (by simp) _⟩
        rw [← zero_bare]
        exact heap_alloc2_new _ _ _
      case round =>
        obtain ⟨n, r, F, hn1, hn2, rfl, rfl, hat, q1, q2, hB⟩ := hrel
        have hrl : r.data.toList.length = r.size := by simp
        have hrs : r.size ≤ 65536 := by
          rcases hat with ⟨_, h, _⟩ | ⟨_, _, _, _, _, h⟩
          · rw [h] at hrl; omega
          · have := h.short; omega
        have hmr := hm.on hB
        have zr := q2.lt
        -- the way out at an error
        have out : ∀ (w1 : World) (c : Nat), Below (w.heap.size + 1) wr w1 → parse s.data.toList = (Ft.none, n, c) → ParseIs s.data.toList w (.returned (.tuple #[.agg (fcells fun _ => 0), .int .i64 (n : Int), .int .i64 (c : Int)])) (w1.setRow w.heap.size (fcells fun _ => 0)) := fun w1 c b hp =>
          fin n c _ (below_setRow (hB.trans (b.mono (by omega))) (Nat.le_refl _) _) hp
        by_cases hlt : n ≤ 96
        · have d96 : decide ((n : Int) ≤ 96) = true := by simp; omega
          have hn0 : (0 : Int) ≤ (n : Int) := by omega
          have hn9 : (n : Int) ≤ 96 := by omega
          go_wp2_with fail
          refine (cut_any r 10 _ (by omega) hmr).mono ?_
          rintro e w1 ⟨⟨hno, rfl⟩ | ⟨P, R, hPR, hP, rfl⟩, b1⟩
          · have hp : parse s.data.toList = (Ft.none, n, 3) := by
              rcases hat with ⟨rfl, h, _⟩ | ⟨a, d, ls, rfl, _, h⟩
              · rw [h] at hno
                exact head_miss hne hle hno
              · exact h.miss (by omega) hno
            have k1 := q1.below b1 q1.lt
            have HE := Lib.hid (out w1 3 (b1.mono (by omega)) hp)
            clear hp out fin hat hno
            go_wp2_with (first | (with_reducible apply arm_build0) | ((with_reducible apply arm_storeAt) <;> try (first | exact rfl | exact k1)))
            refine bodyPost_ret (results_row_tmp2 rfl _ _ w.heap.size _ _ _ rfl (k1.row _) Tryd.underlying28 rfl (by rw [fcells_size]; exact font_size)) rfl ?_
            exact HE.out
          · have hPs : (⟨P.toArray⟩ : ByteArray).size ≤ 70000 := by
              have h2 : (⟨P.toArray⟩ : ByteArray).size = P.length := List.size_toArray
              rw [hPR] at hrl
              simp at hrl
              omega
            have k1 := q1.below b1 q1.lt
            have k2 := q2.below b1 q2.lt
            have z1 := b1.size
            have B1 := hB.trans (b1.mono hB.size)
            rcases hat with ⟨rfl, hrs', rfl⟩ | ⟨a, d, ls, hn, rfl, hon⟩
            · have hsA : s.data.toList = P ++ 10 :: R := by rw [← hrs']; exact hPR
              have H1 := Lib.hid hsA
              have H2 := Lib.hid hP
              have H3 := Lib.hid out
              clear hsA hP out fin hPR hrl hrs'
              go_wp2_with fail
              refine (head_any ⟨P.toArray⟩ (w.heap.size + 1) _ k2 hPs (hmr.on b1)).mono ?_
              intro e w2 hh
              unfold HeadIs at hh
              rw [arr_list] at hh
              cases hc : headOf P with
              | error c =>
                rw [hc] at hh
                obtain ⟨rfl, b2⟩ := hh
                have hp := head_bad hle H1.out H2.out hc
                have c0 := (headOf_err hc).1
                have hcn : ((c : Int) != 0) = true := by simp; omega
                have hcn' : ((c : Int) == 0) = false := by simp; omega
                have j1 := k1.below b2 k1.lt
                have HE := Lib.hid (H3.out w2 c ((b1.mono (by omega)).trans (b2.mono (by omega))) hp)
                clear hp H3 H1 H2 hc
                go_wp2_with (first | (with_reducible apply arm_build0) | ((with_reducible apply arm_storeAt) <;> try (first | exact rfl | exact j1)))
                refine bodyPost_ret (results_row_tmp2 rfl _ _ w.heap.size _ _ _ rfl (j1.row _) Tryd.underlying28 rfl (by rw [fcells_size]; exact font_size)) rfl ?_
                exact HE.out
              | ok ad =>
                obtain ⟨a, d⟩ := ad
                rw [hc] at hh
                obtain ⟨rfl, j2, g2⟩ := hh
                have hon := head_good hle H1.out H2.out hc
                have j1 := k1.grown g2 (by simp)
                have B2 := B1.grown g2 (by omega) (fun k hk => by
                  have : w.heap.size + 1 = k := by simpa using hk
                  omega)
                have HR := Lib.hid (And.intro hon (And.intro j1 (And.intro j2 B2)))
                clear hon j1 j2 B2 H1 H2 H3 hc g2
                go_wp2_with fail
                go_roundw
                case rel => exact ⟨2, ⟨R.toArray⟩, _, by omega, by omega, rfl, rfl, .inr ⟨a, d, [], rfl, rfl, by rw [arr_list]; exact HR.out.1⟩, HR.out.2.1, HR.out.2.2.1, HR.out.2.2.2⟩
                case measure => simp [intOf]
            · have hk : (n : Int) - 2 = (ls.length : Nat) := by omega
              have d1 : ((n : Int) == 1) = false := by simp; omega
              have hls : ls.length < 95 := by omega
              have HN := Lib.hid hn
              have HO := Lib.hid hon
              have H1 := Lib.hid hPR
              have H2 := Lib.hid hP
              have H3 := Lib.hid out
              clear hn hon hPR hP out fin
              go_wp2_with fail
              refine (line_any a d ls HO.out.ad hls ⟨P.toArray⟩ (w.heap.size + 1) _ k2 hPs (hmr.on b1)).mono ?_
              intro e w2 hh
              unfold LineIs at hh
              rw [arr_list] at hh
              cases hc : letterOf (32 + ls.length) (a + d) P with
              | error c =>
                rw [hc] at hh
                obtain ⟨rfl, b2⟩ := hh
                have hp := HO.out.bad hls H1.out H2.out hc
                rw [← HN.out] at hp
                have c0 := (letterOf_err hc).1
                have hcn : ((c : Int) != 0) = true := by simp; omega
                have hcn' : ((c : Int) == 0) = false := by simp; omega
                have j1 := k1.below b2 k1.lt
                have HE := Lib.hid (H3.out w2 c ((b1.mono (by omega)).trans (b2.mono (by omega))) hp)
                clear hp H3 H1 H2 hc hk
                go_wp2_with (first | (with_reducible apply arm_build0) | ((with_reducible apply arm_storeAt) <;> try (first | exact rfl | exact j1)))
                refine bodyPost_ret (results_row_tmp2 rfl _ _ w.heap.size _ _ _ rfl (j1.row _) Tryd.underlying28 rfl (by rw [fcells_size]; exact font_size)) rfl ?_
                exact HE.out
              | ok l =>
                rw [hc] at hh
                obtain ⟨rfl, j2, g2⟩ := hh
                have hon := HO.out.good hls H1.out H2.out hc
                have j1 := k1.grown g2 (by simp)
                have B2 := B1.grown g2 (by omega) (fun k hk => by
                  have : w.heap.size + 1 = k := by simpa using hk
                  omega)
                have HR := Lib.hid (And.intro hon (And.intro j1 (And.intro j2 B2)))
                clear hon j1 j2 B2 H1 H2 H3 hc g2 hk
                go_wp2_with fail
                go_roundw
                case rel => exact ⟨n + 1, ⟨R.toArray⟩, _, by omega, by omega, rfl, by go_num, .inr ⟨a, d, ls ++ [l], by have := HN.out; simp; omega, rfl, by rw [arr_list]; exact HR.out.1⟩, HR.out.2.1, HR.out.2.2.1, HR.out.2.2.2⟩
                case measure => simp [intOf]; omega
        · have hn97 : n = 97 := by omega
          subst hn97
          rcases hat with ⟨h, _⟩ | ⟨a, d, ls, hn, rfl, hon⟩
          · cases h
          · have hp := hon.end_ (by omega)
            by_cases hr0 : r.size = 0
            · have r0 := empty_yes r hr0
              rw [if_pos (List.length_eq_zero_iff.1 (by omega))] at hp
              have HE : ParseIs s.data.toList w (.returned (.tuple #[.agg (fcells (Ft.cell ⟨a, d, ls⟩)), .int .i64 0, .int .i64 0])) (wr.setRow w.heap.size (fcells (Ft.cell ⟨a, d, ls⟩))) := by
                unfold ParseIs
                rw [hp]
                exact ⟨rfl, below_setRow hB (Nat.le_refl _) _⟩
              have HE := Lib.hid HE
              clear hp hon out fin hn
              go_wp2_with (first | ((with_reducible apply arm_load) <;> try (first | exact rfl | exact q2)) | ((with_reducible apply arm_storeAt) <;> try (first | exact rfl | exact q1)))
              refine bodyPost_ret (results_row_tmp2 rfl _ _ w.heap.size _ _ _ rfl (q1.row _) Tryd.underlying28 rfl (by rw [fcells_size]; exact font_size)) rfl ?_
              exact HE.out
            · have r0 := empty_no r hr0
              rw [if_neg (fun e => hr0 (by rw [← hrl, e]; rfl))] at hp
              have HE := Lib.hid (out wr 4 (Below.refl _ _) hp)
              clear hp hon out fin hn
              go_wp2_with (first | (with_reducible apply arm_build0) | ((with_reducible apply arm_storeAt) <;> try (first | exact rfl | exact q1)))
              refine bodyPost_ret (results_row_tmp2 rfl _ _ w.heap.size _ _ _ rfl (q1.row _) Tryd.underlying28 rfl (by rw [fcells_size]; exact font_size)) rfl ?_
              exact HE.out

end Go.Proofs.YtgjfebnafjpcaaaDoor
