/-
  The contract of the reference's Text: the font's text.
-/
import Derived.Test.YtgjfebnafjpcaaaDoorTens
import Derived.Test.YtgjfebnafjpcaaaDoorSame
import Derived.Test.YtgjfebnafjpcaaaDoorMix
namespace Go.Proofs.YtgjfebnafjpcaaaDoor
open Go.RowKit
set_option maxRecDepth 100000

theorem cat_list (l m : List UInt8) : (⟨l.toArray⟩ ++ ⟨m.toArray⟩ : ByteArray) = ⟨(l ++ m).toArray⟩ := by
  apply ByteArray.ext
  simp
theorem size_list (l : List UInt8) : (⟨l.toArray⟩ : ByteArray).size = l.length := List.size_toArray

theorem wpm_cat {P : Program} {ops : Array Oper} {C0 : World → Prop} {S : Nat → Bool} {Q : Act → (World → Prop) → Prop} {k : Nat} {rest : List Oper} {a : Act} {C : World → Prop}
    {dst : Option Tmp} {ty : TypeId} {pos : String} {after : Array Edge} {gd : Option (Nat × Bool)}
    (t tr : TypeId) (x y : Operand) (l m : List UInt8) (hw : Region.wanted { dst := dst, op := .binOp .add t x y tr, type := ty, pos := pos, after := after, guard := gd } (yielded ops a.tmps) = true) (hS : S k = false)
    (hx : a.eval x = .string ⟨l.toArray⟩) (hy : a.eval y = .string ⟨m.toArray⟩) (hlen : l.length + m.length ≤ 9223372036854775807)
    (h : wpMix P ops C0 S Q (k + 1) rest (a.put dst (.string ⟨(l ++ m).toArray⟩)) C) : wpMix P ops C0 S Q k ({ dst := dst, op := .binOp .add t x y tr, type := ty, pos := pos, after := after, guard := gd } :: rest) a C := by
  refine wpm_run _ hw hS (fun w _ => ?_) h
  have hr : (binOp .add t (.string ⟨l.toArray⟩) (.string ⟨m.toArray⟩)).run P w = .ok (.string ⟨(l ++ m).toArray⟩) w := by
    simp only [binOp]
    rw [← cat_list]
    exact run_string_add_sum w _ _ (by rw [size_list, size_list]; exact hlen)
  simp [execOp, hx, hy, eqGuard, hr]

/-- What the reference's font reads as. -/
theorem refFont_reads {w : World} {lo hi : Nat} {f : Ft} {v : Value} (hf : f.Good) (h : RefFont w lo hi f v) :
    ∃ g cap, v = .agg #[.int .i64 (f.asc : Nat), .int .i64 (f.desc : Nat), .slice (some ⟨g, 0, none⟩) 95 cap] ∧ g < hi ∧ ∀ k, k < 95 → w.cell? ⟨g, k * 2, none⟩ = some (.int .i64 ((f.ls.getD k Lt.none).w : Nat)) ∧
      ∃ u, w.cell? ⟨g, k * 2 + 1, none⟩ = some u ∧ IntRow w hi u ((f.ls.getD k Lt.none).rows.map Int.ofNat) := by
  obtain ⟨u, xs, rfl, hown, hlt, hG⟩ := h
  obtain ⟨g, cap, rfl, hg, _⟩ := own_form hown (by rw [hf.all]; omega)
  rw [hf.all] at hown
  refine ⟨g, cap, by rw [hf.all], hlt g rfl, fun k hk => ?_⟩
  have hl : f.ls[k]? = some (f.ls.getD k Lt.none) := by
    rw [List.getD_eq_getElem?_getD, List.getElem?_eq_getElem (by rw [hf.all]; exact hk)]
    rfl
  obtain ⟨hx0, uv, hx1, hr⟩ := hG.get hl
  rw [Nat.mul_comm k 2]
  exact ⟨(hown.cellAt _ (by omega)).trans hx0, uv, (hown.cellAt _ (by omega)).trans hx1, hr⟩

theorem refFont_under : ∃ d, Tryd.prog.underlying 33 = some d := ⟨_, Tryd.underlying33⟩

set_option maxHeartbeats 2000000 in
theorem refText_any (f : Ft) (hf : f.Good) (v : Value) (lo hi : Nat) (w : World) (hR : RefFont w lo hi f v) (hhi : hi ≤ w.heap.size) :
    Calls Tryd.prog 19 #[v] w fun e w' => e = .returned (.string ⟨f.text.toArray⟩) ∧ Below w.heap.size w w' := by
  obtain ⟨i0, hi0, hz0, hz1, hz2⟩ := info_parts byte_info
  obtain ⟨g, cap, rfl, hg, hk⟩ := refFont_reads hf hR
  have hlow := hf.low
  have htop := hf.top
  have la := dec_length f.asc
  have ld := dec_length f.desc
  have HI := Lib.hid hi0
  have HZ0 := Lib.hid hz0
  have HZ1 := Lib.hid hz1
  have HZ2 := Lib.hid hz2
  clear hi0 hz0 hz1 hz2 hR
  go_enter Tryd.func19, Tryd.ntmps19
  go_wp2_with fail
  generalize hW : (w.alloc (Obj.cells #[Value.int IntKind.i64 (f.asc : Nat), Value.int IntKind.i64 (f.desc : Nat), Value.slice (some ⟨g, 0, none⟩) 95 cap] 33)) = W
  have q0 : Holds W w.heap.size 33 #[Value.int IntKind.i64 (f.asc : Nat), Value.int IntKind.i64 (f.desc : Nat), Value.slice (some ⟨g, 0, none⟩) 95 cap] := by subst hW; exact Holds.new _ _ _
  have B0 : Below w.heap.size w W := by subst hW; exact (Below.refl _ _).alloc (Nat.le_refl _) _
  have z0 := q0.lt
  clear hW
  refine wp_region_mix [2, 7, 10] (by kernel_rfl) (by kernel_rfl) (by kernel_rfl) (by kernel_rfl) ?_
  refine wpm_run (.pointer (some ⟨w.heap.size, 0, none⟩)) rfl rfl (fun w' h' => ?_) ?_
  · go_simp
  go_simp
  refine wpm_run (.int .i64 (f.asc : Nat)) rfl rfl (fun w' h' => ?_) ?_
  · have hc := (Grows.holds h' q0).cell 0
    simp at hc
    go_simp
  go_simp
  refine wpm_step (fun v => v = .string ⟨(dec f.asc).toArray⟩) (fun _ _ => True) rfl rfl ⟨_, rfl⟩ (fun w' h' => ?_) ?_
  · unfold stepAt
    go_simp
    refine (tens_any f.asc (by omega) _).mono ?_
    rintro e w5 ⟨rfl, h5⟩
    exact ⟨_, rfl, rfl, Grows.trans h' h5⟩
  rintro _ rfl
  go_simp
  refine wpm_cat _ _ _ _ [102, 111, 110, 116, 32] (dec f.asc) rfl rfl rfl rfl (by simp; omega) ?_
  go_simp
  refine wpm_cat _ _ _ _ ([102, 111, 110, 116, 32] ++ dec f.asc) [32] rfl rfl rfl rfl (by simp; omega) ?_
  go_simp
  refine wpm_run (.pointer (some ⟨w.heap.size, 1, none⟩)) rfl rfl (fun w' h' => ?_) ?_
  · go_simp
  go_simp
  refine wpm_run (.int .i64 (f.desc : Nat)) rfl rfl (fun w' h' => ?_) ?_
  · have hc := (Grows.holds h' q0).cell 1
    simp at hc
    go_simp
  go_simp
  refine wpm_step (fun v => v = .string ⟨(dec f.desc).toArray⟩) (fun _ _ => True) rfl rfl ⟨_, rfl⟩ (fun w' h' => ?_) ?_
  · unfold stepAt
    go_simp
    refine (tens_any f.desc (by omega) _).mono ?_
    rintro e w5 ⟨rfl, h5⟩
    exact ⟨_, rfl, rfl, Grows.trans h' h5⟩
  rintro _ rfl
  go_simp
  refine wpm_cat _ _ _ _ ([102, 111, 110, 116, 32] ++ dec f.asc ++ [32]) (dec f.desc) rfl rfl (by go_simp) rfl (by simp; omega) ?_
  go_simp
  refine wpm_cat _ _ _ _ ([102, 111, 110, 116, 32] ++ dec f.asc ++ [32] ++ dec f.desc) [10] rfl rfl (by go_simp) rfl (by simp; omega) ?_
  go_simp
  refine wpm_step (fun _ => True) (fun v w' => OwnB W.heap.size w' v (headText f)) rfl rfl ⟨undef, trivial⟩ (fun w' h' => ?_) ?_
  · obtain ⟨v, w5, hr, ho, hb⟩ := run_bytes (P := Tryd.prog) w' 9 72 5 ⟨(headText f).toArray⟩ Tryd.underlying9 Tryd.underlying72 Tryd.underlying5
    have e1 : (⟨(headText f).toArray⟩ : ByteArray).data.toList = headText f := by simp
    rw [e1] at ho
    have h6 : Grows W w5 := Grows.trans h' hb
    have ho' : OwnB W.heap.size w5 v (headText f) := by
      obtain ⟨g', cap', h1, h2, h3⟩ := ho
      exact ⟨g', cap', h1, Nat.le_trans (Below.size h') h2, h3⟩
    unfold stepAt
    go_simp
    have hr' : (convert 9 72 (.string ⟨(headText f).toArray⟩)).run Tryd.prog w' = .ok v w5 := hr
    have hh : headText f = 102 :: 111 :: 110 :: 116 :: 32 :: (dec f.asc ++ 32 :: (dec f.desc ++ [10])) := by simp [headText]
    rw [hh] at hr'
    rw [hr']
    exact ⟨h6, ho'⟩
  rintro v -
  go_simp
  refine wpm_assign _ rfl rfl ?_
  go_simp
  refine wpm_nil ?_
  rintro w5 ⟨b5, o5⟩
  go_wp2_with fail
  have o5 : OwnB W.heap.size w5 v (f.upto 0) := by rw [Ft.upto_zero]; exact o5
  have b5 : Below W.heap.size W w5 := b5
  clear la ld
  go_loopw [3, 4] (fun v i wr => ∃ k : Nat, k ≤ 95 ∧ i = .int .i64 k ∧ OwnB W.heap.size wr v (f.upto k) ∧ Below W.heap.size W wr) (fun _ i _ => 95 - (intOf i).toNat)
  case atStart => exact ⟨0, by omega, rfl, o5, b5⟩
  case round =>
    obtain ⟨k, hk95, rfl, ok, bk⟩ := hrel
    clear o5 b5
    have qk := q0.below bk z0
    have zk := bk.size
    have hc2 : wr.cell? ⟨w.heap.size, 2, none⟩ = some (.slice (some ⟨g, 0, none⟩) 95 cap) := by rw [qk.cell]; rfl
    by_cases hlt : k < 95
    · have hup := Ft.upto_length hf k (by omega)
      have hm := Ft.mem_getD hf k hlt
      have hlen := hf.rows _ hm
      have hwid := hf.wide _ hm
      have hrow : ∀ r ∈ (f.ls.getD k Lt.none).rows, r < 65536 := fun r hr => Ft.row_lt hf hm hr
      have hsucc := Ft.upto_succ f k
      have hll := lineText_length hf (32 + k) (by omega) hm
      obtain ⟨hw0, u, hw1, hr⟩ := hk k hlt
      generalize f.ls.getD k Lt.none = l at hm hlen hwid hrow hsucc hll hw0 hr
      obtain ⟨A, cu, hu⟩ := hr.form
      rw [List.length_map, hlen] at hu
      subst hu
      have hd6 := dec_length (32 + k)
      have hI : ∀ w' : World, Calls Tryd.prog 41 #[.int .i64 (32 + (k : Int))] w' fun e w'' => e = .returned (.string ⟨(dec (32 + k)).toArray⟩) ∧ Below w'.heap.size w' w'' := fun w' => by
        have := tens_any (32 + k) (by omega) w'
        rwa [Int.natCast_add] at this
      have rd : ∀ w' : World, Below W.heap.size W w' → w'.cell? ⟨w.heap.size, 2, none⟩ = some (.slice (some ⟨g, 0, none⟩) 95 cap) ∧ w'.cell? ⟨g, k * 2, none⟩ = some (.int .i64 (l.w : Nat)) ∧ w'.cell? ⟨g, k * 2 + 1, none⟩ = some (.slice A (f.asc + f.desc) cu) := fun w' hb => by
        have e1 : Below w.heap.size w w' := B0.trans (hb.mono (by omega))
        have hgw : g < w.heap.size := by omega
        refine ⟨by rw [(q0.below hb z0).cell]; rfl, ?_, ?_⟩
        · rw [e1.cell (p := ⟨g, k * 2, none⟩) hgw]; exact hw0
        · rw [e1.cell (p := ⟨g, k * 2 + 1, none⟩) hgw]; exact hw1
      have hk1 : (k : Int) < 95 := by omega
      have hk0 : (0 : Int) ≤ (k : Int) := by omega
      clear hw0 hw1 qk hk
      go_wp2_with fail
      refine (hI _).mono ?_
      rintro e w6 ⟨rfl, b6⟩
      have o6 := ok.below b6
      have x6 := bk.trans (b6.mono zk)
      have z6 := x6.size
      clear hI b6 ok bk hc2
      go_wp2_with ((with_reducible apply wpl_ownText (t := 72) (u := 9) (ht := Tryd.underlying72) (hu := Tryd.underlying9) (hi := HI.out) (hz := HZ0.out) (h1 := HZ1.out) (hby := HZ2.out) (hv := o6)) <;> try (first | exact rfl | (rw [size_list]; omega) | omega))
      intro v7 w7 o7 b7
      have x7 := x6.trans b7
      have z7 := x7.size
      clear o6 x6 b7
      have hc8 : (w7.alloc (.cells #[.int .u8 32] 5)).cell? ⟨w7.heap.size, 0, none⟩ = some (.int .u8 ((32 : UInt8).toNat : Int)) := by
        rw [Lib.cell_of_heap (heap_alloc_new w7 _)]; rfl
      have o7' := o7.alloc (.cells #[.int .u8 32] 5)
      go_wp2_with ((with_reducible apply wpl_ownByte (t := 72) (c := 32) (ht := Tryd.underlying72) (hi := HI.out) (hz := HZ0.out) (h1 := HZ1.out) (hby := HZ2.out) (hv := o7')) <;> try (first | exact rfl | exact hc8 | (simp; omega) | omega))
      intro v8 w8 o8 b8
      have x8 := x7.trans ((Below.refl _ _).alloc z7 (.cells #[.int .u8 32] 5) |>.trans b8)
      have z8 := x8.size
      have hl8 : ((f.upto k ++ dec (32 + k)) ++ [32]).length ≤ 1000000000 := by
        simp only [List.length_append, List.length_cons, List.length_nil]
        omega
      clear o7 o7' hc8 b8 x7
      obtain ⟨e1, e2, e3⟩ := rd w8 x8
      have hdw := dec_length l.w
      go_wp2_with fail
      refine (tens_any l.w (by omega) _).mono ?_
      rintro e w9 ⟨rfl, b9⟩
      have o9 := o8.below b9
      have x9 := x8.trans (b9.mono z8)
      have z9 := x9.size
      clear o8 x8 b9 e1 e2 e3
      go_wp2_with ((with_reducible apply wpl_ownText (t := 72) (u := 9) (ht := Tryd.underlying72) (hu := Tryd.underlying9) (hi := HI.out) (hz := HZ0.out) (h1 := HZ1.out) (hby := HZ2.out) (hv := o9)) <;> try (first | exact rfl | (rw [size_list]; omega) | omega))
      intro v10 w10 o10 b10
      have x10 := x9.trans b10
      have hl10 : ((((f.upto k ++ dec (32 + k)) ++ [32]) ++ dec l.w)).length ≤ 1000000100 := by
        rw [List.length_append]
        omega
      clear o9 x9 b10
      go_wp2_with fail
      go_loopw [3, 5] (fun v i wr' => ∃ y : Nat, y ≤ f.asc + f.desc ∧ i = .int .i64 y ∧ OwnB W.heap.size wr' v ((((f.upto k ++ dec (32 + k)) ++ [32]) ++ dec l.w) ++ rowsText (l.rows.take y)) ∧ Below W.heap.size W wr') (fun _ i _ => f.asc + f.desc - (intOf i).toNat)
      case atStart => exact ⟨0, by omega, rfl, by simpa [rowsText_nil] using o10, x10⟩
      case round =>
        obtain ⟨y, hy, rfl, oy, xy⟩ := hrel
        clear o10 x10
        obtain ⟨e1, e2, e3⟩ := rd wr xy
        have zy := xy.size
        have hrl : (rowsText (l.rows.take y)).length ≤ 16 * 65538 := by
          have h1 := rowsText_length (l.rows.take y) (fun r hr => hrow r (List.mem_of_mem_take hr))
          have h2 : (l.rows.take y).length ≤ 16 := by rw [List.length_take]; omega
          exact Nat.le_trans h1 (Nat.mul_le_mul_right _ h2)
        have hly : ((((f.upto k ++ dec (32 + k)) ++ [32]) ++ dec l.w) ++ rowsText (l.rows.take y)).length ≤ 1100000000 := by
          rw [List.length_append]
          omega
        by_cases hyl : y < f.asc + f.desc
        · have hyr : y < l.rows.length := by omega
          have hz : (l.rows.map Int.ofNat)[y]? = some (Int.ofNat l.rows[y]) := by rw [List.getElem?_map, List.getElem?_eq_getElem hyr]; rfl
          obtain ⟨gr, off, capr, hq, hcu⟩ := hr.at_ hz
          have hA := (Value.slice.inj hq).1
          clear hq hz
          subst hA
          have hgr := World.block_lt_of_cell? w _ hcu
          have hsn : rowsText (l.rows.take (y + 1)) = (rowsText (l.rows.take y) ++ [32]) ++ dec l.rows[y] := by
            rw [List.take_succ_eq_append_getElem hyr, rowsText_snoc]
            simp
          have hlt16 := hrow l.rows[y] (List.getElem_mem _)
          generalize l.rows[y] = r at hcu hsn hlt16
          have rr : ∀ w' : World, Below W.heap.size W w' → w'.cell? ⟨gr, off + y, none⟩ = some (.int .i64 (r : Int)) := fun w' hb => by
            have e1 : Below w.heap.size w w' := B0.trans (hb.mono (by omega))
            rw [e1.cell (p := ⟨gr, off + y, none⟩) hgr]; exact hcu
          have hdr := dec_length r
          have hc8 : (wr.alloc (.cells #[.int .u8 32] 5)).cell? ⟨wr.heap.size, 0, none⟩ = some (.int .u8 ((32 : UInt8).toNat : Int)) := by
            rw [Lib.cell_of_heap (heap_alloc_new wr _)]; rfl
          have oy' := oy.alloc (.cells #[.int .u8 32] 5)
          have hy1 : (0 : Int) ≤ (y : Int) := by omega
          have hy2 : (y : Int) < ((f.asc + f.desc : Nat) : Int) := by omega
          go_wp2_with ((with_reducible apply wpl_ownByte (t := 72) (c := 32) (ht := Tryd.underlying72) (hi := HI.out) (hz := HZ0.out) (h1 := HZ1.out) (hby := HZ2.out) (hv := oy')) <;> try (first | exact rfl | exact hc8 | (simp; omega) | omega))
          intro v11 w11 o11 b11
          have o11 : OwnB W.heap.size w11 v11 (((((f.upto k ++ dec (32 + k)) ++ [32]) ++ dec l.w) ++ rowsText (l.rows.take y)) ++ [32]) := by simpa using o11
          have x11 := xy.trans ((Below.refl _ _).alloc zy (.cells #[.int .u8 32] 5) |>.trans b11)
          have z11 := x11.size
          clear oy' hc8 oy b11 xy e1 e2 e3
          obtain ⟨e1, e2, e3⟩ := rd w11 x11
          have e4 := rr w11 x11
          go_wp2_with fail
          refine (tens_any r (by omega) _).mono ?_
          rintro e w12 ⟨rfl, b12⟩
          have o12 := o11.below b12
          have x12 := x11.trans (b12.mono z11)
          have z12 := x12.size
          have hl12 : (((((f.upto k ++ dec (32 + k)) ++ [32]) ++ dec l.w) ++ rowsText (l.rows.take y)) ++ [32]).length ≤ 1100000001 := by
            rw [List.length_append]
            simp only [List.length_cons, List.length_nil]
            omega
          clear o11 x11 b12 e1 e2 e3 e4
          go_wp2_with ((with_reducible apply wpl_ownText (t := 72) (u := 9) (ht := Tryd.underlying72) (hu := Tryd.underlying9) (hi := HI.out) (hz := HZ0.out) (h1 := HZ1.out) (hby := HZ2.out) (hv := o12)) <;> try (first | exact rfl | (rw [size_list]; omega) | omega))
          intro v13 w13 o13 b13
          have o13 : OwnB W.heap.size w13 v13 ((((((f.upto k ++ dec (32 + k)) ++ [32]) ++ dec l.w) ++ rowsText (l.rows.take y)) ++ [32]) ++ dec r) := by simpa using o13
          have x13 := x12.trans b13
          have e13 : (((((f.upto k ++ dec (32 + k)) ++ [32]) ++ dec l.w) ++ rowsText (l.rows.take y)) ++ [32]) ++ dec r = ((((f.upto k ++ dec (32 + k)) ++ [32]) ++ dec l.w) ++ rowsText (l.rows.take (y + 1))) := by
            rw [hsn]
            simp
          clear hsn rr hrl hly hl12
          go_wp2_with fail
          go_roundw
          case rel => exact ⟨y + 1, by omega, by go_num, by rw [← e13]; exact o13, x13⟩
          case measure => simp [intOf]; omega
        · have hy' : y = f.asc + f.desc := by omega
          subst hy'
          have htk : l.rows.take (f.asc + f.desc) = l.rows := List.take_of_length_le (by omega)
          rw [htk] at oy hly
          have hc8 : (wr.alloc (.cells #[.int .u8 10] 5)).cell? ⟨wr.heap.size, 0, none⟩ = some (.int .u8 ((10 : UInt8).toNat : Int)) := by
            rw [Lib.cell_of_heap (heap_alloc_new wr _)]; rfl
          have oy' := oy.alloc (.cells #[.int .u8 10] 5)
          clear hrl htk
          go_wp2_with ((with_reducible apply wpl_ownByte (t := 72) (c := 10) (ht := Tryd.underlying72) (hi := HI.out) (hz := HZ0.out) (h1 := HZ1.out) (hby := HZ2.out) (hv := oy')) <;> try (first | exact rfl | exact hc8 | (simp; omega) | omega))
          intro v11 w11 o11 b11
          have o11 : OwnB W.heap.size w11 v11 (((((f.upto k ++ dec (32 + k)) ++ [32]) ++ dec l.w) ++ rowsText l.rows) ++ [10]) := by simpa using o11
          have x11 := xy.trans ((Below.refl _ _).alloc zy (.cells #[.int .u8 10] 5) |>.trans b11)
          have e11 : (((((f.upto k ++ dec (32 + k)) ++ [32]) ++ dec l.w) ++ rowsText l.rows) ++ [10]) = f.upto (k + 1) := by
            rw [hsucc]
            simp [lineText]
          rw [e11] at o11
          clear e11 hly hl10 hl8 hup hll hc8 oy oy'
          go_wp2_with fail
          go_roundw
          case rel => exact ⟨k + 1, by omega, by go_num, o11, x11⟩
          case measure => simp [intOf]; omega
    · have hk' : k = 95 := by omega
      subst hk'
      go_wp2_with ((with_reducible apply wpl_back (hx := ok) (hs := Tryd.underlying72) (he := Tryd.underlying5) (hd := Tryd.underlying9)))
      go_ret
      have e : f.text = f.upto 95 := by
        unfold Ft.text Ft.high
        rw [if_neg (by omega)]
      rw [e]
      exact ⟨rfl, B0.trans (bk.mono (by omega))⟩

set_option maxHeartbeats 1000000 in
theorem refText_none (A : Option Addr) (c : Nat) (w : World) :
    Calls Tryd.prog 19 #[.agg #[.int .i64 0, .int .i64 0, .slice A 0 c]] w fun e w' => e = .returned (.string ⟨Ft.none.text.toArray⟩) ∧ Below w.heap.size w w' := by
  go_enter Tryd.func19, Tryd.ntmps19
  go_wp2
  go_ret
  exact ⟨rfl, (Below.refl _ _).alloc (Nat.le_refl _) _⟩

theorem refText_fine (f : Ft) (hf : f.Fine) (v : Value) (lo hi : Nat) (w : World) (hR : RefFont w lo hi f v) (hhi : hi ≤ w.heap.size) :
    Calls Tryd.prog 19 #[v] w fun e w' => e = .returned (.string ⟨f.text.toArray⟩) ∧ Below w.heap.size w w' := by
  rcases hf with hf | rfl
  · exact refText_any f hf v lo hi w hR hhi
  · obtain ⟨u, xs, rfl, hown, _, _⟩ := hR
    have hu : ∃ A c, u = .slice A 0 c := by
      rcases hown.2 with ⟨h, _⟩ | ⟨g, cap, cur, rfl, _⟩
      · exact ⟨_, _, h⟩
      · exact ⟨_, _, rfl⟩
    obtain ⟨A, c, rfl⟩ := hu
    exact refText_none A c w

end Go.Proofs.YtgjfebnafjpcaaaDoor
