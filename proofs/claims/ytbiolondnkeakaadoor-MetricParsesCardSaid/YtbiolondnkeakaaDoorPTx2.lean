-- Written by this session's program wip/tools/xprint.py out of the translation's own print. Not trusted: Lean checks it.
import Derived.Test.YtbiolondnkeakaaDoorPTx0
import Derived.Test.YtbiolondnkeakaaDoorPTx1
namespace Go.Proofs.YtbiolondnkeakaaDoor.PT
open Go.RowKit Go.Proofs.YtbiolondnkeakaaDoorW.PrintWords Go.Proofs.YtbiolondnkeakaaDoorW.PrintLast Go.Proofs.YtbiolondnkeakaaDoorW.PrintMore
attribute [local go_sem] max2_int min2_int max_two min_two max_three min_three max_four min_four   -- for this text's walks alone
set_option linter.unusedVariables false
set_option linter.unusedSimpArgs false

/-! ### flagstoneref34_Check: function 24 -/
mutual
def flagstoneref34_Check.j0 : Nat → Bool → Bool → Int → ByteArray → ByteArray → Int → Int → Int → Int → Option (Int)
  | 0, _, _, _, _, _, _, _, _, _ => none
  | k + 1, x3, x23, x110000, x110001, x110002, x110003, x110004, x110005, x110006 => if x23 = true then (some 6) else ((flagstoneref34_within.f x110003 1 68719476736).bind fun t113 => (if t113 = true then ((flagstoneref34_within.f x110004 1 1048576).bind fun t114 => (if t114 = true then ((flagstoneref34_within.f x110005 (-1099511627776) 1099511627776).bind fun t115 => (if t115 = true then ((flagstoneref34_within.f x110006 0 68719476736).bind fun t116 => (flagstoneref34_Check.j1 k x3 (!t116) x110000 x110001 x110002 x110003 x110004 x110005 x110006)) else (flagstoneref34_Check.j1 k x3 true x110000 x110001 x110002 x110003 x110004 x110005 x110006))) else (flagstoneref34_Check.j1 k x3 true x110000 x110001 x110002 x110003 x110004 x110005 x110006))) else (flagstoneref34_Check.j1 k x3 true x110000 x110001 x110002 x110003 x110004 x110005 x110006)))
def flagstoneref34_Check.j1 : Nat → Bool → Bool → Int → ByteArray → ByteArray → Int → Int → Int → Int → Option (Int)
  | 0, _, _, _, _, _, _, _, _, _ => none
  | k + 1, x3, x45, x110000, x110001, x110002, x110003, x110004, x110005, x110006 => if x45 = true then (some 3) else (if x3 = true then (if x110000 = 3 then (if x110004 = 1 then (some 0) else (some 15)) else (some 0)) else (if x110002.toList = ([] : List UInt8) then (if x110000 = 3 then (if x110004 = 1 then (some 0) else (some 15)) else (some 0)) else (some 15)))
end
def flagstoneref34_Check.f (k : Nat) (a0_0 : Int) (a0_1 : ByteArray) (a0_2 : ByteArray) (a0_3 : Int) (a0_4 : Int) (a0_5 : Int) (a0_6 : Int) : Option (Int) := (flagstoneref34_within.f a0_0 1 4).bind fun t110 => (if t110 = true then ((flagstoneref1_Key.f k a0_1).bind fun t111 => (if t111 = true then (if a0_0 = 4 then ((flagstoneref1_Key.f k a0_2).bind fun t112 => (flagstoneref34_Check.j0 k (a0_0 == 4) (!t112) a0_0 a0_1 a0_2 a0_3 a0_4 a0_5 a0_6)) else (flagstoneref34_Check.j0 k (a0_0 == 4) false a0_0 a0_1 a0_2 a0_3 a0_4 a0_5 a0_6)) else (flagstoneref34_Check.j0 k (a0_0 == 4) true a0_0 a0_1 a0_2 a0_3 a0_4 a0_5 a0_6))) else (some 7))
theorem flagstoneref34_Check.mono_l : ∀ k, (∀ y0 y1 y2 y3 y4 y5 y6 y7 y8, LeO (flagstoneref34_Check.j0 k y0 y1 y2 y3 y4 y5 y6 y7 y8) (flagstoneref34_Check.j0 (k + 1) y0 y1 y2 y3 y4 y5 y6 y7 y8)) ∧ (∀ y0 y1 y2 y3 y4 y5 y6 y7 y8, LeO (flagstoneref34_Check.j1 k y0 y1 y2 y3 y4 y5 y6 y7 y8) (flagstoneref34_Check.j1 (k + 1) y0 y1 y2 y3 y4 y5 y6 y7 y8))
  | 0 => ⟨fun _ _ _ _ _ _ _ _ _ r h => by simp [flagstoneref34_Check.j0] at h, fun _ _ _ _ _ _ _ _ _ r h => by simp [flagstoneref34_Check.j1] at h⟩
  | k + 1 => by
    obtain ⟨ih0, ih1⟩ := flagstoneref34_Check.mono_l k
    refine ⟨?_, ?_⟩
    · intro y0 y1 y2 y3 y4 y5 y6 y7 y8
      unfold flagstoneref34_Check.j0
      repeat' first
      | (with_reducible exact ih0 _ _ _ _ _ _ _ _ _)
      | (with_reducible exact ih1 _ _ _ _ _ _ _ _ _)
      | (with_reducible exact flagstoneref1_Key.mono _ _)
      | (with_reducible exact LeO.refl _)
      | (with_reducible exact LeO.none _)
      | (with_reducible refine LeO.ite ?_ ?_)
      | (with_reducible refine LeO.bind ?_ (fun _ => ?_))
      | exact ih0 _ _ _ _ _ _ _ _ _
      | exact ih1 _ _ _ _ _ _ _ _ _
      | exact flagstoneref1_Key.mono _ _
      | exact LeO.none _
      | refine LeO.ite ?_ ?_
      | refine LeO.bind ?_ (fun _ => ?_)
    · intro y0 y1 y2 y3 y4 y5 y6 y7 y8
      unfold flagstoneref34_Check.j1
      repeat' first
      | (with_reducible exact ih0 _ _ _ _ _ _ _ _ _)
      | (with_reducible exact ih1 _ _ _ _ _ _ _ _ _)
      | (with_reducible exact flagstoneref1_Key.mono _ _)
      | (with_reducible exact LeO.refl _)
      | (with_reducible exact LeO.none _)
      | (with_reducible refine LeO.ite ?_ ?_)
      | (with_reducible refine LeO.bind ?_ (fun _ => ?_))
      | exact ih0 _ _ _ _ _ _ _ _ _
      | exact ih1 _ _ _ _ _ _ _ _ _
      | exact flagstoneref1_Key.mono _ _
      | exact LeO.none _
      | refine LeO.ite ?_ ?_
      | refine LeO.bind ?_ (fun _ => ?_)
theorem flagstoneref34_Check.mono : ∀ a0 a1 a2 a3 a4 a5 a6 k, LeO (flagstoneref34_Check.f k a0 a1 a2 a3 a4 a5 a6) (flagstoneref34_Check.f (k + 1) a0 a1 a2 a3 a4 a5 a6) := by
  intro a0 a1 a2 a3 a4 a5 a6 k
  obtain ⟨ih0, ih1⟩ := flagstoneref34_Check.mono_l k
  unfold flagstoneref34_Check.f
  repeat' first
      | (with_reducible exact ih0 _ _ _ _ _ _ _ _ _)
      | (with_reducible exact ih1 _ _ _ _ _ _ _ _ _)
      | (with_reducible exact flagstoneref1_Key.mono _ _)
      | (with_reducible exact LeO.refl _)
      | (with_reducible exact LeO.none _)
      | (with_reducible refine LeO.ite ?_ ?_)
      | (with_reducible refine LeO.bind ?_ (fun _ => ?_))
      | exact ih0 _ _ _ _ _ _ _ _ _
      | exact ih1 _ _ _ _ _ _ _ _ _
      | exact flagstoneref1_Key.mono _ _
      | exact LeO.none _
      | refine LeO.ite ?_ ?_
      | refine LeO.bind ?_ (fun _ => ?_)
set_option maxHeartbeats 8000000 in
set_option maxRecDepth 100000 in
theorem flagstoneref34_Check.calls (k : Nat) (a0_0 : Int) (a0_1 : ByteArray) (a0_2 : ByteArray) (a0_3 : Int) (a0_4 : Int) (a0_5 : Int) (a0_6 : Int) (r : Int) (w : World) (h : flagstoneref34_Check.f k a0_0 a0_1 a0_2 a0_3 a0_4 a0_5 a0_6 = some r) :
    Calls Tryd.prog 24 #[.agg #[.int .i64 a0_0, .string a0_1, .string a0_2, .int .i64 a0_3, .int .i64 a0_4, .int .i64 a0_5, .int .i64 a0_6]] w fun e w' => e = .returned (.int .i64 r) ∧ Below w.heap.size w w' := by
  have hu29 := Tryd.underlying29
  have HB := Aside0.mk (Below.refl w.heap.size w)
  have H : ((flagstoneref34_within.f a0_0 1 4).bind fun t110 => (if t110 = true then ((flagstoneref1_Key.f k a0_1).bind fun t111 => (if t111 = true then (if a0_0 = 4 then ((flagstoneref1_Key.f k a0_2).bind fun t112 => (flagstoneref34_Check.j0 k (a0_0 == 4) (!t112) a0_0 a0_1 a0_2 a0_3 a0_4 a0_5 a0_6)) else (flagstoneref34_Check.j0 k (a0_0 == 4) false a0_0 a0_1 a0_2 a0_3 a0_4 a0_5 a0_6)) else (flagstoneref34_Check.j0 k (a0_0 == 4) true a0_0 a0_1 a0_2 a0_3 a0_4 a0_5 a0_6))) else (some 7))) = some r := h
  clear h
  replace H := Option.bind_eq_some_iff.mp H
  obtain ⟨t110, A20, H⟩ := H
  replace H : (if t110 = true then ((flagstoneref1_Key.f k a0_1).bind fun t111 => (if t111 = true then (if a0_0 = 4 then ((flagstoneref1_Key.f k a0_2).bind fun t112 => (flagstoneref34_Check.j0 k (a0_0 == 4) (!t112) a0_0 a0_1 a0_2 a0_3 a0_4 a0_5 a0_6)) else (flagstoneref34_Check.j0 k (a0_0 == 4) false a0_0 a0_1 a0_2 a0_3 a0_4 a0_5 a0_6)) else (flagstoneref34_Check.j0 k (a0_0 == 4) true a0_0 a0_1 a0_2 a0_3 a0_4 a0_5 a0_6))) else (some 7)) = some r := H
  have A2 := Aside0.mk A20
  clear A20
  by_cases c3 : t110 = true
  · subst c3
    have H1 : ((flagstoneref1_Key.f k a0_1).bind fun t111 => (if t111 = true then (if a0_0 = 4 then ((flagstoneref1_Key.f k a0_2).bind fun t112 => (flagstoneref34_Check.j0 k (a0_0 == 4) (!t112) a0_0 a0_1 a0_2 a0_3 a0_4 a0_5 a0_6)) else (flagstoneref34_Check.j0 k (a0_0 == 4) false a0_0 a0_1 a0_2 a0_3 a0_4 a0_5 a0_6)) else (flagstoneref34_Check.j0 k (a0_0 == 4) true a0_0 a0_1 a0_2 a0_3 a0_4 a0_5 a0_6))) = some r := by rw [if_pos rfl] at H; exact H
    clear H
    have H := H1
    clear H1
    have HC4 := Aside0.mk H
    clear H
    go_enter Tryd.func24, Tryd.ntmps24
    go_upto_region 4 with (first | ((with_reducible refine gate_dst (N := 1) rfl ?_); refine box_event ?hg (N := 1) ?hd (cs := #[.int .i64 a0_0, .string a0_1, .string a0_2, .int .i64 a0_3, .int .i64 a0_4, .int .i64 a0_5, .int .i64 a0_6]) (t := 29) ?hr ?_; (case hd => rfl); (case hg => rfl); (case hr => first | (go_simp; done) | (go_simp; rfl)); intro gb109 hg w5 hbox hb; have n0_ := Aside0.mk (below_step (by repeat (first | (with_reducible first | exact HB.out | apply below_alloc | apply pw_below_drewN | apply below_drew1) | exact HB.out)) hb); have n1_ := Aside0.mk (hbox); have n2_ := Aside0.mk ((by rw [hg]; exact (below_size (by repeat (first | (with_reducible first | exact HB.out | apply below_alloc | apply pw_below_drewN | apply below_drew1) | exact HB.out))) : w.heap.size ≤ gb109)); have n3_ := Aside0.mk ((by rw [hg]; exact (below_size (by repeat (first | (with_reducible first | exact HB.out | apply below_alloc | apply pw_below_drewN | apply below_drew1) | exact HB.out))) : w.heap.size ≤ gb109)); clear HB; have HB := n0_; have BK109 := n1_; have GW109 := n2_; have GE109 := n3_; clear n0_ n1_ n2_ n3_; clear hb hbox hg; have hcz6_0 : w5.cell? ⟨gb109, 0, none⟩ = some (.int .i64 a0_0) := (blk_cell BK109.out 0).trans rfl; have hcz6_1 : w5.cell? ⟨gb109, 1, none⟩ = some (.string a0_1) := (blk_cell BK109.out 1).trans rfl; have hcz6_2 : w5.cell? ⟨gb109, 2, none⟩ = some (.string a0_2) := (blk_cell BK109.out 2).trans rfl; have hcz6_3 : w5.cell? ⟨gb109, 3, none⟩ = some (.int .i64 a0_3) := (blk_cell BK109.out 3).trans rfl; have hcz6_4 : w5.cell? ⟨gb109, 4, none⟩ = some (.int .i64 a0_4) := (blk_cell BK109.out 4).trans rfl; have hcz6_5 : w5.cell? ⟨gb109, 5, none⟩ = some (.int .i64 a0_5) := (blk_cell BK109.out 5).trans rfl; have hcz6_6 : w5.cell? ⟨gb109, 6, none⟩ = some (.int .i64 a0_6) := (blk_cell BK109.out 6).trans rfl; have hfz6_0 := blk_frozen BK109.out 0; have hfz6_1 := blk_frozen BK109.out 1; have hfz6_2 := blk_frozen BK109.out 2; have hfz6_3 := blk_frozen BK109.out 3; have hfz6_4 := blk_frozen BK109.out 4; have hfz6_5 := blk_frozen BK109.out 5; have hfz6_6 := blk_frozen BK109.out 6) | ((with_reducible refine gate_callee (f := 50) rfl ?_); refine goesL_ (some 6) rfl rfl Tryd.func50 (by kernel_rfl) rfl #[.int .i64 a0_0, .int .i64 1, .int .i64 4] rfl (by (try simp only [List.map_toArray, List.map_cons, List.map_nil]); first | done | rfl | (simp only [List.length_drop, List.length_take]; rfl)) ?_; (with_reducible refine (flagstoneref34_within.calls a0_0 1 4 true _ A2.out).mono ?_); rintro e w' ⟨rfl, ⟨nd, rfl⟩⟩; refine ⟨_, rfl, ?_⟩))
    (try simp only [Act.put, List.setIfInBounds_toArray, List.set_cons_zero, List.set_cons_succ])
    go_cut [23] (fun v23 wc => ∃ (kq : Nat) (x23_3 : Bool), v23 = .bool x23_3 ∧ Aside0 (flagstoneref34_Check.j0 kq (a0_0 == 4) x23_3 a0_0 a0_1 a0_2 a0_3 a0_4 a0_5 a0_6 = some r) ∧ Aside0 (kq ≤ k) ∧ Aside0 (wc.heap[gb109]? = some (.cells #[.int .i64 a0_0, .string a0_1, .string a0_2, .int .i64 a0_3, .int .i64 a0_4, .int .i64 a0_5, .int .i64 a0_6] 29 (0, 0))) ∧ Aside0 (Below w.heap.size w wc))
    case first =>
      have H := HC4.out
      clear HC4
      replace H := Option.bind_eq_some_iff.mp H
      obtain ⟨t111, A70, H⟩ := H
      replace H : (if t111 = true then (if a0_0 = 4 then ((flagstoneref1_Key.f k a0_2).bind fun t112 => (flagstoneref34_Check.j0 k (a0_0 == 4) (!t112) a0_0 a0_1 a0_2 a0_3 a0_4 a0_5 a0_6)) else (flagstoneref34_Check.j0 k (a0_0 == 4) false a0_0 a0_1 a0_2 a0_3 a0_4 a0_5 a0_6)) else (flagstoneref34_Check.j0 k (a0_0 == 4) true a0_0 a0_1 a0_2 a0_3 a0_4 a0_5 a0_6)) = some r := H
      have A7 := Aside0.mk A70
      clear A70
      by_cases c8 : t111 = true
      · subst c8
        have H1 : (if a0_0 = 4 then ((flagstoneref1_Key.f k a0_2).bind fun t112 => (flagstoneref34_Check.j0 k (a0_0 == 4) (!t112) a0_0 a0_1 a0_2 a0_3 a0_4 a0_5 a0_6)) else (flagstoneref34_Check.j0 k (a0_0 == 4) false a0_0 a0_1 a0_2 a0_3 a0_4 a0_5 a0_6)) = some r := by rw [if_pos rfl] at H; exact H
        clear H
        have H := H1
        clear H1
        by_cases c9 : a0_0 = 4
        · rw [if_pos c9] at H
          have c9b0 : (a0_0 == 4) = true := beq_iff_eq.mpr c9
          have c9b1 : (a0_0 != 4) = false := bne_eq_false_iff_eq.mpr c9
          clear c9
          (first | rw [c9b0] | (simp only [i64_w, i32_w]; rw [c9b0]) | skip)
          replace H := Option.bind_eq_some_iff.mp H
          obtain ⟨t112, A100, H⟩ := H
          replace H : (flagstoneref34_Check.j0 k (a0_0 == 4) (!t112) a0_0 a0_1 a0_2 a0_3 a0_4 a0_5 a0_6) = some r := H
          have A10 := Aside0.mk A100
          clear A100
          have H' := Aside0.mk H
          clear H
          have hcz11_0 : w5.cell? ⟨gb109, 0, none⟩ = some (.int .i64 a0_0) := (blk_cell BK109.out 0).trans rfl
          have hcz11_1 : w5.cell? ⟨gb109, 1, none⟩ = some (.string a0_1) := (blk_cell BK109.out 1).trans rfl
          have hcz11_2 : w5.cell? ⟨gb109, 2, none⟩ = some (.string a0_2) := (blk_cell BK109.out 2).trans rfl
          have hcz11_3 : w5.cell? ⟨gb109, 3, none⟩ = some (.int .i64 a0_3) := (blk_cell BK109.out 3).trans rfl
          have hcz11_4 : w5.cell? ⟨gb109, 4, none⟩ = some (.int .i64 a0_4) := (blk_cell BK109.out 4).trans rfl
          have hcz11_5 : w5.cell? ⟨gb109, 5, none⟩ = some (.int .i64 a0_5) := (blk_cell BK109.out 5).trans rfl
          have hcz11_6 : w5.cell? ⟨gb109, 6, none⟩ = some (.int .i64 a0_6) := (blk_cell BK109.out 6).trans rfl
          have hfz11_0 := blk_frozen BK109.out 0
          have hfz11_1 := blk_frozen BK109.out 1
          have hfz11_2 := blk_frozen BK109.out 2
          have hfz11_3 := blk_frozen BK109.out 3
          have hfz11_4 := blk_frozen BK109.out 4
          have hfz11_5 := blk_frozen BK109.out 5
          have hfz11_6 := blk_frozen BK109.out 6
          go_wp2_with (first | ((with_reducible refine gate_callee (f := 51) rfl ?_); refine goesL_ (some 13) rfl rfl Tryd.func51 (by kernel_rfl) rfl #[.string a0_1] rfl (by (try simp only [List.map_toArray, List.map_cons, List.map_nil]); first | done | rfl | (simp only [List.length_drop, List.length_take]; rfl)) ?_; (with_reducible refine (flagstoneref1_Key.calls k a0_1 true _ A7.out).mono ?_); rintro e w12 ⟨rfl, hb⟩; refine ⟨_, rfl, ?_⟩; have n0_ := Aside0.mk (blk_below (g := gb109) (o := .cells #[.int .i64 a0_0, .string a0_1, .string a0_2, .int .i64 a0_3, .int .i64 a0_4, .int .i64 a0_5, .int .i64 a0_6] 29 (0, 0)) (by (with_reducible repeat (first | refine blk_drewN ?_ _ | refine blk_drew ?_ | refine blk_alloc ?_ _)); exact BK109.out) hb); have n1_ := Aside0.mk (below_step (by repeat (first | (with_reducible first | exact HB.out | apply below_alloc | apply pw_below_drewN | apply below_drew1 | refine below_set ?_ GE109.out) | exact HB.out)) hb); clear BK109; clear HB; have BK109 := n0_; have HB := n1_; clear n0_ n1_; (try clear hb); (try clear hb2); (try clear hk); (try clear hi); have hcz13_0 : w12.cell? ⟨gb109, 0, none⟩ = some (.int .i64 a0_0) := (blk_cell BK109.out 0).trans rfl; have hcz13_1 : w12.cell? ⟨gb109, 1, none⟩ = some (.string a0_1) := (blk_cell BK109.out 1).trans rfl; have hcz13_2 : w12.cell? ⟨gb109, 2, none⟩ = some (.string a0_2) := (blk_cell BK109.out 2).trans rfl; have hcz13_3 : w12.cell? ⟨gb109, 3, none⟩ = some (.int .i64 a0_3) := (blk_cell BK109.out 3).trans rfl; have hcz13_4 : w12.cell? ⟨gb109, 4, none⟩ = some (.int .i64 a0_4) := (blk_cell BK109.out 4).trans rfl; have hcz13_5 : w12.cell? ⟨gb109, 5, none⟩ = some (.int .i64 a0_5) := (blk_cell BK109.out 5).trans rfl; have hcz13_6 : w12.cell? ⟨gb109, 6, none⟩ = some (.int .i64 a0_6) := (blk_cell BK109.out 6).trans rfl; have hfz13_0 := blk_frozen BK109.out 0; have hfz13_1 := blk_frozen BK109.out 1; have hfz13_2 := blk_frozen BK109.out 2; have hfz13_3 := blk_frozen BK109.out 3; have hfz13_4 := blk_frozen BK109.out 4; have hfz13_5 := blk_frozen BK109.out 5; have hfz13_6 := blk_frozen BK109.out 6) | (go_at_call 51; (with_reducible refine (flagstoneref1_Key.calls k a0_2 t112 _ A10.out).mono ?_); rintro e w14 ⟨rfl, hb⟩; have n0_ := Aside0.mk (blk_below (g := gb109) (o := .cells #[.int .i64 a0_0, .string a0_1, .string a0_2, .int .i64 a0_3, .int .i64 a0_4, .int .i64 a0_5, .int .i64 a0_6] 29 (0, 0)) (by (with_reducible repeat (first | refine blk_drewN ?_ _ | refine blk_drew ?_ | refine blk_alloc ?_ _)); exact BK109.out) hb); have n1_ := Aside0.mk (below_step (by repeat (first | (with_reducible first | exact HB.out | apply below_alloc | apply pw_below_drewN | apply below_drew1 | refine below_set ?_ GE109.out) | exact HB.out)) hb); clear BK109; clear HB; have BK109 := n0_; have HB := n1_; clear n0_ n1_; (try clear hb); (try clear hb2); (try clear hk); (try clear hi)))
          refine Met.intro ?_
          go_step
          (repeat apply Exists.intro)
          refine ⟨?rel, ?fr⟩
          case fr => rw [c9b0]
          case rel => exact ⟨_, (!t112), (by first | rfl | (simp; done) | (simp [*]; done)), H', ⟨by first | omega | exact Nat.le_refl _⟩, ⟨by (with_reducible repeat (first | refine blk_drewN ?_ _ | refine blk_drew ?_ | refine blk_alloc ?_ _)); exact BK109.out⟩, ⟨by repeat (first | (with_reducible first | exact HB.out | apply below_alloc | apply pw_below_drewN | apply below_drew1 | refine below_set ?_ GE109.out) | exact HB.out)⟩⟩
        · rw [if_neg c9] at H
          have c9b0 : (a0_0 == 4) = false := beq_eq_false_iff_ne.mpr c9
          have c9b1 : (a0_0 != 4) = true := bne_iff_ne.mpr c9
          (first | rw [c9b0] | (simp only [i64_w, i32_w]; rw [c9b0]) | skip)
          have H' := Aside0.mk H
          clear H
          have hcz15_0 : w5.cell? ⟨gb109, 0, none⟩ = some (.int .i64 a0_0) := (blk_cell BK109.out 0).trans rfl
          have hcz15_1 : w5.cell? ⟨gb109, 1, none⟩ = some (.string a0_1) := (blk_cell BK109.out 1).trans rfl
          have hcz15_2 : w5.cell? ⟨gb109, 2, none⟩ = some (.string a0_2) := (blk_cell BK109.out 2).trans rfl
          have hcz15_3 : w5.cell? ⟨gb109, 3, none⟩ = some (.int .i64 a0_3) := (blk_cell BK109.out 3).trans rfl
          have hcz15_4 : w5.cell? ⟨gb109, 4, none⟩ = some (.int .i64 a0_4) := (blk_cell BK109.out 4).trans rfl
          have hcz15_5 : w5.cell? ⟨gb109, 5, none⟩ = some (.int .i64 a0_5) := (blk_cell BK109.out 5).trans rfl
          have hcz15_6 : w5.cell? ⟨gb109, 6, none⟩ = some (.int .i64 a0_6) := (blk_cell BK109.out 6).trans rfl
          have hfz15_0 := blk_frozen BK109.out 0
          have hfz15_1 := blk_frozen BK109.out 1
          have hfz15_2 := blk_frozen BK109.out 2
          have hfz15_3 := blk_frozen BK109.out 3
          have hfz15_4 := blk_frozen BK109.out 4
          have hfz15_5 := blk_frozen BK109.out 5
          have hfz15_6 := blk_frozen BK109.out 6
          go_wp2_with (first | ((with_reducible refine gate_callee (f := 51) rfl ?_); refine goesL_ (some 13) rfl rfl Tryd.func51 (by kernel_rfl) rfl #[.string a0_1] rfl (by (try simp only [List.map_toArray, List.map_cons, List.map_nil]); first | done | rfl | (simp only [List.length_drop, List.length_take]; rfl)) ?_; (with_reducible refine (flagstoneref1_Key.calls k a0_1 true _ A7.out).mono ?_); rintro e w16 ⟨rfl, hb⟩; refine ⟨_, rfl, ?_⟩; have n0_ := Aside0.mk (blk_below (g := gb109) (o := .cells #[.int .i64 a0_0, .string a0_1, .string a0_2, .int .i64 a0_3, .int .i64 a0_4, .int .i64 a0_5, .int .i64 a0_6] 29 (0, 0)) (by (with_reducible repeat (first | refine blk_drewN ?_ _ | refine blk_drew ?_ | refine blk_alloc ?_ _)); exact BK109.out) hb); have n1_ := Aside0.mk (below_step (by repeat (first | (with_reducible first | exact HB.out | apply below_alloc | apply pw_below_drewN | apply below_drew1 | refine below_set ?_ GE109.out) | exact HB.out)) hb); clear BK109; clear HB; have BK109 := n0_; have HB := n1_; clear n0_ n1_; (try clear hb); (try clear hb2); (try clear hk); (try clear hi)))
          refine Met.intro ?_
          go_step
          (repeat apply Exists.intro)
          refine ⟨?rel, ?fr⟩
          case fr => rw [c9b0]
          case rel => exact ⟨_, (false), (by first | rfl | (simp; done) | (simp [*]; done)), H', ⟨by first | omega | exact Nat.le_refl _⟩, ⟨by (with_reducible repeat (first | refine blk_drewN ?_ _ | refine blk_drew ?_ | refine blk_alloc ?_ _)); exact BK109.out⟩, ⟨by repeat (first | (with_reducible first | exact HB.out | apply below_alloc | apply pw_below_drewN | apply below_drew1 | refine below_set ?_ GE109.out) | exact HB.out)⟩⟩
      · replace c8 := Bool.eq_false_iff.mpr c8
        subst c8
        have H1 : (flagstoneref34_Check.j0 k (a0_0 == 4) true a0_0 a0_1 a0_2 a0_3 a0_4 a0_5 a0_6) = some r := by rw [if_neg (show ¬ (false = true) by decide)] at H; exact H
        clear H
        have H := H1
        clear H1
        have H' := Aside0.mk H
        clear H
        have hcz17_0 : w5.cell? ⟨gb109, 0, none⟩ = some (.int .i64 a0_0) := (blk_cell BK109.out 0).trans rfl
        have hcz17_1 : w5.cell? ⟨gb109, 1, none⟩ = some (.string a0_1) := (blk_cell BK109.out 1).trans rfl
        have hcz17_2 : w5.cell? ⟨gb109, 2, none⟩ = some (.string a0_2) := (blk_cell BK109.out 2).trans rfl
        have hcz17_3 : w5.cell? ⟨gb109, 3, none⟩ = some (.int .i64 a0_3) := (blk_cell BK109.out 3).trans rfl
        have hcz17_4 : w5.cell? ⟨gb109, 4, none⟩ = some (.int .i64 a0_4) := (blk_cell BK109.out 4).trans rfl
        have hcz17_5 : w5.cell? ⟨gb109, 5, none⟩ = some (.int .i64 a0_5) := (blk_cell BK109.out 5).trans rfl
        have hcz17_6 : w5.cell? ⟨gb109, 6, none⟩ = some (.int .i64 a0_6) := (blk_cell BK109.out 6).trans rfl
        have hfz17_0 := blk_frozen BK109.out 0
        have hfz17_1 := blk_frozen BK109.out 1
        have hfz17_2 := blk_frozen BK109.out 2
        have hfz17_3 := blk_frozen BK109.out 3
        have hfz17_4 := blk_frozen BK109.out 4
        have hfz17_5 := blk_frozen BK109.out 5
        have hfz17_6 := blk_frozen BK109.out 6
        go_wp2_with (first | ((with_reducible refine gate_callee (f := 51) rfl ?_); refine goesL_ (some 13) rfl rfl Tryd.func51 (by kernel_rfl) rfl #[.string a0_1] rfl (by (try simp only [List.map_toArray, List.map_cons, List.map_nil]); first | done | rfl | (simp only [List.length_drop, List.length_take]; rfl)) ?_; (with_reducible refine (flagstoneref1_Key.calls k a0_1 false _ A7.out).mono ?_); rintro e w18 ⟨rfl, hb⟩; refine ⟨_, rfl, ?_⟩; have n0_ := Aside0.mk (blk_below (g := gb109) (o := .cells #[.int .i64 a0_0, .string a0_1, .string a0_2, .int .i64 a0_3, .int .i64 a0_4, .int .i64 a0_5, .int .i64 a0_6] 29 (0, 0)) (by (with_reducible repeat (first | refine blk_drewN ?_ _ | refine blk_drew ?_ | refine blk_alloc ?_ _)); exact BK109.out) hb); have n1_ := Aside0.mk (below_step (by repeat (first | (with_reducible first | exact HB.out | apply below_alloc | apply pw_below_drewN | apply below_drew1 | refine below_set ?_ GE109.out) | exact HB.out)) hb); clear BK109; clear HB; have BK109 := n0_; have HB := n1_; clear n0_ n1_; (try clear hb); (try clear hb2); (try clear hk); (try clear hi)))
        go_meet
        case rel => exact ⟨_, (true), (by first | rfl | (simp; done) | (simp [*]; done)), H', ⟨by first | omega | exact Nat.le_refl _⟩, ⟨by (with_reducible repeat (first | refine blk_drewN ?_ _ | refine blk_drew ?_ | refine blk_alloc ?_ _)); exact BK109.out⟩, ⟨by repeat (first | (with_reducible first | exact HB.out | apply below_alloc | apply pw_below_drewN | apply below_drew1 | refine below_set ?_ GE109.out) | exact HB.out)⟩⟩
    case rest =>
      clear HC4
      try clear c2
      try clear p2
      try clear c3
      try clear c5
      try clear c8
      try clear c9
      try clear c9b0
      try clear c9b1
      try clear hcz11_0
      try clear hcz11_1
      try clear hcz11_2
      try clear hcz11_3
      try clear hcz11_4
      try clear hcz11_5
      try clear hcz11_6
      try clear hcz13_0
      try clear hcz13_1
      try clear hcz13_2
      try clear hcz13_3
      try clear hcz13_4
      try clear hcz13_5
      try clear hcz13_6
      try clear hcz15_0
      try clear hcz15_1
      try clear hcz15_2
      try clear hcz15_3
      try clear hcz15_4
      try clear hcz15_5
      try clear hcz15_6
      try clear hcz17_0
      try clear hcz17_1
      try clear hcz17_2
      try clear hcz17_3
      try clear hcz17_4
      try clear hcz17_5
      try clear hcz17_6
      try clear hcz6_0
      try clear hcz6_1
      try clear hcz6_2
      try clear hcz6_3
      try clear hcz6_4
      try clear hcz6_5
      try clear hcz6_6
      try clear hfz11_0
      try clear hfz11_1
      try clear hfz11_2
      try clear hfz11_3
      try clear hfz11_4
      try clear hfz11_5
      try clear hfz11_6
      try clear hfz13_0
      try clear hfz13_1
      try clear hfz13_2
      try clear hfz13_3
      try clear hfz13_4
      try clear hfz13_5
      try clear hfz13_6
      try clear hfz15_0
      try clear hfz15_1
      try clear hfz15_2
      try clear hfz15_3
      try clear hfz15_4
      try clear hfz15_5
      try clear hfz15_6
      try clear hfz17_0
      try clear hfz17_1
      try clear hfz17_2
      try clear hfz17_3
      try clear hfz17_4
      try clear hfz17_5
      try clear hfz17_6
      try clear hfz6_0
      try clear hfz6_1
      try clear hfz6_2
      try clear hfz6_3
      try clear hfz6_4
      try clear hfz6_5
      try clear hfz6_6
      obtain ⟨kq, x23_3, rfl, HA, HJ3, BK109, HB⟩ := hcut
      cases kq with
      | zero => exact absurd HA.out (by simp [flagstoneref34_Check.j0])
      | succ kj3 =>
        have H := HA.out
        clear HA
        simp only [flagstoneref34_Check.j0] at H
        by_cases c19 : x23_3 = true
        · subst c19
          have H1 : (some 6) = some r := by rw [if_pos rfl] at H; exact H
          clear H
          have H := H1
          clear H1
          obtain rfl := Option.some.inj H
          go_wp2
          go_ret
          exact ⟨by first | rfl | (simp [errW_none, errW_some] <;> rfl) | (simp [*, errW_none, errW_some] <;> rfl), by repeat (first | (with_reducible first | exact HB.out | apply below_alloc | apply pw_below_drewN | apply below_drew1 | refine below_set ?_ GE109.out) | exact HB.out)⟩
        · replace c19 := Bool.eq_false_iff.mpr c19
          subst c19
          have H1 : ((flagstoneref34_within.f a0_3 1 68719476736).bind fun t113 => (if t113 = true then ((flagstoneref34_within.f a0_4 1 1048576).bind fun t114 => (if t114 = true then ((flagstoneref34_within.f a0_5 (-1099511627776) 1099511627776).bind fun t115 => (if t115 = true then ((flagstoneref34_within.f a0_6 0 68719476736).bind fun t116 => (flagstoneref34_Check.j1 kj3 (a0_0 == 4) (!t116) a0_0 a0_1 a0_2 a0_3 a0_4 a0_5 a0_6)) else (flagstoneref34_Check.j1 kj3 (a0_0 == 4) true a0_0 a0_1 a0_2 a0_3 a0_4 a0_5 a0_6))) else (flagstoneref34_Check.j1 kj3 (a0_0 == 4) true a0_0 a0_1 a0_2 a0_3 a0_4 a0_5 a0_6))) else (flagstoneref34_Check.j1 kj3 (a0_0 == 4) true a0_0 a0_1 a0_2 a0_3 a0_4 a0_5 a0_6))) = some r := by rw [if_neg (show ¬ (false = true) by decide)] at H; exact H
          clear H
          have H := H1
          clear H1
          have HC20 := Aside0.mk H
          clear H
          go_upto_region 6 with (fail)
          go_cut [45] (fun v45 wc => ∃ (kq : Nat) (x45_19 : Bool), v45 = .bool x45_19 ∧ Aside0 (flagstoneref34_Check.j1 kq (a0_0 == 4) x45_19 a0_0 a0_1 a0_2 a0_3 a0_4 a0_5 a0_6 = some r) ∧ Aside0 (kq ≤ kj3) ∧ Aside0 (wc.heap[gb109]? = some (.cells #[.int .i64 a0_0, .string a0_1, .string a0_2, .int .i64 a0_3, .int .i64 a0_4, .int .i64 a0_5, .int .i64 a0_6] 29 (0, 0))) ∧ Aside0 (Below w.heap.size w wc))
          case first =>
            have H := HC20.out
            clear HC20
            replace H := Option.bind_eq_some_iff.mp H
            obtain ⟨t113, A210, H⟩ := H
            replace H : (if t113 = true then ((flagstoneref34_within.f a0_4 1 1048576).bind fun t114 => (if t114 = true then ((flagstoneref34_within.f a0_5 (-1099511627776) 1099511627776).bind fun t115 => (if t115 = true then ((flagstoneref34_within.f a0_6 0 68719476736).bind fun t116 => (flagstoneref34_Check.j1 kj3 (a0_0 == 4) (!t116) a0_0 a0_1 a0_2 a0_3 a0_4 a0_5 a0_6)) else (flagstoneref34_Check.j1 kj3 (a0_0 == 4) true a0_0 a0_1 a0_2 a0_3 a0_4 a0_5 a0_6))) else (flagstoneref34_Check.j1 kj3 (a0_0 == 4) true a0_0 a0_1 a0_2 a0_3 a0_4 a0_5 a0_6))) else (flagstoneref34_Check.j1 kj3 (a0_0 == 4) true a0_0 a0_1 a0_2 a0_3 a0_4 a0_5 a0_6)) = some r := H
            have A21 := Aside0.mk A210
            clear A210
            by_cases c22 : t113 = true
            · subst c22
              have H1 : ((flagstoneref34_within.f a0_4 1 1048576).bind fun t114 => (if t114 = true then ((flagstoneref34_within.f a0_5 (-1099511627776) 1099511627776).bind fun t115 => (if t115 = true then ((flagstoneref34_within.f a0_6 0 68719476736).bind fun t116 => (flagstoneref34_Check.j1 kj3 (a0_0 == 4) (!t116) a0_0 a0_1 a0_2 a0_3 a0_4 a0_5 a0_6)) else (flagstoneref34_Check.j1 kj3 (a0_0 == 4) true a0_0 a0_1 a0_2 a0_3 a0_4 a0_5 a0_6))) else (flagstoneref34_Check.j1 kj3 (a0_0 == 4) true a0_0 a0_1 a0_2 a0_3 a0_4 a0_5 a0_6))) = some r := by rw [if_pos rfl] at H; exact H
              clear H
              have H := H1
              clear H1
              replace H := Option.bind_eq_some_iff.mp H
              obtain ⟨t114, A230, H⟩ := H
              replace H : (if t114 = true then ((flagstoneref34_within.f a0_5 (-1099511627776) 1099511627776).bind fun t115 => (if t115 = true then ((flagstoneref34_within.f a0_6 0 68719476736).bind fun t116 => (flagstoneref34_Check.j1 kj3 (a0_0 == 4) (!t116) a0_0 a0_1 a0_2 a0_3 a0_4 a0_5 a0_6)) else (flagstoneref34_Check.j1 kj3 (a0_0 == 4) true a0_0 a0_1 a0_2 a0_3 a0_4 a0_5 a0_6))) else (flagstoneref34_Check.j1 kj3 (a0_0 == 4) true a0_0 a0_1 a0_2 a0_3 a0_4 a0_5 a0_6)) = some r := H
              have A23 := Aside0.mk A230
              clear A230
              by_cases c24 : t114 = true
              · subst c24
                have H1 : ((flagstoneref34_within.f a0_5 (-1099511627776) 1099511627776).bind fun t115 => (if t115 = true then ((flagstoneref34_within.f a0_6 0 68719476736).bind fun t116 => (flagstoneref34_Check.j1 kj3 (a0_0 == 4) (!t116) a0_0 a0_1 a0_2 a0_3 a0_4 a0_5 a0_6)) else (flagstoneref34_Check.j1 kj3 (a0_0 == 4) true a0_0 a0_1 a0_2 a0_3 a0_4 a0_5 a0_6))) = some r := by rw [if_pos rfl] at H; exact H
                clear H
                have H := H1
                clear H1
                replace H := Option.bind_eq_some_iff.mp H
                obtain ⟨t115, A250, H⟩ := H
                replace H : (if t115 = true then ((flagstoneref34_within.f a0_6 0 68719476736).bind fun t116 => (flagstoneref34_Check.j1 kj3 (a0_0 == 4) (!t116) a0_0 a0_1 a0_2 a0_3 a0_4 a0_5 a0_6)) else (flagstoneref34_Check.j1 kj3 (a0_0 == 4) true a0_0 a0_1 a0_2 a0_3 a0_4 a0_5 a0_6)) = some r := H
                have A25 := Aside0.mk A250
                clear A250
                by_cases c26 : t115 = true
                · subst c26
                  have H1 : ((flagstoneref34_within.f a0_6 0 68719476736).bind fun t116 => (flagstoneref34_Check.j1 kj3 (a0_0 == 4) (!t116) a0_0 a0_1 a0_2 a0_3 a0_4 a0_5 a0_6)) = some r := by rw [if_pos rfl] at H; exact H
                  clear H
                  have H := H1
                  clear H1
                  replace H := Option.bind_eq_some_iff.mp H
                  obtain ⟨t116, A270, H⟩ := H
                  replace H : (flagstoneref34_Check.j1 kj3 (a0_0 == 4) (!t116) a0_0 a0_1 a0_2 a0_3 a0_4 a0_5 a0_6) = some r := H
                  have A27 := Aside0.mk A270
                  clear A270
                  have H' := Aside0.mk H
                  clear H
                  have hcz28_0 : wc.cell? ⟨gb109, 0, none⟩ = some (.int .i64 a0_0) := (blk_cell BK109.out 0).trans rfl
                  have hcz28_1 : wc.cell? ⟨gb109, 1, none⟩ = some (.string a0_1) := (blk_cell BK109.out 1).trans rfl
                  have hcz28_2 : wc.cell? ⟨gb109, 2, none⟩ = some (.string a0_2) := (blk_cell BK109.out 2).trans rfl
                  have hcz28_3 : wc.cell? ⟨gb109, 3, none⟩ = some (.int .i64 a0_3) := (blk_cell BK109.out 3).trans rfl
                  have hcz28_4 : wc.cell? ⟨gb109, 4, none⟩ = some (.int .i64 a0_4) := (blk_cell BK109.out 4).trans rfl
                  have hcz28_5 : wc.cell? ⟨gb109, 5, none⟩ = some (.int .i64 a0_5) := (blk_cell BK109.out 5).trans rfl
                  have hcz28_6 : wc.cell? ⟨gb109, 6, none⟩ = some (.int .i64 a0_6) := (blk_cell BK109.out 6).trans rfl
                  have hfz28_0 := blk_frozen BK109.out 0
                  have hfz28_1 := blk_frozen BK109.out 1
                  have hfz28_2 := blk_frozen BK109.out 2
                  have hfz28_3 := blk_frozen BK109.out 3
                  have hfz28_4 := blk_frozen BK109.out 4
                  have hfz28_5 := blk_frozen BK109.out 5
                  have hfz28_6 := blk_frozen BK109.out 6
                  go_wp2_with (first | ((with_reducible refine gate_callee (f := 50) rfl ?_); refine goesL_ (some 26) rfl rfl Tryd.func50 (by kernel_rfl) rfl #[.int .i64 a0_3, .int .i64 1, .int .i64 68719476736] rfl (by (try simp only [List.map_toArray, List.map_cons, List.map_nil]); first | done | rfl | (simp only [List.length_drop, List.length_take]; rfl)) ?_; (with_reducible refine (flagstoneref34_within.calls a0_3 1 68719476736 true _ A21.out).mono ?_); rintro e w' ⟨rfl, ⟨nd, rfl⟩⟩; refine ⟨_, rfl, ?_⟩) | (go_at_call 50; (with_reducible refine (flagstoneref34_within.calls a0_4 1 1048576 true _ A23.out).mono ?_); rintro e w' ⟨rfl, ⟨nd, rfl⟩⟩) | (go_at_call 50; (with_reducible refine (flagstoneref34_within.calls a0_5 (-1099511627776) 1099511627776 true _ A25.out).mono ?_); rintro e w' ⟨rfl, ⟨nd, rfl⟩⟩) | (go_at_call 50; (with_reducible refine (flagstoneref34_within.calls a0_6 0 68719476736 t116 _ A27.out).mono ?_); rintro e w' ⟨rfl, ⟨nd, rfl⟩⟩))
                  go_meet
                  case rel => exact ⟨_, (!t116), (by first | rfl | (simp; done) | (simp [*]; done)), H', ⟨by have := HJ3.out; first | omega | exact Nat.le_refl _⟩, ⟨by (with_reducible repeat (first | refine blk_drewN ?_ _ | refine blk_drew ?_ | refine blk_alloc ?_ _)); exact BK109.out⟩, ⟨by repeat (first | (with_reducible first | exact HB.out | apply below_alloc | apply pw_below_drewN | apply below_drew1 | refine below_set ?_ GE109.out) | exact HB.out)⟩⟩
                · replace c26 := Bool.eq_false_iff.mpr c26
                  subst c26
                  have H1 : (flagstoneref34_Check.j1 kj3 (a0_0 == 4) true a0_0 a0_1 a0_2 a0_3 a0_4 a0_5 a0_6) = some r := by rw [if_neg (show ¬ (false = true) by decide)] at H; exact H
                  clear H
                  have H := H1
                  clear H1
                  have H' := Aside0.mk H
                  clear H
                  have hcz29_0 : wc.cell? ⟨gb109, 0, none⟩ = some (.int .i64 a0_0) := (blk_cell BK109.out 0).trans rfl
                  have hcz29_1 : wc.cell? ⟨gb109, 1, none⟩ = some (.string a0_1) := (blk_cell BK109.out 1).trans rfl
                  have hcz29_2 : wc.cell? ⟨gb109, 2, none⟩ = some (.string a0_2) := (blk_cell BK109.out 2).trans rfl
                  have hcz29_3 : wc.cell? ⟨gb109, 3, none⟩ = some (.int .i64 a0_3) := (blk_cell BK109.out 3).trans rfl
                  have hcz29_4 : wc.cell? ⟨gb109, 4, none⟩ = some (.int .i64 a0_4) := (blk_cell BK109.out 4).trans rfl
                  have hcz29_5 : wc.cell? ⟨gb109, 5, none⟩ = some (.int .i64 a0_5) := (blk_cell BK109.out 5).trans rfl
                  have hcz29_6 : wc.cell? ⟨gb109, 6, none⟩ = some (.int .i64 a0_6) := (blk_cell BK109.out 6).trans rfl
                  have hfz29_0 := blk_frozen BK109.out 0
                  have hfz29_1 := blk_frozen BK109.out 1
                  have hfz29_2 := blk_frozen BK109.out 2
                  have hfz29_3 := blk_frozen BK109.out 3
                  have hfz29_4 := blk_frozen BK109.out 4
                  have hfz29_5 := blk_frozen BK109.out 5
                  have hfz29_6 := blk_frozen BK109.out 6
                  go_wp2_with (first | ((with_reducible refine gate_callee (f := 50) rfl ?_); refine goesL_ (some 26) rfl rfl Tryd.func50 (by kernel_rfl) rfl #[.int .i64 a0_3, .int .i64 1, .int .i64 68719476736] rfl (by (try simp only [List.map_toArray, List.map_cons, List.map_nil]); first | done | rfl | (simp only [List.length_drop, List.length_take]; rfl)) ?_; (with_reducible refine (flagstoneref34_within.calls a0_3 1 68719476736 true _ A21.out).mono ?_); rintro e w' ⟨rfl, ⟨nd, rfl⟩⟩; refine ⟨_, rfl, ?_⟩) | (go_at_call 50; (with_reducible refine (flagstoneref34_within.calls a0_4 1 1048576 true _ A23.out).mono ?_); rintro e w' ⟨rfl, ⟨nd, rfl⟩⟩) | (go_at_call 50; (with_reducible refine (flagstoneref34_within.calls a0_5 (-1099511627776) 1099511627776 false _ A25.out).mono ?_); rintro e w' ⟨rfl, ⟨nd, rfl⟩⟩))
                  go_meet
                  case rel => exact ⟨_, (true), (by first | rfl | (simp; done) | (simp [*]; done)), H', ⟨by have := HJ3.out; first | omega | exact Nat.le_refl _⟩, ⟨by (with_reducible repeat (first | refine blk_drewN ?_ _ | refine blk_drew ?_ | refine blk_alloc ?_ _)); exact BK109.out⟩, ⟨by repeat (first | (with_reducible first | exact HB.out | apply below_alloc | apply pw_below_drewN | apply below_drew1 | refine below_set ?_ GE109.out) | exact HB.out)⟩⟩
              · replace c24 := Bool.eq_false_iff.mpr c24
                subst c24
                have H1 : (flagstoneref34_Check.j1 kj3 (a0_0 == 4) true a0_0 a0_1 a0_2 a0_3 a0_4 a0_5 a0_6) = some r := by rw [if_neg (show ¬ (false = true) by decide)] at H; exact H
                clear H
                have H := H1
                clear H1
                have H' := Aside0.mk H
                clear H
                have hcz30_0 : wc.cell? ⟨gb109, 0, none⟩ = some (.int .i64 a0_0) := (blk_cell BK109.out 0).trans rfl
                have hcz30_1 : wc.cell? ⟨gb109, 1, none⟩ = some (.string a0_1) := (blk_cell BK109.out 1).trans rfl
                have hcz30_2 : wc.cell? ⟨gb109, 2, none⟩ = some (.string a0_2) := (blk_cell BK109.out 2).trans rfl
                have hcz30_3 : wc.cell? ⟨gb109, 3, none⟩ = some (.int .i64 a0_3) := (blk_cell BK109.out 3).trans rfl
                have hcz30_4 : wc.cell? ⟨gb109, 4, none⟩ = some (.int .i64 a0_4) := (blk_cell BK109.out 4).trans rfl
                have hcz30_5 : wc.cell? ⟨gb109, 5, none⟩ = some (.int .i64 a0_5) := (blk_cell BK109.out 5).trans rfl
                have hcz30_6 : wc.cell? ⟨gb109, 6, none⟩ = some (.int .i64 a0_6) := (blk_cell BK109.out 6).trans rfl
                have hfz30_0 := blk_frozen BK109.out 0
                have hfz30_1 := blk_frozen BK109.out 1
                have hfz30_2 := blk_frozen BK109.out 2
                have hfz30_3 := blk_frozen BK109.out 3
                have hfz30_4 := blk_frozen BK109.out 4
                have hfz30_5 := blk_frozen BK109.out 5
                have hfz30_6 := blk_frozen BK109.out 6
                go_wp2_with (first | ((with_reducible refine gate_callee (f := 50) rfl ?_); refine goesL_ (some 26) rfl rfl Tryd.func50 (by kernel_rfl) rfl #[.int .i64 a0_3, .int .i64 1, .int .i64 68719476736] rfl (by (try simp only [List.map_toArray, List.map_cons, List.map_nil]); first | done | rfl | (simp only [List.length_drop, List.length_take]; rfl)) ?_; (with_reducible refine (flagstoneref34_within.calls a0_3 1 68719476736 true _ A21.out).mono ?_); rintro e w' ⟨rfl, ⟨nd, rfl⟩⟩; refine ⟨_, rfl, ?_⟩) | (go_at_call 50; (with_reducible refine (flagstoneref34_within.calls a0_4 1 1048576 false _ A23.out).mono ?_); rintro e w' ⟨rfl, ⟨nd, rfl⟩⟩))
                go_meet
                case rel => exact ⟨_, (true), (by first | rfl | (simp; done) | (simp [*]; done)), H', ⟨by have := HJ3.out; first | omega | exact Nat.le_refl _⟩, ⟨by (with_reducible repeat (first | refine blk_drewN ?_ _ | refine blk_drew ?_ | refine blk_alloc ?_ _)); exact BK109.out⟩, ⟨by repeat (first | (with_reducible first | exact HB.out | apply below_alloc | apply pw_below_drewN | apply below_drew1 | refine below_set ?_ GE109.out) | exact HB.out)⟩⟩
            · replace c22 := Bool.eq_false_iff.mpr c22
              subst c22
              have H1 : (flagstoneref34_Check.j1 kj3 (a0_0 == 4) true a0_0 a0_1 a0_2 a0_3 a0_4 a0_5 a0_6) = some r := by rw [if_neg (show ¬ (false = true) by decide)] at H; exact H
              clear H
              have H := H1
              clear H1
              have H' := Aside0.mk H
              clear H
              have hcz31_0 : wc.cell? ⟨gb109, 0, none⟩ = some (.int .i64 a0_0) := (blk_cell BK109.out 0).trans rfl
              have hcz31_1 : wc.cell? ⟨gb109, 1, none⟩ = some (.string a0_1) := (blk_cell BK109.out 1).trans rfl
              have hcz31_2 : wc.cell? ⟨gb109, 2, none⟩ = some (.string a0_2) := (blk_cell BK109.out 2).trans rfl
              have hcz31_3 : wc.cell? ⟨gb109, 3, none⟩ = some (.int .i64 a0_3) := (blk_cell BK109.out 3).trans rfl
              have hcz31_4 : wc.cell? ⟨gb109, 4, none⟩ = some (.int .i64 a0_4) := (blk_cell BK109.out 4).trans rfl
              have hcz31_5 : wc.cell? ⟨gb109, 5, none⟩ = some (.int .i64 a0_5) := (blk_cell BK109.out 5).trans rfl
              have hcz31_6 : wc.cell? ⟨gb109, 6, none⟩ = some (.int .i64 a0_6) := (blk_cell BK109.out 6).trans rfl
              have hfz31_0 := blk_frozen BK109.out 0
              have hfz31_1 := blk_frozen BK109.out 1
              have hfz31_2 := blk_frozen BK109.out 2
              have hfz31_3 := blk_frozen BK109.out 3
              have hfz31_4 := blk_frozen BK109.out 4
              have hfz31_5 := blk_frozen BK109.out 5
              have hfz31_6 := blk_frozen BK109.out 6
              go_wp2_with (first | ((with_reducible refine gate_callee (f := 50) rfl ?_); refine goesL_ (some 26) rfl rfl Tryd.func50 (by kernel_rfl) rfl #[.int .i64 a0_3, .int .i64 1, .int .i64 68719476736] rfl (by (try simp only [List.map_toArray, List.map_cons, List.map_nil]); first | done | rfl | (simp only [List.length_drop, List.length_take]; rfl)) ?_; (with_reducible refine (flagstoneref34_within.calls a0_3 1 68719476736 false _ A21.out).mono ?_); rintro e w' ⟨rfl, ⟨nd, rfl⟩⟩; refine ⟨_, rfl, ?_⟩))
              go_meet
              case rel => exact ⟨_, (true), (by first | rfl | (simp; done) | (simp [*]; done)), H', ⟨by have := HJ3.out; first | omega | exact Nat.le_refl _⟩, ⟨by (with_reducible repeat (first | refine blk_drewN ?_ _ | refine blk_drew ?_ | refine blk_alloc ?_ _)); exact BK109.out⟩, ⟨by repeat (first | (with_reducible first | exact HB.out | apply below_alloc | apply pw_below_drewN | apply below_drew1 | refine below_set ?_ GE109.out) | exact HB.out)⟩⟩
          case rest =>
            clear HC20
            try clear c1
            try clear c2
            try clear p2
            try clear c3
            try clear c5
            try clear c8
            try clear c9
            try clear c9b0
            try clear c9b1
            try clear c19
            try clear c22
            try clear c24
            try clear c26
            try clear hcz11_0
            try clear hcz11_1
            try clear hcz11_2
            try clear hcz11_3
            try clear hcz11_4
            try clear hcz11_5
            try clear hcz11_6
            try clear hcz13_0
            try clear hcz13_1
            try clear hcz13_2
            try clear hcz13_3
            try clear hcz13_4
            try clear hcz13_5
            try clear hcz13_6
            try clear hcz15_0
            try clear hcz15_1
            try clear hcz15_2
            try clear hcz15_3
            try clear hcz15_4
            try clear hcz15_5
            try clear hcz15_6
            try clear hcz17_0
            try clear hcz17_1
            try clear hcz17_2
            try clear hcz17_3
            try clear hcz17_4
            try clear hcz17_5
            try clear hcz17_6
            try clear hcz28_0
            try clear hcz28_1
            try clear hcz28_2
            try clear hcz28_3
            try clear hcz28_4
            try clear hcz28_5
            try clear hcz28_6
            try clear hcz29_0
            try clear hcz29_1
            try clear hcz29_2
            try clear hcz29_3
            try clear hcz29_4
            try clear hcz29_5
            try clear hcz29_6
            try clear hcz30_0
            try clear hcz30_1
            try clear hcz30_2
            try clear hcz30_3
            try clear hcz30_4
            try clear hcz30_5
            try clear hcz30_6
            try clear hcz31_0
            try clear hcz31_1
            try clear hcz31_2
            try clear hcz31_3
            try clear hcz31_4
            try clear hcz31_5
            try clear hcz31_6
            try clear hcz6_0
            try clear hcz6_1
            try clear hcz6_2
            try clear hcz6_3
            try clear hcz6_4
            try clear hcz6_5
            try clear hcz6_6
            try clear hfz11_0
            try clear hfz11_1
            try clear hfz11_2
            try clear hfz11_3
            try clear hfz11_4
            try clear hfz11_5
            try clear hfz11_6
            try clear hfz13_0
            try clear hfz13_1
            try clear hfz13_2
            try clear hfz13_3
            try clear hfz13_4
            try clear hfz13_5
            try clear hfz13_6
            try clear hfz15_0
            try clear hfz15_1
            try clear hfz15_2
            try clear hfz15_3
            try clear hfz15_4
            try clear hfz15_5
            try clear hfz15_6
            try clear hfz17_0
            try clear hfz17_1
            try clear hfz17_2
            try clear hfz17_3
            try clear hfz17_4
            try clear hfz17_5
            try clear hfz17_6
            try clear hfz28_0
            try clear hfz28_1
            try clear hfz28_2
            try clear hfz28_3
            try clear hfz28_4
            try clear hfz28_5
            try clear hfz28_6
            try clear hfz29_0
            try clear hfz29_1
            try clear hfz29_2
            try clear hfz29_3
            try clear hfz29_4
            try clear hfz29_5
            try clear hfz29_6
            try clear hfz30_0
            try clear hfz30_1
            try clear hfz30_2
            try clear hfz30_3
            try clear hfz30_4
            try clear hfz30_5
            try clear hfz30_6
            try clear hfz31_0
            try clear hfz31_1
            try clear hfz31_2
            try clear hfz31_3
            try clear hfz31_4
            try clear hfz31_5
            try clear hfz31_6
            try clear hfz6_0
            try clear hfz6_1
            try clear hfz6_2
            try clear hfz6_3
            try clear hfz6_4
            try clear hfz6_5
            try clear hfz6_6
            try clear p2
            obtain ⟨kq, x45_19, rfl, HA, HJ19, BK109, HB⟩ := hcut
            cases kq with
            | zero => exact absurd HA.out (by simp [flagstoneref34_Check.j1])
            | succ kj19 =>
              have H := HA.out
              clear HA
              simp only [flagstoneref34_Check.j1] at H
              by_cases c32 : x45_19 = true
              · subst c32
                have H1 : (some 3) = some r := by rw [if_pos rfl] at H; exact H
                clear H
                have H := H1
                clear H1
                obtain rfl := Option.some.inj H
                go_wp2
                go_ret
                exact ⟨by first | rfl | (simp [errW_none, errW_some] <;> rfl) | (simp [*, errW_none, errW_some] <;> rfl), by repeat (first | (with_reducible first | exact HB.out | apply below_alloc | apply pw_below_drewN | apply below_drew1 | refine below_set ?_ GE109.out) | exact HB.out)⟩
              · replace c32 := Bool.eq_false_iff.mpr c32
                subst c32
                have H1 : (if (a0_0 == 4) = true then (if a0_0 = 3 then (if a0_4 = 1 then (some 0) else (some 15)) else (some 0)) else (if a0_2.toList = ([] : List UInt8) then (if a0_0 = 3 then (if a0_4 = 1 then (some 0) else (some 15)) else (some 0)) else (some 15))) = some r := by rw [if_neg (show ¬ (false = true) by decide)] at H; exact H
                clear H
                have H := H1
                clear H1
                by_cases c33 : (a0_0 == 4) = true
                · rw [if_pos c33] at H
                  have c33b0 : (a0_0 == 4) = true := c33
                  (try (have c33b1 : decide (a0_0 = 4) = true := by simpa using c33))
                  (try (have c33b2 : (a0_0 == 4) = true := by simpa using c33))
                  clear c33
                  by_cases c34 : a0_0 = 3
                  · rw [if_pos c34] at H
                    have c34b0 : (a0_0 == 3) = true := beq_iff_eq.mpr c34
                    have c34b1 : (a0_0 != 3) = false := bne_eq_false_iff_eq.mpr c34
                    clear c34
                    by_cases c35 : a0_4 = 1
                    · rw [if_pos c35] at H
                      have c35b0 : (a0_4 == 1) = true := beq_iff_eq.mpr c35
                      have c35b1 : (a0_4 != 1) = false := bne_eq_false_iff_eq.mpr c35
                      clear c35
                      obtain rfl := Option.some.inj H
                      have hcz36_0 : wc.cell? ⟨gb109, 0, none⟩ = some (.int .i64 a0_0) := (blk_cell BK109.out 0).trans rfl
                      have hcz36_1 : wc.cell? ⟨gb109, 1, none⟩ = some (.string a0_1) := (blk_cell BK109.out 1).trans rfl
                      have hcz36_2 : wc.cell? ⟨gb109, 2, none⟩ = some (.string a0_2) := (blk_cell BK109.out 2).trans rfl
                      have hcz36_3 : wc.cell? ⟨gb109, 3, none⟩ = some (.int .i64 a0_3) := (blk_cell BK109.out 3).trans rfl
                      have hcz36_4 : wc.cell? ⟨gb109, 4, none⟩ = some (.int .i64 a0_4) := (blk_cell BK109.out 4).trans rfl
                      have hcz36_5 : wc.cell? ⟨gb109, 5, none⟩ = some (.int .i64 a0_5) := (blk_cell BK109.out 5).trans rfl
                      have hcz36_6 : wc.cell? ⟨gb109, 6, none⟩ = some (.int .i64 a0_6) := (blk_cell BK109.out 6).trans rfl
                      have hfz36_0 := blk_frozen BK109.out 0
                      have hfz36_1 := blk_frozen BK109.out 1
                      have hfz36_2 := blk_frozen BK109.out 2
                      have hfz36_3 := blk_frozen BK109.out 3
                      have hfz36_4 := blk_frozen BK109.out 4
                      have hfz36_5 := blk_frozen BK109.out 5
                      have hfz36_6 := blk_frozen BK109.out 6
                      go_wp2
                      go_ret
                      exact ⟨by first | rfl | (simp [errW_none, errW_some] <;> rfl) | (simp [*, errW_none, errW_some] <;> rfl), by repeat (first | (with_reducible first | exact HB.out | apply below_alloc | apply pw_below_drewN | apply below_drew1 | refine below_set ?_ GE109.out) | exact HB.out)⟩
                    · rw [if_neg c35] at H
                      have c35b0 : (a0_4 == 1) = false := beq_eq_false_iff_ne.mpr c35
                      have c35b1 : (a0_4 != 1) = true := bne_iff_ne.mpr c35
                      obtain rfl := Option.some.inj H
                      have hcz37_0 : wc.cell? ⟨gb109, 0, none⟩ = some (.int .i64 a0_0) := (blk_cell BK109.out 0).trans rfl
                      have hcz37_1 : wc.cell? ⟨gb109, 1, none⟩ = some (.string a0_1) := (blk_cell BK109.out 1).trans rfl
                      have hcz37_2 : wc.cell? ⟨gb109, 2, none⟩ = some (.string a0_2) := (blk_cell BK109.out 2).trans rfl
                      have hcz37_3 : wc.cell? ⟨gb109, 3, none⟩ = some (.int .i64 a0_3) := (blk_cell BK109.out 3).trans rfl
                      have hcz37_4 : wc.cell? ⟨gb109, 4, none⟩ = some (.int .i64 a0_4) := (blk_cell BK109.out 4).trans rfl
                      have hcz37_5 : wc.cell? ⟨gb109, 5, none⟩ = some (.int .i64 a0_5) := (blk_cell BK109.out 5).trans rfl
                      have hcz37_6 : wc.cell? ⟨gb109, 6, none⟩ = some (.int .i64 a0_6) := (blk_cell BK109.out 6).trans rfl
                      have hfz37_0 := blk_frozen BK109.out 0
                      have hfz37_1 := blk_frozen BK109.out 1
                      have hfz37_2 := blk_frozen BK109.out 2
                      have hfz37_3 := blk_frozen BK109.out 3
                      have hfz37_4 := blk_frozen BK109.out 4
                      have hfz37_5 := blk_frozen BK109.out 5
                      have hfz37_6 := blk_frozen BK109.out 6
                      go_wp2
                      go_ret
                      exact ⟨by first | rfl | (simp [errW_none, errW_some] <;> rfl) | (simp [*, errW_none, errW_some] <;> rfl), by repeat (first | (with_reducible first | exact HB.out | apply below_alloc | apply pw_below_drewN | apply below_drew1 | refine below_set ?_ GE109.out) | exact HB.out)⟩
                  · rw [if_neg c34] at H
                    have c34b0 : (a0_0 == 3) = false := beq_eq_false_iff_ne.mpr c34
                    have c34b1 : (a0_0 != 3) = true := bne_iff_ne.mpr c34
                    obtain rfl := Option.some.inj H
                    have hcz38_0 : wc.cell? ⟨gb109, 0, none⟩ = some (.int .i64 a0_0) := (blk_cell BK109.out 0).trans rfl
                    have hcz38_1 : wc.cell? ⟨gb109, 1, none⟩ = some (.string a0_1) := (blk_cell BK109.out 1).trans rfl
                    have hcz38_2 : wc.cell? ⟨gb109, 2, none⟩ = some (.string a0_2) := (blk_cell BK109.out 2).trans rfl
                    have hcz38_3 : wc.cell? ⟨gb109, 3, none⟩ = some (.int .i64 a0_3) := (blk_cell BK109.out 3).trans rfl
                    have hcz38_4 : wc.cell? ⟨gb109, 4, none⟩ = some (.int .i64 a0_4) := (blk_cell BK109.out 4).trans rfl
                    have hcz38_5 : wc.cell? ⟨gb109, 5, none⟩ = some (.int .i64 a0_5) := (blk_cell BK109.out 5).trans rfl
                    have hcz38_6 : wc.cell? ⟨gb109, 6, none⟩ = some (.int .i64 a0_6) := (blk_cell BK109.out 6).trans rfl
                    have hfz38_0 := blk_frozen BK109.out 0
                    have hfz38_1 := blk_frozen BK109.out 1
                    have hfz38_2 := blk_frozen BK109.out 2
                    have hfz38_3 := blk_frozen BK109.out 3
                    have hfz38_4 := blk_frozen BK109.out 4
                    have hfz38_5 := blk_frozen BK109.out 5
                    have hfz38_6 := blk_frozen BK109.out 6
                    go_wp2
                    go_ret
                    exact ⟨by first | rfl | (simp [errW_none, errW_some] <;> rfl) | (simp [*, errW_none, errW_some] <;> rfl), by repeat (first | (with_reducible first | exact HB.out | apply below_alloc | apply pw_below_drewN | apply below_drew1 | refine below_set ?_ GE109.out) | exact HB.out)⟩
                · rw [if_neg c33] at H
                  have c33b0 : (a0_0 == 4) = false := by simpa using c33
                  (try (have c33b1 : decide (a0_0 = 4) = false := by simpa using c33))
                  (try (have c33b2 : (a0_0 == 4) = false := by simpa using c33))
                  (try (have c33b3 : ¬ (a0_0 = 4) := by simpa using c33))
                  clear c33
                  by_cases c39 : a0_2.toList = ([] : List UInt8)
                  · rw [if_pos c39] at H
                    have c39b0 : (a0_2.toList == ([] : List UInt8)) = true := beq_iff_eq.mpr c39
                    have c39b1 : (a0_2.toList != ([] : List UInt8)) = false := bne_eq_false_iff_eq.mpr c39
                    clear c39
                    by_cases c40 : a0_0 = 3
                    · rw [if_pos c40] at H
                      have c40b0 : (a0_0 == 3) = true := beq_iff_eq.mpr c40
                      have c40b1 : (a0_0 != 3) = false := bne_eq_false_iff_eq.mpr c40
                      clear c40
                      by_cases c41 : a0_4 = 1
                      · rw [if_pos c41] at H
                        have c41b0 : (a0_4 == 1) = true := beq_iff_eq.mpr c41
                        have c41b1 : (a0_4 != 1) = false := bne_eq_false_iff_eq.mpr c41
                        clear c41
                        obtain rfl := Option.some.inj H
                        have hcz42_0 : wc.cell? ⟨gb109, 0, none⟩ = some (.int .i64 a0_0) := (blk_cell BK109.out 0).trans rfl
                        have hcz42_1 : wc.cell? ⟨gb109, 1, none⟩ = some (.string a0_1) := (blk_cell BK109.out 1).trans rfl
                        have hcz42_2 : wc.cell? ⟨gb109, 2, none⟩ = some (.string a0_2) := (blk_cell BK109.out 2).trans rfl
                        have hcz42_3 : wc.cell? ⟨gb109, 3, none⟩ = some (.int .i64 a0_3) := (blk_cell BK109.out 3).trans rfl
                        have hcz42_4 : wc.cell? ⟨gb109, 4, none⟩ = some (.int .i64 a0_4) := (blk_cell BK109.out 4).trans rfl
                        have hcz42_5 : wc.cell? ⟨gb109, 5, none⟩ = some (.int .i64 a0_5) := (blk_cell BK109.out 5).trans rfl
                        have hcz42_6 : wc.cell? ⟨gb109, 6, none⟩ = some (.int .i64 a0_6) := (blk_cell BK109.out 6).trans rfl
                        have hfz42_0 := blk_frozen BK109.out 0
                        have hfz42_1 := blk_frozen BK109.out 1
                        have hfz42_2 := blk_frozen BK109.out 2
                        have hfz42_3 := blk_frozen BK109.out 3
                        have hfz42_4 := blk_frozen BK109.out 4
                        have hfz42_5 := blk_frozen BK109.out 5
                        have hfz42_6 := blk_frozen BK109.out 6
                        go_wp2
                        go_ret
                        exact ⟨by first | rfl | (simp [errW_none, errW_some] <;> rfl) | (simp [*, errW_none, errW_some] <;> rfl), by repeat (first | (with_reducible first | exact HB.out | apply below_alloc | apply pw_below_drewN | apply below_drew1 | refine below_set ?_ GE109.out) | exact HB.out)⟩
                      · rw [if_neg c41] at H
                        have c41b0 : (a0_4 == 1) = false := beq_eq_false_iff_ne.mpr c41
                        have c41b1 : (a0_4 != 1) = true := bne_iff_ne.mpr c41
                        obtain rfl := Option.some.inj H
                        have hcz43_0 : wc.cell? ⟨gb109, 0, none⟩ = some (.int .i64 a0_0) := (blk_cell BK109.out 0).trans rfl
                        have hcz43_1 : wc.cell? ⟨gb109, 1, none⟩ = some (.string a0_1) := (blk_cell BK109.out 1).trans rfl
                        have hcz43_2 : wc.cell? ⟨gb109, 2, none⟩ = some (.string a0_2) := (blk_cell BK109.out 2).trans rfl
                        have hcz43_3 : wc.cell? ⟨gb109, 3, none⟩ = some (.int .i64 a0_3) := (blk_cell BK109.out 3).trans rfl
                        have hcz43_4 : wc.cell? ⟨gb109, 4, none⟩ = some (.int .i64 a0_4) := (blk_cell BK109.out 4).trans rfl
                        have hcz43_5 : wc.cell? ⟨gb109, 5, none⟩ = some (.int .i64 a0_5) := (blk_cell BK109.out 5).trans rfl
                        have hcz43_6 : wc.cell? ⟨gb109, 6, none⟩ = some (.int .i64 a0_6) := (blk_cell BK109.out 6).trans rfl
                        have hfz43_0 := blk_frozen BK109.out 0
                        have hfz43_1 := blk_frozen BK109.out 1
                        have hfz43_2 := blk_frozen BK109.out 2
                        have hfz43_3 := blk_frozen BK109.out 3
                        have hfz43_4 := blk_frozen BK109.out 4
                        have hfz43_5 := blk_frozen BK109.out 5
                        have hfz43_6 := blk_frozen BK109.out 6
                        go_wp2
                        go_ret
                        exact ⟨by first | rfl | (simp [errW_none, errW_some] <;> rfl) | (simp [*, errW_none, errW_some] <;> rfl), by repeat (first | (with_reducible first | exact HB.out | apply below_alloc | apply pw_below_drewN | apply below_drew1 | refine below_set ?_ GE109.out) | exact HB.out)⟩
                    · rw [if_neg c40] at H
                      have c40b0 : (a0_0 == 3) = false := beq_eq_false_iff_ne.mpr c40
                      have c40b1 : (a0_0 != 3) = true := bne_iff_ne.mpr c40
                      obtain rfl := Option.some.inj H
                      have hcz44_0 : wc.cell? ⟨gb109, 0, none⟩ = some (.int .i64 a0_0) := (blk_cell BK109.out 0).trans rfl
                      have hcz44_1 : wc.cell? ⟨gb109, 1, none⟩ = some (.string a0_1) := (blk_cell BK109.out 1).trans rfl
                      have hcz44_2 : wc.cell? ⟨gb109, 2, none⟩ = some (.string a0_2) := (blk_cell BK109.out 2).trans rfl
                      have hcz44_3 : wc.cell? ⟨gb109, 3, none⟩ = some (.int .i64 a0_3) := (blk_cell BK109.out 3).trans rfl
                      have hcz44_4 : wc.cell? ⟨gb109, 4, none⟩ = some (.int .i64 a0_4) := (blk_cell BK109.out 4).trans rfl
                      have hcz44_5 : wc.cell? ⟨gb109, 5, none⟩ = some (.int .i64 a0_5) := (blk_cell BK109.out 5).trans rfl
                      have hcz44_6 : wc.cell? ⟨gb109, 6, none⟩ = some (.int .i64 a0_6) := (blk_cell BK109.out 6).trans rfl
                      have hfz44_0 := blk_frozen BK109.out 0
                      have hfz44_1 := blk_frozen BK109.out 1
                      have hfz44_2 := blk_frozen BK109.out 2
                      have hfz44_3 := blk_frozen BK109.out 3
                      have hfz44_4 := blk_frozen BK109.out 4
                      have hfz44_5 := blk_frozen BK109.out 5
                      have hfz44_6 := blk_frozen BK109.out 6
                      go_wp2
                      go_ret
                      exact ⟨by first | rfl | (simp [errW_none, errW_some] <;> rfl) | (simp [*, errW_none, errW_some] <;> rfl), by repeat (first | (with_reducible first | exact HB.out | apply below_alloc | apply pw_below_drewN | apply below_drew1 | refine below_set ?_ GE109.out) | exact HB.out)⟩
                  · rw [if_neg c39] at H
                    have c39b0 : (a0_2.toList == ([] : List UInt8)) = false := beq_eq_false_iff_ne.mpr c39
                    have c39b1 : (a0_2.toList != ([] : List UInt8)) = true := bne_iff_ne.mpr c39
                    obtain rfl := Option.some.inj H
                    have hcz45_0 : wc.cell? ⟨gb109, 0, none⟩ = some (.int .i64 a0_0) := (blk_cell BK109.out 0).trans rfl
                    have hcz45_1 : wc.cell? ⟨gb109, 1, none⟩ = some (.string a0_1) := (blk_cell BK109.out 1).trans rfl
                    have hcz45_2 : wc.cell? ⟨gb109, 2, none⟩ = some (.string a0_2) := (blk_cell BK109.out 2).trans rfl
                    have hcz45_3 : wc.cell? ⟨gb109, 3, none⟩ = some (.int .i64 a0_3) := (blk_cell BK109.out 3).trans rfl
                    have hcz45_4 : wc.cell? ⟨gb109, 4, none⟩ = some (.int .i64 a0_4) := (blk_cell BK109.out 4).trans rfl
                    have hcz45_5 : wc.cell? ⟨gb109, 5, none⟩ = some (.int .i64 a0_5) := (blk_cell BK109.out 5).trans rfl
                    have hcz45_6 : wc.cell? ⟨gb109, 6, none⟩ = some (.int .i64 a0_6) := (blk_cell BK109.out 6).trans rfl
                    have hfz45_0 := blk_frozen BK109.out 0
                    have hfz45_1 := blk_frozen BK109.out 1
                    have hfz45_2 := blk_frozen BK109.out 2
                    have hfz45_3 := blk_frozen BK109.out 3
                    have hfz45_4 := blk_frozen BK109.out 4
                    have hfz45_5 := blk_frozen BK109.out 5
                    have hfz45_6 := blk_frozen BK109.out 6
                    go_wp2
                    go_ret
                    exact ⟨by first | rfl | (simp [errW_none, errW_some] <;> rfl) | (simp [*, errW_none, errW_some] <;> rfl), by repeat (first | (with_reducible first | exact HB.out | apply below_alloc | apply pw_below_drewN | apply below_drew1 | refine below_set ?_ GE109.out) | exact HB.out)⟩
  · replace c3 := Bool.eq_false_iff.mpr c3
    subst c3
    have H1 : (some 7) = some r := by rw [if_neg (show ¬ (false = true) by decide)] at H; exact H
    clear H
    have H := H1
    clear H1
    obtain rfl := Option.some.inj H
    go_enter Tryd.func24, Tryd.ntmps24
    go_wp2_with (first | ((with_reducible refine gate_dst (N := 1) rfl ?_); refine box_event ?hg (N := 1) ?hd (cs := #[.int .i64 a0_0, .string a0_1, .string a0_2, .int .i64 a0_3, .int .i64 a0_4, .int .i64 a0_5, .int .i64 a0_6]) (t := 29) ?hr ?_; (case hd => rfl); (case hg => rfl); (case hr => first | (go_simp; done) | (go_simp; rfl)); intro gb109 hg w46 hbox hb; have n0_ := Aside0.mk (below_step (by repeat (first | (with_reducible first | exact HB.out | apply below_alloc | apply pw_below_drewN | apply below_drew1) | exact HB.out)) hb); have n1_ := Aside0.mk (hbox); have n2_ := Aside0.mk ((by rw [hg]; exact (below_size (by repeat (first | (with_reducible first | exact HB.out | apply below_alloc | apply pw_below_drewN | apply below_drew1) | exact HB.out))) : w.heap.size ≤ gb109)); have n3_ := Aside0.mk ((by rw [hg]; exact (below_size (by repeat (first | (with_reducible first | exact HB.out | apply below_alloc | apply pw_below_drewN | apply below_drew1) | exact HB.out))) : w.heap.size ≤ gb109)); clear HB; have HB := n0_; have BK109 := n1_; have GW109 := n2_; have GE109 := n3_; clear n0_ n1_ n2_ n3_; clear hb hbox hg; have hcz47_0 : w46.cell? ⟨gb109, 0, none⟩ = some (.int .i64 a0_0) := (blk_cell BK109.out 0).trans rfl; have hcz47_1 : w46.cell? ⟨gb109, 1, none⟩ = some (.string a0_1) := (blk_cell BK109.out 1).trans rfl; have hcz47_2 : w46.cell? ⟨gb109, 2, none⟩ = some (.string a0_2) := (blk_cell BK109.out 2).trans rfl; have hcz47_3 : w46.cell? ⟨gb109, 3, none⟩ = some (.int .i64 a0_3) := (blk_cell BK109.out 3).trans rfl; have hcz47_4 : w46.cell? ⟨gb109, 4, none⟩ = some (.int .i64 a0_4) := (blk_cell BK109.out 4).trans rfl; have hcz47_5 : w46.cell? ⟨gb109, 5, none⟩ = some (.int .i64 a0_5) := (blk_cell BK109.out 5).trans rfl; have hcz47_6 : w46.cell? ⟨gb109, 6, none⟩ = some (.int .i64 a0_6) := (blk_cell BK109.out 6).trans rfl; have hfz47_0 := blk_frozen BK109.out 0; have hfz47_1 := blk_frozen BK109.out 1; have hfz47_2 := blk_frozen BK109.out 2; have hfz47_3 := blk_frozen BK109.out 3; have hfz47_4 := blk_frozen BK109.out 4; have hfz47_5 := blk_frozen BK109.out 5; have hfz47_6 := blk_frozen BK109.out 6) | ((with_reducible refine gate_callee (f := 50) rfl ?_); refine goesL_ (some 6) rfl rfl Tryd.func50 (by kernel_rfl) rfl #[.int .i64 a0_0, .int .i64 1, .int .i64 4] rfl (by (try simp only [List.map_toArray, List.map_cons, List.map_nil]); first | done | rfl | (simp only [List.length_drop, List.length_take]; rfl)) ?_; (with_reducible refine (flagstoneref34_within.calls a0_0 1 4 false _ A2.out).mono ?_); rintro e w' ⟨rfl, ⟨nd, rfl⟩⟩; refine ⟨_, rfl, ?_⟩))
    go_ret
    exact ⟨by first | rfl | (simp [errW_none, errW_some] <;> rfl) | (simp [*, errW_none, errW_some] <;> rfl), by repeat (first | (with_reducible first | exact HB.out | apply below_alloc | apply pw_below_drewN | apply below_drew1 | refine below_set ?_ GE109.out) | exact HB.out)⟩

end Go.Proofs.YtbiolondnkeakaaDoor.PT
