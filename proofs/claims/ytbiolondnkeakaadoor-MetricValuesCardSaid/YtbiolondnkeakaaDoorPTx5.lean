-- Written by this session's program wip/tools/xprint.py out of the translation's own print. Not trusted: Lean checks it.
import Derived.Test.YtbiolondnkeakaaDoorPTx0
import Derived.Test.YtbiolondnkeakaaDoorPTx2
import Derived.Test.YtbiolondnkeakaaDoorPTx4
namespace Go.Proofs.YtbiolondnkeakaaDoor.PT
open Go.RowKit Go.Proofs.YtbiolondnkeakaaDoorW.PrintWords Go.Proofs.YtbiolondnkeakaaDoorW.PrintLast Go.Proofs.YtbiolondnkeakaaDoorW.PrintMore
attribute [local go_sem] max2_int min2_int max_two min_two max_three min_three max_four min_four   -- for this text's walks alone
set_option linter.unusedVariables false
set_option linter.unusedSimpArgs false

/-! ### flagstoneref34_Value: function 19 -/
mutual
def flagstoneref34_Value.l0 : Nat → List (S40) → Int → Int → Int → Int → Int → ByteArray → ByteArray → Int → Int → Int → Int → Option (Int × Int)
  | 0, _, _, _, _, _, _, _, _, _, _, _, _ => none
  | k + 1, x1, x6, x7, x8, x9, x121000, x121001, x121002, x121003, x121004, x121005, x121006 => if x9 < (x1.length : Int) then (if 0 ≤ x9 then (if ((rd_T40 x1 x9).f2) = 2 then (if ((rd_T40 x1 x9).f5).toList = x121001.toList then (flagstoneref34_Value.j1 k x1 x6 x7 x8 x9 (decide (((rd_T40 x1 x9).f9) ≥ x121005)) x121000 x121001 x121002 x121003 x121004 x121005 x121006 ((rd_T40 x1 x9).f0) ((rd_T40 x1 x9).f1) ((rd_T40 x1 x9).f2) ((rd_T40 x1 x9).f3) ((rd_T40 x1 x9).f4) ((rd_T40 x1 x9).f5) ((rd_T40 x1 x9).f6) ((rd_T40 x1 x9).f7) ((rd_T40 x1 x9).f8) ((rd_T40 x1 x9).f9)) else (flagstoneref34_Value.j1 k x1 x6 x7 x8 x9 false x121000 x121001 x121002 x121003 x121004 x121005 x121006 ((rd_T40 x1 x9).f0) ((rd_T40 x1 x9).f1) ((rd_T40 x1 x9).f2) ((rd_T40 x1 x9).f3) ((rd_T40 x1 x9).f4) ((rd_T40 x1 x9).f5) ((rd_T40 x1 x9).f6) ((rd_T40 x1 x9).f7) ((rd_T40 x1 x9).f8) ((rd_T40 x1 x9).f9))) else (flagstoneref34_Value.l0 k x1 x6 x7 x8 (wrap64 (x9 + 1)) x121000 x121001 x121002 x121003 x121004 x121005 x121006)) else (none)) else (if x121000 = 2 then ((flagstoneref34_limited.f x7 x121004).bind fun t124 => (some (t124, 0))) else (if x121000 = 3 then ((flagstoneref34_limited.f x7 1).bind fun t125 => (some (t125, 0))) else (if x121000 = 4 then ((flagstoneref34_limited.f x6 x121004).bind fun t126 => ((flagstoneref34_limited.f x8 x121004).bind fun t127 => (some (t126, t127)))) else ((flagstoneref34_limited.f x6 x121004).bind fun t128 => (some (t128, 0))))))
def flagstoneref34_Value.j1 : Nat → List (S40) → Int → Int → Int → Int → Bool → Int → ByteArray → ByteArray → Int → Int → Int → Int → ByteArray → Int → Int → Int → ByteArray → ByteArray → ByteArray → Int → Int → Int → Option (Int × Int)
  | 0, _, _, _, _, _, _, _, _, _, _, _, _, _, _, _, _, _, _, _, _, _, _, _ => none
  | k + 1, x1, x6, x7, x8, x9, x38, x121000, x121001, x121002, x121003, x121004, x121005, x121006, x124000, x124001, x124002, x124003, x124004, x124005, x124006, x124007, x124008, x124009 => if x38 = true then (if x124005.toList = x121002.toList then (flagstoneref34_Value.l0 k x1 (wrap64 (x6 + x124009)) (wrap64 (x7 + 1)) (wrap64 (x8 + x124009)) (wrap64 (x9 + 1)) x121000 x121001 x121002 x121003 x121004 x121005 x121006) else (flagstoneref34_Value.l0 k x1 (wrap64 (x6 + x124009)) (wrap64 (x7 + 1)) x8 (wrap64 (x9 + 1)) x121000 x121001 x121002 x121003 x121004 x121005 x121006)) else (if x124005.toList = x121002.toList then (flagstoneref34_Value.l0 k x1 x6 x7 (wrap64 (x8 + x124009)) (wrap64 (x9 + 1)) x121000 x121001 x121002 x121003 x121004 x121005 x121006) else (flagstoneref34_Value.l0 k x1 x6 x7 x8 (wrap64 (x9 + 1)) x121000 x121001 x121002 x121003 x121004 x121005 x121006))
end
def flagstoneref34_Value.f (k : Nat) (a0_0 : Int) (a0_1 : ByteArray) (a0_2 : ByteArray) (a0_3 : Int) (a0_4 : Int) (a0_5 : Int) (a0_6 : Int) (l1 : List (S40)) : Option (Int × Int) := (flagstoneref34_Check.f k a0_0 a0_1 a0_2 a0_3 a0_4 a0_5 a0_6).bind fun t121 => (if t121 = 0 then (flagstoneref34_Value.l0 k l1 0 0 0 0 a0_0 a0_1 a0_2 a0_3 a0_4 a0_5 a0_6) else (some (0, 0)))
theorem flagstoneref34_Value.mono_l : ∀ k, (∀ y0 y1 y2 y3 y4 y5 y6 y7 y8 y9 y10 y11, LeO (flagstoneref34_Value.l0 k y0 y1 y2 y3 y4 y5 y6 y7 y8 y9 y10 y11) (flagstoneref34_Value.l0 (k + 1) y0 y1 y2 y3 y4 y5 y6 y7 y8 y9 y10 y11)) ∧ (∀ y0 y1 y2 y3 y4 y5 y6 y7 y8 y9 y10 y11 y12 y13 y14 y15 y16 y17 y18 y19 y20 y21 y22, LeO (flagstoneref34_Value.j1 k y0 y1 y2 y3 y4 y5 y6 y7 y8 y9 y10 y11 y12 y13 y14 y15 y16 y17 y18 y19 y20 y21 y22) (flagstoneref34_Value.j1 (k + 1) y0 y1 y2 y3 y4 y5 y6 y7 y8 y9 y10 y11 y12 y13 y14 y15 y16 y17 y18 y19 y20 y21 y22))
  | 0 => ⟨fun _ _ _ _ _ _ _ _ _ _ _ _ r h => by simp [flagstoneref34_Value.l0] at h, fun _ _ _ _ _ _ _ _ _ _ _ _ _ _ _ _ _ _ _ _ _ _ _ r h => by simp [flagstoneref34_Value.j1] at h⟩
  | k + 1 => by
    obtain ⟨ih0, ih1⟩ := flagstoneref34_Value.mono_l k
    refine ⟨?_, ?_⟩
    · intro y0 y1 y2 y3 y4 y5 y6 y7 y8 y9 y10 y11
      unfold flagstoneref34_Value.l0
      repeat' first
      | (with_reducible exact ih0 _ _ _ _ _ _ _ _ _ _ _ _)
      | (with_reducible exact ih1 _ _ _ _ _ _ _ _ _ _ _ _ _ _ _ _ _ _ _ _ _ _ _)
      | (with_reducible exact flagstoneref34_Check.mono _ _ _ _ _ _ _ _)
      | (with_reducible exact LeO.refl _)
      | (with_reducible exact LeO.none _)
      | (with_reducible refine LeO.ite ?_ ?_)
      | (with_reducible refine LeO.bind ?_ (fun _ => ?_))
      | exact ih0 _ _ _ _ _ _ _ _ _ _ _ _
      | exact ih1 _ _ _ _ _ _ _ _ _ _ _ _ _ _ _ _ _ _ _ _ _ _ _
      | exact flagstoneref34_Check.mono _ _ _ _ _ _ _ _
      | exact LeO.none _
      | refine LeO.ite ?_ ?_
      | refine LeO.bind ?_ (fun _ => ?_)
    · intro y0 y1 y2 y3 y4 y5 y6 y7 y8 y9 y10 y11 y12 y13 y14 y15 y16 y17 y18 y19 y20 y21 y22
      unfold flagstoneref34_Value.j1
      repeat' first
      | (with_reducible exact ih0 _ _ _ _ _ _ _ _ _ _ _ _)
      | (with_reducible exact ih1 _ _ _ _ _ _ _ _ _ _ _ _ _ _ _ _ _ _ _ _ _ _ _)
      | (with_reducible exact flagstoneref34_Check.mono _ _ _ _ _ _ _ _)
      | (with_reducible exact LeO.refl _)
      | (with_reducible exact LeO.none _)
      | (with_reducible refine LeO.ite ?_ ?_)
      | (with_reducible refine LeO.bind ?_ (fun _ => ?_))
      | exact ih0 _ _ _ _ _ _ _ _ _ _ _ _
      | exact ih1 _ _ _ _ _ _ _ _ _ _ _ _ _ _ _ _ _ _ _ _ _ _ _
      | exact flagstoneref34_Check.mono _ _ _ _ _ _ _ _
      | exact LeO.none _
      | refine LeO.ite ?_ ?_
      | refine LeO.bind ?_ (fun _ => ?_)
theorem flagstoneref34_Value.mono : ∀ a0 a1 a2 a3 a4 a5 a6 a7 k, LeO (flagstoneref34_Value.f k a0 a1 a2 a3 a4 a5 a6 a7) (flagstoneref34_Value.f (k + 1) a0 a1 a2 a3 a4 a5 a6 a7) := by
  intro a0 a1 a2 a3 a4 a5 a6 a7 k
  obtain ⟨ih0, ih1⟩ := flagstoneref34_Value.mono_l k
  unfold flagstoneref34_Value.f
  repeat' first
      | (with_reducible exact ih0 _ _ _ _ _ _ _ _ _ _ _ _)
      | (with_reducible exact ih1 _ _ _ _ _ _ _ _ _ _ _ _ _ _ _ _ _ _ _ _ _ _ _)
      | (with_reducible exact flagstoneref34_Check.mono _ _ _ _ _ _ _ _)
      | (with_reducible exact LeO.refl _)
      | (with_reducible exact LeO.none _)
      | (with_reducible refine LeO.ite ?_ ?_)
      | (with_reducible refine LeO.bind ?_ (fun _ => ?_))
      | exact ih0 _ _ _ _ _ _ _ _ _ _ _ _
      | exact ih1 _ _ _ _ _ _ _ _ _ _ _ _ _ _ _ _ _ _ _ _ _ _ _
      | exact flagstoneref34_Check.mono _ _ _ _ _ _ _ _
      | exact LeO.none _
      | refine LeO.ite ?_ ?_
      | refine LeO.bind ?_ (fun _ => ?_)
def flagstoneref34_Value.T19 : Bool × List (List Nat × List Nat) := (true, [([], []), ([], []), ([1], [1]), ([0, 2], [0, 2]), ([], []), ([], []), ([5], [5]), ([4, 6, 3], [4, 6]), ([3, 7, 0, 1, 2, 3], [3]), ([7, 8, 0, 1, 2, 3, 4, 5, 6, 7, 8], [7])])
def flagstoneref34_Value.B19 : List Nat := [0, 0, 2, 7, 0, 0, 32, 127, 255, 511]
theorem flagstoneref34_Value.tab19 : rtab .any (opsOf Tryd.f19 19) = flagstoneref34_Value.T19 := by kernel_rfl
theorem flagstoneref34_Value.bits19 : waitsOk flagstoneref34_Value.T19.2 flagstoneref34_Value.B19 = true := by kernel_rfl
set_option maxHeartbeats 8000000 in
set_option maxRecDepth 100000 in
theorem flagstoneref34_Value.calls (k : Nat) (a0_0 : Int) (a0_1 : ByteArray) (a0_2 : ByteArray) (a0_3 : Int) (a0_4 : Int) (a0_5 : Int) (a0_6 : Int) (A1 : Option Addr) (c1 : Nat) (l1 : List (S40)) (r1 : Int) (r2 : Int) (w : World) (hr1 : Kd.C k40 w A1 l1.length l1) (hc1 : l1.length ≤ c1) (h : flagstoneref34_Value.f k a0_0 a0_1 a0_2 a0_3 a0_4 a0_5 a0_6 l1 = some (r1, r2)) :
    Calls Tryd.prog 19 #[.agg #[.int .i64 a0_0, .string a0_1, .string a0_2, .int .i64 a0_3, .int .i64 a0_4, .int .i64 a0_5, .int .i64 a0_6], .slice A1 l1.length c1] w fun e w' => e = .returned (.tuple #[.int .i64 r1, .int .i64 r2]) ∧ Below w.heap.size w w' := by
  have hu29 := Tryd.underlying29
  have hu40 := Tryd.underlying40
  have HR1 := Aside0.mk hr1
  have HC1 := Aside0.mk hc1
  clear hr1 hc1
  have HB := Aside0.mk (Below.refl w.heap.size w)
  have H : ((flagstoneref34_Check.f k a0_0 a0_1 a0_2 a0_3 a0_4 a0_5 a0_6).bind fun t121 => (if t121 = 0 then (flagstoneref34_Value.l0 k l1 0 0 0 0 a0_0 a0_1 a0_2 a0_3 a0_4 a0_5 a0_6) else (some (0, 0)))) = some (r1, r2) := h
  clear h
  replace H := Option.bind_eq_some_iff.mp H
  obtain ⟨t121, A30, H⟩ := H
  replace H : (if t121 = 0 then (flagstoneref34_Value.l0 k l1 0 0 0 0 a0_0 a0_1 a0_2 a0_3 a0_4 a0_5 a0_6) else (some (0, 0))) = some (r1, r2) := H
  have A3 := Aside0.mk A30
  clear A30
  by_cases c4 : t121 = 0
  · rw [if_pos c4] at H
    have c4b0 : (t121 == 0) = true := beq_iff_eq.mpr c4
    have c4b1 : (t121 != 0) = false := bne_eq_false_iff_eq.mpr c4
    clear c4
    have H' := Aside0.mk H
    clear H
    go_enter Tryd.func19, Tryd.ntmps19
    go_wp2_with (first | ((with_reducible refine gate_dst (N := 2) rfl ?_); refine box_event ?hg (N := 2) ?hd (cs := #[.int .i64 a0_0, .string a0_1, .string a0_2, .int .i64 a0_3, .int .i64 a0_4, .int .i64 a0_5, .int .i64 a0_6]) (t := 29) ?hr ?_; (case hd => rfl); (case hg => rfl); (case hr => first | (go_simp; done) | (go_simp; rfl)); intro gb120 hg w5 hbox hb; have n0_ := Aside0.mk (below_step (by repeat (first | (with_reducible first | exact HB.out | apply below_alloc | apply pw_below_drewN | apply below_drew1) | exact HB.out)) hb); have n1_ := Aside0.mk (hbox); have n2_ := Aside0.mk ((by rw [hg]; exact (below_size (by repeat (first | (with_reducible first | exact HB.out | apply below_alloc | apply pw_below_drewN | apply below_drew1) | exact HB.out))) : w.heap.size ≤ gb120)); have n3_ := Aside0.mk ((by rw [hg]; exact (below_size (by repeat (first | (with_reducible first | exact HB.out | apply below_alloc | apply pw_below_drewN | apply below_drew1) | exact HB.out))) : w.heap.size ≤ gb120)); clear HB; have HB := n0_; have BK120 := n1_; have GW120 := n2_; have GE120 := n3_; clear n0_ n1_ n2_ n3_; clear hb hbox hg; have hcz6_0 : w5.cell? ⟨gb120, 0, none⟩ = some (.int .i64 a0_0) := (blk_cell BK120.out 0).trans rfl; have hcz6_1 : w5.cell? ⟨gb120, 1, none⟩ = some (.string a0_1) := (blk_cell BK120.out 1).trans rfl; have hcz6_2 : w5.cell? ⟨gb120, 2, none⟩ = some (.string a0_2) := (blk_cell BK120.out 2).trans rfl; have hcz6_3 : w5.cell? ⟨gb120, 3, none⟩ = some (.int .i64 a0_3) := (blk_cell BK120.out 3).trans rfl; have hcz6_4 : w5.cell? ⟨gb120, 4, none⟩ = some (.int .i64 a0_4) := (blk_cell BK120.out 4).trans rfl; have hcz6_5 : w5.cell? ⟨gb120, 5, none⟩ = some (.int .i64 a0_5) := (blk_cell BK120.out 5).trans rfl; have hcz6_6 : w5.cell? ⟨gb120, 6, none⟩ = some (.int .i64 a0_6) := (blk_cell BK120.out 6).trans rfl; have hfz6_0 := blk_frozen BK120.out 0; have hfz6_1 := blk_frozen BK120.out 1; have hfz6_2 := blk_frozen BK120.out 2; have hfz6_3 := blk_frozen BK120.out 3; have hfz6_4 := blk_frozen BK120.out 4; have hfz6_5 := blk_frozen BK120.out 5; have hfz6_6 := blk_frozen BK120.out 6) | ((with_reducible refine gate_callee (f := 24) rfl ?_); refine goesL_ (some 12) rfl rfl Tryd.func24 (by kernel_rfl) rfl #[.agg #[.int .i64 a0_0, .string a0_1, .string a0_2, .int .i64 a0_3, .int .i64 a0_4, .int .i64 a0_5, .int .i64 a0_6]] rfl (by (try simp only [List.map_toArray, List.map_cons, List.map_nil]); first | done | rfl | (simp only [List.length_drop, List.length_take]; rfl)) ?_; (with_reducible refine (flagstoneref34_Check.calls k a0_0 a0_1 a0_2 a0_3 a0_4 a0_5 a0_6 t121 _ A3.out).mono ?_); rintro e w7 ⟨rfl, hb⟩; refine ⟨_, rfl, ?_⟩; have n0_ := Aside0.mk (blk_below (g := gb120) (o := .cells #[.int .i64 a0_0, .string a0_1, .string a0_2, .int .i64 a0_3, .int .i64 a0_4, .int .i64 a0_5, .int .i64 a0_6] 29 (0, 0)) (by (with_reducible repeat (first | refine blk_drewN ?_ _ | refine blk_drew ?_ | refine blk_alloc ?_ _)); exact BK120.out) hb); have n1_ := Aside0.mk (below_step (by repeat (first | (with_reducible first | exact HB.out | apply below_alloc | apply pw_below_drewN | apply below_drew1 | refine below_set ?_ GE120.out) | exact HB.out)) hb); clear BK120; clear HB; have BK120 := n0_; have HB := n1_; clear n0_ n1_; (try clear hb); (try clear hb2); (try clear hk); (try clear hi)))
    go_loopg [6, 7, 8, 9] k (fun kq v6 v7 v8 v9 w' => ∃ (x6_1 : Int) (x7_1 : Int) (x8_1 : Int) (x9_1 : Int), v6 = .int .i64 x6_1 ∧ v7 = .int .i64 x7_1 ∧ v8 = .int .i64 x8_1 ∧ v9 = .int .i64 x9_1 ∧ Aside0 (flagstoneref34_Value.l0 kq l1 x6_1 x7_1 x8_1 x9_1 a0_0 a0_1 a0_2 a0_3 a0_4 a0_5 a0_6 = some (r1, r2)) ∧ Aside0 (kq ≤ k) ∧ Aside0 (w'.heap[gb120]? = some (.cells #[.int .i64 a0_0, .string a0_1, .string a0_2, .int .i64 a0_3, .int .i64 a0_4, .int .i64 a0_5, .int .i64 a0_6] 29 (0, 0))) ∧ Aside0 (Below w.heap.size w w'))
    case atStart => exact ⟨(0), (0), (0), (0), (by first | rfl | (simp; done) | (simp [*]; done)), (by first | rfl | (simp; done) | (simp [*]; done)), (by first | rfl | (simp; done) | (simp [*]; done)), (by first | rfl | (simp; done) | (simp [*]; done)), H', ⟨Nat.le_refl _⟩, ⟨by (with_reducible repeat (first | refine blk_drewN ?_ _ | refine blk_drew ?_ | refine blk_alloc ?_ _)); exact BK120.out⟩, ⟨by repeat (first | (with_reducible first | exact HB.out | apply below_alloc | apply pw_below_drewN | apply below_drew1 | refine below_set ?_ GE120.out) | exact HB.out)⟩⟩
    case round =>
      clear H'
      try clear c1
      try clear c2
      try clear p2
      try clear c4
      try clear c4b0
      try clear c4b1
      try clear hcz6_0
      try clear hcz6_1
      try clear hcz6_2
      try clear hcz6_3
      try clear hcz6_4
      try clear hcz6_5
      try clear hcz6_6
      try clear hfz6_0
      try clear hfz6_1
      try clear hfz6_2
      try clear hfz6_3
      try clear hfz6_4
      try clear hfz6_5
      try clear hfz6_6
      obtain ⟨x6_1, x7_1, x8_1, x9_1, rfl, rfl, rfl, rfl, HA, HK1, BK120, HB⟩ := hrel
      cases gk with
      | zero => exact absurd HA.out (by simp [flagstoneref34_Value.l0])
      | succ k1 =>
        have H := HA.out
        clear HA
        simp only [flagstoneref34_Value.l0] at H
        by_cases c8 : x9_1 < (l1.length : Int)
        · rw [if_pos c8] at H
          have c8b0 : decide (x9_1 < (l1.length : Int)) = true := decide_eq_true c8
          clear c8
          by_cases c9 : 0 ≤ x9_1
          · rw [if_pos c9] at H
            have c9b0 : decide (0 ≤ x9_1) = true := decide_eq_true c9
            clear c9
            by_cases c10 : ((rd_T40 l1 x9_1).f2) = 2
            · rw [if_pos c10] at H
              have c10b0 : (((rd_T40 l1 x9_1).f2) == 2) = true := beq_iff_eq.mpr c10
              have c10b1 : (((rd_T40 l1 x9_1).f2) != 2) = false := bne_eq_false_iff_eq.mpr c10
              clear c10
              have HC11 := Aside0.mk H
              clear H
              have p122 : 0 ≤ (x9_1 : Int) := of_decide_eq_true (by first | (with_reducible assumption) | assumption)
              have q122 : x9_1 < (l1.length : Int) := of_decide_eq_true (by first | (with_reducible assumption) | assumption)
              obtain ⟨ad122, e122, hx122_0, hx122_1, hx122_2, hx122_3, hx122_4, hx122_5, hx122_6, hx122_7, hx122_8, hx122_9⟩ := at_T40 HR1.out x9_1 p122 q122
              cases e122
              replace hx122_0 := (HB.out.cell (World.block_lt_of_cell? w _ hx122_0)).trans hx122_0
              replace hx122_1 := (HB.out.cell (World.block_lt_of_cell? w _ hx122_1)).trans hx122_1
              replace hx122_2 := (HB.out.cell (World.block_lt_of_cell? w _ hx122_2)).trans hx122_2
              replace hx122_3 := (HB.out.cell (World.block_lt_of_cell? w _ hx122_3)).trans hx122_3
              replace hx122_4 := (HB.out.cell (World.block_lt_of_cell? w _ hx122_4)).trans hx122_4
              replace hx122_5 := (HB.out.cell (World.block_lt_of_cell? w _ hx122_5)).trans hx122_5
              replace hx122_6 := (HB.out.cell (World.block_lt_of_cell? w _ hx122_6)).trans hx122_6
              replace hx122_7 := (HB.out.cell (World.block_lt_of_cell? w _ hx122_7)).trans hx122_7
              replace hx122_8 := (HB.out.cell (World.block_lt_of_cell? w _ hx122_8)).trans hx122_8
              replace hx122_9 := (HB.out.cell (World.block_lt_of_cell? w _ hx122_9)).trans hx122_9
              replace p122 := eq_true p122
              replace q122 := eq_true q122
              go_upto_region 9 with (first | ((with_reducible refine gate_dst (N := 10) rfl ?_); refine box_event ?hg (N := 10) ?hd (cs := #[.string (⟨#[]⟩ : ByteArray), .int .i64 0, .int .i64 0, .int .i64 0, .string (⟨#[]⟩ : ByteArray), .string (⟨#[]⟩ : ByteArray), .string (⟨#[]⟩ : ByteArray), .int .i64 0, .int .i64 0, .int .i64 0]) (t := 40) ?hr ?_; (case hd => rfl); (case hg => rfl); (case hr => first | (go_simp; done) | (go_simp; rfl)); intro gb123 hg w12 hbox hb; have n0_ := Aside0.mk (blk_below (g := gb120) (o := .cells #[.int .i64 a0_0, .string a0_1, .string a0_2, .int .i64 a0_3, .int .i64 a0_4, .int .i64 a0_5, .int .i64 a0_6] 29 (0, 0)) (by (with_reducible repeat (first | refine blk_drewN ?_ _ | refine blk_drew ?_ | refine blk_alloc ?_ _)); exact BK120.out) hb); have n1_ := Aside0.mk (below_step (by repeat (first | (with_reducible first | exact HB.out | apply below_alloc | apply pw_below_drewN | apply below_drew1 | refine below_set ?_ GE120.out) | exact HB.out)) hb); have n2_ := Aside0.mk (hbox); have n3_ := Aside0.mk ((by rw [hg]; exact (below_size (by repeat (first | (with_reducible first | exact HB.out | apply below_alloc | apply pw_below_drewN | apply below_drew1 | refine below_set ?_ GE120.out) | exact HB.out))) : w.heap.size ≤ gb123)); have n4_ := Aside0.mk ((by rw [hg]; exact (below_size (by repeat (first | (with_reducible first | exact HB.out | apply below_alloc | apply pw_below_drewN | apply below_drew1 | refine below_set ?_ GE120.out) | exact HB.out))) : w.heap.size ≤ gb123)); have n5_ := Aside0.mk ((by rw [hg]; exact Nat.ne_of_lt (blk_lt (g := gb120) (o := .cells #[.int .i64 a0_0, .string a0_1, .string a0_2, .int .i64 a0_3, .int .i64 a0_4, .int .i64 a0_5, .int .i64 a0_6] 29 (0, 0)) (by (with_reducible repeat (first | refine blk_drewN ?_ _ | refine blk_drew ?_ | refine blk_alloc ?_ _)); exact BK120.out)) : gb120 ≠ gb123)); have n6_ := Aside0.mk ((by rw [hg]; exact Nat.ne_of_gt (blk_lt (g := gb120) (o := .cells #[.int .i64 a0_0, .string a0_1, .string a0_2, .int .i64 a0_3, .int .i64 a0_4, .int .i64 a0_5, .int .i64 a0_6] 29 (0, 0)) (by (with_reducible repeat (first | refine blk_drewN ?_ _ | refine blk_drew ?_ | refine blk_alloc ?_ _)); exact BK120.out)) : gb123 ≠ gb120)); clear BK120; clear HB; have BK120 := n0_; have HB := n1_; have BK123 := n2_; have GW123 := n3_; have GE123 := n4_; have NB120_123 := n5_; have NB123_120 := n6_; clear n0_ n1_ n2_ n3_ n4_ n5_ n6_; clear hb hbox hg; have hnb13 := NB123_120.out; have hnc13 := NB120_123.out; have hcz14_0 : w12.cell? ⟨gb123, 0, none⟩ = some (.string (⟨#[]⟩ : ByteArray)) := (blk_cell BK123.out 0).trans rfl; have hcz14_1 : w12.cell? ⟨gb123, 1, none⟩ = some (.int .i64 0) := (blk_cell BK123.out 1).trans rfl; have hcz14_2 : w12.cell? ⟨gb123, 2, none⟩ = some (.int .i64 0) := (blk_cell BK123.out 2).trans rfl; have hcz14_3 : w12.cell? ⟨gb123, 3, none⟩ = some (.int .i64 0) := (blk_cell BK123.out 3).trans rfl; have hcz14_4 : w12.cell? ⟨gb123, 4, none⟩ = some (.string (⟨#[]⟩ : ByteArray)) := (blk_cell BK123.out 4).trans rfl; have hcz14_5 : w12.cell? ⟨gb123, 5, none⟩ = some (.string (⟨#[]⟩ : ByteArray)) := (blk_cell BK123.out 5).trans rfl; have hcz14_6 : w12.cell? ⟨gb123, 6, none⟩ = some (.string (⟨#[]⟩ : ByteArray)) := (blk_cell BK123.out 6).trans rfl; have hcz14_7 : w12.cell? ⟨gb123, 7, none⟩ = some (.int .i64 0) := (blk_cell BK123.out 7).trans rfl; have hcz14_8 : w12.cell? ⟨gb123, 8, none⟩ = some (.int .i64 0) := (blk_cell BK123.out 8).trans rfl; have hcz14_9 : w12.cell? ⟨gb123, 9, none⟩ = some (.int .i64 0) := (blk_cell BK123.out 9).trans rfl; have hfz14_0 := blk_frozen BK123.out 0; have hfz14_1 := blk_frozen BK123.out 1; have hfz14_2 := blk_frozen BK123.out 2; have hfz14_3 := blk_frozen BK123.out 3; have hfz14_4 := blk_frozen BK123.out 4; have hfz14_5 := blk_frozen BK123.out 5; have hfz14_6 := blk_frozen BK123.out 6; have hfz14_7 := blk_frozen BK123.out 7; have hfz14_8 := blk_frozen BK123.out 8; have hfz14_9 := blk_frozen BK123.out 9))
              (try simp only [Act.put, List.setIfInBounds_toArray, List.set_cons_zero, List.set_cons_succ])
              go_cut [38] (fun v38 wc => ∃ (kq : Nat) (x38_10 : Bool), v38 = .bool x38_10 ∧ Aside0 (flagstoneref34_Value.j1 kq l1 x6_1 x7_1 x8_1 x9_1 x38_10 a0_0 a0_1 a0_2 a0_3 a0_4 a0_5 a0_6 ((rd_T40 l1 x9_1).f0) ((rd_T40 l1 x9_1).f1) ((rd_T40 l1 x9_1).f2) ((rd_T40 l1 x9_1).f3) ((rd_T40 l1 x9_1).f4) ((rd_T40 l1 x9_1).f5) ((rd_T40 l1 x9_1).f6) ((rd_T40 l1 x9_1).f7) ((rd_T40 l1 x9_1).f8) ((rd_T40 l1 x9_1).f9) = some (r1, r2)) ∧ Aside0 (kq ≤ k1) ∧ Aside0 (wc.heap[gb120]? = some (.cells #[.int .i64 a0_0, .string a0_1, .string a0_2, .int .i64 a0_3, .int .i64 a0_4, .int .i64 a0_5, .int .i64 a0_6] 29 (0, 0))) ∧ Aside0 (wc.heap[gb123]? = some (.cells #[.string ((rd_T40 l1 x9_1).f0), .int .i64 ((rd_T40 l1 x9_1).f1), .int .i64 ((rd_T40 l1 x9_1).f2), .int .i64 ((rd_T40 l1 x9_1).f3), .string ((rd_T40 l1 x9_1).f4), .string ((rd_T40 l1 x9_1).f5), .string ((rd_T40 l1 x9_1).f6), .int .i64 ((rd_T40 l1 x9_1).f7), .int .i64 ((rd_T40 l1 x9_1).f8), .int .i64 ((rd_T40 l1 x9_1).f9)] 40 (0, 0))) ∧ Aside0 (Below w.heap.size w wc))
              case first =>
                have H := HC11.out
                clear HC11
                by_cases c15 : ((rd_T40 l1 x9_1).f5).toList = a0_1.toList
                · rw [if_pos c15] at H
                  have c15b0 : (((rd_T40 l1 x9_1).f5).toList == a0_1.toList) = true := beq_iff_eq.mpr c15
                  have c15b1 : (((rd_T40 l1 x9_1).f5).toList != a0_1.toList) = false := bne_eq_false_iff_eq.mpr c15
                  clear c15
                  (first | rw [c15b0] | (simp only [i64_w, i32_w]; rw [c15b0]) | skip)
                  have H' := Aside0.mk H
                  clear H
                  have hnb16 := NB123_120.out
                  have hnc16 := NB120_123.out
                  have hcz17_0 : w12.cell? ⟨gb123, 0, none⟩ = some (.string (⟨#[]⟩ : ByteArray)) := (blk_cell BK123.out 0).trans rfl
                  have hcz17_1 : w12.cell? ⟨gb123, 1, none⟩ = some (.int .i64 0) := (blk_cell BK123.out 1).trans rfl
                  have hcz17_2 : w12.cell? ⟨gb123, 2, none⟩ = some (.int .i64 0) := (blk_cell BK123.out 2).trans rfl
                  have hcz17_3 : w12.cell? ⟨gb123, 3, none⟩ = some (.int .i64 0) := (blk_cell BK123.out 3).trans rfl
                  have hcz17_4 : w12.cell? ⟨gb123, 4, none⟩ = some (.string (⟨#[]⟩ : ByteArray)) := (blk_cell BK123.out 4).trans rfl
                  have hcz17_5 : w12.cell? ⟨gb123, 5, none⟩ = some (.string (⟨#[]⟩ : ByteArray)) := (blk_cell BK123.out 5).trans rfl
                  have hcz17_6 : w12.cell? ⟨gb123, 6, none⟩ = some (.string (⟨#[]⟩ : ByteArray)) := (blk_cell BK123.out 6).trans rfl
                  have hcz17_7 : w12.cell? ⟨gb123, 7, none⟩ = some (.int .i64 0) := (blk_cell BK123.out 7).trans rfl
                  have hcz17_8 : w12.cell? ⟨gb123, 8, none⟩ = some (.int .i64 0) := (blk_cell BK123.out 8).trans rfl
                  have hcz17_9 : w12.cell? ⟨gb123, 9, none⟩ = some (.int .i64 0) := (blk_cell BK123.out 9).trans rfl
                  have hfz17_0 := blk_frozen BK123.out 0
                  have hfz17_1 := blk_frozen BK123.out 1
                  have hfz17_2 := blk_frozen BK123.out 2
                  have hfz17_3 := blk_frozen BK123.out 3
                  have hfz17_4 := blk_frozen BK123.out 4
                  have hfz17_5 := blk_frozen BK123.out 5
                  have hfz17_6 := blk_frozen BK123.out 6
                  have hfz17_7 := blk_frozen BK123.out 7
                  have hfz17_8 := blk_frozen BK123.out 8
                  have hfz17_9 := blk_frozen BK123.out 9
                  have hcz18_0 : w12.cell? ⟨gb120, 0, none⟩ = some (.int .i64 a0_0) := (blk_cell BK120.out 0).trans rfl
                  have hcz18_1 : w12.cell? ⟨gb120, 1, none⟩ = some (.string a0_1) := (blk_cell BK120.out 1).trans rfl
                  have hcz18_2 : w12.cell? ⟨gb120, 2, none⟩ = some (.string a0_2) := (blk_cell BK120.out 2).trans rfl
                  have hcz18_3 : w12.cell? ⟨gb120, 3, none⟩ = some (.int .i64 a0_3) := (blk_cell BK120.out 3).trans rfl
                  have hcz18_4 : w12.cell? ⟨gb120, 4, none⟩ = some (.int .i64 a0_4) := (blk_cell BK120.out 4).trans rfl
                  have hcz18_5 : w12.cell? ⟨gb120, 5, none⟩ = some (.int .i64 a0_5) := (blk_cell BK120.out 5).trans rfl
                  have hcz18_6 : w12.cell? ⟨gb120, 6, none⟩ = some (.int .i64 a0_6) := (blk_cell BK120.out 6).trans rfl
                  have hfz18_0 := blk_frozen BK120.out 0
                  have hfz18_1 := blk_frozen BK120.out 1
                  have hfz18_2 := blk_frozen BK120.out 2
                  have hfz18_3 := blk_frozen BK120.out 3
                  have hfz18_4 := blk_frozen BK120.out 4
                  have hfz18_5 := blk_frozen BK120.out 5
                  have hfz18_6 := blk_frozen BK120.out 6
                  go_wp2
                  go_meet
                  case rel => exact ⟨_, (decide (((rd_T40 l1 x9_1).f9) ≥ a0_5)), (by first | rfl | (simp; done) | (simp [*]; done)), H', ⟨by have := HK1.out; first | omega | exact Nat.le_refl _⟩, ⟨by (with_reducible repeat (first | refine blk_drewN ?_ _ | refine blk_drew ?_ | refine blk_alloc ?_ _)); refine blk_far ?_ NB120_123.out _; (with_reducible repeat (first | refine blk_drewN ?_ _ | refine blk_drew ?_ | refine blk_alloc ?_ _)); refine blk_far ?_ NB120_123.out _; (with_reducible repeat (first | refine blk_drewN ?_ _ | refine blk_drew ?_ | refine blk_alloc ?_ _)); refine blk_far ?_ NB120_123.out _; (with_reducible repeat (first | refine blk_drewN ?_ _ | refine blk_drew ?_ | refine blk_alloc ?_ _)); refine blk_far ?_ NB120_123.out _; (with_reducible repeat (first | refine blk_drewN ?_ _ | refine blk_drew ?_ | refine blk_alloc ?_ _)); refine blk_far ?_ NB120_123.out _; (with_reducible repeat (first | refine blk_drewN ?_ _ | refine blk_drew ?_ | refine blk_alloc ?_ _)); refine blk_far ?_ NB120_123.out _; (with_reducible repeat (first | refine blk_drewN ?_ _ | refine blk_drew ?_ | refine blk_alloc ?_ _)); refine blk_far ?_ NB120_123.out _; (with_reducible repeat (first | refine blk_drewN ?_ _ | refine blk_drew ?_ | refine blk_alloc ?_ _)); refine blk_far ?_ NB120_123.out _; (with_reducible repeat (first | refine blk_drewN ?_ _ | refine blk_drew ?_ | refine blk_alloc ?_ _)); refine blk_far ?_ NB120_123.out _; (with_reducible repeat (first | refine blk_drewN ?_ _ | refine blk_drew ?_ | refine blk_alloc ?_ _)); refine blk_far ?_ NB120_123.out _; (with_reducible repeat (first | refine blk_drewN ?_ _ | refine blk_drew ?_ | refine blk_alloc ?_ _)); exact BK120.out⟩, ⟨by (with_reducible repeat (first | refine blk_drewN ?_ _ | refine blk_drew ?_ | refine blk_alloc ?_ _)); refine blk_put (cs := #[.string ((rd_T40 l1 x9_1).f0), .int .i64 ((rd_T40 l1 x9_1).f1), .int .i64 ((rd_T40 l1 x9_1).f2), .int .i64 ((rd_T40 l1 x9_1).f3), .string ((rd_T40 l1 x9_1).f4), .string ((rd_T40 l1 x9_1).f5), .string ((rd_T40 l1 x9_1).f6), .int .i64 ((rd_T40 l1 x9_1).f7), .int .i64 ((rd_T40 l1 x9_1).f8), .int .i64 0]) ?_ 9 _ rfl; (with_reducible repeat (first | refine blk_drewN ?_ _ | refine blk_drew ?_ | refine blk_alloc ?_ _)); refine blk_put (cs := #[.string ((rd_T40 l1 x9_1).f0), .int .i64 ((rd_T40 l1 x9_1).f1), .int .i64 ((rd_T40 l1 x9_1).f2), .int .i64 ((rd_T40 l1 x9_1).f3), .string ((rd_T40 l1 x9_1).f4), .string ((rd_T40 l1 x9_1).f5), .string ((rd_T40 l1 x9_1).f6), .int .i64 ((rd_T40 l1 x9_1).f7), .int .i64 0, .int .i64 0]) ?_ 8 _ rfl; (with_reducible repeat (first | refine blk_drewN ?_ _ | refine blk_drew ?_ | refine blk_alloc ?_ _)); refine blk_put (cs := #[.string ((rd_T40 l1 x9_1).f0), .int .i64 ((rd_T40 l1 x9_1).f1), .int .i64 ((rd_T40 l1 x9_1).f2), .int .i64 ((rd_T40 l1 x9_1).f3), .string ((rd_T40 l1 x9_1).f4), .string ((rd_T40 l1 x9_1).f5), .string ((rd_T40 l1 x9_1).f6), .int .i64 0, .int .i64 0, .int .i64 0]) ?_ 7 _ rfl; (with_reducible repeat (first | refine blk_drewN ?_ _ | refine blk_drew ?_ | refine blk_alloc ?_ _)); refine blk_put (cs := #[.string ((rd_T40 l1 x9_1).f0), .int .i64 ((rd_T40 l1 x9_1).f1), .int .i64 ((rd_T40 l1 x9_1).f2), .int .i64 ((rd_T40 l1 x9_1).f3), .string ((rd_T40 l1 x9_1).f4), .string ((rd_T40 l1 x9_1).f5), .string (⟨#[]⟩ : ByteArray), .int .i64 0, .int .i64 0, .int .i64 0]) ?_ 6 _ rfl; (with_reducible repeat (first | refine blk_drewN ?_ _ | refine blk_drew ?_ | refine blk_alloc ?_ _)); refine blk_put (cs := #[.string ((rd_T40 l1 x9_1).f0), .int .i64 ((rd_T40 l1 x9_1).f1), .int .i64 ((rd_T40 l1 x9_1).f2), .int .i64 ((rd_T40 l1 x9_1).f3), .string ((rd_T40 l1 x9_1).f4), .string (⟨#[]⟩ : ByteArray), .string (⟨#[]⟩ : ByteArray), .int .i64 0, .int .i64 0, .int .i64 0]) ?_ 5 _ rfl; (with_reducible repeat (first | refine blk_drewN ?_ _ | refine blk_drew ?_ | refine blk_alloc ?_ _)); refine blk_put (cs := #[.string ((rd_T40 l1 x9_1).f0), .int .i64 ((rd_T40 l1 x9_1).f1), .int .i64 ((rd_T40 l1 x9_1).f2), .int .i64 ((rd_T40 l1 x9_1).f3), .string (⟨#[]⟩ : ByteArray), .string (⟨#[]⟩ : ByteArray), .string (⟨#[]⟩ : ByteArray), .int .i64 0, .int .i64 0, .int .i64 0]) ?_ 4 _ rfl; (with_reducible repeat (first | refine blk_drewN ?_ _ | refine blk_drew ?_ | refine blk_alloc ?_ _)); refine blk_put (cs := #[.string ((rd_T40 l1 x9_1).f0), .int .i64 ((rd_T40 l1 x9_1).f1), .int .i64 ((rd_T40 l1 x9_1).f2), .int .i64 0, .string (⟨#[]⟩ : ByteArray), .string (⟨#[]⟩ : ByteArray), .string (⟨#[]⟩ : ByteArray), .int .i64 0, .int .i64 0, .int .i64 0]) ?_ 3 _ rfl; (with_reducible repeat (first | refine blk_drewN ?_ _ | refine blk_drew ?_ | refine blk_alloc ?_ _)); refine blk_put (cs := #[.string ((rd_T40 l1 x9_1).f0), .int .i64 ((rd_T40 l1 x9_1).f1), .int .i64 0, .int .i64 0, .string (⟨#[]⟩ : ByteArray), .string (⟨#[]⟩ : ByteArray), .string (⟨#[]⟩ : ByteArray), .int .i64 0, .int .i64 0, .int .i64 0]) ?_ 2 _ rfl; (with_reducible repeat (first | refine blk_drewN ?_ _ | refine blk_drew ?_ | refine blk_alloc ?_ _)); refine blk_put (cs := #[.string ((rd_T40 l1 x9_1).f0), .int .i64 0, .int .i64 0, .int .i64 0, .string (⟨#[]⟩ : ByteArray), .string (⟨#[]⟩ : ByteArray), .string (⟨#[]⟩ : ByteArray), .int .i64 0, .int .i64 0, .int .i64 0]) ?_ 1 _ rfl; (with_reducible repeat (first | refine blk_drewN ?_ _ | refine blk_drew ?_ | refine blk_alloc ?_ _)); refine blk_put (cs := #[.string (⟨#[]⟩ : ByteArray), .int .i64 0, .int .i64 0, .int .i64 0, .string (⟨#[]⟩ : ByteArray), .string (⟨#[]⟩ : ByteArray), .string (⟨#[]⟩ : ByteArray), .int .i64 0, .int .i64 0, .int .i64 0]) ?_ 0 _ rfl; (with_reducible repeat (first | refine blk_drewN ?_ _ | refine blk_drew ?_ | refine blk_alloc ?_ _)); exact BK123.out⟩, ⟨by repeat (first | (with_reducible first | exact HB.out | apply below_alloc | apply pw_below_drewN | apply below_drew1 | refine below_set ?_ GE120.out | refine below_set ?_ GE123.out) | exact HB.out)⟩⟩
                · rw [if_neg c15] at H
                  have c15b0 : (((rd_T40 l1 x9_1).f5).toList == a0_1.toList) = false := beq_eq_false_iff_ne.mpr c15
                  have c15b1 : (((rd_T40 l1 x9_1).f5).toList != a0_1.toList) = true := bne_iff_ne.mpr c15
                  (first | rw [c15b0] | (simp only [i64_w, i32_w]; rw [c15b0]) | skip)
                  have H' := Aside0.mk H
                  clear H
                  have hnb19 := NB123_120.out
                  have hnc19 := NB120_123.out
                  have hcz20_0 : w12.cell? ⟨gb123, 0, none⟩ = some (.string (⟨#[]⟩ : ByteArray)) := (blk_cell BK123.out 0).trans rfl
                  have hcz20_1 : w12.cell? ⟨gb123, 1, none⟩ = some (.int .i64 0) := (blk_cell BK123.out 1).trans rfl
                  have hcz20_2 : w12.cell? ⟨gb123, 2, none⟩ = some (.int .i64 0) := (blk_cell BK123.out 2).trans rfl
                  have hcz20_3 : w12.cell? ⟨gb123, 3, none⟩ = some (.int .i64 0) := (blk_cell BK123.out 3).trans rfl
                  have hcz20_4 : w12.cell? ⟨gb123, 4, none⟩ = some (.string (⟨#[]⟩ : ByteArray)) := (blk_cell BK123.out 4).trans rfl
                  have hcz20_5 : w12.cell? ⟨gb123, 5, none⟩ = some (.string (⟨#[]⟩ : ByteArray)) := (blk_cell BK123.out 5).trans rfl
                  have hcz20_6 : w12.cell? ⟨gb123, 6, none⟩ = some (.string (⟨#[]⟩ : ByteArray)) := (blk_cell BK123.out 6).trans rfl
                  have hcz20_7 : w12.cell? ⟨gb123, 7, none⟩ = some (.int .i64 0) := (blk_cell BK123.out 7).trans rfl
                  have hcz20_8 : w12.cell? ⟨gb123, 8, none⟩ = some (.int .i64 0) := (blk_cell BK123.out 8).trans rfl
                  have hcz20_9 : w12.cell? ⟨gb123, 9, none⟩ = some (.int .i64 0) := (blk_cell BK123.out 9).trans rfl
                  have hfz20_0 := blk_frozen BK123.out 0
                  have hfz20_1 := blk_frozen BK123.out 1
                  have hfz20_2 := blk_frozen BK123.out 2
                  have hfz20_3 := blk_frozen BK123.out 3
                  have hfz20_4 := blk_frozen BK123.out 4
                  have hfz20_5 := blk_frozen BK123.out 5
                  have hfz20_6 := blk_frozen BK123.out 6
                  have hfz20_7 := blk_frozen BK123.out 7
                  have hfz20_8 := blk_frozen BK123.out 8
                  have hfz20_9 := blk_frozen BK123.out 9
                  have hcz21_0 : w12.cell? ⟨gb120, 0, none⟩ = some (.int .i64 a0_0) := (blk_cell BK120.out 0).trans rfl
                  have hcz21_1 : w12.cell? ⟨gb120, 1, none⟩ = some (.string a0_1) := (blk_cell BK120.out 1).trans rfl
                  have hcz21_2 : w12.cell? ⟨gb120, 2, none⟩ = some (.string a0_2) := (blk_cell BK120.out 2).trans rfl
                  have hcz21_3 : w12.cell? ⟨gb120, 3, none⟩ = some (.int .i64 a0_3) := (blk_cell BK120.out 3).trans rfl
                  have hcz21_4 : w12.cell? ⟨gb120, 4, none⟩ = some (.int .i64 a0_4) := (blk_cell BK120.out 4).trans rfl
                  have hcz21_5 : w12.cell? ⟨gb120, 5, none⟩ = some (.int .i64 a0_5) := (blk_cell BK120.out 5).trans rfl
                  have hcz21_6 : w12.cell? ⟨gb120, 6, none⟩ = some (.int .i64 a0_6) := (blk_cell BK120.out 6).trans rfl
                  have hfz21_0 := blk_frozen BK120.out 0
                  have hfz21_1 := blk_frozen BK120.out 1
                  have hfz21_2 := blk_frozen BK120.out 2
                  have hfz21_3 := blk_frozen BK120.out 3
                  have hfz21_4 := blk_frozen BK120.out 4
                  have hfz21_5 := blk_frozen BK120.out 5
                  have hfz21_6 := blk_frozen BK120.out 6
                  go_wp2
                  go_meet
                  case rel => exact ⟨_, (false), (by first | rfl | (simp; done) | (simp [*]; done)), H', ⟨by have := HK1.out; first | omega | exact Nat.le_refl _⟩, ⟨by (with_reducible repeat (first | refine blk_drewN ?_ _ | refine blk_drew ?_ | refine blk_alloc ?_ _)); refine blk_far ?_ NB120_123.out _; (with_reducible repeat (first | refine blk_drewN ?_ _ | refine blk_drew ?_ | refine blk_alloc ?_ _)); refine blk_far ?_ NB120_123.out _; (with_reducible repeat (first | refine blk_drewN ?_ _ | refine blk_drew ?_ | refine blk_alloc ?_ _)); refine blk_far ?_ NB120_123.out _; (with_reducible repeat (first | refine blk_drewN ?_ _ | refine blk_drew ?_ | refine blk_alloc ?_ _)); refine blk_far ?_ NB120_123.out _; (with_reducible repeat (first | refine blk_drewN ?_ _ | refine blk_drew ?_ | refine blk_alloc ?_ _)); refine blk_far ?_ NB120_123.out _; (with_reducible repeat (first | refine blk_drewN ?_ _ | refine blk_drew ?_ | refine blk_alloc ?_ _)); refine blk_far ?_ NB120_123.out _; (with_reducible repeat (first | refine blk_drewN ?_ _ | refine blk_drew ?_ | refine blk_alloc ?_ _)); refine blk_far ?_ NB120_123.out _; (with_reducible repeat (first | refine blk_drewN ?_ _ | refine blk_drew ?_ | refine blk_alloc ?_ _)); refine blk_far ?_ NB120_123.out _; (with_reducible repeat (first | refine blk_drewN ?_ _ | refine blk_drew ?_ | refine blk_alloc ?_ _)); refine blk_far ?_ NB120_123.out _; (with_reducible repeat (first | refine blk_drewN ?_ _ | refine blk_drew ?_ | refine blk_alloc ?_ _)); refine blk_far ?_ NB120_123.out _; (with_reducible repeat (first | refine blk_drewN ?_ _ | refine blk_drew ?_ | refine blk_alloc ?_ _)); exact BK120.out⟩, ⟨by (with_reducible repeat (first | refine blk_drewN ?_ _ | refine blk_drew ?_ | refine blk_alloc ?_ _)); refine blk_put (cs := #[.string ((rd_T40 l1 x9_1).f0), .int .i64 ((rd_T40 l1 x9_1).f1), .int .i64 ((rd_T40 l1 x9_1).f2), .int .i64 ((rd_T40 l1 x9_1).f3), .string ((rd_T40 l1 x9_1).f4), .string ((rd_T40 l1 x9_1).f5), .string ((rd_T40 l1 x9_1).f6), .int .i64 ((rd_T40 l1 x9_1).f7), .int .i64 ((rd_T40 l1 x9_1).f8), .int .i64 0]) ?_ 9 _ rfl; (with_reducible repeat (first | refine blk_drewN ?_ _ | refine blk_drew ?_ | refine blk_alloc ?_ _)); refine blk_put (cs := #[.string ((rd_T40 l1 x9_1).f0), .int .i64 ((rd_T40 l1 x9_1).f1), .int .i64 ((rd_T40 l1 x9_1).f2), .int .i64 ((rd_T40 l1 x9_1).f3), .string ((rd_T40 l1 x9_1).f4), .string ((rd_T40 l1 x9_1).f5), .string ((rd_T40 l1 x9_1).f6), .int .i64 ((rd_T40 l1 x9_1).f7), .int .i64 0, .int .i64 0]) ?_ 8 _ rfl; (with_reducible repeat (first | refine blk_drewN ?_ _ | refine blk_drew ?_ | refine blk_alloc ?_ _)); refine blk_put (cs := #[.string ((rd_T40 l1 x9_1).f0), .int .i64 ((rd_T40 l1 x9_1).f1), .int .i64 ((rd_T40 l1 x9_1).f2), .int .i64 ((rd_T40 l1 x9_1).f3), .string ((rd_T40 l1 x9_1).f4), .string ((rd_T40 l1 x9_1).f5), .string ((rd_T40 l1 x9_1).f6), .int .i64 0, .int .i64 0, .int .i64 0]) ?_ 7 _ rfl; (with_reducible repeat (first | refine blk_drewN ?_ _ | refine blk_drew ?_ | refine blk_alloc ?_ _)); refine blk_put (cs := #[.string ((rd_T40 l1 x9_1).f0), .int .i64 ((rd_T40 l1 x9_1).f1), .int .i64 ((rd_T40 l1 x9_1).f2), .int .i64 ((rd_T40 l1 x9_1).f3), .string ((rd_T40 l1 x9_1).f4), .string ((rd_T40 l1 x9_1).f5), .string (⟨#[]⟩ : ByteArray), .int .i64 0, .int .i64 0, .int .i64 0]) ?_ 6 _ rfl; (with_reducible repeat (first | refine blk_drewN ?_ _ | refine blk_drew ?_ | refine blk_alloc ?_ _)); refine blk_put (cs := #[.string ((rd_T40 l1 x9_1).f0), .int .i64 ((rd_T40 l1 x9_1).f1), .int .i64 ((rd_T40 l1 x9_1).f2), .int .i64 ((rd_T40 l1 x9_1).f3), .string ((rd_T40 l1 x9_1).f4), .string (⟨#[]⟩ : ByteArray), .string (⟨#[]⟩ : ByteArray), .int .i64 0, .int .i64 0, .int .i64 0]) ?_ 5 _ rfl; (with_reducible repeat (first | refine blk_drewN ?_ _ | refine blk_drew ?_ | refine blk_alloc ?_ _)); refine blk_put (cs := #[.string ((rd_T40 l1 x9_1).f0), .int .i64 ((rd_T40 l1 x9_1).f1), .int .i64 ((rd_T40 l1 x9_1).f2), .int .i64 ((rd_T40 l1 x9_1).f3), .string (⟨#[]⟩ : ByteArray), .string (⟨#[]⟩ : ByteArray), .string (⟨#[]⟩ : ByteArray), .int .i64 0, .int .i64 0, .int .i64 0]) ?_ 4 _ rfl; (with_reducible repeat (first | refine blk_drewN ?_ _ | refine blk_drew ?_ | refine blk_alloc ?_ _)); refine blk_put (cs := #[.string ((rd_T40 l1 x9_1).f0), .int .i64 ((rd_T40 l1 x9_1).f1), .int .i64 ((rd_T40 l1 x9_1).f2), .int .i64 0, .string (⟨#[]⟩ : ByteArray), .string (⟨#[]⟩ : ByteArray), .string (⟨#[]⟩ : ByteArray), .int .i64 0, .int .i64 0, .int .i64 0]) ?_ 3 _ rfl; (with_reducible repeat (first | refine blk_drewN ?_ _ | refine blk_drew ?_ | refine blk_alloc ?_ _)); refine blk_put (cs := #[.string ((rd_T40 l1 x9_1).f0), .int .i64 ((rd_T40 l1 x9_1).f1), .int .i64 0, .int .i64 0, .string (⟨#[]⟩ : ByteArray), .string (⟨#[]⟩ : ByteArray), .string (⟨#[]⟩ : ByteArray), .int .i64 0, .int .i64 0, .int .i64 0]) ?_ 2 _ rfl; (with_reducible repeat (first | refine blk_drewN ?_ _ | refine blk_drew ?_ | refine blk_alloc ?_ _)); refine blk_put (cs := #[.string ((rd_T40 l1 x9_1).f0), .int .i64 0, .int .i64 0, .int .i64 0, .string (⟨#[]⟩ : ByteArray), .string (⟨#[]⟩ : ByteArray), .string (⟨#[]⟩ : ByteArray), .int .i64 0, .int .i64 0, .int .i64 0]) ?_ 1 _ rfl; (with_reducible repeat (first | refine blk_drewN ?_ _ | refine blk_drew ?_ | refine blk_alloc ?_ _)); refine blk_put (cs := #[.string (⟨#[]⟩ : ByteArray), .int .i64 0, .int .i64 0, .int .i64 0, .string (⟨#[]⟩ : ByteArray), .string (⟨#[]⟩ : ByteArray), .string (⟨#[]⟩ : ByteArray), .int .i64 0, .int .i64 0, .int .i64 0]) ?_ 0 _ rfl; (with_reducible repeat (first | refine blk_drewN ?_ _ | refine blk_drew ?_ | refine blk_alloc ?_ _)); exact BK123.out⟩, ⟨by repeat (first | (with_reducible first | exact HB.out | apply below_alloc | apply pw_below_drewN | apply below_drew1 | refine below_set ?_ GE120.out | refine below_set ?_ GE123.out) | exact HB.out)⟩⟩
              case rest =>
                clear HC11
                try clear c1
                try clear p1
                try clear q1
                try clear hx1
                try clear c2
                try clear p2
                try clear c4
                try clear c4b0
                try clear c4b1
                try clear c8
                try clear c8b0
                try clear c9
                try clear c9b0
                try clear c10
                try clear c10b0
                try clear c10b1
                try clear p12
                try clear q12
                try clear hx12
                try clear c13
                try clear c15
                try clear c15b0
                try clear c15b1
                try clear c16
                try clear c19
                try clear hcz14_0
                try clear hcz14_1
                try clear hcz14_2
                try clear hcz14_3
                try clear hcz14_4
                try clear hcz14_5
                try clear hcz14_6
                try clear hcz14_7
                try clear hcz14_8
                try clear hcz14_9
                try clear hcz17_0
                try clear hcz17_1
                try clear hcz17_2
                try clear hcz17_3
                try clear hcz17_4
                try clear hcz17_5
                try clear hcz17_6
                try clear hcz17_7
                try clear hcz17_8
                try clear hcz17_9
                try clear hcz18_0
                try clear hcz18_1
                try clear hcz18_2
                try clear hcz18_3
                try clear hcz18_4
                try clear hcz18_5
                try clear hcz18_6
                try clear hcz20_0
                try clear hcz20_1
                try clear hcz20_2
                try clear hcz20_3
                try clear hcz20_4
                try clear hcz20_5
                try clear hcz20_6
                try clear hcz20_7
                try clear hcz20_8
                try clear hcz20_9
                try clear hcz21_0
                try clear hcz21_1
                try clear hcz21_2
                try clear hcz21_3
                try clear hcz21_4
                try clear hcz21_5
                try clear hcz21_6
                try clear hcz6_0
                try clear hcz6_1
                try clear hcz6_2
                try clear hcz6_3
                try clear hcz6_4
                try clear hcz6_5
                try clear hcz6_6
                try clear hfz14_0
                try clear hfz14_1
                try clear hfz14_2
                try clear hfz14_3
                try clear hfz14_4
                try clear hfz14_5
                try clear hfz14_6
                try clear hfz14_7
                try clear hfz14_8
                try clear hfz14_9
                try clear hfz17_0
                try clear hfz17_1
                try clear hfz17_2
                try clear hfz17_3
                try clear hfz17_4
                try clear hfz17_5
                try clear hfz17_6
                try clear hfz17_7
                try clear hfz17_8
                try clear hfz17_9
                try clear hfz18_0
                try clear hfz18_1
                try clear hfz18_2
                try clear hfz18_3
                try clear hfz18_4
                try clear hfz18_5
                try clear hfz18_6
                try clear hfz20_0
                try clear hfz20_1
                try clear hfz20_2
                try clear hfz20_3
                try clear hfz20_4
                try clear hfz20_5
                try clear hfz20_6
                try clear hfz20_7
                try clear hfz20_8
                try clear hfz20_9
                try clear hfz21_0
                try clear hfz21_1
                try clear hfz21_2
                try clear hfz21_3
                try clear hfz21_4
                try clear hfz21_5
                try clear hfz21_6
                try clear hfz6_0
                try clear hfz6_1
                try clear hfz6_2
                try clear hfz6_3
                try clear hfz6_4
                try clear hfz6_5
                try clear hfz6_6
                try clear hx122_0
                try clear hx122_1
                try clear hx122_2
                try clear hx122_3
                try clear hx122_4
                try clear hx122_5
                try clear hx122_6
                try clear hx122_7
                try clear hx122_8
                try clear hx122_9
                try clear p122
                try clear p2
                try clear q122
                obtain ⟨kq, x38_10, rfl, HA, HJ10, BK120, BK123, HB⟩ := hcut
                cases kq with
                | zero => exact absurd HA.out (by simp [flagstoneref34_Value.j1])
                | succ kj10 =>
                  have H := HA.out
                  clear HA
                  simp only [flagstoneref34_Value.j1] at H
                  by_cases c22 : x38_10 = true
                  · subst c22
                    have H1 : (if ((rd_T40 l1 x9_1).f5).toList = a0_2.toList then (flagstoneref34_Value.l0 kj10 l1 (wrap64 (x6_1 + ((rd_T40 l1 x9_1).f9))) (wrap64 (x7_1 + 1)) (wrap64 (x8_1 + ((rd_T40 l1 x9_1).f9))) (wrap64 (x9_1 + 1)) a0_0 a0_1 a0_2 a0_3 a0_4 a0_5 a0_6) else (flagstoneref34_Value.l0 kj10 l1 (wrap64 (x6_1 + ((rd_T40 l1 x9_1).f9))) (wrap64 (x7_1 + 1)) x8_1 (wrap64 (x9_1 + 1)) a0_0 a0_1 a0_2 a0_3 a0_4 a0_5 a0_6)) = some (r1, r2) := by rw [if_pos rfl] at H; exact H
                    clear H
                    have H := H1
                    clear H1
                    by_cases c23 : ((rd_T40 l1 x9_1).f5).toList = a0_2.toList
                    · rw [if_pos c23] at H
                      have c23b0 : (((rd_T40 l1 x9_1).f5).toList == a0_2.toList) = true := beq_iff_eq.mpr c23
                      have c23b1 : (((rd_T40 l1 x9_1).f5).toList != a0_2.toList) = false := bne_eq_false_iff_eq.mpr c23
                      clear c23
                      have H' := Aside0.mk H
                      clear H
                      have hnb24 := NB123_120.out
                      have hnc24 := NB120_123.out
                      have hcz25_0 : wc.cell? ⟨gb123, 0, none⟩ = some (.string ((rd_T40 l1 x9_1).f0)) := (blk_cell BK123.out 0).trans rfl
                      have hcz25_1 : wc.cell? ⟨gb123, 1, none⟩ = some (.int .i64 ((rd_T40 l1 x9_1).f1)) := (blk_cell BK123.out 1).trans rfl
                      have hcz25_2 : wc.cell? ⟨gb123, 2, none⟩ = some (.int .i64 ((rd_T40 l1 x9_1).f2)) := (blk_cell BK123.out 2).trans rfl
                      have hcz25_3 : wc.cell? ⟨gb123, 3, none⟩ = some (.int .i64 ((rd_T40 l1 x9_1).f3)) := (blk_cell BK123.out 3).trans rfl
                      have hcz25_4 : wc.cell? ⟨gb123, 4, none⟩ = some (.string ((rd_T40 l1 x9_1).f4)) := (blk_cell BK123.out 4).trans rfl
                      have hcz25_5 : wc.cell? ⟨gb123, 5, none⟩ = some (.string ((rd_T40 l1 x9_1).f5)) := (blk_cell BK123.out 5).trans rfl
                      have hcz25_6 : wc.cell? ⟨gb123, 6, none⟩ = some (.string ((rd_T40 l1 x9_1).f6)) := (blk_cell BK123.out 6).trans rfl
                      have hcz25_7 : wc.cell? ⟨gb123, 7, none⟩ = some (.int .i64 ((rd_T40 l1 x9_1).f7)) := (blk_cell BK123.out 7).trans rfl
                      have hcz25_8 : wc.cell? ⟨gb123, 8, none⟩ = some (.int .i64 ((rd_T40 l1 x9_1).f8)) := (blk_cell BK123.out 8).trans rfl
                      have hcz25_9 : wc.cell? ⟨gb123, 9, none⟩ = some (.int .i64 ((rd_T40 l1 x9_1).f9)) := (blk_cell BK123.out 9).trans rfl
                      have hfz25_0 := blk_frozen BK123.out 0
                      have hfz25_1 := blk_frozen BK123.out 1
                      have hfz25_2 := blk_frozen BK123.out 2
                      have hfz25_3 := blk_frozen BK123.out 3
                      have hfz25_4 := blk_frozen BK123.out 4
                      have hfz25_5 := blk_frozen BK123.out 5
                      have hfz25_6 := blk_frozen BK123.out 6
                      have hfz25_7 := blk_frozen BK123.out 7
                      have hfz25_8 := blk_frozen BK123.out 8
                      have hfz25_9 := blk_frozen BK123.out 9
                      have hcz26_0 : wc.cell? ⟨gb120, 0, none⟩ = some (.int .i64 a0_0) := (blk_cell BK120.out 0).trans rfl
                      have hcz26_1 : wc.cell? ⟨gb120, 1, none⟩ = some (.string a0_1) := (blk_cell BK120.out 1).trans rfl
                      have hcz26_2 : wc.cell? ⟨gb120, 2, none⟩ = some (.string a0_2) := (blk_cell BK120.out 2).trans rfl
                      have hcz26_3 : wc.cell? ⟨gb120, 3, none⟩ = some (.int .i64 a0_3) := (blk_cell BK120.out 3).trans rfl
                      have hcz26_4 : wc.cell? ⟨gb120, 4, none⟩ = some (.int .i64 a0_4) := (blk_cell BK120.out 4).trans rfl
                      have hcz26_5 : wc.cell? ⟨gb120, 5, none⟩ = some (.int .i64 a0_5) := (blk_cell BK120.out 5).trans rfl
                      have hcz26_6 : wc.cell? ⟨gb120, 6, none⟩ = some (.int .i64 a0_6) := (blk_cell BK120.out 6).trans rfl
                      have hfz26_0 := blk_frozen BK120.out 0
                      have hfz26_1 := blk_frozen BK120.out 1
                      have hfz26_2 := blk_frozen BK120.out 2
                      have hfz26_3 := blk_frozen BK120.out 3
                      have hfz26_4 := blk_frozen BK120.out 4
                      have hfz26_5 := blk_frozen BK120.out 5
                      have hfz26_6 := blk_frozen BK120.out 6
                      go_wp2
                      go_roundg kj10
                      case measure => have := HK1.out; have := HJ10.out; omega
                      case rel => exact ⟨(wrap64 (x6_1 + ((rd_T40 l1 x9_1).f9))), (wrap64 (x7_1 + 1)), (wrap64 (x8_1 + ((rd_T40 l1 x9_1).f9))), (wrap64 (x9_1 + 1)), (by first | rfl | (simp; done) | (simp [*]; done)), (by first | rfl | (simp; done) | (simp [*]; done)), (by first | rfl | (simp; done) | (simp [*]; done)), (by first | rfl | (simp; done) | (simp [*]; done)), H', ⟨by have := HK1.out; have := HJ10.out; omega⟩, ⟨by (with_reducible repeat (first | refine blk_drewN ?_ _ | refine blk_drew ?_ | refine blk_alloc ?_ _)); exact BK120.out⟩, ⟨by repeat (first | (with_reducible first | exact HB.out | apply below_alloc | apply pw_below_drewN | apply below_drew1 | refine below_set ?_ GE120.out | refine below_set ?_ GE123.out) | exact HB.out)⟩⟩
                    · rw [if_neg c23] at H
                      have c23b0 : (((rd_T40 l1 x9_1).f5).toList == a0_2.toList) = false := beq_eq_false_iff_ne.mpr c23
                      have c23b1 : (((rd_T40 l1 x9_1).f5).toList != a0_2.toList) = true := bne_iff_ne.mpr c23
                      have H' := Aside0.mk H
                      clear H
                      have hnb27 := NB123_120.out
                      have hnc27 := NB120_123.out
                      have hcz28_0 : wc.cell? ⟨gb123, 0, none⟩ = some (.string ((rd_T40 l1 x9_1).f0)) := (blk_cell BK123.out 0).trans rfl
                      have hcz28_1 : wc.cell? ⟨gb123, 1, none⟩ = some (.int .i64 ((rd_T40 l1 x9_1).f1)) := (blk_cell BK123.out 1).trans rfl
                      have hcz28_2 : wc.cell? ⟨gb123, 2, none⟩ = some (.int .i64 ((rd_T40 l1 x9_1).f2)) := (blk_cell BK123.out 2).trans rfl
                      have hcz28_3 : wc.cell? ⟨gb123, 3, none⟩ = some (.int .i64 ((rd_T40 l1 x9_1).f3)) := (blk_cell BK123.out 3).trans rfl
                      have hcz28_4 : wc.cell? ⟨gb123, 4, none⟩ = some (.string ((rd_T40 l1 x9_1).f4)) := (blk_cell BK123.out 4).trans rfl
                      have hcz28_5 : wc.cell? ⟨gb123, 5, none⟩ = some (.string ((rd_T40 l1 x9_1).f5)) := (blk_cell BK123.out 5).trans rfl
                      have hcz28_6 : wc.cell? ⟨gb123, 6, none⟩ = some (.string ((rd_T40 l1 x9_1).f6)) := (blk_cell BK123.out 6).trans rfl
                      have hcz28_7 : wc.cell? ⟨gb123, 7, none⟩ = some (.int .i64 ((rd_T40 l1 x9_1).f7)) := (blk_cell BK123.out 7).trans rfl
                      have hcz28_8 : wc.cell? ⟨gb123, 8, none⟩ = some (.int .i64 ((rd_T40 l1 x9_1).f8)) := (blk_cell BK123.out 8).trans rfl
                      have hcz28_9 : wc.cell? ⟨gb123, 9, none⟩ = some (.int .i64 ((rd_T40 l1 x9_1).f9)) := (blk_cell BK123.out 9).trans rfl
                      have hfz28_0 := blk_frozen BK123.out 0
                      have hfz28_1 := blk_frozen BK123.out 1
                      have hfz28_2 := blk_frozen BK123.out 2
                      have hfz28_3 := blk_frozen BK123.out 3
                      have hfz28_4 := blk_frozen BK123.out 4
                      have hfz28_5 := blk_frozen BK123.out 5
                      have hfz28_6 := blk_frozen BK123.out 6
                      have hfz28_7 := blk_frozen BK123.out 7
                      have hfz28_8 := blk_frozen BK123.out 8
                      have hfz28_9 := blk_frozen BK123.out 9
                      have hcz29_0 : wc.cell? ⟨gb120, 0, none⟩ = some (.int .i64 a0_0) := (blk_cell BK120.out 0).trans rfl
                      have hcz29_1 : wc.cell? ⟨gb120, 1, none⟩ = some (.string a0_1) := (blk_cell BK120.out 1).trans rfl
                      have hcz29_2 : wc.cell? ⟨gb120, 2, none⟩ = some (.string a0_2) := (blk_cell BK120.out 2).trans rfl
                      have hcz29_3 : wc.cell? ⟨gb120, 3, none⟩ = some (.int .i64 a0_3) := (blk_cell BK120.out 3).trans rfl
                      have hcz29_4 : wc.cell? ⟨gb120, 4, none⟩ = some (.int .i64 a0_4) := (blk_cell BK120.out 4).trans rfl
                      have hcz29_5 : wc.cell? ⟨gb120, 5, none⟩ = some (.int .i64 a0_5) := (blk_cell BK120.out 5).trans rfl
                      have hcz29_6 : wc.cell? ⟨gb120, 6, none⟩ = some (.int .i64 a0_6) := (blk_cell BK120.out 6).trans rfl
                      have hfz29_0 := blk_frozen BK120.out 0
                      have hfz29_1 := blk_frozen BK120.out 1
                      have hfz29_2 := blk_frozen BK120.out 2
                      have hfz29_3 := blk_frozen BK120.out 3
                      have hfz29_4 := blk_frozen BK120.out 4
                      have hfz29_5 := blk_frozen BK120.out 5
                      have hfz29_6 := blk_frozen BK120.out 6
                      go_wp2
                      go_roundg kj10
                      case measure => have := HK1.out; have := HJ10.out; omega
                      case rel => exact ⟨(wrap64 (x6_1 + ((rd_T40 l1 x9_1).f9))), (wrap64 (x7_1 + 1)), (x8_1), (wrap64 (x9_1 + 1)), (by first | rfl | (simp; done) | (simp [*]; done)), (by first | rfl | (simp; done) | (simp [*]; done)), (by first | rfl | (simp; done) | (simp [*]; done)), (by first | rfl | (simp; done) | (simp [*]; done)), H', ⟨by have := HK1.out; have := HJ10.out; omega⟩, ⟨by (with_reducible repeat (first | refine blk_drewN ?_ _ | refine blk_drew ?_ | refine blk_alloc ?_ _)); exact BK120.out⟩, ⟨by repeat (first | (with_reducible first | exact HB.out | apply below_alloc | apply pw_below_drewN | apply below_drew1 | refine below_set ?_ GE120.out | refine below_set ?_ GE123.out) | exact HB.out)⟩⟩
                  · replace c22 := Bool.eq_false_iff.mpr c22
                    subst c22
                    have H1 : (if ((rd_T40 l1 x9_1).f5).toList = a0_2.toList then (flagstoneref34_Value.l0 kj10 l1 x6_1 x7_1 (wrap64 (x8_1 + ((rd_T40 l1 x9_1).f9))) (wrap64 (x9_1 + 1)) a0_0 a0_1 a0_2 a0_3 a0_4 a0_5 a0_6) else (flagstoneref34_Value.l0 kj10 l1 x6_1 x7_1 x8_1 (wrap64 (x9_1 + 1)) a0_0 a0_1 a0_2 a0_3 a0_4 a0_5 a0_6)) = some (r1, r2) := by rw [if_neg (show ¬ (false = true) by decide)] at H; exact H
                    clear H
                    have H := H1
                    clear H1
                    by_cases c30 : ((rd_T40 l1 x9_1).f5).toList = a0_2.toList
                    · rw [if_pos c30] at H
                      have c30b0 : (((rd_T40 l1 x9_1).f5).toList == a0_2.toList) = true := beq_iff_eq.mpr c30
                      have c30b1 : (((rd_T40 l1 x9_1).f5).toList != a0_2.toList) = false := bne_eq_false_iff_eq.mpr c30
                      clear c30
                      have H' := Aside0.mk H
                      clear H
                      have hnb31 := NB123_120.out
                      have hnc31 := NB120_123.out
                      have hcz32_0 : wc.cell? ⟨gb123, 0, none⟩ = some (.string ((rd_T40 l1 x9_1).f0)) := (blk_cell BK123.out 0).trans rfl
                      have hcz32_1 : wc.cell? ⟨gb123, 1, none⟩ = some (.int .i64 ((rd_T40 l1 x9_1).f1)) := (blk_cell BK123.out 1).trans rfl
                      have hcz32_2 : wc.cell? ⟨gb123, 2, none⟩ = some (.int .i64 ((rd_T40 l1 x9_1).f2)) := (blk_cell BK123.out 2).trans rfl
                      have hcz32_3 : wc.cell? ⟨gb123, 3, none⟩ = some (.int .i64 ((rd_T40 l1 x9_1).f3)) := (blk_cell BK123.out 3).trans rfl
                      have hcz32_4 : wc.cell? ⟨gb123, 4, none⟩ = some (.string ((rd_T40 l1 x9_1).f4)) := (blk_cell BK123.out 4).trans rfl
                      have hcz32_5 : wc.cell? ⟨gb123, 5, none⟩ = some (.string ((rd_T40 l1 x9_1).f5)) := (blk_cell BK123.out 5).trans rfl
                      have hcz32_6 : wc.cell? ⟨gb123, 6, none⟩ = some (.string ((rd_T40 l1 x9_1).f6)) := (blk_cell BK123.out 6).trans rfl
                      have hcz32_7 : wc.cell? ⟨gb123, 7, none⟩ = some (.int .i64 ((rd_T40 l1 x9_1).f7)) := (blk_cell BK123.out 7).trans rfl
                      have hcz32_8 : wc.cell? ⟨gb123, 8, none⟩ = some (.int .i64 ((rd_T40 l1 x9_1).f8)) := (blk_cell BK123.out 8).trans rfl
                      have hcz32_9 : wc.cell? ⟨gb123, 9, none⟩ = some (.int .i64 ((rd_T40 l1 x9_1).f9)) := (blk_cell BK123.out 9).trans rfl
                      have hfz32_0 := blk_frozen BK123.out 0
                      have hfz32_1 := blk_frozen BK123.out 1
                      have hfz32_2 := blk_frozen BK123.out 2
                      have hfz32_3 := blk_frozen BK123.out 3
                      have hfz32_4 := blk_frozen BK123.out 4
                      have hfz32_5 := blk_frozen BK123.out 5
                      have hfz32_6 := blk_frozen BK123.out 6
                      have hfz32_7 := blk_frozen BK123.out 7
                      have hfz32_8 := blk_frozen BK123.out 8
                      have hfz32_9 := blk_frozen BK123.out 9
                      have hcz33_0 : wc.cell? ⟨gb120, 0, none⟩ = some (.int .i64 a0_0) := (blk_cell BK120.out 0).trans rfl
                      have hcz33_1 : wc.cell? ⟨gb120, 1, none⟩ = some (.string a0_1) := (blk_cell BK120.out 1).trans rfl
                      have hcz33_2 : wc.cell? ⟨gb120, 2, none⟩ = some (.string a0_2) := (blk_cell BK120.out 2).trans rfl
                      have hcz33_3 : wc.cell? ⟨gb120, 3, none⟩ = some (.int .i64 a0_3) := (blk_cell BK120.out 3).trans rfl
                      have hcz33_4 : wc.cell? ⟨gb120, 4, none⟩ = some (.int .i64 a0_4) := (blk_cell BK120.out 4).trans rfl
                      have hcz33_5 : wc.cell? ⟨gb120, 5, none⟩ = some (.int .i64 a0_5) := (blk_cell BK120.out 5).trans rfl
                      have hcz33_6 : wc.cell? ⟨gb120, 6, none⟩ = some (.int .i64 a0_6) := (blk_cell BK120.out 6).trans rfl
                      have hfz33_0 := blk_frozen BK120.out 0
                      have hfz33_1 := blk_frozen BK120.out 1
                      have hfz33_2 := blk_frozen BK120.out 2
                      have hfz33_3 := blk_frozen BK120.out 3
                      have hfz33_4 := blk_frozen BK120.out 4
                      have hfz33_5 := blk_frozen BK120.out 5
                      have hfz33_6 := blk_frozen BK120.out 6
                      go_wp2
                      go_roundg kj10
                      case measure => have := HK1.out; have := HJ10.out; omega
                      case rel => exact ⟨(x6_1), (x7_1), (wrap64 (x8_1 + ((rd_T40 l1 x9_1).f9))), (wrap64 (x9_1 + 1)), (by first | rfl | (simp; done) | (simp [*]; done)), (by first | rfl | (simp; done) | (simp [*]; done)), (by first | rfl | (simp; done) | (simp [*]; done)), (by first | rfl | (simp; done) | (simp [*]; done)), H', ⟨by have := HK1.out; have := HJ10.out; omega⟩, ⟨by (with_reducible repeat (first | refine blk_drewN ?_ _ | refine blk_drew ?_ | refine blk_alloc ?_ _)); exact BK120.out⟩, ⟨by repeat (first | (with_reducible first | exact HB.out | apply below_alloc | apply pw_below_drewN | apply below_drew1 | refine below_set ?_ GE120.out | refine below_set ?_ GE123.out) | exact HB.out)⟩⟩
                    · rw [if_neg c30] at H
                      have c30b0 : (((rd_T40 l1 x9_1).f5).toList == a0_2.toList) = false := beq_eq_false_iff_ne.mpr c30
                      have c30b1 : (((rd_T40 l1 x9_1).f5).toList != a0_2.toList) = true := bne_iff_ne.mpr c30
                      have H' := Aside0.mk H
                      clear H
                      have hnb34 := NB123_120.out
                      have hnc34 := NB120_123.out
                      have hcz35_0 : wc.cell? ⟨gb123, 0, none⟩ = some (.string ((rd_T40 l1 x9_1).f0)) := (blk_cell BK123.out 0).trans rfl
                      have hcz35_1 : wc.cell? ⟨gb123, 1, none⟩ = some (.int .i64 ((rd_T40 l1 x9_1).f1)) := (blk_cell BK123.out 1).trans rfl
                      have hcz35_2 : wc.cell? ⟨gb123, 2, none⟩ = some (.int .i64 ((rd_T40 l1 x9_1).f2)) := (blk_cell BK123.out 2).trans rfl
                      have hcz35_3 : wc.cell? ⟨gb123, 3, none⟩ = some (.int .i64 ((rd_T40 l1 x9_1).f3)) := (blk_cell BK123.out 3).trans rfl
                      have hcz35_4 : wc.cell? ⟨gb123, 4, none⟩ = some (.string ((rd_T40 l1 x9_1).f4)) := (blk_cell BK123.out 4).trans rfl
                      have hcz35_5 : wc.cell? ⟨gb123, 5, none⟩ = some (.string ((rd_T40 l1 x9_1).f5)) := (blk_cell BK123.out 5).trans rfl
                      have hcz35_6 : wc.cell? ⟨gb123, 6, none⟩ = some (.string ((rd_T40 l1 x9_1).f6)) := (blk_cell BK123.out 6).trans rfl
                      have hcz35_7 : wc.cell? ⟨gb123, 7, none⟩ = some (.int .i64 ((rd_T40 l1 x9_1).f7)) := (blk_cell BK123.out 7).trans rfl
                      have hcz35_8 : wc.cell? ⟨gb123, 8, none⟩ = some (.int .i64 ((rd_T40 l1 x9_1).f8)) := (blk_cell BK123.out 8).trans rfl
                      have hcz35_9 : wc.cell? ⟨gb123, 9, none⟩ = some (.int .i64 ((rd_T40 l1 x9_1).f9)) := (blk_cell BK123.out 9).trans rfl
                      have hfz35_0 := blk_frozen BK123.out 0
                      have hfz35_1 := blk_frozen BK123.out 1
                      have hfz35_2 := blk_frozen BK123.out 2
                      have hfz35_3 := blk_frozen BK123.out 3
                      have hfz35_4 := blk_frozen BK123.out 4
                      have hfz35_5 := blk_frozen BK123.out 5
                      have hfz35_6 := blk_frozen BK123.out 6
                      have hfz35_7 := blk_frozen BK123.out 7
                      have hfz35_8 := blk_frozen BK123.out 8
                      have hfz35_9 := blk_frozen BK123.out 9
                      have hcz36_0 : wc.cell? ⟨gb120, 0, none⟩ = some (.int .i64 a0_0) := (blk_cell BK120.out 0).trans rfl
                      have hcz36_1 : wc.cell? ⟨gb120, 1, none⟩ = some (.string a0_1) := (blk_cell BK120.out 1).trans rfl
                      have hcz36_2 : wc.cell? ⟨gb120, 2, none⟩ = some (.string a0_2) := (blk_cell BK120.out 2).trans rfl
                      have hcz36_3 : wc.cell? ⟨gb120, 3, none⟩ = some (.int .i64 a0_3) := (blk_cell BK120.out 3).trans rfl
                      have hcz36_4 : wc.cell? ⟨gb120, 4, none⟩ = some (.int .i64 a0_4) := (blk_cell BK120.out 4).trans rfl
                      have hcz36_5 : wc.cell? ⟨gb120, 5, none⟩ = some (.int .i64 a0_5) := (blk_cell BK120.out 5).trans rfl
                      have hcz36_6 : wc.cell? ⟨gb120, 6, none⟩ = some (.int .i64 a0_6) := (blk_cell BK120.out 6).trans rfl
                      have hfz36_0 := blk_frozen BK120.out 0
                      have hfz36_1 := blk_frozen BK120.out 1
                      have hfz36_2 := blk_frozen BK120.out 2
                      have hfz36_3 := blk_frozen BK120.out 3
                      have hfz36_4 := blk_frozen BK120.out 4
                      have hfz36_5 := blk_frozen BK120.out 5
                      have hfz36_6 := blk_frozen BK120.out 6
                      go_wp2
                      go_roundg kj10
                      case measure => have := HK1.out; have := HJ10.out; omega
                      case rel => exact ⟨(x6_1), (x7_1), (x8_1), (wrap64 (x9_1 + 1)), (by first | rfl | (simp; done) | (simp [*]; done)), (by first | rfl | (simp; done) | (simp [*]; done)), (by first | rfl | (simp; done) | (simp [*]; done)), (by first | rfl | (simp; done) | (simp [*]; done)), H', ⟨by have := HK1.out; have := HJ10.out; omega⟩, ⟨by (with_reducible repeat (first | refine blk_drewN ?_ _ | refine blk_drew ?_ | refine blk_alloc ?_ _)); exact BK120.out⟩, ⟨by repeat (first | (with_reducible first | exact HB.out | apply below_alloc | apply pw_below_drewN | apply below_drew1 | refine below_set ?_ GE120.out | refine below_set ?_ GE123.out) | exact HB.out)⟩⟩
            · rw [if_neg c10] at H
              have c10b0 : (((rd_T40 l1 x9_1).f2) == 2) = false := beq_eq_false_iff_ne.mpr c10
              have c10b1 : (((rd_T40 l1 x9_1).f2) != 2) = true := bne_iff_ne.mpr c10
              have H' := Aside0.mk H
              clear H
              have p122 : 0 ≤ (x9_1 : Int) := of_decide_eq_true (by first | (with_reducible assumption) | assumption)
              have q122 : x9_1 < (l1.length : Int) := of_decide_eq_true (by first | (with_reducible assumption) | assumption)
              obtain ⟨ad122, e122, hx122_0, hx122_1, hx122_2, hx122_3, hx122_4, hx122_5, hx122_6, hx122_7, hx122_8, hx122_9⟩ := at_T40 HR1.out x9_1 p122 q122
              cases e122
              replace hx122_0 := (HB.out.cell (World.block_lt_of_cell? w _ hx122_0)).trans hx122_0
              replace hx122_1 := (HB.out.cell (World.block_lt_of_cell? w _ hx122_1)).trans hx122_1
              replace hx122_2 := (HB.out.cell (World.block_lt_of_cell? w _ hx122_2)).trans hx122_2
              replace hx122_3 := (HB.out.cell (World.block_lt_of_cell? w _ hx122_3)).trans hx122_3
              replace hx122_4 := (HB.out.cell (World.block_lt_of_cell? w _ hx122_4)).trans hx122_4
              replace hx122_5 := (HB.out.cell (World.block_lt_of_cell? w _ hx122_5)).trans hx122_5
              replace hx122_6 := (HB.out.cell (World.block_lt_of_cell? w _ hx122_6)).trans hx122_6
              replace hx122_7 := (HB.out.cell (World.block_lt_of_cell? w _ hx122_7)).trans hx122_7
              replace hx122_8 := (HB.out.cell (World.block_lt_of_cell? w _ hx122_8)).trans hx122_8
              replace hx122_9 := (HB.out.cell (World.block_lt_of_cell? w _ hx122_9)).trans hx122_9
              replace p122 := eq_true p122
              replace q122 := eq_true q122
              go_wp2_with (first | ((with_reducible refine gate_dst (N := 10) rfl ?_); refine box_event ?hg (N := 10) ?hd (cs := #[.string (⟨#[]⟩ : ByteArray), .int .i64 0, .int .i64 0, .int .i64 0, .string (⟨#[]⟩ : ByteArray), .string (⟨#[]⟩ : ByteArray), .string (⟨#[]⟩ : ByteArray), .int .i64 0, .int .i64 0, .int .i64 0]) (t := 40) ?hr ?_; (case hd => rfl); (case hg => rfl); (case hr => first | (go_simp; done) | (go_simp; rfl)); intro gb123 hg w37 hbox hb; have n0_ := Aside0.mk (blk_below (g := gb120) (o := .cells #[.int .i64 a0_0, .string a0_1, .string a0_2, .int .i64 a0_3, .int .i64 a0_4, .int .i64 a0_5, .int .i64 a0_6] 29 (0, 0)) (by (with_reducible repeat (first | refine blk_drewN ?_ _ | refine blk_drew ?_ | refine blk_alloc ?_ _)); exact BK120.out) hb); have n1_ := Aside0.mk (below_step (by repeat (first | (with_reducible first | exact HB.out | apply below_alloc | apply pw_below_drewN | apply below_drew1 | refine below_set ?_ GE120.out) | exact HB.out)) hb); have n2_ := Aside0.mk (hbox); have n3_ := Aside0.mk ((by rw [hg]; exact (below_size (by repeat (first | (with_reducible first | exact HB.out | apply below_alloc | apply pw_below_drewN | apply below_drew1 | refine below_set ?_ GE120.out) | exact HB.out))) : w.heap.size ≤ gb123)); have n4_ := Aside0.mk ((by rw [hg]; exact (below_size (by repeat (first | (with_reducible first | exact HB.out | apply below_alloc | apply pw_below_drewN | apply below_drew1 | refine below_set ?_ GE120.out) | exact HB.out))) : w.heap.size ≤ gb123)); have n5_ := Aside0.mk ((by rw [hg]; exact Nat.ne_of_lt (blk_lt (g := gb120) (o := .cells #[.int .i64 a0_0, .string a0_1, .string a0_2, .int .i64 a0_3, .int .i64 a0_4, .int .i64 a0_5, .int .i64 a0_6] 29 (0, 0)) (by (with_reducible repeat (first | refine blk_drewN ?_ _ | refine blk_drew ?_ | refine blk_alloc ?_ _)); exact BK120.out)) : gb120 ≠ gb123)); have n6_ := Aside0.mk ((by rw [hg]; exact Nat.ne_of_gt (blk_lt (g := gb120) (o := .cells #[.int .i64 a0_0, .string a0_1, .string a0_2, .int .i64 a0_3, .int .i64 a0_4, .int .i64 a0_5, .int .i64 a0_6] 29 (0, 0)) (by (with_reducible repeat (first | refine blk_drewN ?_ _ | refine blk_drew ?_ | refine blk_alloc ?_ _)); exact BK120.out)) : gb123 ≠ gb120)); clear BK120; clear HB; have BK120 := n0_; have HB := n1_; have BK123 := n2_; have GW123 := n3_; have GE123 := n4_; have NB120_123 := n5_; have NB123_120 := n6_; clear n0_ n1_ n2_ n3_ n4_ n5_ n6_; clear hb hbox hg; have hnb38 := NB123_120.out; have hnc38 := NB120_123.out; have hcz39_0 : w37.cell? ⟨gb123, 0, none⟩ = some (.string (⟨#[]⟩ : ByteArray)) := (blk_cell BK123.out 0).trans rfl; have hcz39_1 : w37.cell? ⟨gb123, 1, none⟩ = some (.int .i64 0) := (blk_cell BK123.out 1).trans rfl; have hcz39_2 : w37.cell? ⟨gb123, 2, none⟩ = some (.int .i64 0) := (blk_cell BK123.out 2).trans rfl; have hcz39_3 : w37.cell? ⟨gb123, 3, none⟩ = some (.int .i64 0) := (blk_cell BK123.out 3).trans rfl; have hcz39_4 : w37.cell? ⟨gb123, 4, none⟩ = some (.string (⟨#[]⟩ : ByteArray)) := (blk_cell BK123.out 4).trans rfl; have hcz39_5 : w37.cell? ⟨gb123, 5, none⟩ = some (.string (⟨#[]⟩ : ByteArray)) := (blk_cell BK123.out 5).trans rfl; have hcz39_6 : w37.cell? ⟨gb123, 6, none⟩ = some (.string (⟨#[]⟩ : ByteArray)) := (blk_cell BK123.out 6).trans rfl; have hcz39_7 : w37.cell? ⟨gb123, 7, none⟩ = some (.int .i64 0) := (blk_cell BK123.out 7).trans rfl; have hcz39_8 : w37.cell? ⟨gb123, 8, none⟩ = some (.int .i64 0) := (blk_cell BK123.out 8).trans rfl; have hcz39_9 : w37.cell? ⟨gb123, 9, none⟩ = some (.int .i64 0) := (blk_cell BK123.out 9).trans rfl; have hfz39_0 := blk_frozen BK123.out 0; have hfz39_1 := blk_frozen BK123.out 1; have hfz39_2 := blk_frozen BK123.out 2; have hfz39_3 := blk_frozen BK123.out 3; have hfz39_4 := blk_frozen BK123.out 4; have hfz39_5 := blk_frozen BK123.out 5; have hfz39_6 := blk_frozen BK123.out 6; have hfz39_7 := blk_frozen BK123.out 7; have hfz39_8 := blk_frozen BK123.out 8; have hfz39_9 := blk_frozen BK123.out 9))
              go_roundg k1
              case measure => have := HK1.out; omega
              case rel => exact ⟨(x6_1), (x7_1), (x8_1), (wrap64 (x9_1 + 1)), (by first | rfl | (simp; done) | (simp [*]; done)), (by first | rfl | (simp; done) | (simp [*]; done)), (by first | rfl | (simp; done) | (simp [*]; done)), (by first | rfl | (simp; done) | (simp [*]; done)), H', ⟨by have := HK1.out; omega⟩, ⟨by (with_reducible repeat (first | refine blk_drewN ?_ _ | refine blk_drew ?_ | refine blk_alloc ?_ _)); refine blk_far ?_ NB120_123.out _; (with_reducible repeat (first | refine blk_drewN ?_ _ | refine blk_drew ?_ | refine blk_alloc ?_ _)); refine blk_far ?_ NB120_123.out _; (with_reducible repeat (first | refine blk_drewN ?_ _ | refine blk_drew ?_ | refine blk_alloc ?_ _)); refine blk_far ?_ NB120_123.out _; (with_reducible repeat (first | refine blk_drewN ?_ _ | refine blk_drew ?_ | refine blk_alloc ?_ _)); refine blk_far ?_ NB120_123.out _; (with_reducible repeat (first | refine blk_drewN ?_ _ | refine blk_drew ?_ | refine blk_alloc ?_ _)); refine blk_far ?_ NB120_123.out _; (with_reducible repeat (first | refine blk_drewN ?_ _ | refine blk_drew ?_ | refine blk_alloc ?_ _)); refine blk_far ?_ NB120_123.out _; (with_reducible repeat (first | refine blk_drewN ?_ _ | refine blk_drew ?_ | refine blk_alloc ?_ _)); refine blk_far ?_ NB120_123.out _; (with_reducible repeat (first | refine blk_drewN ?_ _ | refine blk_drew ?_ | refine blk_alloc ?_ _)); refine blk_far ?_ NB120_123.out _; (with_reducible repeat (first | refine blk_drewN ?_ _ | refine blk_drew ?_ | refine blk_alloc ?_ _)); refine blk_far ?_ NB120_123.out _; (with_reducible repeat (first | refine blk_drewN ?_ _ | refine blk_drew ?_ | refine blk_alloc ?_ _)); refine blk_far ?_ NB120_123.out _; (with_reducible repeat (first | refine blk_drewN ?_ _ | refine blk_drew ?_ | refine blk_alloc ?_ _)); exact BK120.out⟩, ⟨by repeat (first | (with_reducible first | exact HB.out | apply below_alloc | apply pw_below_drewN | apply below_drew1 | refine below_set ?_ GE120.out | refine below_set ?_ GE123.out) | exact HB.out)⟩⟩
          · rw [if_neg c9] at H
            exact absurd H (by simp)
        · rw [if_neg c8] at H
          have c8b0 : decide (x9_1 < (l1.length : Int)) = false := decide_eq_false c8
          clear c8
          by_cases c40 : a0_0 = 2
          · rw [if_pos c40] at H
            have c40b0 : (a0_0 == 2) = true := beq_iff_eq.mpr c40
            have c40b1 : (a0_0 != 2) = false := bne_eq_false_iff_eq.mpr c40
            clear c40
            replace H := Option.bind_eq_some_iff.mp H
            obtain ⟨t124, A410, H⟩ := H
            replace H : (some (t124, 0)) = some (r1, r2) := H
            have A41 := Aside0.mk A410
            clear A410
            simp only [Option.some.injEq, Prod.mk.injEq] at H
            obtain ⟨rfl, rfl⟩ := H
            have hcz42_0 : wr.cell? ⟨gb120, 0, none⟩ = some (.int .i64 a0_0) := (blk_cell BK120.out 0).trans rfl
            have hcz42_1 : wr.cell? ⟨gb120, 1, none⟩ = some (.string a0_1) := (blk_cell BK120.out 1).trans rfl
            have hcz42_2 : wr.cell? ⟨gb120, 2, none⟩ = some (.string a0_2) := (blk_cell BK120.out 2).trans rfl
            have hcz42_3 : wr.cell? ⟨gb120, 3, none⟩ = some (.int .i64 a0_3) := (blk_cell BK120.out 3).trans rfl
            have hcz42_4 : wr.cell? ⟨gb120, 4, none⟩ = some (.int .i64 a0_4) := (blk_cell BK120.out 4).trans rfl
            have hcz42_5 : wr.cell? ⟨gb120, 5, none⟩ = some (.int .i64 a0_5) := (blk_cell BK120.out 5).trans rfl
            have hcz42_6 : wr.cell? ⟨gb120, 6, none⟩ = some (.int .i64 a0_6) := (blk_cell BK120.out 6).trans rfl
            have hfz42_0 := blk_frozen BK120.out 0
            have hfz42_1 := blk_frozen BK120.out 1
            have hfz42_2 := blk_frozen BK120.out 2
            have hfz42_3 := blk_frozen BK120.out 3
            have hfz42_4 := blk_frozen BK120.out 4
            have hfz42_5 := blk_frozen BK120.out 5
            have hfz42_6 := blk_frozen BK120.out 6
            go_wp2_with (first | ((with_reducible refine gate_callee (f := 46) rfl ?_); refine goesL_ (some 61) rfl rfl Tryd.func46 (by kernel_rfl) rfl #[.int .i64 x7_1, .int .i64 a0_4] rfl (by (try simp only [List.map_toArray, List.map_cons, List.map_nil]); first | done | rfl | (simp only [List.length_drop, List.length_take]; rfl)) ?_; (with_reducible refine (flagstoneref34_limited.calls x7_1 a0_4 t124 _ A41.out).mono ?_); rintro e w43 ⟨rfl, hb⟩; refine ⟨_, rfl, ?_⟩; have n0_ := Aside0.mk (blk_below (g := gb120) (o := .cells #[.int .i64 a0_0, .string a0_1, .string a0_2, .int .i64 a0_3, .int .i64 a0_4, .int .i64 a0_5, .int .i64 a0_6] 29 (0, 0)) (by (with_reducible repeat (first | refine blk_drewN ?_ _ | refine blk_drew ?_ | refine blk_alloc ?_ _)); exact BK120.out) hb); have n1_ := Aside0.mk (below_step (by repeat (first | (with_reducible first | exact HB.out | apply below_alloc | apply pw_below_drewN | apply below_drew1 | refine below_set ?_ GE120.out) | exact HB.out)) hb); clear BK120; clear HB; have BK120 := n0_; have HB := n1_; clear n0_ n1_; (try clear hb); (try clear hb2); (try clear hk); (try clear hi)))
            go_ret2
            exact ⟨by first | rfl | (simp [errW_none, errW_some] <;> rfl) | (simp [*, errW_none, errW_some] <;> rfl), by repeat (first | (with_reducible first | exact HB.out | apply below_alloc | apply pw_below_drewN | apply below_drew1 | refine below_set ?_ GE120.out) | exact HB.out)⟩
          · rw [if_neg c40] at H
            have c40b0 : (a0_0 == 2) = false := beq_eq_false_iff_ne.mpr c40
            have c40b1 : (a0_0 != 2) = true := bne_iff_ne.mpr c40
            by_cases c44 : a0_0 = 3
            · rw [if_pos c44] at H
              have c44b0 : (a0_0 == 3) = true := beq_iff_eq.mpr c44
              have c44b1 : (a0_0 != 3) = false := bne_eq_false_iff_eq.mpr c44
              clear c44
              replace H := Option.bind_eq_some_iff.mp H
              obtain ⟨t125, A450, H⟩ := H
              replace H : (some (t125, 0)) = some (r1, r2) := H
              have A45 := Aside0.mk A450
              clear A450
              simp only [Option.some.injEq, Prod.mk.injEq] at H
              obtain ⟨rfl, rfl⟩ := H
              have hcz46_0 : wr.cell? ⟨gb120, 0, none⟩ = some (.int .i64 a0_0) := (blk_cell BK120.out 0).trans rfl
              have hcz46_1 : wr.cell? ⟨gb120, 1, none⟩ = some (.string a0_1) := (blk_cell BK120.out 1).trans rfl
              have hcz46_2 : wr.cell? ⟨gb120, 2, none⟩ = some (.string a0_2) := (blk_cell BK120.out 2).trans rfl
              have hcz46_3 : wr.cell? ⟨gb120, 3, none⟩ = some (.int .i64 a0_3) := (blk_cell BK120.out 3).trans rfl
              have hcz46_4 : wr.cell? ⟨gb120, 4, none⟩ = some (.int .i64 a0_4) := (blk_cell BK120.out 4).trans rfl
              have hcz46_5 : wr.cell? ⟨gb120, 5, none⟩ = some (.int .i64 a0_5) := (blk_cell BK120.out 5).trans rfl
              have hcz46_6 : wr.cell? ⟨gb120, 6, none⟩ = some (.int .i64 a0_6) := (blk_cell BK120.out 6).trans rfl
              have hfz46_0 := blk_frozen BK120.out 0
              have hfz46_1 := blk_frozen BK120.out 1
              have hfz46_2 := blk_frozen BK120.out 2
              have hfz46_3 := blk_frozen BK120.out 3
              have hfz46_4 := blk_frozen BK120.out 4
              have hfz46_5 := blk_frozen BK120.out 5
              have hfz46_6 := blk_frozen BK120.out 6
              go_wp2_with (first | ((with_reducible refine gate_callee (f := 46) rfl ?_); refine goesL_ (some 65) rfl rfl Tryd.func46 (by kernel_rfl) rfl #[.int .i64 x7_1, .int .i64 1] rfl (by (try simp only [List.map_toArray, List.map_cons, List.map_nil]); first | done | rfl | (simp only [List.length_drop, List.length_take]; rfl)) ?_; (with_reducible refine (flagstoneref34_limited.calls x7_1 1 t125 _ A45.out).mono ?_); rintro e w47 ⟨rfl, hb⟩; refine ⟨_, rfl, ?_⟩; have n0_ := Aside0.mk (blk_below (g := gb120) (o := .cells #[.int .i64 a0_0, .string a0_1, .string a0_2, .int .i64 a0_3, .int .i64 a0_4, .int .i64 a0_5, .int .i64 a0_6] 29 (0, 0)) (by (with_reducible repeat (first | refine blk_drewN ?_ _ | refine blk_drew ?_ | refine blk_alloc ?_ _)); exact BK120.out) hb); have n1_ := Aside0.mk (below_step (by repeat (first | (with_reducible first | exact HB.out | apply below_alloc | apply pw_below_drewN | apply below_drew1 | refine below_set ?_ GE120.out) | exact HB.out)) hb); clear BK120; clear HB; have BK120 := n0_; have HB := n1_; clear n0_ n1_; (try clear hb); (try clear hb2); (try clear hk); (try clear hi)))
              go_ret2
              exact ⟨by first | rfl | (simp [errW_none, errW_some] <;> rfl) | (simp [*, errW_none, errW_some] <;> rfl), by repeat (first | (with_reducible first | exact HB.out | apply below_alloc | apply pw_below_drewN | apply below_drew1 | refine below_set ?_ GE120.out) | exact HB.out)⟩
            · rw [if_neg c44] at H
              have c44b0 : (a0_0 == 3) = false := beq_eq_false_iff_ne.mpr c44
              have c44b1 : (a0_0 != 3) = true := bne_iff_ne.mpr c44
              by_cases c48 : a0_0 = 4
              · rw [if_pos c48] at H
                have c48b0 : (a0_0 == 4) = true := beq_iff_eq.mpr c48
                have c48b1 : (a0_0 != 4) = false := bne_eq_false_iff_eq.mpr c48
                clear c48
                replace H := Option.bind_eq_some_iff.mp H
                obtain ⟨t126, A490, H⟩ := H
                replace H : ((flagstoneref34_limited.f x8_1 a0_4).bind fun t127 => (some (t126, t127))) = some (r1, r2) := H
                have A49 := Aside0.mk A490
                clear A490
                replace H := Option.bind_eq_some_iff.mp H
                obtain ⟨t127, A500, H⟩ := H
                replace H : (some (t126, t127)) = some (r1, r2) := H
                have A50 := Aside0.mk A500
                clear A500
                simp only [Option.some.injEq, Prod.mk.injEq] at H
                obtain ⟨rfl, rfl⟩ := H
                have hcz51_0 : wr.cell? ⟨gb120, 0, none⟩ = some (.int .i64 a0_0) := (blk_cell BK120.out 0).trans rfl
                have hcz51_1 : wr.cell? ⟨gb120, 1, none⟩ = some (.string a0_1) := (blk_cell BK120.out 1).trans rfl
                have hcz51_2 : wr.cell? ⟨gb120, 2, none⟩ = some (.string a0_2) := (blk_cell BK120.out 2).trans rfl
                have hcz51_3 : wr.cell? ⟨gb120, 3, none⟩ = some (.int .i64 a0_3) := (blk_cell BK120.out 3).trans rfl
                have hcz51_4 : wr.cell? ⟨gb120, 4, none⟩ = some (.int .i64 a0_4) := (blk_cell BK120.out 4).trans rfl
                have hcz51_5 : wr.cell? ⟨gb120, 5, none⟩ = some (.int .i64 a0_5) := (blk_cell BK120.out 5).trans rfl
                have hcz51_6 : wr.cell? ⟨gb120, 6, none⟩ = some (.int .i64 a0_6) := (blk_cell BK120.out 6).trans rfl
                have hfz51_0 := blk_frozen BK120.out 0
                have hfz51_1 := blk_frozen BK120.out 1
                have hfz51_2 := blk_frozen BK120.out 2
                have hfz51_3 := blk_frozen BK120.out 3
                have hfz51_4 := blk_frozen BK120.out 4
                have hfz51_5 := blk_frozen BK120.out 5
                have hfz51_6 := blk_frozen BK120.out 6
                try go_wp2
                have n0_ := Aside0.mk (blk_drew BK120.out)
                have n1_ := Aside0.mk (below_drew1 HB.out)
                clear BK120
                clear HB
                have BK120 := n0_
                have HB := n1_
                clear n0_ n1_
                refine start_ (n := 10) (S := fun w' => w'.cell? ⟨gb120, 0, none⟩ = some (.int .i64 a0_0) ∧ w'.cell? ⟨gb120, 1, none⟩ = some (.string a0_1) ∧ w'.cell? ⟨gb120, 2, none⟩ = some (.string a0_2) ∧ w'.cell? ⟨gb120, 3, none⟩ = some (.int .i64 a0_3) ∧ w'.cell? ⟨gb120, 4, none⟩ = some (.int .i64 a0_4) ∧ w'.cell? ⟨gb120, 5, none⟩ = some (.int .i64 a0_5) ∧ w'.cell? ⟨gb120, 6, none⟩ = some (.int .i64 a0_6)) (ds := []) #[false, false, false, false, false, false, false, false, false, false] (by kernel_rfl) rfl rfl ⟨(blk_cell BK120.out 0).trans rfl, (blk_cell BK120.out 1).trans rfl, (blk_cell BK120.out 2).trans rfl, (blk_cell BK120.out 3).trans rfl, (blk_cell BK120.out 4).trans rfl, (blk_cell BK120.out 5).trans rfl, (blk_cell BK120.out 6).trans rfl⟩ (fun hHeld => ?_); refine with_tabW flagstoneref34_Value.tab19 flagstoneref34_Value.bits19 (fun HT_ HW_ => ?_)
                generalize wr.drew = w52 at BK120 HB hHeld ⊢
                refine pure_ (i := 0) (N := some 68) (v := ?_) (a' := ?_) #[true, false, false, false, false, false, false, false, false, false] rfl rfl (any_of HT_.out (by kernel_rfl)) (fun _ _ _ h => h) (Or.inl ⟨by rfl, ?_⟩) ?_ ?_
                rotate_left
                · intro w'
                  go_simp
                  with_reducible rfl
                rotate_left
                · simp only [Act.put, List.setIfInBounds_toArray, List.set_cons_zero, List.set_cons_succ, i64_w, i32_w]
                  rfl
                refine pure_ (i := 1) (N := some 69) (v := ?_) (a' := ?_) #[true, true, false, false, false, false, false, false, false, false] rfl rfl (any_of HT_.out (by kernel_rfl)) (fun _ _ _ h => h) (Or.inl ⟨by rfl, ?_⟩) ?_ ?_
                rotate_left
                · intro w'
                  go_simp
                  with_reducible rfl
                rotate_left
                · simp only [Act.put, List.setIfInBounds_toArray, List.set_cons_zero, List.set_cons_succ, i64_w, i32_w]
                  rfl
                refine pure_ (i := 4) (N := some 72) (v := ?_) (a' := ?_) #[true, true, false, false, true, false, false, false, false, false] rfl rfl (any_of HT_.out (by kernel_rfl)) (fun _ _ _ h => h) (Or.inl ⟨by rfl, ?_⟩) ?_ ?_
                rotate_left
                · intro w'
                  go_simp
                  with_reducible rfl
                rotate_left
                · simp only [Act.put, List.setIfInBounds_toArray, List.set_cons_zero, List.set_cons_succ, i64_w, i32_w]
                  rfl
                refine pure_ (i := 5) (N := some 73) (v := ?_) (a' := ?_) #[true, true, false, false, true, true, false, false, false, false] rfl rfl (any_of HT_.out (by kernel_rfl)) (fun _ _ _ h => h) (Or.inl ⟨by rfl, ?_⟩) ?_ ?_
                rotate_left
                · intro w'
                  go_simp
                  with_reducible rfl
                rotate_left
                · simp only [Act.put, List.setIfInBounds_toArray, List.set_cons_zero, List.set_cons_succ, i64_w, i32_w]
                  rfl
                refine take_ (i := 2) (N := some 70) (v := ?_) (a' := ?_) #[true, true, true, false, true, true, false, false, false, false] rfl rfl (take_ofW HT_.out HW_.out (by kernel_rfl)) (fun _ _ _ h => h) (Or.inl ⟨by rfl, ?_⟩) hHeld ?_ ?_
                rotate_left
                · rintro w' ⟨s0, s1, s2, s3, s4, s5, s6⟩
                  go_simp
                  with_reducible rfl
                rotate_left
                · simp only [Act.put, List.setIfInBounds_toArray, List.set_cons_zero, List.set_cons_succ, i64_w, i32_w]
                  rfl
                refine take_ (i := 6) (N := some 74) (v := ?_) (a' := ?_) #[true, true, true, false, true, true, true, false, false, false] rfl rfl (take_ofW HT_.out HW_.out (by kernel_rfl)) (fun _ _ _ h => h) (Or.inl ⟨by rfl, ?_⟩) hHeld ?_ ?_
                rotate_left
                · rintro w' ⟨s0, s1, s2, s3, s4, s5, s6⟩
                  go_simp
                  with_reducible rfl
                rotate_left
                · simp only [Act.put, List.setIfInBounds_toArray, List.set_cons_zero, List.set_cons_succ, i64_w, i32_w]
                  rfl
                refine one_ (i := 3) (N := some 71) #[true, true, true, true, true, true, true, false, false, false] rfl rfl (one_of HT_.out (by kernel_rfl)) (by decide) (fun K hK => ?_)
                refine goes_ Tryd.func46 (by kernel_rfl) rfl #[.int .i64 x6_1, .int .i64 a0_4] (by rfl) rfl rfl (by (try simp only [List.map_toArray, List.map_cons, List.map_nil]); first | done | rfl | (simp only [List.length_drop, List.length_take]; rfl)) ?_
                with_reducible refine (flagstoneref34_limited.calls x6_1 a0_4 t126 _ A49.out).mono ?_
                rintro e w53 ⟨rfl, hb⟩
                refine ⟨_, rfl, ?_⟩
                have n0_ := Aside0.mk (blk_below (g := gb120) (o := .cells #[.int .i64 a0_0, .string a0_1, .string a0_2, .int .i64 a0_3, .int .i64 a0_4, .int .i64 a0_5, .int .i64 a0_6] 29 (0, 0)) (by (with_reducible repeat (first | refine blk_drewN ?_ _ | refine blk_drew ?_ | refine blk_alloc ?_ _)); exact BK120.out) hb)
                have n1_ := Aside0.mk (below_step (by repeat (first | (with_reducible first | exact HB.out | apply below_alloc | apply pw_below_drewN | apply below_drew1 | refine below_set ?_ GE120.out) | exact HB.out)) hb)
                clear BK120
                clear HB
                have BK120 := n0_
                have HB := n1_
                clear n0_ n1_
                (try clear hb)
                (try clear hb2)
                (try clear hk)
                (try clear hi)
                refine hK.out _ _ ⟨(blk_cell BK120.out 0).trans rfl, (blk_cell BK120.out 1).trans rfl, (blk_cell BK120.out 2).trans rfl, (blk_cell BK120.out 3).trans rfl, (blk_cell BK120.out 4).trans rfl, (blk_cell BK120.out 5).trans rfl, (blk_cell BK120.out 6).trans rfl⟩ (fun hHeld => ?_)
                clear hK K
                refine norm_ (a' := ?_) ?_ ?_
                rotate_left
                · show Act.put _ (some 71) _ = _
                  simp only [Act.put, List.setIfInBounds_toArray, List.set_cons_zero, List.set_cons_succ, i64_w, i32_w]
                  rfl
                refine one_ (i := 7) (N := some 75) #[true, true, true, true, true, true, true, true, false, false] rfl rfl (one_of HT_.out (by kernel_rfl)) (by decide) (fun K hK => ?_)
                refine goes_ Tryd.func46 (by kernel_rfl) rfl #[.int .i64 x8_1, .int .i64 a0_4] (by rfl) rfl rfl (by (try simp only [List.map_toArray, List.map_cons, List.map_nil]); first | done | rfl | (simp only [List.length_drop, List.length_take]; rfl)) ?_
                with_reducible refine (flagstoneref34_limited.calls x8_1 a0_4 t127 _ A50.out).mono ?_
                rintro e w54 ⟨rfl, hb⟩
                refine ⟨_, rfl, ?_⟩
                have n0_ := Aside0.mk (blk_below (g := gb120) (o := .cells #[.int .i64 a0_0, .string a0_1, .string a0_2, .int .i64 a0_3, .int .i64 a0_4, .int .i64 a0_5, .int .i64 a0_6] 29 (0, 0)) (by (with_reducible repeat (first | refine blk_drewN ?_ _ | refine blk_drew ?_ | refine blk_alloc ?_ _)); exact BK120.out) hb)
                have n1_ := Aside0.mk (below_step (by repeat (first | (with_reducible first | exact HB.out | apply below_alloc | apply pw_below_drewN | apply below_drew1 | refine below_set ?_ GE120.out) | exact HB.out)) hb)
                clear BK120
                clear HB
                have BK120 := n0_
                have HB := n1_
                clear n0_ n1_
                (try clear hb)
                (try clear hb2)
                (try clear hk)
                (try clear hi)
                refine hK.out _ _ ⟨(blk_cell BK120.out 0).trans rfl, (blk_cell BK120.out 1).trans rfl, (blk_cell BK120.out 2).trans rfl, (blk_cell BK120.out 3).trans rfl, (blk_cell BK120.out 4).trans rfl, (blk_cell BK120.out 5).trans rfl, (blk_cell BK120.out 6).trans rfl⟩ (fun hHeld => ?_)
                clear hK K
                refine norm_ (a' := ?_) ?_ ?_
                rotate_left
                · show Act.put _ (some 75) _ = _
                  simp only [Act.put, List.setIfInBounds_toArray, List.set_cons_zero, List.set_cons_succ, i64_w, i32_w]
                  rfl
                refine pure_ (i := 8) (N := some 4) (v := ?_) (a' := ?_) #[true, true, true, true, true, true, true, true, true, false] rfl rfl (any_of HT_.out (by kernel_rfl)) (fun _ _ _ h => h) (Or.inl ⟨by rfl, ?_⟩) ?_ ?_
                rotate_left
                · intro w'
                  go_simp
                  with_reducible rfl
                rotate_left
                · simp only [Act.put, List.setIfInBounds_toArray, List.set_cons_zero, List.set_cons_succ, i64_w, i32_w]
                  rfl
                refine pure_ (i := 9) (N := some 5) (v := ?_) (a' := ?_) #[true, true, true, true, true, true, true, true, true, true] rfl rfl (any_of HT_.out (by kernel_rfl)) (fun _ _ _ h => h) (Or.inl ⟨by rfl, ?_⟩) ?_ ?_
                rotate_left
                · intro w'
                  go_simp
                  with_reducible rfl
                rotate_left
                · simp only [Act.put, List.setIfInBounds_toArray, List.set_cons_zero, List.set_cons_succ, i64_w, i32_w]
                  rfl
                refine done_ (done_of HT_.out (by kernel_rfl)) ?_
                try go_wp2
                go_ret2
                exact ⟨by first | rfl | (simp [errW_none, errW_some] <;> rfl) | (simp [*, errW_none, errW_some] <;> rfl), by repeat (first | (with_reducible first | exact HB.out | apply below_alloc | apply pw_below_drewN | apply below_drew1 | refine below_set ?_ GE120.out) | exact HB.out)⟩
              · rw [if_neg c48] at H
                have c48b0 : (a0_0 == 4) = false := beq_eq_false_iff_ne.mpr c48
                have c48b1 : (a0_0 != 4) = true := bne_iff_ne.mpr c48
                replace H := Option.bind_eq_some_iff.mp H
                obtain ⟨t128, A550, H⟩ := H
                replace H : (some (t128, 0)) = some (r1, r2) := H
                have A55 := Aside0.mk A550
                clear A550
                simp only [Option.some.injEq, Prod.mk.injEq] at H
                obtain ⟨rfl, rfl⟩ := H
                have hcz56_0 : wr.cell? ⟨gb120, 0, none⟩ = some (.int .i64 a0_0) := (blk_cell BK120.out 0).trans rfl
                have hcz56_1 : wr.cell? ⟨gb120, 1, none⟩ = some (.string a0_1) := (blk_cell BK120.out 1).trans rfl
                have hcz56_2 : wr.cell? ⟨gb120, 2, none⟩ = some (.string a0_2) := (blk_cell BK120.out 2).trans rfl
                have hcz56_3 : wr.cell? ⟨gb120, 3, none⟩ = some (.int .i64 a0_3) := (blk_cell BK120.out 3).trans rfl
                have hcz56_4 : wr.cell? ⟨gb120, 4, none⟩ = some (.int .i64 a0_4) := (blk_cell BK120.out 4).trans rfl
                have hcz56_5 : wr.cell? ⟨gb120, 5, none⟩ = some (.int .i64 a0_5) := (blk_cell BK120.out 5).trans rfl
                have hcz56_6 : wr.cell? ⟨gb120, 6, none⟩ = some (.int .i64 a0_6) := (blk_cell BK120.out 6).trans rfl
                have hfz56_0 := blk_frozen BK120.out 0
                have hfz56_1 := blk_frozen BK120.out 1
                have hfz56_2 := blk_frozen BK120.out 2
                have hfz56_3 := blk_frozen BK120.out 3
                have hfz56_4 := blk_frozen BK120.out 4
                have hfz56_5 := blk_frozen BK120.out 5
                have hfz56_6 := blk_frozen BK120.out 6
                go_wp2_with (first | ((with_reducible refine gate_callee (f := 46) rfl ?_); refine goesL_ (some 79) rfl rfl Tryd.func46 (by kernel_rfl) rfl #[.int .i64 x6_1, .int .i64 a0_4] rfl (by (try simp only [List.map_toArray, List.map_cons, List.map_nil]); first | done | rfl | (simp only [List.length_drop, List.length_take]; rfl)) ?_; (with_reducible refine (flagstoneref34_limited.calls x6_1 a0_4 t128 _ A55.out).mono ?_); rintro e w57 ⟨rfl, hb⟩; refine ⟨_, rfl, ?_⟩; have n0_ := Aside0.mk (blk_below (g := gb120) (o := .cells #[.int .i64 a0_0, .string a0_1, .string a0_2, .int .i64 a0_3, .int .i64 a0_4, .int .i64 a0_5, .int .i64 a0_6] 29 (0, 0)) (by (with_reducible repeat (first | refine blk_drewN ?_ _ | refine blk_drew ?_ | refine blk_alloc ?_ _)); exact BK120.out) hb); have n1_ := Aside0.mk (below_step (by repeat (first | (with_reducible first | exact HB.out | apply below_alloc | apply pw_below_drewN | apply below_drew1 | refine below_set ?_ GE120.out) | exact HB.out)) hb); clear BK120; clear HB; have BK120 := n0_; have HB := n1_; clear n0_ n1_; (try clear hb); (try clear hb2); (try clear hk); (try clear hi)))
                go_ret2
                exact ⟨by first | rfl | (simp [errW_none, errW_some] <;> rfl) | (simp [*, errW_none, errW_some] <;> rfl), by repeat (first | (with_reducible first | exact HB.out | apply below_alloc | apply pw_below_drewN | apply below_drew1 | refine below_set ?_ GE120.out) | exact HB.out)⟩
  · rw [if_neg c4] at H
    have c4b0 : (t121 == 0) = false := beq_eq_false_iff_ne.mpr c4
    have c4b1 : (t121 != 0) = true := bne_iff_ne.mpr c4
    simp only [Option.some.injEq, Prod.mk.injEq] at H
    obtain ⟨rfl, rfl⟩ := H
    go_enter Tryd.func19, Tryd.ntmps19
    go_wp2_with (first | ((with_reducible refine gate_dst (N := 2) rfl ?_); refine box_event ?hg (N := 2) ?hd (cs := #[.int .i64 a0_0, .string a0_1, .string a0_2, .int .i64 a0_3, .int .i64 a0_4, .int .i64 a0_5, .int .i64 a0_6]) (t := 29) ?hr ?_; (case hd => rfl); (case hg => rfl); (case hr => first | (go_simp; done) | (go_simp; rfl)); intro gb120 hg w58 hbox hb; have n0_ := Aside0.mk (below_step (by repeat (first | (with_reducible first | exact HB.out | apply below_alloc | apply pw_below_drewN | apply below_drew1) | exact HB.out)) hb); have n1_ := Aside0.mk (hbox); have n2_ := Aside0.mk ((by rw [hg]; exact (below_size (by repeat (first | (with_reducible first | exact HB.out | apply below_alloc | apply pw_below_drewN | apply below_drew1) | exact HB.out))) : w.heap.size ≤ gb120)); have n3_ := Aside0.mk ((by rw [hg]; exact (below_size (by repeat (first | (with_reducible first | exact HB.out | apply below_alloc | apply pw_below_drewN | apply below_drew1) | exact HB.out))) : w.heap.size ≤ gb120)); clear HB; have HB := n0_; have BK120 := n1_; have GW120 := n2_; have GE120 := n3_; clear n0_ n1_ n2_ n3_; clear hb hbox hg; have hcz59_0 : w58.cell? ⟨gb120, 0, none⟩ = some (.int .i64 a0_0) := (blk_cell BK120.out 0).trans rfl; have hcz59_1 : w58.cell? ⟨gb120, 1, none⟩ = some (.string a0_1) := (blk_cell BK120.out 1).trans rfl; have hcz59_2 : w58.cell? ⟨gb120, 2, none⟩ = some (.string a0_2) := (blk_cell BK120.out 2).trans rfl; have hcz59_3 : w58.cell? ⟨gb120, 3, none⟩ = some (.int .i64 a0_3) := (blk_cell BK120.out 3).trans rfl; have hcz59_4 : w58.cell? ⟨gb120, 4, none⟩ = some (.int .i64 a0_4) := (blk_cell BK120.out 4).trans rfl; have hcz59_5 : w58.cell? ⟨gb120, 5, none⟩ = some (.int .i64 a0_5) := (blk_cell BK120.out 5).trans rfl; have hcz59_6 : w58.cell? ⟨gb120, 6, none⟩ = some (.int .i64 a0_6) := (blk_cell BK120.out 6).trans rfl; have hfz59_0 := blk_frozen BK120.out 0; have hfz59_1 := blk_frozen BK120.out 1; have hfz59_2 := blk_frozen BK120.out 2; have hfz59_3 := blk_frozen BK120.out 3; have hfz59_4 := blk_frozen BK120.out 4; have hfz59_5 := blk_frozen BK120.out 5; have hfz59_6 := blk_frozen BK120.out 6) | ((with_reducible refine gate_callee (f := 24) rfl ?_); refine goesL_ (some 12) rfl rfl Tryd.func24 (by kernel_rfl) rfl #[.agg #[.int .i64 a0_0, .string a0_1, .string a0_2, .int .i64 a0_3, .int .i64 a0_4, .int .i64 a0_5, .int .i64 a0_6]] rfl (by (try simp only [List.map_toArray, List.map_cons, List.map_nil]); first | done | rfl | (simp only [List.length_drop, List.length_take]; rfl)) ?_; (with_reducible refine (flagstoneref34_Check.calls k a0_0 a0_1 a0_2 a0_3 a0_4 a0_5 a0_6 t121 _ A3.out).mono ?_); rintro e w60 ⟨rfl, hb⟩; refine ⟨_, rfl, ?_⟩; have n0_ := Aside0.mk (blk_below (g := gb120) (o := .cells #[.int .i64 a0_0, .string a0_1, .string a0_2, .int .i64 a0_3, .int .i64 a0_4, .int .i64 a0_5, .int .i64 a0_6] 29 (0, 0)) (by (with_reducible repeat (first | refine blk_drewN ?_ _ | refine blk_drew ?_ | refine blk_alloc ?_ _)); exact BK120.out) hb); have n1_ := Aside0.mk (below_step (by repeat (first | (with_reducible first | exact HB.out | apply below_alloc | apply pw_below_drewN | apply below_drew1 | refine below_set ?_ GE120.out) | exact HB.out)) hb); clear BK120; clear HB; have BK120 := n0_; have HB := n1_; clear n0_ n1_; (try clear hb); (try clear hb2); (try clear hk); (try clear hi)))
    go_ret2
    exact ⟨by first | rfl | (simp [errW_none, errW_some] <;> rfl) | (simp [*, errW_none, errW_some] <;> rfl), by repeat (first | (with_reducible first | exact HB.out | apply below_alloc | apply pw_below_drewN | apply below_drew1 | refine below_set ?_ GE120.out) | exact HB.out)⟩

end Go.Proofs.YtbiolondnkeakaaDoor.PT
