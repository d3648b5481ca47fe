-- Written by this session's program wip/tools/xprint.py out of the translation's own print. Not trusted: Lean checks it.
import Derived.Test.YtndgmcifagipjaaDoorPPBx0
namespace Go.Proofs.YtndgmcifagipjaaDoor.PPB
open Go.Proofs.YtndgmcifagipjaaDoor.PPA
open Go.RowKit Go.Proofs.YtndgmcifagipjaaDoorW.PrintWords Go.Proofs.YtndgmcifagipjaaDoorW.PrintLast Go.Proofs.YtndgmcifagipjaaDoorW.PrintMore
attribute [local go_sem] max2_int min2_int max_two min_two max_three min_three max_four min_four   -- for this text's walks alone
set_option linter.unusedVariables false
set_option linter.unusedSimpArgs false

-- GIVEN: function 10 (flagstonelaw1_awake)

-- GIVEN: function 16 (text_ParseNumber)

-- GIVEN: function 18 (flagstoneref1_ParseNumber)

/-! ### flagstonelaw1_TextParses: function 6 -/
mutual
def flagstonelaw1_TextParses.l0 : Nat → ByteArray → List Int → ByteArray → Int → Option (Bool)
  | 0, _, _, _, _ => none
  | k + 1, x0, x1, x5, x6 => if x6 < (x1.length : Int) then (if 0 ≤ x6 then (if x5.size + (Utf8.encode ((48 + (Int.tmod (rd x1 x6) 10)) % 256)).size ≤ 9223372036854775807 then (flagstonelaw1_TextParses.l0 k x0 x1 (x5 ++ (Utf8.encode ((48 + (Int.tmod (rd x1 x6) 10)) % 256))) (wrap64 (x6 + 1))) else (none)) else (none)) else (if 1 + x5.size ≤ 9223372036854775807 then (if x5.size + x0.size ≤ 9223372036854775807 then (if ((⟨#[49]⟩ : ByteArray) ++ x5).size + 1 ≤ 9223372036854775807 then ((some (([x0, x5, (⟨#[45]⟩ : ByteArray) ++ x5, (⟨#[48]⟩ : ByteArray) ++ x5, x5 ++ x0, ((⟨#[49]⟩ : ByteArray) ++ x5) ++ (⟨#[48]⟩ : ByteArray)] : List ByteArray) : List ByteArray)).bind fun y104 => (flagstonelaw1_TextParses.l1 k y104 (y104.length : Int) 0)) else (none)) else (none)) else (none))
def flagstonelaw1_TextParses.l1 : Nat → List ByteArray → Int → Int → Option (Bool)
  | 0, _, _, _ => none
  | k + 1, x48, x49, x50 => if x50 < x49 then (if 0 ≤ x50 then (if x50 < (x48.length : Int) then ((text_ParseNumber.f (rdOf ByteArray.empty x48 x50)).bind fun bt108 => ((flagstoneref1_ParseNumber.f k (rdOf ByteArray.empty x48 x50)).bind fun bt110 => (if bt108.1 = bt110.1 then (if bt108.2 = bt110.2 then (flagstonelaw1_TextParses.l1 k x48 x49 (wrap64 (x50 + 1))) else (some false)) else (some false)))) else (none)) else (none)) else (some true)
end
def flagstonelaw1_TextParses.f (k : Nat) (a0 : ByteArray) (l1 : List Int) : Option (Bool) := (flagstonelaw1_awake.f).bind fun t101 => (if t101 = true then (if (l1.length : Int) > 60 then (if 60 ≤ (l1.length : Int) then (flagstonelaw1_TextParses.l0 k a0 (l1.take 60) (⟨#[]⟩ : ByteArray) 0) else (none)) else (none)) else (some false))
theorem flagstonelaw1_TextParses.mono_l : ∀ k, (∀ y0 y1 y2 y3, LeO (flagstonelaw1_TextParses.l0 k y0 y1 y2 y3) (flagstonelaw1_TextParses.l0 (k + 1) y0 y1 y2 y3)) ∧ (∀ y0 y1 y2, LeO (flagstonelaw1_TextParses.l1 k y0 y1 y2) (flagstonelaw1_TextParses.l1 (k + 1) y0 y1 y2))
  | 0 => ⟨fun _ _ _ _ r h => by simp [flagstonelaw1_TextParses.l0] at h, fun _ _ _ r h => by simp [flagstonelaw1_TextParses.l1] at h⟩
  | k + 1 => by
    obtain ⟨ih0, ih1⟩ := flagstonelaw1_TextParses.mono_l k
    refine ⟨?_, ?_⟩
    · intro y0 y1 y2 y3
      unfold flagstonelaw1_TextParses.l0
      repeat' first
      | (with_reducible exact ih0 _ _ _ _)
      | (with_reducible exact ih1 _ _ _)
      | (with_reducible exact flagstoneref1_ParseNumber.mono _ _)
      | (with_reducible exact LeO.refl _)
      | (with_reducible exact LeO.none _)
      | (with_reducible refine LeO.ite ?_ ?_)
      | (with_reducible refine LeO.bind ?_ (fun _ => ?_))
      | exact ih0 _ _ _ _
      | exact ih1 _ _ _
      | exact flagstoneref1_ParseNumber.mono _ _
      | exact LeO.none _
      | refine LeO.ite ?_ ?_
      | refine LeO.bind ?_ (fun _ => ?_)
    · intro y0 y1 y2
      unfold flagstonelaw1_TextParses.l1
      repeat' first
      | (with_reducible exact ih0 _ _ _ _)
      | (with_reducible exact ih1 _ _ _)
      | (with_reducible exact flagstoneref1_ParseNumber.mono _ _)
      | (with_reducible exact LeO.refl _)
      | (with_reducible exact LeO.none _)
      | (with_reducible refine LeO.ite ?_ ?_)
      | (with_reducible refine LeO.bind ?_ (fun _ => ?_))
      | exact ih0 _ _ _ _
      | exact ih1 _ _ _
      | exact flagstoneref1_ParseNumber.mono _ _
      | exact LeO.none _
      | refine LeO.ite ?_ ?_
      | refine LeO.bind ?_ (fun _ => ?_)
theorem flagstonelaw1_TextParses.mono : ∀ a0 a1 k, LeO (flagstonelaw1_TextParses.f k a0 a1) (flagstonelaw1_TextParses.f (k + 1) a0 a1) := by
  intro a0 a1 k
  obtain ⟨ih0, ih1⟩ := flagstonelaw1_TextParses.mono_l k
  unfold flagstonelaw1_TextParses.f
  repeat' first
      | (with_reducible exact ih0 _ _ _ _)
      | (with_reducible exact ih1 _ _ _)
      | (with_reducible exact flagstoneref1_ParseNumber.mono _ _)
      | (with_reducible exact LeO.refl _)
      | (with_reducible exact LeO.none _)
      | (with_reducible refine LeO.ite ?_ ?_)
      | (with_reducible refine LeO.bind ?_ (fun _ => ?_))
      | exact ih0 _ _ _ _
      | exact ih1 _ _ _
      | exact flagstoneref1_ParseNumber.mono _ _
      | exact LeO.none _
      | refine LeO.ite ?_ ?_
      | refine LeO.bind ?_ (fun _ => ?_)
set_option maxHeartbeats 8000000 in
set_option maxRecDepth 100000 in
theorem flagstonelaw1_TextParses.calls (k : Nat) (a0 : ByteArray) (A1 : Option Addr) (c1 : Nat) (l1 : List Int) (r : Bool) (w : World) (hT : Tabs w) (hr1 : Kd.C (Kd.int .u8) w A1 l1.length l1) (hc1 : l1.length ≤ c1) (h : flagstonelaw1_TextParses.f k a0 l1 = some r) :
    Calls Tryd.prog 6 #[.string a0, .slice A1 l1.length c1] w fun e w' => e = .returned (.bool r) ∧ Below w.heap.size w w' := by
  have HR1 := Aside0.mk hr1
  have HC1 := Aside0.mk hc1
  clear hr1 hc1
  have HTAB := Aside0.mk hT
  clear hT
  have HB := Aside0.mk (Below.refl w.heap.size w)
  have H : ((flagstonelaw1_awake.f).bind fun t101 => (if t101 = true then (if (l1.length : Int) > 60 then (if 60 ≤ (l1.length : Int) then (flagstonelaw1_TextParses.l0 k a0 (l1.take 60) (⟨#[]⟩ : ByteArray) 0) else (none)) else (none)) else (some false))) = some r := h
  clear h
  replace H := Option.bind_eq_some_iff.mp H
  obtain ⟨t101, A30, H⟩ := H
  replace H : (if t101 = true then (if (l1.length : Int) > 60 then (if 60 ≤ (l1.length : Int) then (flagstonelaw1_TextParses.l0 k a0 (l1.take 60) (⟨#[]⟩ : ByteArray) 0) else (none)) else (none)) else (some false)) = some r := H
  have A3 := Aside0.mk A30
  clear A30
  by_cases c4 : t101 = true
  · subst c4
    have H1 : (if (l1.length : Int) > 60 then (if 60 ≤ (l1.length : Int) then (flagstonelaw1_TextParses.l0 k a0 (l1.take 60) (⟨#[]⟩ : ByteArray) 0) else (none)) else (none)) = some r := by rw [if_pos rfl] at H; exact H
    clear H
    have H := H1
    clear H1
    by_cases c5 : (l1.length : Int) > 60
    · rw [if_pos c5] at H
      have c5b0 : decide (60 < (l1.length : Int)) = true := decide_eq_true c5
      have c5b1 : decide (60 < l1.length) = true := decide_eq_true (by omega)
      clear c5
      by_cases c6 : 60 ≤ (l1.length : Int)
      · rw [if_pos c6] at H
        have c6b0 := eq_true c6
        have c6b1 : decide (60 ≤ (l1.length : Int)) = true := decide_eq_true c6
        clear c6
        have H' := Aside0.mk H
        clear H
        go_enter Tryd.func6, Tryd.ntmps6
        go_wp2_with (first | ((with_reducible refine gate_callee (f := 10) rfl ?_); refine goesL_ (some 13) rfl rfl Tryd.func10 (by kernel_rfl) rfl #[] rfl (by (try simp only [List.map_toArray, List.map_cons, List.map_nil]); first | done | rfl | (simp only [List.length_drop, List.length_take]; rfl)) ?_; (with_reducible refine (flagstonelaw1_awake.calls  true _ ?side1 A3.out).mono ?_); (case side1 => refine Tabs.below HTAB.out ?_; repeat (first | (with_reducible first | exact HB.out | apply below_alloc | apply pw_below_drewN | apply below_drew1) | exact HB.out)); rintro e w7 ⟨rfl, hb⟩; refine ⟨_, rfl, ?_⟩; have n0_ := Aside0.mk (below_step (by repeat (first | (with_reducible first | exact HB.out | apply below_alloc | apply pw_below_drewN | apply below_drew1) | exact HB.out)) hb); clear HB; have HB := n0_; clear n0_; (try clear hb); (try clear hb2); (try clear hk); (try clear hi); obtain ⟨i08, hi08, _, hsz8, _⟩ := info_parts info5; obtain ⟨hcut8, hA8, hC8⟩ := print_take_of (P := Tryd.prog) (Value.int .u8) 0 26 5 .i64 Tryd.underlying26 hi08 hsz8 A1 c1 l1 60 (by omega) (of_decide_eq_true (by first | (with_reducible assumption) | assumption)) HC1.out; have HR102 := Aside0.mk (Kd.C_of_reads (h1 := fun _ => rfl) (hA8 _ (Kd.reads_of_C HR1.out))); have HC102 := Aside0.mk hC8; clear hA8 hC8 hi08 hsz8))
        go_loopg [5, 6] k (fun kq v5 v6 w' => ∃ (x5_1 : ByteArray) (x6_1 : Int), v5 = .string x5_1 ∧ v6 = .int .i64 x6_1 ∧ Aside0 (flagstonelaw1_TextParses.l0 kq a0 (l1.take 60) x5_1 x6_1 = some r) ∧ Aside0 (kq ≤ k) ∧ Aside0 (Below w.heap.size w w'))
        case atStart => exact ⟨((⟨#[]⟩ : ByteArray)), (0), (by first | rfl | (simp; done) | (simp [*]; done)), (by first | rfl | (simp; done) | (simp [*]; done)), H', ⟨Nat.le_refl _⟩, ⟨by repeat (first | (with_reducible first | exact HB.out | apply below_alloc | apply pw_below_drewN | apply below_drew1) | exact HB.out)⟩⟩
        case round =>
          clear H'
          try clear c1
          try clear p2
          try clear c4
          try clear c5
          try clear c5b0
          try clear c5b1
          try clear c6
          try clear c6b0
          try clear c6b1
          obtain ⟨x5_1, x6_1, rfl, rfl, HA, HK1, HB⟩ := hrel
          cases gk with
          | zero => exact absurd HA.out (by simp [flagstonelaw1_TextParses.l0])
          | succ k1 =>
            have H := HA.out
            clear HA
            simp only [flagstonelaw1_TextParses.l0] at H
            by_cases c9 : x6_1 < ((l1.take 60).length : Int)
            · rw [if_pos c9] at H
              have c9b0 : decide (x6_1 < ((l1.take 60).length : Int)) = true := decide_eq_true c9
              have c9bm : decide (x6_1 < ((min 60 l1.length : Nat) : Int)) = true := by have e := c9b0; rwa [List.length_take] at e
              try have c9bp := of_decide_eq_true c9bm
              clear c9
              by_cases c10 : 0 ≤ x6_1
              · rw [if_pos c10] at H
                have c10b0 : decide (0 ≤ x6_1) = true := decide_eq_true c10
                clear c10
                by_cases c11 : x5_1.size + (Utf8.encode ((48 + (Int.tmod (rd (l1.take 60) x6_1) 10)) % 256)).size ≤ 9223372036854775807
                · rw [if_pos c11] at H
                  have c11b0 := eq_true c11
                  have c11b1 : decide (x5_1.size + (Utf8.encode ((48 + (Int.tmod (rd (l1.take 60) x6_1) 10)) % 256)).size ≤ 9223372036854775807) = true := decide_eq_true c11
                  try have c11b2 : (9223372036854775807 < x5_1.size + (Utf8.encode ((48 + (Int.tmod (rd (l1.take 60) x6_1) 10)) % 256)).size) = False := eq_false (Nat.not_lt.2 c11)
                  try have c11b3 := c11
                  try simp only [ByteArray.size_append, ByteArray.size_extract, Nat.sub_zero] at c11b3
                  try replace c11b3 := eq_false (Nat.not_lt.2 c11b3)
                  have H' := Aside0.mk H
                  clear H
                  have p103 : 0 ≤ (x6_1 : Int) := of_decide_eq_true (by first | (with_reducible assumption) | assumption)
                  have q103 : x6_1 < ((l1.take 60).length : Int) := of_decide_eq_true (by first | (with_reducible assumption) | assumption)
                  obtain ⟨ad103, e103, hx103_0⟩ := Kd.at_int HR102.out x6_1 p103 q103
                  cases e103
                  replace hx103_0 := (HB.out.cell (World.block_lt_of_cell? w _ hx103_0)).trans hx103_0
                  replace p103 := eq_true p103
                  replace q103 := eq_true q103
                  go_wp2
                  go_roundg k1
                  case measure => have := HK1.out; omega
                  case rel => exact ⟨(x5_1 ++ (Utf8.encode ((48 + (Int.tmod (rd (l1.take 60) x6_1) 10)) % 256))), (wrap64 (x6_1 + 1)), (by first | rfl | (simp; done) | (simp [*]; done)), (by first | rfl | (simp; done) | (simp [*]; done)), H', ⟨by have := HK1.out; omega⟩, ⟨by repeat (first | (with_reducible first | exact HB.out | apply below_alloc | apply pw_below_drewN | apply below_drew1) | exact HB.out)⟩⟩
                · rw [if_neg c11] at H
                  exact absurd H (by simp)
              · rw [if_neg c10] at H
                exact absurd H (by simp)
            · rw [if_neg c9] at H
              have c9b0 : decide (x6_1 < ((l1.take 60).length : Int)) = false := decide_eq_false c9
              have c9bm : decide (x6_1 < ((min 60 l1.length : Nat) : Int)) = false := by have e := c9b0; rwa [List.length_take] at e
              try have c9bp := of_decide_eq_true c9bm
              clear c9
              by_cases c12 : 1 + x5_1.size ≤ 9223372036854775807
              · rw [if_pos c12] at H
                have c12b0 := eq_true c12
                have c12b1 : decide (1 + x5_1.size ≤ 9223372036854775807) = true := decide_eq_true c12
                try have c12b2 : (9223372036854775807 < 1 + x5_1.size) = False := eq_false (Nat.not_lt.2 c12)
                try have c12b3 := c12
                try simp only [ByteArray.size_append, ByteArray.size_extract, Nat.sub_zero] at c12b3
                try replace c12b3 := eq_false (Nat.not_lt.2 c12b3)
                by_cases c13 : x5_1.size + a0.size ≤ 9223372036854775807
                · rw [if_pos c13] at H
                  have c13b0 := eq_true c13
                  have c13b1 : decide (x5_1.size + a0.size ≤ 9223372036854775807) = true := decide_eq_true c13
                  try have c13b2 : (9223372036854775807 < x5_1.size + a0.size) = False := eq_false (Nat.not_lt.2 c13)
                  try have c13b3 := c13
                  try simp only [ByteArray.size_append, ByteArray.size_extract, Nat.sub_zero] at c13b3
                  try replace c13b3 := eq_false (Nat.not_lt.2 c13b3)
                  by_cases c14 : ((⟨#[49]⟩ : ByteArray) ++ x5_1).size + 1 ≤ 9223372036854775807
                  · rw [if_pos c14] at H
                    have c14b0 := eq_true c14
                    have c14b1 : decide (((⟨#[49]⟩ : ByteArray) ++ x5_1).size + 1 ≤ 9223372036854775807) = true := decide_eq_true c14
                    try have c14b2 : (9223372036854775807 < ((⟨#[49]⟩ : ByteArray) ++ x5_1).size + 1) = False := eq_false (Nat.not_lt.2 c14)
                    try have c14b3 := c14
                    try simp only [ByteArray.size_append, ByteArray.size_extract, Nat.sub_zero, show (⟨#[49]⟩ : ByteArray).size = 1 from rfl] at c14b3
                    try replace c14b3 := eq_false (Nat.not_lt.2 c14b3)
                    obtain ⟨y104, hy104⟩ : ∃ y_ : List ByteArray, y_ = (([a0, x5_1, (⟨#[45]⟩ : ByteArray) ++ x5_1, (⟨#[48]⟩ : ByteArray) ++ x5_1, x5_1 ++ a0, ((⟨#[49]⟩ : ByteArray) ++ x5_1) ++ (⟨#[48]⟩ : ByteArray)] : List ByteArray)) := ⟨_, rfl⟩
                    replace H : (flagstonelaw1_TextParses.l1 k1 y104 (y104.length : Int) 0) = some r := by first | (rw [hy104]; with_reducible exact H) | (have H2_ := (Option.bind_some _ _).symm.trans H; rw [hy104]; with_reducible exact H2_) | (have H2_ := (Option.bind_some _ _).symm.trans H; with_reducible exact H2_) | with_reducible exact H | (rw [hy104]; exact H) | exact H
                    have Ny104 := Aside0.mk hy104
                    clear hy104
                    have H' := Aside0.mk H
                    clear H
                    go_wp2_with (first | ((with_reducible refine gate_dst (N := 48) rfl ?_); refine Kd.R_lit Kd.string _ 9 ?hg (N := 48) ?hd (xs := ([a0, x5_1, (⟨#[45]⟩ : ByteArray) ++ x5_1, (⟨#[48]⟩ : ByteArray) ++ x5_1, x5_1 ++ a0, ((⟨#[49]⟩ : ByteArray) ++ x5_1) ++ (⟨#[48]⟩ : ByteArray)] : List ByteArray)) (inner := [.string a0, .string x5_1, .string ((⟨#[45]⟩ : ByteArray) ++ x5_1), .string ((⟨#[48]⟩ : ByteArray) ++ x5_1), .string (x5_1 ++ a0), .string (((⟨#[49]⟩ : ByteArray) ++ x5_1) ++ (⟨#[48]⟩ : ByteArray))]) (ok := fun _ => True) (okp := fun _ => True) ?hr ?hp (fun _ hk => hk) trivial (Below.refl _ _) (Nat.le_refl _) (by simp) ?_; (case hd => rfl); (case hg => rfl); (case hr => first | (go_simp; done) | (go_simp; rfl)); (case hp => exact (Reps.one (show Kd.M Kd.string _ _ _ a0 [.string a0] from rfl) (Reps.one (show Kd.M Kd.string _ _ _ x5_1 [.string x5_1] from rfl) (Reps.one (show Kd.M Kd.string _ _ _ ((⟨#[45]⟩ : ByteArray) ++ x5_1) [.string ((⟨#[45]⟩ : ByteArray) ++ x5_1)] from rfl) (Reps.one (show Kd.M Kd.string _ _ _ ((⟨#[48]⟩ : ByteArray) ++ x5_1) [.string ((⟨#[48]⟩ : ByteArray) ++ x5_1)] from rfl) (Reps.one (show Kd.M Kd.string _ _ _ (x5_1 ++ a0) [.string (x5_1 ++ a0)] from rfl) (Reps.one (show Kd.M Kd.string _ _ _ (((⟨#[49]⟩ : ByteArray) ++ x5_1) ++ (⟨#[48]⟩ : ByteArray)) [.string (((⟨#[49]⟩ : ByteArray) ++ x5_1) ++ (⟨#[48]⟩ : ByteArray))] from rfl) (Reps.none _ _)))))))); intro v105 w15 ho16 hb hg_ hnew_; clear hg_ hnew_; (first | rw [← Ny104.out] at ho16 | (simp only [Int.reduceToNat] at ho16; rw [← Ny104.out] at ho16)); have n0_ := Aside0.mk (Kd.R_lower ho16 (below_size (by repeat (first | (with_reducible first | exact HB.out | apply below_alloc | apply pw_below_drewN | apply below_drew1) | exact HB.out)))); have n1_ := Aside0.mk (below_step (by repeat (first | (with_reducible first | exact HB.out | apply below_alloc | apply pw_below_drewN | apply below_drew1) | exact HB.out)) hb); clear HB; have HO106 := n0_; have HB := n1_; clear n0_ n1_; clear hb ho16; obtain ⟨Ao17, co17, eo17⟩ := Kd.R_slice HO106.out; subst eo17))
                    go_loopg [50] k1 (fun kq v50 w' => ∃ (x50_2 : Int), v50 = .int .i64 x50_2 ∧ Aside0 (flagstonelaw1_TextParses.l1 kq y104 (y104.length : Int) x50_2 = some r) ∧ Aside0 (kq ≤ k1) ∧ Aside0 (Kd.R Kd.string 9 w' w.heap.size (fun _ => True) (.slice Ao17 y104.length co17) y104) ∧ Aside0 (Below w.heap.size w w'))
                    case atStart => exact ⟨(0), (by first | rfl | (simp; done) | (simp [*]; done)), H', ⟨Nat.le_refl _⟩, ⟨by (with_reducible repeat (first | apply Kd.R_alloc | apply Kd.R_drewN | apply Kd.R_drew)); exact HO106.out⟩, ⟨by repeat (first | (with_reducible first | exact HB.out | apply below_alloc | apply pw_below_drewN | apply below_drew1) | exact HB.out)⟩⟩
                    case round =>
                      clear H'
                      try clear c1
                      try clear p1
                      try clear q1
                      try clear hx1
                      try clear p2
                      try clear c4
                      try clear c5
                      try clear c5b0
                      try clear c5b1
                      try clear c6
                      try clear c6b0
                      try clear c6b1
                      try clear p6
                      try clear c9
                      try clear c9b0
                      try clear c10
                      try clear c10b0
                      try clear p10
                      try clear q10
                      try clear hx10
                      try clear c11
                      try clear c11b0
                      try clear c11b1
                      try clear c11b2
                      try clear c12
                      try clear c12b0
                      try clear c12b1
                      try clear c12b2
                      try clear c13
                      try clear c13b0
                      try clear c13b1
                      try clear c13b2
                      try clear c14
                      try clear c14b0
                      try clear c14b1
                      try clear c14b2
                      try clear hx103_0
                      try clear p103
                      try clear p2
                      try clear q103
                      obtain ⟨x50_2, rfl, HA, HK2, HO_48, HB⟩ := hrel
                      cases gk with
                      | zero => exact absurd HA.out (by simp [flagstonelaw1_TextParses.l1])
                      | succ k2 =>
                        have H := HA.out
                        clear HA
                        simp only [flagstonelaw1_TextParses.l1] at H
                        by_cases c18 : x50_2 < (y104.length : Int)
                        · rw [if_pos c18] at H
                          have c18b0 : decide (x50_2 < (y104.length : Int)) = true := decide_eq_true c18
                          clear c18
                          by_cases c19 : 0 ≤ x50_2
                          · rw [if_pos c19] at H
                            have c19b0 : decide (0 ≤ x50_2) = true := decide_eq_true c19
                            clear c19
                            by_cases c20 : x50_2 < (y104.length : Int)
                            · rw [if_pos c20] at H
                              have c20b0 : decide (x50_2 < (y104.length : Int)) = true := decide_eq_true c20
                              clear c20
                              replace H := Option.bind_eq_some_iff.mp H
                              obtain ⟨⟨t108, t109⟩, A210, H⟩ := H
                              replace H : ((flagstoneref1_ParseNumber.f k2 (rdOf ByteArray.empty y104 x50_2)).bind fun bt110 => (if t108 = bt110.1 then (if t109 = bt110.2 then (flagstonelaw1_TextParses.l1 k2 y104 (y104.length : Int) (wrap64 (x50_2 + 1))) else (some false)) else (some false))) = some r := H
                              have A21 := Aside0.mk A210
                              clear A210
                              replace H := Option.bind_eq_some_iff.mp H
                              obtain ⟨⟨t110, t111⟩, A220, H⟩ := H
                              replace H : (if t108 = t110 then (if t109 = t111 then (flagstonelaw1_TextParses.l1 k2 y104 (y104.length : Int) (wrap64 (x50_2 + 1))) else (some false)) else (some false)) = some r := H
                              have A22 := Aside0.mk A220
                              clear A220
                              by_cases c23 : t108 = t110
                              · rw [if_pos c23] at H
                                have c23b0 : (t108 == t110) = true := beq_iff_eq.mpr c23
                                have c23b1 : (t108 != t110) = false := bne_eq_false_iff_eq.mpr c23
                                clear c23
                                by_cases c24 : t109 = t111
                                · rw [if_pos c24] at H
                                  have c24b0 : (t109 == t111) = true := beq_iff_eq.mpr c24
                                  have c24b1 : (t109 != t111) = false := bne_eq_false_iff_eq.mpr c24
                                  clear c24
                                  have H' := Aside0.mk H
                                  clear H
                                  have p107 : 0 ≤ (x50_2 : Int) := of_decide_eq_true (by first | (with_reducible assumption) | assumption)
                                  have q107 : x50_2 < (y104.length : Int) := of_decide_eq_true (by first | (with_reducible assumption) | assumption)
                                  obtain ⟨ad107, e107, hx107_0⟩ := Kd.at_string (Kd.R_reads' HO_48.out).2.2 x50_2 p107 q107
                                  cases e107
                                  replace p107 := eq_true p107
                                  replace q107 := eq_true q107
                                  go_wp2_with (first | ((with_reducible refine gate_callee (f := 16) rfl ?_); refine goesL_ (some 56) rfl rfl Tryd.func16 (by kernel_rfl) rfl #[.string (rdOf ByteArray.empty y104 x50_2)] rfl (by (try simp only [List.map_toArray, List.map_cons, List.map_nil]); first | done | rfl | (simp only [List.length_drop, List.length_take]; rfl)) ?_; (with_reducible refine (text_ParseNumber.calls (rdOf ByteArray.empty y104 x50_2) t108 t109 _ ?side1 A21.out).mono ?_); (case side1 => refine Tabs.below HTAB.out ?_; repeat (first | (with_reducible first | exact HB.out | apply below_alloc | apply pw_below_drewN | apply below_drew1) | exact HB.out)); rintro e w25 ⟨rfl, hb⟩; refine ⟨_, rfl, ?_⟩; have n0_ := Aside0.mk (Kd.R_below (by (with_reducible repeat (first | apply Kd.R_alloc | apply Kd.R_drewN | apply Kd.R_drew)); exact HO_48.out) hb); have n1_ := Aside0.mk (below_step (by repeat (first | (with_reducible first | exact HB.out | apply below_alloc | apply pw_below_drewN | apply below_drew1) | exact HB.out)) hb); clear HO_48; clear HB; have HO_48 := n0_; have HB := n1_; clear n0_ n1_; (try clear hb); (try clear hb2); (try clear hk); (try clear hi)) | ((with_reducible refine gate_callee (f := 18) rfl ?_); refine goesL_ (some 61) rfl rfl Tryd.func18 (by kernel_rfl) rfl #[.string (rdOf ByteArray.empty y104 x50_2)] rfl (by (try simp only [List.map_toArray, List.map_cons, List.map_nil]); first | done | rfl | (simp only [List.length_drop, List.length_take]; rfl)) ?_; (with_reducible refine (flagstoneref1_ParseNumber.calls k2 (rdOf ByteArray.empty y104 x50_2) t110 t111 _ A22.out).mono ?_); rintro e w' ⟨rfl, ⟨nd, rfl⟩⟩; refine ⟨_, rfl, ?_⟩))
                                  go_roundg k2
                                  case measure => have := HK1.out; have := HK2.out; omega
                                  case rel => exact ⟨(wrap64 (x50_2 + 1)), (by first | rfl | (simp; done) | (simp [*]; done)), H', ⟨by have := HK1.out; have := HK2.out; omega⟩, ⟨by (with_reducible repeat (first | apply Kd.R_alloc | apply Kd.R_drewN | apply Kd.R_drew)); exact HO_48.out⟩, ⟨by repeat (first | (with_reducible first | exact HB.out | apply below_alloc | apply pw_below_drewN | apply below_drew1) | exact HB.out)⟩⟩
                                · rw [if_neg c24] at H
                                  have c24b0 : (t109 == t111) = false := beq_eq_false_iff_ne.mpr c24
                                  have c24b1 : (t109 != t111) = true := bne_iff_ne.mpr c24
                                  obtain rfl := Option.some.inj H
                                  have p107 : 0 ≤ (x50_2 : Int) := of_decide_eq_true (by first | (with_reducible assumption) | assumption)
                                  have q107 : x50_2 < (y104.length : Int) := of_decide_eq_true (by first | (with_reducible assumption) | assumption)
                                  obtain ⟨ad107, e107, hx107_0⟩ := Kd.at_string (Kd.R_reads' HO_48.out).2.2 x50_2 p107 q107
                                  cases e107
                                  replace p107 := eq_true p107
                                  replace q107 := eq_true q107
                                  go_wp2_with (first | ((with_reducible refine gate_callee (f := 16) rfl ?_); refine goesL_ (some 56) rfl rfl Tryd.func16 (by kernel_rfl) rfl #[.string (rdOf ByteArray.empty y104 x50_2)] rfl (by (try simp only [List.map_toArray, List.map_cons, List.map_nil]); first | done | rfl | (simp only [List.length_drop, List.length_take]; rfl)) ?_; (with_reducible refine (text_ParseNumber.calls (rdOf ByteArray.empty y104 x50_2) t108 t109 _ ?side1 A21.out).mono ?_); (case side1 => refine Tabs.below HTAB.out ?_; repeat (first | (with_reducible first | exact HB.out | apply below_alloc | apply pw_below_drewN | apply below_drew1) | exact HB.out)); rintro e w26 ⟨rfl, hb⟩; refine ⟨_, rfl, ?_⟩; have n0_ := Aside0.mk (Kd.R_below (by (with_reducible repeat (first | apply Kd.R_alloc | apply Kd.R_drewN | apply Kd.R_drew)); exact HO_48.out) hb); have n1_ := Aside0.mk (below_step (by repeat (first | (with_reducible first | exact HB.out | apply below_alloc | apply pw_below_drewN | apply below_drew1) | exact HB.out)) hb); clear HO_48; clear HB; have HO_48 := n0_; have HB := n1_; clear n0_ n1_; (try clear hb); (try clear hb2); (try clear hk); (try clear hi)) | ((with_reducible refine gate_callee (f := 18) rfl ?_); refine goesL_ (some 61) rfl rfl Tryd.func18 (by kernel_rfl) rfl #[.string (rdOf ByteArray.empty y104 x50_2)] rfl (by (try simp only [List.map_toArray, List.map_cons, List.map_nil]); first | done | rfl | (simp only [List.length_drop, List.length_take]; rfl)) ?_; (with_reducible refine (flagstoneref1_ParseNumber.calls k2 (rdOf ByteArray.empty y104 x50_2) t110 t111 _ A22.out).mono ?_); rintro e w' ⟨rfl, ⟨nd, rfl⟩⟩; refine ⟨_, rfl, ?_⟩))
                                  go_ret
                                  exact ⟨by first | rfl | (simp [errW_none, errW_some] <;> rfl) | (simp [*, errW_none, errW_some] <;> rfl), by repeat (first | (with_reducible first | exact HB.out | apply below_alloc | apply pw_below_drewN | apply below_drew1) | exact HB.out)⟩
                              · rw [if_neg c23] at H
                                have c23b0 : (t108 == t110) = false := beq_eq_false_iff_ne.mpr c23
                                have c23b1 : (t108 != t110) = true := bne_iff_ne.mpr c23
                                obtain rfl := Option.some.inj H
                                have p107 : 0 ≤ (x50_2 : Int) := of_decide_eq_true (by first | (with_reducible assumption) | assumption)
                                have q107 : x50_2 < (y104.length : Int) := of_decide_eq_true (by first | (with_reducible assumption) | assumption)
                                obtain ⟨ad107, e107, hx107_0⟩ := Kd.at_string (Kd.R_reads' HO_48.out).2.2 x50_2 p107 q107
                                cases e107
                                replace p107 := eq_true p107
                                replace q107 := eq_true q107
                                go_wp2_with (first | ((with_reducible refine gate_callee (f := 16) rfl ?_); refine goesL_ (some 56) rfl rfl Tryd.func16 (by kernel_rfl) rfl #[.string (rdOf ByteArray.empty y104 x50_2)] rfl (by (try simp only [List.map_toArray, List.map_cons, List.map_nil]); first | done | rfl | (simp only [List.length_drop, List.length_take]; rfl)) ?_; (with_reducible refine (text_ParseNumber.calls (rdOf ByteArray.empty y104 x50_2) t108 t109 _ ?side1 A21.out).mono ?_); (case side1 => refine Tabs.below HTAB.out ?_; repeat (first | (with_reducible first | exact HB.out | apply below_alloc | apply pw_below_drewN | apply below_drew1) | exact HB.out)); rintro e w27 ⟨rfl, hb⟩; refine ⟨_, rfl, ?_⟩; have n0_ := Aside0.mk (Kd.R_below (by (with_reducible repeat (first | apply Kd.R_alloc | apply Kd.R_drewN | apply Kd.R_drew)); exact HO_48.out) hb); have n1_ := Aside0.mk (below_step (by repeat (first | (with_reducible first | exact HB.out | apply below_alloc | apply pw_below_drewN | apply below_drew1) | exact HB.out)) hb); clear HO_48; clear HB; have HO_48 := n0_; have HB := n1_; clear n0_ n1_; (try clear hb); (try clear hb2); (try clear hk); (try clear hi)) | ((with_reducible refine gate_callee (f := 18) rfl ?_); refine goesL_ (some 61) rfl rfl Tryd.func18 (by kernel_rfl) rfl #[.string (rdOf ByteArray.empty y104 x50_2)] rfl (by (try simp only [List.map_toArray, List.map_cons, List.map_nil]); first | done | rfl | (simp only [List.length_drop, List.length_take]; rfl)) ?_; (with_reducible refine (flagstoneref1_ParseNumber.calls k2 (rdOf ByteArray.empty y104 x50_2) t110 t111 _ A22.out).mono ?_); rintro e w' ⟨rfl, ⟨nd, rfl⟩⟩; refine ⟨_, rfl, ?_⟩))
                                go_ret
                                exact ⟨by first | rfl | (simp [errW_none, errW_some] <;> rfl) | (simp [*, errW_none, errW_some] <;> rfl), by repeat (first | (with_reducible first | exact HB.out | apply below_alloc | apply pw_below_drewN | apply below_drew1) | exact HB.out)⟩
                            · rw [if_neg c20] at H
                              exact absurd H (by simp)
                          · rw [if_neg c19] at H
                            exact absurd H (by simp)
                        · rw [if_neg c18] at H
                          have c18b0 : decide (x50_2 < (y104.length : Int)) = false := decide_eq_false c18
                          clear c18
                          obtain rfl := Option.some.inj H
                          go_wp2
                          go_ret
                          exact ⟨by first | rfl | (simp [errW_none, errW_some] <;> rfl) | (simp [*, errW_none, errW_some] <;> rfl), by repeat (first | (with_reducible first | exact HB.out | apply below_alloc | apply pw_below_drewN | apply below_drew1) | exact HB.out)⟩
                  · rw [if_neg c14] at H
                    exact absurd H (by simp)
                · rw [if_neg c13] at H
                  exact absurd H (by simp)
              · rw [if_neg c12] at H
                exact absurd H (by simp)
      · rw [if_neg c6] at H
        exact absurd H (by simp)
    · rw [if_neg c5] at H
      exact absurd H (by simp)
  · replace c4 := Bool.eq_false_iff.mpr c4
    subst c4
    have H1 : (some false) = some r := by rw [if_neg (show ¬ (false = true) by decide)] at H; exact H
    clear H
    have H := H1
    clear H1
    obtain rfl := Option.some.inj H
    go_enter Tryd.func6, Tryd.ntmps6
    go_wp2_with (first | ((with_reducible refine gate_callee (f := 10) rfl ?_); refine goesL_ (some 13) rfl rfl Tryd.func10 (by kernel_rfl) rfl #[] rfl (by (try simp only [List.map_toArray, List.map_cons, List.map_nil]); first | done | rfl | (simp only [List.length_drop, List.length_take]; rfl)) ?_; (with_reducible refine (flagstonelaw1_awake.calls  false _ ?side1 A3.out).mono ?_); (case side1 => refine Tabs.below HTAB.out ?_; repeat (first | (with_reducible first | exact HB.out | apply below_alloc | apply pw_below_drewN | apply below_drew1) | exact HB.out)); rintro e w28 ⟨rfl, hb⟩; refine ⟨_, rfl, ?_⟩; have n0_ := Aside0.mk (below_step (by repeat (first | (with_reducible first | exact HB.out | apply below_alloc | apply pw_below_drewN | apply below_drew1) | exact HB.out)) hb); clear HB; have HB := n0_; clear n0_; (try clear hb); (try clear hb2); (try clear hk); (try clear hi)))
    go_ret
    exact ⟨by first | rfl | (simp [errW_none, errW_some] <;> rfl) | (simp [*, errW_none, errW_some] <;> rfl), by repeat (first | (with_reducible first | exact HB.out | apply below_alloc | apply pw_below_drewN | apply below_drew1) | exact HB.out)⟩

/-- THE ONE PURE STATEMENT of flagstonelaw1_TextParses: yours. -/
def flagstonelaw1_TextParses.Pure : Prop := ∀ (a0 : ByteArray) (l1 : List Int), a0.size ≤ 140737488351232 → l1.length ≤ maxLen → l1.length * 1 ≤ 140737488351232 → (∀ x ∈ l1, (Lit.int .u8 x).wf = true) → ∃ k, flagstonelaw1_TextParses.f k a0 l1 = some true
theorem flagstonelaw1_TextParses.walk (P : flagstonelaw1_TextParses.Pure) (a0 : ByteArray) (a1 : Option Addr) (len1 cap1 : Nat) (z1 : List Int) (w : World) (hT : Tabs w) (w0 : a0.size ≤ 140737488351232) (w1 : (a1 = none ∧ len1 = 0 ∧ cap1 = 0 ∧ z1 = []) ∨ ∃ x, a1 = some x ∧ len1 ≤ cap1 ∧ cap1 ≤ maxLen ∧ z1.length = cap1 ∧ (∀ i, i < z1.length → w.cell? (x.add i) = some (.int .u8 (z1.getD i 0))) ∧ ∀ n ∈ z1, (Lit.int .u8 n).wf = true) (y1 : len1 * 1 ≤ 140737488351232) :
    Calls Tryd.prog 6 #[.string a0, .slice a1 len1 cap1] w fun e w' => e = .returned (.bool true) ∧ Below w.heap.size w w' := by
  obtain ⟨l1, rfl, hr1, hm1, hw1, hc1⟩ := ReadsInt.ofRowC w1
  obtain ⟨k, h⟩ := P a0 l1 w0 hm1 y1 hw1
  refine (flagstonelaw1_TextParses.calls k a0 _ _ l1 true w hT (Kd.C_of_reads (d := (0 : Int)) (h1 := fun _ => rfl) hr1) hc1 h).mono ?_
  rintro e w' ⟨rfl, hd⟩
  exact ⟨rfl, hd⟩

end Go.Proofs.YtndgmcifagipjaaDoor.PPB
