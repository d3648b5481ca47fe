/- The text of a metric, and the walk of the reference's Print. -/
import Derived.Test.YtbiolondnkeakaaDoorValue
import Derived.Test.YtbiolondnkeakaaDoorPureCheck
import Derived.Test.YtbiolondnkeakaaDoorPureNumF
import Derived.Deep.RegionWith
import Derived.Deep.DrawnRows
import Derived.Deep.DeepCutAuto
import Derived.Deep.QuietTactic
import Derived.BigQuiet
namespace Go.Proofs.YtbiolondnkeakaaDoor
open Go.RowKit Go.Proofs.YtbiolondnkeakaaDoor.PT Go.Proofs.YtbiolondnkeakaaDoorW.PrintWords Go.Proofs.YtbiolondnkeakaaDoorW.PrintLast Go.Proofs.YtbiolondnkeakaaDoorW.PrintMore Plain

def itoaB (n : Int) : ByteArray := ⟨(Lib.itoa n).toArray⟩
def p4 (m : Met) : ByteArray := kindName m.k ++ ⟨#[32, 111, 102, 32]⟩ ++ m.nm
def p5 (m : Met) : ByteArray := if m.k = 4 then p4 m ++ ⟨#[32, 116, 111, 32]⟩ ++ m.bl else p4 m
def p7 (m : Met) : ByteArray := p5 m ++ ⟨#[32, 119, 105, 116, 104, 105, 110, 32]⟩ ++ itoaB m.wi ++ ⟨#[32, 99, 97, 112, 32]⟩ ++ itoaB m.ca
def p8 (m : Met) : ByteArray := if m.le ≠ -1099511627776 then p7 m ++ ⟨#[32, 108, 101, 97, 115, 116, 32]⟩ ++ itoaB m.le else p7 m
def p10 (m : Met) : ByteArray := if m.be ≠ 0 then p8 m ++ ⟨#[32, 98, 101, 102, 111, 114, 101, 32]⟩ ++ itoaB m.be else p8 m
/-- Print. -/
def printM (m : Met) : ByteArray × Int := if m.err ≠ 0 then (⟨#[]⟩, m.err) else (p10 m, 0)

theorem num_q (n : Int) (w : World) (h0 : -9223372036854775808 ≤ n) (h1 : n ≤ 9223372036854775807) :
    Calls Tryd.prog 26 #[.int .i64 n] w fun e w' => e = .returned (.string (itoaB n)) ∧ ∃ k, w' = w.drewN k := by
  obtain ⟨s, h, hs⟩ := Pure.number_f n 41 h0 h1 (by omega)
  refine (flagstoneref1_Number.calls 41 n s w h).mono ?_
  rintro e w' ⟨rfl, hd⟩
  have e1 : s = itoaB n := ByteArray.ext (Array.toList_inj.1 hs)
  rw [e1]
  exact ⟨rfl, hd.out⟩
/-- What a metric without errors has. -/
structure Fine (m : Met) : Prop where
  k1 : 1 ≤ m.k
  k4 : m.k ≤ 4
  nm : keyB m.nm = true
  bl : m.k = 4 → keyB m.bl = true
  w1 : 1 ≤ m.wi
  w2 : m.wi ≤ 68719476736
  c1 : 1 ≤ m.ca
  c2 : m.ca ≤ 1048576
  l1 : -1099511627776 ≤ m.le
  l2 : m.le ≤ 1099511627776
  b1 : 0 ≤ m.be
  b2 : m.be ≤ 68719476736
  sh : m.k ≠ 4 → m.bl = ⟨#[]⟩
  s3 : m.k = 3 → m.ca = 1
theorem fine_iff {m : Met} : m.err = 0 ↔ Fine m := by
  unfold Met.err checkP
  constructor
  · intro h
    split at h
    · exact absurd h (by decide)
    split at h
    · exact absurd h (by decide)
    split at h
    · exact absurd h (by decide)
    split at h
    · exact absurd h (by decide)
    rename_i h1 h2 h3 h4
    have h1' := Classical.not_not.1 h1
    refine ⟨h1'.1, h1'.2, ?_, fun hk => ?_, by omega, by omega, by omega, by omega, by omega, by omega, by omega, by omega, fun hk => ?_, fun hk => ?_⟩
    · cases hn : keyB m.nm with
      | true => rfl
      | false => exact absurd (.inl hn) h2
    · cases hn : keyB m.bl with
      | true => rfl
      | false => exact absurd (.inr ⟨hk, hn⟩) h2
    · exact Classical.byContradiction fun hb => h4 (.inl ⟨hk, hb⟩)
    · exact Classical.byContradiction fun hb => h4 (.inr ⟨hk, hb⟩)
  · intro h
    rw [if_neg (fun e => e ⟨h.k1, h.k4⟩), if_neg, if_neg, if_neg]
    · rintro (⟨a, b⟩ | ⟨a, b⟩)
      · exact b (h.sh a)
      · exact b (h.s3 a)
    · have := h.w1; have := h.w2; have := h.c1; have := h.c2; have := h.l1; have := h.l2; have := h.b1; have := h.b2
      omega
    · rintro (a | ⟨a, b⟩)
      · rw [h.nm] at a; cases a
      · rw [h.bl a] at b; cases b

theorem key_small {s : ByteArray} (h : keyB s = true) : s.size ≤ 32 := by
  unfold keyB at h
  rw [Bool.and_eq_true, Bool.and_eq_true] at h
  exact of_decide_eq_true h.1.2
theorem kindName_small (k : Int) : (kindName k).size ≤ 5 := by
  unfold kindName
  repeat' split
  all_goals decide
theorem itoaB_small (n : Int) (h0 : -9223372036854775808 ≤ n) (h1 : n ≤ 9223372036854775807) : (itoaB n).size ≤ 21 := Lib.itoa_length_le n h0 h1
theorem p4_small {m : Met} (h : Fine m) : (p4 m).size ≤ 41 := by
  have := key_small h.nm
  have := kindName_small m.k
  unfold p4
  simp only [ByteArray.size_append]
  show _ + 4 + _ ≤ _
  omega
theorem p5_small {m : Met} (h : Fine m) : (p5 m).size ≤ 77 := by
  have := p4_small h
  unfold p5
  split
  · rename_i h4
    have := key_small (h.bl h4)
    simp only [ByteArray.size_append]
    show _ + 4 + _ ≤ _
    omega
  · omega
theorem p7_small {m : Met} (h : Fine m) : (p7 m).size ≤ 132 := by
  have := p5_small h
  have := itoaB_small m.wi (by have := h.w1; omega) (by have := h.w2; omega)
  have := itoaB_small m.ca (by have := h.c1; omega) (by have := h.c2; omega)
  unfold p7
  simp only [ByteArray.size_append]
  show _ + 8 + _ + 5 + _ ≤ _
  omega
theorem p8_small {m : Met} (h : Fine m) : (p8 m).size ≤ 160 := by
  have := p7_small h
  have := itoaB_small m.le (by have := h.l1; omega) (by have := h.l2; omega)
  unfold p8
  split
  · simp only [ByteArray.size_append]
    show _ + 7 + _ ≤ _
    omega
  · omega
theorem p10_small {m : Met} (h : Fine m) : (p10 m).size ≤ 189 := by
  have := p8_small h
  have := itoaB_small m.be (by have := h.b1; omega) (by have := h.b2; omega)
  unfold p10
  split
  · simp only [ByteArray.size_append]
    show _ + 8 + _ ≤ _
    omega
  · omega

theorem refkinds_in (W : World) (k : Int) (hk : 1 ≤ k ∧ k ≤ 4) : Calls Tryd.prog 25 #[] W fun e w' => ∃ N, e = .returned (.slice (some ⟨N, 0, none⟩) 5 5) ∧ Below W.heap.size W w' ∧ w'.cell? ⟨N, k.toNat, none⟩ = some (.string (kindName k)) := by
  go_enter Tryd.func25, Tryd.ntmps25
  go_wp2
  go_ret
  refine ⟨_, rfl, (Below.refl _ _).alloc (Nat.le_refl _) _, ?_⟩
  have : k = 1 ∨ k = 2 ∨ k = 3 ∨ k = 4 := by omega
  rcases this with rfl | rfl | rfl | rfl <;> simp [kindName, wSum, wCount, wShare, wRatio]

theorem IsM.drew {M : Nat} {m : Met} {w : World} (h : IsM M m w) : IsM M m w.drew := ⟨h.c0, h.c1, h.c2, h.c3, h.c4, h.c5, h.c6, h.fr⟩
theorem st_drewN {w0 w : World} {M0 : Nat} {m : Met} (h : IsM M0 m w ∧ M0 < w.heap.size ∧ Below w0.heap.size w0 w) (n : Nat) : IsM M0 m (w.drewN n) ∧ M0 < (w.drewN n).heap.size ∧ Below w0.heap.size w0 (w.drewN n) :=
  ⟨⟨h.1.c0, h.1.c1, h.1.c2, h.1.c3, h.1.c4, h.1.c5, h.1.c6, h.1.fr⟩, h.2.1, ⟨h.2.2.os, h.2.2.tape, h.2.2.output, h.2.2.size, h.2.2.block⟩⟩
theorem refkinds_st {w0 w : World} {M0 : Nat} {m : Met} (hk : 1 ≤ m.k ∧ m.k ≤ 4) (h : Hid (IsM M0 m w ∧ M0 < w.heap.size ∧ Below w0.heap.size w0 w)) : Calls Tryd.prog 25 #[] w.drew fun e w' => ∃ N, e = .returned (.slice (some ⟨N, 0, none⟩) 5 5) ∧ w'.cell? ⟨N, m.k.toNat, none⟩ = some (.string (kindName m.k)) ∧
    w'.cell? ⟨M0, 0, none⟩ = some (.int .i64 m.k) ∧ w'.cell? ⟨M0, 1, none⟩ = some (.string m.nm) ∧ Hid (IsM M0 m w' ∧ M0 < w'.heap.size ∧ Below w0.heap.size w0 w') := by
  refine (refkinds_in w.drew m.k hk).mono ?_
  rintro e w' ⟨N, rfl, hb, hN⟩
  have hm := h.out.1.drew.grown (b := w.heap.size) (gb_below _ hb) h.out.2.1 (Nat.ne_of_lt h.out.2.1)
  exact ⟨N, rfl, hN, hm.c0, hm.c1, hm, Nat.lt_of_lt_of_le h.out.2.1 hb.size, h.out.2.2.drew.trans (hb.mono h.out.2.2.size)⟩

theorem refcheck_in (m : Met) (w : World) (h1 : m.nm.size ≤ 9223372036854775000) (h2 : m.bl.size ≤ 9223372036854775000) :
    Calls Tryd.prog 24 #[.agg #[.int .i64 m.k, .string m.nm, .string m.bl, .int .i64 m.wi, .int .i64 m.ca, .int .i64 m.le, .int .i64 m.be]] w fun e w' => e = .returned (.int .i64 m.err) ∧ Below w.heap.size w w' := by
  refine (flagstoneref34_Check.calls (m.nm.size + m.bl.size + 61) m.k m.nm m.bl m.wi m.ca m.le m.be m.err w (Pure.check_f m.k m.nm m.bl m.wi m.ca m.le m.be _ (by omega) (by omega) (by omega))).mono ?_
  rintro e w' ⟨rfl, h⟩
  exact ⟨rfl, h⟩

attribute [local go_sem ↓] Go.wp_at_zero Go.wp_at_succ
set_option maxRecDepth 100000 in
set_option maxHeartbeats 8000000 in
theorem refprint_calls (m : Met) (w : World) (h1 : m.nm.size ≤ 9223372036854775000) (h2 : m.bl.size ≤ 9223372036854775000) :
    Calls Tryd.prog 10 #[m.val] w fun e w' => e = .returned (.tuple #[.string (printM m).1, .int .i64 (printM m).2]) ∧ Below w.heap.size w w' := by
  show Calls Tryd.prog 10 #[.agg #[.int .i64 m.k, .string m.nm, .string m.bl, .int .i64 m.wi, .int .i64 m.ca, .int .i64 m.le, .int .i64 m.be]] w _
  go_enter Tryd.func10, Tryd.ntmps10
  go_wp2_with fail
  have hM1 := val_start w m
  obtain ⟨W1, hW1, hb1, hs1⟩ : ∃ W1, w.alloc (.cells #[.int .i64 m.k, .string m.nm, .string m.bl, .int .i64 m.wi, .int .i64 m.ca, .int .i64 m.le, .int .i64 m.be] 29) = W1 ∧ Below w.heap.size w W1 ∧ W1.heap.size = w.heap.size + 1 := ⟨_, rfl, (Below.refl _ _).alloc (Nat.le_refl _) _, by simp⟩
  rw [hW1] at hM1 ⊢
  obtain ⟨M0, hM0⟩ : ∃ M0, w.heap.size = M0 := ⟨_, rfl⟩
  rw [hM0] at hM1 ⊢
  have H1 := Lib.hid (And.intro hM1 (And.intro hb1 (And.intro hM0 hs1)))
  clear hM1 hb1 hM0 hs1 hW1
  refine (refcheck_in m W1 h1 h2).mono ?_
  rintro e w2 ⟨rfl, hb2⟩
  have hst2 : IsM M0 m w2 := H1.out.1.grown (b := W1.heap.size) (gb_below _ hb2) (by rw [H1.out.2.2.2, H1.out.2.2.1]; omega) (by rw [H1.out.2.2.2, H1.out.2.2.1]; omega)
  have hM2 : M0 < w2.heap.size := by have := hb2.size; have e1 := H1.out.2.2.1; have e2 := H1.out.2.2.2; omega
  have hbw : Below w.heap.size w w2 := H1.out.2.1.trans (hb2.mono H1.out.2.1.size)
  have H2 := Lib.hid (And.intro hst2 (And.intro hM2 hbw))
  clear hst2 hM2 hbw hb2 H1
  by_cases he : m.err = 0
  · have hne : (m.err != 0) = false := by rw [he]; rfl
    have hf := fine_iff.1 he
    have hans : printM m = (p10 m, 0) := if_neg (fun h => h he)
    have HF := Lib.hid (And.intro hf hans)
    clear he hf hans
    have c0 := H2.out.1.c0
    go_upto_region 4 with (fail)
    go_cut [5] (fun s5 wc => s5 = .string (p4 m) ∧ IsM M0 m wc ∧ M0 < wc.heap.size ∧ Below w.heap.size w wc)
    case first =>
      have c1 := H2.out.1.c1
      have hk1 := HF.out.1.k1
      have hk4 := HF.out.1.k4
      have hkd1 : decide ((0 : Int) ≤ m.k) = true := decide_eq_true (by omega)
      have hkd2 : decide (m.k < 5) = true := decide_eq_true (by omega)
      have hkk : 1 ≤ m.k ∧ m.k ≤ 4 := ⟨hk1, hk4⟩
      have hz1 : (9223372036854775807 < (kindName m.k).size + 4) = False := eq_false (by have := kindName_small m.k; omega)
      have hz2 : (9223372036854775807 < (kindName m.k).size + 4 + m.nm.size) = False := eq_false (by have := kindName_small m.k; have := key_small HF.out.1.nm; omega)
      go_region_with (go_at_call 25; refine (refkinds_st hkk H2).mono ?_; rintro e w' ⟨N, rfl, hN, c0', c1', HX⟩)
      all_goals
        go_wp2_with fail
        go_meet
        exact ⟨rfl, HX⟩
    case rest =>
      obtain ⟨rfl, hX⟩ := hcut
      have HX := Lib.hid hX
      clear hX H2 c0
      have c0 := HX.out.1.c0
      go_upto_if 22 with (fail)
      go_cut [5] (fun s5 wc => s5 = .string (p5 m) ∧ IsM M0 m wc ∧ M0 < wc.heap.size ∧ Below w.heap.size w wc)
      case first =>
        have c2 := HX.out.1.c2
        by_cases h4 : m.k = 4
        · have hb4 : (m.k == 4) = true := by rw [h4]; rfl
          have e5 := Lib.hid (show p5 m = p4 m ++ ⟨#[32, 116, 111, 32]⟩ ++ m.bl from if_pos h4)
          have hz1 : (9223372036854775807 < (p4 m).size + 4) = False := eq_false (by have := p4_small HF.out.1; omega)
          have hz2 : (9223372036854775807 < (p4 m).size + 4 + m.bl.size) = False := eq_false (by have := p4_small HF.out.1; have := key_small (HF.out.1.bl h4); omega)
          clear h4
          go_wp2_with fail
          go_meet
          exact ⟨by rw [e5.out], HX.out⟩
        · have hb4 : (m.k == 4) = false := by simp [h4]
          have e5 := Lib.hid (show p5 m = p4 m from if_neg h4)
          clear h4
          go_wp2_with fail
          go_meet
          exact ⟨by rw [e5.out], HX.out⟩
      case rest =>
        obtain ⟨rfl, hX⟩ := hcut
        clear HX c0
        have HX := Lib.hid hX
        clear hX
        have c3 := HX.out.1.c3
        have c4 := HX.out.1.c4
        go_upto_region 7 with (fail)
        go_cut [5] (fun s5 wc => s5 = .string (p7 m) ∧ IsM M0 m wc ∧ M0 < wc.heap.size ∧ Below w.heap.size w wc)
        case first =>
          have hw1 := HF.out.1.w1
          have hw2 := HF.out.1.w2
          have hc1 := HF.out.1.c1
          have hc2 := HF.out.1.c2
          have hz1 : (9223372036854775807 < (p5 m).size + 8) = False := eq_false (by have := p5_small HF.out.1; omega)
          have hz2 : (9223372036854775807 < (p5 m).size + 8 + (itoaB m.wi).size) = False := eq_false (by have := p5_small HF.out.1; have := itoaB_small m.wi (by omega) (by omega); omega)
          have hz3 : (9223372036854775807 < (p5 m).size + 8 + (itoaB m.wi).size + 5) = False := eq_false (by have := p5_small HF.out.1; have := itoaB_small m.wi (by omega) (by omega); omega)
          have hz4 : (9223372036854775807 < (p5 m).size + 8 + (itoaB m.wi).size + 5 + (itoaB m.ca).size) = False := eq_false (by have := p5_small HF.out.1; have := itoaB_small m.wi (by omega) (by omega); have := itoaB_small m.ca (by omega) (by omega); omega)
          go_quiet ((go_at_call 26; exact Calls.quiet_of (num_q _ _ (by omega) (by omega))))
          go_wp2_with fail
          go_meet
          exact ⟨rfl, st_drewN HX.out nq⟩
        case rest =>
          obtain ⟨rfl, hX⟩ := hcut
          clear HX c3 c4
          have HX := Lib.hid hX
          clear hX
          have c5 := HX.out.1.c5
          go_upto_if 41 with (fail)
          go_cut [5] (fun s5 wc => s5 = .string (p8 m) ∧ IsM M0 m wc ∧ M0 < wc.heap.size ∧ Below w.heap.size w wc)
          case first =>
            have hl1 := HF.out.1.l1
            have hl2 := HF.out.1.l2
            have hz1 : (9223372036854775807 < (p7 m).size + 7) = False := eq_false (by have := p7_small HF.out.1; omega)
            have hz2 : (9223372036854775807 < (p7 m).size + 7 + (itoaB m.le).size) = False := eq_false (by have := p7_small HF.out.1; have := itoaB_small m.le (by omega) (by omega); omega)
            by_cases h4 : m.le = -1099511627776
            · have hb4 : (m.le != -1099511627776) = false := by rw [h4]; rfl
              have e5 := Lib.hid (show p8 m = p7 m from if_neg (fun h => h h4))
              clear h4
              go_wp2_with fail
              go_meet
              exact ⟨by rw [e5.out], HX.out⟩
            · have hb4 : (m.le != -1099511627776) = true := bne_iff_ne.2 h4
              have e5 := Lib.hid (show p8 m = p7 m ++ ⟨#[32, 108, 101, 97, 115, 116, 32]⟩ ++ itoaB m.le from if_pos h4)
              clear h4
              go_wp2_with fail
              refine (num_q m.le _ (by omega) (by omega)).mono ?_
              rintro e w' ⟨rfl, nq, rfl⟩
              go_wp2_with fail
              go_meet
              exact ⟨by rw [e5.out], st_drewN HX.out nq⟩
          case rest =>
            obtain ⟨rfl, hX⟩ := hcut
            clear HX c5
            have HX := Lib.hid hX
            clear hX
            have c6 := HX.out.1.c6
            go_upto_if 50 with (fail)
            go_cut [5] (fun s5 wc => s5 = .string (p10 m) ∧ IsM M0 m wc ∧ M0 < wc.heap.size ∧ Below w.heap.size w wc)
            case first =>
              have hl1 := HF.out.1.b1
              have hl2 := HF.out.1.b2
              have hz1 : (9223372036854775807 < (p8 m).size + 8) = False := eq_false (by have := p8_small HF.out.1; omega)
              have hz2 : (9223372036854775807 < (p8 m).size + 8 + (itoaB m.be).size) = False := eq_false (by have := p8_small HF.out.1; have := itoaB_small m.be (by omega) (by omega); omega)
              by_cases h4 : m.be = 0
              · have hb4 : (m.be != 0) = false := by rw [h4]; rfl
                have e5 := Lib.hid (show p10 m = p8 m from if_neg (fun h => h h4))
                clear h4
                go_wp2_with fail
                go_meet
                exact ⟨by rw [e5.out], HX.out⟩
              · have hb4 : (m.be != 0) = true := bne_iff_ne.2 h4
                have e5 := Lib.hid (show p10 m = p8 m ++ ⟨#[32, 98, 101, 102, 111, 114, 101, 32]⟩ ++ itoaB m.be from if_pos h4)
                clear h4
                go_wp2_with fail
                refine (num_q m.be _ (by omega) (by omega)).mono ?_
                rintro e w' ⟨rfl, nq, rfl⟩
                go_wp2_with fail
                go_meet
                exact ⟨by rw [e5.out], st_drewN HX.out nq⟩
            case rest =>
              obtain ⟨rfl, hX⟩ := hcut
              clear HX c6
              have HX := Lib.hid hX
              clear hX
              go_wp2_with fail
              go_ret2
              rw [HF.out.2]
              exact ⟨rfl, HX.out.2.2⟩
  · have hne : (m.err != 0) = true := bne_iff_ne.2 he
    have hans : printM m = (⟨#[]⟩, m.err) := if_pos he
    have HA := Lib.hid hans
    clear he hans
    go_wp2_with fail
    go_ret2
    rw [HA.out]
    exact ⟨rfl, H2.out.2.2⟩
end Go.Proofs.YtbiolondnkeakaaDoor
