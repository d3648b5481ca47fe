/- The walk of metric.Print. -/
import Derived.Test.YtbiolondnkeakaaDoorRound
import Derived.Deep.RegionHeld3
import Derived.Deep.AppendLies
import Derived.Deep.DeepCutAuto
import Derived.Lib.Join
namespace Go.Proofs.YtbiolondnkeakaaDoor
open Go.RowKit Plain

theorem join_words {m : Met} (h : Fine m) : Lib.join ((wordsOf m).map (·.data.toList)) [32] = (p10 m).data.toList := by
  unfold wordsOf tail1 tail2 tail3 tail4 p10 p8 p7 p5 p4
  have _ := h.k1
  by_cases h4 : m.k = 4 <;> by_cases hl : m.le = -1099511627776 <;> by_cases hb : m.be = 0 <;> simp [h4, hl, hb, Lib.join_cons, Lib.joinTail, wOf, wTo, wWithin, wCap, wLeast, wBefore]

theorem extraJ : Builder.Extra Tryd.prog Tryd.laysJoin_ren := {
  sizeBuilder := by kernel_rfl
  liesBuilder := by kernel_rfl
  t5 := Tryd.underlying5
  a5 := Tryd.isAgg5
  z5 := Tryd.sizeOf5
  v5 := Tryd.zeroValue5
  infoByte := by kernel_rfl
  cellsByte := by kernel_rfl
  sizeByte := by kernel_rfl
  neB5 := by decide }
theorem info9 : (Tryd.prog.info? 9).map (fun i => (i.zero, i.size, i.bytes)) = some (some (.string ⟨#[]⟩), 1, 16) := by kernel_rfl
/-- The metric's block, whatever else is made. -/
def QM (w0 : World) (M0 : Nat) (m : Met) (W : World) : Prop := IsM M0 m W ∧ M0 < W.heap.size ∧ Below w0.heap.size w0 W
theorem QM.over {w0 W W' : World} {M0 : Nat} {m : Met} (h : QM w0 M0 m W) (hb : Below W.heap.size W W') : QM w0 M0 m W' :=
  ⟨h.1.grown (b := W.heap.size) (gb_below _ hb) h.2.1 (Nat.ne_of_lt h.2.1), Nat.lt_of_lt_of_le h.2.1 hb.size, h.2.2.trans (hb.mono h.2.2.size)⟩
theorem QM.drew {w0 W : World} {M0 : Nat} {m : Met} (h : QM w0 M0 m W) : QM w0 M0 m W.drew := h.over (Below.refl _ _).drew
theorem QM.alloc {w0 W : World} {M0 : Nat} {m : Met} (h : QM w0 M0 m W) (o : Obj) : QM w0 M0 m (W.alloc o) := h.over ((Below.refl _ _).alloc (Nat.le_refl _) _)
theorem QM.row {w0 W W' : World} {M0 : Nat} {m : Met} {v : Value} (h : QM w0 M0 m W) (hg : W.grownBy W' v.ownBlock) (hv : ∀ k, v.ownBlock = some k → M0 + 1 ≤ k) (hM : w0.heap.size ≤ M0) : QM w0 M0 m W' := by
  have hne : some M0 ≠ v.ownBlock := fun e => by have := hv M0 e.symm; omega
  have c : ∀ i, W'.cell? ⟨M0, i, none⟩ = W.cell? ⟨M0, i, none⟩ := fun i => World.cell?_of_block (w := W) (hg.block M0 h.2.1 hne)
  have f : ∀ i, W'.frozen? ⟨M0, i, none⟩ = W.frozen? ⟨M0, i, none⟩ := fun i => World.frozen?_of_block (w := W) (hg.block M0 h.2.1 hne)
  exact ⟨⟨(c 0).trans h.1.c0, (c 1).trans h.1.c1, (c 2).trans h.1.c2, (c 3).trans h.1.c3, (c 4).trans h.1.c4, (c 5).trans h.1.c5, (c 6).trans h.1.c6, fun i => (f i).trans (h.1.fr i)⟩, Nat.lt_of_lt_of_le h.2.1 hg.size,
    h.2.2.grown hg h.2.2.size (fun k hk => by have := hv k hk; omega)⟩
/-- The words so far. -/
def PR (w0 : World) (M0 : Nat) (m : Met) (v : Value) (xs : List ByteArray) (W : World) : Prop := QM w0 M0 m W ∧ W.ownsRow (M0 + 1) 9 1 v xs.length (xs.map Value.string)
theorem row_over {W W' : World} {B : Nat} {v : Value} {n : Nat} {xs : List Value} (h : W.ownsRow B 9 1 v n xs) (hb : Below W.heap.size W W') : W'.ownsRow B 9 1 v n xs :=
  h.kept (row := none) ⟨hb.os, hb.tape, hb.output, hb.size, fun k hk _ => hb.block k hk⟩ (by cases hv : v.ownBlock <;> simp)
theorem PR.over {w0 W W' : World} {M0 : Nat} {m : Met} {v : Value} {xs : List ByteArray} (h : PR w0 M0 m v xs W) (hb : Below W.heap.size W W') : PR w0 M0 m v xs W' := ⟨h.1.over hb, row_over h.2 hb⟩
theorem PR.grow {w0 W W1 : World} {M0 : Nat} {m : Met} {v v' : Value} {xs : List ByteArray} (h : PR w0 M0 m v xs W) (ys : List ByteArray) (hg : W.grownBy W1 v.ownBlock) (hM : w0.heap.size ≤ M0)
    (ho : W1.ownsRow (M0 + 1) 9 1 v' (xs.length + ys.length) (xs.map Value.string ++ ys.map Value.string)) : PR w0 M0 m v' (xs ++ ys) W1 :=
  ⟨h.1.row hg (fun k hk => (h.2.lt k hk).1) hM, by rw [List.length_append, List.map_append]; exact ho⟩
theorem PR.lit {w0 W : World} {M0 : Nat} {m : Met} (h : QM w0 M0 m W) (xs : List ByteArray) (hn : xs.length ≤ maxLen) : PR w0 M0 m (.slice (some ⟨W.heap.size, 0, none⟩) xs.length xs.length) xs (W.alloc (.cells (xs.map Value.string).toArray 9)) :=
  ⟨h.alloc _, by have := World.ownsRow_lit (base := M0 + 1) (e := 9) (size := 1) W (xs.map Value.string).toArray xs.length h.2.1 hn (by simp); simpa using this⟩

theorem kinds_q {w0 W : World} {M0 : Nat} {m : Met} {R : Prop} (hq : Hid (QM w0 M0 m W) ∧ R) : Calls Tryd.prog 31 #[] W fun e w' => ∃ r, e = .returned (.map (some r)) ∧ w'.heap[r]? = some (.map kindsM 4) ∧
    (Hid (QM w0 M0 m w') ∧ w'.cell? ⟨M0, 0, none⟩ = some (.int .i64 m.k) ∧ w'.cell? ⟨M0, 1, none⟩ = some (.string m.nm)) := by
  refine (kinds_abs W).mono ?_
  rintro e w' ⟨r, rfl, hb, hh⟩
  have q := hq.1.out.over hb
  exact ⟨r, rfl, hh, q, q.1.c0, q.1.c1⟩
theorem run_field0 (nm : ByteArray) (f : Nat) (w : World) : (Instr.field 68 (.agg #[.string nm, .func (.func f) #[] #[]]) 0).run Tryd.prog w = .ok (.string nm) w := by
  simp [Instr.field, asAgg, go_sem]
theorem keepQ {w0 W : World} {M0 : Nat} {m : Met} (h : Hid (QM w0 M0 m W)) : Hid (QM w0 M0 m W) ∧ W.cell? ⟨M0, 0, none⟩ = some (.int .i64 m.k) ∧ W.cell? ⟨M0, 1, none⟩ = some (.string m.nm) := ⟨h, h.out.1.c0, h.out.1.c1⟩
theorem keepQa {w0 W : World} {M0 : Nat} {m : Met} {R : Prop} (h : Hid (QM w0 M0 m W) ∧ R) (o : Obj) : Hid (QM w0 M0 m (W.alloc o)) ∧ (W.alloc o).cell? ⟨M0, 0, none⟩ = some (.int .i64 m.k) ∧ (W.alloc o).cell? ⟨M0, 1, none⟩ = some (.string m.nm) := keepQ (h.1.out.alloc o)
theorem num_any (n : Int) (w : World) (hT : Tabs w) (h0 : -9223372036854775808 ≤ n) (h1 : n ≤ 9223372036854775807) : Calls Tryd.prog 48 #[.int .i64 n] w fun e w' => e = .returned (.string (itoaB n)) ∧ Below w.heap.size w w' :=
  text_Number.calls n (itoaB n) w hT (if_pos ⟨h0, h1⟩)
theorem num_q7 {w0 W : World} {M0 : Nat} {m : Met} {v : Value} {xs : List ByteArray} {R : Prop} (n : Int) (hT : Hid (Tabs w0)) (hq : Hid (QM w0 M0 m W) ∧ R) (hr : Hid (W.ownsRow (M0 + 1) 9 1 v xs.length (xs.map Value.string))) (h0 : -9223372036854775808 ≤ n) (h1 : n ≤ 9223372036854775807) :
    Calls Tryd.prog 48 #[.int .i64 n] W fun e w' => e = .returned (.string (itoaB n)) ∧ (Hid (QM w0 M0 m w') ∧ w'.cell? ⟨M0, 3, none⟩ = some (.int .i64 m.wi) ∧ w'.cell? ⟨M0, 4, none⟩ = some (.int .i64 m.ca)) ∧ Hid (w'.ownsRow (M0 + 1) 9 1 v xs.length (xs.map Value.string)) := by
  refine (num_any n W (Tabs.below hT.out hq.1.out.2.2) h0 h1).mono ?_
  rintro e w' ⟨rfl, hb⟩
  have q := hq.1.out.over hb
  exact ⟨rfl, ⟨q, q.1.c3, q.1.c4⟩, row_over hr.out hb⟩
theorem keepQ7 {w0 W : World} {M0 : Nat} {m : Met} (h : Hid (QM w0 M0 m W)) : Hid (QM w0 M0 m W) ∧ W.cell? ⟨M0, 3, none⟩ = some (.int .i64 m.wi) ∧ W.cell? ⟨M0, 4, none⟩ = some (.int .i64 m.ca) := ⟨h, h.out.1.c3, h.out.1.c4⟩
theorem num_pr {w0 W : World} {M0 : Nat} {m : Met} {v : Value} {xs : List ByteArray} (n : Int) (hT : Hid (Tabs w0)) (hp : Hid (PR w0 M0 m v xs W)) (h0 : -9223372036854775808 ≤ n) (h1 : n ≤ 9223372036854775807) :
    Calls Tryd.prog 48 #[.int .i64 n] W fun e w' => e = .returned (.string (itoaB n)) ∧ Hid (PR w0 M0 m v xs w') := by
  refine (num_any n W (Tabs.below hT.out hp.out.1.2.2) h0 h1).mono ?_
  rintro e w' ⟨rfl, hb⟩
  exact ⟨rfl, hp.out.over hb⟩

theorem keepQ7a {w0 W : World} {M0 : Nat} {m : Met} {R : Prop} (h : Hid (QM w0 M0 m W) ∧ R) (o : Obj) : Hid (QM w0 M0 m (W.alloc o)) ∧ (W.alloc o).cell? ⟨M0, 3, none⟩ = some (.int .i64 m.wi) ∧ (W.alloc o).cell? ⟨M0, 4, none⟩ = some (.int .i64 m.ca) := keepQ7 (h.1.out.alloc o)
theorem QM.rowS {w0 W W' : World} {M0 n : Nat} {m : Met} {v : Value} {xs : List Value} {R : Prop} (hg : W.grownBy W' v.ownBlock) (hr : W.ownsRow (M0 + 1) 9 1 v n xs) (hM : Hid (w0.heap.size ≤ M0)) (hq : Hid (QM w0 M0 m W) ∧ R) : Hid (QM w0 M0 m W') :=
  hq.1.out.row hg (fun k hk => (hr.lt k hk).1) hM.out
theorem baseQ {w0 W : World} {M0 : Nat} {m : Met} {R : Prop} (hq : Hid (QM w0 M0 m W) ∧ R) : M0 + 1 ≤ W.heap.size := hq.1.out.2.1
def w3 (m : Met) : List ByteArray := [kindName m.k, wOf, m.nm]
def w5 (m : Met) : List ByteArray := if m.k = 4 then w3 m ++ [wTo, m.bl] else w3 m
def w7 (m : Met) : List ByteArray := w5 m ++ [wWithin, itoaB m.wi, wCap, itoaB m.ca]
def w8 (m : Met) : List ByteArray := if m.le ≠ -1099511627776 then w7 m ++ [wLeast, itoaB m.le] else w7 m
def w10 (m : Met) : List ByteArray := if m.be ≠ 0 then w8 m ++ [wBefore, itoaB m.be] else w8 m
theorem w10_words (m : Met) : w10 m = wordsOf m := by
  unfold w10 w8 w7 w5 w3 wordsOf tail1 tail2 tail3 tail4
  by_cases h4 : m.k = 4 <;> by_cases hl : m.le = -1099511627776 <;> by_cases hb : m.be = 0 <;> simp [h4, hl, hb]
theorem w5_len (m : Met) : (w5 m).length ≤ 5 := by unfold w5; split <;> simp [w3]
theorem w3_len (m : Met) : (w3 m).length ≤ 3 := by simp [w3]
theorem w7_len (m : Met) : (w7 m).length ≤ 9 := by have := w5_len m; unfold w7; simp; omega
theorem w8_len (m : Met) : (w8 m).length ≤ 11 := by have := w7_len m; unfold w8; split <;> simp <;> omega
theorem w10_len (m : Met) : (w10 m).length ≤ 13 := by have := w8_len m; unfold w10; split <;> simp <;> omega

attribute [local go_sem ↓] Go.wp_at_zero Go.wp_at_succ
set_option maxRecDepth 100000 in
set_option maxHeartbeats 8000000 in
theorem print_calls (m : Met) (w : World) (hT : Tabs w) (h1 : m.nm.size ≤ 9223372036854775000) (h2 : m.bl.size ≤ 9223372036854775000) :
    Calls Tryd.prog 23 #[m.val] w fun e w' => e = .returned (.tuple #[.string (printM m).1, .int .i64 (printM m).2]) ∧ Below w.heap.size w w' := by
  have HT := Lib.hid hT
  clear hT
  show Calls Tryd.prog 23 #[.agg #[.int .i64 m.k, .string m.nm, .string m.bl, .int .i64 m.wi, .int .i64 m.ca, .int .i64 m.le, .int .i64 m.be]] w _
  go_enter Tryd.func23, Tryd.ntmps23
  go_wp2_with fail
  have hM1 := val_start w m
  obtain ⟨W1, hW1, hb1, hs1⟩ : ∃ W1, w.alloc (.cells #[.int .i64 m.k, .string m.nm, .string m.bl, .int .i64 m.wi, .int .i64 m.ca, .int .i64 m.le, .int .i64 m.be] 29) = W1 ∧ Below w.heap.size w W1 ∧ w.heap.size < W1.heap.size := ⟨_, rfl, (Below.refl _ _).alloc (Nat.le_refl _) _, by simp⟩
  rw [hW1] at hM1 ⊢
  obtain ⟨M0, hM0⟩ : ∃ M0, w.heap.size = M0 := ⟨_, rfl⟩
  have hQ1 : QM w M0 m W1 := by rw [← hM0]; exact ⟨hM1, hs1, hb1⟩
  rw [hM0]
  have HM0 := Lib.hid (Nat.le_of_eq hM0)
  have HQ1 := Lib.hid hQ1
  clear hM1 hb1 hs1 hW1 hM0 hQ1
  refine (check_calls m.k m.nm m.bl m.wi m.ca m.le m.be W1 (Tabs.below HT.out HQ1.out.2.2) (by omega) (by omega)).mono ?_
  rintro e w2 ⟨rfl, hb2⟩
  have HQ := Lib.hid (HQ1.out.over hb2)
  clear hb2 HQ1
  have HE := Lib.hid (show checkP m.k m.nm m.bl m.wi m.ca m.le m.be = m.err from rfl)
  obtain ⟨er, her⟩ : ∃ er, checkP m.k m.nm m.bl m.wi m.ca m.le m.be = er := ⟨_, rfl⟩
  rw [her] at HE ⊢
  clear her
  by_cases he : er = 0
  · have hne : (er != 0) = false := by rw [he]; rfl
    have he' : m.err = 0 := HE.out.symm.trans he
    have HF := Lib.hid (And.intro (fine_iff.1 he') (show printM m = (p10 m, 0) from if_neg (fun h => h he')))
    clear he he'
    have c0 := HQ.out.1.c0
    have c1 := HQ.out.1.c1
    obtain ⟨i0, hi, hz0, hz1, hz2⟩ := info_parts info9
    go_upto_region 4 with (fail)
    go_cut [5] (fun s5 wc => PR w M0 m s5 (w3 m) wc)
    case first =>
      have hf0 := run_field0
      have hkk : 1 ≤ m.k ∧ m.k ≤ 4 := ⟨HF.out.1.k1, HF.out.1.k4⟩
      have HK := Lib.hid hkk
      clear hkk c0 c1
      go_region_held3 (fun w' => Hid (QM w M0 m w') ∧ w'.cell? ⟨M0, 0, none⟩ = some (.int .i64 m.k) ∧ w'.cell? ⟨M0, 1, none⟩ = some (.string m.nm)) (first | assumption | exact keepQ HQ.out.drew | exact keepQa (by assumption) _)
        (first | (go_at_call 31; refine (kinds_q (by assumption)).mono ?_; rintro e w' ⟨r, rfl, hh, hS⟩; have hl := run_lookF HK.out hh))
      all_goals
        go_wp2_with fail
        go_meet
        exact PR.lit hS.1.out (w3 m) (by unfold maxLen w3; simp)
    case rest =>
      have HP := Lib.hid hcut
      clear hcut HQ c0 c1
      have c0 := HP.out.1.1.c0
      go_upto_if 21 with (fail)
      go_cut [5] (fun s5 wc => PR w M0 m s5 (w5 m) wc)
      case first =>
        have c2 := HP.out.1.1.c2
        by_cases h4 : m.k = 4
        · have hb4 : (m.k == 4) = true := by rw [h4]; rfl
          have e5 := Lib.hid (show w5 m = w3 m ++ [wTo, m.bl] from if_pos h4)
          clear h4
          go_wp2_with (at_builtin; refine wpList_append_own _ rfl _ _ 33 rfl (M0 + 1) 9 i0 (.string ⟨#[]⟩) 1 16 Tryd.underlying33 hi hz0 hz1 hz2 rfl (by decide) _ _ _ rfl (HP.out.2.alloc _) ⟨wc.heap.size, 0, none⟩ 2 2 [.string wTo, .string m.bl] rfl ?c1 ?c2 ?c3 ?c4 ?c5 ?c6 ?_)
          case c1 => rfl
          case c2 => exact World.news_of_block (heap_alloc_new _ _)
          case c3 => intro u hu; simp at hu; rcases hu with rfl | rfl <;> rfl
          case c4 => have := w3_len m; unfold maxLen; omega
          case c5 => have := w3_len m; omega
          case c6 => have := HP.out.1.2.1; simp; omega
          intro v' wn hown hgrow _
          have HN := Lib.hid ((HP.out.over ((Below.refl _ _).alloc (Nat.le_refl _) _)).grow [wTo, m.bl] hgrow HM0.out hown)
          clear hown hgrow
          go_wp2_with fail
          go_meet
          rw [e5.out]
          exact HN.out
        · have hb4 : (m.k == 4) = false := by simp [h4]
          have e5 := Lib.hid (show w5 m = w3 m from if_neg h4)
          clear h4
          go_wp2_with fail
          go_meet
          rw [e5.out]
          exact HP.out
      case rest =>
        have HP5 := Lib.hid hcut
        clear hcut HP c0
        go_upto_region 7 with (fail)
        go_cut [5] (fun s5 wc => PR w M0 m s5 (w7 m) wc)
        case first =>
          have hr0 := Lib.hid HP5.out.2
          have HQ7 := Lib.hid HP5.out.1
          have hw1 := HF.out.1.w1
          have hw2 := HF.out.1.w2
          have hc1 := HF.out.1.c1
          have hc2 := HF.out.1.c2
          have hrd : Hid (wc.drew.ownsRow (M0 + 1) 9 1 u5 (w5 m).length ((w5 m).map Value.string)) := row_over HP5.out.2 (Below.refl _ _).drew
          go_region_held3 (fun w' => Hid (QM w M0 m w') ∧ w'.cell? ⟨M0, 3, none⟩ = some (.int .i64 m.wi) ∧ w'.cell? ⟨M0, 4, none⟩ = some (.int .i64 m.ca)) (first | assumption | exact keepQ7 HQ7.out.drew | exact keepQ7a (by assumption) _ | exact keepQ7 HAPP)
            (first | (go_at_call 48; refine (num_q7 _ HT (by assumption) (by assumption) (by omega) (by omega)).mono ?_; rintro e w' ⟨rfl, hS, hr⟩) | (refine step_append_lies _ (by rfl) _ _ 33 (by rfl) (M0 + 1) 9 i0 (.string ⟨#[]⟩) 1 16 Tryd.underlying33 hi hz0 hz1 hz2 rfl (by omega) _ (w5 m).length ((w5 m).map Value.string) (by rfl) (World.ownsRow.alloc (Hid.out (by assumption)) _) ⟨_, 0, none⟩ 4 4 [.string wWithin, .string (itoaB m.wi), .string wCap, .string (itoaB m.ca)] (by rfl) (by rfl) (World.news_of_block (heap_alloc_new _ _)) (by intro u hu; simp at hu; rcases hu with rfl | rfl | rfl | rfl <;> rfl) (by omega) (by have := w5_len m; unfold maxLen; omega) (by have := w5_len m; omega) (baseQ (w0 := w) (m := m) (by assumption)) _ (by rfl) ?_; intro g cap w1 hown1 hgrow hat hlt; have HAPP := QM.rowS (w0 := w) (m := m) hgrow (World.ownsRow.alloc (Hid.out (by assumption)) _) HM0 (by assumption)))
          have HO := Lib.hid hown1
          clear hown1 hgrow hat hlt
          go_wp2_with fail
          go_meet
          exact ⟨HAPP.out, by unfold w7; rw [List.length_append, List.map_append]; exact HO.out⟩
        case rest =>
          have HP7 := Lib.hid hcut
          clear hcut HP5
          have c5 := HP7.out.1.1.c5
          go_upto_if 38 with (fail)
          go_cut [5] (fun s5 wc => PR w M0 m s5 (w8 m) wc)
          case first =>
            have hl1 := HF.out.1.l1
            have hl2 := HF.out.1.l2
            by_cases h4 : m.le = -1099511627776
            · have hb4 : (m.le != -1099511627776) = false := by rw [h4]; rfl
              have e5 := Lib.hid (show w8 m = w7 m from if_neg (fun h => h h4))
              clear h4
              go_wp2_with fail
              go_meet
              rw [e5.out]
              exact HP7.out
            · have hb4 : (m.le != -1099511627776) = true := bne_iff_ne.2 h4
              have e5 := Lib.hid (show w8 m = w7 m ++ [wLeast, itoaB m.le] from if_pos h4)
              clear h4
              go_wp2_with fail
              refine (num_pr m.le HT HP7 (by omega) (by omega)).mono ?_
              rintro e wa ⟨rfl, HPA⟩
              go_wp2_with (at_builtin; refine wpList_append_own _ rfl _ _ 33 rfl (M0 + 1) 9 i0 (.string ⟨#[]⟩) 1 16 Tryd.underlying33 hi hz0 hz1 hz2 rfl (by decide) _ _ _ rfl (HPA.out.2.alloc _) ⟨wa.heap.size, 0, none⟩ 2 2 [.string wLeast, .string (itoaB m.le)] rfl ?c1 ?c2 ?c3 ?c4 ?c5 ?c6 ?_)
              case c1 => rfl
              case c2 => exact World.news_of_block (heap_alloc_new _ _)
              case c3 => intro u hu; simp at hu; rcases hu with rfl | rfl <;> rfl
              case c4 => have := w7_len m; unfold maxLen; omega
              case c5 => have := w7_len m; omega
              case c6 => have := HPA.out.1.2.1; simp; omega
              intro v' wn hown hgrow _
              have HN := Lib.hid ((HPA.out.over ((Below.refl _ _).alloc (Nat.le_refl _) _)).grow [wLeast, itoaB m.le] hgrow HM0.out hown)
              clear hown hgrow
              go_wp2_with fail
              go_meet
              rw [e5.out]
              exact HN.out
          case rest =>
            have HP8 := Lib.hid hcut
            clear hcut HP7 c5
            have c6 := HP8.out.1.1.c6
            go_upto_if 47 with (fail)
            go_cut [5] (fun s5 wc => PR w M0 m s5 (w10 m) wc)
            case first =>
              have hl1 := HF.out.1.b1
              have hl2 := HF.out.1.b2
              by_cases h4 : m.be = 0
              · have hb4 : (m.be != 0) = false := by rw [h4]; rfl
                have e5 := Lib.hid (show w10 m = w8 m from if_neg (fun h => h h4))
                clear h4
                go_wp2_with fail
                go_meet
                rw [e5.out]
                exact HP8.out
              · have hb4 : (m.be != 0) = true := bne_iff_ne.2 h4
                have e5 := Lib.hid (show w10 m = w8 m ++ [wBefore, itoaB m.be] from if_pos h4)
                clear h4
                go_wp2_with fail
                refine (num_pr m.be HT HP8 (by omega) (by omega)).mono ?_
                rintro e wa ⟨rfl, HPA⟩
                go_wp2_with (at_builtin; refine wpList_append_own _ rfl _ _ 33 rfl (M0 + 1) 9 i0 (.string ⟨#[]⟩) 1 16 Tryd.underlying33 hi hz0 hz1 hz2 rfl (by decide) _ _ _ rfl (HPA.out.2.alloc _) ⟨wa.heap.size, 0, none⟩ 2 2 [.string wBefore, .string (itoaB m.be)] rfl ?c1 ?c2 ?c3 ?c4 ?c5 ?c6 ?_)
                case c1 => rfl
                case c2 => exact World.news_of_block (heap_alloc_new _ _)
                case c3 => intro u hu; simp at hu; rcases hu with rfl | rfl <;> rfl
                case c4 => have := w8_len m; unfold maxLen; omega
                case c5 => have := w8_len m; omega
                case c6 => have := HPA.out.1.2.1; simp; omega
                intro v' wn hown hgrow _
                have HN := Lib.hid ((HPA.out.over ((Below.refl _ _).alloc (Nat.le_refl _) _)).grow [wBefore, itoaB m.be] hgrow HM0.out hown)
                clear hown hgrow
                go_wp2_with fail
                go_meet
                rw [e5.out]
                exact HN.out
            case rest =>
              obtain ⟨hq, hrow⟩ := hcut
              rw [w10_words] at hrow
              have hpos : 0 < (wordsOf m).length := by unfold wordsOf; simp
              have hwl : (wordsOf m).length ≤ 13 := by rw [← w10_words]; exact w10_len m
              have hjn : (Lib.join ((wordsOf m).map (·.data.toList)) [32]).length ≤ 140737488355328 := by
                rw [join_words HF.out.1, Array.length_toList]
                have := p10_small HF.out.1
                show (p10 m).size ≤ _
                omega
              clear HP8 c6
              rcases hrow.2 with ⟨_, h0⟩ | ⟨g, cap, cur, rfl, hB, hg, hle, _⟩
              · omega
              · have hcells : ∀ (j : Nat) x, (wordsOf m)[j]? = some x → wc.cell? ⟨g, 0 + j, none⟩ = some (.string x) := fun j x hx => by
                  have hj : j < (wordsOf m).length := (List.getElem?_eq_some_iff.1 hx).1
                  rw [Nat.zero_add, hrow.cellAt j (by omega), List.getElem?_map, hx]
                  rfl
                have hgl : g < wc.heap.size := (Array.getElem?_eq_some_iff.1 hg).1
                have HJ := Lib.hid (And.intro hcells (And.intro hgl (And.intro hle (And.intro hjn hq))))
                clear hcells hgl hle hjn hq hrow hg hB
                go_wp2_with fail
                refine (Any.strings_Join Tryd.laysJoin extraJ g 0 cap (wordsOf m) ⟨#[32]⟩ wc HJ.out.1 HJ.out.2.1 (by omega) HJ.out.2.2.1 HJ.out.2.2.2.1).mono ?_
                rintro e we ⟨rfl, hbe⟩
                have HBE := Lib.hid (HJ.out.2.2.2.2.2.2.trans (hbe.mono HJ.out.2.2.2.2.2.2.size))
                clear hbe
                go_wp2_with fail
                go_ret2
                rw [HF.out.2]
                refine ⟨?_, HBE.out⟩
                have e : (⟨(Lib.join ((wordsOf m).map (·.data.toList)) [32]).toArray⟩ : ByteArray) = p10 m := by
                  rw [join_words HF.out.1]
                exact congrArg (fun z => Ending.returned (.tuple #[.string z, .int .i64 0])) e
  · have hne : (er != 0) = true := bne_iff_ne.2 he
    have hans : printM m = (⟨#[]⟩, m.err) := if_pos (fun h => he (HE.out.trans h))
    have HA := Lib.hid hans
    clear he hans
    go_wp2_with fail
    go_ret2
    rw [HA.out, HE.out]
    exact ⟨rfl, HQ.out.2.2⟩
end Go.Proofs.YtbiolondnkeakaaDoor
