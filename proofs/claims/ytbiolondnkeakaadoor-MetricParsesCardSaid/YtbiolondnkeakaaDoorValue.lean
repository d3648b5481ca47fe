/- The walk of metric.Value. -/
import Derived.Test.YtbiolondnkeakaaDoorEv
import Derived.Test.YtbiolondnkeakaaDoorParseM
import Derived.Deep.RegionHeld3
import Derived.Deep.DeepCutAuto
import Derived.WalkLawsBesides
namespace Go.Proofs.YtbiolondnkeakaaDoor
open Go.RowKit Plain

def lim (c n : Int) : Int := max 0 (min n c)
/-- What an event adds. -/
def contrib (k : Int) (x : Ev) : Int := if k = 1 ∨ k = 4 then x.va else 1
def addV (m : Met) (acc : Int) (x : Ev) : Int := if x.nm = m.nm ∧ m.le ≤ x.va then wrap64 (acc + contrib m.k x) else acc
def addB (m : Met) (acc : Int) (x : Ev) : Int := if m.k = 4 ∧ x.nm = m.bl then wrap64 (acc + x.va) else acc
def valP (m : Met) (l : List Ev) : Int × Int := if m.err ≠ 0 then (0, 0) else (lim m.ca ((l.filter Ev.keep).foldl (addV m) 0), lim m.ca ((l.filter Ev.keep).foldl (addB m) 0))

theorem limit_calls (n c : Int) (M : Nat) (w : World) (h : w.cell? ⟨M, 4, none⟩ = some (.int .i64 c)) :
    Calls Tryd.prog 45 #[.int .i64 n, .pointer (some ⟨M, 0, none⟩)] w fun e w' => e = .returned (.int .i64 (lim c n)) ∧ w' = w := by
  go_enter Tryd.func45, Tryd.ntmps45
  go_wp2_with fail
  go_ret
  exact ⟨rfl, rfl⟩

theorem kinds_abs (w : World) : Calls Tryd.prog 31 #[] w fun e w' => ∃ r, e = .returned (.map (some r)) ∧ Below w.heap.size w w' ∧ w'.heap[r]? = some (.map kindsM 4) := by
  refine (kinds_calls w).mono ?_
  rintro e w' ⟨rfl, rfl⟩
  exact ⟨_, rfl, (Below.refl _ _).alloc (Nat.le_refl _) _, heap_alloc_new w _⟩
/-- The function of a kind. -/
def kindF (k : Int) : Nat := if k = 1 ∨ k = 4 then 52 else 53
def kindName (k : Int) : ByteArray := if k = 1 then wSum else if k = 2 then wCount else if k = 3 then wShare else wRatio
theorem run_lookF {w : World} {b : Nat} {n : Int} (hn : 1 ≤ n ∧ n ≤ 4) (hb : w.heap[b]? = some (.map kindsM 4)) :
    (Instr.lookup 64 (.map (some b)) (.int .i64 n) false).run Tryd.prog w = .ok (.agg #[.string (kindName n), .func (.func (kindF n)) #[] #[]]) w := by
  have h : ∃ i, Instr.findNow (.int .i64) (.int .i64 n) kindsM.toList 0 = some (some (i, .agg #[.string (kindName n), .func (.func (kindF n)) #[] #[]])) := by
    have : n = 1 ∨ n = 2 ∨ n = 3 ∨ n = 4 := by omega
    rcases this with rfl | rfl | rfl | rfl <;> exact ⟨_, rfl⟩
  obtain ⟨i, hf⟩ := h
  have k := MapKept.run_findKey (P := Tryd.prog) (w := w) Tryd.underlying3 hf
  have c := checkKey64 w n
  unfold Instr.lookup
  simp only [Sem.run_bind, run_underlying Tryd.underlying64, MapKept.run_getObj_map hb, Result.andThen, Sem.run_pure]
  rw [c]
  simp only
  rw [k]
  rfl
theorem fun_calls (k : Int) (x : Ev) (w : World) : Calls Tryd.prog (kindF k) #[x.val] w fun e w' => e = .returned (.int .i64 (contrib k x)) ∧ Below w.heap.size w w' := by
  unfold kindF contrib
  by_cases h : k = 1 ∨ k = 4
  · rw [if_pos h, if_pos h]; exact sum_calls x w
  · rw [if_neg h, if_neg h]; exact one_calls x w

structure VSt (w0 : World) (M0 : Nat) (m : Met) (b o : Nat) (L : List Ev) (W : World) : Prop where
  met : IsM M0 m W
  row : EvRow W b o L
  below : Below w0.heap.size w0 W
  lM : M0 < W.heap.size
  lb : b < W.heap.size
theorem VSt.over {w0 W W' : World} {M0 : Nat} {m : Met} {b o : Nat} {L : List Ev} (h : VSt w0 M0 m b o L W) (hb : Below W.heap.size W W') : VSt w0 M0 m b o L W' :=
  ⟨h.met.grown (b := W.heap.size) (gb_below _ hb) h.lM (Nat.ne_of_lt h.lM), h.row.over hb h.lb, h.below.trans (hb.mono h.below.size), Nat.lt_of_lt_of_le h.lM hb.size, Nat.lt_of_lt_of_le h.lb hb.size⟩

theorem fold_take {α β : Type} (f : β → α → β) (a : β) (L : List α) (k : Nat) (x : α) (h : L[k]? = some x) : (L.take (k + 1)).foldl f a = f ((L.take k).foldl f a) x := by
  rw [List.take_add_one, h, Option.toList_some, List.foldl_append]
  rfl
theorem beq_str_true {a b : ByteArray} (h : a = b) : (a.toList == b.toList) = true := by rw [h]; exact beq_self_eq_true _
theorem beq_str_false {a b : ByteArray} (h : ¬ a = b) : (a.toList == b.toList) = false := by
  rw [beq_eq_false_iff_ne, ByteArray.toList_eq, ByteArray.toList_eq]
  intro e
  exact h (ByteArray.ext (Array.toList_inj.1 e))
theorem run_field68 (nm : ByteArray) (f : Nat) (w : World) : (Instr.field 68 (.agg #[.string nm, .func (.func f) #[] #[]]) 1).run Tryd.prog w = .ok (.func (.func f) #[] #[]) w := by
  simp [Instr.field, asAgg, go_sem]
theorem callF (k : Int) (args : Array Value) (w : World) : (callFunc (kindF k) args).run Tryd.prog w = .ok (.enter (kindF k) args) w := by
  unfold kindF
  split <;> kernel_rfl
theorem kinds_in {W0 W : World} {Q : Prop} (hq : Hid (Below W0.heap.size W0 W) ∧ Q) : Calls Tryd.prog 31 #[] W fun e w' => ∃ r, e = .returned (.map (some r)) ∧ Hid (Below W0.heap.size W0 w') ∧ w'.heap[r]? = some (.map kindsM 4) := by
  have h := hq.1
  refine (kinds_abs W).mono ?_
  rintro e w' ⟨r, rfl, hb, hh⟩
  exact ⟨r, rfl, h.out.trans (hb.mono h.out.size), hh⟩
theorem fun_in {W0 W : World} {Q : Prop} (k : Int) (x : Ev) (hq : Hid (Below W0.heap.size W0 W) ∧ Q) : Calls Tryd.prog (kindF k) #[.agg #[.string x.cl, .int .i64 x.sq, .int .i64 x.kd, .int .i64 x.ti, .string x.id, .string x.nm, .string x.ot, .int .i64 x.vr, .int .i64 x.ar, .int .i64 x.va]] W fun e w' => e = .returned (.int .i64 (contrib k x)) ∧ Hid (Below W0.heap.size W0 w') := by
  have h := hq.1
  refine (fun_calls k x W).mono ?_
  rintro e w' ⟨rfl, hb⟩
  exact ⟨rfl, h.out.trans (hb.mono h.out.size)⟩
/-- What the round's cells hold, in a world in which all stands that stood. -/
theorem keepS {W0 W : World} {X M0 : Nat} {x : Ev} {k : Int} (hc : EvRow W0 X 0 [x]) (hX : X < W0.heap.size) (hd : W0.cell? ⟨M0, 0, none⟩ = some (.int .i64 k)) (hM : M0 < W0.heap.size) (h : Hid (Below W0.heap.size W0 W)) :
    Hid (Below W0.heap.size W0 W) ∧ W.cell? ⟨X, 0, none⟩ = some (.string x.cl) ∧ W.cell? ⟨X, 1, none⟩ = some (.int .i64 x.sq) ∧ W.cell? ⟨X, 2, none⟩ = some (.int .i64 x.kd) ∧ W.cell? ⟨X, 3, none⟩ = some (.int .i64 x.ti) ∧
    W.cell? ⟨X, 4, none⟩ = some (.string x.id) ∧ W.cell? ⟨X, 5, none⟩ = some (.string x.nm) ∧ W.cell? ⟨X, 6, none⟩ = some (.string x.ot) ∧ W.cell? ⟨X, 7, none⟩ = some (.int .i64 x.vr) ∧
    W.cell? ⟨X, 8, none⟩ = some (.int .i64 x.ar) ∧ W.cell? ⟨X, 9, none⟩ = some (.int .i64 x.va) ∧ W.cell? ⟨M0, 0, none⟩ = some (.int .i64 k) := by
  have e := (hc.over h.out hX).at (j := 0) (x := x) rfl
  simp only [Nat.zero_mul, Nat.zero_add] at e
  obtain ⟨e0, e1, e2, e3, e4, e5, e6, e7, e8, e9⟩ := e
  exact ⟨h, e0, e1, e2, e3, e4, e5, e6, e7, e8, e9, (h.out.cell hM).trans hd⟩
theorem val_start (w : World) (m : Met) : IsM w.heap.size m (w.alloc (.cells #[.int .i64 m.k, .string m.nm, .string m.bl, .int .i64 m.wi, .int .i64 m.ca, .int .i64 m.le, .int .i64 m.be] 29)) :=
  ⟨by simp, by simp, by simp, by simp, by simp, by simp, by simp, fun i => by simp⟩

set_option maxRecDepth 100000 in
set_option maxHeartbeats 8000000 in
theorem value_calls (m : Met) (v : Value) (l : List Ev) (w : World) (hT : Tabs w) (hv : IsEvs v l w) (hn : l.length ≤ 1000000) (h1 : m.nm.size ≤ 9223372036854775807) (h2 : m.bl.size ≤ 9223372036854775807) :
    Calls Tryd.prog 18 #[m.val, v] w fun e w' => e = .returned (.tuple #[.int .i64 (valP m l).1, .int .i64 (valP m l).2]) ∧ Below w.heap.size w w' := by
  have HT := Lib.hid (And.intro hT (And.intro hv (And.intro h1 h2)))
  clear hT hv h1 h2
  show Calls Tryd.prog 18 #[.agg #[.int .i64 m.k, .string m.nm, .string m.bl, .int .i64 m.wi, .int .i64 m.ca, .int .i64 m.le, .int .i64 m.be], v] w _
  go_enter Tryd.func18, Tryd.ntmps18
  go_wp2_with fail
  obtain ⟨W1, hW1⟩ : ∃ W1, w.alloc (.cells #[.int .i64 m.k, .string m.nm, .string m.bl, .int .i64 m.wi, .int .i64 m.ca, .int .i64 m.le, .int .i64 m.be] 29) = W1 := ⟨_, rfl⟩
  have hM1 := val_start w m
  have hb1 : Below w.heap.size w W1 := by rw [← hW1]; exact (Below.refl _ _).alloc (Nat.le_refl _) _
  have hs1 : W1.heap.size = w.heap.size + 1 := by rw [← hW1, World.size_alloc]
  rw [hW1] at hM1 ⊢
  clear hW1
  obtain ⟨M0, hM0⟩ : ∃ M0, w.heap.size = M0 := ⟨_, rfl⟩
  rw [hM0] at hM1 ⊢
  have H1 := Lib.hid (And.intro hM0 (And.intro hM1 (And.intro hb1 hs1)))
  clear hM0 hM1 hb1 hs1
  refine (check_calls m.k m.nm m.bl m.wi m.ca m.le m.be W1 (Tabs.below HT.out.1 H1.out.2.2.1) HT.out.2.2.1 HT.out.2.2.2).mono ?_
  rintro e w2 ⟨rfl, hb2⟩
  have HB2 := Lib.hid hb2
  clear hb2
  have HE := Lib.hid (show checkP m.k m.nm m.bl m.wi m.ca m.le m.be = m.err from rfl)
  obtain ⟨er, her⟩ : ∃ er, checkP m.k m.nm m.bl m.wi m.ca m.le m.be = er := ⟨_, rfl⟩
  rw [her] at HE ⊢
  clear her
  by_cases he : er = 0
  · have hne : (er != 0) = false := by rw [he]; rfl
    have HEE := Lib.hid he
    clear he
    go_wp2_with fail
    have hst2 : IsM M0 m w2 := H1.out.2.1.grown (b := W1.heap.size) (gb_below _ HB2.out) (by rw [H1.out.2.2.2, H1.out.1]; omega) (by rw [H1.out.2.2.2, H1.out.1]; omega)
    have hbw2 : Below w.heap.size w w2 := (H1.out.2.2.1).trans (HB2.out.mono H1.out.2.2.1.size)
    have hm2 : M0 < w2.heap.size := by have := HB2.out.size; have e1 := H1.out.1; have e2 := H1.out.2.2.2; omega
    have hv2 := HT.out.2.1.over hbw2
    have HS2 := Lib.hid (And.intro hst2 (And.intro hbw2 hm2))
    clear hst2 hbw2 hm2 HB2 H1
    refine (clone_any v l w2 hv2 hn).mono ?_
    rintro e w3 ⟨v3, rfl, ho3, hb3⟩
    have H3 := Lib.hid (And.intro ho3 hb3)
    clear ho3 hb3 hv2
    go_wp2_with fail
    refine (delete_any w2.heap.size v3 l w3 H3.out.1 hn).mono ?_
    rintro e w4 ⟨v4, rfl, hv4, hb4⟩
    have hst4 : IsM M0 m w4 := HS2.out.1.grown (b := w2.heap.size) (gb_below _ (H3.out.2.trans hb4)) HS2.out.2.2 (Nat.ne_of_lt HS2.out.2.2)
    have hbw4 : Below w.heap.size w w4 := HS2.out.2.1.trans ((H3.out.2.trans hb4).mono HS2.out.2.1.size)
    have hm4 : M0 < w4.heap.size := Nat.lt_of_lt_of_le HS2.out.2.2 (H3.out.2.trans hb4).size
    have hans : valP m l = (lim m.ca ((l.filter Ev.keep).foldl (addV m) 0), lim m.ca ((l.filter Ev.keep).foldl (addB m) 0)) := by
      unfold valP
      rw [if_neg (fun h => h (HE.out.symm.trans HEE.out))]
    have hkind : 1 ≤ m.k ∧ m.k ≤ 4 := by
      have e := HE.out.symm.trans HEE.out
      unfold Met.err checkP at e
      split at e
      · exact absurd e (by decide)
      · rename_i h
        exact Classical.not_not.1 h
    have hLn : (l.filter Ev.keep).length ≤ 1000000 := Nat.le_trans (List.length_filter_le _ _) hn
    obtain ⟨L, hL⟩ : ∃ L, l.filter Ev.keep = L := ⟨_, rfl⟩
    rw [hL] at hv4 hLn hans
    have HANS := Lib.hid hans
    have H4 := Lib.hid (And.intro hst4 (And.intro hbw4 (And.intro hm4 (And.intro hkind hv4))))
    clear hst4 hbw4 hm4 hkind hans hL hb4 H3 HS2 HT HEE HE hne hn
    rcases H4.out.2.2.2.2 with ⟨rfl, rfl⟩ | ⟨b, o, c, rfl, hrow, hlt⟩
    · clear hLn
      go_wp2_with fail
      refine wp_loop_rounds 1 ?_
      rw [rounds_succ]
      go_wp2_with fail
      refine (limit_calls 0 m.ca M0 w4 H4.out.1.c4).mono ?_
      rintro e w' ⟨rfl, rfl⟩
      go_wp2_with fail
      refine (limit_calls 0 m.ca M0 w' H4.out.1.c4).mono ?_
      rintro e w'' ⟨rfl, rfl⟩
      go_wp2_with fail
      go_ret2
      rw [HANS.out]
      exact ⟨rfl, H4.out.2.1⟩
    · have HV := Lib.hid (show VSt w M0 m b o L w4 from ⟨H4.out.1, hrow, H4.out.2.1, H4.out.2.2.1, hlt⟩)
      have HK := Lib.hid H4.out.2.2.2.1
      clear hrow hlt H4
      go_wp2_with fail
      go_loopg [7, 8, 20] L.length (fun gg s7 s8 s20 wr => ∃ kk : Nat, kk ≤ L.length ∧ L.length - kk ≤ gg ∧ s7 = .int .i64 ((L.take kk).foldl (addV m) 0) ∧ s8 = .int .i64 ((L.take kk).foldl (addB m) 0) ∧ s20 = .int .i64 kk ∧ Hid (VSt w M0 m b o L wr))
      case atStart => exact ⟨0, Nat.zero_le _, by omega, rfl, rfl, rfl, HV⟩
      case round =>
        obtain ⟨kk, hkk, hgg, rfl, rfl, rfl, INV⟩ := hrel
        by_cases hlt : kk < L.length
        · have hx : L[kk]? = some L[kk] := List.getElem?_eq_getElem hlt
          obtain ⟨x, hxe⟩ : ∃ x, L[kk] = x := ⟨_, rfl⟩
          rw [hxe] at hx
          obtain ⟨c0, c1, c2, c3, c4, c5, c6, c7, c8, c9⟩ := INV.out.row.at hx
          have d0 := INV.out.met.c0
          have d1 := INV.out.met.c1
          have d2 := INV.out.met.c2
          have d5 := INV.out.met.c5
          have hMs := INV.out.lM
          have HX := Lib.hid (And.intro (fold_take (addV m) 0 L kk x hx) (fold_take (addB m) 0 L kk x hx))
          obtain ⟨sv, hsv⟩ : ∃ sv, (L.take kk).foldl (addV m) 0 = sv := ⟨_, rfl⟩
          obtain ⟨sb, hsb⟩ : ∃ sb, (L.take kk).foldl (addB m) 0 = sb := ⟨_, rfl⟩
          have HSS := Lib.hid (And.intro hsv hsb)
          rw [hsv, hsb]
          clear hxe hx hsv hsb
          go_upto_region 8 with (fail)
          obtain ⟨W, hW⟩ : ∃ W, wr.alloc (.cells #[.string x.cl, .int .i64 x.sq, .int .i64 x.kd, .int .i64 x.ti, .string x.id, .string x.nm, .string x.ot, .int .i64 x.vr, .int .i64 x.ar, .int .i64 x.va] 40) = W := ⟨_, rfl⟩
          have hbW : Below wr.heap.size wr W := by rw [← hW]; exact (Below.refl _ _).alloc (Nat.le_refl _) _
          have rn := row_new wr x 40
          have hXs : wr.heap.size < W.heap.size := by rw [← hW]; simp
          rw [hW] at rn ⊢
          have hat := rn.at (j := 0) (x := x) rfl
          simp only [Nat.zero_mul, Nat.zero_add] at hat
          have INW := Lib.hid (INV.out.over hbW)
          obtain ⟨X, hX⟩ : ∃ X, wr.heap.size = X := ⟨_, rfl⟩
          rw [hX] at hat hXs ⊢
          rw [hX] at rn
          have HC := Lib.hid (And.intro rn (And.intro hXs INW.out.met.c0))
          clear INV c0 c1 c2 c3 c4 c5 c6 c7 c8 c9 d0 d1 d2 d5 hMs rn hW hbW hX
          obtain ⟨c0, c1, c2, c3, c4, c5, c6, c7, c8, c9⟩ := hat
          have d0 := INW.out.met.c0
          have d1 := INW.out.met.c1
          have d2 := INW.out.met.c2
          have d5 := INW.out.met.c5
          by_cases hnm : x.nm = m.nm
          · have hb1 := beq_str_true hnm
            by_cases hge : m.le ≤ x.va
            · have hb2 : decide (m.le ≤ x.va) = true := decide_eq_true hge
              obtain ⟨nsv, hnsv⟩ : ∃ nsv, IntKind.i64.wrap (sv + contrib m.k x) = nsv := ⟨_, rfl⟩
              have HA := Lib.hid (show addV m sv x = nsv from (if_pos ⟨hnm, hge⟩ : addV m sv x = wrap64 (sv + contrib m.k x)).trans ((IntWalk.i64_left _).symm.trans hnsv))
              clear hnm hge
              go_upto_region 9 with (fail)
              have hcf := callF m.k
              have hfl := run_field68
              clear c0 c1 c2 c3 c4 c5 c6 c7 c8 c9 d0 d1 d2 d5 hb1 hb2
              go_region_held3 (fun w' => Hid (Below W.heap.size W w') ∧ w'.cell? ⟨X, 0, none⟩ = some (.string x.cl) ∧ w'.cell? ⟨X, 1, none⟩ = some (.int .i64 x.sq) ∧ w'.cell? ⟨X, 2, none⟩ = some (.int .i64 x.kd) ∧ w'.cell? ⟨X, 3, none⟩ = some (.int .i64 x.ti) ∧
                 w'.cell? ⟨X, 4, none⟩ = some (.string x.id) ∧ w'.cell? ⟨X, 5, none⟩ = some (.string x.nm) ∧ w'.cell? ⟨X, 6, none⟩ = some (.string x.ot) ∧ w'.cell? ⟨X, 7, none⟩ = some (.int .i64 x.vr) ∧
                 w'.cell? ⟨X, 8, none⟩ = some (.int .i64 x.ar) ∧ w'.cell? ⟨X, 9, none⟩ = some (.int .i64 x.va) ∧ w'.cell? ⟨M0, 0, none⟩ = some (.int .i64 m.k)) (first | (refine keepS HC.out.1 HC.out.2.1 HC.out.2.2 INW.out.lM ?_; first | assumption | exact (Below.refl _ _).drew))
                (first | (go_at_call 31; refine (kinds_in (W0 := W) (by assumption)).mono ?_; rintro e w' ⟨r, rfl, hbb, hh⟩; have hl := run_lookF HK.out hh) | (go_at_fn (kindF m.k); refine (fun_in (W0 := W) m.k x (by assumption)).mono ?_; rintro e W2 ⟨rfl, hbb⟩))
              have HBW := Lib.hid hbb
              clear hcf hfl hh hl hbb
              have KF := keepS HC.out.1 HC.out.2.1 HC.out.2.2 INW.out.lM HBW.out
              have IN2 := Lib.hid (INW.out.over HBW.out)
              obtain ⟨_, _, _, _, _, _, c5, _, _, _, c9, d0⟩ := KF
              have d2 := IN2.out.met.c2
              have hend : ∀ (nb : Int), addB m sb x = nb → ∃ k2 : Nat, k2 ≤ L.length ∧ L.length - k2 ≤ L.length - (kk + 1) ∧ Value.int .i64 nsv = .int .i64 ((L.take k2).foldl (addV m) 0) ∧ Value.int .i64 nb = .int .i64 ((L.take k2).foldl (addB m) 0) ∧ Value.int .i64 ((kk : Int) + 1) = .int .i64 k2 ∧ Hid (VSt w M0 m b o L W2) := fun nb hnb =>
                ⟨kk + 1, hlt, Nat.le_refl _, by rw [HX.out.1, HSS.out.1, HA.out], by rw [HX.out.2, HSS.out.2, hnb], by go_num, IN2⟩
              have HEND := Lib.hid hend
              clear hend
              by_cases hk4 : m.k = 4
              · have hb4 : (m.k == 4) = true := by rw [hk4]; rfl
                by_cases hbl : x.nm = m.bl
                · have hb5 := beq_str_true hbl
                  have HB := Lib.hid (show addB m sb x = wrap64 (sb + x.va) from if_pos ⟨hk4, hbl⟩)
                  clear hk4 hbl
                  go_wp2_with fail
                  go_roundg (L.length - (kk + 1))
                  case measure => omega
                  case rel => exact HEND.out _ HB.out
                · have hb5 := beq_str_false hbl
                  have HB := Lib.hid (show addB m sb x = sb from if_neg (fun h => hbl h.2))
                  clear hk4 hbl
                  go_wp2_with fail
                  go_roundg (L.length - (kk + 1))
                  case measure => omega
                  case rel => exact HEND.out _ HB.out
              · have hb4 : (m.k == 4) = false := by simp [hk4]
                have HB := Lib.hid (show addB m sb x = sb from if_neg (fun h => hk4 h.1))
                clear hk4
                go_wp2_with fail
                go_roundg (L.length - (kk + 1))
                case measure => omega
                case rel => exact HEND.out _ HB.out
            · have hb2 : decide (m.le ≤ x.va) = false := decide_eq_false hge
              obtain ⟨nsv, hnsv⟩ : ∃ nsv, sv = nsv := ⟨_, rfl⟩
              have HA := Lib.hid (show addV m sv x = nsv from (if_neg (fun h => hge h.2) : addV m sv x = sv).trans hnsv)
              subst hnsv
              clear hnm hge
              go_upto_region 10 with (fail)
              clear c0 c1 c2 c3 c4 c5 c6 c7 c8 c9 d0 d1 d2 d5 hb1 hb2
              obtain ⟨W2, hW2, hbw⟩ : ∃ W2, W = W2 ∧ Below W.heap.size W W2 := ⟨W, rfl, Below.refl _ _⟩
              rw [hW2]
              have HBW := Lib.hid hbw
              clear hW2 hbw
              have KF := keepS HC.out.1 HC.out.2.1 HC.out.2.2 INW.out.lM HBW.out
              have IN2 := Lib.hid (INW.out.over HBW.out)
              obtain ⟨_, _, _, _, _, _, c5, _, _, _, c9, d0⟩ := KF
              have d2 := IN2.out.met.c2
              have hend : ∀ (nb : Int), addB m sb x = nb → ∃ k2 : Nat, k2 ≤ L.length ∧ L.length - k2 ≤ L.length - (kk + 1) ∧ Value.int .i64 sv = .int .i64 ((L.take k2).foldl (addV m) 0) ∧ Value.int .i64 nb = .int .i64 ((L.take k2).foldl (addB m) 0) ∧ Value.int .i64 ((kk : Int) + 1) = .int .i64 k2 ∧ Hid (VSt w M0 m b o L W2) := fun nb hnb =>
                ⟨kk + 1, hlt, Nat.le_refl _, by rw [HX.out.1, HSS.out.1, HA.out], by rw [HX.out.2, HSS.out.2, hnb], by go_num, IN2⟩
              have HEND := Lib.hid hend
              clear hend
              by_cases hk4 : m.k = 4
              · have hb4 : (m.k == 4) = true := by rw [hk4]; rfl
                by_cases hbl : x.nm = m.bl
                · have hb5 := beq_str_true hbl
                  have HB := Lib.hid (show addB m sb x = wrap64 (sb + x.va) from if_pos ⟨hk4, hbl⟩)
                  clear hk4 hbl
                  go_wp2_with fail
                  go_roundg (L.length - (kk + 1))
                  case measure => omega
                  case rel => exact HEND.out _ HB.out
                · have hb5 := beq_str_false hbl
                  have HB := Lib.hid (show addB m sb x = sb from if_neg (fun h => hbl h.2))
                  clear hk4 hbl
                  go_wp2_with fail
                  go_roundg (L.length - (kk + 1))
                  case measure => omega
                  case rel => exact HEND.out _ HB.out
              · have hb4 : (m.k == 4) = false := by simp [hk4]
                have HB := Lib.hid (show addB m sb x = sb from if_neg (fun h => hk4 h.1))
                clear hk4
                go_wp2_with fail
                go_roundg (L.length - (kk + 1))
                case measure => omega
                case rel => exact HEND.out _ HB.out
          · have hb1 := beq_str_false hnm
            obtain ⟨nsv, hnsv⟩ : ∃ nsv, sv = nsv := ⟨_, rfl⟩
            have HA := Lib.hid (show addV m sv x = nsv from (if_neg (fun h => hnm h.1) : addV m sv x = sv).trans hnsv)
            subst hnsv
            clear hnm
            go_upto_region 10 with (fail)
            clear c0 c1 c2 c3 c4 c5 c6 c7 c8 c9 d0 d1 d2 d5 hb1
            obtain ⟨W2, hW2, hbw⟩ : ∃ W2, W = W2 ∧ Below W.heap.size W W2 := ⟨W, rfl, Below.refl _ _⟩
            rw [hW2]
            have HBW := Lib.hid hbw
            clear hW2 hbw
            have KF := keepS HC.out.1 HC.out.2.1 HC.out.2.2 INW.out.lM HBW.out
            have IN2 := Lib.hid (INW.out.over HBW.out)
            obtain ⟨_, _, _, _, _, _, c5, _, _, _, c9, d0⟩ := KF
            have d2 := IN2.out.met.c2
            have hend : ∀ (nb : Int), addB m sb x = nb → ∃ k2 : Nat, k2 ≤ L.length ∧ L.length - k2 ≤ L.length - (kk + 1) ∧ Value.int .i64 sv = .int .i64 ((L.take k2).foldl (addV m) 0) ∧ Value.int .i64 nb = .int .i64 ((L.take k2).foldl (addB m) 0) ∧ Value.int .i64 ((kk : Int) + 1) = .int .i64 k2 ∧ Hid (VSt w M0 m b o L W2) := fun nb hnb =>
              ⟨kk + 1, hlt, Nat.le_refl _, by rw [HX.out.1, HSS.out.1, HA.out], by rw [HX.out.2, HSS.out.2, hnb], by go_num, IN2⟩
            have HEND := Lib.hid hend
            clear hend
            by_cases hk4 : m.k = 4
            · have hb4 : (m.k == 4) = true := by rw [hk4]; rfl
              by_cases hbl : x.nm = m.bl
              · have hb5 := beq_str_true hbl
                have HB := Lib.hid (show addB m sb x = wrap64 (sb + x.va) from if_pos ⟨hk4, hbl⟩)
                clear hk4 hbl
                go_wp2_with fail
                go_roundg (L.length - (kk + 1))
                case measure => omega
                case rel => exact HEND.out _ HB.out
              · have hb5 := beq_str_false hbl
                have HB := Lib.hid (show addB m sb x = sb from if_neg (fun h => hbl h.2))
                clear hk4 hbl
                go_wp2_with fail
                go_roundg (L.length - (kk + 1))
                case measure => omega
                case rel => exact HEND.out _ HB.out
            · have hb4 : (m.k == 4) = false := by simp [hk4]
              have HB := Lib.hid (show addB m sb x = sb from if_neg (fun h => hk4 h.1))
              clear hk4
              go_wp2_with fail
              go_roundg (L.length - (kk + 1))
              case measure => omega
              case rel => exact HEND.out _ HB.out
        · have hkn : ¬ (kk : Int) < (L.length : Int) := by omega
          have htk : L.take kk = L := List.take_of_length_le (by omega)
          have HTK := Lib.hid htk
          obtain ⟨sv, hsv⟩ : ∃ sv, (L.take kk).foldl (addV m) 0 = sv := ⟨_, rfl⟩
          obtain ⟨sb, hsb⟩ : ∃ sb, (L.take kk).foldl (addB m) 0 = sb := ⟨_, rfl⟩
          rw [hsv, hsb]
          rw [htk] at hsv hsb
          have HSS := Lib.hid (And.intro hsv hsb)
          clear htk hsv hsb
          go_wp2_with fail
          refine (limit_calls sv m.ca M0 wr INV.out.met.c4).mono ?_
          rintro e w' ⟨rfl, rfl⟩
          go_wp2_with fail
          refine (limit_calls sb m.ca M0 w' INV.out.met.c4).mono ?_
          rintro e w'' ⟨rfl, rfl⟩
          go_wp2_with fail
          go_ret2
          rw [HANS.out, HSS.out.1, HSS.out.2]
          exact ⟨rfl, INV.out.below⟩
  · have hne : (er != 0) = true := bne_iff_ne.2 he
    have hans : valP m l = (0, 0) := if_pos (fun h => he (HE.out.trans h))
    have HA := Lib.hid hans
    clear he hans
    go_wp2_with fail
    go_ret2
    rw [HA.out]
    exact ⟨rfl, (H1.out.2.2.1).trans (HB2.out.mono H1.out.2.2.1.size)⟩
end Go.Proofs.YtbiolondnkeakaaDoor
