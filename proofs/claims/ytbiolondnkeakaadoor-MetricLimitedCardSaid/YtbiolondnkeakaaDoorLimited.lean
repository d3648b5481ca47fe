/- The walk of the law MetricLimited. -/
import Derived.Test.YtbiolondnkeakaaDoorPureLim
import Derived.Test.YtbiolondnkeakaaDoorEvents
import Derived.Test.YtbiolondnkeakaaDoorPrint
namespace Go.Proofs.YtbiolondnkeakaaDoor
open Go.RowKit Go.Proofs.YtbiolondnkeakaaDoor.PT Go.Proofs.YtbiolondnkeakaaDoorW.PrintWords Go.Proofs.YtbiolondnkeakaaDoorW.PrintLast Go.Proofs.YtbiolondnkeakaaDoorW.PrintMore Plain Split

theorem IsEvs.slice {v : Value} {l : List Ev} {w : World} (h : IsEvs v l w) : ∃ A c, v = .slice A l.length c := by
  rcases h with ⟨rfl, rfl⟩ | ⟨b, o, c, rfl, _⟩
  · exact ⟨_, _, rfl⟩
  · exact ⟨_, _, rfl⟩
/-- The state of the turning: the metric in block D, the events, and those turned so far. -/
structure LS (w0 : World) (D B : Nat) (m : Met) (v : Value) (L : List Ev) (v' : Value) (t i : Nat) (W : World) : Prop where
  qd : QM w0 D m W
  evs : IsEvs v L W
  out : W.ownsRow B 40 10 v' i (evCells (turnedL L t i))
  hB : D < B
  hW : w0.heap.size ≤ B
  hBW : B ≤ W.heap.size
  low : ∀ b o c, v = .slice (some ⟨b, o, none⟩) L.length c → b < B
theorem LS.over {w0 W W' : World} {D B t i : Nat} {m : Met} {v v' : Value} {L : List Ev} (h : LS w0 D B m v L v' t i W) (hb : Below W.heap.size W W') : LS w0 D B m v L v' t i W' :=
  ⟨h.qd.over hb, h.evs.over hb, h.out.kept (row := none) ⟨hb.os, hb.tape, hb.output, hb.size, fun k hk _ => hb.block k hk⟩ (by cases v'.ownBlock <;> simp), h.hB, h.hW, Nat.le_trans h.hBW hb.size, h.low⟩
theorem IsEvs.kept {w w' : World} {v : Value} {l : List Ev} {B : Nat} (h : IsEvs v l w) (hl : ∀ b o c, v = .slice (some ⟨b, o, none⟩) l.length c → b < B) (hk : ∀ k, k < w.heap.size → k < B → w'.heap[k]? = w.heap[k]?) (hs : w.heap.size ≤ w'.heap.size) : IsEvs v l w' := by
  rcases h with h | ⟨b, o, c, rfl, hr, hb⟩
  · exact .inl h
  · exact .inr ⟨b, o, c, rfl, fun j x hx i u hu => (World.cell?_of_block (w := w) (a := ⟨b, _, none⟩) (hk b hb (hl b o c rfl))).trans (hr j x hx i u hu), Nat.lt_of_lt_of_le hb hs⟩
theorem LS.push {w0 W W' : World} {D B t i : Nat} {m : Met} {v v' v2 : Value} {L : List Ev} (h : LS w0 D B m v L v' t i W) (hg : W.grownBy W' v'.ownBlock) (ho : W'.ownsRow B 40 10 v2 (i + 1) (evCells (turnedL L t i) ++ (rotI L t i).cells)) : LS w0 D B m v L v2 t (i + 1) W' := by
  have hrow : ∀ k, v'.ownBlock = some k → B ≤ k := fun k e => (h.out.lt k e).1
  have h1 := h.hB
  have h2 := h.hW
  have h3 := h.hBW
  have hold : ∀ k, k < W.heap.size → k < B → W'.heap[k]? = W.heap[k]? := fun k hk hkB => hg.block k hk (fun e => by have := hrow k e.symm; omega)
  refine ⟨⟨?_, Nat.lt_of_lt_of_le h.qd.2.1 hg.size, h.qd.2.2.grown hg h.qd.2.2.size (fun k e => Nat.le_trans h2 (hrow k e))⟩, h.evs.kept h.low hold hg.size, ?_, h1, h2, Nat.le_trans h3 hg.size, h.low⟩
  · have hc : ∀ j, W'.cell? ⟨D, j, none⟩ = W.cell? ⟨D, j, none⟩ := fun j => World.cell?_of_block (w := W) (a := ⟨D, j, none⟩) (hold D h.qd.2.1 h1)
    have hf : ∀ j, W'.frozen? ⟨D, j, none⟩ = W.frozen? ⟨D, j, none⟩ := fun j => World.frozen?_of_block (w := W) (a := ⟨D, j, none⟩) (hold D h.qd.2.1 h1)
    have q := h.qd.1
    exact ⟨(hc 0).trans q.c0, (hc 1).trans q.c1, (hc 2).trans q.c2, (hc 3).trans q.c3, (hc 4).trans q.c4, (hc 5).trans q.c5, (hc 6).trans q.c6, fun j => (hf j).trans (q.fr j)⟩
  · rw [turnedL, evCells_append, show evCells [rotI L t i] = (rotI L t i).cells from List.append_nil _]
    exact ho
namespace PL
set_option maxRecDepth 100000 in
set_option maxHeartbeats 16000000 in
theorem flagstonelaw34_MetricLimited.walk (_ : True) (a0 : Option Addr) (len0 cap0 : Nat) (z0 : List Int) (a1 : Option Addr) (len1 cap1 : Nat) (z1 : List Int) (a2 a3 : Int) (w : World) (hT : Tabs w)
    (w0 : (a0 = none ∧ len0 = 0 ∧ cap0 = 0 ∧ z0 = []) ∨ ∃ x, a0 = some x ∧ len0 ≤ cap0 ∧ cap0 ≤ maxLen ∧ z0.length = cap0 ∧ (∀ i, i < z0.length → w.cell? (x.add i) = some (.int .u8 (z0.getD i 0))) ∧ ∀ n ∈ z0, (Lit.int .u8 n).wf = true) (y0 : len0 * 1 ≤ 140737488351232)
    (w1 : (a1 = none ∧ len1 = 0 ∧ cap1 = 0 ∧ z1 = []) ∨ ∃ x, a1 = some x ∧ len1 ≤ cap1 ∧ cap1 ≤ maxLen ∧ z1.length = cap1 ∧ (∀ i, i < z1.length → w.cell? (x.add i) = some (.int .u8 (z1.getD i 0))) ∧ ∀ n ∈ z1, (Lit.int .u8 n).wf = true) (y1 : len1 * 1 ≤ 140737488351232)
    (w2 : (Lit.int .u8 a2).wf = true) (w3 : (Lit.int .u8 a3).wf = true) :
    Calls Tryd.prog 6 #[.slice a0 len0 cap0, .slice a1 len1 cap1, .int .u8 a2, .int .u8 a3] w fun e w' => e = .returned (.bool true) ∧ Below w.heap.size w w' := by
  obtain ⟨l, rfl, hr, _, hw, _⟩ := ReadsInt.ofRowC w0
  have hrC := Kd.C_of_reads (d := (0 : Int)) (h1 := fun _ => rfl) hr
  have HL := Lib.hid (And.intro hrC (And.intro (bytes_wf hw) (show l.length ≤ 4611686018427387904 by omega)))
  obtain ⟨lm, rfl, hrm, _, hwm, _⟩ := ReadsInt.ofRowC w1
  have hrmC := Kd.C_of_reads (d := (0 : Int)) (h1 := fun _ => rfl) hrm
  have HLM := Lib.hid (And.intro hrmC (And.intro (bytes_wf hwm) (show lm.length ≤ 4611686018427387904 by omega)))
  have HT := Lib.hid hT
  obtain ⟨ht0, ht1⟩ := bytes_u8 w2
  obtain ⟨hd0, hd1⟩ := bytes_u8 w3
  obtain ⟨t, rfl⟩ : ∃ t : Nat, a2 = (t : Int) := ⟨a2.toNat, by omega⟩
  clear w0 y0 w1 y1 w2 w3 hr hw hrC hrm hwm hrmC hT ht0
  go_enter Tryd.func6, Tryd.ntmps6
  go_wp2_with fail
  refine (awake_calls w HT.out).mono ?_
  rintro e w2 ⟨rfl, hb2⟩
  have HB2 := Lib.hid hb2
  clear hb2
  by_cases h300 : l.length ≤ 300
  · have hsz : ¬ (300 : Int) < (l.length : Int) := by omega
    clear h300
    go_wp2_with fail
    refine (data_metric a1 cap1 lm w2 (Kd.C_below HLM.out.1 HB2.out) HLM.out.2).mono ?_
    rintro e w3 ⟨rfl, hb3⟩
    have hf := metD_fine lm
    have hc50 := metD_cap lm
    obtain ⟨m, hm⟩ : ∃ m, metD lm = m := ⟨_, rfl⟩
    rw [hm] at hf hc50 ⊢
    have HF := Lib.hid (And.intro hf hc50)
    have HB3 := Lib.hid (HB2.out.trans (hb3.mono HB2.out.size))
    clear hm hf hc50 hb3 HB2
    simp only [Met.val]
    go_wp2_with fail
    have hM4 := val_start w3 m
    obtain ⟨W4, hW4, hb4, hs4⟩ : ∃ W4, w3.alloc (.cells #[.int .i64 m.k, .string m.nm, .string m.bl, .int .i64 m.wi, .int .i64 m.ca, .int .i64 m.le, .int .i64 m.be] 29) = W4 ∧ Below w3.heap.size w3 W4 ∧ w3.heap.size < W4.heap.size := ⟨_, rfl, (Below.refl _ _).alloc (Nat.le_refl _) _, by simp⟩
    rw [hW4] at hM4 ⊢
    obtain ⟨D, hD⟩ : ∃ D, w3.heap.size = D := ⟨_, rfl⟩
    have hbw4 : Below w.heap.size w W4 := HB3.out.trans (hb4.mono HB3.out.size)
    have hDw := HB3.out.size
    rw [hD] at hM4 hs4 hDw ⊢
    have HD4 := Lib.hid (show QM w D m W4 from ⟨hM4, hs4, hbw4⟩)
    have HDW := Lib.hid hDw
    clear hM4 hs4 hb4 hW4 HB3 hD hbw4 hDw
    refine (events_calls a0 cap0 l W4 (Kd.C_below HL.out.1 HD4.out.2.2) HL.out.2).mono ?_
    rintro e w5 hres
    obtain ⟨v, L, B0, rfl, hown, hL60, hb5⟩ := hres
    have hev := hown.is
    clear hown
    obtain ⟨A, c, rfl⟩ := hev.slice
    have hls : LS w D w5.heap.size m (.slice A L.length c) L (.slice none 0 0) t 0 w5 := by
      have q := HD4.out.over hb5
      refine ⟨q, hev, World.ownsRow_nil _ _ _ _, q.2.1, q.2.2.size, Nat.le_refl _, fun b o c' e => ?_⟩
      rcases hev with ⟨e2, _⟩ | ⟨b2, o2, c2, e2, _, hlt⟩
      · rw [e2] at e; cases e
      · rw [e2] at e; cases e; exact hlt
    obtain ⟨B, hB⟩ : ∃ B, w5.heap.size = B := ⟨_, rfl⟩
    rw [hB] at hls
    have HLS := Lib.hid hls
    obtain ⟨n, hn⟩ : ∃ n, L.length = n := ⟨_, rfl⟩
    rw [hn] at hL60 ⊢
    have HN := Lib.hid hn
    clear hls hev hb5 hB HD4 hn
    go_wp2_with fail
    go_loopg [11, 12] 61 (fun gg s11 s12 wr => ∃ (i : Nat) (A2 : Option Addr) (c2 : Nat), s11 = .slice A2 i c2 ∧ s12 = .int .i64 i ∧ i ≤ n ∧ n - i ≤ gg ∧ Hid (LS w D B m (.slice A L.length c) L (.slice A2 i c2) t i wr))
    case atStart => exact ⟨0, none, 0, rfl, rfl, by omega, by omega, HLS⟩
    case round =>
      obtain ⟨i, A', c', rfl, rfl, hin, hgg, HS⟩ := hrel
      clear HLS
      by_cases hlt : i < n
      · have hltd : decide ((i : Int) < (n : Int)) = true := decide_eq_true (by omega)
        obtain ⟨b, o, rfl, hrow⟩ : ∃ b o, A = some ⟨b, o, none⟩ ∧ EvRow wr b o L := by
          rcases HS.out.evs with ⟨e, e2⟩ | ⟨b, o, c2, e, hr, _⟩
          · rw [e2] at HN; have := HN.out; simp at this; omega
          · cases e; exact ⟨b, o, rfl, hr⟩
        obtain ⟨k, hk, hkn⟩ : ∃ k, (i + t) % n = k ∧ k < n := ⟨_, rfl, Nat.mod_lt _ (by omega)⟩
        have hx : L[k]? = some (L[k]'(by rw [HN.out]; exact hkn)) := List.getElem?_eq_getElem (by rw [HN.out]; exact hkn)
        obtain ⟨x, hxe⟩ : ∃ x, L[k]'(by rw [HN.out]; exact hkn) = x := ⟨_, rfl⟩
        rw [hxe] at hx
        have HX := Lib.hid (show rotI L t i = x by unfold rotI; rw [HN.out, hk, hx]; rfl)
        obtain ⟨m0, m1, m2, m3, m4, m5, m6, m7, m8, m9⟩ := hrow.at hx
        have hix : ((i : Int) + (t : Int)) % (n : Int) = (k : Int) := by rw [← hk, Int.natCast_emod, Int.natCast_add]
        have hk0 : decide ((k : Int) < (n : Int)) = true := decide_eq_true (by omega)
        have hnz : ((n : Int) = 0) = False := eq_false (by omega)
        clear hrow hxe hx hk
        obtain ⟨i0, hi, hz0, hz1, hz2⟩ := info_parts info40
        go_wp2_with (at_builtin; refine wpList_append_own _ rfl _ _ 38 rfl B 40 i0 Ev.zero.val 10 112 Tryd.underlying38 hi hz0 hz1 hz2 rfl (by decide) _ _ _ rfl (HS.out.out.alloc _) ⟨wr.heap.size, 0, none⟩ 1 1 x.cells rfl ?c1 ?c2 ?c3 ?c4 ?c5 ?c6 ?_)
        case c1 => rfl
        case c2 =>
          intro j u hj
          rw [Addr.add_lit]
          have := row_new wr x 40 0 x rfl j u hj
          simpa using this
        case c3 => exact x.cells_one
        case c4 => unfold maxLen; omega
        case c5 => omega
        case c6 => have := HS.out.hBW; simp; omega
        intro v' w10 hown hgrow hnil
        rw [← HX.out] at hown
        have HS2 := Lib.hid ((HS.out.over (below_alloc wr _)).push hgrow hown)
        have hsl : ∃ A c, v' = .slice A (i + 1) c := by
          rcases hown.2 with ⟨_, hn⟩ | ⟨g, cap, cur, rfl, _⟩
          · omega
          · exact ⟨_, _, rfl⟩
        obtain ⟨A2, c2, rfl⟩ := hsl
        clear hown hgrow hnil HS hix hk0 hkn HX m0 m1 m2 m3 m4 m5 m6 m7 m8 m9
        go_wp2_with fail
        go_roundg (n - (i + 1))
        case measure => omega
        case rel => exact ⟨i + 1, A2, c2, rfl, by go_num, by omega, by omega, HS2⟩
      · have hltd : decide ((i : Int) < (n : Int)) = false := decide_eq_false (by omega)
        obtain rfl : i = n := by omega
        have HV := Lib.hid (show IsEvs (.slice A' i c') (turnedL L t i) wr from by
          have h := OwnEvs.of_row (l := turnedL L t i) (by rw [turnedL_length]; exact HS.out.out)
          exact h.is)
        have HE := Lib.hid (fine_iff.2 HF.out.1)
        have hlf := lim_facts HF.out.1 HF.out.2 L a3 hd0 hd1
        have hvt : valP m (turnedL L t i) = valP m L := by rw [← HN.out]; exact valP_turned HE.out L t
        have HVT := Lib.hid hvt
        obtain ⟨y, hy⟩ : ∃ y : Met, ({ m with ca := m.ca + a3 } : Met) = y := ⟨_, rfl⟩
        rw [hy] at hlf
        obtain ⟨a, ha⟩ : ∃ a, (valP m L).1 = a := ⟨_, rfl⟩
        obtain ⟨b, hb⟩ : ∃ b, (valP m L).2 = b := ⟨_, rfl⟩
        obtain ⟨e1, he1⟩ : ∃ e, (valP y L).1 = e := ⟨_, rfl⟩
        obtain ⟨f1, hf1⟩ : ∃ f, (valP y L).2 = f := ⟨_, rfl⟩
        rw [ha, hb, he1, hf1] at hlf
        have HAB := Lib.hid (And.intro ha (And.intro hb (And.intro he1 hf1)))
        have HY := Lib.hid hy
        have HLF := Lib.hid hlf
        have hms : m.nm.size ≤ 9223372036854775807 ∧ m.bl.size ≤ 9223372036854775807 := by
          have h1 := key_small HF.out.1.nm
          refine ⟨by omega, ?_⟩
          by_cases h4 : m.k = 4
          · have := key_small (HF.out.1.bl h4); omega
          · rw [HF.out.1.sh h4]; decide
        have HMS := Lib.hid hms
        clear hvt hy ha hb he1 hf1 hlf hms
        obtain ⟨c0, c1, c2, c3, c4, c5, c6, cf⟩ := HS.out.qd.1
        go_wp2_with fail
        refine (value_calls m (.slice A i c) L wr (Tabs.below HT.out HS.out.qd.2.2) (by have := HS.out.evs; rw [HN.out] at this; exact this) (by have := HN.out; omega) HMS.out.1 HMS.out.2).mono ?_
        rw [HAB.out.1, HAB.out.2.1]
        rintro e w6 ⟨rfl, hb6⟩
        have HS6 := Lib.hid (HS.out.over hb6)
        have HV6 := Lib.hid (HV.out.over hb6)
        clear hb6 HS HV c0 c1 c2 c3 c4 c5 c6 cf
        obtain ⟨c0, c1, c2, c3, c4, c5, c6, cf⟩ := HS6.out.qd.1
        go_wp2_with fail
        refine (value_calls m (.slice A' i c') (turnedL L t i) w6 (Tabs.below HT.out HS6.out.qd.2.2) HV6.out (by rw [turnedL_length]; omega) HMS.out.1 HMS.out.2).mono ?_
        rw [HVT.out, HAB.out.1, HAB.out.2.1]
        rintro e w7 ⟨rfl, hb7⟩
        have HS7 := Lib.hid (HS6.out.over hb7)
        clear hb7 HS6 HV6 c0 c1 c2 c3 c4 c5 c6 cf
        obtain ⟨c0, c1, c2, c3, c4, c5, c6, cf⟩ := HS7.out.qd.1
        have hF := HLF.out
        have g1 : decide (a < 0) = false := decide_eq_false (by have := hF.a0; omega)
        have g2 : decide (m.ca < a) = false := decide_eq_false (by have := hF.a1; omega)
        have g3 : decide (b < 0) = false := decide_eq_false (by have := hF.b0; omega)
        have g4 : decide (m.ca < b) = false := decide_eq_false (by have := hF.b1; omega)
        have hk4 : (m.k != 4) = false ∨ ((m.k != 4) = true ∧ (b != 0) = false) := by
          by_cases h : m.k = 4
          · exact .inl (by rw [h]; rfl)
          · exact .inr ⟨by simp [h], by rw [hF.nr h]; rfl⟩
        clear hF
        go_upto_region 14 with (fail)
        go_cut [96] (fun s96 wd => s96 = .bool false ∧ Hid (LS w D B m (.slice A L.length c) L (.slice A' i c') t i wd))
        case first =>
          rcases hk4 with hk4 | ⟨hk4, hk5⟩ <;> go_wp2_with fail
          all_goals
            go_meet
            exact ⟨rfl, HS7⟩
        case rest =>
          obtain ⟨rfl, hcut⟩ := hcut
          clear g1 g2 g3 g4 hk4 HS7 c0 c1 c2 c3 c4 c5 c6 cf
          have HS7 := hcut
          clear hcut
          obtain ⟨c0, c1, c2, c3, c4, c5, c6, cf⟩ := HS7.out.qd.1
          by_cases h3 : m.k = 3
          · have hb3 : (m.k == 3) = true := by rw [h3]; rfl
            have hle : decide (a ≤ 1) = true := decide_eq_true (HLF.out.sh h3)
            clear h3
            go_wp2_with fail
            go_ret
            exact ⟨rfl, HS7.out.qd.2.2⟩
          · have hb3 : (m.k == 3) = false := by simp [h3]
            have H3 := Lib.hid h3
            clear h3
            have hca := HF.out.1.c1
            have hcb := HF.out.2
            go_upto_region 19 with (fail)
            have hY8 := val_start wc m
            have hS8 := HS7.out.over (below_alloc wc (.cells #[.int .i64 m.k, .string m.nm, .string m.bl, .int .i64 m.wi, .int .i64 m.ca, .int .i64 m.le, .int .i64 m.be] 29))
            obtain ⟨W8, hW8⟩ : ∃ W8, wc.alloc (.cells #[.int .i64 m.k, .string m.nm, .string m.bl, .int .i64 m.wi, .int .i64 m.ca, .int .i64 m.le, .int .i64 m.be] 29) = W8 := ⟨_, rfl⟩
            have hYB := HS7.out.hBW
            rw [hW8] at hY8 hS8 ⊢
            obtain ⟨Y, hYe⟩ : ∃ Y, wc.heap.size = Y := ⟨_, rfl⟩
            rw [hYe] at hY8 hYB ⊢
            have hDY : D < Y := Nat.lt_of_lt_of_le hS8.hB hYB
            have HY8 := Lib.hid hY8
            have HYB := Lib.hid hYB
            have HS8 := Lib.hid hS8
            clear hW8 hYe hS8 hYB c0 c1 c2 c3 c4 c5 c6 cf HS7
            obtain ⟨y0, y1, y2, y3, y4, y5, y6, yf⟩ := hY8
            have c4 := HS8.out.qd.1.c4
            have hne : (Y = D) = False := eq_false (by omega)
            go_wp2_with fail
            obtain ⟨W9, hW9, hb9⟩ : ∃ W9, W8.setCell ⟨Y, 4, none⟩ (.int .i64 (m.ca + a3)) = W9 ∧ Below Y W8 W9 := ⟨_, rfl, (Below.refl Y W8).setCell (show Y ≤ Y from Nat.le_refl _) _⟩
            have hev9 : IsEvs (.slice A i c) L W9 := by
              have h := HS8.out.evs
              have hl := HS8.out.low
              rw [HN.out] at h hl
              have hB := HYB.out
              refine IsEvs.kept (B := B) h (by rw [HN.out]; exact hl) (fun k _ hkB => hb9.block k (by omega)) hb9.size
            have hT9 : Tabs W9 := Tabs.below HT.out (HS8.out.qd.2.2.trans (hb9.mono (by have := HDW.out; omega)))
            have hB9 : Below w.heap.size w W9 := HS8.out.qd.2.2.trans (hb9.mono (by have := HDW.out; omega))
            have c9 := (hb9.cell (p := ⟨D, 4, none⟩) hDY).trans c4
            have hD9 : D < W9.heap.size := Nat.lt_of_lt_of_le HS8.out.qd.2.1 hb9.size
            rw [hW9]
            have H9 := Lib.hid (And.intro hev9 (And.intro hT9 hB9))
            clear hW9 hb9 hev9 hT9 hB9 y0 y1 y2 y3 y4 y5 y6 yf c4 HS8 HY8 HYB
            refine (value_calls { m with ca := m.ca + a3 } (.slice A i c) L W9 H9.out.2.1 H9.out.1 (by have := HN.out; omega) HMS.out.1 HMS.out.2).mono ?_
            rw [HY.out, HAB.out.2.2.1, HAB.out.2.2.2]
            rintro e w10 ⟨rfl, hb10⟩
            have d4 := (hb10.cell (p := ⟨D, 4, none⟩) hD9).trans c9
            have HB10 := Lib.hid (H9.out.2.2.trans (hb10.mono H9.out.2.2.size))
            have hg := HLF.out.ge H3.out
            have hf := HLF.out.gf H3.out
            have g1 : decide (a ≤ e1) = true := decide_eq_true hg.1
            have g2 : decide (b ≤ f1) = true := decide_eq_true hf.1
            have g3 : (a == e1) = true ∨ ((a == e1) = false ∧ (a == m.ca) = true) := by
              by_cases h : a = e1
              · exact .inl (by simp [h])
              · exact .inr ⟨by simp [h], by rcases hg.2 with h2 | h2; exact absurd h2 h; simp [h2]⟩
            have g4 : (b == f1) = true ∨ ((b == f1) = false ∧ (b == m.ca) = true) := by
              by_cases h : b = f1
              · exact .inl (by simp [h])
              · exact .inr ⟨by simp [h], by rcases hf.2 with h2 | h2; exact absurd h2 h; simp [h2]⟩
            clear hb10 c9 hg hf H9
            rcases g3 with g3 | ⟨g3, g5⟩ <;> rcases g4 with g4 | ⟨g4, g6⟩ <;> go_wp2_with fail
            all_goals
              go_ret
              exact ⟨rfl, HB10.out⟩
  · have hsz : (300 : Int) < (l.length : Int) := by omega
    go_wp2_with fail
    go_ret
    exact ⟨rfl, HB2.out⟩
end PL
end Go.Proofs.YtbiolondnkeakaaDoor
