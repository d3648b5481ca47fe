/- The walk of metric.Parse. -/
import Derived.Test.YtbiolondnkeakaaDoorMet
import Derived.Maps.RangeRun
import Derived.Deep.DeepCutAuto
namespace Go.Proofs.YtbiolondnkeakaaDoor
open Go.RowKit Plain
open Go.ChangeMaps (setBlock)

theorem gb_setBlock (w : World) (r : Nat) (o : Obj) : w.grownBy (setBlock w r o) (some r) :=
  ⟨rfl, rfl, rfl, by simp [setBlock], fun k hk hne => by
    simp only [setBlock, Array.getElem?_setIfInBounds]
    rw [if_neg (fun e => hne (by rw [e]))]⟩
theorem gb_drew {w w' : World} {row : Option Nat} (h : w.grownBy w' row) : w.grownBy w'.drew row := ⟨h.os, h.tape, h.output, h.size, h.block⟩
theorem setBlock_at (w : World) (r : Nat) (o : Obj) (h : r < w.heap.size) : (setBlock w r o).heap[r]? = some o := by
  simp [setBlock, h]

/-- Where the parse begins: the words, the metric, the result's cell. -/
theorem parse_start (w w2 : World) (A : Nat) (l : List ByteArray) (hT : Tabs w) (h8 : 6 ≤ w.heap.size) (hz : IsM w.heap.size .zero (w.alloc (.cells #[.int .i64 0, .string ⟨#[]⟩, .string ⟨#[]⟩, .int .i64 0, .int .i64 0, .int .i64 0, .int .i64 0] 29))) (hb2 : Below (w.heap.size + 1) (w.alloc (.cells #[.int .i64 0, .string ⟨#[]⟩, .string ⟨#[]⟩, .int .i64 0, .int .i64 0, .int .i64 0, .int .i64 0] 29)) w2)
    (hA0 : w.heap.size + 1 ≤ A) (hA : A < w2.heap.size) (hrow : ∀ j, j < l.length → w2.cell? ⟨A, j, none⟩ = some (.string (l.getD j ⟨#[]⟩))) (hl : ∀ x ∈ l, x.size ≤ 200) :
    ∃ W, (w2.alloc (.cells #[.slice (some ⟨A, 0, none⟩) l.length l.length, .bool false] 62)).alloc (.cells #[.int .i64 0, .string ⟨#[]⟩, .string ⟨#[]⟩, .int .i64 0, .int .i64 0, .int .i64 (-1099511627776), .int .i64 0] 29) = W ∧
      PSt w w.heap.size w2.heap.size A (w2.heap.size + 1) ⟨l, false⟩ .start W := by
  have hb : Below w2.heap.size w2 ((w2.alloc (.cells #[.slice (some ⟨A, 0, none⟩) l.length l.length, .bool false] 62)).alloc (.cells #[.int .i64 0, .string ⟨#[]⟩, .string ⟨#[]⟩, .int .i64 0, .int .i64 0, .int .i64 (-1099511627776), .int .i64 0] 29)) := ((Below.refl _ _).alloc (Nat.le_refl _) _).alloc (by simp) _
  have h1 : Below w.heap.size w w2 := ((Below.refl _ _).alloc (Nat.le_refl _) _).trans (hb2.mono (by omega))
  have hsz : w.heap.size + 1 ≤ w2.heap.size := by have := hb2.size; simpa using this
  refine ⟨_, rfl, ?_, ?_, ?_, h1.trans (hb.mono (by omega)), Tabs.below (Tabs.below hT h1) hb, Nat.le_refl _, by omega, hA, rfl, by simp, by omega, hl⟩
  · exact ⟨0, l.length, by simp, by simp, by simp, by simp, fun j hj => by rw [Nat.zero_add]; exact (hb.cell hA).trans (hrow j hj), by omega, Nat.le_refl _⟩
  · exact ⟨by simp [Met.start], by simp [Met.start], by simp [Met.start], by simp [Met.start], by simp [Met.start], by simp [Met.start], by simp [Met.start], fun i => by simp⟩
  · have hb3 : Below (w.heap.size + 1) (w.alloc (.cells #[.int .i64 0, .string ⟨#[]⟩, .string ⟨#[]⟩, .int .i64 0, .int .i64 0, .int .i64 0, .int .i64 0] 29)) _ := hb2.trans (hb.mono hsz)
    exact hz.grown (b := w.heap.size + 1) ⟨hb3.os, hb3.tape, hb3.output, hb3.size, fun k hk _ => hb3.block k (by simpa using hk)⟩ (by simp) (by omega)

/-- The kinds that have been seen. -/
def KOK (name : ByteArray) (seen : Array Nat) (k : Int) : Prop := (k = 0 ∨ k = kindOf name) ∧ ∀ i : Nat, i < 4 → seen.contains i = true → kindOf name = (i : Int) + 1 → k = (i : Int) + 1
theorem kindOf_range (s : ByteArray) : kindOf s = 0 ∨ kindOf s = 1 ∨ kindOf s = 2 ∨ kindOf s = 3 ∨ kindOf s = 4 := by
  unfold kindOf
  repeat' split
  all_goals omega
theorem kindOf_entry {e : MapEntry} (he : e ∈ kindsM.toList) : ∃ (i : Nat) (s : ByteArray) (f : Nat), e = ⟨.int .i64 ((i : Int) + 1), kindV s f, i⟩ ∧ i < 4 ∧ ∀ nm, s = nm ↔ kindOf nm = (i : Int) + 1 := by
  have h1 : wSum ≠ wCount := by decide
  have h2 : wSum ≠ wShare := by decide
  have h3 : wSum ≠ wRatio := by decide
  have h4 : wCount ≠ wShare := by decide
  have h5 : wCount ≠ wRatio := by decide
  have h6 : wShare ≠ wRatio := by decide
  simp only [kindsM, List.mem_cons, List.not_mem_nil, or_false] at he
  rcases he with rfl | rfl | rfl | rfl
  · refine ⟨0, wSum, _, rfl, by omega, fun nm => ⟨fun h => by subst h; unfold kindOf; simp, fun h => ?_⟩⟩
    unfold kindOf at h
    by_cases a : nm = wSum
    · exact a.symm
    · exfalso; rw [if_neg a] at h; repeat' split at h
      all_goals omega
  · refine ⟨1, wCount, _, rfl, by omega, fun nm => ⟨fun h => by subst h; unfold kindOf; rw [if_neg h1.symm, if_pos rfl]; rfl, fun h => ?_⟩⟩
    unfold kindOf at h
    by_cases a : nm = wCount
    · exact a.symm
    · exfalso; rw [if_neg a] at h; repeat' split at h
      all_goals omega
  · refine ⟨2, wShare, _, rfl, by omega, fun nm => ⟨fun h => by subst h; unfold kindOf; rw [if_neg h2.symm, if_neg h4.symm, if_pos rfl]; rfl, fun h => ?_⟩⟩
    unfold kindOf at h
    by_cases a : nm = wShare
    · exact a.symm
    · exfalso; rw [if_neg a] at h; repeat' split at h
      all_goals omega
  · refine ⟨3, wRatio, _, rfl, by omega, fun nm => ⟨fun h => by subst h; unfold kindOf; rw [if_neg h3.symm, if_neg h5.symm, if_neg h6.symm, if_pos rfl]; rfl, fun h => ?_⟩⟩
    unfold kindOf at h
    by_cases a : nm = wRatio
    · exact a.symm
    · exfalso; rw [if_neg a] at h; repeat' split at h
      all_goals omega
theorem KOK.start (name : ByteArray) : KOK name #[] 0 := ⟨.inl rfl, fun i _ h => by simp at h⟩
theorem KOK.done {name : ByteArray} {seen : Array Nat} {k : Int} (h : KOK name seen k) (hall : ∀ x ∈ kindsM.toList, seen.contains x.born = true) : k = kindOf name := by
  have s0 : seen.contains 0 = true := hall ⟨.int .i64 1, kindV ⟨#[115, 117, 109]⟩ 52, 0⟩ (by simp [kindsM])
  have s1 : seen.contains 1 = true := hall ⟨.int .i64 2, kindV ⟨#[99, 111, 117, 110, 116]⟩ 53, 1⟩ (by simp [kindsM])
  have s2 : seen.contains 2 = true := hall ⟨.int .i64 3, kindV ⟨#[115, 104, 97, 114, 101]⟩ 53, 2⟩ (by simp [kindsM])
  have s3 : seen.contains 3 = true := hall ⟨.int .i64 4, kindV ⟨#[114, 97, 116, 105, 111]⟩ 52, 3⟩ (by simp [kindsM])
  rcases kindOf_range name with e | e | e | e | e
  · rcases h.1 with h1 | h1
    · rw [h1, e]
    · exact h1
  · rw [h.2 0 (by omega) s0 (by rw [e]; rfl), e]; rfl
  · rw [h.2 1 (by omega) s1 (by rw [e]; rfl), e]; rfl
  · rw [h.2 2 (by omega) s2 (by rw [e]; rfl), e]; rfl
  · rw [h.2 3 (by omega) s3 (by rw [e]; rfl), e]; rfl
theorem KOK.yes {name : ByteArray} {seen : Array Nat} {k : Int} {i : Nat} (_h : KOK name seen k) (hi : kindOf name = (i : Int) + 1) : KOK name (seen.push i) ((i : Int) + 1) :=
  ⟨.inr hi.symm, fun j _ _ hk => by omega⟩
theorem KOK.no {name : ByteArray} {seen : Array Nat} {k : Int} {i : Nat} (h : KOK name seen k) (hi : ¬ kindOf name = (i : Int) + 1) : KOK name (seen.push i) k :=
  ⟨h.1, fun j hj hc hk => by
    rw [contains_push] at hc
    rcases Bool.or_eq_true _ _ ▸ hc with h1 | h1
    · exact h.2 j hj h1 hk
    · have : j = i := beq_iff_eq.1 h1
      subst this
      exact absurd hk hi⟩

theorem fields_small (s : ByteArray) (hs : s.size ≤ 200) : ∀ x ∈ Lib.goFieldsP blank s, x.size ≤ 200 := by
  intro x hx
  unfold Lib.goFieldsP at hx
  obtain ⟨y, _, rfl⟩ := List.mem_map.1 hx
  rw [ByteArray.size_extract]
  omega

theorem nx_le (l : List ByteArray) (h : ∀ x ∈ l, x.size ≤ 200) : (nx l).size ≤ 200 := by
  unfold nx
  cases l with
  | nil => decide
  | cons x t => exact h x List.mem_cons_self
theorem tail_le (l : List ByteArray) (h : ∀ x ∈ l, x.size ≤ 200) : ∀ x ∈ l.tail, x.size ≤ 200 := fun x hx => h x (List.mem_of_mem_tail hx)
theorem metOf_small (l : List ByteArray) (h : ∀ x ∈ l, x.size ≤ 200) (k : Int) : (metOf ⟨l, false⟩ k).nm.size ≤ 200 ∧ (metOf ⟨l, false⟩ k).bl.size ≤ 200 := by
  refine ⟨nx_le _ (tail_le _ (tail_le _ h)), ?_⟩
  show (PS.toV _ k).size ≤ 200
  unfold PS.toV
  split
  · exact nx_le _ (tail_le _ (tail_le _ (tail_le _ (tail_le _ h))))
  · decide
theorem below_seven {W0 w : World} {R : Nat} (h : Below W0.heap.size W0 w) (hR : W0.heap.size ≤ R) (v0 v1 v2 v3 v4 v5 v6 : Value) :
    Below W0.heap.size W0 (((((((w.setCell ⟨R, 0, none⟩ v0).setCell ⟨R, 1, none⟩ v1).setCell ⟨R, 2, none⟩ v2).setCell ⟨R, 3, none⟩ v3).setCell ⟨R, 4, none⟩ v4).setCell ⟨R, 5, none⟩ v5).setCell ⟨R, 6, none⟩ v6) :=
  ((((((h.setCell hR _).setCell hR _).setCell hR _).setCell hR _).setCell hR _).setCell hR _).setCell hR _
theorem endOf_bad {q : PS} {m : Met} (h : q.bad = true ∨ m.k = 0 ∨ q.l ≠ []) : endOf q m = (.zero, 1) := if_pos h
theorem endOf_err {q : PS} {m : Met} (h : ¬ (q.bad = true ∨ m.k = 0 ∨ q.l ≠ [])) (he : m.err ≠ 0) : endOf q m = (.zero, m.err) := by unfold endOf; rw [if_neg h, if_pos he]
theorem endOf_ok {q : PS} {m : Met} (h : ¬ (q.bad = true ∨ m.k = 0 ∨ q.l ≠ [])) (he : m.err = 0) : endOf q m = (m, 0) := by unfold endOf; rw [if_neg h, if_neg (fun e => e he)]
theorem ret_met {m m' : Met} {e e' : Int} (h : (m, e) = (m', e')) : Ending.returned (.tuple #[m'.val, .int .i64 e']) = Ending.returned (.tuple #[m.val, .int .i64 e]) := by cases h; rfl

/-- The loop over the kinds. -/
def KRel (W0 : World) (R b A M bm r : Nat) (p : PS) (name : ByteArray) (w : World) : Prop :=
  ∃ (k : Int) (seen : Array Nat), PSt W0 R b A M p { Met.start with k := k } w ∧ KOK name seen k ∧ w.heap[r]? = some (.mapIter (some bm) 4 seen 4) ∧ w.heap[bm]? = some (.map kindsM 4)
theorem kinds_old : ∀ x ∈ kindsM.toList, x.born < 4 := by
  intro x hx
  obtain ⟨i, s, f, rfl, hi, _⟩ := kindOf_entry hx
  exact hi
theorem kinds_nodup : (kindsM.toList.map (·.born)).Nodup := by decide

theorem krel_end {W0 : World} {R b A M bm n : Nat} {p : PS} {name : ByteArray} {W : World} {k : Int} {seen : Array Nat} (o : Obj) (hst : PSt W0 R b A M p { Met.start with k := k } W) (hk : KOK name seen k) (hi : W.heap[bm + 1]? = some (.mapIter (some bm) 4 seen 4)) (hm : W.heap[bm]? = some (.map kindsM 4))
    (hn : (leftOf kindsM seen).size < n) (hlt : bm + 1 < W.heap.size) : KRel W0 R b A M bm (bm + 1) p name (W.alloc o) ∧ (leftOf kindsM ((W.alloc o).iterSeen (bm + 1))).size < n := by
  have h1 : (W.alloc o).heap[bm + 1]? = some (.mapIter (some bm) 4 seen 4) := (heap_alloc_old _ _ hlt).trans hi
  refine ⟨⟨k, seen, hst.over (g := W.heap.size) (gb_below _ ((Below.refl _ _).alloc (Nat.le_refl _) _)) hst.hs, hk, h1, (heap_alloc_old _ _ (by omega)).trans hm⟩, ?_⟩
  unfold World.iterSeen
  rw [h1]
  exact hn

set_option maxRecDepth 100000 in
set_option maxHeartbeats 8000000 in
theorem parse_calls (s : ByteArray) (hs : s.size ≤ 200) (w : World) (hT : Tabs w) (h8 : 6 ≤ w.heap.size) :
    Calls Tryd.prog 14 #[.string s] w fun e w' => e = .returned (.tuple #[(parseM s).1.val, .int .i64 (parseM s).2]) ∧ Below w.heap.size w w' := by
  have HT := Lib.hid (And.intro hT h8)
  clear hT h8
  go_enter Tryd.func14, Tryd.ntmps14
  go_wp2_with fail
  refine (fields_calls s _ (by omega)).mono ?_
  rintro e w2 ⟨A, rfl, hA, hown, hb2⟩
  have hsm := fields_small s hs
  obtain ⟨l, hl⟩ : ∃ l, Lib.goFieldsP blank s = l := ⟨_, rfl⟩
  rw [hl] at hown hsm ⊢
  obtain ⟨hA2, hrow⟩ := row_of_own hown
  have HO := Lib.hid (And.intro hb2 (And.intro hrow (And.intro hA (And.intro hsm hl))))
  clear hown hb2 hrow hA hsm hl
  go_wp2_with fail
  obtain ⟨W3, hW3, st3⟩ := parse_start w w2 A l HT.out.1 HT.out.2 ⟨by simp [Met.zero], by simp [Met.zero], by simp [Met.zero], by simp [Met.zero], by simp [Met.zero], by simp [Met.zero], by simp [Met.zero], fun i => by simp⟩ (by have := HO.out.1; rw [World.size_alloc] at this; exact this) (by have := HO.out.2.2.1; rw [World.size_alloc] at this; exact this) hA2 HO.out.2.1 HO.out.2.2.2.1
  rw [hW3]
  have HL := Lib.hid HO.out.2.2.2.2
  have HSM := Lib.hid HO.out.2.2.2.1
  clear hW3 HO HT hA2
  obtain ⟨R, hR⟩ : ∃ R, w.heap.size = R := ⟨_, rfl⟩
  obtain ⟨b, hb⟩ : ∃ b, w2.heap.size = b := ⟨_, rfl⟩
  rw [hR, hb] at st3
  rw [hR, hb]
  have HR := Lib.hid hR
  clear hR hb
  refine (next_st st3).mono ?_
  rintro e w4 ⟨rfl, st4⟩
  clear st3
  obtain ⟨name, hname⟩ : ∃ x, nx l = x := ⟨_, rfl⟩
  change PSt w R b A (b + 1) (PS.nxt ⟨l, false⟩) .start w4 at st4
  rw [show nx (PS.l ⟨l, false⟩) = name from hname]
  have HN := Lib.hid hname
  clear hname
  have H4 := Lib.hid st4
  clear st4
  go_wp2_with fail
  refine (kinds_calls w4).mono ?_
  rintro e w5 ⟨rfl, rfl⟩
  have krr : (Instr.range 64 (.map (some w4.heap.size))).run Tryd.prog (w4.alloc (.map kindsM 4)) = .ok (.pointer (some ⟨w4.heap.size + 1, 0, none⟩)) ((w4.alloc (.map kindsM 4)).alloc (.mapIter (some w4.heap.size) 4 #[] 4)) := by
    have := run_range_map (P := Tryd.prog) (w4.alloc (.map kindsM 4)) 64 3 68 w4.heap.size kindsM 4 Tryd.underlying64 (heap_alloc_new w4 _)
    rw [World.size_alloc] at this
    exact this
  go_wp2_with fail
  clear krr
  obtain ⟨bm, hbm⟩ : ∃ bm, w4.heap.size = bm := ⟨_, rfl⟩
  have hst : KRel w R b A (b + 1) bm (bm + 1) (PS.nxt ⟨l, false⟩) name ((w4.alloc (.map kindsM 4)).alloc (.mapIter (some w4.heap.size) 4 #[] 4)) := by
    have h4 := H4.out
    have hM := h4.hs
    subst hbm
    refine ⟨0, #[], h4.over (g := w4.heap.size) (gb_below _ (((Below.refl _ _).alloc (Nat.le_refl _) _).alloc (by simp) _)) hM, KOK.start _, ?_, ?_⟩
    · have := heap_alloc_new (w4.alloc (.map kindsM 4)) (.mapIter (some w4.heap.size) 4 #[] 4)
      rw [World.size_alloc] at this
      exact this
    · rw [heap_alloc_old _ _ (by simp)]
      exact heap_alloc_new w4 _
  rw [hbm]
  rw [hbm] at hst
  have hMb : b + 1 < bm := by have := H4.out.hs; omega
  clear hbm H4
  go_loopw [] (fun wr => KRel w R b A (b + 1) bm (bm + 1) (PS.nxt ⟨l, false⟩) name wr) (fun wr => (leftOf kindsM (wr.iterSeen (bm + 1))).size)
  case atStart => exact hst
  case round =>
    clear hst
    obtain ⟨k, seen, st, hk, hi, hm⟩ := hrel
    rcases run_next_at (P := Tryd.prog) wr 0 (bm + 1) bm 4 4 seen kindsM 4 hi hm kinds_old (Nat.le_refl _) with ⟨h0, hrun⟩ | ⟨e, he, w1, hw1, hrun⟩
    · have hkk : k = kindOf name := hk.done (all_seen kindsM seen h0)
      subst hkk
      have hnx : ∀ ty, (Instr.next (.pointer (some ⟨bm + 1, 0, none⟩)) false ty).run Tryd.prog wr = .ok (.tuple #[.bool false]) wr := fun _ => hrun
      clear hrun hk hi hm h0 hMb
      have ST := Lib.hid st
      clear st
      go_wp2_with fail
      clear hnx
      obtain ⟨K, hK⟩ : ∃ K, kindOf name = K := ⟨_, rfl⟩
      rw [hK] at ST
      have HK := Lib.hid hK
      clear hK
      obtain ⟨p0, hp0⟩ : ∃ p0 : PS, p0 = ⟨l, false⟩ := ⟨_, rfl⟩
      rw [← hp0] at ST
      have HP := Lib.hid hp0
      clear hp0
      refine (word_st ST.out wOf).mono ?_
      rintro e w6 ⟨rfl, st6⟩
      have ST6 := Lib.hid st6
      clear ST st6
      go_wp2_with fail
      refine (next_st ST6.out).mono ?_
      rintro e w7 ⟨rfl, st7⟩
      change PSt w R b A (b + 1) p0.p3 _ w7 at st7
      have c1 := st7.met.c1
      have f1 := st7.met.fr 1
      have c0 := st7.met.c0
      have hs7 := st7.hs
      have st8 := st7.store 1 _ (st7.met.setNm (nx (p0.nxt.wrd wOf).l))
      have ST8 := Lib.hid st8
      clear ST6 st7 st8
      obtain ⟨nm, hnm⟩ : ∃ x, nx (p0.nxt.wrd wOf).l = x := ⟨_, rfl⟩
      rw [hnm] at ST8 ⊢
      have HNM := Lib.hid hnm
      clear hnm
      go_upto_if 41 with (fail)
      go_cut [] (fun wc => PSt w R b A (b + 1) (p0.p3.toN K) { Met.start with k := K, nm := nm, bl := p0.p3.toV K } wc)
      case first =>
        by_cases h4 : K = 4
        · have hb4 : (K == 4) = true := by rw [h4]; rfl
          have H4 := Lib.hid h4
          clear h4
          go_wp2_with fail
          refine (word_st ST8.out wTo).mono ?_
          rintro e w9 ⟨rfl, st9⟩
          have ST9 := Lib.hid st9
          clear ST8 st9
          go_wp2_with fail
          refine (next_st ST9.out).mono ?_
          rintro e w10 ⟨rfl, st10⟩
          have d1 := st10.met.c2
          have g1 := st10.met.fr 2
          have hs10 := st10.hs
          have st11 := st10.store 2 _ (st10.met.setBl (nx (p0.p3.wrd wTo).l))
          have ST11 := Lib.hid st11
          clear ST9 st10 st11
          go_wp2_with fail
          go_meet
          have e1 : p0.p3.toN K = (p0.p3.wrd wTo).nxt := if_pos H4.out
          have e2 : p0.p3.toV K = nx (p0.p3.wrd wTo).l := if_pos H4.out
          rw [e1, e2]
          exact ST11.out
        · have hb4 : (K == 4) = false := by simp [h4]
          have H4 := Lib.hid h4
          clear h4
          go_wp2_with fail
          go_meet
          have e1 : p0.p3.toN K = p0.p3 := if_neg H4.out
          have e2 : p0.p3.toV K = ⟨#[]⟩ := if_neg H4.out
          rw [e1, e2]
          exact ST8.out
      case rest =>
        clear ST8 c0 c1 f1 hs7
        have STC := Lib.hid hcut
        clear hcut
        go_wp2_with fail
        refine (word_st STC.out wWithin).mono ?_
        rintro e w12 ⟨rfl, st12⟩
        change PSt w R b A (b + 1) (p0.p5 K) _ w12 at st12
        have ST12 := Lib.hid st12
        clear STC st12
        go_wp2_with fail
        refine (number_st ST12.out).mono ?_
        rintro e w13 ⟨rfl, st13⟩
        have c3 := st13.met.c3
        have f3 := st13.met.fr 3
        have hs13 := st13.hs
        have st14 := st13.store 3 _ (st13.met.setWi (p0.p5 K).numV)
        have ST14 := Lib.hid st14
        clear ST12 st13 st14
        go_wp2_with fail
        refine (word_st ST14.out wCap).mono ?_
        rintro e w15 ⟨rfl, st15⟩
        change PSt w R b A (b + 1) (p0.p7 K) _ w15 at st15
        have ST15 := Lib.hid st15
        clear ST14 st15 c3 f3 hs13
        go_wp2_with fail
        refine (number_st ST15.out).mono ?_
        rintro e w16 ⟨rfl, st16⟩
        change PSt w R b A (b + 1) (p0.p8 K) _ w16 at st16
        have c4 := st16.met.c4
        have f4 := st16.met.fr 4
        have hs16 := st16.hs
        have st17 := st16.store 4 _ (st16.met.setCa (p0.p7 K).numV)
        have ST17 := Lib.hid st17
        clear ST15 st16 st17
        go_wp2_with fail
        refine (has_st ST17.out wLeast).mono ?_
        rintro e w18 ⟨rfl, st18⟩
        have ST18 := Lib.hid st18
        clear ST17 st18 c4 f4 hs16
        go_upto_if 58 with (fail)
        go_cut [] (fun wc => PSt w R b A (b + 1) (p0.p9 K) { Met.start with k := K, nm := nm, bl := p0.p3.toV K, wi := (p0.p5 K).numV, ca := (p0.p7 K).numV, le := (p0.p8 K).optV wLeast (-1099511627776) } wc)
        case first =>
          cases hh : (p0.p8 K).hasB wLeast with
          | true =>
            have H4 := Lib.hid hh
            clear hh
            go_wp2_with fail
            refine (number_st ST18.out).mono ?_
            rintro e w19 ⟨rfl, st19⟩
            have d1 := st19.met.c5
            have g1 := st19.met.fr 5
            have hs19 := st19.hs
            have st20 := st19.store 5 _ (st19.met.setLe ((p0.p8 K).skip wLeast).numV)
            have ST20 := Lib.hid st20
            clear ST18 st19 st20
            go_wp2_with fail
            go_meet
            have e1 : p0.p9 K = ((p0.p8 K).skip wLeast).num := if_pos H4.out
            have e2 : (p0.p8 K).optV wLeast (-1099511627776) = ((p0.p8 K).skip wLeast).numV := if_pos H4.out
            rw [e1, e2]
            exact ST20.out
          | false =>
            have H4 := Lib.hid hh
            clear hh
            go_wp2_with fail
            go_meet
            have e1 : p0.p9 K = p0.p8 K := if_neg (by rw [H4.out]; exact Bool.noConfusion)
            have e2 : (p0.p8 K).optV wLeast (-1099511627776) = -1099511627776 := if_neg (by rw [H4.out]; exact Bool.noConfusion)
            have e3 : (p0.p8 K).skip wLeast = p0.p8 K := if_neg (of_decide_eq_false H4.out)
            rw [e1, e2]
            have h := ST18.out
            rw [e3] at h
            exact h
        case rest =>
          clear ST18
          have STD := Lib.hid hcut
          clear hcut
          go_wp2_with fail
          refine (has_st STD.out wBefore).mono ?_
          rintro e w21 ⟨rfl, st21⟩
          have ST21 := Lib.hid st21
          clear STD st21
          go_upto_if 63 with (fail)
          go_cut [] (fun wc => PSt w R b A (b + 1) (p0.p10 K) { Met.start with k := K, nm := nm, bl := p0.p3.toV K, wi := (p0.p5 K).numV, ca := (p0.p7 K).numV, le := (p0.p8 K).optV wLeast (-1099511627776), be := (p0.p9 K).optV wBefore 0 } wc)
          case first =>
            cases hh : (p0.p9 K).hasB wBefore with
            | true =>
              have H4 := Lib.hid hh
              clear hh
              go_wp2_with fail
              refine (number_st ST21.out).mono ?_
              rintro e w22 ⟨rfl, st22⟩
              have d1 := st22.met.c6
              have g1 := st22.met.fr 6
              have hs22 := st22.hs
              have st23 := st22.store 6 _ (st22.met.setBe ((p0.p9 K).skip wBefore).numV)
              have ST23 := Lib.hid st23
              clear ST21 st22 st23
              go_wp2_with fail
              go_meet
              have e1 : p0.p10 K = ((p0.p9 K).skip wBefore).num := if_pos H4.out
              have e2 : (p0.p9 K).optV wBefore 0 = ((p0.p9 K).skip wBefore).numV := if_pos H4.out
              rw [e1, e2]
              exact ST23.out
            | false =>
              have H4 := Lib.hid hh
              clear hh
              go_wp2_with fail
              go_meet
              have e1 : p0.p10 K = p0.p9 K := if_neg (by rw [H4.out]; exact Bool.noConfusion)
              have e2 : (p0.p9 K).optV wBefore 0 = 0 := if_neg (by rw [H4.out]; exact Bool.noConfusion)
              have e3 : (p0.p9 K).skip wBefore = p0.p9 K := if_neg (of_decide_eq_false H4.out)
              rw [e1, e2]
              have h := ST21.out
              rw [e3] at h
              exact h
          case rest =>
            clear ST21
            have hm : ({ Met.start with k := K, nm := nm, bl := p0.p3.toV K, wi := (p0.p5 K).numV, ca := (p0.p7 K).numV, le := (p0.p8 K).optV wLeast (-1099511627776), be := (p0.p9 K).optV wBefore 0 } : Met) = metOf p0 K := by
              unfold metOf
              rw [HNM.out]
            rw [hm] at hcut
            obtain ⟨m, hmm⟩ : ∃ m, metOf p0 K = m := ⟨_, rfl⟩
            obtain ⟨q, hq⟩ : ∃ q, p0.p10 K = q := ⟨_, rfl⟩
            rw [hmm, hq] at hcut
            have hans : parseM s = endOf q m := by
              unfold parseM
              rw [if_neg (by omega), HL.out]
              show parseW l = _
              unfold parseW
              rw [HN.out, HK.out, ← HP.out, hmm, hq]
            have hkm : m.k = K := by rw [← hmm]; rfl
            have HMS := Lib.hid (show m.nm.size ≤ 200 ∧ m.bl.size ≤ 200 by have e := metOf_small l HSM.out K; rw [← HP.out, hmm] at e; exact e)
            have HANS := Lib.hid (And.intro hans hkm)
            clear hm hmm hq hans HNM HN HK HP HL hkm
            have STE := Lib.hid hcut
            clear hcut
            clear hs
            have hR := STE.out.hR
            have r := STE.out.res
            have r0 := r.c0
            have r1 := r.c1
            have r2 := r.c2
            have r3 := r.c3
            have r4 := r.c4
            have r5 := r.c5
            have r6 := r.c6
            have rf := r.fr
            have c0 := STE.out.met.c0
            obtain ⟨o, c, iw⟩ := STE.out.words
            have s0 := iw.s0
            have s1 := iw.s1
            clear r iw
            cases hbad : q.bad with
            | true =>
              rw [hbad] at s1
              have hend := Lib.hid (endOf_bad (q := q) (m := m) (.inl hbad))
              clear hbad
              go_wp2_with fail
              exact bodyPost_ret (v := .tuple #[Met.zero.val, .int .i64 1]) (by simp [results, Tryd.results14, go_sem, Met.zero, Met.val, r0, r1, r2, r3, r4, r5, r6]) rfl ⟨by rw [HANS.out.1, hend.out], below_seven STE.out.below hR _ _ _ _ _ _ _⟩
            | false =>
              rw [hbad] at s1
              by_cases hk0 : m.k = 0
              · have hb0 : (m.k == 0) = true := by rw [hk0]; rfl
                have hend := Lib.hid (endOf_bad (q := q) (m := m) (.inr (.inl hk0)))
                clear hk0 hbad
                go_wp2_with fail
                exact bodyPost_ret (v := .tuple #[Met.zero.val, .int .i64 1]) (by simp [results, Tryd.results14, go_sem, Met.zero, Met.val, r0, r1, r2, r3, r4, r5, r6]) rfl ⟨by rw [HANS.out.1, hend.out], below_seven STE.out.below hR _ _ _ _ _ _ _⟩
              · have hb0 : (m.k == 0) = false := by simp [hk0]
                cases hql : q.l with
                | cons x t =>
                  rw [hql, List.length_cons] at s0
                  have hl1 : decide ((0 : Int) < (t.length : Int) + 1) = true := decide_eq_true (by omega)
                  have hend := Lib.hid (endOf_bad (q := q) (m := m) (.inr (.inr (by rw [hql]; exact List.cons_ne_nil _ _))))
                  clear hk0 hbad hql
                  go_wp2_with fail
                  exact bodyPost_ret (v := .tuple #[Met.zero.val, .int .i64 1]) (by simp [results, Tryd.results14, go_sem, Met.zero, Met.val, r0, r1, r2, r3, r4, r5, r6]) rfl ⟨by rw [HANS.out.1, hend.out], below_seven STE.out.below hR _ _ _ _ _ _ _⟩
                | nil =>
                  rw [hql, List.length_nil] at s0
                  have hno : ¬ (q.bad = true ∨ m.k = 0 ∨ q.l ≠ []) := by
                    rintro (h | h | h)
                    · rw [hbad] at h; cases h
                    · exact hk0 h
                    · exact h hql
                  have HNO := Lib.hid hno
                  have c1 := STE.out.met.c1
                  have c2 := STE.out.met.c2
                  have c3 := STE.out.met.c3
                  have c4 := STE.out.met.c4
                  have c5 := STE.out.met.c5
                  have c6 := STE.out.met.c6
                  clear hno hk0 hbad hql
                  go_wp2_with fail
                  refine (check_calls m.k m.nm m.bl m.wi m.ca m.le m.be wc STE.out.tabs (by have := HMS.out.1; omega) (by have := HMS.out.2; omega)).mono ?_
                  rintro e w30 ⟨rfl, hb30⟩
                  have STF := Lib.hid (STE.out.over (g := wc.heap.size) (gb_below _ hb30) STE.out.hs)
                  clear hb30 r0 r1 r2 r3 r4 r5 r6 rf c0 c1 c2 c3 c4 c5 c6 s0 s1
                  have r := STF.out.res
                  have r0 := r.c0
                  have r1 := r.c1
                  have r2 := r.c2
                  have r3 := r.c3
                  have r4 := r.c4
                  have r5 := r.c5
                  have r6 := r.c6
                  have rf := r.fr
                  clear r
                  have HE := Lib.hid (show checkP m.k m.nm m.bl m.wi m.ca m.le m.be = m.err from rfl)
                  obtain ⟨er, her⟩ : ∃ er, checkP m.k m.nm m.bl m.wi m.ca m.le m.be = er := ⟨_, rfl⟩
                  rw [her] at HE ⊢
                  clear her
                  by_cases he : er = 0
                  · have hne : (er != 0) = false := by rw [he]; rfl
                    have hend := Lib.hid (endOf_ok HNO.out (HE.out.symm.trans he))
                    clear he
                    have c0 := STF.out.met.c0
                    have c1 := STF.out.met.c1
                    have c2 := STF.out.met.c2
                    have c3 := STF.out.met.c3
                    have c4 := STF.out.met.c4
                    have c5 := STF.out.met.c5
                    have c6 := STF.out.met.c6
                    go_wp2_with fail
                    exact bodyPost_ret (v := .tuple #[m.val, .int .i64 0]) (by simp [results, Tryd.results14, go_sem, Met.val, r0, r1, r2, r3, r4, r5, r6]) rfl ⟨by rw [HANS.out.1, hend.out], below_seven STF.out.below hR _ _ _ _ _ _ _⟩
                  · have hne : (er != 0) = true := bne_iff_ne.2 he
                    have hend := Lib.hid (endOf_err HNO.out (fun h => he (HE.out.trans h)))
                    clear he
                    go_wp2_with fail
                    exact bodyPost_ret (v := .tuple #[Met.zero.val, .int .i64 er]) (by simp [results, Tryd.results14, go_sem, Met.zero, Met.val, r0, r1, r2, r3, r4, r5, r6]) rfl ⟨by rw [HANS.out.1, hend.out, HE.out], below_seven STF.out.below hR _ _ _ _ _ _ _⟩
    · obtain ⟨i, x, f, rfl, hi4, hx⟩ := kindOf_entry (mem_left he).1
      obtain ⟨W1, hW1⟩ : ∃ W1, setBlock w1 (bm + 1) (.mapIter (some bm) 4 (seen.push i) 4) = W1 := ⟨_, rfl⟩
      have hr1 : w1.heap = wr.heap := by rcases hw1 with rfl | rfl <;> rfl
      have hlt : bm + 1 < w1.heap.size := by
        rcases Nat.lt_or_ge (bm + 1) w1.heap.size with h' | h'
        · exact h'
        · rw [hr1] at h'
          rw [Array.getElem?_eq_none h'] at hi
          cases hi
      have hg1 : wr.grownBy W1 (some (bm + 1)) := by
        rw [← hW1]
        rcases hw1 with rfl | rfl
        · exact gb_setBlock _ _ _
        · exact gb_drew (w' := setBlock wr (bm + 1) _) (gb_setBlock _ _ _)
      have hi1 : W1.heap[bm + 1]? = some (.mapIter (some bm) 4 (seen.push i) 4) := by rw [← hW1]; exact setBlock_at _ _ _ hlt
      have hm1 : W1.heap[bm]? = some (.map kindsM 4) := (hg1.block bm (by rw [← hr1]; omega) (by simp)).trans hm
      have st1 := st.over hg1 (by omega)
      have hnx : ∀ ty, (Instr.next (.pointer (some ⟨bm + 1, 0, none⟩)) false ty).run Tryd.prog wr = .ok (.tuple #[.bool true, .int .i64 ((i : Int) + 1), kindV x f]) W1 := fun _ => by rw [← hW1]; exact hrun
      have hen := run_entry_at (P := Tryd.prog) W1 (bm + 1) bm 4 seen kindsM 4 ⟨.int .i64 ((i : Int) + 1), kindV x f, i⟩ hi1 hm1 (mem_left he).1 kinds_nodup
      have hmeas : (leftOf kindsM (seen.push i)).size < (leftOf kindsM (wr.iterSeen (bm + 1))).size := by
        have e1 : wr.iterSeen (bm + 1) = seen := by unfold World.iterSeen; rw [hi]
        rw [e1]
        exact left_shrinks kindsM seen _ he
      have c0 := st1.met.c0
      have f0 := st1.met.fr 0
      have hsM := st1.hs
      have HH := Lib.hid (And.intro hi1 (And.intro hm1 (And.intro st1 (And.intro hk (And.intro hx (And.intro hmeas hlt))))))
      clear hi hm st hrun hk hx hmeas hr1 hg1 hi1 hm1 st1 he hw1 hW1
      unfold kindV at hnx hen
      by_cases hn : x = name
      · have hne : (x.toList == name.toList) = true := by rw [hn]; exact beq_self_eq_true _
        have HNN := Lib.hid hn
        clear hn
        go_wp2_with fail
        obtain ⟨hi1, hm1, st1, hk, hx, hmeas, hlt⟩ := HH.out
        have hky : kindOf name = (i : Int) + 1 := (hx name).1 HNN.out
        have hz : (W1.setCell ⟨b + 1, 0, none⟩ (.int .i64 ((i : Int) + 1))).heap.size = W1.heap.size := by simp [World.setCell]
        have hlt1 : bm + 1 < W1.heap.size := by
          rcases Nat.lt_or_ge (bm + 1) W1.heap.size with h' | h'
          · exact h'
          · rw [Array.getElem?_eq_none h'] at hi1
            cases hi1
        have KE := krel_end (W := W1.setCell ⟨b + 1, 0, none⟩ (.int .i64 ((i : Int) + 1))) (n := (leftOf kindsM (wr.iterSeen (bm + 1))).size) (.cells #[.string x, .func (.func f) #[] #[]] 68) (st1.store 0 _ (st1.met.setK ((i : Int) + 1))) (hk.yes hky)
          ((Below.heap_setCell _ _ _ _ (by simp; omega)).trans hi1) ((Below.heap_setCell _ _ _ _ (by simp; omega)).trans hm1) hmeas (by rw [hz]; exact hlt1)
        clear hi1 hm1 st1 hk hx hmeas hlt hz hlt1 hky
        go_roundw
        case rel => exact KE.1
        case measure => exact KE.2
      · have hne : (x.toList == name.toList) = false := by
          rw [beq_eq_false_iff_ne, ByteArray.toList_eq, ByteArray.toList_eq]
          intro e
          exact hn (ByteArray.ext (Array.toList_inj.1 e))
        have HNN := Lib.hid hn
        clear hn
        go_wp2_with fail
        obtain ⟨hi1, hm1, st1, hk, hx, hmeas, hlt⟩ := HH.out
        have hky : ¬ kindOf name = (i : Int) + 1 := fun e => HNN.out ((hx name).2 e)
        have hlt1 : bm + 1 < W1.heap.size := by
          rcases Nat.lt_or_ge (bm + 1) W1.heap.size with h' | h'
          · exact h'
          · rw [Array.getElem?_eq_none h'] at hi1
            cases hi1
        have KE := krel_end (W := W1) (n := (leftOf kindsM (wr.iterSeen (bm + 1))).size) (.cells #[.string x, .func (.func f) #[] #[]] 68) st1 (hk.no hky) hi1 hm1 hmeas hlt1
        clear hi1 hm1 st1 hk hx hmeas hlt hlt1 hky
        go_roundw
        case rel => exact KE.1
        case measure => exact KE.2

set_option maxRecDepth 100000 in
set_option maxHeartbeats 1600000 in
theorem parse_long (s : ByteArray) (hs : 200 < s.size) (w : World) :
    Calls Tryd.prog 14 #[.string s] w fun e w' => e = .returned (.tuple #[Met.zero.val, .int .i64 4]) ∧ Below w.heap.size w w' := by
  have hd : decide ((200 : Int) < (s.size : Int)) = true := decide_eq_true (by omega)
  go_enter Tryd.func14, Tryd.ntmps14
  go_wp2_with fail
  exact bodyPost_ret (v := .tuple #[Met.zero.val, .int .i64 4]) (by simp [results, Tryd.results14, go_sem, Met.zero, Met.val]) rfl ⟨rfl, (Below.refl _ _).alloc (Nat.le_refl _) _⟩
/-- metric.Parse. -/
theorem parse_any (s : ByteArray) (w : World) (hT : Tabs w) :
    Calls Tryd.prog 14 #[.string s] w fun e w' => e = .returned (.tuple #[(parseM s).1.val, .int .i64 (parseM s).2]) ∧ Below w.heap.size w w' := by
  by_cases hs : s.size ≤ 200
  · exact parse_calls s hs w hT hT.size
  · have e : parseM s = (.zero, 4) := if_pos (by omega)
    rw [e]
    exact parse_long s (by omega) w
end Go.Proofs.YtbiolondnkeakaaDoor
