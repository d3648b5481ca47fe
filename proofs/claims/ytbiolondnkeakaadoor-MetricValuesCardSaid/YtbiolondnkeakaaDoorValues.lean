/- The reference's value of a list of events is the program's. A slice of events that came in, as the walk reads it. The walk of the law MetricValues. -/
import Derived.Test.YtbiolondnkeakaaDoorLong
import Derived.Test.YtbiolondnkeakaaDoorPureCheck
import Derived.Test.YtbiolondnkeakaaDoorPTx5
import Derived.Test.YtbiolondnkeakaaDoorPTx0
import Derived.Deep.Slices
import Derived.Deep.Fields
import Derived.ChangeSame
import Derived.Test.YtbiolondnkeakaaDoorEvents
namespace Go.Proofs.YtbiolondnkeakaaDoor
open Go.RowKit Go.Proofs.YtbiolondnkeakaaDoor.PT Go.Proofs.YtbiolondnkeakaaDoorW.PrintWords Go.Proofs.YtbiolondnkeakaaDoorW.PrintMore Plain

/-- An event as the reference's text reads it. -/
def toS (x : Ev) : S40 := ⟨x.cl, x.sq, x.kd, x.ti, x.id, x.nm, x.ot, x.vr, x.ar, x.va⟩
/-- The reference's three sums, one event on. -/
def stepR (m : Met) (s : Int × Int × Int) (x : Ev) : Int × Int × Int :=
  if x.kd = 2 then
    (if x.nm = m.nm ∧ m.le ≤ x.va then wrap64 (s.1 + x.va) else s.1, if x.nm = m.nm ∧ m.le ≤ x.va then wrap64 (s.2.1 + 1) else s.2.1, if x.nm = m.bl then wrap64 (s.2.2 + x.va) else s.2.2)
  else s
def outR (m : Met) (s : Int × Int × Int) : Int × Int :=
  if m.k = 2 then (lim m.ca s.2.1, 0) else if m.k = 3 then (lim 1 s.2.1, 0) else if m.k = 4 then (lim m.ca s.1, lim m.ca s.2.2) else (lim m.ca s.1, 0)
theorem limited_f (n c : Int) : flagstoneref34_limited.f n c = some (lim c n) := by
  unfold flagstoneref34_limited.f lim mx mn
  congr 1
  repeat' split
  all_goals omega
theorem bytes_iff {a b : ByteArray} : a.toList = b.toList ↔ a = b := by
  rw [ByteArray.toList_eq, ByteArray.toList_eq]
  exact ⟨fun e => ByteArray.ext (Array.toList_inj.1 e), fun e => by rw [e]⟩
theorem rd_toS {L : List Ev} {i : Nat} {x : Ev} (h : L[i]? = some x) : rd_T40 (L.map toS) (i : Int) = toS x := by
  unfold rd_T40
  simp [h]
theorem value_l0 (m : Met) (L : List Ev) (hl : L.length ≤ 1000000) (d : Nat) : ∀ (k i : Nat) (s : Int × Int × Int), i + d = L.length → 2 * d < k →
    flagstoneref34_Value.l0 k (L.map toS) s.1 s.2.1 s.2.2 (i : Int) m.k m.nm m.bl m.wi m.ca m.le m.be = some (outR m ((L.drop i).foldl (stepR m) s)) := by
  induction d with
  | zero =>
    intro k i s hi hk
    obtain ⟨k, rfl⟩ : ∃ m, k = m + 1 := ⟨k - 1, by omega⟩
    rw [flagstoneref34_Value.l0, if_neg (by rw [List.length_map]; omega), List.drop_eq_nil_of_le (by omega), limited_f, limited_f, limited_f, limited_f]
    unfold outR
    simp only [Option.bind_some, List.foldl_nil]
    repeat' split
    all_goals rfl
  | succ d ih =>
    intro k i s hi hk
    obtain ⟨k, rfl⟩ : ∃ m, k = m + 2 := ⟨k - 2, by omega⟩
    have hlt : i < L.length := by omega
    have hx : L[i]? = some L[i] := List.getElem?_eq_getElem hlt
    obtain ⟨x, hxe⟩ : ∃ x, L[i] = x := ⟨_, rfl⟩
    rw [hxe] at hx
    have hd : L.drop i = x :: L.drop (i + 1) := by rw [List.drop_eq_getElem_cons hlt, hxe]
    rw [hd, List.foldl_cons]
    have e1 : wrap64 ((i : Int) + 1) = ((i + 1 : Nat) : Int) := by unfold wrap64; omega
    rw [flagstoneref34_Value.l0, if_pos (by rw [List.length_map]; omega), if_pos (by omega), rd_toS hx, e1]
    have h1 : ∀ t : Int × Int × Int, flagstoneref34_Value.l0 (k + 1) (L.map toS) t.1 t.2.1 t.2.2 ((i + 1 : Nat) : Int) m.k m.nm m.bl m.wi m.ca m.le m.be = some (outR m ((L.drop (i + 1)).foldl (stepR m) t)) := fun t => ih (k + 1) (i + 1) t (by omega) (by omega)
    have h0 : ∀ t : Int × Int × Int, flagstoneref34_Value.l0 k (L.map toS) t.1 t.2.1 t.2.2 ((i + 1 : Nat) : Int) m.k m.nm m.bl m.wi m.ca m.le m.be = some (outR m ((L.drop (i + 1)).foldl (stepR m) t)) := fun t => ih k (i + 1) t (by omega) (by omega)
    by_cases hk2 : x.kd = 2
    · rw [if_pos (show (toS x).f2 = 2 from hk2)]
      by_cases hnm : x.nm = m.nm
      · rw [if_pos (show ((toS x).f5).toList = m.nm.toList from bytes_iff.2 hnm), flagstoneref34_Value.j1, e1]
        by_cases hle : m.le ≤ x.va
        · rw [if_pos (show decide ((toS x).f9 ≥ m.le) = true from decide_eq_true hle)]
          by_cases hbl : x.nm = m.bl
          · rw [if_pos (show ((toS x).f5).toList = m.bl.toList from bytes_iff.2 hbl), show stepR m s x = (wrap64 (s.1 + x.va), wrap64 (s.2.1 + 1), wrap64 (s.2.2 + x.va)) by unfold stepR; rw [if_pos hk2, if_pos ⟨hnm, hle⟩, if_pos ⟨hnm, hle⟩, if_pos hbl]]
            exact h0 (wrap64 (s.1 + x.va), wrap64 (s.2.1 + 1), wrap64 (s.2.2 + x.va))
          · rw [if_neg (show ¬ ((toS x).f5).toList = m.bl.toList from fun e => hbl (bytes_iff.1 e)), show stepR m s x = (wrap64 (s.1 + x.va), wrap64 (s.2.1 + 1), s.2.2) by unfold stepR; rw [if_pos hk2, if_pos ⟨hnm, hle⟩, if_pos ⟨hnm, hle⟩, if_neg hbl]]
            exact h0 (wrap64 (s.1 + x.va), wrap64 (s.2.1 + 1), s.2.2)
        · have hn : ¬ (x.nm = m.nm ∧ m.le ≤ x.va) := fun e => hle e.2
          rw [if_neg (show ¬ decide ((toS x).f9 ≥ m.le) = true from fun e => hle (of_decide_eq_true e))]
          by_cases hbl : x.nm = m.bl
          · rw [if_pos (show ((toS x).f5).toList = m.bl.toList from bytes_iff.2 hbl), show stepR m s x = (s.1, s.2.1, wrap64 (s.2.2 + x.va)) by unfold stepR; rw [if_pos hk2, if_neg hn, if_neg hn, if_pos hbl]]
            exact h0 (s.1, s.2.1, wrap64 (s.2.2 + x.va))
          · rw [if_neg (show ¬ ((toS x).f5).toList = m.bl.toList from fun e => hbl (bytes_iff.1 e)), show stepR m s x = s by unfold stepR; rw [if_pos hk2, if_neg hn, if_neg hn, if_neg hbl]]
            exact h0 s
      · have hn : ¬ (x.nm = m.nm ∧ m.le ≤ x.va) := fun e => hnm e.1
        rw [if_neg (show ¬ ((toS x).f5).toList = m.nm.toList from fun e => hnm (bytes_iff.1 e)), flagstoneref34_Value.j1, e1, if_neg Bool.false_ne_true]
        by_cases hbl : x.nm = m.bl
        · rw [if_pos (show ((toS x).f5).toList = m.bl.toList from bytes_iff.2 hbl), show stepR m s x = (s.1, s.2.1, wrap64 (s.2.2 + x.va)) by unfold stepR; rw [if_pos hk2, if_neg hn, if_neg hn, if_pos hbl]]
          exact h0 (s.1, s.2.1, wrap64 (s.2.2 + x.va))
        · rw [if_neg (show ¬ ((toS x).f5).toList = m.bl.toList from fun e => hbl (bytes_iff.1 e)), show stepR m s x = s by unfold stepR; rw [if_pos hk2, if_neg hn, if_neg hn, if_neg hbl]]
          exact h0 s
    · rw [if_neg (show ¬ (toS x).f2 = 2 from hk2), show stepR m s x = s from if_neg hk2]
      exact h1 s

theorem keep_iff {x : Ev} : x.keep = true ↔ x.kd = 2 := by unfold Ev.keep; simp
theorem foldS (m : Met) (hk : m.k = 1 ∨ m.k = 4) : ∀ (L : List Ev) (s : Int × Int × Int), (L.foldl (stepR m) s).1 = (L.filter Ev.keep).foldl (addV m) s.1
  | [], _ => rfl
  | x :: L, s => by
    rw [List.foldl_cons, foldS m hk L]
    by_cases h2 : x.kd = 2
    · rw [List.filter_cons_of_pos (keep_iff.2 h2), List.foldl_cons]
      unfold stepR addV contrib
      rw [if_pos h2, if_pos hk]
    · rw [List.filter_cons_of_neg (fun e => h2 (keep_iff.1 e))]
      unfold stepR
      rw [if_neg h2]
theorem foldC (m : Met) (hk : ¬ (m.k = 1 ∨ m.k = 4)) : ∀ (L : List Ev) (s : Int × Int × Int), (L.foldl (stepR m) s).2.1 = (L.filter Ev.keep).foldl (addV m) s.2.1
  | [], _ => rfl
  | x :: L, s => by
    rw [List.foldl_cons, foldC m hk L]
    by_cases h2 : x.kd = 2
    · rw [List.filter_cons_of_pos (keep_iff.2 h2), List.foldl_cons]
      unfold stepR addV contrib
      rw [if_pos h2, if_neg hk]
    · rw [List.filter_cons_of_neg (fun e => h2 (keep_iff.1 e))]
      unfold stepR
      rw [if_neg h2]
theorem foldBl (m : Met) (hk : m.k = 4) : ∀ (L : List Ev) (s : Int × Int × Int), (L.foldl (stepR m) s).2.2 = (L.filter Ev.keep).foldl (addB m) s.2.2
  | [], _ => rfl
  | x :: L, s => by
    rw [List.foldl_cons, foldBl m hk L]
    by_cases h2 : x.kd = 2
    · rw [List.filter_cons_of_pos (keep_iff.2 h2), List.foldl_cons]
      have e1 : (stepR m s x).2.2 = if x.nm = m.bl then wrap64 (s.2.2 + x.va) else s.2.2 := by unfold stepR; rw [if_pos h2]
      rw [e1]
      by_cases hb : x.nm = m.bl
      · rw [if_pos hb, show addB m s.2.2 x = wrap64 (s.2.2 + x.va) from if_pos ⟨hk, hb⟩]
      · rw [if_neg hb, show addB m s.2.2 x = s.2.2 from if_neg (fun e => hb e.2)]
    · rw [List.filter_cons_of_neg (fun e => h2 (keep_iff.1 e))]
      unfold stepR
      rw [if_neg h2]
theorem foldB0 (m : Met) (hk : m.k ≠ 4) : ∀ (L : List Ev) (a : Int), L.foldl (addB m) a = a
  | [], _ => rfl
  | x :: L, a => by rw [List.foldl_cons, show addB m a x = a from if_neg (fun e => hk e.1), foldB0 m hk L]
theorem outR_val {m : Met} (h : Fine m) (L : List Ev) : outR m (L.foldl (stepR m) (0, 0, 0)) = valP m L := by
  have hv : valP m L = (lim m.ca ((L.filter Ev.keep).foldl (addV m) 0), lim m.ca ((L.filter Ev.keep).foldl (addB m) 0)) := by
    unfold valP
    rw [if_neg (by rw [fine_iff.2 h]; exact fun e => e rfl)]
  rw [hv]
  unfold outR
  have h1 := h.k1
  have h4 := h.k4
  have hc := h.c1
  have hz : lim m.ca 0 = 0 := by unfold lim; omega
  clear hv
  rcases (show m.k = 1 ∨ m.k = 2 ∨ m.k = 3 ∨ m.k = 4 by omega) with e | e | e | e
  · rw [if_neg (by omega), if_neg (by omega), if_neg (by omega), foldS m (.inl e), foldB0 m (by omega), hz]
  · rw [if_pos e, foldC m (by omega), foldB0 m (by omega), hz]
  · rw [if_neg (by omega), if_pos e, foldC m (by omega), foldB0 m (by omega), hz, h.s3 e]
  · rw [if_neg (by omega), if_neg (by omega), if_pos e, foldS m (.inr e), foldBl m e]
theorem value_f (m : Met) (L : List Ev) (hl : L.length ≤ 1000000) (h1 : m.nm.size ≤ 9223372036854775807) (h2 : m.bl.size ≤ 9223372036854775807) :
    flagstoneref34_Value.f (m.nm.size + m.bl.size + 2 * L.length + 61) m.k m.nm m.bl m.wi m.ca m.le m.be (L.map toS) = some ((valP m L).1, (valP m L).2) := by
  unfold flagstoneref34_Value.f
  rw [Pure.check_f m.k m.nm m.bl m.wi m.ca m.le m.be _ h1 h2 (by omega), Option.bind_some]
  by_cases he : m.err = 0
  · rw [if_pos (show checkP m.k m.nm m.bl m.wi m.ca m.le m.be = 0 from he)]
    have h := value_l0 m L hl L.length (m.nm.size + m.bl.size + 2 * L.length + 61) 0 (0, 0, 0) (by omega) (by omega)
    rw [List.drop_zero, outR_val (fine_iff.1 he)] at h
    exact h
  · rw [if_neg (show ¬ checkP m.k m.nm m.bl m.wi m.ca m.le m.be = 0 from he)]
    unfold valP
    rw [if_pos he]

/-- A row of events as the reference's contract reads it. -/
theorem evs_read {w : World} {b o : Nat} {L : List Ev} (h : EvRow w b o L) (hl : L.length ≤ 1000000) : Kd.C k40 w (some ⟨b, o, none⟩) L.length (L.map toS) := by
  refine ⟨by rw [List.length_map], by omega, fun _ => ⟨⟨b, o, none⟩, rfl, fun j p hp => ?_⟩⟩
  rw [List.getElem?_map] at hp
  obtain ⟨x, hx, rfl⟩ := Option.map_eq_some_iff.1 hp
  refine ⟨x.cells, rfl, k40_mk w (toS x), fun i u hu => ?_⟩
  have := h j x hx i u hu
  rw [Addr.add_lit]
  show w.cell? ⟨b, o + (j * 10 + i), none⟩ = some u
  rw [← Nat.add_assoc]
  exact this
theorem evs_nil (w : World) : Kd.C k40 w none 0 (([] : List Ev).map toS) := ⟨rfl, by omega, fun h => absurd h (Nat.lt_irrefl _)⟩
/-- flagstoneref34.Value at events. -/
theorem refvalue_calls (m : Met) (A : Option Addr) (c : Nat) (L : List Ev) (w : World) (h : IsEvs (.slice A L.length c) L w) (hc : L.length ≤ c) (hl : L.length ≤ 1000000) (h1 : m.nm.size ≤ 9223372036854775807) (h2 : m.bl.size ≤ 9223372036854775807) :
    Calls Tryd.prog 19 #[.agg #[.int .i64 m.k, .string m.nm, .string m.bl, .int .i64 m.wi, .int .i64 m.ca, .int .i64 m.le, .int .i64 m.be], .slice A L.length c] w fun e w' => e = .returned (.tuple #[.int .i64 (valP m L).1, .int .i64 (valP m L).2]) ∧ Below w.heap.size w w' := by
  have hC : Kd.C k40 w A (L.map toS).length (L.map toS) := by
    rw [List.length_map]
    rcases h with ⟨e, e2⟩ | ⟨b, o, c2, e, hr, _⟩
    · subst e2
      cases e
      exact evs_nil w
    · cases e
      exact evs_read hr hl
  have := flagstoneref34_Value.calls (m.nm.size + m.bl.size + 2 * L.length + 61) m.k m.nm m.bl m.wi m.ca m.le m.be A c (L.map toS) _ _ w hC (by rw [List.length_map]; exact hc) (value_f m L hl h1 h2)
  rw [List.length_map] at this
  exact this
end Go.Proofs.YtbiolondnkeakaaDoor
namespace Go.Proofs.YtbiolondnkeakaaDoor
open Go.ChangeShapes Go.WideShapes Go.Deep Go.RowKit Go.Proofs.YtbiolondnkeakaaDoor.PT Go.Proofs.YtbiolondnkeakaaDoorW.PrintWords
section
variable {H : Type} {enc : TypeId × Value → H} {w : World} {base : Nat} {spare : Nat → Bool} {held : Bool}
theorem list_ten {α : Type} (l : List α) (h : l.length = 10) : ∃ a0 a1 a2 a3 a4 a5 a6 a7 a8 a9, l = [a0, a1, a2, a3, a4, a5, a6, a7, a8, a9] := by
  match l, h with
  | [a0, a1, a2, a3, a4, a5, a6, a7, a8, a9], _ => exact ⟨a0, a1, a2, a3, a4, a5, a6, a7, a8, a9, rfl⟩
theorem fields_at {P : Program} {t : TypeId} {fs : Array Field} {n : Nat} {cs : List Value} {x : DataW H × List MemPlace} (hu : P.underlying t = some (.struct fs)) (hone : oneCellFields P fs = true) (h : DataW.trod enc P w base spare held n t cs = some x) :
    ∃ (ys : List (DataW H × List MemPlace)) (n' : Nat), cs.length = P.cellsOf t ∧ ys.length = fs.size ∧ ∀ (j : Nat) (f : Field), fs[j]? = some f → DataW.trod enc P w base spare held n' f.type ((cs.drop j).take 1) = ys[j]? := by
  obtain ⟨ys, n', _, _, hl, hyl, hf⟩ := DataW.trod_struct hu h
  refine ⟨ys, n', hl, hyl, fun j f hj => ?_⟩
  obtain ⟨ho, hk⟩ := hone_of hone j f hj
  have := hf j f hj
  rw [ho, hk] at this
  exact this
theorem one_ev {n : Nat} {cs : List Value} {x : DataW H × List MemPlace} (h : DataW.trod enc Tryd.prog w base spare held n 40 cs = some x) : ∃ y : S40, cs.length = 10 ∧ k40.K w y cs := by
  obtain ⟨ys, n', hl, hyl, hf⟩ := fields_at Tryd.underlying40 (by kernel_rfl) h
  have hl10 : cs.length = 10 := hl.trans (by kernel_rfl)
  obtain ⟨a0, a1, a2, a3, a4, a5, a6, a7, a8, a9, rfl⟩ := list_ten cs hl10
  obtain ⟨y0, y1, y2, y3, y4, y5, y6, y7, y8, y9, rfl⟩ := list_ten ys hyl
  obtain ⟨s0, e0, _, _⟩ := DataW.trod_string Tryd.underlying9 (hf 0 _ rfl)
  obtain ⟨s1, e1, _, _⟩ := DataW.trod_int (k := .i64) Tryd.underlying3 (hf 1 _ rfl)
  obtain ⟨s2, e2, _, _⟩ := DataW.trod_int (k := .i64) Tryd.underlying3 (hf 2 _ rfl)
  obtain ⟨s3, e3, _, _⟩ := DataW.trod_int (k := .i64) Tryd.underlying3 (hf 3 _ rfl)
  obtain ⟨s4, e4, _, _⟩ := DataW.trod_string Tryd.underlying9 (hf 4 _ rfl)
  obtain ⟨s5, e5, _, _⟩ := DataW.trod_string Tryd.underlying9 (hf 5 _ rfl)
  obtain ⟨s6, e6, _, _⟩ := DataW.trod_string Tryd.underlying9 (hf 6 _ rfl)
  obtain ⟨s7, e7, _, _⟩ := DataW.trod_int (k := .i64) Tryd.underlying3 (hf 7 _ rfl)
  obtain ⟨s8, e8, _, _⟩ := DataW.trod_int (k := .i64) Tryd.underlying3 (hf 8 _ rfl)
  obtain ⟨s9, e9, _, _⟩ := DataW.trod_int (k := .i64) Tryd.underlying3 (hf 9 _ rfl)
  simp only [List.drop_zero, List.drop_succ_cons, List.take_succ_cons, List.take_zero, List.cons.injEq, and_true] at e0 e1 e2 e3 e4 e5 e6 e7 e8 e9
  subst e0 e1 e2 e3 e4 e5 e6 e7 e8 e9
  exact ⟨⟨s0, s1, s2, s3, s4, s5, s6, s7, s8, s9⟩, rfl, k40_mk w ⟨s0, s1, s2, s3, s4, s5, s6, s7, s8, s9⟩⟩
theorem open_evs {n : Nat} {cs : List Value} {x : DataW H × List MemPlace} (h : DataW.trod enc Tryd.prog w base spare held n 38 cs = some x) :
    ∃ A len cap zs, cs = [.slice A len cap] ∧ Kd.C k40 w A len zs := by
  rcases open_slice Tryd.underlying38 h with ⟨hcs, _⟩ | ⟨a, len, cap, m, n, D, Pl, hcs, _, hl, hm, hmm, _, hi⟩
  · exact ⟨none, 0, 0, [], hcs, rfl, by omega, fun h => absurd h (Nat.lt_irrefl _)⟩
  · have hc10 : Tryd.prog.cellsOf 40 = 10 := by kernel_rfl
    have hlm : len ≤ m := by rw [hmm]; split <;> omega
    have key : ∀ i, ∃ y : S40, i < len → ∃ c : List Value, c.length = 10 ∧ k40.K w y c ∧ ∀ j u, c[j]? = some u → w.cell? (a.add (i * 10 + j)) = some u := by
      intro i
      by_cases hil : i < len
      · obtain ⟨cs', hc, ht⟩ := hi i (by omega)
        obtain ⟨y, hl10, hy⟩ := one_ev ht
        refine ⟨y, fun _ => ⟨cs', hl10, hy, fun j u hu => ?_⟩⟩
        obtain ⟨_, _, hat⟩ := World.cells?_some hc
        rw [hc10] at hat
        have hj : j < 10 := by have := (List.getElem?_eq_some_iff.1 hu).1; omega
        rw [← Go.Deep.add_add, hat j hj]
        exact hu
      · exact ⟨z40, fun h => absurd h hil⟩
    refine ⟨some a, len, cap, (List.range len).map (fun i => Classical.choose (key i)), hcs, by rw [List.length_map, List.length_range], by unfold maxLen at hm; omega, fun _ => ⟨a, rfl, fun j p hp => ?_⟩⟩
    rw [List.getElem?_map] at hp
    obtain ⟨i, hir, rfl⟩ := Option.map_eq_some_iff.1 hp
    obtain ⟨hlt, rfl⟩ : j < len ∧ j = i := by
      have := (List.getElem?_eq_some_iff.1 hir)
      obtain ⟨h1, h2⟩ := this
      rw [List.length_range] at h1
      rw [List.getElem_range] at h2
      exact ⟨h1, h2⟩
    exact Classical.choose_spec (key j) hlt
end
end Go.Proofs.YtbiolondnkeakaaDoor
namespace Go.Proofs.YtbiolondnkeakaaDoor
open Go.RowKit Go.Proofs.YtbiolondnkeakaaDoor.PT Go.Proofs.YtbiolondnkeakaaDoorW.PrintWords Go.Proofs.YtbiolondnkeakaaDoorW.PrintLast Go.Proofs.YtbiolondnkeakaaDoorW.PrintMore Plain Split

/-- A metric in memory, behind the beginning. -/
def QM (w0 : World) (M0 : Nat) (m : Met) (W : World) : Prop := IsM M0 m W ∧ M0 < W.heap.size ∧ Below w0.heap.size w0 W
theorem QM.over {w0 W W' : World} {M0 : Nat} {m : Met} (h : QM w0 M0 m W) (hb : Below W.heap.size W W') : QM w0 M0 m W' :=
  ⟨h.1.grown (b := W.heap.size) (gb_below _ hb) h.2.1 (Nat.ne_of_lt h.2.1), Nat.lt_of_lt_of_le h.2.1 hb.size, h.2.2.trans (hb.mono h.2.2.size)⟩
theorem QM.alloc {w0 W : World} {M0 : Nat} {m : Met} (h : QM w0 M0 m W) (o : Obj) : QM w0 M0 m (W.alloc o) := h.over ((Below.refl _ _).alloc (Nat.le_refl _) _)

/-- The state of the first loop: the metric in block D, the events so far, the event at hand. -/
structure VS (w0 : World) (D B : Nat) (m : Met) (K : List Ev) (v : Value) (Eo : Option Nat) (W : World) : Prop where
  qd : QM w0 D m W
  out : W.ownsRow B 40 10 v K.length (evCells K)
  hB : D < B
  hW : w0.heap.size ≤ B
  hBW : B ≤ W.heap.size
  ev : ∀ E, Eo = some E → B ≤ E ∧ v.ownBlock ≠ some E ∧ ∃ x, IsE E x W
theorem VS.over {w0 W W' : World} {D B : Nat} {m : Met} {K : List Ev} {v : Value} {Eo : Option Nat} (h : VS w0 D B m K v Eo W) (hb : Below W.heap.size W W') : VS w0 D B m K v Eo W' :=
  ⟨h.qd.over hb, h.out.kept (row := none) ⟨hb.os, hb.tape, hb.output, hb.size, fun k hk _ => hb.block k hk⟩ (by cases v.ownBlock <;> simp), h.hB, h.hW, Nat.le_trans h.hBW hb.size, fun E hE => by
    obtain ⟨h1, h2, x, hx⟩ := h.ev E hE
    exact ⟨h1, h2, x, hx.move (hb.block E hx.lt)⟩⟩
theorem VS.alloc {w0 W : World} {D B : Nat} {m : Met} {K : List Ev} {v : Value} {Eo : Option Nat} (h : VS w0 D B m K v Eo W) (x : Ev) :
    VS w0 D B m K v (some W.heap.size) (W.alloc (.cells #[.string x.cl, .int .i64 x.sq, .int .i64 x.kd, .int .i64 x.ti, .string x.id, .string x.nm, .string x.ot, .int .i64 x.vr, .int .i64 x.ar, .int .i64 x.va] 40)) := by
  have h' := h.over (below_alloc W (.cells #[.string x.cl, .int .i64 x.sq, .int .i64 x.kd, .int .i64 x.ti, .string x.id, .string x.nm, .string x.ot, .int .i64 x.vr, .int .i64 x.ar, .int .i64 x.va] 40))
  refine ⟨h'.qd, h'.out, h'.hB, h'.hW, h'.hBW, fun M hM => ?_⟩
  cases hM
  exact ⟨h.hBW, fun e => Nat.lt_irrefl _ (h.out.lt _ e).2, x, IsE.new W x⟩
theorem VS.drop {w0 W : World} {D B : Nat} {m : Met} {K : List Ev} {v : Value} {Eo : Option Nat} (h : VS w0 D B m K v Eo W) : VS w0 D B m K v none W := ⟨h.qd, h.out, h.hB, h.hW, h.hBW, fun _ h => by cases h⟩
theorem VS.lt {w0 W : World} {D B E : Nat} {m : Met} {K : List Ev} {v : Value} (h : VS w0 D B m K v (some E) W) : E < W.heap.size := by
  obtain ⟨_, _, x, hx⟩ := h.ev E rfl
  exact hx.lt
theorem IsM.moveB {M : Nat} {m : Met} {W w' : World} (h : IsM M m W) (hb : w'.heap[M]? = W.heap[M]?) : IsM M m w' := by
  have c := fun i => World.cell?_of_block (w := W) (w' := w') (a := ⟨M, i, none⟩) hb
  have f := fun i => World.frozen?_of_block (w := W) (w' := w') (a := ⟨M, i, none⟩) hb
  exact ⟨(c 0).trans h.c0, (c 1).trans h.c1, (c 2).trans h.c2, (c 3).trans h.c3, (c 4).trans h.c4, (c 5).trans h.c5, (c 6).trans h.c6, fun i => (f i).trans (h.fr i)⟩
theorem QM.grownB {w0 W W' : World} {D B : Nat} {m : Met} {row : Option Nat} (h : QM w0 D m W) (hg : W.grownBy W' row) (hD : D < B) (hw : w0.heap.size ≤ B) (hr : ∀ k, row = some k → B ≤ k) : QM w0 D m W' :=
  ⟨h.1.moveB (hg.block D h.2.1 (fun e => by have := hr D e.symm; omega)), Nat.lt_of_lt_of_le h.2.1 hg.size, h.2.2.grown hg h.2.2.size (fun k e => Nat.le_trans hw (hr k e))⟩
theorem VS.set {w0 W : World} {D B E : Nat} {m : Met} {K : List Ev} {v : Value} (h : VS w0 D B m K v (some E) W) (i : Nat) (u : Value) (hx : ∀ x, IsE E x W → ∃ y, IsE E y (W.setCell ⟨E, i, none⟩ u)) : VS w0 D B m K v (some E) (W.setCell ⟨E, i, none⟩ u) := by
  obtain ⟨r1, r2, x, hxM⟩ := h.ev E rfl
  have hg := gb_set W E i u
  refine ⟨h.qd.grownB hg h.hB h.hW (fun k e => by cases e; exact r1), h.out.kept hg (.inr r2), h.hB, h.hW, Nat.le_trans h.hBW hg.size, fun M hM => ?_⟩
  cases hM
  exact ⟨r1, r2, hx x hxM⟩
theorem VS.setKd {w0 W : World} {D B E : Nat} {m : Met} {K : List Ev} {v : Value} (h : VS w0 D B m K v (some E) W) (s : Int) : VS w0 D B m K v (some E) (W.setCell ⟨E, 2, none⟩ (.int .i64 s)) := h.set 2 _ fun x hx => ⟨{ x with kd := s }, hx.set 2 _ _ rfl⟩
theorem VS.setNm {w0 W : World} {D B E : Nat} {m : Met} {K : List Ev} {v : Value} (h : VS w0 D B m K v (some E) W) (s : ByteArray) : VS w0 D B m K v (some E) (W.setCell ⟨E, 5, none⟩ (.string s)) := h.set 5 _ fun x hx => ⟨{ x with nm := s }, hx.set 5 _ _ rfl⟩
theorem VS.setVa {w0 W : World} {D B E : Nat} {m : Met} {K : List Ev} {v : Value} (h : VS w0 D B m K v (some E) W) (s : Int) : VS w0 D B m K v (some E) (W.setCell ⟨E, 9, none⟩ (.int .i64 s)) := h.set 9 _ fun x hx => ⟨{ x with va := s }, hx.set 9 _ _ rfl⟩
theorem VS.push {w0 W W' : World} {D B : Nat} {m : Met} {K : List Ev} {v v2 : Value} (h : VS w0 D B m K v none W) (x : Ev) (hg : W.grownBy W' v.ownBlock) (ho : W'.ownsRow B 40 10 v2 (K.length + 1) (evCells K ++ x.cells)) : VS w0 D B m (K ++ [x]) v2 none W' := by
  have hrow : ∀ k, v.ownBlock = some k → B ≤ k := fun k e => (h.out.lt k e).1
  refine ⟨h.qd.grownB hg h.hB h.hW hrow, ?_, h.hB, h.hW, Nat.le_trans h.hBW hg.size, fun M hM => by cases hM⟩
  rw [evCells_append, List.length_append, show evCells [x] = x.cells from List.append_nil _]
  exact ho
theorem VS.own {w0 W : World} {D B : Nat} {m : Met} {K : List Ev} {v : Value} {Eo : Option Nat} (h : VS w0 D B m K v Eo W) : OwnEvs B v K W := OwnEvs.of_row h.out
theorem OwnEvs.slice {B : Nat} {v : Value} {l : List Ev} {w : World} (h : OwnEvs B v l w) : ∃ A c, v = .slice A l.length c ∧ l.length ≤ c := by
  rcases h with ⟨rfl, rfl⟩ | ⟨b, c, rfl, _, hle, _⟩
  · exact ⟨_, _, rfl, Nat.le_refl _⟩
  · exact ⟨_, _, rfl, hle⟩
theorem names_b (W : World) : Calls Tryd.prog 16 #[] W fun e w' => ∃ N, e = .returned (.slice (some ⟨N, 0, none⟩) 2 2) ∧ Below W.heap.size W w' ∧ W.heap.size ≤ N ∧ w'.cell? ⟨N, 0, none⟩ = some (.string sBuy) ∧ w'.cell? ⟨N, 1, none⟩ = some (.string sVisit) := by
  refine (names_in W).mono ?_
  rintro e w' ⟨rfl, rfl⟩
  exact ⟨_, rfl, below_alloc _ _, Nat.le_refl _, by simp, by simp⟩
/-- The state of the second loop: the metric, the one with an error, both lists of events. -/
structure TS (w0 : World) (D X : Nat) (m : Met) (v1 v2 : Value) (K L : List Ev) (W : World) : Prop where
  qd : QM w0 D m W
  qx : QM w0 X ⟨m.k, m.nm, m.bl, 0, m.ca, m.le, m.be⟩ W
  e1 : IsEvs v1 K W
  e2 : IsEvs v2 L W
theorem TS.over {w0 W W' : World} {D X : Nat} {m : Met} {v1 v2 : Value} {K L : List Ev} (h : TS w0 D X m v1 v2 K L W) (hb : Below W.heap.size W W') : TS w0 D X m v1 v2 K L W' := ⟨h.qd.over hb, h.qx.over hb, h.e1.over hb, h.e2.over hb⟩
/-- Ahead of it: a second metric, as the first one. -/
structure XM (w0 : World) (D X : Nat) (m : Met) (v1 v2 : Value) (K L : List Ev) (W : World) : Prop where
  qd : QM w0 D m W
  is : IsM X m W
  lt : X < W.heap.size
  e1 : IsEvs v1 K W
  e2 : IsEvs v2 L W
  low1 : ∀ b o c, v1 = .slice (some ⟨b, o, none⟩) K.length c → b < X
  low2 : ∀ b o c, v2 = .slice (some ⟨b, o, none⟩) L.length c → b < X
  hD : D < X
  hw : w0.heap.size ≤ X
theorem IsEvs.low {v : Value} {l : List Ev} {w : World} (h : IsEvs v l w) : ∀ b o c, v = .slice (some ⟨b, o, none⟩) l.length c → b < w.heap.size := fun b o c e => by
  rcases h with ⟨e2, _⟩ | ⟨b2, o2, c2, e2, _, hlt⟩
  · rw [e2] at e; cases e
  · rw [e2] at e; cases e; exact hlt
theorem IsEvs.keptB {w w' : World} {v : Value} {l : List Ev} {B : Nat} (h : IsEvs v l w) (hl : ∀ b o c, v = .slice (some ⟨b, o, none⟩) l.length c → b < B) (hk : ∀ k, k < w.heap.size → k < B → w'.heap[k]? = w.heap[k]?) (hs : w.heap.size ≤ w'.heap.size) : IsEvs v l w' := by
  rcases h with h | ⟨b, o, c, rfl, hr, hb⟩
  · exact .inl h
  · exact .inr ⟨b, o, c, rfl, fun j x hx i u hu => (World.cell?_of_block (w := w) (a := ⟨b, _, none⟩) (hk b hb (hl b o c rfl))).trans (hr j x hx i u hu), Nat.lt_of_lt_of_le hb hs⟩
theorem XM.start {w0 W : World} {D : Nat} {m : Met} {v1 v2 : Value} {K L : List Ev} (h : QM w0 D m W) (e1 : IsEvs v1 K W) (e2 : IsEvs v2 L W) : XM w0 D W.heap.size m v1 v2 K L (W.alloc (.cells #[.int .i64 m.k, .string m.nm, .string m.bl, .int .i64 m.wi, .int .i64 m.ca, .int .i64 m.le, .int .i64 m.be] 29)) :=
  ⟨h.over (below_alloc _ _), val_start W m, by simp, e1.over (below_alloc _ _), e2.over (below_alloc _ _), e1.low, e2.low, h.2.1, h.2.2.size⟩
theorem XM.ts {w0 W : World} {D X : Nat} {m : Met} {v1 v2 : Value} {K L : List Ev} (h : XM w0 D X m v1 v2 K L W) : TS w0 D X m v1 v2 K L (W.setCell ⟨X, 3, none⟩ (.int .i64 0)) := by
  have hg := gb_set W X 3 (.int .i64 0)
  have hold : ∀ k, k < W.heap.size → k < X → (W.setCell ⟨X, 3, none⟩ (.int .i64 0)).heap[k]? = W.heap[k]? := fun k hk hkX => hg.block k hk (by simp; omega)
  refine ⟨h.qd.grownB hg h.hD h.hw (fun k e => by cases e; exact Nat.le_refl _), ⟨h.is.setWi 0, by simpa [World.setCell] using h.lt, h.qd.2.2.setCell (show _ ≤ X from h.hw) _⟩, h.e1.keptB h.low1 hold hg.size, h.e2.keptB h.low2 hold hg.size⟩
/-- A round of it: the metric that is measured. -/
structure ZS (w0 : World) (D X Z : Nat) (m z : Met) (v1 v2 : Value) (K L : List Ev) (wr W : World) : Prop where
  ts : TS w0 D X m v1 v2 K L wr
  hb : Below wr.heap.size wr W
  hZ : wr.heap.size ≤ Z
  is : IsM Z z W
  lt : Z < W.heap.size
theorem ZS.now {w0 W wr : World} {D X Z : Nat} {m z : Met} {v1 v2 : Value} {K L : List Ev} (h : ZS w0 D X Z m z v1 v2 K L wr W) : TS w0 D X m v1 v2 K L W := h.ts.over h.hb
theorem ZS.over {w0 W W' wr : World} {D X Z : Nat} {m z : Met} {v1 v2 : Value} {K L : List Ev} (h : ZS w0 D X Z m z v1 v2 K L wr W) (hb : Below W.heap.size W W') : ZS w0 D X Z m z v1 v2 K L wr W' :=
  ⟨h.ts, h.hb.trans (hb.mono h.hb.size), h.hZ, h.is.moveB (hb.block Z h.lt), Nat.lt_of_lt_of_le h.lt hb.size⟩
theorem ZS.setCa {w0 W wr : World} {D X Z : Nat} {m z : Met} {v1 v2 : Value} {K L : List Ev} (h : ZS w0 D X Z m z v1 v2 K L wr W) (x : Int) : ZS w0 D X Z m { z with ca := x } v1 v2 K L wr (W.setCell ⟨Z, 4, none⟩ (.int .i64 x)) :=
  ⟨h.ts, h.hb.setCell (show _ ≤ Z from h.hZ) _, h.hZ, h.is.setCa x, by simpa [World.setCell] using h.lt⟩
theorem ZS.start {w0 wr W : World} {D X : Nat} {m : Met} {v1 v2 : Value} {K L : List Ev} (h : TS w0 D X m v1 v2 K L wr) (hb : Below wr.heap.size wr W) (y : Met) : ZS w0 D X W.heap.size m y v1 v2 K L wr (W.alloc (.cells #[.int .i64 y.k, .string y.nm, .string y.bl, .int .i64 y.wi, .int .i64 y.ca, .int .i64 y.le, .int .i64 y.be] 29)) :=
  ⟨h, hb.trans ((below_alloc W _).mono hb.size), hb.size, val_start W y, by simp⟩
theorem ZS.start2 {w0 wr W : World} {D X Z : Nat} {m : Met} {v1 v2 : Value} {K L : List Ev} (h : TS w0 D X m v1 v2 K L wr) (hb : Below wr.heap.size wr W) (y : Met) (hZ : W.heap.size = Z) : ZS w0 D X Z m y v1 v2 K L wr (W.alloc (.cells #[.int .i64 y.k, .string y.nm, .string y.bl, .int .i64 y.wi, .int .i64 y.ca, .int .i64 y.le, .int .i64 y.be] 29)) := hZ ▸ ZS.start h hb y
def Sz (x : Met) : Prop := x.nm.size ≤ 9223372036854775000 ∧ x.bl.size ≤ 9223372036854775000
def Row7v (N o : Nat) (y : Met) (w' : World) : Prop := w'.cell? ⟨N, o, none⟩ = some (.int .i64 y.k) ∧ w'.cell? ⟨N, o + 1, none⟩ = some (.string y.nm) ∧ w'.cell? ⟨N, o + 2, none⟩ = some (.string y.bl) ∧ w'.cell? ⟨N, o + 3, none⟩ = some (.int .i64 y.wi) ∧ w'.cell? ⟨N, o + 4, none⟩ = some (.int .i64 y.ca) ∧ w'.cell? ⟨N, o + 5, none⟩ = some (.int .i64 y.le) ∧ w'.cell? ⟨N, o + 6, none⟩ = some (.int .i64 y.be)
def thirdM (k : Int) : Met := ⟨k, sBuy, ⟨#[]⟩, 1, 1048576, -1099511627776, 0⟩
def selV (m : Met) (k : Int) (i : Nat) : Met := if i = 0 then m else if i = 1 then ⟨m.k, m.nm, m.bl, 0, m.ca, m.le, m.be⟩ else thirdM k
theorem selV_sz {m : Met} (k : Int) (i : Nat) (h : Sz m) : Sz (selV m k i) := by
  unfold selV
  split
  · exact h
  · split
    · exact h
    · exact ⟨show sBuy.size ≤ 9223372036854775000 by decide, show (⟨#[]⟩ : ByteArray).size ≤ 9223372036854775000 by decide⟩
theorem lit_selV (W : World) (m : Met) (k : Int) (i : Nat) (hi : i < 3) : Row7v W.heap.size (i * 7) (selV m k i) (W.alloc (.cells #[.int .i64 m.k, .string m.nm, .string m.bl, .int .i64 m.wi, .int .i64 m.ca, .int .i64 m.le, .int .i64 m.be, .int .i64 m.k, .string m.nm, .string m.bl, .int .i64 0, .int .i64 m.ca, .int .i64 m.le, .int .i64 m.be, .int .i64 k, .string sBuy, .string ⟨#[]⟩, .int .i64 1, .int .i64 1048576, .int .i64 (-1099511627776), .int .i64 0] 29)) := by
  rcases (show i = 0 ∨ i = 1 ∨ i = 2 by omega) with rfl | rfl | rfl <;> (refine ⟨?_, ?_, ?_, ?_, ?_, ?_, ?_⟩ <;> simp [selV, thirdM])
attribute [local go_sem ↓] Go.wp_at_zero Go.wp_at_succ
namespace PL
set_option maxRecDepth 100000 in
set_option maxHeartbeats 16000000 in
theorem flagstonelaw34_MetricValues.walk (_ : True) (a0 : Option Addr) (len0 cap0 : Nat) (z0 : List Int) (a1 : Option Addr) (len1 cap1 : Nat) (z1 : List Int) (a2 : Option Addr) (len2 cap2 : Nat) (z2 : List S40) (a3 : Int) (w : World) (hT : Tabs w)
    (w0 : (a0 = none ∧ len0 = 0 ∧ cap0 = 0 ∧ z0 = []) ∨ ∃ x, a0 = some x ∧ len0 ≤ cap0 ∧ cap0 ≤ maxLen ∧ z0.length = cap0 ∧ (∀ i, i < z0.length → w.cell? (x.add i) = some (.int .u8 (z0.getD i 0))) ∧ ∀ n ∈ z0, (Lit.int .u8 n).wf = true) (y0 : len0 * 1 ≤ 140737488351232)
    (w1 : (a1 = none ∧ len1 = 0 ∧ cap1 = 0 ∧ z1 = []) ∨ ∃ x, a1 = some x ∧ len1 ≤ cap1 ∧ cap1 ≤ maxLen ∧ z1.length = cap1 ∧ (∀ i, i < z1.length → w.cell? (x.add i) = some (.int .u8 (z1.getD i 0))) ∧ ∀ n ∈ z1, (Lit.int .u8 n).wf = true) (y1 : len1 * 1 ≤ 140737488351232)
    (w2 : Kd.C k40 w a2 len2 z2) (w3 : (Lit.int .u8 a3).wf = true) :
    Calls Tryd.prog 5 #[.slice a0 len0 cap0, .slice a1 len1 cap1, .slice a2 len2 cap2, .int .u8 a3] w fun e w' => e = .returned (.bool true) ∧ Below w.heap.size w w' := by
  obtain ⟨l, rfl, hr, _, hw, _⟩ := ReadsInt.ofRowC w0
  have hrC := Kd.C_of_reads (d := (0 : Int)) (h1 := fun _ => rfl) hr
  have HL := Lib.hid (And.intro hrC (And.intro (bytes_wf hw) (show l.length ≤ 4611686018427387904 by omega)))
  obtain ⟨lm, rfl, hrm, _, hwm, _⟩ := ReadsInt.ofRowC w1
  have hrmC := Kd.C_of_reads (d := (0 : Int)) (h1 := fun _ => rfl) hrm
  have HLM := Lib.hid (And.intro hrmC (And.intro (bytes_wf hwm) (show lm.length ≤ 4611686018427387904 by omega)))
  have HT := Lib.hid hT
  have HR := Lib.hid w2
  obtain ⟨ht0, ht1⟩ := bytes_u8 w3
  obtain ⟨t, rfl⟩ : ∃ t : Nat, a3 = (t : Int) := ⟨a3.toNat, by omega⟩
  clear w0 y0 w1 y1 w2 w3 hr hw hrC hrm hwm hrmC hT ht0
  go_enter Tryd.func5, Tryd.ntmps5
  go_wp2_with fail
  refine (awake_calls w HT.out).mono ?_
  rintro e w2 ⟨rfl, hb2⟩
  have HB2 := Lib.hid hb2
  clear hb2
  by_cases h300 : l.length ≤ 300 ∧ len2 ≤ 100
  · have g1 : decide ((300 : Int) < (l.length : Int)) = false := decide_eq_false (by omega)
    have g2 : decide ((100 : Int) < (len2 : Int)) = false := decide_eq_false (by omega)
    obtain ⟨_, hl2⟩ := h300
    have hg1 : ¬ (300 : Int) < (l.length : Int) := of_decide_eq_false g1
    have hg2 : ¬ (100 : Int) < (len2 : Int) := of_decide_eq_false g2
    go_wp2_with fail
    refine (data_metric a1 cap1 lm w2 (Kd.C_below HLM.out.1 HB2.out) HLM.out.2).mono ?_
    rintro e w3 ⟨rfl, hb3⟩
    have hf := metD_fine lm
    obtain ⟨m, hm⟩ : ∃ m, metD lm = m := ⟨_, rfl⟩
    rw [hm] at hf ⊢
    have hms : Sz m := by
      have h1 := key_small hf.nm
      refine ⟨by omega, ?_⟩
      by_cases h4 : m.k = 4
      · have := key_small (hf.bl h4); omega
      · rw [hf.sh h4]; decide
    have HMS := Lib.hid hms
    have HB3 := Lib.hid (HB2.out.trans (hb3.mono HB2.out.size))
    clear hm hf hms hb3 HB2 g1 g2 hg1 hg2
    simp only [Met.val]
    go_wp2_with fail
    have hM4 := val_start w3 m
    obtain ⟨W4, hW4, hb4, hs4⟩ : ∃ W4, w3.alloc (.cells #[.int .i64 m.k, .string m.nm, .string m.bl, .int .i64 m.wi, .int .i64 m.ca, .int .i64 m.le, .int .i64 m.be] 29) = W4 ∧ Below w3.heap.size w3 W4 ∧ w3.heap.size < W4.heap.size := ⟨_, rfl, (Below.refl _ _).alloc (Nat.le_refl _) _, by simp⟩
    rw [hW4] at hM4 ⊢
    obtain ⟨D, hD⟩ : ∃ D, w3.heap.size = D := ⟨_, rfl⟩
    have hbw4 : Below w.heap.size w W4 := HB3.out.trans (hb4.mono HB3.out.size)
    rw [hD] at hM4 hs4 ⊢
    have hvs : VS w D W4.heap.size m [] (.slice none 0 0) none W4 := ⟨⟨hM4, hs4, hbw4⟩, World.ownsRow_nil _ _ _ _, hs4, hbw4.size, Nat.le_refl _, fun _ h => by cases h⟩
    obtain ⟨B, hB⟩ : ∃ B, W4.heap.size = B := ⟨_, rfl⟩
    rw [hB] at hvs
    have HV4 := Lib.hid hvs
    clear hM4 hs4 hb4 hW4 HB3 hD hbw4 hvs hB
    go_loopg [10, 11] 101 (fun gg s10 s11 wr => ∃ (K : List Ev) (A : Option Addr) (c i : Nat), s10 = .slice A i c ∧ s11 = .int .i64 i ∧ i ≤ len2 ∧ len2 - i ≤ gg ∧ Hid (K.length = i) ∧ Hid (VS w D B m K (.slice A i c) none wr))
    case atStart => exact ⟨[], none, 0, 0, rfl, rfl, by omega, by omega, Lib.hid rfl, HV4⟩
    case round =>
      obtain ⟨K, A, c, i, rfl, rfl, hin, hgg, HK, HV⟩ := hrel
      clear HV4
      by_cases hlt : i < len2
      · have hltd : decide ((i : Int) < (len2 : Int)) = true := decide_eq_true (by omega)
        go_upto_region 10 with (fail)
        go_cut [12] (fun s12 wc => ∃ E, s12 = .pointer (some ⟨E, 0, none⟩) ∧ Hid (VS w D B m K (.slice A i c) (some E) wc))
        case first =>
          obtain ⟨ad, rfl, m0, m1, m2, m3, m4, m5, m6, m7, m8, m9⟩ := at_T40 (Kd.C_below HR.out HV.out.qd.2.2) (i : Int) (by omega) (by omega)
          rw [Int.toNat_natCast] at m0 m1 m2 m3 m4 m5 m6 m7 m8 m9
          obtain ⟨x, hx⟩ : ∃ x, rd_T40 z2 (i : Int) = x := ⟨_, rfl⟩
          rw [hx] at m0 m1 m2 m3 m4 m5 m6 m7 m8 m9
          have HE := Lib.hid (HV.out.alloc ⟨x.f0, x.f1, x.f2, x.f3, x.f4, x.f5, x.f6, x.f7, x.f8, x.f9⟩)
          clear hx
          go_wp2_with fail
          go_meet
          exact ⟨_, rfl, HE⟩
        case rest =>
          obtain ⟨E, rfl, HE⟩ := hcut
          clear HV
          go_upto_region 11 with (fail)
          go_cut [] (fun wd => Hid (VS w D B m K (.slice A i c) (some E) wd))
          case first =>
            obtain ⟨_, _, x, hx⟩ := HE.out.ev _ rfl
            obtain ⟨m0, m1, m2, m3, m4, m5, m6, m7, m8, m9⟩ := hx.at
            have mf := hx.2
            clear hx
            go_wp2_with fail
            go_meet
            exact Lib.hid (HE.out.setVa _)
          case rest =>
            clear HE
            have HE := hcut
            clear hcut
            go_upto_region 12 with (fail)
            go_cut [56] (fun s56 wd => ∃ b : Bool, s56 = .bool b ∧ Hid (VS w D B m K (.slice A i c) (some E) wd))
            case first =>
              go_wp2_with fail
              go_meet
              exact ⟨_, rfl, HE⟩
            case rest =>
              clear HE
              obtain ⟨b56, rfl, HE⟩ := hcut
              go_upto_if 56 with (fail)
              go_cut [] (fun wd => Hid (VS w D B m K (.slice A i c) (some E) wd))
              case first =>
                cases b56
                · go_wp2_with fail
                  go_meet
                  exact HE
                · go_upto_region 13 with (fail)
                  have hre : Int.tmod (i : Int) 2 = (i : Int) % 2 := Int.tmod_eq_emod_of_nonneg (by omega)
                  have hy0 : 0 ≤ (i : Int) % 2 := by omega
                  have hy2 : (i : Int) % 2 < 2 := by omega
                  have hyd0 : decide (0 ≤ (i : Int) % 2) = true := decide_eq_true hy0
                  have hyd2 : decide ((i : Int) % 2 < 2) = true := decide_eq_true hy2
                  refine wp_region_held_drew (S := (fun w' => VS w D B m K (.slice A i c) (some E) w')) (by kernel_rfl) (HE.out.over (below_drew _)) (fun hHeld => ?_)
                  refine wpAnyH_keep hHeld (fun Wb0 hb0 => ?_)
                  clear hHeld
                  refine tk 1 58 (v := ?_) hb0 ?_ ?_
                  rotate_left
                  · intro w hSw; (try dsimp only at hSw); go_simp; all_goals with_reducible rfl
                  simp only [List.setIfInBounds_toArray, List.set_cons_zero, List.set_cons_succ]
                  refine tk 2 59 (v := ?_) hb0 ?_ ?_
                  rotate_left
                  · intro w hSw; (try dsimp only at hSw); go_simp; all_goals with_reducible rfl
                  simp only [List.setIfInBounds_toArray, List.set_cons_zero, List.set_cons_succ]
                  refine tk 5 62 (v := ?_) hb0 ?_ ?_
                  rotate_left
                  · intro w hSw; (try dsimp only at hSw); go_simp; all_goals with_reducible rfl
                  simp only [List.setIfInBounds_toArray, List.set_cons_zero, List.set_cons_succ]
                  refine wpAnyH_ready (rs := [0]) (by kernel_rfl) (by simp) ?_
                  refine AllReadyH.consL rfl (fun K hK => ?_) ?_
                  ·go_simp
                   refine (names_b Wb0).mono ?_
                   rintro e w' ⟨N, rfl, hb, hN, e0, e1⟩
                   have hEN : E < N := Nat.lt_of_lt_of_le (hb0).lt hN
                   have hcell : w'.cell? ⟨N, ((i : Int) % 2).toNat, none⟩ = some (.string (nameOf ((i : Int) % 2))) := by
                     rcases (show (i : Int) % 2 = 0 ∨ (i : Int) % 2 = 1 by omega) with e | e <;> rw [e]
                     · exact e0
                     · exact e1
                   obtain ⟨y, hy⟩ : ∃ y, nameOf ((i : Int) % 2) = y := ⟨_, rfl⟩
                   rw [hy] at hcell
                   clear hy e0 e1
                   (try go_wp2_with fail)
                   refine hK.out _ _ ?_ (fun hHeld => ?_)
                   · exact ((hb0).over hb)
                   clear hK K
                   refine wpAnyH_go (fun w' => VS w D B m K (.slice A i c) (some E) w' ∧ w'.cell? ⟨N, ((i : Int) % 2).toNat, none⟩ = some (.string y)) (fun _ h => h.1) ⟨hHeld, hcell⟩ (fun Wb4 hb4 => ?_)
                   clear hHeld
                   refine tk 3 60 (v := ?_) hb4 ?_ ?_
                   rotate_left
                   · intro w hSw; (try dsimp only at hSw); go_simp; all_goals with_reducible rfl
                   simp only [List.setIfInBounds_toArray, List.set_cons_zero, List.set_cons_succ]
                   refine tk 4 61 (v := ?_) hb4 ?_ ?_
                   rotate_left
                   · intro w hSw; (try dsimp only at hSw); go_simp; all_goals with_reducible rfl
                   simp only [List.setIfInBounds_toArray, List.set_cons_zero, List.set_cons_succ]
                   refine wpAnyH_ready (rs := [6]) (by kernel_rfl) (by simp) ?_
                   refine AllReadyH.consL rfl (fun K hK => ?_) ?_
                   ·obtain ⟨_, _, x, hx⟩ := (hb4.1).ev _ rfl
                    obtain ⟨m0, m1, m2, m3, m4, m5, m6, m7, m8, m9⟩ := hx.at
                    have mf := hx.2
                    clear hx
                    go_simp
                    refine hK.out _ _ ?_ (fun hHeld => ?_)
                    · exact ⟨((hb4.1).setKd _), (cell_far (by omega) (hb4.2))⟩
                    clear hK K
                    refine wpAnyH_keep hHeld (fun Wb7 hb7 => ?_)
                    clear hHeld
                    refine tk 7 63 (v := ?_) hb7 ?_ ?_
                    rotate_left
                    · intro w hSw; (try dsimp only at hSw); go_simp; all_goals with_reducible rfl
                    simp only [List.setIfInBounds_toArray, List.set_cons_zero, List.set_cons_succ]
                    refine wpAnyH_ready (rs := [8]) (by kernel_rfl) (by simp) ?_
                    refine AllReadyH.consL rfl (fun K hK => ?_) ?_
                    ·obtain ⟨_, _, x, hx⟩ := (hb7.1).ev _ rfl
                     obtain ⟨m0, m1, m2, m3, m4, m5, m6, m7, m8, m9⟩ := hx.at
                     have mf := hx.2
                     clear hx
                     go_simp
                     refine hK.out _ _ ?_ (fun hHeld => ?_)
                     · exact ⟨((hb7.1).setNm _), (cell_far (by omega) (hb7.2))⟩
                     clear hK K
                     refine wpAnyH_keep hHeld (fun Wb9 hb9 => ?_)
                     clear hHeld
                     refine wpAnyH_done (by kernel_rfl) ?_ _
                     go_wp2_with fail
                     go_meet
                     exact Lib.hid (hb9.1)
                    exact AllReadyH.nil
                   exact AllReadyH.nil
                  exact AllReadyH.nil
              case rest =>
                clear HE
                obtain ⟨_, hMv, x, hx⟩ := hcut.out.ev _ rfl
                obtain ⟨m0, m1, m2, m3, m4, m5, m6, m7, m8, m9⟩ := hx.at
                have HE10 := Lib.hid hcut.out.drop
                clear hcut hx hMv
                obtain ⟨i0, hi, hz0, hz1, hz2⟩ := info_parts info40
                go_wp2_with (at_builtin; refine wpList_append_own _ rfl _ _ 38 rfl B 40 i0 Ev.zero.val 10 112 Tryd.underlying38 hi hz0 hz1 hz2 rfl (by decide) _ _ _ rfl (HE10.out.out.alloc _) ⟨wc.heap.size, 0, none⟩ 1 1 x.cells rfl ?c1 ?c2 ?c3 ?c4 ?c5 ?c6 ?_)
                case c1 => rfl
                case c2 =>
                  intro j u hj
                  rw [Addr.add_lit]
                  have := row_new wc x 40 0 x rfl j u hj
                  simpa using this
                case c3 => exact x.cells_one
                case c4 => have := HK.out; unfold maxLen; omega
                case c5 => have := HK.out; omega
                case c6 => have := HE10.out.hBW; simp; omega
                intro v' w10 hown hgrow hnil
                have HE11 := Lib.hid (VS.push (HE10.out.over (below_alloc wc _)) x hgrow hown)
                obtain ⟨A', c', hv', _⟩ := HE11.out.own.slice
                rw [hv'] at HE11
                have hl2 : (K ++ [x]).length = i + 1 := by rw [List.length_append, HK.out]; rfl
                rw [hl2] at hv' HE11
                subst hv'
                have HK2 := Lib.hid hl2
                clear hown hgrow hnil HE10 hl2 m0 m1 m2 m3 m4 m5 m6 m7 m8 m9
                go_wp2_with fail
                go_roundg (len2 - (i + 1))
                case measure => omega
                case rel => exact ⟨K ++ [x], A', c', i + 1, rfl, by go_num, by omega, by omega, HK2, HE11⟩
      · have hltd : decide ((i : Int) < (len2 : Int)) = false := decide_eq_false (by omega)
        obtain rfl : i = len2 := by omega
        go_wp2_with fail
        refine (events_calls a0 cap0 l wr (Kd.C_below HL.out.1 HV.out.qd.2.2) HL.out.2).mono ?_
        rintro e w5 hres
        obtain ⟨v2, L, B0, rfl, hown, hL60, hb5⟩ := hres
        obtain ⟨A2, c2, rfl, hlc2⟩ := hown.slice
        have hown1 := HV.out.own
        obtain ⟨A1, cc, hv1, hlc1⟩ := hown1.slice
        rw [HK.out] at hv1 hlc1
        obtain ⟨rfl, rfl⟩ : A1 = A ∧ cc = c := by cases hv1; exact ⟨rfl, rfl⟩
        clear hv1
        have HV5 := Lib.hid (HV.out.over hb5)
        have HEV := Lib.hid (And.intro (hown1.is.over hb5) hown.is)
        obtain ⟨n, hn⟩ : ∃ n, L.length = n := ⟨_, rfl⟩
        rw [hn] at hL60 hlc2 HEV ⊢
        have HN := Lib.hid hn
        clear hown hown1 hb5 hn HV
        obtain ⟨c0, c1, c2', c3, c4, c5, c6, cf⟩ := HV5.out.qd.1
        go_upto_region 16 with (fail)
        go_cut [14] (fun s14 wc => ∃ X, s14 = .pointer (some ⟨X, 0, none⟩) ∧ Hid (XM w D X m (.slice A1 i cc) (.slice A2 n c2) K L wc))
        case first =>
          have HXM := Lib.hid (XM.start HV5.out.qd HEV.out.1 HEV.out.2)
          go_wp2_with fail
          go_meet
          exact ⟨_, rfl, HXM⟩
        case rest =>
        clear c0 c1 c2' c3 c4 c5 c6 cf HV5 HEV
        obtain ⟨X, rfl, HXM⟩ := hcut
        go_upto_region 17 with (fail)
        go_cut [] (fun wd => Hid (TS w D X m (.slice A1 i cc) (.slice A2 n c2) K L wd))
        case first =>
          have x3 := HXM.out.is.c3
          have xf := HXM.out.is.fr 3
          go_wp2_with fail
          go_meet
          exact Lib.hid HXM.out.ts
        case rest =>
        clear HXM
        have HTS := hcut
        clear hcut
        go_wp2_with fail
        go_loopg [15] 3 (fun gg s15 wr => ∃ j : Nat, s15 = .int .i64 j ∧ j ≤ 3 ∧ 3 - j ≤ gg ∧ Hid (TS w D X m (.slice A1 i cc) (.slice A2 n c2) K L wr))
        case atStart => exact ⟨0, rfl, by omega, by omega, HTS⟩
        case round =>
          obtain ⟨j, rfl, hj3, hgg, HT2⟩ := hrel
          clear HTS
          by_cases hlt : j < 3
          · have hltd : decide ((j : Int) < 3) = true := decide_eq_true (by omega)
            obtain ⟨c0, c1, c2', c3, c4, c5, c6, cf⟩ := HT2.out.qd.1
            obtain ⟨x0, x1, x2, x3, x4, x5, x6, xf⟩ := HT2.out.qx.1
            have hj0 : decide ((0 : Int) ≤ (j : Int)) = true := decide_eq_true (by omega)
            have hjl : (j : Int) < 3 := by omega
            go_upto_region 21 with (fail)
            go_cut [16] (fun s16 wc => ∃ Z z, s16 = .pointer (some ⟨Z, 0, none⟩) ∧ Hid (Sz z) ∧ Hid (ZS w D X Z m z (.slice A1 i cc) (.slice A2 n c2) K L wr wc))
            case first =>
              obtain ⟨r0, r1, r2, r3, r4, r5, r6⟩ := lit_selV wr m (1 + (t : Int) % 3) j hlt
              have hy := selV_sz (1 + (t : Int) % 3) j HMS.out
              obtain ⟨y, hye⟩ : ∃ y, selV m (1 + (t : Int) % 3) j = y := ⟨_, rfl⟩
              rw [hye] at r0 r1 r2 r3 r4 r5 r6 hy
              have HY := Lib.hid hy
              clear hye hy
              simp only [sBuy] at r0 r1 r2 r3 r4 r5 r6
              go_wp2_with fail
              go_meet
              exact ⟨_, y, rfl, HY, Lib.hid (ZS.start2 HT2.out (below_alloc _ _) y (World.size_alloc _ _))⟩
            case rest =>
              obtain ⟨Z, z, rfl, HSz, HZ⟩ := hcut
              clear c0 c1 c2' c3 c4 c5 c6 cf x0 x1 x2 x3 x4 x5 x6 xf HT2
              go_upto_region 22 with (fail)
              go_cut [93] (fun s93 wd => ∃ b : Bool, s93 = .bool b ∧ Hid (ZS w D X Z m z (.slice A1 i cc) (.slice A2 n c2) K L wr wd))
              case first =>
                have z0 := HZ.out.is.c0
                cases hi2 : ((j : Int) == 2) <;> cases hz3 : (z.k == 3) <;> go_wp2_with fail
                all_goals
                  go_meet
                  exact ⟨_, rfl, HZ⟩
              case rest =>
              clear HZ
              obtain ⟨b93, rfl, HZ⟩ := hcut
              go_upto_if 93 with (fail)
              go_cut [] (fun wd => ∃ z2, Hid (Sz z2) ∧ Hid (ZS w D X Z m z2 (.slice A1 i cc) (.slice A2 n c2) K L wr wd))
              case first =>
                have z4 := HZ.out.is.c4
                have zf := HZ.out.is.fr 4
                cases b93 <;> go_wp2_with fail
                · go_meet
                  exact ⟨z, HSz, HZ⟩
                · go_meet
                  exact ⟨{ z with ca := 1 }, HSz, Lib.hid (HZ.out.setCa 1)⟩
              case rest =>
                clear HZ HSz
                obtain ⟨z2, HSz, HZ⟩ := hcut
                obtain ⟨p, hp⟩ : ∃ p, valP z2 L = p := ⟨_, rfl⟩
                obtain ⟨q, hq⟩ : ∃ q, valP z2 K = q := ⟨_, rfl⟩
                have HPQ := Lib.hid (And.intro hp hq)
                clear hp hq
                have HSZ := Lib.hid (show z2.nm.size ≤ 9223372036854775807 ∧ z2.bl.size ≤ 9223372036854775807 from ⟨Nat.le_trans HSz.out.1 (by omega), Nat.le_trans HSz.out.2 (by omega)⟩)
                obtain ⟨c0, c1, c2', c3, c4, c5, c6, cf⟩ := HZ.out.is
                go_wp2_with fail
                refine (value_calls z2 (.slice A2 n c2) L wc (Tabs.below HT.out HZ.out.now.qd.2.2) HZ.out.now.e2 (by have := HN.out; omega) HSZ.out.1 HSZ.out.2).mono ?_
                rw [HPQ.out.1]
                rintro e w6 ⟨rfl, hb6⟩
                have HZ6 := Lib.hid (HZ.out.over hb6)
                clear hb6 HZ c0 c1 c2' c3 c4 c5 c6 cf
                obtain ⟨c0, c1, c2', c3, c4, c5, c6, cf⟩ := HZ6.out.is
                go_wp2_with fail
                have hr6 := refvalue_calls z2 A2 c2 L w6 (by rw [HN.out]; exact HZ6.out.now.e2) (by rw [HN.out]; exact hlc2) (by have := HN.out; omega) HSZ.out.1 HSZ.out.2
                rw [HN.out, HPQ.out.1] at hr6
                refine hr6.mono ?_
                clear hr6
                rintro e w7 ⟨rfl, hb7⟩
                have HZ7 := Lib.hid (HZ6.out.over hb7)
                clear hb7 HZ6 c0 c1 c2' c3 c4 c5 c6 cf
                obtain ⟨c0, c1, c2', c3, c4, c5, c6, cf⟩ := HZ7.out.is
                go_wp2_with fail
                refine (value_calls z2 (.slice A1 i cc) K w7 (Tabs.below HT.out HZ7.out.now.qd.2.2) HZ7.out.now.e1 (by have := HK.out; omega) HSZ.out.1 HSZ.out.2).mono ?_
                rw [HPQ.out.2]
                rintro e w8 ⟨rfl, hb8⟩
                have HZ8 := Lib.hid (HZ7.out.over hb8)
                clear hb8 HZ7 c0 c1 c2' c3 c4 c5 c6 cf
                obtain ⟨c0, c1, c2', c3, c4, c5, c6, cf⟩ := HZ8.out.is
                go_wp2_with fail
                have hr8 := refvalue_calls z2 A1 cc K w8 (by rw [HK.out]; exact HZ8.out.now.e1) (by rw [HK.out]; exact hlc1) (by have := HK.out; omega) HSZ.out.1 HSZ.out.2
                rw [HK.out, HPQ.out.2] at hr8
                refine hr8.mono ?_
                clear hr8
                rintro e w9 ⟨rfl, hb9⟩
                have HT9 := Lib.hid (HZ8.out.over hb9).now
                clear hb9 HZ8 c0 c1 c2' c3 c4 c5 c6 cf
                go_wp2_with fail
                go_roundg (3 - (j + 1))
                case measure => omega
                case rel => exact ⟨j + 1, by go_num, by omega, Nat.le_refl _, HT9⟩
          · have hltd : decide ((j : Int) < 3) = false := decide_eq_false (by omega)
            go_wp2_with fail
            go_ret
            exact ⟨rfl, HT2.out.qd.2.2⟩
  · have g : decide ((300 : Int) < (l.length : Int)) = true ∨ (decide ((300 : Int) < (l.length : Int)) = false ∧ decide ((100 : Int) < (len2 : Int)) = true) := by
      by_cases h : l.length ≤ 300
      · exact .inr ⟨decide_eq_false (by omega), decide_eq_true (by omega)⟩
      · exact .inl (decide_eq_true (by omega))
    clear h300
    rcases g with g | ⟨g, g2⟩
    · go_wp2_with fail
      go_ret
      exact ⟨rfl, HB2.out⟩
    · go_wp2_with fail
      go_ret
      exact ⟨rfl, HB2.out⟩
end PL
end Go.Proofs.YtbiolondnkeakaaDoor
