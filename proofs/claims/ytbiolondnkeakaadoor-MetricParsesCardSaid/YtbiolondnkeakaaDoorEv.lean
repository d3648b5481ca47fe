/- Events in memory; the walks of slices.Clone, slices.IndexFunc and slices.DeleteFunc at them. The walk of slices.DeleteFunc at the events and metric.Value's closure. The walk of slices.Clone at events; what a slice of events holds, cell by cell. -/
import Derived.Test.YtbiolondnkeakaaDoorMet
import Derived.Shelf.SlicesE.Clone
import Derived.Shelf.SlicesQ.IndexFunc
import Derived.Shelf.SlicesE.DeleteFunc
import Derived.Lib.SliceRun
import Derived.Lib.SlBuf
import Derived.Deep.MidRow
import Derived.Laws.AppendOwn
import Derived.Laws.OwnMore
import Derived.OwnWalk
import Derived.Carry
namespace Go.Proofs.YtbiolondnkeakaaDoor
open Go.RowKit Plain

/-- An event. -/
structure Ev where
  cl : ByteArray
  sq : Int
  kd : Int
  ti : Int
  id : ByteArray
  nm : ByteArray
  ot : ByteArray
  vr : Int
  ar : Int
  va : Int
def Ev.zero : Ev := ⟨⟨#[]⟩, 0, 0, 0, ⟨#[]⟩, ⟨#[]⟩, ⟨#[]⟩, 0, 0, 0⟩
instance : Inhabited Ev := ⟨Ev.zero⟩
def Ev.cells (x : Ev) : List Value := [.string x.cl, .int .i64 x.sq, .int .i64 x.kd, .int .i64 x.ti, .string x.id, .string x.nm, .string x.ot, .int .i64 x.vr, .int .i64 x.ar, .int .i64 x.va]
def Ev.val (x : Ev) : Value := .agg #[.string x.cl, .int .i64 x.sq, .int .i64 x.kd, .int .i64 x.ti, .string x.id, .string x.nm, .string x.ot, .int .i64 x.vr, .int .i64 x.ar, .int .i64 x.va]
theorem Ev.cells_length (x : Ev) : x.cells.length = 10 := rfl
theorem Ev.cells_one (x : Ev) : ∀ v ∈ x.cells, v.oneCell' = true := by
  intro v hv
  simp only [Ev.cells, List.mem_cons, List.not_mem_nil, or_false] at hv
  rcases hv with h | h | h | h | h | h | h | h | h | h <;> subst h <;> rfl
def Ev.keep (x : Ev) : Bool := x.kd == 2

/-- A row of events in memory. -/
def EvRow (w : World) (b o : Nat) (l : List Ev) : Prop := ∀ (j : Nat) (x : Ev), l[j]? = some x → ∀ (i : Nat) (v : Value), x.cells[i]? = some v → w.cell? ⟨b, o + j * 10 + i, none⟩ = some v
def EvFree (w : World) (b o n : Nat) : Prop := ∀ t, t < n * 10 → w.frozen? ⟨b, o + t, none⟩ = false

theorem EvRow.over {w w' : World} {b o B : Nat} {l : List Ev} (h : EvRow w b o l) (hb : Below B w w') (hlt : b < B) : EvRow w' b o l := fun j x hj i v hv => (hb.cell (p := ⟨b, _, none⟩) hlt).trans (h j x hj i v hv)
theorem EvFree.over {w w' : World} {b o n B : Nat} (h : EvFree w b o n) (hb : Below B w w') (hlt : b < B) : EvFree w' b o n := fun t ht => (hb.frozen (p := ⟨b, _, none⟩) hlt).trans (h t ht)

/-- The closure of metric.Value: not a measure. -/
theorem drop_calls (x : Ev) (w : World) : Calls Tryd.prog 44 #[x.val] w fun e w' => e = .returned (.bool (!x.keep)) ∧ Below w.heap.size w w' := by
  obtain ⟨cl, sq, kd, ti, id, nm, ot, vr, ar, va⟩ := x
  show Calls Tryd.prog 44 #[.agg #[.string cl, .int .i64 sq, .int .i64 kd, .int .i64 ti, .string id, .string nm, .string ot, .int .i64 vr, .int .i64 ar, .int .i64 va]] w fun e w' => e = .returned (.bool (!(kd == 2))) ∧ Below w.heap.size w w'
  go_enter Tryd.func44, Tryd.ntmps44
  go_wp2
  go_ret
  refine ⟨rfl, ?_⟩
  exact (Below.refl _ _).alloc (Nat.le_refl _) _
/-- The closures of metric.kinds. -/
theorem sum_calls (x : Ev) (w : World) : Calls Tryd.prog 52 #[x.val] w fun e w' => e = .returned (.int .i64 x.va) ∧ Below w.heap.size w w' := by
  obtain ⟨cl, sq, kd, ti, id, nm, ot, vr, ar, va⟩ := x
  show Calls Tryd.prog 52 #[.agg #[.string cl, .int .i64 sq, .int .i64 kd, .int .i64 ti, .string id, .string nm, .string ot, .int .i64 vr, .int .i64 ar, .int .i64 va]] w fun e w' => e = .returned (.int .i64 va) ∧ Below w.heap.size w w'
  go_enter Tryd.func52, Tryd.ntmps52
  go_wp2
  go_ret
  exact ⟨rfl, (Below.refl _ _).alloc (Nat.le_refl _) _⟩
theorem one_calls (x : Ev) (w : World) : Calls Tryd.prog 53 #[x.val] w fun e w' => e = .returned (.int .i64 1) ∧ Below w.heap.size w w' := by
  obtain ⟨cl, sq, kd, ti, id, nm, ot, vr, ar, va⟩ := x
  show Calls Tryd.prog 53 #[.agg #[.string cl, .int .i64 sq, .int .i64 kd, .int .i64 ti, .string id, .string nm, .string ot, .int .i64 vr, .int .i64 ar, .int .i64 va]] w fun e w' => e = .returned (.int .i64 1) ∧ Below w.heap.size w w'
  go_enter Tryd.func53, Tryd.ntmps53
  go_wp2
  go_ret
  exact ⟨rfl, (Below.refl _ _).alloc (Nat.le_refl _) _⟩

/-- Where the first event that is not a measure lies. -/
def firstNo : List Ev → Nat
  | [] => 0
  | x :: l => if x.keep then firstNo l + 1 else 0
theorem firstNo_le (l : List Ev) : firstNo l ≤ l.length := by
  induction l with
  | nil => exact Nat.le_refl _
  | cons x l ih => unfold firstNo; split <;> simp <;> omega
theorem firstNo_take (l : List Ev) : (l.take (firstNo l)).filter Ev.keep = l.take (firstNo l) := by
  induction l with
  | nil => rfl
  | cons x l ih =>
    unfold firstNo
    by_cases hx : x.keep = true
    · rw [if_pos hx, List.take_succ_cons, List.filter_cons_of_pos hx, ih]
    · rw [if_neg hx]; rfl
theorem firstNo_at (l : List Ev) (h : firstNo l < l.length) : (l[firstNo l]'h).keep = false := by
  induction l with
  | nil => exact absurd h (Nat.not_lt_zero _)
  | cons x l ih =>
    by_cases hx : x.keep = true
    · have e : firstNo (x :: l) = firstNo l + 1 := by rw [firstNo, if_pos hx]
      have h' : firstNo l < l.length := by rw [e] at h; simpa using h
      have := ih h'
      simp only [e, List.getElem_cons_succ]
      exact this
    · have e : firstNo (x :: l) = 0 := by rw [firstNo, if_neg hx]
      simp only [e, List.getElem_cons_zero]
      simpa using hx

theorem firstNo_before (l : List Ev) : ∀ j (h : j < l.length), j < firstNo l → (l[j]'h).keep = true := by
  induction l with
  | nil => intro j h; exact absurd h (Nat.not_lt_zero _)
  | cons x l ih =>
    intro j h hj
    by_cases hx : x.keep = true
    · have e : firstNo (x :: l) = firstNo l + 1 := by rw [firstNo, if_pos hx]
      cases j with
      | zero => exact hx
      | succ j => exact ih j (by simpa using h) (by omega)
    · have e : firstNo (x :: l) = 0 := by rw [firstNo, if_neg hx]
      omega
theorem EvRow.at {w : World} {b o : Nat} {l : List Ev} (h : EvRow w b o l) {j : Nat} {x : Ev} (hx : l[j]? = some x) :
    w.cell? ⟨b, o + j * 10, none⟩ = some (.string x.cl) ∧ w.cell? ⟨b, o + j * 10 + 1, none⟩ = some (.int .i64 x.sq) ∧ w.cell? ⟨b, o + j * 10 + 2, none⟩ = some (.int .i64 x.kd) ∧ w.cell? ⟨b, o + j * 10 + 3, none⟩ = some (.int .i64 x.ti) ∧
    w.cell? ⟨b, o + j * 10 + 4, none⟩ = some (.string x.id) ∧ w.cell? ⟨b, o + j * 10 + 5, none⟩ = some (.string x.nm) ∧ w.cell? ⟨b, o + j * 10 + 6, none⟩ = some (.string x.ot) ∧ w.cell? ⟨b, o + j * 10 + 7, none⟩ = some (.int .i64 x.vr) ∧
    w.cell? ⟨b, o + j * 10 + 8, none⟩ = some (.int .i64 x.ar) ∧ w.cell? ⟨b, o + j * 10 + 9, none⟩ = some (.int .i64 x.va) :=
  ⟨h j x hx 0 _ rfl, h j x hx 1 _ rfl, h j x hx 2 _ rfl, h j x hx 3 _ rfl, h j x hx 4 _ rfl, h j x hx 5 _ rfl, h j x hx 6 _ rfl, h j x hx 7 _ rfl, h j x hx 8 _ rfl, h j x hx 9 _ rfl⟩

/-- What slices.IndexFunc gives. -/
def ixOf (l : List Ev) : Int := if firstNo l < l.length then (firstNo l : Int) else -1
theorem ixOf_yes {l : List Ev} (h : firstNo l < l.length) : ixOf l = (firstNo l : Int) := if_pos h
theorem ixOf_no {l : List Ev} (h : ¬ firstNo l < l.length) : ixOf l = -1 := if_neg h
theorem ret_int {a b : Int} (h : a = b) : Ending.returned (.int .i64 a) = Ending.returned (.int .i64 b) := by rw [h]

set_option maxRecDepth 100000 in
set_option maxHeartbeats 1600000 in
/-- slices.IndexFunc at the closure. -/
theorem index_calls (b o c : Nat) (l : List Ev) (w : World) (hr : EvRow w b o l) (hn : l.length ≤ 4611686018427387904) (hlt : b < w.heap.size) :
    Calls Tryd.prog 57 #[.slice (some ⟨b, o, none⟩) l.length c, .func (.func 44) #[] #[]] w fun e w' => e = .returned (.int .i64 (ixOf l)) ∧ Below w.heap.size w w' := by
  go_enter Tryd.func57, Tryd.ntmps57
  go_wp2
  have HR := Lib.hid (And.intro hr hlt)
  clear hr hlt
  go_loopg [5, 8] l.length (fun gg _ s8 wr => ∃ kk : Nat, kk ≤ firstNo l ∧ l.length - kk ≤ gg ∧ s8 = .int .i64 kk ∧ Hid (Below w.heap.size w wr))
  case atStart => exact ⟨0, Nat.zero_le _, by omega, rfl, Below.refl _ w⟩
  case round =>
    obtain ⟨kk, hkk, hg, rfl, BW⟩ := hrel
    have hfl := firstNo_le l
    by_cases hkl : kk < l.length
    · have hx : l[kk]? = some l[kk] := List.getElem?_eq_getElem hkl
      have hkp := firstNo_before l kk hkl
      have hkn := firstNo_at l
      obtain ⟨x, hxe⟩ : ∃ x, l[kk] = x := ⟨_, rfl⟩
      rw [hxe] at hx hkp
      have hrow := HR.out.1.over BW.out HR.out.2
      obtain ⟨c0, c1, c2, c3, c4, c5, c6, c7, c8, c9⟩ := hrow.at hx
      have hcall := drop_calls x wr
      by_cases hkf : kk < firstNo l
      · have hke := hkp hkf
        rw [hke] at hcall
        have HC := Lib.hid hcall
        clear hcall hkp hkn hxe hx hrow hke
        go_wp2_with fail
        refine HC.out.mono ?_
        rintro e w' ⟨rfl, hb'⟩
        have HB := Lib.hid (BW.out.trans (hb'.mono BW.out.size))
        clear HC hb' c0 c1 c2 c3 c4 c5 c6 c7 c8 c9
        go_wp2_with fail
        go_roundg (l.length - (kk + 1))
        case measure => omega
        case rel => exact ⟨kk + 1, hkf, Nat.le_refl _, by go_num, HB⟩
      · have hke : firstNo l = kk := by omega
        have hkk2 : x.keep = false := by
          have := hkn (by omega)
          rw [← hxe]
          simp only [hke] at this
          exact this
        rw [hkk2] at hcall
        have HC := Lib.hid hcall
        have HE := Lib.hid hke
        clear hcall hkp hkn hxe hx hrow hke hkk2
        go_wp2_with fail
        refine HC.out.mono ?_
        rintro e w' ⟨rfl, hb'⟩
        have HB := Lib.hid (BW.out.trans (hb'.mono BW.out.size))
        clear HC hb' c0 c1 c2 c3 c4 c5 c6 c7 c8 c9
        go_wp2_with fail
        go_ret
        exact ⟨ret_int (by rw [ixOf_yes (by rw [HE.out]; exact hkl), HE.out]), HB.out⟩
    · have hkn : ¬ (kk : Int) < (l.length : Int) := by omega
      have hke : ¬ firstNo l < l.length := by omega
      have HE := Lib.hid hke
      clear hke
      go_wp2_with fail
      go_ret
      exact ⟨ret_int (ixOf_no HE.out).symm, BW.out⟩
end Go.Proofs.YtbiolondnkeakaaDoor
namespace Go.Proofs.YtbiolondnkeakaaDoor
open Go.RowKit Plain

/-- The events before place j that are kept. -/
def kept (l : List Ev) (j : Nat) : List Ev := (l.take j).filter Ev.keep
theorem kept_all (l : List Ev) : kept l l.length = l.filter Ev.keep := by unfold kept; rw [List.take_length]
theorem kept_succ {l : List Ev} {j : Nat} {x : Ev} (h : l[j]? = some x) : kept l (j + 1) = kept l j ++ (if x.keep = true then [x] else []) := by
  unfold kept
  rw [List.take_add_one, h, Option.toList_some, List.filter_append]
  congr 1
  by_cases hx : x.keep = true
  · rw [List.filter_cons_of_pos hx, if_pos hx]; rfl
  · rw [List.filter_cons_of_neg hx, if_neg hx]; rfl
theorem kept_le (l : List Ev) (j : Nat) : (kept l j).length ≤ j := Nat.le_trans (List.length_filter_le _ _) (List.length_take_le _ _)
theorem kept_lt {l : List Ev} {j : Nat} (h0 : firstNo l < l.length) (hj : firstNo l < j) (hl : j ≤ l.length) : (kept l j).length < j := by
  induction j with
  | zero => omega
  | succ j ih =>
    obtain ⟨x, hx⟩ : ∃ x, l[j]? = some x := ⟨_, List.getElem?_eq_getElem (by omega)⟩
    rw [kept_succ hx, List.length_append]
    by_cases e : firstNo l = j
    · have hk := firstNo_at l h0
      have hx2 : l[firstNo l]'h0 = x := by
        have : l[firstNo l]? = some x := by rw [e]; exact hx
        rw [List.getElem?_eq_getElem h0] at this
        exact Option.some.inj this
      rw [hx2] at hk
      rw [if_neg (by rw [hk]; exact Bool.noConfusion)]
      have := kept_le l j
      simp only [List.length_nil]
      omega
    · have := ih (by omega) (by omega)
      split <;> simp <;> omega

theorem kept_start {l : List Ev} (h : firstNo l < l.length) : (kept l (firstNo l + 1)).length = firstNo l ∧ kept l (firstNo l + 1) = l.take (firstNo l) := by
  have hx : l[firstNo l]? = some (l[firstNo l]'h) := List.getElem?_eq_getElem h
  have e : kept l (firstNo l + 1) = l.take (firstNo l) := by
    rw [kept_succ hx, if_neg (by rw [firstNo_at l h]; exact Bool.noConfusion), List.append_nil]
    exact firstNo_take l
  rw [e, List.length_take]
  exact ⟨by omega, rfl⟩
theorem filter_none {l : List Ev} (h : ¬ firstNo l < l.length) : l.filter Ev.keep = l := by
  have := firstNo_take l
  rw [List.take_of_length_le (by have := firstNo_le l; omega)] at this
  exact this

structure DelInv (B b o : Nat) (l : List Ev) (j : Nat) (w0 wr : World) : Prop where
  pre : EvRow wr b o (kept l j)
  high : ∀ (t : Nat) (x : Ev), j ≤ t → l[t]? = some x → ∀ (i : Nat) (v : Value), x.cells[i]? = some v → wr.cell? ⟨b, o + t * 10 + i, none⟩ = some v
  has : ∀ t, t < l.length * 10 → (wr.cell? ⟨b, o + t, none⟩).isSome = true
  free : EvFree wr b o l.length
  below : Below B w0 wr
  lt : b < wr.heap.size
  hB : B ≤ b

theorem DelInv.over {B b o j : Nat} {l : List Ev} {w0 wr w' : World} (h : DelInv B b o l j w0 wr) (hb : Below wr.heap.size wr w') : DelInv B b o l j w0 w' :=
  ⟨h.pre.over hb h.lt, fun t x ht hx i v hv => (hb.cell (p := ⟨b, _, none⟩) h.lt).trans (h.high t x ht hx i v hv), fun t ht => by rw [hb.cell (p := ⟨b, _, none⟩) h.lt]; exact h.has t ht, h.free.over hb h.lt,
    h.below.trans (hb.mono (by have := h.hB; have := h.lt; omega)), Nat.lt_of_lt_of_le h.lt hb.size, h.hB⟩
theorem DelInv.skip {B b o j : Nat} {l : List Ev} {w0 wr : World} {x : Ev} (h : DelInv B b o l j w0 wr) (hx : l[j]? = some x) (hk : x.keep = false) : DelInv B b o l (j + 1) w0 wr :=
  ⟨by rw [kept_succ hx, if_neg (by rw [hk]; exact Bool.noConfusion), List.append_nil]; exact h.pre, fun t y ht => h.high t y (by omega), h.has, h.free, h.below, h.lt, h.hB⟩
theorem size_setCells' (b : Nat) : ∀ (vs : List Value) (o : Nat) (w : World), (w.setCells b o vs).heap.size = w.heap.size
  | [], _, _ => rfl
  | v :: r, o, w => by
    show ((w.setCell ⟨b, o, none⟩ v).setCells b (o + 1) r).heap.size = _
    rw [size_setCells' b r]
    simp [World.setCell]
theorem DelInv.put {B b o j : Nat} {l : List Ev} {w0 wr : World} {x : Ev} (h : DelInv B b o l j w0 wr) (hx : l[j]? = some x) (hk : x.keep = true) (hlt : (kept l j).length < j) :
    DelInv B b o l (j + 1) w0 (wr.setCells b (o + (kept l j).length * 10) x.cells) := by
  have hjl : j < l.length := (List.getElem?_eq_some_iff.1 hx).1
  have hcl : x.cells.length = 10 := x.cells_length
  have hsome : ∀ c, c < x.cells.length → (wr.cell? ⟨b, o + (kept l j).length * 10 + c, none⟩).isSome = true := fun c hc => by
    have := h.has ((kept l j).length * 10 + c) (by rw [hcl] at hc; omega)
    rw [← Nat.add_assoc] at this
    exact this
  have hout : ∀ t, (t < (kept l j).length ∨ (kept l j).length < t) → ∀ i, i < 10 → (wr.setCells b (o + (kept l j).length * 10) x.cells).cell? ⟨b, o + t * 10 + i, none⟩ = wr.cell? ⟨b, o + t * 10 + i, none⟩ := fun t ht i hi =>
    World.cell?_setCells_out b x.cells _ wr _ (fun _ _ => by rw [hcl]; show o + t * 10 + i < _ ∨ _ ≤ o + t * 10 + i; omega)
  have hten : ∀ (y : Ev) (i : Nat) (v : Value), y.cells[i]? = some v → i < 10 := fun y i v hv => by have := (List.getElem?_eq_some_iff.1 hv).1; rw [y.cells_length] at this; exact this
  refine ⟨?_, ?_, ?_, ?_, Lib.below_setCells b h.hB _ _ h.below, by rw [size_setCells']; exact h.lt, h.hB⟩
  · rw [kept_succ hx, if_pos hk]
    intro t y hy i v hv
    by_cases ht : t < (kept l j).length
    · rw [List.getElem?_append_left ht] at hy
      rw [hout t (.inl ht) i (hten y i v hv)]
      exact h.pre t y hy i v hv
    · rw [List.getElem?_append_right (by omega)] at hy
      have e0 : t - (kept l j).length = 0 := by
        rcases Nat.eq_zero_or_pos (t - (kept l j).length) with e | e
        · exact e
        · rw [List.getElem?_eq_none (by simp; omega)] at hy; cases hy
      have e1 : t = (kept l j).length := by omega
      rw [e0] at hy
      cases hy
      subst e1
      have hil : i < x.cells.length := (List.getElem?_eq_some_iff.1 hv).1
      rw [World.cell?_setCells_in b x.cells _ wr hsome i hil]
      rw [List.getElem?_eq_getElem hil] at hv
      exact hv
  · intro t y ht hy i v hv
    rw [hout t (.inr (by omega)) i (hten y i v hv)]
    exact h.high t y (by omega) hy i v hv
  · intro t ht
    exact World.isSome_setCells b x.cells _ wr _ (h.has t ht)
  · intro t ht
    rw [World.frozen?_setCells]
    exact h.free t ht

theorem run_clear_rows (w : World) (t e ty : TypeId) (z : Value) (k : Nat) (ht : Tryd.prog.underlying t = some (.slice e)) (hv : ∀ w, (zeroValue e).run Tryd.prog w = .ok z w) (hz : z.cells.size = k) (h1 : ∀ v ∈ z.cells, v.oneCell' = true) (b o n c : Nat) (hn : 0 < n)
    (hc : ∀ j, j < n * k → (w.cell? ⟨b, o + j, none⟩).isSome = true) (hf : ∀ j, j < n * k → w.frozen? ⟨b, o + j, none⟩ = false) :
    ∃ vs, vs.length = n * k ∧ (Builtin.clear_ #[t] ty #[.slice (some ⟨b, o, none⟩) n c]).run Tryd.prog w = .ok (.tuple #[]) (w.setCells b o vs) := by
  have hlen : (Builtin.zeroCells z.cells n).toList.length = n * k := by
    rw [Array.length_toList]
    simp [Builtin.zeroCells, hz]
  have hone : ∀ v ∈ (Builtin.zeroCells z.cells n).toList, v.oneCell' = true := by
    intro v hv'
    rw [Builtin.zeroCells, Array.toList_map, List.mem_map] at hv'
    obtain ⟨i, _, rfl⟩ := hv'
    by_cases hk : 0 < z.cells.size
    · have hm : i % z.cells.size < z.cells.size := Nat.mod_lt _ hk
      rw [getElem!_pos z.cells _ hm]
      exact h1 _ (Array.getElem_mem hm)
    · rename_i him
      have hz0 : z.cells.size = 0 := by omega
      rw [hz0] at him
      simp at him
  have hst := run_storeCells_cells (P := Tryd.prog) b o (Builtin.zeroCells z.cells n).toList 0 w (by rw [hlen]; simpa using hc) (by rw [hlen]; simpa using hf) hone
  simp only [Nat.add_zero] at hst
  obtain ⟨m, rfl⟩ : ∃ m, n = m + 1 := ⟨n - 1, by omega⟩
  refine ⟨_, hlen, ?_⟩
  simp [Builtin.clear_, run_underlying ht, hv, hst]

theorem slots_ten {w : World} {b o n i : Nat} (hh : ∀ t, t < n * 10 → (w.cell? ⟨b, o + t, none⟩).isSome = true) (hf : EvFree w b o n) (hi : i < n) :
    ∀ k, k < 10 → ∃ v, w.cell? ⟨b, o + i * 10 + k, none⟩ = some v ∧ w.frozen? ⟨b, o + i * 10 + k, none⟩ = false := fun k hk => by
  have h1 := hh (i * 10 + k) (by omega)
  have h2 := hf (i * 10 + k) (by omega)
  rw [← Nat.add_assoc] at h1 h2
  obtain ⟨v, hv⟩ := Option.isSome_iff_exists.1 h1
  exact ⟨v, hv, h2⟩
theorem row_new (wr : World) (x : Ev) (t : TypeId) : EvRow (wr.alloc (.cells #[.string x.cl, .int .i64 x.sq, .int .i64 x.kd, .int .i64 x.ti, .string x.id, .string x.nm, .string x.ot, .int .i64 x.vr, .int .i64 x.ar, .int .i64 x.va] t)) wr.heap.size 0 [x] := by
  intro j y hy i v hv
  cases j with
  | succ j => cases hy
  | zero =>
    cases hy
    have hi : i < 10 := by have := (List.getElem?_eq_some_iff.1 hv).1; rwa [x.cells_length] at this
    have : i = 0 ∨ i = 1 ∨ i = 2 ∨ i = 3 ∨ i = 4 ∨ i = 5 ∨ i = 6 ∨ i = 7 ∨ i = 8 ∨ i = 9 := by omega
    rcases this with rfl | rfl | rfl | rfl | rfl | rfl | rfl | rfl | rfl | rfl <;> (cases hv; simp)

theorem zero40 (w : World) : (zeroValue 40).run Tryd.prog w = .ok Ev.zero.val w := by kernel_rfl

set_option maxRecDepth 100000 in
set_option maxHeartbeats 4000000 in
/-- slices.DeleteFunc at the closure. -/
theorem delete_calls (B b o c : Nat) (l : List Ev) (w : World) (hr : EvRow w b o l) (hf : EvFree w b o l.length) (hh : ∀ t, t < l.length * 10 → (w.cell? ⟨b, o + t, none⟩).isSome = true) (hn : l.length ≤ 4611686018427387904) (hlt : b < w.heap.size) (hB : B ≤ b) (hc : l.length ≤ c) :
    Calls Tryd.prog 42 #[.slice (some ⟨b, o, none⟩) l.length c, .func (.func 44) #[] #[]] w fun e w' => e = .returned (.slice (some ⟨b, o, none⟩) (l.filter Ev.keep).length c) ∧ EvRow w' b o (l.filter Ev.keep) ∧ Below B w w' ∧ b < w'.heap.size := by
  have hI : DelInv B b o l 0 w w := ⟨(fun t x hx => by cases hx), fun t x _ hx i v hv => hr t x hx i v hv, hh, hf, Below.refl _ _, hlt, hB⟩
  have HI := Lib.hid hI
  have hix := index_calls b o c l w hr hn hlt
  have HIX := Lib.hid hix
  clear hI hix hf hh hlt
  by_cases hfn : firstNo l < l.length
  · have e1 := ixOf_yes hfn
    have HX := HIX.out
    rw [e1] at HX
    have hfl : firstNo l ≤ l.length := firstNo_le l
    have hne1 : ((firstNo l : Int) == -1) = false := beq_eq_false_iff_ne.2 (by omega)
    have HXX := Lib.hid HX
    have HR := Lib.hid (And.intro hr hfn)
    clear e1 HX HIX hr hfn
    go_enter Tryd.func42, Tryd.ntmps42
    go_wp2_with fail
    refine HXX.out.mono ?_
    rintro e w1 ⟨rfl, hb1⟩
    have HI1 := Lib.hid (HI.out.over hb1)
    clear hb1 HXX HI
    go_wp2_with fail
    go_loopg [5, 6, 7] l.length (fun gg s5 s6 _ wr => ∃ j : Nat, s5 = .int .i64 (kept l j).length ∧ s6 = .int .i64 j ∧ firstNo l < j ∧ j ≤ l.length ∧ l.length - j ≤ gg ∧ Hid (DelInv B b o l j w wr))
    case atStart =>
      obtain ⟨k1, k2⟩ := kept_start HR.out.2
      refine ⟨firstNo l + 1, by rw [k1], by go_num, by omega, by have := HR.out.2; omega, by omega, ?_⟩
      have h := HI1.out
      refine ⟨?_, fun t x _ hx i v hv => h.high t x (Nat.zero_le _) hx i v hv, h.has, h.free, h.below, h.lt, h.hB⟩
      rw [k2]
      intro t x hx i v hv
      refine h.high t x (Nat.zero_le _) ?_ i v hv
      rw [List.getElem?_take] at hx
      split at hx
      · exact hx
      · cases hx
    case round =>
      obtain ⟨j, rfl, rfl, hj1, hjl, hgg, INV⟩ := hrel
      have hkl := kept_lt HR.out.2 hj1 hjl
      by_cases hlt : j < l.length
      · have hx : l[j]? = some l[j] := List.getElem?_eq_getElem hlt
        obtain ⟨x, hxe⟩ : ∃ x, l[j] = x := ⟨_, rfl⟩
        rw [hxe] at hx
        have hrow : EvRow wr b (o + j * 10) [x] := fun t y hy i v hv => by
          cases t with
          | zero => cases hy; have := INV.out.high j x (Nat.le_refl _) hx i v hv; simpa using this
          | succ t => cases hy
        have hat := hrow.at (j := 0) (x := x) rfl
        simp only [Nat.zero_mul, Nat.add_zero] at hat
        obtain ⟨c0, c1, c2, c3, c4, c5, c6, c7, c8, c9⟩ := hat
        have HK := Lib.hid (And.intro hx hkl)
        clear hrow hxe hx
        obtain ⟨i, hi⟩ : ∃ i, (kept l j).length = i := ⟨_, rfl⟩
        rw [hi] at hkl ⊢
        have HII := Lib.hid hi
        clear hi
        go_wp2_with fail
        have hin : i < l.length := by omega
        refine (drop_calls x _).mono ?_
        rintro e w2 ⟨rfl, hb2⟩
        have hb : Below wr.heap.size wr w2 := ((Below.refl _ _).alloc (Nat.le_refl _) _).trans (hb2.mono (by simp))
        have rn := (row_new wr x 40).over hb2 (by simp)
        have INV2 := Lib.hid (INV.out.over hb)
        have hat2 := rn.at (j := 0) (x := x) rfl
        simp only [Nat.zero_mul, Nat.zero_add] at hat2
        have hsl := slots_ten INV2.out.has INV2.out.free hin
        clear hb hb2 rn INV c0 c1 c2 c3 c4 c5 c6 c7 c8 c9
        obtain ⟨c0, c1, c2, c3, c4, c5, c6, c7, c8, c9⟩ := hat2
        obtain ⟨v0, e0, f0⟩ := hsl 0 (by omega)
        obtain ⟨v1, e1, f1⟩ := hsl 1 (by omega)
        obtain ⟨v2, e2, f2⟩ := hsl 2 (by omega)
        obtain ⟨v3, e3, f3⟩ := hsl 3 (by omega)
        obtain ⟨v4, e4, f4⟩ := hsl 4 (by omega)
        obtain ⟨v5, e5, f5⟩ := hsl 5 (by omega)
        obtain ⟨v6, e6, f6⟩ := hsl 6 (by omega)
        obtain ⟨v7, e7, f7⟩ := hsl 7 (by omega)
        obtain ⟨v8, e8, f8⟩ := hsl 8 (by omega)
        obtain ⟨v9, e9, f9⟩ := hsl 9 (by omega)
        rw [Nat.add_zero] at e0 f0
        clear hsl
        cases hk : x.keep with
        | false =>
          have HKK := Lib.hid hk
          clear hk
          go_wp2_with fail
          go_roundg (l.length - (j + 1))
          case measure => omega
          case rel => exact ⟨j + 1, by rw [kept_succ HK.out.1, if_neg (by rw [HKK.out]; exact Bool.noConfusion), List.append_nil, HII.out], by go_num, by omega, by omega, Nat.le_refl _, INV2.out.skip HK.out.1 HKK.out⟩
        | true =>
          have HKK := Lib.hid hk
          clear hk
          have IV := INV2.out.put HK.out.1 HKK.out HK.out.2
          rw [HII.out] at IV
          have IVH := Lib.hid IV
          clear IV
          go_wp2_with fail
          go_roundg (l.length - (j + 1))
          case measure => omega
          case rel => exact ⟨j + 1, by rw [kept_succ HK.out.1, if_pos HKK.out, List.length_append, HII.out]; rfl, by go_num, by omega, by omega, Nat.le_refl _, IVH.out⟩
      · obtain rfl : j = l.length := by omega
        obtain ⟨i, hi⟩ : ∃ i, (kept l l.length).length = i := ⟨_, rfl⟩
        rw [hi] at hkl ⊢
        obtain ⟨vs, hvl, hcl⟩ := run_clear_rows wr 38 40 0 Ev.zero.val 10 Tryd.underlying38 zero40 rfl (fun v hv => Ev.cells_one Ev.zero v (by simpa [Ev.val, Value.cells, Ev.cells] using hv)) b (o + i * 10) (l.length - i) (c - i) (by omega)
          (fun t ht => by have := INV.out.has (i * 10 + t) (by omega); rw [← Nat.add_assoc] at this; exact this) (fun t ht => by have := INV.out.free (i * 10 + t) (by omega); rw [← Nat.add_assoc] at this; exact this)
        have hcl2 : ∀ ty, (Builtin.clear_ #[38] ty #[.slice (some ⟨b, o + i * 10, none⟩) (l.length - i) (c - i)]).run Tryd.prog wr = .ok (.tuple #[]) (wr.setCells b (o + i * 10) vs) := fun _ => hcl
        have HII := Lib.hid (And.intro hi (kept_all l))
        have HVL := Lib.hid hvl
        clear hcl hvl hi
        go_wp2_with fail
        go_ret
        obtain ⟨h1, h2⟩ := HII.out
        rw [← h2, h1]
        refine ⟨rfl, fun t x hx k v hv => ?_, Lib.below_setCells b hB _ _ INV.out.below, by rw [size_setCells']; exact INV.out.lt⟩
        have htl : t < i := by have := (List.getElem?_eq_some_iff.1 hx).1; rwa [h1] at this
        have hk10 : k < 10 := by have := (List.getElem?_eq_some_iff.1 hv).1; rwa [x.cells_length] at this
        rw [World.cell?_setCells_out b vs _ wr _ (fun _ _ => by show o + t * 10 + k < _ ∨ _; omega)]
        exact INV.out.pre t x hx k v hv
  · have e1 := ixOf_no hfn
    have HX := HIX.out
    rw [e1] at HX
    have HXX := Lib.hid HX
    have HR := Lib.hid (And.intro hr hfn)
    clear e1 HX HIX hr hfn
    go_enter Tryd.func42, Tryd.ntmps42
    go_wp2_with fail
    refine HXX.out.mono ?_
    rintro e w1 ⟨rfl, hb1⟩
    have HI1 := Lib.hid (HI.out.over hb1)
    have hfe := Lib.hid (filter_none HR.out.2)
    have HB := Lib.hid hb1
    clear hb1 HXX HI
    go_wp2_with fail
    go_ret
    rw [hfe.out]
    exact ⟨rfl, fun t x hx i v hv => HI1.out.high t x (Nat.zero_le _) hx i v hv, HI1.out.below, HI1.out.lt⟩
end Go.Proofs.YtbiolondnkeakaaDoor
namespace Go.Proofs.YtbiolondnkeakaaDoor
open Go.RowKit Plain

def evCells (l : List Ev) : List Value := l.flatMap Ev.cells
theorem evCells_length (l : List Ev) : (evCells l).length = l.length * 10 := by
  induction l with
  | nil => rfl
  | cons x l ih => rw [evCells, List.flatMap_cons, List.length_append, x.cells_length, List.length_cons]; rw [evCells] at ih; omega
theorem evCells_get (l : List Ev) : ∀ (j i : Nat) (x : Ev), l[j]? = some x → i < 10 → (evCells l)[j * 10 + i]? = x.cells[i]? := by
  induction l with
  | nil => intro j i x h; cases h
  | cons y l ih =>
    intro j i x h hi
    cases j with
    | zero =>
      cases h
      rw [evCells, List.flatMap_cons, Nat.zero_mul, Nat.zero_add, List.getElem?_append_left (by rw [y.cells_length]; exact hi)]
    | succ j =>
      rw [evCells, List.flatMap_cons, List.getElem?_append_right (by rw [y.cells_length]; omega), y.cells_length]
      rw [show (j + 1) * 10 + i - 10 = j * 10 + i by omega]
      exact ih j i x h hi
theorem evCells_one (l : List Ev) : ∀ v ∈ evCells l, v.oneCell' = true := by
  intro v hv
  obtain ⟨x, _, hx⟩ := List.mem_flatMap.1 hv
  exact x.cells_one v hx
theorem evCells_append (l m : List Ev) : evCells (l ++ m) = evCells l ++ evCells m := by unfold evCells; rw [List.flatMap_append]
theorem EvRow.flat {w : World} {b o : Nat} {l : List Ev} (h : EvRow w b o l) : ∀ t u, (evCells l)[t]? = some u → w.cell? ⟨b, o + t, none⟩ = some u := by
  intro t u hu
  have ht : t < l.length * 10 := by have := (List.getElem?_eq_some_iff.1 hu).1; rwa [evCells_length] at this
  have hj : t / 10 < l.length := by omega
  have e := evCells_get l (t / 10) (t % 10) _ (List.getElem?_eq_getElem hj) (by omega)
  rw [show t / 10 * 10 + t % 10 = t by omega, hu] at e
  have := h (t / 10) _ (List.getElem?_eq_getElem hj) (t % 10) u e.symm
  rw [show o + t / 10 * 10 + t % 10 = o + t by omega] at this
  exact this
theorem EvRow.of_flat {w : World} {b o : Nat} {l : List Ev} (h : ∀ t u, (evCells l)[t]? = some u → w.cell? ⟨b, o + t, none⟩ = some u) : EvRow w b o l := by
  intro j x hx i v hv
  have hi : i < 10 := by have := (List.getElem?_eq_some_iff.1 hv).1; rwa [x.cells_length] at this
  have := h (j * 10 + i) v ((evCells_get l j i x hx hi).trans hv)
  rw [← Nat.add_assoc] at this
  exact this

/-- A slice of events that can be read. -/
def IsEvs (v : Value) (l : List Ev) (w : World) : Prop :=
  (v = .slice none 0 0 ∧ l = []) ∨ ∃ b o c, v = .slice (some ⟨b, o, none⟩) l.length c ∧ EvRow w b o l ∧ b < w.heap.size
/-- A slice of events that is the call's own, from block B on. -/
def OwnEvs (B : Nat) (v : Value) (l : List Ev) (w : World) : Prop :=
  (v = .slice none 0 0 ∧ l = []) ∨ ∃ b c, v = .slice (some ⟨b, 0, none⟩) l.length c ∧ B ≤ b ∧ l.length ≤ c ∧ EvRow w b 0 l ∧ EvFree w b 0 l.length ∧ b < w.heap.size
theorem OwnEvs.of_row {w : World} {B : Nat} {v : Value} {l : List Ev} (h : w.ownsRow B 40 10 v l.length (evCells l)) : OwnEvs B v l w := by
  rcases h.2 with ⟨h1, h2⟩ | ⟨g, cap, cur, rfl, hB, hg, hle, _⟩
  · exact .inl ⟨h1, List.eq_nil_of_length_eq_zero h2⟩
  · refine .inr ⟨g, cap, rfl, hB, hle, EvRow.of_flat fun t u hu => ?_, fun t _ => by rw [Nat.zero_add]; exact h.frozenAt t, (Array.getElem?_eq_some_iff.1 hg).1⟩
    have ht : t < l.length * 10 := by have := (List.getElem?_eq_some_iff.1 hu).1; rwa [evCells_length] at this
    rw [Nat.zero_add, h.cellAt t ht]
    exact hu
theorem OwnEvs.is {w : World} {B : Nat} {v : Value} {l : List Ev} (h : OwnEvs B v l w) : IsEvs v l w := by
  rcases h with h | ⟨b, c, h1, _, _, h2, _, h3⟩
  · exact .inl h
  · exact .inr ⟨b, 0, c, h1, h2, h3⟩
theorem IsEvs.over {w w' : World} {v : Value} {l : List Ev} (h : IsEvs v l w) (hb : Below w.heap.size w w') : IsEvs v l w' := by
  rcases h with h | ⟨b, o, c, h1, h2, h3⟩
  · exact .inl h
  · exact .inr ⟨b, o, c, h1, h2.over hb h3, Nat.lt_of_lt_of_le h3 hb.size⟩
theorem OwnEvs.over {w w' : World} {B : Nat} {v : Value} {l : List Ev} (h : OwnEvs B v l w) (hb : Below w.heap.size w w') : OwnEvs B v l w' := by
  rcases h with h | ⟨b, c, h1, h2, h3, h4, h5, h6⟩
  · exact .inl h
  · exact .inr ⟨b, c, h1, h2, h3, h4.over hb h6, h5.over hb h6, Nat.lt_of_lt_of_le h6 hb.size⟩

theorem info40 : (Tryd.prog.info? 40).map (fun i => (i.zero, i.size, i.bytes)) = some (some Ev.zero.val, 10, 112) := by kernel_rfl

set_option maxRecDepth 100000 in
set_option maxHeartbeats 2000000 in
theorem clone_some (b o c : Nat) (l : List Ev) (w : World) (hr : EvRow w b o l) (hn : l.length ≤ 1000000) (_hlt : b < w.heap.size) :
    Calls Tryd.prog 43 #[.slice (some ⟨b, o, none⟩) l.length c] w fun e w' => ∃ v, e = .returned v ∧ OwnEvs w.heap.size v l w' ∧ Below w.heap.size w w' := by
  obtain ⟨i0, hi, hz0, hz1, hz2⟩ := info_parts info40
  have HR := Lib.hid hr.flat
  clear hr
  have q22 : ∀ (w : World) (a : Option Addr) (n c n' c' : Nat), (binOp .eql 38 (.slice a n c) (.slice none n' c')).run Tryd.prog w = .ok (.bool a.isNone) w := fun w a n c n' c' => Lib.run_eql_slice_nil w _ _ a n c n' c' Tryd.underlying38
  go_enter Tryd.func43, Tryd.ntmps43
  go_wp2_with (at_builtin; refine wpList_append_own _ rfl _ _ 38 rfl w.heap.size 40 i0 Ev.zero.val 10 112 Tryd.underlying38 hi hz0 hz1 hz2 rfl (by decide) _ _ _ rfl (World.ownsRow_made w #[] 0 (Nat.le_refl _) (Nat.zero_le _) (by simp)) ⟨b, o, none⟩ l.length c (evCells l) rfl ?qc1 ?qc2 ?qc3 ?qc4 ?qc5 ?qc6 ?_)
  case qc1 => exact evCells_length l
  case qc2 =>
    intro j u hj
    rw [Addr.add_lit]
    exact Lib.cell?_alloc_some _ (HR.out j u hj)
  case qc3 => exact evCells_one l
  case qc4 => rw [Nat.zero_add]; unfold maxLen; omega
  case qc5 => rw [Nat.zero_add]; omega
  case qc6 => simp
  intro v' w1 hown hgrow hnil
  go_wp2
  go_ret
  refine ⟨v', rfl, OwnEvs.of_row (by simpa using hown), ?_⟩
  exact ((Below.refl _ w).alloc (Nat.le_refl _) _).grown hgrow (by simp) (by intro k hk; simp [Value.ownBlock] at hk; omega)

set_option maxHeartbeats 1000000 in
theorem clone_nil (w : World) :
    Calls Tryd.prog 43 #[.slice none 0 0] w fun e w' => e = .returned (.slice none 0 0) ∧ w' = w := by
  have q22 : ∀ (w : World) (a : Option Addr) (n c n' c' : Nat), (binOp .eql 38 (.slice a n c) (.slice none n' c')).run Tryd.prog w = .ok (.bool a.isNone) w := fun w a n c n' c' => Lib.run_eql_slice_nil w _ _ a n c n' c' Tryd.underlying38
  go_enter Tryd.func43, Tryd.ntmps43
  go_wp2
  go_ret
  exact ⟨rfl, rfl⟩

set_option maxHeartbeats 1000000 in
theorem index_nil (w : World) : Calls Tryd.prog 57 #[.slice none 0 0, .func (.func 44) #[] #[]] w fun e w' => e = .returned (.int .i64 (-1)) ∧ w' = w := by
  go_enter Tryd.func57, Tryd.ntmps57
  go_wp2
  refine wp_loop_rounds 1 ?_
  rw [rounds_succ]
  go_wp2
  go_ret
  exact ⟨rfl, rfl⟩
set_option maxHeartbeats 1000000 in
theorem delete_nil (w : World) : Calls Tryd.prog 42 #[.slice none 0 0, .func (.func 44) #[] #[]] w fun e w' => e = .returned (.slice none 0 0) ∧ w' = w := by
  go_enter Tryd.func42, Tryd.ntmps42
  go_wp2_with fail
  refine (index_nil w).mono ?_
  rintro e w' ⟨rfl, rfl⟩
  go_wp2_with fail
  go_ret
  exact ⟨rfl, rfl⟩

/-- slices.Clone and slices.DeleteFunc, at what a slice of events may be. -/
theorem clone_any (v : Value) (l : List Ev) (w : World) (h : IsEvs v l w) (hn : l.length ≤ 1000000) :
    Calls Tryd.prog 43 #[v] w fun e w' => ∃ v', e = .returned v' ∧ OwnEvs w.heap.size v' l w' ∧ Below w.heap.size w w' := by
  rcases h with ⟨rfl, rfl⟩ | ⟨b, o, c, rfl, h2, h3⟩
  · refine (clone_nil w).mono ?_
    rintro e w' ⟨rfl, rfl⟩
    exact ⟨_, rfl, .inl ⟨rfl, rfl⟩, Below.refl _ _⟩
  · exact clone_some b o c l w h2 hn h3
theorem delete_any (B : Nat) (v : Value) (l : List Ev) (w : World) (h : OwnEvs B v l w) (hn : l.length ≤ 1000000) :
    Calls Tryd.prog 42 #[v, .func (.func 44) #[] #[]] w fun e w' => ∃ v', e = .returned v' ∧ IsEvs v' (l.filter Ev.keep) w' ∧ Below B w w' := by
  rcases h with ⟨rfl, rfl⟩ | ⟨b, c, rfl, hB, hc, h2, h4, h3⟩
  · refine (delete_nil w).mono ?_
    rintro e w' ⟨rfl, rfl⟩
    exact ⟨_, rfl, .inl ⟨rfl, rfl⟩, Below.refl _ _⟩
  · refine (delete_calls B b 0 c l w h2 h4 (fun t ht => ?_) (by omega) h3 hB hc).mono ?_
    · have e : t < (evCells l).length := by rw [evCells_length]; exact ht
      rw [h2.flat t _ (List.getElem?_eq_getElem e)]
      rfl
    · rintro e w' ⟨rfl, h5, h6, h7⟩
      exact ⟨_, rfl, .inr ⟨b, 0, c, rfl, h5, h7⟩, h6⟩
end Go.Proofs.YtbiolondnkeakaaDoor
