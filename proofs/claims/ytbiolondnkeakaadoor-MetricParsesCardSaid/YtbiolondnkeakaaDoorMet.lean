/- The walk of (*words).next, .word, .number, .has. What metric.Parse reads: the plain function, and its state in memory. -/
import Derived.Test.YtbiolondnkeakaaDoorCheck
import Derived.Test.YtbiolondnkeakaaDoorFields
namespace Go.Proofs.YtbiolondnkeakaaDoor
open Go.RowKit Plain

theorem gb_set (w : World) (b i : Nat) (v : Value) : w.grownBy (w.setCell ⟨b, i, none⟩ v) (some b) :=
  ⟨rfl, rfl, rfl, by simp [World.setCell], fun k hk hne => Below.heap_setCell _ _ _ _ (fun e => hne (by rw [e]))⟩
theorem gb_refl (w : World) (b : Nat) : w.grownBy w (some b) := ⟨rfl, rfl, rfl, Nat.le_refl _, fun _ _ _ => rfl⟩
theorem gb_below {w w' : World} (b : Nat) (h : Below w.heap.size w w') : w.grownBy w' (some b) := ⟨h.os, h.tape, h.output, h.size, fun k hk _ => h.block k hk⟩
theorem gb_trans {a b c : World} {r : Nat} (h : a.grownBy b (some r)) (k : b.grownBy c (some r)) : a.grownBy c (some r) :=
  ⟨k.os.trans h.os, k.tape.trans h.tape, k.output.trans h.output, Nat.le_trans h.size k.size, fun i hi hn => (k.block i (Nat.lt_of_lt_of_le hi h.size) hn).trans (h.block i hi hn)⟩

/-- The words that have not been read, in memory. -/
structure IsWords (b A o c : Nat) (l : List ByteArray) (bad : Bool) (w : World) : Prop where
  s0 : w.cell? ⟨b, 0, none⟩ = some (.slice (some ⟨A, o, none⟩) l.length c)
  s1 : w.cell? ⟨b, 1, none⟩ = some (.bool bad)
  f0 : w.frozen? ⟨b, 0, none⟩ = false
  f1 : w.frozen? ⟨b, 1, none⟩ = false
  row : ∀ j, j < l.length → w.cell? ⟨A, o + j, none⟩ = some (.string (l.getD j ⟨#[]⟩))
  ne : A ≠ b
  cap : l.length ≤ c

theorem IsWords.bad {b A o c : Nat} {l : List ByteArray} {bad : Bool} {w : World} (h : IsWords b A o c l bad w) (v : Bool) : IsWords b A o c l v (w.setCell ⟨b, 1, none⟩ (.bool v)) where
  s0 := (World.cell?_setCell_other _ _ _ _ (by intro e; cases e)).trans h.s0
  s1 := World.cell?_setCell_same _ _ _ h.s1
  f0 := (World.frozen?_setCell _ _ _ _).trans h.f0
  f1 := (World.frozen?_setCell _ _ _ _).trans h.f1
  row := fun j hj => (World.cell?_setCell_other _ _ _ _ (fun e => h.ne (congrArg Addr.block e).symm)).trans (h.row j hj)
  ne := h.ne
  cap := h.cap
theorem IsWords.step {b A o c : Nat} {x : ByteArray} {l : List ByteArray} {bad : Bool} {w : World} (h : IsWords b A o c (x :: l) bad w) (o' c' : Nat) (ho : o' = o + 1 ∨ l = []) (hc : l.length ≤ c') :
    IsWords b A o' c' l bad (w.setCell ⟨b, 0, none⟩ (.slice (some ⟨A, o', none⟩) l.length c')) where
  s0 := World.cell?_setCell_same _ _ _ h.s0
  s1 := (World.cell?_setCell_other _ _ _ _ (by intro e; cases e)).trans h.s1
  f0 := (World.frozen?_setCell _ _ _ _).trans h.f0
  f1 := (World.frozen?_setCell _ _ _ _).trans h.f1
  row := fun j hj => (World.cell?_setCell_other _ _ _ _ (fun e => h.ne (congrArg Addr.block e).symm)).trans (by
    have e := h.row (j + 1) (by simp; omega)
    rcases ho with rfl | rfl
    · rw [show o + 1 + j = o + (j + 1) by omega]
      exact e
    · cases hj)
  ne := h.ne
  cap := hc

set_option maxRecDepth 100000 in
theorem next_calls (b A o c : Nat) (l : List ByteArray) (bad : Bool) (w : World) (h : IsWords b A o c l bad w) :
    Calls Tryd.prog 30 #[.pointer (some ⟨b, 0, none⟩)] w fun e w' => ∃ o' c', e = .returned (.string (l.headD ⟨#[]⟩)) ∧ IsWords b A o' c' l.tail (bad || l.isEmpty) w' ∧ w.grownBy w' (some b) := by
  cases l with
  | nil =>
    have s0 := h.s0
    have s1 := h.s1
    have f1 := h.f1
    rw [List.length_nil] at s0
    have H := Lib.hid h
    clear h
    go_enter Tryd.func30, Tryd.ntmps30
    go_wp2
    go_ret
    refine ⟨o, c, rfl, ?_, gb_set _ _ _ _⟩
    have := H.out.bad true
    simpa using this
  | cons x l =>
    have s0 := h.s0
    have r0 := h.row 0 (by simp)
    have f0 := h.f0
    have hc := h.cap
    rw [List.length_cons] at s0 hc
    rw [Nat.add_zero] at r0
    change w.cell? ⟨A, o, none⟩ = some (.string x) at r0
    have H := Lib.hid h
    clear h
    have hl1 : (0 : Int) < ((l.length + 1 : Nat) : Int) := by omega
    go_enter Tryd.func30, Tryd.ntmps30
    go_wp2
    all_goals go_ret
    · have hz : l.length = 0 := by omega
      exact ⟨rfl, ⟨o, 0, H.out.step o 0 (.inr (List.eq_nil_of_length_eq_zero hz)) (by omega)⟩, gb_set _ _ _ _⟩
    · exact ⟨rfl, ⟨o + 1, c - 1, H.out.step (o + 1) (c - 1) (.inl rfl) (by omega)⟩, gb_set _ _ _ _⟩

theorem IsWords.over {b A o c : Nat} {l : List ByteArray} {bad : Bool} {w w' : World} (h : IsWords b A o c l bad w) (hb : Below w.heap.size w w') (h1 : b < w.heap.size) (h2 : A < w.heap.size) : IsWords b A o c l bad w' where
  s0 := (hb.cell h1).trans h.s0
  s1 := (hb.cell h1).trans h.s1
  f0 := (hb.frozen h1).trans h.f0
  f1 := (hb.frozen h1).trans h.f1
  row := fun j hj => (hb.cell h2).trans (h.row j hj)
  ne := h.ne
  cap := h.cap

set_option maxRecDepth 100000 in
theorem word_calls (b A o c : Nat) (l : List ByteArray) (bad : Bool) (s : ByteArray) (w : World) (h : IsWords b A o c l bad w) :
    Calls Tryd.prog 32 #[.pointer (some ⟨b, 0, none⟩), .string s] w fun e w' => ∃ o' c', e = .returned (.tuple #[]) ∧ IsWords b A o' c' l.tail (bad || l.isEmpty || decide (l.headD ⟨#[]⟩ ≠ s)) w' ∧ w.grownBy w' (some b) := by
  go_enter Tryd.func32, Tryd.ntmps32
  go_wp2_with fail
  refine (next_calls b A o c l bad w h).mono ?_
  rintro e w2 ⟨o', c', rfl, h2, hb2⟩
  have s1 := h2.s1
  have f1 := h2.f1
  have H2 := Lib.hid h2
  clear h2
  by_cases hs : l.headD ⟨#[]⟩ = s
  · subst hs
    go_wp2
    go_end0
    have e : (bad || l.isEmpty || decide (l.headD ⟨#[]⟩ ≠ l.headD ⟨#[]⟩)) = (bad || l.isEmpty) := by simp
    exact ⟨o', c', rfl, by rw [e]; exact H2.out, hb2⟩
  · have hne : ((l.head?.getD ⟨#[]⟩).toList == s.toList) = false := by
      rw [beq_eq_false_iff_ne, ByteArray.toList_eq, ByteArray.toList_eq]
      intro e
      exact hs (by rw [List.headD_eq_head?_getD]; exact ByteArray.ext (Array.toList_inj.1 e))
    go_wp2
    go_end0
    have e : (bad || l.isEmpty || decide (l.headD ⟨#[]⟩ ≠ s)) = true := by rw [decide_eq_true hs, Bool.or_true]
    exact ⟨o', c', rfl, by rw [e]; exact H2.out.bad true, gb_trans hb2 (gb_set _ _ _ _)⟩

theorem var_belowB {n : String} {g B : Nat} {w w' : World} {cs : Array Value} (hg : Tryd.prog.globalNamed n = some g) (h : w.var? Tryd.prog n = some cs) (hlt : g < B) (hb : Below B w w') : w'.var? Tryd.prog n = some cs := by
  unfold World.var? at h ⊢
  rw [hg] at h ⊢
  simp only [Option.bind_some] at h ⊢
  rw [hb.block g hlt]
  exact h
theorem Tabs.belowB {B : Nat} {w w' : World} (h : Tabs w) (hB : 6 ≤ B) (hb : Below B w w') : Tabs w' :=
  ⟨var_belowB gAsc h.asc (by omega) hb, var_belowB gPow h.pow (by omega) hb, (by obtain ⟨tp, p, hv⟩ := h.rng; exact ⟨tp, p, var_belowB gRng hv (by omega) hb⟩)⟩

theorem Tabs.size {w : World} (h : Tabs w) : 6 ≤ w.heap.size := by
  have hp := h.pow
  unfold Lib.TabIs World.var? at hp
  rw [gPow] at hp
  simp only [Option.bind_some] at hp
  rcases Nat.lt_or_ge 5 w.heap.size with h' | h'
  · exact h'
  · rw [Array.getElem?_eq_none h'] at hp
    cases hp
set_option maxRecDepth 100000 in
set_option maxHeartbeats 4000000 in
theorem number_calls (b A o c : Nat) (l : List ByteArray) (bad : Bool) (w : World) (hT : Tabs w) (h : IsWords b A o c l bad w) (h9 : 6 ≤ b) (h1 : b < w.heap.size) (h2 : A < w.heap.size) (n e0 : Int)
    (hp : text_ParseNumber.f (l.headD ⟨#[]⟩) = some (n, e0)) :
    Calls Tryd.prog 33 #[.pointer (some ⟨b, 0, none⟩)] w fun e w' => ∃ o' c', e = .returned (.int .i64 n) ∧ IsWords b A o' c' l.tail (bad || l.isEmpty || decide (e0 ≠ 0)) w' ∧ w.grownBy w' (some b) := by
  have HT := Lib.hid hT
  clear hT
  have HP := Lib.hid hp
  clear hp
  go_enter Tryd.func33, Tryd.ntmps33
  go_wp2_with fail
  refine (next_calls b A o c l bad w h).mono ?_
  rintro e w2 ⟨o', c', rfl, i2, hb2⟩
  have hbb := (Below.refl b w).grown hb2 (Nat.le_of_lt h1) (fun k hk => by cases hk; exact Nat.le_refl _)
  have hz := hbb.size
  have H2 := Lib.hid i2
  clear i2
  go_wp2_with fail
  refine (text_ParseNumber.calls _ n e0 w2 (HT.out.belowB h9 hbb) (by have := HP.out; rw [List.headD_eq_head?_getD] at this; exact this)).mono ?_
  rintro e w3 ⟨rfl, hb3⟩
  have i3 := H2.out.over hb3 (by omega) (by omega)
  have hb03 := gb_trans hb2 (gb_below b hb3)
  have s1 := i3.s1
  have f1 := i3.f1
  have H3 := Lib.hid i3
  clear i3
  by_cases he : e0 = 0
  · subst he
    go_wp2
    go_ret
    have e : (bad || l.isEmpty || decide ((0 : Int) ≠ 0)) = (bad || l.isEmpty) := by simp
    exact ⟨o', c', rfl, by rw [e]; exact H3.out, hb03⟩
  · have hne : (e0 != 0) = true := bne_iff_ne.2 he
    go_wp2
    go_ret
    have e : (bad || l.isEmpty || decide (e0 ≠ 0)) = true := by rw [decide_eq_true he, Bool.or_true]
    exact ⟨o', c', rfl, by rw [e]; exact H3.out.bad true, gb_trans hb03 (gb_set _ _ _ _)⟩

set_option maxRecDepth 100000 in
set_option maxHeartbeats 4000000 in
theorem has_calls (b A o c : Nat) (l : List ByteArray) (bad : Bool) (s : ByteArray) (w : World) (h : IsWords b A o c l bad w) :
    Calls Tryd.prog 34 #[.pointer (some ⟨b, 0, none⟩), .string s] w fun e w' => ∃ o' c', e = .returned (.bool (decide (l.head? = some s))) ∧ IsWords b A o' c' (if l.head? = some s then l.tail else l) bad w' ∧ w.grownBy w' (some b) := by
  cases l with
  | nil =>
    have s0 := h.s0
    rw [List.length_nil] at s0
    have H := Lib.hid h
    clear h
    go_enter Tryd.func34, Tryd.ntmps34
    go_wp2
    go_ret
    exact ⟨rfl, ⟨o, c, H.out⟩, gb_refl _ _⟩
  | cons x l =>
    have s0 := h.s0
    have r0 := h.row 0 (by simp)
    have f0 := h.f0
    have hc := h.cap
    rw [List.length_cons] at s0 hc
    rw [Nat.add_zero] at r0
    change w.cell? ⟨A, o, none⟩ = some (.string x) at r0
    have H := Lib.hid h
    clear h
    have hl1 : (0 : Int) < ((l.length + 1 : Nat) : Int) := by omega
    have hl0 : ((l.length : Int) + 1 == 0) = false := by rw [beq_eq_false_iff_ne]; omega
    by_cases hs : x = s
    · subst hs
      have e1 : (if (x :: l).head? = some x then (x :: l).tail else (x :: l)) = l := if_pos rfl
      have e2 : decide ((x :: l).head? = some x) = true := decide_eq_true rfl
      rw [e1, e2]
      clear e1 e2
      go_enter Tryd.func34, Tryd.ntmps34
      go_wp2
      all_goals go_ret
      · have hz : l.length = 0 := by omega
        exact ⟨rfl, ⟨o, 0, H.out.step o 0 (.inr (List.eq_nil_of_length_eq_zero hz)) (by omega)⟩, gb_set _ _ _ _⟩
      · exact ⟨rfl, ⟨o + 1, c - 1, H.out.step (o + 1) (c - 1) (.inl rfl) (by omega)⟩, gb_set _ _ _ _⟩
    · have hne : (x.toList == s.toList) = false := by
        rw [beq_eq_false_iff_ne, ByteArray.toList_eq, ByteArray.toList_eq]
        intro e
        exact hs (ByteArray.ext (Array.toList_inj.1 e))
      have e0 : ¬ (x :: l).head? = some s := fun e => hs (Option.some.inj e)
      have e1 : (if (x :: l).head? = some s then (x :: l).tail else (x :: l)) = x :: l := if_neg e0
      have e2 : decide ((x :: l).head? = some s) = false := decide_eq_false e0
      rw [e1, e2]
      clear e1 e2 e0
      go_enter Tryd.func34, Tryd.ntmps34
      go_wp2
      go_ret
      first | exact ⟨rfl, ⟨o, c, H.out⟩, gb_refl _ _⟩ | exact ⟨o, c, rfl, H.out, gb_refl _ _⟩

/-- What FieldsFunc hands back, cell by cell. -/
theorem row_of_own {w : World} {base e A : Nat} {l : List ByteArray} (h : w.ownsRow base e 1 (.slice (some ⟨A, 0, none⟩) l.length l.length) l.length (l.map Value.string)) :
    A < w.heap.size ∧ ∀ j, j < l.length → w.cell? ⟨A, j, none⟩ = some (.string (l.getD j ⟨#[]⟩)) := by
  rcases h.2 with ⟨hv, _⟩ | ⟨g, cap, cur, hv, hb, hg, h1, h2, h3, h4⟩
  · cases hv
  · cases hv
    refine ⟨(Array.getElem?_eq_some_iff.1 hg).1, fun j hj => ?_⟩
    have hc : cur.toList[j]? = some (.string (l.getD j ⟨#[]⟩)) := by
      have e1 : (cur.toList.take (l.length * 1))[j]? = cur.toList[j]? := List.getElem?_take_of_lt (by omega)
      rw [← e1, h4, List.getElem?_map, List.getElem?_eq_getElem hj]
      simp only [Option.map_some, List.getD, List.getElem?_eq_getElem hj, Option.getD_some]
    unfold World.cell?
    rw [hg]
    simpa using hc
end Go.Proofs.YtbiolondnkeakaaDoor
namespace Go.Proofs.YtbiolondnkeakaaDoor
open Go.RowKit Plain

/-- A metric. -/
structure Met where
  k : Int
  nm : ByteArray
  bl : ByteArray
  wi : Int
  ca : Int
  le : Int
  be : Int
def Met.zero : Met := ⟨0, ⟨#[]⟩, ⟨#[]⟩, 0, 0, 0, 0⟩
def Met.start : Met := ⟨0, ⟨#[]⟩, ⟨#[]⟩, 0, 0, -1099511627776, 0⟩
def Met.val (m : Met) : Value := .agg #[.int .i64 m.k, .string m.nm, .string m.bl, .int .i64 m.wi, .int .i64 m.ca, .int .i64 m.le, .int .i64 m.be]
def Met.err (m : Met) : Int := checkP m.k m.nm m.bl m.wi m.ca m.le m.be

/-- What has not been read, and whether a word did not fit. -/
structure PS where
  l : List ByteArray
  bad : Bool
def nx (l : List ByteArray) : ByteArray := l.headD ⟨#[]⟩
def pnum (x : ByteArray) : Int × Int := parseP x.data.toList
def PS.nxt (p : PS) : PS := ⟨p.l.tail, p.bad || p.l.isEmpty⟩
def PS.wrd (p : PS) (s : ByteArray) : PS := ⟨p.l.tail, p.bad || p.l.isEmpty || decide (nx p.l ≠ s)⟩
def PS.num (p : PS) : PS := ⟨p.l.tail, p.bad || p.l.isEmpty || decide ((pnum (nx p.l)).2 ≠ 0)⟩
def PS.numV (p : PS) : Int := (pnum (nx p.l)).1
def PS.hasB (p : PS) (s : ByteArray) : Bool := decide (p.l.head? = some s)
def PS.skip (p : PS) (s : ByteArray) : PS := if p.l.head? = some s then ⟨p.l.tail, p.bad⟩ else p
def wSum : ByteArray := ⟨#[115, 117, 109]⟩
def wCount : ByteArray := ⟨#[99, 111, 117, 110, 116]⟩
def wShare : ByteArray := ⟨#[115, 104, 97, 114, 101]⟩
def wRatio : ByteArray := ⟨#[114, 97, 116, 105, 111]⟩
def wOf : ByteArray := ⟨#[111, 102]⟩
def wTo : ByteArray := ⟨#[116, 111]⟩
def wWithin : ByteArray := ⟨#[119, 105, 116, 104, 105, 110]⟩
def wCap : ByteArray := ⟨#[99, 97, 112]⟩
def wLeast : ByteArray := ⟨#[108, 101, 97, 115, 116]⟩
def wBefore : ByteArray := ⟨#[98, 101, 102, 111, 114, 101]⟩
/-- The number of a kind, by its word. -/
def kindOf (s : ByteArray) : Int := if s = wSum then 1 else if s = wCount then 2 else if s = wShare then 3 else if s = wRatio then 4 else 0
/-- The state behind 'to' and the second name. -/
def PS.toN (p : PS) (k : Int) : PS := if k = 4 then (p.wrd wTo).nxt else p
def PS.toV (p : PS) (k : Int) : ByteArray := if k = 4 then nx (p.wrd wTo).l else ⟨#[]⟩
/-- The state behind an optional number. -/
def PS.opt (p : PS) (s : ByteArray) : PS := if p.hasB s then (p.skip s).num else p
def PS.optV (p : PS) (s : ByteArray) (d : Int) : Int := if p.hasB s then (p.skip s).numV else d
def PS.p3 (p : PS) : PS := ((p.nxt).wrd wOf).nxt
def PS.p5 (p : PS) (k : Int) : PS := (p.p3.toN k).wrd wWithin
def PS.p7 (p : PS) (k : Int) : PS := (p.p5 k).num.wrd wCap
def PS.p8 (p : PS) (k : Int) : PS := (p.p7 k).num
def PS.p9 (p : PS) (k : Int) : PS := (p.p8 k).opt wLeast
def PS.p10 (p : PS) (k : Int) : PS := (p.p9 k).opt wBefore
/-- The metric that is read. -/
def metOf (p : PS) (k : Int) : Met := ⟨k, nx (p.nxt.wrd wOf).l, p.p3.toV k, (p.p5 k).numV, (p.p7 k).numV, (p.p8 k).optV wLeast (-1099511627776), (p.p9 k).optV wBefore 0⟩
/-- What comes of it: the errors. -/
def endOf (q : PS) (m : Met) : Met × Int := if q.bad = true ∨ m.k = 0 ∨ q.l ≠ [] then (.zero, 1) else if m.err ≠ 0 then (.zero, m.err) else (m, 0)
def parseW (l : List ByteArray) : Met × Int := endOf (PS.p10 ⟨l, false⟩ (kindOf (nx l))) (metOf ⟨l, false⟩ (kindOf (nx l)))
/-- metric.Parse. -/
def parseM (s : ByteArray) : Met × Int := if 200 < s.size then (.zero, 4) else parseW (Lib.goFieldsP blank s)

/-- A metric in memory. -/
structure IsM (M : Nat) (m : Met) (w : World) : Prop where
  c0 : w.cell? ⟨M, 0, none⟩ = some (.int .i64 m.k)
  c1 : w.cell? ⟨M, 1, none⟩ = some (.string m.nm)
  c2 : w.cell? ⟨M, 2, none⟩ = some (.string m.bl)
  c3 : w.cell? ⟨M, 3, none⟩ = some (.int .i64 m.wi)
  c4 : w.cell? ⟨M, 4, none⟩ = some (.int .i64 m.ca)
  c5 : w.cell? ⟨M, 5, none⟩ = some (.int .i64 m.le)
  c6 : w.cell? ⟨M, 6, none⟩ = some (.int .i64 m.be)
  fr : ∀ i, w.frozen? ⟨M, i, none⟩ = false

theorem IsM.grown {M : Nat} {m : Met} {w w' : World} {b : Nat} (h : IsM M m w) (hg : w.grownBy w' (some b)) (hlt : M < w.heap.size) (hne : M ≠ b) : IsM M m w' := by
  have hc : ∀ i, w'.cell? ⟨M, i, none⟩ = w.cell? ⟨M, i, none⟩ := fun i => World.cell?_of_block (w := w) (hg.block M hlt (by intro e; cases e; exact hne rfl))
  have hf : ∀ i, w'.frozen? ⟨M, i, none⟩ = w.frozen? ⟨M, i, none⟩ := fun i => World.frozen?_of_block (w := w) (hg.block M hlt (by intro e; cases e; exact hne rfl))
  exact ⟨(hc 0).trans h.c0, (hc 1).trans h.c1, (hc 2).trans h.c2, (hc 3).trans h.c3, (hc 4).trans h.c4, (hc 5).trans h.c5, (hc 6).trans h.c6, fun i => (hf i).trans (h.fr i)⟩
theorem IsM.frS {M : Nat} {m : Met} {w : World} (h : IsM M m w) (a : Addr) (v : Value) : ∀ i, (w.setCell a v).frozen? ⟨M, i, none⟩ = false := fun i => (World.frozen?_setCell _ _ _ _).trans (h.fr i)
theorem cell_at_other (w : World) (M i j : Nat) (v : Value) (h : i ≠ j) : (w.setCell ⟨M, i, none⟩ v).cell? ⟨M, j, none⟩ = w.cell? ⟨M, j, none⟩ :=
  World.cell?_setCell_other _ _ _ _ (by intro e; cases e; exact h rfl)
theorem IsM.setK {M : Nat} {m : Met} {w : World} (h : IsM M m w) (x : Int) : IsM M { m with k := x } (w.setCell ⟨M, 0, none⟩ (.int .i64 x)) :=
  ⟨World.cell?_setCell_same _ _ _ h.c0, (cell_at_other w M 0 1 _ (by decide)).trans h.c1, (cell_at_other w M 0 2 _ (by decide)).trans h.c2, (cell_at_other w M 0 3 _ (by decide)).trans h.c3, (cell_at_other w M 0 4 _ (by decide)).trans h.c4, (cell_at_other w M 0 5 _ (by decide)).trans h.c5, (cell_at_other w M 0 6 _ (by decide)).trans h.c6, h.frS _ _⟩
theorem IsM.setNm {M : Nat} {m : Met} {w : World} (h : IsM M m w) (x : ByteArray) : IsM M { m with nm := x } (w.setCell ⟨M, 1, none⟩ (.string x)) :=
  ⟨(cell_at_other w M 1 0 _ (by decide)).trans h.c0, World.cell?_setCell_same _ _ _ h.c1, (cell_at_other w M 1 2 _ (by decide)).trans h.c2, (cell_at_other w M 1 3 _ (by decide)).trans h.c3, (cell_at_other w M 1 4 _ (by decide)).trans h.c4, (cell_at_other w M 1 5 _ (by decide)).trans h.c5, (cell_at_other w M 1 6 _ (by decide)).trans h.c6, h.frS _ _⟩
theorem IsM.setBl {M : Nat} {m : Met} {w : World} (h : IsM M m w) (x : ByteArray) : IsM M { m with bl := x } (w.setCell ⟨M, 2, none⟩ (.string x)) :=
  ⟨(cell_at_other w M 2 0 _ (by decide)).trans h.c0, (cell_at_other w M 2 1 _ (by decide)).trans h.c1, World.cell?_setCell_same _ _ _ h.c2, (cell_at_other w M 2 3 _ (by decide)).trans h.c3, (cell_at_other w M 2 4 _ (by decide)).trans h.c4, (cell_at_other w M 2 5 _ (by decide)).trans h.c5, (cell_at_other w M 2 6 _ (by decide)).trans h.c6, h.frS _ _⟩
theorem IsM.setWi {M : Nat} {m : Met} {w : World} (h : IsM M m w) (x : Int) : IsM M { m with wi := x } (w.setCell ⟨M, 3, none⟩ (.int .i64 x)) :=
  ⟨(cell_at_other w M 3 0 _ (by decide)).trans h.c0, (cell_at_other w M 3 1 _ (by decide)).trans h.c1, (cell_at_other w M 3 2 _ (by decide)).trans h.c2, World.cell?_setCell_same _ _ _ h.c3, (cell_at_other w M 3 4 _ (by decide)).trans h.c4, (cell_at_other w M 3 5 _ (by decide)).trans h.c5, (cell_at_other w M 3 6 _ (by decide)).trans h.c6, h.frS _ _⟩
theorem IsM.setCa {M : Nat} {m : Met} {w : World} (h : IsM M m w) (x : Int) : IsM M { m with ca := x } (w.setCell ⟨M, 4, none⟩ (.int .i64 x)) :=
  ⟨(cell_at_other w M 4 0 _ (by decide)).trans h.c0, (cell_at_other w M 4 1 _ (by decide)).trans h.c1, (cell_at_other w M 4 2 _ (by decide)).trans h.c2, (cell_at_other w M 4 3 _ (by decide)).trans h.c3, World.cell?_setCell_same _ _ _ h.c4, (cell_at_other w M 4 5 _ (by decide)).trans h.c5, (cell_at_other w M 4 6 _ (by decide)).trans h.c6, h.frS _ _⟩
theorem IsM.setLe {M : Nat} {m : Met} {w : World} (h : IsM M m w) (x : Int) : IsM M { m with le := x } (w.setCell ⟨M, 5, none⟩ (.int .i64 x)) :=
  ⟨(cell_at_other w M 5 0 _ (by decide)).trans h.c0, (cell_at_other w M 5 1 _ (by decide)).trans h.c1, (cell_at_other w M 5 2 _ (by decide)).trans h.c2, (cell_at_other w M 5 3 _ (by decide)).trans h.c3, (cell_at_other w M 5 4 _ (by decide)).trans h.c4, World.cell?_setCell_same _ _ _ h.c5, (cell_at_other w M 5 6 _ (by decide)).trans h.c6, h.frS _ _⟩
theorem IsM.setBe {M : Nat} {m : Met} {w : World} (h : IsM M m w) (x : Int) : IsM M { m with be := x } (w.setCell ⟨M, 6, none⟩ (.int .i64 x)) :=
  ⟨(cell_at_other w M 6 0 _ (by decide)).trans h.c0, (cell_at_other w M 6 1 _ (by decide)).trans h.c1, (cell_at_other w M 6 2 _ (by decide)).trans h.c2, (cell_at_other w M 6 3 _ (by decide)).trans h.c3, (cell_at_other w M 6 4 _ (by decide)).trans h.c4, (cell_at_other w M 6 5 _ (by decide)).trans h.c5, World.cell?_setCell_same _ _ _ h.c6, h.frS _ _⟩

/-- The words, wherever they begin. -/
def PW (b A : Nat) (p : PS) (w : World) : Prop := ∃ o c, IsWords b A o c p.l p.bad w
theorem IsWords.grown {b A o c M : Nat} {l : List ByteArray} {bad : Bool} {w w' : World} (h : IsWords b A o c l bad w) (hg : w.grownBy w' (some M)) (h1 : b < w.heap.size) (h2 : A < w.heap.size) (n1 : b ≠ M) (n2 : A ≠ M) : IsWords b A o c l bad w' := by
  have hc : ∀ B, B < w.heap.size → B ≠ M → ∀ i, w'.cell? ⟨B, i, none⟩ = w.cell? ⟨B, i, none⟩ := fun B hlt hne i => World.cell?_of_block (w := w) (hg.block B hlt (by intro e; cases e; exact hne rfl))
  have hf : ∀ B, B < w.heap.size → B ≠ M → ∀ i, w'.frozen? ⟨B, i, none⟩ = w.frozen? ⟨B, i, none⟩ := fun B hlt hne i => World.frozen?_of_block (w := w) (hg.block B hlt (by intro e; cases e; exact hne rfl))
  exact ⟨(hc b h1 n1 0).trans h.s0, (hc b h1 n1 1).trans h.s1, (hf b h1 n1 0).trans h.f0, (hf b h1 n1 1).trans h.f1, fun j hj => (hc A h2 n2 _).trans (h.row j hj), h.ne, h.cap⟩

/-- The parse's state: R the result's block, b the words' state, A the words, M the metric. -/
structure PSt (W0 : World) (R b A M : Nat) (p : PS) (m : Met) (w : World) : Prop where
  words : PW b A p w
  met : IsM M m w
  res : IsM R .zero w
  below : Below W0.heap.size W0 w
  tabs : Tabs w
  hR : W0.heap.size ≤ R
  hA : R < A
  hb : A < b
  hM : M = b + 1
  hs : M < w.heap.size
  h9 : 6 ≤ b
  small : ∀ x ∈ p.l, x.size ≤ 200

theorem PSt.words' {W0 : World} {R b A M : Nat} {p p' : PS} {m : Met} {w w' : World} (h : PSt W0 R b A M p m w) (hw : PW b A p' w') (hg : w.grownBy w' (some b)) (hsub : ∀ x ∈ p'.l, x ∈ p.l) : PSt W0 R b A M p' m w' := by
  have h1 := h.hR
  have h2 := h.hA
  have h3 := h.hb
  have h4 := h.hM
  have h5 := h.hs
  exact ⟨hw, h.met.grown hg h5 (by omega), h.res.grown hg (by omega) (by omega), h.below.grown hg h.below.size (fun k hk => by cases hk; omega), h.tabs.belowB h.h9 ((Below.refl _ _).grown hg (by omega) (fun k hk => by cases hk; exact Nat.le_refl _)), h1, h2, h3, h4, Nat.lt_of_lt_of_le h5 hg.size, h.h9, fun x hx => h.small x (hsub x hx)⟩
/-- A store into the metric. -/
theorem PSt.store {W0 : World} {R b A M : Nat} {p : PS} {m m' : Met} {w : World} (h : PSt W0 R b A M p m w) (i : Nat) (v : Value) (hm : IsM M m' (w.setCell ⟨M, i, none⟩ v)) : PSt W0 R b A M p m' (w.setCell ⟨M, i, none⟩ v) := by
  have h1 := h.hR
  have h2 := h.hA
  have h3 := h.hb
  have h4 := h.hM
  have h5 := h.hs
  have h6 := h.h9
  have hg := gb_set w M i v
  obtain ⟨o, c, hw⟩ := h.words
  exact ⟨⟨o, c, hw.grown hg (by omega) (by omega) (by omega) (by omega)⟩, hm, h.res.grown hg (by omega) (by omega), h.below.grown hg h.below.size (fun k hk => by cases hk; omega), h.tabs.belowB (B := M) (by omega) ((Below.refl _ _).grown hg (by omega) (fun k hk => by cases hk; exact Nat.le_refl _)), h1, h2, h3, h4, Nat.lt_of_lt_of_le h5 hg.size, h.h9, h.small⟩
/-- Writes behind the metric. -/
theorem PSt.over {W0 : World} {R b A M g : Nat} {p : PS} {m : Met} {w w' : World} (h : PSt W0 R b A M p m w) (hg : w.grownBy w' (some g)) (hgM : M < g) : PSt W0 R b A M p m w' := by
  have h1 := h.hR
  have h2 := h.hA
  have h3 := h.hb
  have h4 := h.hM
  have h5 := h.hs
  have h6 := h.h9
  have hB : Below M w w' := (Below.refl _ _).grown hg (by omega) (fun k hk => by cases hk; omega)
  obtain ⟨o, c, hw⟩ := h.words
  exact ⟨⟨o, c, hw.grown hg (by omega) (by omega) (by omega) (by omega)⟩, h.met.grown hg (by omega) (by omega), h.res.grown hg (by omega) (by omega), h.below.grown hg h.below.size (fun k hk => by cases hk; omega), h.tabs.belowB (B := M) (by omega) hB, h1, h2, h3, h4, Nat.lt_of_lt_of_le h5 hg.size, h.h9, h.small⟩

theorem nx_small {W0 : World} {R b A M : Nat} {p : PS} {m : Met} {w : World} (h : PSt W0 R b A M p m w) : (nx p.l).size ≤ 200 := by
  have := h.small
  unfold nx
  cases hp : p.l with
  | nil => decide
  | cons x t => exact this x (by rw [hp]; exact List.mem_cons_self)

/-- The callees, at the parse's state. -/
theorem next_st {W0 : World} {R b A M : Nat} {p : PS} {m : Met} {w : World} (h : PSt W0 R b A M p m w) :
    Calls Tryd.prog 30 #[.pointer (some ⟨b, 0, none⟩)] w fun e w' => e = .returned (.string (nx p.l)) ∧ PSt W0 R b A M p.nxt m w' := by
  obtain ⟨o, c, hw⟩ := h.words
  refine (next_calls b A o c p.l p.bad w hw).mono ?_
  rintro e w' ⟨o', c', rfl, h2, hg⟩
  exact ⟨rfl, h.words' (p' := p.nxt) ⟨o', c', h2⟩ hg fun x hx => List.mem_of_mem_tail hx⟩
theorem word_st {W0 : World} {R b A M : Nat} {p : PS} {m : Met} {w : World} (h : PSt W0 R b A M p m w) (s : ByteArray) :
    Calls Tryd.prog 32 #[.pointer (some ⟨b, 0, none⟩), .string s] w fun e w' => e = .returned (.tuple #[]) ∧ PSt W0 R b A M (p.wrd s) m w' := by
  obtain ⟨o, c, hw⟩ := h.words
  refine (word_calls b A o c p.l p.bad s w hw).mono ?_
  rintro e w' ⟨o', c', rfl, h2, hg⟩
  exact ⟨rfl, h.words' (p' := p.wrd s) ⟨o', c', h2⟩ hg fun x hx => List.mem_of_mem_tail hx⟩
theorem number_st {W0 : World} {R b A M : Nat} {p : PS} {m : Met} {w : World} (h : PSt W0 R b A M p m w) :
    Calls Tryd.prog 33 #[.pointer (some ⟨b, 0, none⟩)] w fun e w' => e = .returned (.int .i64 p.numV) ∧ PSt W0 R b A M p.num m w' := by
  obtain ⟨o, c, hw⟩ := h.words
  have h2 := h.hA
  have h3 := h.hb
  have h4 := h.hM
  have h5 := h.hs
  refine (number_calls b A o c p.l p.bad w h.tabs hw h.h9 (by omega) (by omega) (pnum (nx p.l)).1 (pnum (nx p.l)).2 (by
    unfold text_ParseNumber.f
    have hn := nx_small h
    change (if (nx p.l).size ≤ 140737488355328 then some (parseP (nx p.l).data.toList) else none) = _
    rw [if_pos (by omega)]
    rfl)).mono ?_
  rintro e w' ⟨o', c', rfl, h2, hg⟩
  exact ⟨rfl, h.words' (p' := p.num) ⟨o', c', h2⟩ hg fun x hx => List.mem_of_mem_tail hx⟩
theorem has_st {W0 : World} {R b A M : Nat} {p : PS} {m : Met} {w : World} (h : PSt W0 R b A M p m w) (s : ByteArray) :
    Calls Tryd.prog 34 #[.pointer (some ⟨b, 0, none⟩), .string s] w fun e w' => e = .returned (.bool (p.hasB s)) ∧ PSt W0 R b A M (p.skip s) m w' := by
  obtain ⟨o, c, hw⟩ := h.words
  refine (has_calls b A o c p.l p.bad s w hw).mono ?_
  rintro e w' ⟨o', c', rfl, h2, hg⟩
  refine ⟨rfl, h.words' (p' := p.skip s) ⟨o', c', ?_⟩ hg ?_⟩
  · unfold PS.skip
    split at h2
    · rw [if_pos (by assumption)]; exact h2
    · rw [if_neg (by assumption)]; exact h2
  · unfold PS.skip
    intro x hx
    split at hx
    · exact List.mem_of_mem_tail hx
    · exact hx
end Go.Proofs.YtbiolondnkeakaaDoor
