/- Words between blanks, byte by byte: what strings.FieldsFunc gives at metric.Parse's closure. A metric's text is read as the metric. -/
import Derived.Test.YtbiolondnkeakaaDoorFields
import Derived.Test.YtbiolondnkeakaaDoorPlain
import Derived.Lib.Strings
import Derived.Test.YtbiolondnkeakaaDoorPrintR
import Derived.Test.YtbiolondnkeakaaDoorPureNumF
namespace Go.Proofs.YtbiolondnkeakaaDoor.Split
open Go Go.Proofs.YtbiolondnkeakaaDoor Plain

def isB (c : UInt8) : Bool := c == 32 || (c == 9 || c == 10)
def fb : List UInt8 → List UInt8 → List (List UInt8)
  | cur, [] => if cur = [] then [] else [cur]
  | cur, c :: r => if isB c = true then (if cur = [] then fb [] r else cur :: fb [] r) else fb (cur ++ [c]) r
theorem fb_nonblank : ∀ (l cur r : List UInt8), (∀ c ∈ l, isB c = false) → fb cur (l ++ r) = fb (cur ++ l) r
  | [], cur, r, _ => by rw [List.append_nil]; rfl
  | c :: l, cur, r, h => by
    rw [List.cons_append, fb, if_neg (by rw [h c List.mem_cons_self]; exact Bool.noConfusion), fb_nonblank l (cur ++ [c]) r (fun d hd => h d (List.mem_cons_of_mem _ hd))]
    rw [List.append_assoc]
    rfl
theorem fb_blank : ∀ (l r : List UInt8), (∀ c ∈ l, isB c = true) → fb [] (l ++ r) = fb [] r
  | [], _, _ => rfl
  | c :: l, r, h => by
    rw [List.cons_append, fb, if_pos (h c List.mem_cons_self), if_pos rfl, fb_blank l r (fun d hd => h d (List.mem_cons_of_mem _ hd))]
theorem fb_word (w b r : List UInt8) (hw : w ≠ []) (hn : ∀ c ∈ w, isB c = false) (hb : b ≠ []) (hbb : ∀ c ∈ b, isB c = true) : fb [] (w ++ (b ++ r)) = w :: fb [] r := by
  rw [fb_nonblank w [] _ hn, List.nil_append]
  cases b with
  | nil => exact absurd rfl hb
  | cons c b =>
    rw [List.cons_append, fb, if_pos (hbb c List.mem_cons_self), if_neg hw, fb_blank b r (fun d hd => hbb d (List.mem_cons_of_mem _ hd))]
theorem fb_last (w : List UInt8) (hw : w ≠ []) (hn : ∀ c ∈ w, isB c = false) : fb [] w = [w] := by
  have := fb_nonblank w [] [] hn
  rw [List.append_nil] at this
  rw [this, List.nil_append, fb, if_neg hw]

def curOf (s : ByteArray) (pos : Nat) : Option Nat → List UInt8
  | none => []
  | some a => (s.data.toList.drop a).take (pos - a)
def OkSt (pos : Nat) : Option Nat → Prop
  | none => True
  | some a => a < pos
def enc (l : List (List UInt8)) : List ByteArray := l.map fun x => ⟨x.toArray⟩
theorem extract_enc (s : ByteArray) (a b : Nat) : s.extract a b = ⟨((s.data.toList.drop a).take (b - a)).toArray⟩ := by
  refine ByteArray.ext (Array.toList_inj.1 ?_)
  rw [Lib.extract_data]
theorem len_data (s : ByteArray) : s.data.toList.length = s.size := by rw [Array.length_toList]; rfl
theorem drop_split (s : ByteArray) (pos n : Nat) (h : pos + n ≤ s.size) : ∃ l, l.length = n ∧ s.data.toList.drop pos = l ++ s.data.toList.drop (pos + n) ∧ ∀ c ∈ l, ∃ j, pos ≤ j ∧ j < pos + n ∧ s.get! j = c := by
  refine ⟨(s.data.toList.drop pos).take n, ?_, ?_, ?_⟩
  · rw [List.length_take, List.length_drop, len_data]; omega
  · rw [← List.drop_drop, List.take_append_drop]
  · intro c hc
    obtain ⟨i, hi, hic⟩ := List.mem_iff_getElem.1 hc
    rw [List.length_take, List.length_drop, len_data] at hi
    refine ⟨pos + i, by omega, by omega, ?_⟩
    rw [get!_of s (pos + i) (by omega), ← hic]
    rw [List.getElem_take, List.getElem_drop]
    rfl
theorem cur_step (s : ByteArray) (pos n a : Nat) (l : List UInt8) (ha : a < pos) (hl : l.length = n) (hd : s.data.toList.drop pos = l ++ s.data.toList.drop (pos + n)) (hp : pos ≤ s.size) :
    (s.data.toList.drop a).take (pos + n - a) = (s.data.toList.drop a).take (pos - a) ++ l := by
  have h1 : (s.data.toList.drop a) = (s.data.toList.drop a).take (pos - a) ++ s.data.toList.drop pos := by
    have := (List.take_append_drop (pos - a) (s.data.toList.drop a)).symm
    rw [List.drop_drop, show a + (pos - a) = pos by omega] at this
    exact this
  have hlen : ((s.data.toList.drop a).take (pos - a)).length = pos - a := by rw [List.length_take, List.length_drop, len_data]; omega
  obtain ⟨T, hT⟩ : ∃ T, (s.data.toList.drop a).take (pos - a) = T := ⟨_, rfl⟩
  rw [hT] at h1 hlen ⊢
  rw [h1, hd, ← List.append_assoc]
  rw [List.take_append_of_le_length (by rw [List.length_append, hlen, hl]; omega)]
  rw [List.take_of_length_le (by rw [List.length_append, hlen, hl]; omega)]

theorem spans_fb (s : ByteArray) : ∀ (f pos : Nat) (st : Option Nat) (acc : List (Nat × Nat)), s.size ≤ pos + f → pos ≤ s.size → OkSt pos st →
    (Lib.closeSpans s (Lib.spansFromP blank s f pos st acc)).map (fun x => s.extract x.1 x.2) = acc.map (fun x => s.extract x.1 x.2) ++ enc (fb (curOf s pos st) (s.data.toList.drop pos)) := by
  intro f
  induction f with
  | zero =>
    intro pos st acc hf hp hst
    obtain rfl : pos = s.size := by omega
    rw [List.drop_of_length_le (by rw [len_data]; exact Nat.le_refl _)]
    cases st with
    | none =>
      show (Lib.closeSpans s (acc, none)).map _ = _
      simp [Lib.closeSpans, curOf, fb, enc]
    | some a =>
      have hlen : ((s.data.toList.drop a).take (s.size - a)).length = s.size - a := by rw [List.length_take, List.length_drop, len_data]; omega
      have hne : (s.data.toList.drop a).take (s.size - a) ≠ [] := by
        intro e
        have : a < s.size := hst
        rw [e, List.length_nil] at hlen
        omega
      show (Lib.closeSpans s (acc, some a)).map _ = _
      simp only [Lib.closeSpans, List.map_append, List.map_cons, List.map_nil, curOf]
      rw [fb, if_neg hne, extract_enc]
      rfl
  | succ f ih =>
    intro pos st acc hf hp hst
    by_cases hlt : pos < s.size
    · obtain ⟨h1, h2, h3, h4⟩ := decode_bytes s pos hlt
      obtain ⟨n, hn⟩ : ∃ n, (Utf8.decode s pos).2 = n := ⟨_, rfl⟩
      obtain ⟨r, hr⟩ : ∃ r, (Utf8.decode s pos).1 = r := ⟨_, rfl⟩
      rw [hn] at h1 h2 h3
      rw [hn, hr] at h4
      obtain ⟨l, hl, hd, hm⟩ := drop_split s pos n h1
      unfold Lib.spansFromP
      rw [if_pos hlt, hn, hr]
      by_cases hb : blank r = true
      · -- a blank: one byte
        have hsm : (s.get! pos).toNat < 128 ∧ r = (s.get! pos).toNat ∧ n = 1 := by
          rcases h4 with h4 | ⟨_, h5⟩
          · exact h4
          · exfalso
            unfold blank at hb
            simp at hb
            omega
        obtain ⟨g1, g2, rfl⟩ := hsm
        obtain ⟨c, rfl⟩ : ∃ c, l = [c] := List.length_eq_one_iff.1 hl
        obtain ⟨j, j1, j2, hj⟩ := hm c List.mem_cons_self
        obtain rfl : j = pos := by omega
        have hcb : isB c = true := by
          rw [g2] at hb
          unfold blank at hb
          unfold isB
          rw [hj] at hb
          simp at hb
          rcases hb with e | e | e
          · rw [show c = 32 from UInt8.toNat_inj.1 e]; rfl
          · rw [show c = 9 from UInt8.toNat_inj.1 e]; rfl
          · rw [show c = 10 from UInt8.toNat_inj.1 e]; rfl
        rw [if_pos hb, hd, List.singleton_append]
        cases st with
        | none =>
          rw [ih (j + 1) none acc (by omega) h1 trivial]
          rw [show curOf s j none = [] from rfl, fb, if_pos hcb, if_pos rfl]
          rfl
        | some a =>
          have ha : a < j := hst
          have hlen : ((s.data.toList.drop a).take (j - a)).length = j - a := by rw [List.length_take, List.length_drop, len_data]; omega
          have hne : (s.data.toList.drop a).take (j - a) ≠ [] := by intro e; rw [e, List.length_nil] at hlen; omega
          rw [ih (j + 1) none _ (by omega) h1 trivial]
          rw [show curOf s j (some a) = (s.data.toList.drop a).take (j - a) from rfl, fb, if_pos hcb, if_neg hne, List.map_append, List.append_assoc]
          congr 1
          simp only [List.map_cons, List.map_nil, List.singleton_append, enc]
          rw [extract_enc]
          rfl
      · rw [if_neg hb]
        have hnb : ∀ c ∈ l, isB c = false := by
          intro c hc
          obtain ⟨j, j1, j2, hj⟩ := hm c hc
          cases hcb : isB c with
          | false => rfl
          | true =>
            exfalso
            unfold isB at hcb
            have hc3 : c.toNat = 32 ∨ c.toNat = 9 ∨ c.toNat = 10 := by
              simp at hcb
              rcases hcb with e | e | e
              · rw [e]; exact .inl rfl
              · rw [e]; exact .inr (.inl rfl)
              · rw [e]; exact .inr (.inr rfl)
            by_cases hjp : j = pos
            · subst hjp
              rw [hj] at h4
              rcases h4 with ⟨_, e, _⟩ | ⟨e, _⟩
              · apply hb
                unfold blank
                rw [e]
                simp
                omega
              · omega
            · have := h3 j (by omega) j2
              rw [hj] at this
              omega
        rw [hd]
        cases st with
        | none =>
          rw [ih (pos + n) (some pos) acc (by omega) h1 (show pos < pos + n by omega)]
          rw [fb_nonblank l _ _ hnb]
          have e : curOf s (pos + n) (some pos) = [] ++ l := by
            show (s.data.toList.drop pos).take (pos + n - pos) = [] ++ l
            rw [hd, Nat.add_sub_cancel_left, List.take_append_of_le_length (by omega), List.take_of_length_le (by omega)]
            rfl
          rw [e]
          rfl
        | some a =>
          have ha : a < pos := hst
          rw [ih (pos + n) (some a) acc (by omega) h1 (show a < pos + n by omega)]
          rw [fb_nonblank l _ _ hnb]
          have e : curOf s (pos + n) (some a) = curOf s pos (some a) ++ l := cur_step s pos n a l ha hl hd hp
          rw [e]
    · obtain rfl : pos = s.size := by omega
      rw [Lib.spansFromP_end blank s (f + 1) s.size st acc hlt]
      have := ih s.size st acc (by omega) (Nat.le_refl _) hst
      rw [Lib.spansFromP_end blank s f s.size st acc hlt] at this
      exact this

/-- The words, byte by byte. -/
theorem fields_fb (s : ByteArray) : Lib.goFieldsP blank s = enc (fb [] s.data.toList) := by
  have := spans_fb s s.size 0 none [] (by omega) (Nat.zero_le _) trivial
  exact this
end Go.Proofs.YtbiolondnkeakaaDoor.Split
namespace Go.Proofs.YtbiolondnkeakaaDoor
open Go.RowKit Plain Split

def tail4 (m : Met) : List ByteArray := if m.be ≠ 0 then [wBefore, itoaB m.be] else []
def tail3 (m : Met) : List ByteArray := if m.le ≠ -1099511627776 then wLeast :: itoaB m.le :: tail4 m else tail4 m
def tail2 (m : Met) : List ByteArray := wWithin :: itoaB m.wi :: wCap :: itoaB m.ca :: tail3 m
def tail1 (m : Met) : List ByteArray := if m.k = 4 then wTo :: m.bl :: tail2 m else tail2 m
/-- The words of a metric's text. -/
def wordsOf (m : Met) : List ByteArray := kindName m.k :: wOf :: m.nm :: tail1 m

theorem pnum_itoa {n : Int} (h0 : -1099511627776 ≤ n) (h1 : n ≤ 1099511627776) : pnum (itoaB n) = (n, 0) := by
  show parseP (Lib.itoa n) = _
  rw [parse_itoa, if_neg (by omega)]
theorem kindOf_name {k : Int} (h : 1 ≤ k ∧ k ≤ 4) : kindOf (kindName k) = k := by
  have : k = 1 ∨ k = 2 ∨ k = 3 ∨ k = 4 := by omega
  rcases this with rfl | rfl | rfl | rfl <;> rfl
theorem wrd_ok (s : ByteArray) (l : List ByteArray) : (PS.mk (s :: l) false).wrd s = ⟨l, false⟩ := by
  unfold PS.wrd
  have : decide (nx (s :: l) ≠ s) = false := decide_eq_false (fun h => h rfl)
  rw [this]
  rfl
theorem num_ok {n : Int} (h0 : -1099511627776 ≤ n) (h1 : n ≤ 1099511627776) (l : List ByteArray) : (PS.mk (itoaB n :: l) false).num = ⟨l, false⟩ ∧ (PS.mk (itoaB n :: l) false).numV = n := by
  unfold PS.num PS.numV
  have e : pnum (nx (itoaB n :: l)) = (n, 0) := pnum_itoa h0 h1
  show PS.mk l (false || false || decide ((pnum (nx (itoaB n :: l))).2 ≠ 0)) = _ ∧ (pnum (nx (itoaB n :: l))).1 = n
  rw [e]
  exact ⟨rfl, rfl⟩
theorem opt_yes {n : Int} (w : ByteArray) (h0 : -1099511627776 ≤ n) (h1 : n ≤ 1099511627776) (l : List ByteArray) (d : Int) : (PS.mk (w :: itoaB n :: l) false).opt w = ⟨l, false⟩ ∧ (PS.mk (w :: itoaB n :: l) false).optV w d = n := by
  have e1 : (PS.mk (w :: itoaB n :: l) false).hasB w = true := decide_eq_true rfl
  have e2 : (PS.mk (w :: itoaB n :: l) false).skip w = ⟨itoaB n :: l, false⟩ := if_pos rfl
  unfold PS.opt PS.optV
  rw [if_pos e1, if_pos e1, e2]
  exact num_ok h0 h1 l
theorem opt_no {w : ByteArray} {p : PS} (h : p.l.head? ≠ some w) (d : Int) : p.opt w = p ∧ p.optV w d = d := by
  have e1 : ¬ (p.hasB w = true) := fun e => h (of_decide_eq_true e)
  unfold PS.opt PS.optV
  rw [if_neg e1, if_neg e1]
  exact ⟨rfl, rfl⟩
theorem before_ne_least : wBefore ≠ wLeast := by decide
theorem tail4_head (m : Met) : (tail4 m).head? ≠ some wLeast := by
  unfold tail4
  split
  · exact fun e => before_ne_least (Option.some.inj e)
  · exact fun e => by cases e

/-- What is read of a metric's words is the metric. -/
theorem parse_words {m : Met} (h : Fine m) : parseW (wordsOf m) = (m, 0) := by
  have hk : kindOf (nx (wordsOf m)) = m.k := kindOf_name ⟨h.k1, h.k4⟩
  have p2 : (PS.nxt ⟨wordsOf m, false⟩).wrd wOf = ⟨m.nm :: tail1 m, false⟩ := wrd_ok _ _
  have p3 : PS.p3 ⟨wordsOf m, false⟩ = ⟨tail1 m, false⟩ := by unfold PS.p3; rw [p2]; rfl
  have p4 : PS.toN ⟨tail1 m, false⟩ m.k = ⟨tail2 m, false⟩ ∧ PS.toV ⟨tail1 m, false⟩ m.k = m.bl := by
    unfold PS.toN PS.toV tail1
    by_cases h4 : m.k = 4
    · rw [if_pos h4, if_pos h4, if_pos h4, wrd_ok]
      exact ⟨rfl, rfl⟩
    · rw [if_neg h4, if_neg h4, if_neg h4, h.sh h4]
      exact ⟨rfl, rfl⟩
  have p5 : PS.p5 ⟨wordsOf m, false⟩ m.k = ⟨itoaB m.wi :: wCap :: itoaB m.ca :: tail3 m, false⟩ := by unfold PS.p5; rw [p3, p4.1]; exact wrd_ok _ _
  have n5 := num_ok (n := m.wi) (by have := h.w1; omega) (by have := h.w2; omega) (wCap :: itoaB m.ca :: tail3 m)
  have p7 : PS.p7 ⟨wordsOf m, false⟩ m.k = ⟨itoaB m.ca :: tail3 m, false⟩ := by unfold PS.p7; rw [p5, n5.1]; exact wrd_ok _ _
  have n7 := num_ok (n := m.ca) (by have := h.c1; omega) (by have := h.c2; omega) (tail3 m)
  have p8 : PS.p8 ⟨wordsOf m, false⟩ m.k = ⟨tail3 m, false⟩ := by unfold PS.p8; rw [p7, n7.1]
  have p9 : PS.opt ⟨tail3 m, false⟩ wLeast = ⟨tail4 m, false⟩ ∧ PS.optV ⟨tail3 m, false⟩ wLeast (-1099511627776) = m.le := by
    unfold tail3
    by_cases hl : m.le = -1099511627776
    · rw [if_neg (fun e => e hl)]
      have := opt_no (p := ⟨tail4 m, false⟩) (tail4_head m) (-1099511627776)
      rw [hl]
      exact this
    · rw [if_pos hl]
      exact opt_yes wLeast h.l1 h.l2 _ _
  have p10 : PS.opt ⟨tail4 m, false⟩ wBefore = ⟨[], false⟩ ∧ PS.optV ⟨tail4 m, false⟩ wBefore 0 = m.be := by
    unfold tail4
    by_cases hb : m.be = 0
    · rw [if_neg (fun e => e hb)]
      have := opt_no (p := ⟨[], false⟩) (w := wBefore) (fun e => by cases e) 0
      rw [hb]
      exact this
    · rw [if_pos hb]
      exact opt_yes wBefore (by have := h.b1; omega) (by have := h.b2; omega) _ _
  have q9 : PS.p9 ⟨wordsOf m, false⟩ m.k = ⟨tail4 m, false⟩ := by unfold PS.p9; rw [p8]; exact p9.1
  have q10 : PS.p10 ⟨wordsOf m, false⟩ m.k = ⟨[], false⟩ := by unfold PS.p10; rw [q9]; exact p10.1
  have hm : metOf ⟨wordsOf m, false⟩ m.k = m := by
    unfold metOf
    rw [p2, p3, p4.2, p5, n5.2, p7, n7.2, p8, p9.2, q9, p10.2]
    rfl
  unfold parseW
  rw [hk, q10, hm]
  have hne : ¬ (m.err ≠ 0) := fun e => e (fine_iff.2 h)
  have := h.k1
  unfold endOf
  rw [if_neg (by rintro (a | a | a); cases a; omega; exact a rfl), if_neg hne]

def wl (m : Met) : List (List UInt8) := (wordsOf m).map fun x => x.data.toList
theorem enc_wl (m : Met) : enc (wl m) = wordsOf m := by
  unfold enc wl
  rw [List.map_map]
  conv => rhs; rw [← List.map_id (wordsOf m)]
  rfl
/-- A word of a metric's text. -/
def Word (w : ByteArray) : Prop := w.data.toList ≠ [] ∧ ∀ c ∈ w.data.toList, isB c = false
theorem word_key {s : ByteArray} (h : keyB s = true) : Word s := by
  unfold keyB at h
  rw [Bool.and_eq_true, Bool.and_eq_true] at h
  have hw : wordP s := of_decide_eq_true h.1.1
  refine ⟨fun e => ?_, fun c hc => ?_⟩
  · have := hw.1
    have e2 := len_data s
    rw [e, List.length_nil] at e2
    omega
  · obtain ⟨j, hj, rfl⟩ := mem_get! hc
    have := hw.2 j hj
    cases hb : isB (s.get! j) with
    | false => rfl
    | true =>
      exfalso
      unfold isB at hb
      simp at hb
      have ht : (s.get! j).toNat = 32 ∨ (s.get! j).toNat = 9 ∨ (s.get! j).toNat = 10 := by
        rcases hb with e | e | e
        · rw [e]; exact .inl rfl
        · rw [e]; exact .inr (.inl rfl)
        · rw [e]; exact .inr (.inr rfl)
      unfold wordAt at this
      simp at this
      omega
theorem word_itoa (n : Int) : Word (itoaB n) := by
  refine ⟨?_, fun c hc => ?_⟩
  · show Lib.itoa n ≠ []
    unfold Lib.itoa
    split
    · exact List.cons_ne_nil _ _
    · exact dec_ne _
  · have hd : c = 45 ∨ dig c = true := by
      change c ∈ Lib.itoa n at hc
      unfold Lib.itoa at hc
      split at hc
      · rcases List.mem_cons.1 hc with e | e
        · exact .inl e
        · exact .inr (dig_dec _ c e)
      · exact .inr (dig_dec _ c hc)
    cases hb : isB c with
    | false => rfl
    | true =>
      exfalso
      unfold isB at hb
      simp at hb
      rcases hb with rfl | rfl | rfl <;> (rcases hd with e | e <;> revert e <;> decide)
theorem word_kind (k : Int) : Word (kindName k) := by
  unfold kindName
  repeat' split
  all_goals exact ⟨by decide, by decide⟩

/-- A text followed by a blank and more words. -/
theorem app (a b : ByteArray) : (a ++ b).data.toList = a.data.toList ++ b.data.toList := by simp
def leL (m : Met) : List UInt8 := if m.le ≠ -1099511627776 then (⟨#[32, 108, 101, 97, 115, 116, 32]⟩ ++ itoaB m.le : ByteArray).data.toList else []
def beL (m : Met) : List UInt8 := if m.be ≠ 0 then (⟨#[32, 98, 101, 102, 111, 114, 101, 32]⟩ ++ itoaB m.be : ByteArray).data.toList else []
/-- The text of a metric, word by word, ahead of whatever follows. -/
theorem fb_p10 {m : Met} (h : Fine m) : fb [] (p10 m).data.toList = wl m := by
  have wn := word_key h.nm
  have wk := word_kind m.k
  have ww := word_itoa m.wi
  have wc := word_itoa m.ca
  have sp : ∀ c ∈ ([32] : List UInt8), isB c = true := by decide
  have st : ∀ (w : ByteArray) (r : List UInt8), Word w → fb [] (w.data.toList ++ (32 :: r)) = w.data.toList :: fb [] r := fun w r hw => fb_word w.data.toList [32] r hw.1 hw.2 (by decide) sp
  have lst : ∀ (w : ByteArray), Word w → fb [] w.data.toList = [w.data.toList] := fun w hw => fb_last _ hw.1 hw.2
  -- the end: 'before'
  have h4 : ∀ (w : ByteArray), Word w → fb [] (w.data.toList ++ beL m) = w.data.toList :: (tail4 m).map fun x => x.data.toList := fun w hw => by
    unfold tail4 beL
    by_cases hb : m.be = 0
    · rw [if_neg (fun e => e hb), if_neg (fun e => e hb), List.append_nil]
      exact lst w hw
    · rw [if_pos hb, if_pos hb, app]
      show fb [] (w.data.toList ++ (32 :: (wBefore.data.toList ++ (32 :: (itoaB m.be).data.toList)))) = _
      rw [st w _ hw, st wBefore _ ⟨by decide, by decide⟩, lst _ (word_itoa _)]
      rfl
  have h3 : ∀ (w : ByteArray), Word w → fb [] (w.data.toList ++ (leL m ++ beL m)) = w.data.toList :: (tail3 m).map fun x => x.data.toList := fun w hw => by
    unfold tail3 leL
    by_cases hb : m.le = -1099511627776
    · rw [if_neg (fun e => e hb), if_neg (fun e => e hb), List.nil_append]
      exact h4 w hw
    · rw [if_pos hb, if_pos hb, app, List.append_assoc]
      show fb [] (w.data.toList ++ (32 :: (wLeast.data.toList ++ (32 :: ((itoaB m.le).data.toList ++ _))))) = _
      rw [st w _ hw, st wLeast _ ⟨by decide, by decide⟩, h4 _ (word_itoa _)]
      rfl
  have eq10 : (p10 m).data.toList = (p7 m).data.toList ++ (leL m ++ beL m) := by
    unfold p10 p8 leL beL
    split <;> split <;> simp
  have eq7 : (p7 m).data.toList = (p5 m).data.toList ++ (32 :: (wWithin.data.toList ++ (32 :: ((itoaB m.wi).data.toList ++ (32 :: (wCap.data.toList ++ (32 :: (itoaB m.ca).data.toList))))))) := by
    unfold p7
    simp [wWithin, wCap]
  have h2 : ∀ (w : ByteArray), Word w → fb [] (w.data.toList ++ (32 :: (wWithin.data.toList ++ (32 :: ((itoaB m.wi).data.toList ++ (32 :: (wCap.data.toList ++ (32 :: ((itoaB m.ca).data.toList ++ (leL m ++ beL m)))))))))) = w.data.toList :: (tail2 m).map fun x => x.data.toList := fun w hw => by
    rw [st w _ hw, st wWithin _ ⟨by decide, by decide⟩, st _ _ ww, st wCap _ ⟨by decide, by decide⟩, h3 _ wc]
    rfl
  rw [eq10, eq7]
  unfold wl wordsOf p5 tail1
  by_cases hk : m.k = 4
  · rw [if_pos hk, if_pos hk]
    have wb := word_key (h.bl hk)
    have := h2 _ wb
    unfold p4
    simp only [app, List.append_assoc, List.cons_append]
    show fb [] ((kindName m.k).data.toList ++ (32 :: (wOf.data.toList ++ (32 :: (m.nm.data.toList ++ (32 :: (wTo.data.toList ++ (32 :: (m.bl.data.toList ++ _))))))))) = _
    rw [st _ _ wk, st wOf _ ⟨by decide, by decide⟩, st _ _ wn, st wTo _ ⟨by decide, by decide⟩, this]
    rfl
  · rw [if_neg hk, if_neg hk]
    have := h2 _ wn
    unfold p4
    simp only [app, List.append_assoc, List.cons_append]
    show fb [] ((kindName m.k).data.toList ++ (32 :: (wOf.data.toList ++ (32 :: (m.nm.data.toList ++ _))))) = _
    rw [st _ _ wk, st wOf _ ⟨by decide, by decide⟩, this]
    rfl

/-- Whatever text of at most 200 bytes has these words is read as the metric. -/
theorem parse_fb {m : Met} (h : Fine m) {s : ByteArray} (hs : s.size ≤ 200) (he : fb [] s.data.toList = wl m) : parseM s = (m, 0) := by
  unfold parseM
  rw [if_neg (by omega), fields_fb, he, enc_wl]
  exact parse_words h
theorem fb_spaces (n : Nat) : ∀ (l cur : List UInt8), fb cur (l ++ List.replicate n 32) = fb cur l
  | [], cur => by
    rw [List.nil_append]
    cases n with
    | zero => rfl
    | succ n =>
      have e0 : fb cur (List.replicate (n + 1) 32) = if cur = [] then fb [] (List.replicate n 32) else cur :: fb [] (List.replicate n 32) := rfl
      have : fb [] (List.replicate n 32) = [] := by
        have e := fb_blank (List.replicate n 32) [] (fun c hc => by rw [List.eq_of_mem_replicate hc]; rfl)
        rw [List.append_nil] at e
        rw [e]
        rfl
      rw [e0, this]
      rfl
  | c :: l, cur => by
    have h1 := fb_spaces n l []
    have h2 := fb_spaces n l (cur ++ [c])
    simp only [List.cons_append, fb]
    rw [h1, h2]
end Go.Proofs.YtbiolondnkeakaaDoor
