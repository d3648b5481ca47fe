/- What is measured of a list of events: the order does not matter, and a greater cap never gives less. -/
import Derived.Test.YtbiolondnkeakaaDoorLong
namespace Go.Proofs.YtbiolondnkeakaaDoor
open Go.RowKit Go.Proofs.YtbiolondnkeakaaDoorW.PrintWords Plain

/-- What an event adds. -/
def cV (m : Met) (x : Ev) : Int := if x.keep = true ∧ x.nm = m.nm ∧ m.le ≤ x.va then contrib m.k x else 0
def cB (m : Met) (x : Ev) : Int := if x.keep = true ∧ m.k = 4 ∧ x.nm = m.bl then x.va else 0
def sumL (c : Ev → Int) : List Ev → Int
  | [] => 0
  | x :: l => c x + sumL c l
theorem sumL_append (c : Ev → Int) (l k : List Ev) : sumL c (l ++ k) = sumL c l + sumL c k := by
  induction l with
  | nil => simp [sumL]
  | cons x l ih => rw [List.cons_append, sumL, sumL, ih]; omega
theorem wrap_add (a b : Int) : wrap64 (wrap64 a + b) = wrap64 (a + b) := by unfold wrap64; omega
theorem foldV (m : Met) : ∀ (l : List Ev) (a : Int), (l.filter Ev.keep).foldl (addV m) (wrap64 a) = wrap64 (a + sumL (cV m) l)
  | [], a => by simp [sumL]
  | x :: l, a => by
    rw [sumL]
    by_cases hk : x.keep = true
    · rw [List.filter_cons_of_pos hk, List.foldl_cons]
      by_cases h : x.nm = m.nm ∧ m.le ≤ x.va
      · rw [show addV m (wrap64 a) x = wrap64 (a + contrib m.k x) by unfold addV; rw [if_pos h, wrap_add], foldV m l, show cV m x = contrib m.k x from if_pos ⟨hk, h⟩, Int.add_assoc]
      · rw [show addV m (wrap64 a) x = wrap64 a from if_neg h, foldV m l, show cV m x = 0 from if_neg (fun e => h e.2), Int.zero_add]
    · rw [List.filter_cons_of_neg hk, foldV m l, show cV m x = 0 from if_neg (fun e => hk e.1), Int.zero_add]
theorem foldB (m : Met) : ∀ (l : List Ev) (a : Int), (l.filter Ev.keep).foldl (addB m) (wrap64 a) = wrap64 (a + sumL (cB m) l)
  | [], a => by simp [sumL]
  | x :: l, a => by
    rw [sumL]
    by_cases hk : x.keep = true
    · rw [List.filter_cons_of_pos hk, List.foldl_cons]
      by_cases h : m.k = 4 ∧ x.nm = m.bl
      · rw [show addB m (wrap64 a) x = wrap64 (a + x.va) by unfold addB; rw [if_pos h, wrap_add], foldB m l, show cB m x = x.va from if_pos ⟨hk, h⟩, Int.add_assoc]
      · rw [show addB m (wrap64 a) x = wrap64 a from if_neg h, foldB m l, show cB m x = 0 from if_neg (fun e => h e.2), Int.zero_add]
    · rw [List.filter_cons_of_neg hk, foldB m l, show cB m x = 0 from if_neg (fun e => hk e.1), Int.zero_add]
theorem valP_sum {m : Met} (hm : m.err = 0) (l : List Ev) : valP m l = (lim m.ca (wrap64 (sumL (cV m) l)), lim m.ca (wrap64 (sumL (cB m) l))) := by
  have h0 : wrap64 0 = 0 := by unfold wrap64; omega
  have hV := foldV m l 0
  have hB := foldB m l 0
  rw [h0, Int.zero_add] at hV hB
  unfold valP
  rw [if_neg (by rw [hm]; exact fun h => h rfl), hV, hB]

/-- The events from another one on. -/
def rotI (l : List Ev) (t j : Nat) : Ev := (l[(j + t) % l.length]?).getD Ev.zero
def turnedL (l : List Ev) (t : Nat) : Nat → List Ev
  | 0 => []
  | j + 1 => turnedL l t j ++ [rotI l t j]
theorem turnedL_length (l : List Ev) (t : Nat) : ∀ j, (turnedL l t j).length = j
  | 0 => rfl
  | j + 1 => by rw [turnedL, List.length_append, turnedL_length l t j]; rfl
def sumF (f : Nat → Int) : Nat → Int
  | 0 => 0
  | j + 1 => sumF f j + f j
theorem sum_turned (c : Ev → Int) (l : List Ev) (t : Nat) : ∀ j, sumL c (turnedL l t j) = sumF (fun i => c (rotI l t i)) j
  | 0 => rfl
  | j + 1 => by rw [turnedL, sumL_append, sum_turned c l t j, sumF, sumL, sumL, Int.add_zero]
theorem sumF_shift (f : Nat → Int) : ∀ n, sumF (fun i => f (i + 1)) n = sumF f n - f 0 + f n
  | 0 => by simp only [sumF]; omega
  | n + 1 => by rw [sumF, sumF_shift f n, sumF]; omega
theorem sumF_congr {f g : Nat → Int} : ∀ n, (∀ i, i < n → f i = g i) → sumF f n = sumF g n
  | 0, _ => rfl
  | n + 1, h => by rw [sumF, sumF, sumF_congr n (fun i hi => h i (by omega)), h n (by omega)]
theorem sum_take (c : Ev → Int) (l : List Ev) : ∀ n, n ≤ l.length → sumF (fun i => c ((l[i]?).getD Ev.zero)) n = sumL c (l.take n)
  | 0, _ => rfl
  | n + 1, h => by
    rw [sumF, sum_take c l n (by omega), List.take_add_one, sumL_append, List.getElem?_eq_getElem (by omega)]
    simp [sumL]
theorem sum_rot (c : Ev → Int) (l : List Ev) : ∀ t, sumL c (turnedL l t l.length) = sumL c l
  | 0 => by
    rw [sum_turned, ← List.take_length (l := l), ← sum_take c l l.length (Nat.le_refl _), List.take_length]
    refine sumF_congr _ fun i hi => ?_
    unfold rotI
    rw [Nat.add_zero, Nat.mod_eq_of_lt hi]
  | t + 1 => by
    rw [← sum_rot c l t, sum_turned, sum_turned]
    have h := sumF_shift (fun i => c (rotI l t i)) l.length
    rw [show sumF (fun i => c (rotI l (t + 1) i)) l.length = sumF (fun i => c (rotI l t (i + 1))) l.length from sumF_congr _ fun i _ => by unfold rotI; rw [show i + (t + 1) = i + 1 + t by omega]]
    have e : c (rotI l t l.length) = c (rotI l t 0) := by unfold rotI; rw [Nat.add_mod_left, Nat.zero_add]
    omega
theorem valP_turned {m : Met} (hm : m.err = 0) (l : List Ev) (t : Nat) : valP m (turnedL l t l.length) = valP m l := by
  rw [valP_sum hm, valP_sum hm, sum_rot, sum_rot]

theorem lim_range {c : Int} (hc : 0 ≤ c) (n : Int) : 0 ≤ lim c n ∧ lim c n ≤ c := by unfold lim; omega
theorem lim_more {c d : Int} (hc : 0 ≤ c) (hd : c ≤ d) (n : Int) : lim c n ≤ lim d n ∧ (lim c n = lim d n ∨ lim c n = c) := by unfold lim; omega
theorem sumL_zero {c : Ev → Int} (h : ∀ x, c x = 0) (l : List Ev) : sumL c l = 0 := by
  induction l with
  | nil => rfl
  | cons x l ih => rw [sumL, h, ih]; rfl
/-- All that the law says of one metric and its values. -/
structure LimFacts (m : Met) (d : Int) (a b e f : Int) : Prop where
  a0 : 0 ≤ a
  a1 : a ≤ m.ca
  b0 : 0 ≤ b
  b1 : b ≤ m.ca
  nr : m.k ≠ 4 → b = 0
  sh : m.k = 3 → a ≤ 1
  ge : m.k ≠ 3 → a ≤ e ∧ (a = e ∨ a = m.ca)
  gf : m.k ≠ 3 → b ≤ f ∧ (b = f ∨ b = m.ca)
theorem lim_facts {m : Met} (hm : Fine m) (h5 : m.ca ≤ 50) (l : List Ev) (d : Int) (h0 : 0 ≤ d) (h1 : d ≤ 255) :
    LimFacts m d (valP m l).1 (valP m l).2 (valP { m with ca := m.ca + d } l).1 (valP { m with ca := m.ca + d } l).2 := by
  have he := fine_iff.2 hm
  have hc : 0 ≤ m.ca := by have := hm.c1; omega
  have hf := valP_sum he l
  have hgt : ∀ h3 : m.k ≠ 3, valP { m with ca := m.ca + d } l = (lim (m.ca + d) (wrap64 (sumL (cV m) l)), lim (m.ca + d) (wrap64 (sumL (cB m) l))) := fun h3 =>
    valP_sum (m := { m with ca := m.ca + d }) (fine_iff.2 { hm with c1 := by show 1 ≤ m.ca + d; have := hm.c1; omega, c2 := by show m.ca + d ≤ _; omega, s3 := fun h => absurd h h3 }) l
  have r1 := lim_range hc (wrap64 (sumL (cV m) l))
  have r2 := lim_range hc (wrap64 (sumL (cB m) l))
  refine ⟨by rw [hf]; exact r1.1, by rw [hf]; exact r1.2, by rw [hf]; exact r2.1, by rw [hf]; exact r2.2, fun h4 => ?_, fun h3 => ?_, fun h3 => ?_, fun h3 => ?_⟩
  · rw [hf]
    show lim m.ca (wrap64 (sumL (cB m) l)) = 0
    rw [sumL_zero (c := cB m) (fun x => if_neg (fun (e : x.keep = true ∧ m.k = 4 ∧ x.nm = m.bl) => h4 e.2.1))]
    unfold lim wrap64
    omega
  · rw [hf]
    have := hm.s3 h3
    show lim m.ca _ ≤ 1
    have := r1.2
    omega
  · rw [hf, hgt h3]
    exact lim_more hc (by omega) _
  · rw [hf, hgt h3]
    exact lim_more hc (by omega) _
theorem metD_cap (l : List Int) : (metD l).ca ≤ 50 := by
  have h3 := nxV_range l (d3 l) (n := 50) (by omega)
  show dCa l ≤ 50
  unfold dCa dC
  split <;> omega
end Go.Proofs.YtbiolondnkeakaaDoor
