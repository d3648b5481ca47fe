/- Decimal numbers in plain Lean: what a text of digits is worth, and what ParseNumber makes of a text. -/
import Derived.Test.YtndgmcifagipjaaDoorPlain
import Derived.Lib.Strings
namespace Go.Proofs.YtndgmcifagipjaaDoor.Plain
open Go

def dig (c : UInt8) : Bool := decide (48 ≤ c.toNat) && decide (c.toNat ≤ 57)
theorem dig_iff {c : UInt8} : dig c = true ↔ 48 ≤ c.toNat ∧ c.toNat ≤ 57 := by simp [dig]
/-- What the digits behind a number are worth. -/
def val (acc : Nat) (l : List UInt8) : Nat := l.foldl (fun a c => a * 10 + (c.toNat - 48)) acc
theorem val_cons (acc : Nat) (c : UInt8) (r : List UInt8) : val acc (c :: r) = val (acc * 10 + (c.toNat - 48)) r := by unfold val; rw [List.foldl_cons]
theorem val_nil (acc : Nat) : val acc [] = acc := by unfold val; rw [List.foldl_nil]
theorem val_ge (l : List UInt8) : ∀ (acc : Nat), acc ≤ val acc l := by
  induction l with
  | nil => intro acc; rw [val_nil]; exact Nat.le_refl _
  | cons c r ih => intro acc; rw [val_cons]; exact Nat.le_trans (by omega) (ih _)
theorem parse_cons (acc : Nat) (c : UInt8) (r : List UInt8) : Lib.parseUint10 acc (c :: r) =
    if 48 ≤ c.toNat ∧ c.toNat ≤ 57 then
      if 1844674407370955162 ≤ acc then .range
      else if 18446744073709551616 ≤ acc * 10 + (c.toNat - 48) then .range
      else Lib.parseUint10 (acc * 10 + (c.toNat - 48)) r
    else Lib.NumEnd.syntax := by simp only [Lib.parseUint10]
theorem parse_nil (acc : Nat) : Lib.parseUint10 acc [] = .ok acc := by simp only [Lib.parseUint10]
def worth (n : Nat) : Lib.NumEnd Nat := if n < 18446744073709551616 then .ok n else .range
theorem worth_ok {n : Nat} (h : n < 18446744073709551616) : worth n = .ok n := if_pos h
theorem worth_range {n : Nat} (h : 18446744073709551616 ≤ n) : worth n = .range := if_neg (by omega)
theorem parse_digits (l : List UInt8) : ∀ (acc : Nat), acc < 18446744073709551616 → (∀ c ∈ l, dig c = true) → Lib.parseUint10 acc l = worth (val acc l) := by
  induction l with
  | nil =>
    intro acc ha _
    rw [parse_nil, val_nil, worth_ok ha]
  | cons c r ih =>
    intro acc ha h
    have hc := dig_iff.1 (h c (List.mem_cons_self ..))
    have hr : ∀ c ∈ r, dig c = true := fun x hx => h x (List.mem_cons_of_mem _ hx)
    rw [parse_cons, val_cons, if_pos hc]
    have hg := val_ge r (acc * 10 + (c.toNat - 48))
    by_cases h1 : 1844674407370955162 ≤ acc
    · rw [if_pos h1, worth_range (by omega)]
    · rw [if_neg h1]
      by_cases h2 : 18446744073709551616 ≤ acc * 10 + (c.toNat - 48)
      · rw [if_pos h2, worth_range (by omega)]
      · rw [if_neg h2]
        exact ih _ (by omega) hr

def negOf (l : List UInt8) : Bool := Lib.hasPrefix l [45]
def digitsOf (l : List UInt8) : List UInt8 := Lib.trimPrefix l [45]
/-- What ParseNumber returns: the number and the error. -/
def parseP (l : List UInt8) : Int × Int :=
  if digitsOf l = [] then (0, 1)
  else if (digitsOf l).head? = some 48 ∧ (1 < (digitsOf l).length ∨ negOf l = true) then (0, 1)
  else if (digitsOf l).all dig = false then (0, 1)
  else if 1099511627776 < val 0 (digitsOf l) then (0, 3)
  else (if negOf l = true then -(val 0 (digitsOf l) : Int) else val 0 (digitsOf l), 0)

theorem parts (l : List UInt8) : (negOf l = true ∧ l = 45 :: digitsOf l) ∨ (negOf l = false ∧ digitsOf l = l ∧ l.head? ≠ some 45) := by
  unfold negOf digitsOf Lib.trimPrefix Lib.hasPrefix
  cases l with
  | nil => right; simp
  | cons c r =>
    by_cases h : c = 45
    · subst h; left; simp
    · right
      have h2 : ¬ 45 = c := fun e => h e.symm
      simp [List.isPrefixOf, h, h2]

theorem atoi_digits (l : List UInt8) (hne : digitsOf l ≠ []) (hd : ∀ c ∈ digitsOf l, dig c = true) :
    Lib.atoiAll l = if (negOf l = false ∧ 9223372036854775808 ≤ val 0 (digitsOf l)) ∨ (negOf l = true ∧ 9223372036854775808 < val 0 (digitsOf l)) then .range
      else .ok (if negOf l = true then -(val 0 (digitsOf l) : Int) else val 0 (digitsOf l)) := by
  have hp := parse_digits (digitsOf l) 0 (by omega) hd
  have hm : Lib.parseMag (digitsOf l) = Lib.parseUint10 0 (digitsOf l) := by unfold Lib.parseMag; rw [if_neg hne]
  rcases parts l with ⟨hn, hl⟩ | ⟨hn, hl, hh⟩
  · have e : ∀ m, Lib.parseMag (digitsOf l) = m → Lib.atoiAll (45 :: digitsOf l) = (match m with
      | .range => .range
      | .ok u => if 9223372036854775808 < u then .range else .ok (-(u : Int))
      | _ => Lib.atoiAll []) := by
      intro m hm2
      unfold Lib.atoiAll
      dsimp only
      rw [if_pos (Or.inr (by decide)), hm2]
      cases m with
      | range => rfl
      | ok u => simp
      | _ => rfl
    have e2 := e (worth (val 0 (digitsOf l))) (hm.trans hp)
    rw [← hl] at e2
    rw [e2]
    simp only [hn]
    by_cases h1 : val 0 (digitsOf l) < 18446744073709551616
    · rw [worth_ok h1]
      by_cases h2 : 9223372036854775808 < val 0 (digitsOf l)
      · simp [h2]
      · simp [h2]
    · rw [worth_range (by omega)]
      have h2 : 9223372036854775808 < val 0 (digitsOf l) := by omega
      simp [h2]
  · rw [hl] at hd hm hp hne ⊢
    cases hc : l with
    | nil => exact absurd hc hne
    | cons c r =>
      have hcd := dig_iff.1 (hd c (by rw [hc]; simp))
      have e : ∀ m, Lib.parseMag (c :: r) = m → Lib.atoiAll (c :: r) = (match m with
        | .range => .range
        | .ok u => if 9223372036854775808 ≤ u then .range else .ok (u : Int)
        | _ => Lib.atoiAll []) := by
        intro m hm2
        have h1 : ¬ (c.toNat = 43 ∨ c.toNat = 45) := by omega
        have h2 : ¬ c.toNat = 45 := by omega
        unfold Lib.atoiAll
        dsimp only
        rw [if_neg h1, hm2]
        cases m with
        | range => rfl
        | ok u => simp [h2]
        | _ => rfl
      have e2 := e (worth (val 0 l)) (by rw [← hc]; exact hm.trans hp)
      rw [← hc] at e2 ⊢
      rw [e2]
      simp only [hn]
      by_cases h1 : val 0 l < 18446744073709551616
      · rw [worth_ok h1]
        by_cases h2 : 9223372036854775808 ≤ val 0 l
        · simp [h2]
        · simp [h2]
      · rw [worth_range (by omega)]
        have h2 : 9223372036854775808 ≤ val 0 l := by omega
        simp [h2]

/-! The ways of ParseNumber. -/
theorem parseP_none {l : List UInt8} (h : digitsOf l = []) : parseP l = (0, 1) := if_pos h
theorem parseP_zero {l : List UInt8} (h : (digitsOf l).head? = some 48) (h2 : 1 < (digitsOf l).length ∨ negOf l = true) : parseP l = (0, 1) := by
  unfold parseP
  by_cases h0 : digitsOf l = []
  · rw [if_pos h0]
  · rw [if_neg h0, if_pos ⟨h, h2⟩]
theorem parseP_bad {l : List UInt8} (h : ¬ ∀ c ∈ digitsOf l, dig c = true) : parseP l = (0, 1) := by
  have h3 : (digitsOf l).all dig = false := by
    cases ha : (digitsOf l).all dig with
    | false => rfl
    | true => exact absurd (List.all_eq_true.1 ha) h
  unfold parseP
  by_cases h0 : digitsOf l = []
  · rw [if_pos h0]
  · rw [if_neg h0]
    by_cases h1 : (digitsOf l).head? = some 48 ∧ (1 < (digitsOf l).length ∨ negOf l = true)
    · rw [if_pos h1]
    · rw [if_neg h1, if_pos h3]
theorem parseP_digits {l : List UInt8} (h0 : digitsOf l ≠ []) (h1 : ¬ ((digitsOf l).head? = some 48 ∧ (1 < (digitsOf l).length ∨ negOf l = true))) (h : ∀ c ∈ digitsOf l, dig c = true) :
    parseP l = if 1099511627776 < val 0 (digitsOf l) then (0, 3) else (if negOf l = true then -(val 0 (digitsOf l) : Int) else val 0 (digitsOf l), 0) := by
  unfold parseP
  have h3 : ¬ (digitsOf l).all dig = false := by rw [List.all_eq_true.2 h]; exact Bool.noConfusion
  rw [if_neg h0, if_neg h1, if_neg h3]
/-- Every byte before place k is a digit. -/
def digTo (s : ByteArray) (k : Nat) : Prop := ∀ j, j < k → 48 ≤ (s.get! j).toNat ∧ (s.get! j).toNat ≤ 57
theorem digTo_rune {s : ByteArray} {pos : Nat} (hp : pos < s.size) (h : digTo s pos) (h1 : 48 ≤ (Utf8.decode s pos).1) (h2 : (Utf8.decode s pos).1 ≤ 57) : digTo s (pos + (Utf8.decode s pos).2) := by
  have hd := decode_bytes s pos hp
  obtain ⟨ha, hb, hw⟩ : (s.get! pos).toNat < 128 ∧ (Utf8.decode s pos).1 = (s.get! pos).toNat ∧ (Utf8.decode s pos).2 = 1 := by omega
  rw [hw]
  intro j hj
  by_cases e : j = pos
  · subst e; omega
  · exact h j (by omega)
theorem mem_get! {s : ByteArray} {c : UInt8} (h : c ∈ s.data.toList) : ∃ j, j < s.size ∧ s.get! j = c := by
  obtain ⟨j, hj, e⟩ := List.mem_iff_getElem.1 h
  have hj2 : j < s.size := by simpa using hj
  have e2 : s.data[j]'hj2 = c := by simpa using e
  exact ⟨j, hj2, by rw [get!_of s j hj2]; exact e2⟩
theorem digTo_end {s : ByteArray} {pos : Nat} (hp : ¬ pos < s.size) (h : digTo s pos) : ∀ c ∈ s.data.toList, dig c = true := by
  intro c hc
  obtain ⟨j, hj, rfl⟩ := mem_get! hc
  exact dig_iff.2 (h j (by omega))
theorem digTo_bad {s : ByteArray} {pos : Nat} (hp : pos < s.size) (h : (Utf8.decode s pos).1 < 48 ∨ 57 < (Utf8.decode s pos).1) : ¬ ∀ c ∈ s.data.toList, dig c = true := by
  intro ha
  have hd := decode_bytes s pos hp
  have hm : s.get! pos ∈ s.data.toList := by
    rw [get!_of s pos hp]
    exact List.mem_iff_getElem.2 ⟨pos, by simpa using hp, by simp; rfl⟩
  have := dig_iff.1 (ha _ hm)
  omega
end Go.Proofs.YtndgmcifagipjaaDoor.Plain
