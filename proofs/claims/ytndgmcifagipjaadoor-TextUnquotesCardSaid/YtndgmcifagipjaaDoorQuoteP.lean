/- Quoted texts in plain Lean: quoting, reading the quotation, and that each is the other's inverse. -/
import Derived.Test.YtndgmcifagipjaaDoorPlain
import Derived.Lib.Strings
namespace Go.Proofs.YtndgmcifagipjaaDoor.Plain
open Go

def esc : List UInt8 → List UInt8
  | [] => []
  | c :: r => if c = 34 ∨ c = 92 then 92 :: c :: esc r else c :: esc r
theorem esc_append (a b : List UInt8) : esc (a ++ b) = esc a ++ esc b := by
  induction a with
  | nil => rfl
  | cons c r ih =>
    rw [List.cons_append, esc, esc, ih]
    split <;> rfl
theorem esc_length (l : List UInt8) : (esc l).length ≤ 2 * l.length := by
  induction l with
  | nil => exact Nat.le_refl _
  | cons c r ih => rw [esc]; split <;> (simp only [List.length_cons]; omega)
theorem esc_ge (l : List UInt8) : l.length ≤ (esc l).length := by
  induction l with
  | nil => exact Nat.le_refl _
  | cons c r ih => rw [esc]; split <;> (simp only [List.length_cons]; omega)
def quotedL (l : List UInt8) : List UInt8 := 34 :: (esc l ++ [34])
/-- What Quote returns. -/
def quoteP (s : ByteArray) : ByteArray × Int := if validB s = true then (⟨(quotedL s.data.toList).toArray⟩, 0) else (⟨#[]⟩, 2)

/-- What stands between the quotation marks, without its escapes; the flag: the byte before was a backslash. -/
def unq : List UInt8 → Bool → Option (List UInt8)
  | [], true => none
  | [], false => some []
  | c :: r, true => if c = 34 ∨ c = 92 then (unq r false).map (c :: ·) else none
  | c :: r, false => if c = 34 then none else if c = 92 then unq r true else (unq r false).map (c :: ·)
theorem unq_esc (l : List UInt8) : unq (esc l) false = some l := by
  induction l with
  | nil => rfl
  | cons c r ih =>
    rw [esc]
    by_cases h : c = 34 ∨ c = 92
    · rw [if_pos h, unq, if_neg (by decide), if_pos rfl, unq, if_pos h, ih]
      rfl
    · rw [if_neg h, unq, if_neg (fun e => h (.inl e)), if_neg (fun e => h (.inr e)), ih]
      rfl
theorem esc_unq : ∀ (l : List UInt8), (∀ r, unq l false = some r → esc r = l) ∧ (∀ r, unq l true = some r → esc r = 92 :: l)
  | [] => ⟨fun r h => by rw [unq] at h; cases h; rfl, fun r h => by rw [unq] at h; cases h⟩
  | c :: t => by
    obtain ⟨i1, i2⟩ := esc_unq t
    constructor
    · intro r h
      rw [unq] at h
      by_cases h1 : c = 34
      · rw [if_pos h1] at h; cases h
      · rw [if_neg h1] at h
        by_cases h2 : c = 92
        · rw [if_pos h2] at h
          rw [h2]
          exact i2 r h
        · rw [if_neg h2] at h
          obtain ⟨q, hq, rfl⟩ := Option.map_eq_some_iff.1 h
          rw [esc, if_neg (by rintro (e | e); exact h1 e; exact h2 e), i1 q hq]
    · intro r h
      rw [unq] at h
      by_cases h1 : c = 34 ∨ c = 92
      · rw [if_pos h1] at h
        obtain ⟨q, hq, rfl⟩ := Option.map_eq_some_iff.1 h
        rw [esc, if_pos h1, i1 q hq]
      · rw [if_neg h1] at h; cases h
theorem unq_length : ∀ (l : List UInt8) (b : Bool) (r : List UInt8), unq l b = some r → r.length ≤ l.length
  | [], true, r, h => by rw [unq] at h; cases h
  | [], false, r, h => by rw [unq] at h; cases h; exact Nat.le_refl _
  | c :: t, true, r, h => by
    rw [unq] at h
    split at h
    · obtain ⟨q, hq, rfl⟩ := Option.map_eq_some_iff.1 h
      have := unq_length t false q hq
      simp only [List.length_cons]; omega
    · cases h
  | c :: t, false, r, h => by
    rw [unq] at h
    split at h
    · cases h
    · split at h
      · have := unq_length t true r h
        simp only [List.length_cons]; omega
      · obtain ⟨q, hq, rfl⟩ := Option.map_eq_some_iff.1 h
        have := unq_length t false q hq
        simp only [List.length_cons]; omega
/-- What stands between the first and the last byte. -/
def middle (s : ByteArray) : ByteArray := s.extract 1 (s.size - 1)
/-- What Unquote returns. -/
def unqP (s : ByteArray) : ByteArray × Int :=
  if s.size < 2 ∨ (s.get! 0) ≠ 34 ∨ s.get! (s.size - 1) ≠ 34 then (⟨#[]⟩, 1)
  else match unq (middle s).data.toList false with
    | none => (⟨#[]⟩, 1)
    | some l => if validB ⟨l.toArray⟩ = true then (⟨l.toArray⟩, 0) else (⟨#[]⟩, 2)
theorem unqP_form {s : ByteArray} (h : s.size < 2 ∨ (s.get! 0) ≠ 34 ∨ s.get! (s.size - 1) ≠ 34) : unqP s = (⟨#[]⟩, 1) := if_pos h
theorem unqP_none {s : ByteArray} (h : ¬ (s.size < 2 ∨ (s.get! 0) ≠ 34 ∨ s.get! (s.size - 1) ≠ 34)) (h2 : unq (middle s).data.toList false = none) : unqP s = (⟨#[]⟩, 1) := by
  unfold unqP
  rw [if_neg h, h2]
theorem unqP_some {s : ByteArray} {l : List UInt8} (h : ¬ (s.size < 2 ∨ (s.get! 0) ≠ 34 ∨ s.get! (s.size - 1) ≠ 34)) (h2 : unq (middle s).data.toList false = some l) :
    unqP s = if validB ⟨l.toArray⟩ = true then (⟨l.toArray⟩, 0) else (⟨#[]⟩, 2) := by
  unfold unqP
  rw [if_neg h, h2]

/-- What has been written when k bytes of a text are quoted. -/
def escTo (s : ByteArray) (k : Nat) : List UInt8 := 34 :: esc (s.data.toList.take k)
theorem escTo_length (s : ByteArray) (k : Nat) : (escTo s k).length ≤ 2 * k + 1 := by
  unfold escTo
  have h1 := esc_length (s.data.toList.take k)
  have h2 := List.length_take_le k s.data.toList
  simp only [List.length_cons]
  omega
theorem take_snoc (s : ByteArray) (k : Nat) (h : k < s.size) : s.data.toList.take (k + 1) = s.data.toList.take k ++ [s[k]] := by
  rw [List.take_succ_eq_append_getElem (by simpa using h)]
  rfl
theorem escTo_esc {s : ByteArray} {k : Nat} (h : k < s.size) (hc : s[k] = 34 ∨ s[k] = 92) : escTo s (k + 1) = escTo s k ++ [92] ++ [s[k]] := by
  unfold escTo
  rw [take_snoc s k h, esc_append, esc, if_pos hc, esc]
  simp
theorem escTo_plain {s : ByteArray} {k : Nat} (h : k < s.size) (hc : ¬ (s[k] = 34 ∨ s[k] = 92)) : escTo s (k + 1) = escTo s k ++ [s[k]] := by
  unfold escTo
  rw [take_snoc s k h, esc_append, esc, if_neg hc, esc]
  simp
theorem escTo_end {s : ByteArray} {k : Nat} (h : ¬ k < s.size) : escTo s k ++ [34] = quotedL s.data.toList := by
  unfold escTo quotedL
  rw [List.take_of_length_le (by simp; omega)]
  rfl
theorem byte_eq {c : UInt8} {n : Nat} (h : n < 256) : ((c.toNat : Int) == (n : Int)) = decide (c = UInt8.ofNat n) := by
  rw [Bool.eq_iff_iff, beq_iff_eq, decide_eq_true_iff]
  constructor
  · intro e
    exact UInt8.toNat_inj.1 (by rw [UInt8.toNat_ofNat_of_lt' h]; omega)
  · intro e
    rw [e, UInt8.toNat_ofNat_of_lt' h]

/-! One step of reading, at place k. -/
theorem drop_at (M : ByteArray) (k : Nat) (h : k < M.size) : M.data.toList.drop k = M[k] :: M.data.toList.drop (k + 1) := by
  rw [List.drop_eq_getElem_cons (by simpa using h)]
  rfl
theorem unq_keep {M : ByteArray} {k : Nat} {b : Bool} {acc : List UInt8} {U : Option (List UInt8)} (h : k < M.size) (hU : U = (unq (M.data.toList.drop k) b).map (acc ++ ·))
    (hc : (b = true ∧ (M[k] = 34 ∨ M[k] = 92)) ∨ (b = false ∧ ¬ (M[k] = 34 ∨ M[k] = 92))) : U = (unq (M.data.toList.drop (k + 1)) false).map ((acc ++ [M[k]]) ++ ·) := by
  rw [hU, drop_at M k h]
  rcases hc with ⟨rfl, hc⟩ | ⟨rfl, hc⟩
  · rw [unq, if_pos hc, Option.map_map]
    congr 1
    funext r
    simp
  · rw [unq, if_neg (fun e => hc (.inl e)), if_neg (fun e => hc (.inr e)), Option.map_map]
    congr 1
    funext r
    simp
theorem unq_slash {M : ByteArray} {k : Nat} {acc : List UInt8} {U : Option (List UInt8)} (h : k < M.size) (hU : U = (unq (M.data.toList.drop k) false).map (acc ++ ·)) (hc : M[k] = 92) : U = (unq (M.data.toList.drop (k + 1)) true).map (acc ++ ·) := by
  rw [hU, drop_at M k h, unq, if_neg (by rw [hc]; decide), if_pos hc]
theorem unq_stop {M : ByteArray} {k : Nat} {b : Bool} {acc : List UInt8} {U : Option (List UInt8)} (h : k < M.size) (hU : U = (unq (M.data.toList.drop k) b).map (acc ++ ·))
    (hc : (b = true ∧ ¬ (M[k] = 34 ∨ M[k] = 92)) ∨ (b = false ∧ M[k] = 34)) : U = none := by
  rw [hU, drop_at M k h]
  rcases hc with ⟨rfl, hc⟩ | ⟨rfl, hc⟩
  · rw [unq, if_neg hc]; rfl
  · rw [unq, if_pos hc]; rfl
theorem unq_end {M : ByteArray} {k : Nat} {b : Bool} {acc : List UInt8} {U : Option (List UInt8)} (h : ¬ k < M.size) (hU : U = (unq (M.data.toList.drop k) b).map (acc ++ ·)) : U = if b = true then none else some acc := by
  rw [hU, List.drop_of_length_le (by simp; omega)]
  cases b <;> simp [unq]
theorem unq_start (l : List UInt8) : unq l false = (unq (l.drop 0) false).map (([] : List UInt8) ++ ·) := by
  simp
end Go.Proofs.YtndgmcifagipjaaDoor.Plain
