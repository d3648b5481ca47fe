/- The decimal form of a number in plain Lean: its digits, and that it is read as the number. -/
import Derived.Test.YtndgmcifagipjaaDoorNums
import Derived.Lib.ItoaLen
namespace Go.Proofs.YtndgmcifagipjaaDoor.Plain
open Go

theorem dec_small {u : Nat} (h : u < 10) : Lib.decDigits u = [UInt8.ofNat (48 + u)] := Lib.decDigits_one h
theorem dec_big {u : Nat} (h : ¬ u < 10) : Lib.decDigits u = Lib.decDigits (u / 10) ++ [UInt8.ofNat (48 + u % 10)] := by rw [Lib.decDigits, dif_neg h]
theorem ofNat_digit {d : Nat} (h : d < 10) : (UInt8.ofNat (48 + d)).toNat = 48 + d := UInt8.toNat_ofNat_of_lt' (show 48 + d < 256 by omega)
theorem val_append (l : List UInt8) (c : UInt8) (acc : Nat) : val acc (l ++ [c]) = val acc l * 10 + (c.toNat - 48) := by unfold val; rw [List.foldl_append]; rfl
theorem val_dec (u : Nat) : val 0 (Lib.decDigits u) = u := by
  induction u using Nat.strongRecOn with
  | _ u ih =>
    by_cases h : u < 10
    · rw [dec_small h, val_cons, val_nil, ofNat_digit h]; omega
    · rw [dec_big h, val_append, ih (u / 10) (by omega), ofNat_digit (by omega)]; omega
theorem dig_dec (u : Nat) : ∀ c ∈ Lib.decDigits u, dig c = true := by
  induction u using Nat.strongRecOn with
  | _ u ih =>
    by_cases h : u < 10
    · rw [dec_small h]
      intro c hc
      rw [List.mem_singleton] at hc
      rw [hc, dig_iff, ofNat_digit h]; omega
    · rw [dec_big h]
      intro c hc
      rcases List.mem_append.1 hc with hc | hc
      · exact ih (u / 10) (by omega) c hc
      · rw [List.mem_singleton] at hc
        rw [hc, dig_iff, ofNat_digit (by omega)]; omega
theorem dec_ne (u : Nat) : Lib.decDigits u ≠ [] := by
  intro h
  have := Lib.decDigits_length u
  have h2 := Lib.nDigits_pos u
  rw [h] at this
  simp at this
  omega
theorem head_dec (u : Nat) (h0 : u ≠ 0) : (Lib.decDigits u).head? ≠ some 48 := by
  induction u using Nat.strongRecOn with
  | _ u ih =>
    by_cases h : u < 10
    · rw [dec_small h]
      intro e
      have e2 := congrArg UInt8.toNat (Option.some.inj e)
      rw [ofNat_digit h] at e2
      have : (48 : UInt8).toNat = 48 := rfl
      omega
    · rw [dec_big h]
      cases hd : Lib.decDigits (u / 10) with
      | nil => exact absurd hd (dec_ne _)
      | cons c r =>
        have := ih (u / 10) (by omega) (by omega)
        rw [hd] at this
        exact this
theorem neg_dec (u : Nat) : negOf (Lib.decDigits u) = false ∧ digitsOf (Lib.decDigits u) = Lib.decDigits u := by
  rcases parts (Lib.decDigits u) with ⟨h1, h2⟩ | ⟨h1, h2, _⟩
  · have : dig 45 = true := dig_dec u 45 (by rw [h2]; simp)
    exact absurd this (by decide)
  · exact ⟨h1, h2⟩
theorem neg_cons (l : List UInt8) : negOf (45 :: l) = true ∧ digitsOf (45 :: l) = l := by
  rcases parts (45 :: l) with ⟨h1, h2⟩ | ⟨_, _, h3⟩
  · exact ⟨h1, ((List.cons.inj h2).2).symm⟩
  · exact absurd rfl h3
/-- What is read of a number's decimal form. -/
theorem parse_itoa (n : Int) : parseP (Lib.itoa n) = if n < -1099511627776 ∨ 1099511627776 < n then (0, 3) else (n, 0) := by
  unfold Lib.itoa
  by_cases hn : n < 0
  · rw [if_pos hn]
    obtain ⟨e1, e2⟩ := neg_cons (Lib.decDigits n.natAbs)
    rw [parseP_digits (by rw [e2]; exact dec_ne _) (by rw [e2]; intro h; exact head_dec n.natAbs (by omega) h.1) (by rw [e2]; exact dig_dec _), e2, val_dec, e1]
    by_cases hb : 1099511627776 < n.natAbs
    · rw [if_pos hb, if_pos (by omega)]
    · have hr : (if n < -1099511627776 ∨ 1099511627776 < n then ((0 : Int), (3 : Int)) else (n, 0)) = (n, 0) := if_neg (by omega)
      rw [if_neg hb, hr]
      show (-(n.natAbs : Int), (0 : Int)) = (n, 0)
      congr 1
      omega
  · rw [if_neg hn]
    obtain ⟨e1, e2⟩ := neg_dec n.toNat
    have hz : ¬ ((Lib.decDigits n.toNat).head? = some 48 ∧ (1 < (Lib.decDigits n.toNat).length ∨ negOf (Lib.decDigits n.toNat) = true)) := by
      rintro ⟨h1, h2⟩
      by_cases h0 : n.toNat = 0
      · rw [h0] at h2
        have : Lib.decDigits 0 = [48] := dec_small (by decide)
        rw [this] at h2
        exact absurd h2 (by decide)
      · exact head_dec _ h0 h1
    rw [parseP_digits (by rw [e2]; exact dec_ne _) (by rw [e2]; exact hz) (by rw [e2]; exact dig_dec _), e2, val_dec, e1]
    by_cases hb : 1099511627776 < n.toNat
    · rw [if_pos hb, if_pos (by omega)]
    · have hr : (if n < -1099511627776 ∨ 1099511627776 < n then ((0 : Int), (3 : Int)) else (n, 0)) = (n, 0) := if_neg (by omega)
      rw [if_neg hb, hr]
      show ((n.toNat : Int), (0 : Int)) = (n, 0)
      rw [Int.toNat_of_nonneg (by omega)]
/-- The digits of m ahead of others. -/
def decTo (m : Nat) (t : List UInt8) : List UInt8 := if m = 0 then t else Lib.decDigits m ++ t
theorem decTo_step {m : Nat} (h : m ≠ 0) (t : List UInt8) : decTo m t = decTo (m / 10) (UInt8.ofNat (48 + m % 10) :: t) := by
  unfold decTo
  rw [if_neg h]
  by_cases h2 : m < 10
  · rw [if_pos (by omega), dec_small h2, Nat.mod_eq_of_lt h2]; rfl
  · rw [if_neg (by omega), dec_big h2, List.append_assoc]; rfl
end Go.Proofs.YtndgmcifagipjaaDoor.Plain
