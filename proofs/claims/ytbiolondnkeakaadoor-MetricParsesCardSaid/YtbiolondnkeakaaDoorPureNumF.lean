/- The decimal form of a number in plain Lean: its digits, and that it is read as the number. The plain law of TextNumbers: a number's decimal form, and that it is read as it was or is out of range. -/
import Derived.Test.YtbiolondnkeakaaDoorNums
import Derived.Lib.ItoaLen
import Derived.Test.YtbiolondnkeakaaDoorPureCheck
import Derived.Test.YtbiolondnkeakaaDoorPTx3
import Derived.OpenShut
namespace Go.Proofs.YtbiolondnkeakaaDoor.Plain
open Go

theorem dec_small {u : Nat} (h : u < 10) : Lib.decDigits u = [UInt8.ofNat (48 + u)] := Lib.decDigits_one h
theorem dec_big {u : Nat} (h : ¬ u < 10) : Lib.decDigits u = Lib.decDigits (u / 10) ++ [UInt8.ofNat (48 + u % 10)] := by rw [Lib.decDigits, dif_neg h]
theorem ofNat_digit {d : Nat} (h : d < 10) : (UInt8.ofNat (48 + d)).toNat = 48 + d := UInt8.toNat_ofNat_of_lt' (show 48 + d < 256 by omega)
theorem val_append (l : List UInt8) (c : UInt8) (acc : Nat) : val acc (l ++ [c]) = val acc l * 10 + (c.toNat - 48) := by unfold val; rw [List.foldl_append]; rfl
theorem val_dec (u : Nat) : val 0 (Lib.decDigits u) = u := by
  induction u using Nat.strongRecOn with
  | _ u ih =>
    by_cases h : u < 10
    · rw [dec_small h, val_cons, val_nil, ofNat_digit h]; omega
    · rw [dec_big h, val_append, ih (u / 10) (by omega), ofNat_digit (by omega)]; omega
theorem dig_dec (u : Nat) : ∀ c ∈ Lib.decDigits u, dig c = true := by
  induction u using Nat.strongRecOn with
  | _ u ih =>
    by_cases h : u < 10
    · rw [dec_small h]
      intro c hc
      rw [List.mem_singleton] at hc
      rw [hc, dig_iff, ofNat_digit h]; omega
    · rw [dec_big h]
      intro c hc
      rcases List.mem_append.1 hc with hc | hc
      · exact ih (u / 10) (by omega) c hc
      · rw [List.mem_singleton] at hc
        rw [hc, dig_iff, ofNat_digit (by omega)]; omega
theorem dec_ne (u : Nat) : Lib.decDigits u ≠ [] := by
  intro h
  have := Lib.decDigits_length u
  have h2 := Lib.nDigits_pos u
  rw [h] at this
  simp at this
  omega
theorem head_dec (u : Nat) (h0 : u ≠ 0) : (Lib.decDigits u).head? ≠ some 48 := by
  induction u using Nat.strongRecOn with
  | _ u ih =>
    by_cases h : u < 10
    · rw [dec_small h]
      intro e
      have e2 := congrArg UInt8.toNat (Option.some.inj e)
      rw [ofNat_digit h] at e2
      have : (48 : UInt8).toNat = 48 := rfl
      omega
    · rw [dec_big h]
      cases hd : Lib.decDigits (u / 10) with
      | nil => exact absurd hd (dec_ne _)
      | cons c r =>
        have := ih (u / 10) (by omega) (by omega)
        rw [hd] at this
        exact this
theorem neg_dec (u : Nat) : negOf (Lib.decDigits u) = false ∧ digitsOf (Lib.decDigits u) = Lib.decDigits u := by
  rcases parts (Lib.decDigits u) with ⟨h1, h2⟩ | ⟨h1, h2, _⟩
  · have : dig 45 = true := dig_dec u 45 (by rw [h2]; simp)
    exact absurd this (by decide)
  · exact ⟨h1, h2⟩
theorem neg_cons (l : List UInt8) : negOf (45 :: l) = true ∧ digitsOf (45 :: l) = l := by
  rcases parts (45 :: l) with ⟨h1, h2⟩ | ⟨_, _, h3⟩
  · exact ⟨h1, ((List.cons.inj h2).2).symm⟩
  · exact absurd rfl h3
/-- What is read of a number's decimal form. -/
theorem parse_itoa (n : Int) : parseP (Lib.itoa n) = if n < -1099511627776 ∨ 1099511627776 < n then (0, 3) else (n, 0) := by
  unfold Lib.itoa
  by_cases hn : n < 0
  · rw [if_pos hn]
    obtain ⟨e1, e2⟩ := neg_cons (Lib.decDigits n.natAbs)
    rw [parseP_digits (by rw [e2]; exact dec_ne _) (by rw [e2]; intro h; exact head_dec n.natAbs (by omega) h.1) (by rw [e2]; exact dig_dec _), e2, val_dec, e1]
    by_cases hb : 1099511627776 < n.natAbs
    · rw [if_pos hb, if_pos (by omega)]
    · have hr : (if n < -1099511627776 ∨ 1099511627776 < n then ((0 : Int), (3 : Int)) else (n, 0)) = (n, 0) := if_neg (by omega)
      rw [if_neg hb, hr]
      show (-(n.natAbs : Int), (0 : Int)) = (n, 0)
      congr 1
      omega
  · rw [if_neg hn]
    obtain ⟨e1, e2⟩ := neg_dec n.toNat
    have hz : ¬ ((Lib.decDigits n.toNat).head? = some 48 ∧ (1 < (Lib.decDigits n.toNat).length ∨ negOf (Lib.decDigits n.toNat) = true)) := by
      rintro ⟨h1, h2⟩
      by_cases h0 : n.toNat = 0
      · rw [h0] at h2
        have : Lib.decDigits 0 = [48] := dec_small (by decide)
        rw [this] at h2
        exact absurd h2 (by decide)
      · exact head_dec _ h0 h1
    rw [parseP_digits (by rw [e2]; exact dec_ne _) (by rw [e2]; exact hz) (by rw [e2]; exact dig_dec _), e2, val_dec, e1]
    by_cases hb : 1099511627776 < n.toNat
    · rw [if_pos hb, if_pos (by omega)]
    · have hr : (if n < -1099511627776 ∨ 1099511627776 < n then ((0 : Int), (3 : Int)) else (n, 0)) = (n, 0) := if_neg (by omega)
      rw [if_neg hb, hr]
      show ((n.toNat : Int), (0 : Int)) = (n, 0)
      rw [Int.toNat_of_nonneg (by omega)]
/-- The digits of m ahead of others. -/
def decTo (m : Nat) (t : List UInt8) : List UInt8 := if m = 0 then t else Lib.decDigits m ++ t
theorem decTo_step {m : Nat} (h : m ≠ 0) (t : List UInt8) : decTo m t = decTo (m / 10) (UInt8.ofNat (48 + m % 10) :: t) := by
  unfold decTo
  rw [if_neg h]
  by_cases h2 : m < 10
  · rw [if_pos (by omega), dec_small h2, Nat.mod_eq_of_lt h2]; rfl
  · rw [if_neg (by omega), dec_big h2, List.append_assoc]; rfl
end Go.Proofs.YtbiolondnkeakaaDoor.Plain
namespace Go.Proofs.YtbiolondnkeakaaDoor.Pure
open Go.RowKit Go.Proofs.YtbiolondnkeakaaDoor.PT Go.Proofs.YtbiolondnkeakaaDoorW.PrintWords Go.Proofs.YtbiolondnkeakaaDoorW.PrintLast Go.Proofs.YtbiolondnkeakaaDoorW.PrintMore Plain

theorem enc_fin : ∀ d : Fin 10, (Utf8.encode (wrap32 (wrap64 (48 + (d.val : Int))))).data.toList = [UInt8.ofNat (48 + d.val)] := by decide +kernel
theorem enc_digit {d : Nat} (h : d < 10) : (Utf8.encode (wrap32 (wrap64 (48 + (d : Int))))).data.toList = [UInt8.ofNat (48 + d)] := enc_fin ⟨d, h⟩
theorem app_list (a b : ByteArray) : (a ++ b).data.toList = a.data.toList ++ b.data.toList := by simp

theorem nz {m : Nat} (h : m ≠ 0) : ¬ ((m : Int) = 0) := by omega
theorem nz_neg {m : Nat} (h : m ≠ 0) : ¬ (-(m : Int) = 0) := by omega
theorem nn (n : Nat) : ¬ ((n : Int) < 0) := by omega
theorem room {a b c : Nat} (h : a = 1) (h2 : b + c ≤ 100) : a + b ≤ 9223372036854775807 := by omega
theorem room0 {b c : Nat} (h2 : b + c ≤ 100) : 1 + b ≤ 9223372036854775807 := by omega
theorem neg_pos {n : Nat} (h : n ≠ 0) : -(n : Int) < 0 := by omega
theorem neg_zero {n : Nat} (h : n = 0) : ¬ (-(n : Int) < 0) := by omega
theorem wrap_nat {n : Nat} (h : n ≤ 9223372036854775807) : wrap64 (n : Int) = n := by unfold wrap64; omega
theorem wrap_neg {n : Nat} (h : n ≤ 9223372036854775808) : wrap64 (-(n : Int)) = -(n : Int) := by unfold wrap64; omega
theorem tmod_nat (m : Nat) : Int.tmod (m : Int) 10 = ((m % 10 : Nat) : Int) := by rw [Int.tmod_eq_emod_of_nonneg (by omega)]; omega
theorem tmod_neg (m : Nat) : Int.tmod (-(m : Int)) 10 = -((m % 10 : Nat) : Int) := by rw [Int.neg_tmod, tmod_nat]
theorem tdiv_nat (m : Nat) : Int.tdiv (m : Int) 10 = ((m / 10 : Nat) : Int) := by rw [Int.tdiv_eq_ediv_of_nonneg (by omega)]; omega
theorem tdiv_neg (m : Nat) : Int.tdiv (-(m : Int)) 10 = -((m / 10 : Nat) : Int) := by rw [Int.neg_tdiv, tdiv_nat]
theorem number_l0 (m : Nat) : ∀ (k : Nat) (neg : Bool) (x3 : ByteArray), m ≤ 9223372036854775808 → (neg = false → m ≤ 9223372036854775807) → x3.size + Lib.nDigits m + (if m = 0 then 0 else 1) ≤ 100 → Lib.nDigits m + (if m = 0 then 0 else 1) < k →
    ∃ s, flagstoneref1_Number.l0 k (if neg = true then -(m : Int) else m) x3 neg = some s ∧ s.data.toList = (if neg = true then [45] else []) ++ decTo m x3.data.toList := by
  induction m using Nat.strongRecOn with
  | _ m ih =>
    intro k neg x3 hm hmn hx hk
    obtain ⟨k, rfl⟩ : ∃ j, k = j + 1 := ⟨k - 1, by omega⟩
    by_cases h0 : m = 0
    · subst h0
      cases neg with
      | true =>
        refine ⟨(⟨#[45]⟩ : ByteArray) ++ x3, ?_, ?_⟩
        · rw [flagstoneref1_Number.l0, if_pos (by decide), if_pos rfl, if_pos (room0 (c := Lib.nDigits 0) hx)]
        · rw [app_list]; rfl
      | false =>
        refine ⟨x3, ?_, rfl⟩
        rw [flagstoneref1_Number.l0, if_pos (by decide), if_neg Bool.noConfusion]
    · have hd : m / 10 < m := by omega
      rw [if_neg h0] at hx hk
      have hdig : Lib.nDigits (m / 10) + (if m / 10 = 0 then 0 else 1) ≤ Lib.nDigits m := by
        by_cases h10 : m < 10
        · rw [if_pos (by omega), Lib.nDigits_small h10, Lib.nDigits_small (show m / 10 < 10 by omega)]; omega
        · rw [if_neg (by omega), Lib.nDigits_big h10]; omega
      obtain ⟨E, hE⟩ : ∃ E, Utf8.encode (wrap32 (wrap64 (48 + ((m % 10 : Nat) : Int)))) = E := ⟨_, rfl⟩
      have he := enc_digit (d := m % 10) (by omega)
      rw [hE] at he
      have hes : E.size = 1 := by rw [Lib.size_eq, he]; rfl
      have hnp := Lib.nDigits_pos m
      have hroom : x3.size + Lib.nDigits m ≤ 100 := by omega
      have hsz : (E ++ x3).size = 1 + x3.size := by rw [ByteArray.size_append, hes]
      have hlist : (E ++ x3).data.toList = UInt8.ofNat (48 + m % 10) :: x3.data.toList := by rw [app_list, he]; rfl
      have h5 : (E ++ x3).size + Lib.nDigits (m / 10) + (if m / 10 = 0 then 0 else 1) ≤ 100 := by rw [hsz]; omega
      have h6 : Lib.nDigits (m / 10) + (if m / 10 = 0 then 0 else 1) < k := by omega
      have h7 : m / 10 ≤ 9223372036854775807 := by omega
      have step := fun (neg : Bool) => ih (m / 10) hd k neg (E ++ x3) (Nat.le_trans h7 (by decide)) (fun _ => h7) h5 h6
      cases neg with
      | false =>
        obtain ⟨s, hs, hl⟩ := step false
        refine ⟨s, ?_, ?_⟩
        · have t1 := tmod_nat m
          have t2 : wrap64 (Int.tdiv (m : Int) 10) = ((m / 10 : Nat) : Int) := by rw [tdiv_nat, wrap_nat (Nat.le_trans (Nat.div_le_self _ _) (hmn rfl))]
          have e : (if false = true then -(m : Int) else (m : Int)) = (m : Int) := rfl
          have e2 : (if false = true then -((m / 10 : Nat) : Int) else ((m / 10 : Nat) : Int)) = ((m / 10 : Nat) : Int) := rfl
          rw [e2] at hs
          rw [e, flagstoneref1_Number.l0, if_neg (nz h0), t1, hE, if_neg (nn _), if_pos (room hes hroom), t2]
          exact hs
        · rw [hl, hlist, ← decTo_step h0]
      | true =>
        obtain ⟨s, hs, hl⟩ := step true
        refine ⟨s, ?_, ?_⟩
        · have t1 := tmod_neg m
          have t2 : wrap64 (Int.tdiv (-(m : Int)) 10) = -((m / 10 : Nat) : Int) := by rw [tdiv_neg, wrap_neg (Nat.le_trans (Nat.div_le_self _ _) hm)]
          have e : (if true = true then -(m : Int) else (m : Int)) = -(m : Int) := rfl
          have e2 : (if true = true then -((m / 10 : Nat) : Int) else ((m / 10 : Nat) : Int)) = -((m / 10 : Nat) : Int) := rfl
          rw [e2] at hs
          rw [e, flagstoneref1_Number.l0, if_neg (nz_neg h0), t1, t2]
          by_cases hz : m % 10 = 0
          · rw [if_neg (neg_zero hz)]
            have w : (48 + -((m % 10 : Nat) : Int)) = 48 + ((m % 10 : Nat) : Int) := by rw [hz]; rfl
            rw [w, hE, if_pos (room hes hroom)]
            exact hs
          · rw [if_pos (neg_pos hz)]
            have w : wrap64 (-(-((m % 10 : Nat) : Int))) = ((m % 10 : Nat) : Int) := by rw [Int.neg_neg, wrap_nat (n := m % 10) (Nat.le_trans (Nat.le_of_lt (Nat.mod_lt m (by decide))) (by decide))]
            rw [w, hE, if_pos (room hes hroom)]
            exact hs
        · rw [hl, hlist, ← decTo_step h0]
theorem number_f (n : Int) (k : Nat) (h0 : -9223372036854775808 ≤ n) (h1 : n ≤ 9223372036854775807) (hk : 40 < k) : ∃ s, flagstoneref1_Number.f k n = some s ∧ s.data.toList = Lib.itoa n := by
  unfold flagstoneref1_Number.f
  by_cases hz : n = 0
  · subst hz
    refine ⟨⟨#[48]⟩, if_pos rfl, ?_⟩
    unfold Lib.itoa
    rw [if_neg (by decide)]
    exact (dec_small (u := 0) (by decide)).symm
  · have hnd := Lib.nDigits_le20 n.natAbs (by omega)
    have hes : (⟨#[]⟩ : ByteArray).size = 0 := rfl
    obtain ⟨s, hs, hl⟩ := number_l0 n.natAbs k (decide (n < 0)) ⟨#[]⟩ (by omega) (fun h => by have := of_decide_eq_false h; omega) (by rw [hes, if_neg (by omega)]; omega) (by rw [if_neg (by omega)]; omega)
    refine ⟨s, ?_, ?_⟩
    · rw [if_neg hz, ← hs]
      congr 1
      by_cases hn : n < 0
      · rw [decide_eq_true hn, if_pos rfl]; omega
      · rw [decide_eq_false hn, if_neg Bool.noConfusion]; omega
    · rw [hl]
      have hd : decTo n.natAbs (⟨#[]⟩ : ByteArray).data.toList = Lib.decDigits n.natAbs := by
        unfold decTo
        rw [if_neg (by omega)]
        exact List.append_nil _
      rw [hd]
      unfold Lib.itoa
      by_cases hn : n < 0
      · rw [decide_eq_true hn, if_pos hn, if_pos rfl]; rfl
      · rw [decide_eq_false hn, if_neg hn, if_neg Bool.noConfusion, List.nil_append]
        congr 1
        omega
end Go.Proofs.YtbiolondnkeakaaDoor.Pure
