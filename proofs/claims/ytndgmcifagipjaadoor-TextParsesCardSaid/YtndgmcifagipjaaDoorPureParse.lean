/- The plain law of the reference's ParseNumber: it is what the plain function says. -/
import Derived.Test.YtndgmcifagipjaaDoorPPAx1
import Derived.Test.YtndgmcifagipjaaDoorDec
namespace Go.Proofs.YtndgmcifagipjaaDoor.Pure
open Go.RowKit Go.Proofs.YtndgmcifagipjaaDoor.PPA Go.Proofs.YtndgmcifagipjaaDoorW.PrintWords Go.Proofs.YtndgmcifagipjaaDoorW.PrintLast Go.Proofs.YtndgmcifagipjaaDoorW.PrintMore Plain

theorem bt_nat2 (s : ByteArray) (i : Nat) (h : i < s.size) : bt s (i : Int) = ((s.get! i).toNat : Int) := by
  rw [get!_of s i h, ← bt_at s (i : Int) (by simpa using h)]
  simp
theorem wrap_succ2 {i : Nat} (h : i < 9223372036854775807) : wrap64 ((i : Int) + 1) = ((i + 1 : Nat) : Int) := by
  unfold wrap64
  omega
theorem val_ge_pow (l : List UInt8) : ∀ acc, acc * 10 ^ l.length ≤ val acc l := by
  induction l with
  | nil => intro acc; rw [val_nil]; simp
  | cons c r ih =>
    intro acc
    rw [val_cons, List.length_cons, Nat.pow_succ]
    have := ih (acc * 10 + (c.toNat - 48))
    have h2 : (acc * 10) * 10 ^ r.length ≤ (acc * 10 + (c.toNat - 48)) * 10 ^ r.length := Nat.mul_le_mul_right _ (by omega)
    have h3 : acc * (10 ^ r.length * 10) = (acc * 10) * 10 ^ r.length := by rw [Nat.mul_comm (10 ^ r.length) 10, ← Nat.mul_assoc]
    omega
theorem val_lt_pow (l : List UInt8) : ∀ acc, (∀ c ∈ l, dig c = true) → val acc l < (acc + 1) * 10 ^ l.length := by
  induction l with
  | nil => intro acc _; rw [val_nil]; simp
  | cons c r ih =>
    intro acc h
    rw [val_cons, List.length_cons, Nat.pow_succ]
    have hc := dig_iff.1 (h c (List.mem_cons_self ..))
    have := ih (acc * 10 + (c.toNat - 48)) (fun x hx => h x (List.mem_cons_of_mem _ hx))
    have h2 : (acc * 10 + (c.toNat - 48) + 1) * 10 ^ r.length ≤ (acc * 10 + 10) * 10 ^ r.length := Nat.mul_le_mul_right _ (by omega)
    have h3 : (acc + 1) * (10 ^ r.length * 10) = (acc * 10 + 10) * 10 ^ r.length := by rw [Nat.mul_comm (10 ^ r.length) 10, ← Nat.mul_assoc, Nat.add_mul acc 1 10]
    omega
theorem val_snoc (l : List UInt8) (c : UInt8) (acc : Nat) : val acc (l ++ [c]) = val acc l * 10 + (c.toNat - 48) := val_append l c acc
theorem take_dig {D : ByteArray} (h : ∀ c ∈ D.data.toList, dig c = true) (i : Nat) : ∀ c ∈ D.data.toList.take i, dig c = true := fun c hc => h c (List.mem_of_mem_take hc)
theorem val_small {D : ByteArray} (h : ∀ c ∈ D.data.toList, dig c = true) (h13 : D.size ≤ 13) (i : Nat) : val 0 (D.data.toList.take i) < 10000000000000 := by
  have h1 := val_lt_pow (D.data.toList.take i) 0 (take_dig h i)
  have h2 : (D.data.toList.take i).length ≤ 13 := by rw [List.length_take, ← Lib.size_eq]; omega
  have h3 : 10 ^ (D.data.toList.take i).length ≤ 10 ^ 13 := Nat.pow_le_pow_right (by decide) h2
  have h4 : (10 : Nat) ^ 13 = 10000000000000 := by decide
  rw [h4] at h3
  omega
theorem snoc2 (s : ByteArray) (k : Nat) (h : k < s.size) : s.data.toList.take (k + 1) = s.data.toList.take k ++ [s.get! k] := by
  rw [get!_of s k h, List.take_succ_eq_append_getElem (by simpa using h)]
  rfl

theorem parse_l1 (s D : ByteArray) (hd : ∀ c ∈ D.data.toList, dig c = true) (h13 : D.size ≤ 13) (d : Nat) : ∀ (k i : Nat), i + d = D.size → d < k →
    flagstoneref1_ParseNumber.l1 k s D ((val 0 (D.data.toList.take i) : Nat) : Int) (i : Int) =
      some (if 1099511627776 < val 0 D.data.toList then (0, 3) else (if D.size < s.size then -(val 0 D.data.toList : Int) else val 0 D.data.toList, 0)) := by
  induction d with
  | zero =>
    intro k i hi hk
    obtain ⟨k, rfl⟩ : ∃ m, k = m + 1 := ⟨k - 1, by omega⟩
    have hfull : D.data.toList.take i = D.data.toList := List.take_of_length_le (by rw [← Lib.size_eq]; omega)
    have hv := val_small hd h13 i
    rw [hfull] at hv
    rw [flagstoneref1_ParseNumber.l1, if_neg (by omega), hfull]
    generalize val 0 D.data.toList = v at hv
    by_cases h1 : 1099511627776 < v
    · rw [if_pos (by omega), if_pos h1]
    · rw [if_neg (by omega), if_neg h1]
      by_cases h2 : D.size < s.size
      · rw [if_pos (by omega), if_pos h2, show wrap64 (-(v : Int)) = -(v : Int) by unfold wrap64; omega]
      · rw [if_neg (by omega), if_neg h2]
  | succ d ih =>
    intro k i hi hk
    obtain ⟨k, rfl⟩ : ∃ m, k = m + 1 := ⟨k - 1, by omega⟩
    have hlt : i < D.size := by omega
    have IH := ih k (i + 1) (by omega) (by omega)
    have hv := val_small hd h13 i
    have hc := dig_iff.1 (hd (D.get! i) (by
      have : D.get! i ∈ D.data.toList.take (i + 1) := by rw [snoc2 D i hlt]; simp
      exact List.mem_of_mem_take this))
    rw [snoc2 D i hlt, val_snoc] at IH
    rw [flagstoneref1_ParseNumber.l1, if_pos (by omega), if_pos (by omega), bt_nat2 D i hlt, wrap_succ2 (by omega)]
    generalize val 0 (D.data.toList.take i) = v at hv IH
    generalize (D.get! i).toNat = c at hc IH
    have e : wrap64 (wrap64 (10 * (v : Int)) + ((c : Int) - 48) % 256) = ((v * 10 + (c - 48) : Nat) : Int) := by
      have e1 : wrap64 (10 * (v : Int)) = 10 * (v : Int) := by unfold wrap64; omega
      have e2 : ((c : Int) - 48) % 256 = (c : Int) - 48 := by omega
      rw [e1, e2]
      unfold wrap64
      omega
    rw [e]
    exact IH

/-- What stands behind the scan. -/
theorem parse_j3 (s D : ByteArray) (hD : D.data.toList = digitsOf s.data.toList) (hneg : negOf s.data.toList = decide (D.size < s.size)) (hd : ∀ c ∈ D.data.toList, dig c = true) (hne : D.data.toList ≠ []) (k : Nat) (hk : D.size + 20 < k) (b : Bool)
    (hb : b = true ↔ ((digitsOf s.data.toList).head? = some 48 ∧ (1 < (digitsOf s.data.toList).length ∨ negOf s.data.toList = true))) :
    flagstoneref1_ParseNumber.j3 k s D b = some (parseP s.data.toList) := by
  obtain ⟨k, rfl⟩ : ∃ m, k = m + 1 := ⟨k - 1, by omega⟩
  rw [flagstoneref1_ParseNumber.j3]
  cases b with
  | true =>
    obtain ⟨h1, h2⟩ := hb.1 rfl
    rw [if_pos rfl, parseP_zero h1 h2]
  | false =>
    have hz : ¬ ((digitsOf s.data.toList).head? = some 48 ∧ (1 < (digitsOf s.data.toList).length ∨ negOf s.data.toList = true)) := fun h => Bool.noConfusion (hb.2 h)
    rw [if_neg Bool.noConfusion, parseP_digits (by rw [← hD]; exact hne) hz (by rw [← hD]; exact hd), ← hD, hneg]
    by_cases h13 : D.size ≤ 13
    · rw [if_neg (by omega)]
      have h := parse_l1 s D hd h13 D.size k 0 (by omega) (by omega)
      rw [List.take_zero, val_nil] at h
      rw [show (0 : Int) = ((0 : Nat) : Int) from rfl, h]
      congr 1
      by_cases h1 : 1099511627776 < val 0 D.data.toList
      · rw [if_pos h1, if_pos h1]; rfl
      · rw [if_neg h1, if_neg h1]
        by_cases h2 : D.size < s.size
        · rw [if_pos h2, decide_eq_true h2, if_pos rfl]; rfl
        · rw [if_neg h2, decide_eq_false h2, if_neg Bool.noConfusion]; rfl
    · rw [if_pos (by omega)]
      have hbig : 1099511627776 < val 0 D.data.toList := by
        have hl := Lib.size_eq D
        cases hc : D.data.toList with
        | nil => exact absurd hc hne
        | cons c r =>
          rw [hc] at hl hd
          have hcd := dig_iff.1 (hd c (List.mem_cons_self ..))
          have h48 : c.toNat ≠ 48 := by
            intro e
            have ec : c = 48 := UInt8.toNat_inj.1 e
            refine hz ⟨by rw [← hD, hc, ec]; rfl, .inl ?_⟩
            rw [← hD, hc, ← hl]
            omega
          rw [val_cons]
          have h1 := val_ge_pow r (0 * 10 + (c.toNat - 48))
          rw [List.length_cons] at hl
          have h2 : 10 ^ 13 ≤ 10 ^ r.length := Nat.pow_le_pow_right (by decide) (by omega)
          have h3 : (10 : Nat) ^ 13 = 10000000000000 := by decide
          have h4 : 1 * 10 ^ r.length ≤ (0 * 10 + (c.toNat - 48)) * 10 ^ r.length := Nat.mul_le_mul_right _ (by omega)
          rw [h3] at h2
          omega
      rw [if_pos hbig]

theorem zero_flag (L : List UInt8) (hh : (digitsOf L).head? = some 48) : (L != [48]) = true ↔ ((digitsOf L).head? = some 48 ∧ (1 < (digitsOf L).length ∨ negOf L = true)) := by
  rw [bne_iff_ne]
  constructor
  · intro hne
    refine ⟨hh, ?_⟩
    rcases parts L with ⟨g1, _⟩ | ⟨_, g2, _⟩
    · exact .inr g1
    · rw [g2] at hh ⊢
      refine .inl ?_
      match L, hh, hne with
      | [], hh, _ => exact absurd hh (by simp)
      | [c], hh, hne => exact absurd (by rw [Option.some.inj hh] : [c] = [48]) hne
      | c :: c2 :: r, _, _ => simp
  · rintro ⟨_, h⟩ e
    rw [e] at h
    exact absurd h (by decide)

theorem parse_l0 (s D : ByteArray) (hDs : D.size ≤ 9223372036854775000) (hD : D.data.toList = digitsOf s.data.toList) (hneg : negOf s.data.toList = decide (D.size < s.size)) (d : Nat) : ∀ (k i : Nat), i + d = D.size → digTo D i → d + D.size + 30 < k →
    flagstoneref1_ParseNumber.l0 k s D (i : Int) = some (parseP s.data.toList) := by
  induction d with
  | zero =>
    intro k i hi ht hk
    obtain ⟨k, rfl⟩ : ∃ m, k = m + 1 := ⟨k - 1, by omega⟩
    have hall := digTo_end (by omega : ¬ i < D.size) ht
    rw [flagstoneref1_ParseNumber.l0, if_neg (by omega)]
    by_cases hn : D.data.toList = []
    · rw [if_pos (by rw [Lib.toList_data]; exact hn)]
      obtain ⟨k, rfl⟩ : ∃ m, k = m + 1 := ⟨k - 1, by omega⟩
      rw [flagstoneref1_ParseNumber.j3, if_pos rfl, parseP_none (by rw [← hD]; exact hn)]
    · have hpos : 0 < D.size := by
        rw [Lib.size_eq]
        exact List.length_pos_iff.2 hn
      rw [if_neg (by rw [Lib.toList_data]; exact hn), if_pos (by omega), show (0 : Int) = ((0 : Nat) : Int) from rfl, bt_nat2 D 0 hpos]
      have hhead : (digitsOf s.data.toList).head? = some (D.get! 0) := by
        rw [← hD, get!_of D 0 hpos, List.head?_eq_getElem?]
        have : 0 < D.data.toList.length := by rw [← Lib.size_eq]; exact hpos
        rw [List.getElem?_eq_getElem this]
        simp
        rfl
      by_cases h48 : D.get! 0 = 48
      · rw [if_pos (by rw [h48]; rfl)]
        refine parse_j3 s D hD hneg hall hn k (by omega) _ ?_
        rw [Lib.toList_data]
        exact zero_flag _ (by rw [hhead, h48])
      · rw [if_neg (fun h => h48 (UInt8.toNat_inj.1 (by have : (48 : UInt8).toNat = 48 := rfl; omega)))]
        refine parse_j3 s D hD hneg hall hn k (by omega) _ ?_
        rw [hhead]
        constructor
        · intro h; exact Bool.noConfusion h
        · rintro ⟨h, _⟩; exact absurd (Option.some.inj h) h48
  | succ d ih =>
    intro k i hi ht hk
    obtain ⟨k, rfl⟩ : ∃ m, k = m + 1 := ⟨k - 1, by omega⟩
    have hlt : i < D.size := by omega
    rw [flagstoneref1_ParseNumber.l0, if_pos (by omega), if_pos (by omega), bt_nat2 D i hlt, wrap_succ2 (by omega)]
    have hmem : D.get! i ∈ D.data.toList := by
      have : D.get! i ∈ D.data.toList.take (i + 1) := by rw [snoc2 D i hlt]; simp
      exact List.mem_of_mem_take this
    by_cases h1 : (D.get! i).toNat < 48
    · rw [if_pos (by omega), parseP_bad (by rw [← hD]; intro h; have := dig_iff.1 (h _ hmem); omega)]
    · rw [if_neg (by omega)]
      by_cases h2 : 57 < (D.get! i).toNat
      · rw [if_pos (by omega), parseP_bad (by rw [← hD]; intro h; have := dig_iff.1 (h _ hmem); omega)]
      · rw [if_neg (by omega)]
        exact ih k (i + 1) (by omega) (fun j hj => by
          by_cases e : j = i
          · subst e; omega
          · exact ht j (by omega)) (by omega)

theorem refparse (s : ByteArray) (k : Nat) (hs : s.size ≤ 9223372036854775000) (hk : 2 * s.size + 50 < k) : flagstoneref1_ParseNumber.f k s = some (parseP s.data.toList) := by
  unfold flagstoneref1_ParseNumber.f
  have hl := Lib.size_eq s
  obtain ⟨k, rfl⟩ : ∃ m, k = m + 2 := ⟨k - 2, by omega⟩
  rcases parts s.data.toList with ⟨hn, hp⟩ | ⟨hn, hp, hh⟩
  · have hpos : 0 < s.size := by rw [hl, hp]; simp
    have h0 : s.get! 0 = 45 := by
      have := snoc2 s 0 hpos
      rw [hp] at this
      simp at this
      exact this.symm
    rw [if_pos (by omega), if_pos (by omega), show (0 : Int) = ((0 : Nat) : Int) from rfl, bt_nat2 s 0 hpos, h0]
    rw [show (((45 : UInt8).toNat : Int) == 45) = true from rfl, flagstoneref1_ParseNumber.j0, if_pos rfl, if_pos (by omega), flagstoneref1_ParseNumber.j1]
    have hE : (s.extract 1 s.size).data.toList = digitsOf s.data.toList := by
      rw [Lib.extract_data]
      have h1 : s.data.toList.drop 1 = digitsOf s.data.toList := (congrArg (List.drop 1) hp).trans rfl
      have h2 : (digitsOf s.data.toList).length + 1 = s.size := by
        have := congrArg List.length hp
        rw [List.length_cons] at this
        omega
      rw [h1, List.take_of_length_le (by omega)]
    have hEs : (s.extract 1 s.size).size = s.size - 1 := by rw [ByteArray.size_extract]; omega
    exact parse_l0 s _ (by omega) hE (by rw [hn, hEs]; exact (decide_eq_true (by omega)).symm) (s.size - 1) k 0 (by omega) (fun j h => absurd h (Nat.not_lt_zero j)) (by omega)
  · have hD : s.data.toList = digitsOf s.data.toList := hp.symm
    have hng : negOf s.data.toList = decide (s.size < s.size) := by rw [hn]; exact (decide_eq_false (by omega)).symm
    have main : flagstoneref1_ParseNumber.j0 (k + 2) s s false = some (parseP s.data.toList) := by
      rw [flagstoneref1_ParseNumber.j0, if_neg Bool.noConfusion, flagstoneref1_ParseNumber.j1]
      exact parse_l0 s s hs hD hng s.size k 0 (by omega) (fun j h => absurd h (Nat.not_lt_zero j)) (by omega)
    by_cases hpos : 0 < s.size
    · rw [if_pos (by omega), if_pos (by omega), show (0 : Int) = ((0 : Nat) : Int) from rfl, bt_nat2 s 0 hpos]
      have h45 : s.get! 0 ≠ 45 := by
        intro e
        refine hh ?_
        rw [List.head?_eq_getElem?]
        have : 0 < s.data.toList.length := by rw [← Lib.size_eq]; exact hpos
        rw [List.getElem?_eq_getElem this, ← e, get!_of s 0 hpos]
        simp
        rfl
      have hb : (((s.get! 0).toNat : Int) == 45) = false := by
        rw [beq_eq_false_iff_ne]
        exact fun h => h45 (UInt8.toNat_inj.1 (by have : (45 : UInt8).toNat = 45 := rfl; omega))
      rw [hb]
      exact main
    · rw [if_neg (by omega)]
      exact main
end Go.Proofs.YtndgmcifagipjaaDoor.Pure
