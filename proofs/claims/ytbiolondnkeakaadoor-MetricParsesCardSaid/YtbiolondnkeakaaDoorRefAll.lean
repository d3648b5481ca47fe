/- The reference's words of a text are the program's. The plain law of the reference's ParseNumber: it is what the plain function says. The reference's reader of words: take, need, number, and its state. The walk of flagstoneref34.Parse: it answers as metric.Parse. -/
import Derived.Test.YtbiolondnkeakaaDoorRound
import Derived.Test.YtbiolondnkeakaaDoorPTx4
import Derived.Test.YtbiolondnkeakaaDoorPTx3
import Derived.Test.YtbiolondnkeakaaDoorPureNumF
import Derived.Test.YtbiolondnkeakaaDoorParseM
namespace Go.Proofs.YtbiolondnkeakaaDoor.Split
open Go Go.Proofs.YtbiolondnkeakaaDoor Go.RowKit Go.Proofs.YtbiolondnkeakaaDoor.PT Go.Proofs.YtbiolondnkeakaaDoorW.PrintWords Go.Proofs.YtbiolondnkeakaaDoorW.PrintMore Plain

theorem enc_one (cur : ByteArray) : enc [cur.data.toList] = [cur] := by
  unfold enc
  simp
theorem bt_get (s : ByteArray) (i : Nat) (h : i < s.size) : bt s (i : Int) = ((s.get! i).toNat : Int) := by
  rw [get!_of s i h, ← bt_at s (i : Int) (by simpa using h)]
  simp
theorem wrap_one {i : Nat} (h : i < 9223372036854775807) : wrap64 ((i : Int) + 1) = ((i + 1 : Nat) : Int) := by
  unfold wrap64
  omega
theorem drop_get (s : ByteArray) (i : Nat) (h : i < s.size) : s.data.toList.drop i = s.get! i :: s.data.toList.drop (i + 1) := by
  have hl : i < s.data.toList.length := by rw [len_data]; exact h
  rw [List.drop_eq_getElem_cons hl, get!_of s i h]
  rfl
theorem extract_one (s : ByteArray) (i : Nat) (h : i < s.size) : (s.extract i (i + 1)).data.toList = [s.get! i] := by
  rw [Lib.extract_data, show i + 1 - i = 1 by omega, drop_get s i h]
  rfl
theorem emp_iff (cur : ByteArray) : cur.toList = ([] : List UInt8) ↔ cur.data.toList = [] := by rw [ByteArray.toList_eq]
theorem emp_eq {cur : ByteArray} (h : cur.data.toList = []) : cur = ⟨#[]⟩ := ByteArray.ext (Array.toList_inj.1 h)
theorem words_j1 (s : ByteArray) (k i : Nat) (acc : List ByteArray) (cur : ByteArray) (r : List UInt8) (hi : i ≤ 1000) (hacc : acc.length ≤ i)
    (h : ∀ acc' : List ByteArray, acc'.length ≤ i + 1 → flagstoneref34_words.l0 k s acc' ⟨#[]⟩ ((i + 1 : Nat) : Int) = some (acc' ++ enc (fb [] r))) :
    flagstoneref34_words.j1 (k + 1) s acc cur (i : Int) true = some (acc ++ enc (if cur.data.toList = [] then fb [] r else cur.data.toList :: fb [] r)) := by
  rw [flagstoneref34_words.j1, if_pos rfl, wrap_one (by omega)]
  by_cases hc : cur.data.toList = []
  · rw [if_pos ((emp_iff cur).2 hc), if_pos hc]
    exact h acc (by omega)
  · rw [if_neg (fun e => hc ((emp_iff cur).1 e)), if_neg hc, if_pos (by omega), h _ (by rw [List.length_append, List.length_singleton]; omega), List.append_assoc]
    rw [show enc (cur.data.toList :: fb [] r) = enc [cur.data.toList] ++ enc (fb [] r) from rfl, enc_one]
theorem words_l0 (s : ByteArray) (hs : s.size ≤ 1000) (d : Nat) : ∀ (k i : Nat) (acc : List ByteArray) (cur : ByteArray), i + d = s.size → acc.length ≤ i → cur.size ≤ i → 2 * d + 3 < k →
    flagstoneref34_words.l0 k s acc cur (i : Int) = some (acc ++ enc (fb cur.data.toList (s.data.toList.drop i))) := by
  induction d with
  | zero =>
    intro k i acc cur hi hacc hcur hk
    obtain ⟨k, rfl⟩ : ∃ m, k = m + 3 := ⟨k - 3, by omega⟩
    rw [flagstoneref34_words.l0, if_pos (by omega), if_pos (by omega), words_j1 s (k + 1) i acc cur [] (by omega) hacc (fun acc' _ => by
      rw [flagstoneref34_words.l0, if_neg (by omega)]
      simp [fb, enc])]
    rw [List.drop_eq_nil_of_le (by rw [len_data]; omega)]
    unfold fb
    split <;> rfl
  | succ d ih =>
    intro k i acc cur hi hacc hcur hk
    obtain ⟨k, rfl⟩ : ∃ m, k = m + 2 := ⟨k - 2, by omega⟩
    have hlt : i < s.size := by omega
    have hb := bt_get s i hlt
    rw [drop_get s i hlt]
    obtain ⟨c, hc⟩ : ∃ c, s.get! i = c := ⟨_, rfl⟩
    rw [hc] at hb ⊢
    have hyes : isB c = true → flagstoneref34_words.j1 (k + 1) s acc cur (i : Int) true = some (acc ++ enc (fb cur.data.toList (c :: s.data.toList.drop (i + 1)))) := fun h => by
      rw [words_j1 s k i acc cur (s.data.toList.drop (i + 1)) (by omega) hacc (fun acc' ha => by
        have := ih k (i + 1) acc' ⟨#[]⟩ (by omega) ha (Nat.zero_le _) (by omega)
        exact this)]
      rw [fb, if_pos h]
    rw [flagstoneref34_words.l0, if_pos (by omega), if_neg (by omega), if_pos (by omega), if_pos (by omega), hb]
    by_cases h32 : c = 32
    · rw [if_pos (by rw [h32]; rfl)]
      exact hyes (by rw [h32]; rfl)
    · have n32 : ¬ ((c.toNat : Int) = 32) := fun e => h32 (UInt8.toNat_inj.1 (by show c.toNat = 32; omega))
      rw [if_neg n32]
      by_cases h9 : c = 9
      · rw [if_pos (by rw [h9]; rfl)]
        exact hyes (by rw [h9]; rfl)
      · have n9 : ¬ ((c.toNat : Int) = 9) := fun e => h9 (UInt8.toNat_inj.1 (by show c.toNat = 9; omega))
        rw [if_neg n9]
        by_cases h10 : c = 10
        · rw [show ((c.toNat : Int) == 10) = true by rw [h10]; rfl]
          exact hyes (by rw [h10]; rfl)
        · have n10 : ((c.toNat : Int) == 10) = false := by
            rw [beq_eq_false_iff_ne]
            exact fun e => h10 (UInt8.toNat_inj.1 (by show c.toNat = 10; omega))
          have hno : isB c = false := by
            unfold isB
            simp [h32, h9, h10]
          rw [n10, flagstoneref34_words.j1, if_neg (by decide), wrap_one (by omega), if_pos (by omega), if_pos (by omega), if_pos (by omega), Int.toNat_natCast, Int.toNat_natCast]
          have hx := extract_one s i hlt
          rw [hc] at hx
          have hsz : (s.extract i (i + 1)).size = 1 := by rw [← len_data, hx]; rfl
          rw [if_pos (by omega), ih k (i + 1) acc (cur ++ s.extract i (i + 1)) (by omega) (by omega) (by rw [ByteArray.size_append, hsz]; omega) (by omega), fb, if_neg (by rw [hno]; exact Bool.noConfusion)]
          rw [show (cur ++ s.extract i (i + 1)).data.toList = cur.data.toList ++ [c] by rw [app, hx]]
theorem words_f (s : ByteArray) (hs : s.size ≤ 1000) : flagstoneref34_words.f (2 * s.size + 4) s = some (Lib.goFieldsP blank s) := by
  unfold flagstoneref34_words.f
  have := words_l0 s hs s.size (2 * s.size + 4) 0 [] ⟨#[]⟩ (by omega) (Nat.zero_le _) (Nat.zero_le _) (by omega)
  rw [List.drop_zero, List.nil_append] at this
  rw [fields_fb]
  exact this
end Go.Proofs.YtbiolondnkeakaaDoor.Split
namespace Go.Proofs.YtbiolondnkeakaaDoor.Pure
open Go.RowKit Go.Proofs.YtbiolondnkeakaaDoor.PT Go.Proofs.YtbiolondnkeakaaDoorW.PrintWords Go.Proofs.YtbiolondnkeakaaDoorW.PrintLast Go.Proofs.YtbiolondnkeakaaDoorW.PrintMore Plain

theorem bt_nat2 (s : ByteArray) (i : Nat) (h : i < s.size) : bt s (i : Int) = ((s.get! i).toNat : Int) := by
  rw [get!_of s i h, ← bt_at s (i : Int) (by simpa using h)]
  simp
theorem wrap_succ2 {i : Nat} (h : i < 9223372036854775807) : wrap64 ((i : Int) + 1) = ((i + 1 : Nat) : Int) := by
  unfold wrap64
  omega
theorem val_ge_pow (l : List UInt8) : ∀ acc, acc * 10 ^ l.length ≤ val acc l := by
  induction l with
  | nil => intro acc; rw [val_nil]; simp
  | cons c r ih =>
    intro acc
    rw [val_cons, List.length_cons, Nat.pow_succ]
    have := ih (acc * 10 + (c.toNat - 48))
    have h2 : (acc * 10) * 10 ^ r.length ≤ (acc * 10 + (c.toNat - 48)) * 10 ^ r.length := Nat.mul_le_mul_right _ (by omega)
    have h3 : acc * (10 ^ r.length * 10) = (acc * 10) * 10 ^ r.length := by rw [Nat.mul_comm (10 ^ r.length) 10, ← Nat.mul_assoc]
    omega
theorem val_lt_pow (l : List UInt8) : ∀ acc, (∀ c ∈ l, dig c = true) → val acc l < (acc + 1) * 10 ^ l.length := by
  induction l with
  | nil => intro acc _; rw [val_nil]; simp
  | cons c r ih =>
    intro acc h
    rw [val_cons, List.length_cons, Nat.pow_succ]
    have hc := dig_iff.1 (h c (List.mem_cons_self ..))
    have := ih (acc * 10 + (c.toNat - 48)) (fun x hx => h x (List.mem_cons_of_mem _ hx))
    have h2 : (acc * 10 + (c.toNat - 48) + 1) * 10 ^ r.length ≤ (acc * 10 + 10) * 10 ^ r.length := Nat.mul_le_mul_right _ (by omega)
    have h3 : (acc + 1) * (10 ^ r.length * 10) = (acc * 10 + 10) * 10 ^ r.length := by rw [Nat.mul_comm (10 ^ r.length) 10, ← Nat.mul_assoc, Nat.add_mul acc 1 10]
    omega
theorem val_snoc (l : List UInt8) (c : UInt8) (acc : Nat) : val acc (l ++ [c]) = val acc l * 10 + (c.toNat - 48) := val_append l c acc
theorem take_dig {D : ByteArray} (h : ∀ c ∈ D.data.toList, dig c = true) (i : Nat) : ∀ c ∈ D.data.toList.take i, dig c = true := fun c hc => h c (List.mem_of_mem_take hc)
theorem val_small {D : ByteArray} (h : ∀ c ∈ D.data.toList, dig c = true) (h13 : D.size ≤ 13) (i : Nat) : val 0 (D.data.toList.take i) < 10000000000000 := by
  have h1 := val_lt_pow (D.data.toList.take i) 0 (take_dig h i)
  have h2 : (D.data.toList.take i).length ≤ 13 := by rw [List.length_take, ← Lib.size_eq]; omega
  have h3 : 10 ^ (D.data.toList.take i).length ≤ 10 ^ 13 := Nat.pow_le_pow_right (by decide) h2
  have h4 : (10 : Nat) ^ 13 = 10000000000000 := by decide
  rw [h4] at h3
  omega
theorem snoc2 (s : ByteArray) (k : Nat) (h : k < s.size) : s.data.toList.take (k + 1) = s.data.toList.take k ++ [s.get! k] := by
  rw [get!_of s k h, List.take_succ_eq_append_getElem (by simpa using h)]
  rfl

theorem parse_l1 (s D : ByteArray) (hd : ∀ c ∈ D.data.toList, dig c = true) (h13 : D.size ≤ 13) (d : Nat) : ∀ (k i : Nat), i + d = D.size → d < k →
    flagstoneref1_ParseNumber.l1 k s D ((val 0 (D.data.toList.take i) : Nat) : Int) (i : Int) =
      some (if 1099511627776 < val 0 D.data.toList then (0, 3) else (if D.size < s.size then -(val 0 D.data.toList : Int) else val 0 D.data.toList, 0)) := by
  induction d with
  | zero =>
    intro k i hi hk
    obtain ⟨k, rfl⟩ : ∃ m, k = m + 1 := ⟨k - 1, by omega⟩
    have hfull : D.data.toList.take i = D.data.toList := List.take_of_length_le (by rw [← Lib.size_eq]; omega)
    have hv := val_small hd h13 i
    rw [hfull] at hv
    rw [flagstoneref1_ParseNumber.l1, if_neg (by omega), hfull]
    generalize val 0 D.data.toList = v at hv
    by_cases h1 : 1099511627776 < v
    · rw [if_pos (by omega), if_pos h1]
    · rw [if_neg (by omega), if_neg h1]
      by_cases h2 : D.size < s.size
      · rw [if_pos (by omega), if_pos h2, show wrap64 (-(v : Int)) = -(v : Int) by unfold wrap64; omega]
      · rw [if_neg (by omega), if_neg h2]
  | succ d ih =>
    intro k i hi hk
    obtain ⟨k, rfl⟩ : ∃ m, k = m + 1 := ⟨k - 1, by omega⟩
    have hlt : i < D.size := by omega
    have IH := ih k (i + 1) (by omega) (by omega)
    have hv := val_small hd h13 i
    have hc := dig_iff.1 (hd (D.get! i) (by
      have : D.get! i ∈ D.data.toList.take (i + 1) := by rw [snoc2 D i hlt]; simp
      exact List.mem_of_mem_take this))
    rw [snoc2 D i hlt, val_snoc] at IH
    rw [flagstoneref1_ParseNumber.l1, if_pos (by omega), if_pos (by omega), bt_nat2 D i hlt, wrap_succ2 (by omega)]
    generalize val 0 (D.data.toList.take i) = v at hv IH
    generalize (D.get! i).toNat = c at hc IH
    have e : wrap64 (wrap64 (10 * (v : Int)) + ((c : Int) - 48) % 256) = ((v * 10 + (c - 48) : Nat) : Int) := by
      have e1 : wrap64 (10 * (v : Int)) = 10 * (v : Int) := by unfold wrap64; omega
      have e2 : ((c : Int) - 48) % 256 = (c : Int) - 48 := by omega
      rw [e1, e2]
      unfold wrap64
      omega
    rw [e]
    exact IH

/-- What stands behind the scan. -/
theorem parse_j3 (s D : ByteArray) (hD : D.data.toList = digitsOf s.data.toList) (hneg : negOf s.data.toList = decide (D.size < s.size)) (hd : ∀ c ∈ D.data.toList, dig c = true) (hne : D.data.toList ≠ []) (k : Nat) (hk : D.size + 20 < k) (b : Bool)
    (hb : b = true ↔ ((digitsOf s.data.toList).head? = some 48 ∧ (1 < (digitsOf s.data.toList).length ∨ negOf s.data.toList = true))) :
    flagstoneref1_ParseNumber.j3 k s D b = some (parseP s.data.toList) := by
  obtain ⟨k, rfl⟩ : ∃ m, k = m + 1 := ⟨k - 1, by omega⟩
  rw [flagstoneref1_ParseNumber.j3]
  cases b with
  | true =>
    obtain ⟨h1, h2⟩ := hb.1 rfl
    rw [if_pos rfl, parseP_zero h1 h2]
  | false =>
    have hz : ¬ ((digitsOf s.data.toList).head? = some 48 ∧ (1 < (digitsOf s.data.toList).length ∨ negOf s.data.toList = true)) := fun h => Bool.noConfusion (hb.2 h)
    rw [if_neg Bool.noConfusion, parseP_digits (by rw [← hD]; exact hne) hz (by rw [← hD]; exact hd), ← hD, hneg]
    by_cases h13 : D.size ≤ 13
    · rw [if_neg (by omega)]
      have h := parse_l1 s D hd h13 D.size k 0 (by omega) (by omega)
      rw [List.take_zero, val_nil] at h
      rw [show (0 : Int) = ((0 : Nat) : Int) from rfl, h]
      congr 1
      by_cases h1 : 1099511627776 < val 0 D.data.toList
      · rw [if_pos h1, if_pos h1]; rfl
      · rw [if_neg h1, if_neg h1]
        by_cases h2 : D.size < s.size
        · rw [if_pos h2, decide_eq_true h2, if_pos rfl]; rfl
        · rw [if_neg h2, decide_eq_false h2, if_neg Bool.noConfusion]; rfl
    · rw [if_pos (by omega)]
      have hbig : 1099511627776 < val 0 D.data.toList := by
        have hl := Lib.size_eq D
        cases hc : D.data.toList with
        | nil => exact absurd hc hne
        | cons c r =>
          rw [hc] at hl hd
          have hcd := dig_iff.1 (hd c (List.mem_cons_self ..))
          have h48 : c.toNat ≠ 48 := by
            intro e
            have ec : c = 48 := UInt8.toNat_inj.1 e
            refine hz ⟨by rw [← hD, hc, ec]; rfl, .inl ?_⟩
            rw [← hD, hc, ← hl]
            omega
          rw [val_cons]
          have h1 := val_ge_pow r (0 * 10 + (c.toNat - 48))
          rw [List.length_cons] at hl
          have h2 : 10 ^ 13 ≤ 10 ^ r.length := Nat.pow_le_pow_right (by decide) (by omega)
          have h3 : (10 : Nat) ^ 13 = 10000000000000 := by decide
          have h4 : 1 * 10 ^ r.length ≤ (0 * 10 + (c.toNat - 48)) * 10 ^ r.length := Nat.mul_le_mul_right _ (by omega)
          rw [h3] at h2
          omega
      rw [if_pos hbig]

theorem zero_flag (L : List UInt8) (hh : (digitsOf L).head? = some 48) : (L != [48]) = true ↔ ((digitsOf L).head? = some 48 ∧ (1 < (digitsOf L).length ∨ negOf L = true)) := by
  rw [bne_iff_ne]
  constructor
  · intro hne
    refine ⟨hh, ?_⟩
    rcases parts L with ⟨g1, _⟩ | ⟨_, g2, _⟩
    · exact .inr g1
    · rw [g2] at hh ⊢
      refine .inl ?_
      match L, hh, hne with
      | [], hh, _ => exact absurd hh (by simp)
      | [c], hh, hne => exact absurd (by rw [Option.some.inj hh] : [c] = [48]) hne
      | c :: c2 :: r, _, _ => simp
  · rintro ⟨_, h⟩ e
    rw [e] at h
    exact absurd h (by decide)

theorem parse_l0 (s D : ByteArray) (hDs : D.size ≤ 9223372036854775000) (hD : D.data.toList = digitsOf s.data.toList) (hneg : negOf s.data.toList = decide (D.size < s.size)) (d : Nat) : ∀ (k i : Nat), i + d = D.size → digTo D i → d + D.size + 30 < k →
    flagstoneref1_ParseNumber.l0 k s D (i : Int) = some (parseP s.data.toList) := by
  induction d with
  | zero =>
    intro k i hi ht hk
    obtain ⟨k, rfl⟩ : ∃ m, k = m + 1 := ⟨k - 1, by omega⟩
    have hall := digTo_end (by omega : ¬ i < D.size) ht
    rw [flagstoneref1_ParseNumber.l0, if_neg (by omega)]
    by_cases hn : D.data.toList = []
    · rw [if_pos (by rw [Lib.toList_data]; exact hn)]
      obtain ⟨k, rfl⟩ : ∃ m, k = m + 1 := ⟨k - 1, by omega⟩
      rw [flagstoneref1_ParseNumber.j3, if_pos rfl, parseP_none (by rw [← hD]; exact hn)]
    · have hpos : 0 < D.size := by
        rw [Lib.size_eq]
        exact List.length_pos_iff.2 hn
      rw [if_neg (by rw [Lib.toList_data]; exact hn), if_pos (by omega), show (0 : Int) = ((0 : Nat) : Int) from rfl, bt_nat2 D 0 hpos]
      have hhead : (digitsOf s.data.toList).head? = some (D.get! 0) := by
        rw [← hD, get!_of D 0 hpos, List.head?_eq_getElem?]
        have : 0 < D.data.toList.length := by rw [← Lib.size_eq]; exact hpos
        rw [List.getElem?_eq_getElem this]
        simp
        rfl
      by_cases h48 : D.get! 0 = 48
      · rw [if_pos (by rw [h48]; rfl)]
        refine parse_j3 s D hD hneg hall hn k (by omega) _ ?_
        rw [Lib.toList_data]
        exact zero_flag _ (by rw [hhead, h48])
      · rw [if_neg (fun h => h48 (UInt8.toNat_inj.1 (by have : (48 : UInt8).toNat = 48 := rfl; omega)))]
        refine parse_j3 s D hD hneg hall hn k (by omega) _ ?_
        rw [hhead]
        constructor
        · intro h; exact Bool.noConfusion h
        · rintro ⟨h, _⟩; exact absurd (Option.some.inj h) h48
  | succ d ih =>
    intro k i hi ht hk
    obtain ⟨k, rfl⟩ : ∃ m, k = m + 1 := ⟨k - 1, by omega⟩
    have hlt : i < D.size := by omega
    rw [flagstoneref1_ParseNumber.l0, if_pos (by omega), if_pos (by omega), bt_nat2 D i hlt, wrap_succ2 (by omega)]
    have hmem : D.get! i ∈ D.data.toList := by
      have : D.get! i ∈ D.data.toList.take (i + 1) := by rw [snoc2 D i hlt]; simp
      exact List.mem_of_mem_take this
    by_cases h1 : (D.get! i).toNat < 48
    · rw [if_pos (by omega), parseP_bad (by rw [← hD]; intro h; have := dig_iff.1 (h _ hmem); omega)]
    · rw [if_neg (by omega)]
      by_cases h2 : 57 < (D.get! i).toNat
      · rw [if_pos (by omega), parseP_bad (by rw [← hD]; intro h; have := dig_iff.1 (h _ hmem); omega)]
      · rw [if_neg (by omega)]
        exact ih k (i + 1) (by omega) (fun j hj => by
          by_cases e : j = i
          · subst e; omega
          · exact ht j (by omega)) (by omega)

theorem refparse (s : ByteArray) (k : Nat) (hs : s.size ≤ 9223372036854775000) (hk : 2 * s.size + 50 < k) : flagstoneref1_ParseNumber.f k s = some (parseP s.data.toList) := by
  unfold flagstoneref1_ParseNumber.f
  have hl := Lib.size_eq s
  obtain ⟨k, rfl⟩ : ∃ m, k = m + 2 := ⟨k - 2, by omega⟩
  rcases parts s.data.toList with ⟨hn, hp⟩ | ⟨hn, hp, hh⟩
  · have hpos : 0 < s.size := by rw [hl, hp]; simp
    have h0 : s.get! 0 = 45 := by
      have := snoc2 s 0 hpos
      rw [hp] at this
      simp at this
      exact this.symm
    rw [if_pos (by omega), if_pos (by omega), show (0 : Int) = ((0 : Nat) : Int) from rfl, bt_nat2 s 0 hpos, h0]
    rw [show (((45 : UInt8).toNat : Int) == 45) = true from rfl, flagstoneref1_ParseNumber.j0, if_pos rfl, if_pos (by omega), flagstoneref1_ParseNumber.j1]
    have hE : (s.extract 1 s.size).data.toList = digitsOf s.data.toList := by
      rw [Lib.extract_data]
      have h1 : s.data.toList.drop 1 = digitsOf s.data.toList := (congrArg (List.drop 1) hp).trans rfl
      have h2 : (digitsOf s.data.toList).length + 1 = s.size := by
        have := congrArg List.length hp
        rw [List.length_cons] at this
        omega
      rw [h1, List.take_of_length_le (by omega)]
    have hEs : (s.extract 1 s.size).size = s.size - 1 := by rw [ByteArray.size_extract]; omega
    exact parse_l0 s _ (by omega) hE (by rw [hn, hEs]; exact (decide_eq_true (by omega)).symm) (s.size - 1) k 0 (by omega) (fun j h => absurd h (Nat.not_lt_zero j)) (by omega)
  · have hD : s.data.toList = digitsOf s.data.toList := hp.symm
    have hng : negOf s.data.toList = decide (s.size < s.size) := by rw [hn]; exact (decide_eq_false (by omega)).symm
    have main : flagstoneref1_ParseNumber.j0 (k + 2) s s false = some (parseP s.data.toList) := by
      rw [flagstoneref1_ParseNumber.j0, if_neg Bool.noConfusion, flagstoneref1_ParseNumber.j1]
      exact parse_l0 s s hs hD hng s.size k 0 (by omega) (fun j h => absurd h (Nat.not_lt_zero j)) (by omega)
    by_cases hpos : 0 < s.size
    · rw [if_pos (by omega), if_pos (by omega), show (0 : Int) = ((0 : Nat) : Int) from rfl, bt_nat2 s 0 hpos]
      have h45 : s.get! 0 ≠ 45 := by
        intro e
        refine hh ?_
        rw [List.head?_eq_getElem?]
        have : 0 < s.data.toList.length := by rw [← Lib.size_eq]; exact hpos
        rw [List.getElem?_eq_getElem this, ← e, get!_of s 0 hpos]
        simp
        rfl
      have hb : (((s.get! 0).toNat : Int) == 45) = false := by
        rw [beq_eq_false_iff_ne]
        exact fun h => h45 (UInt8.toNat_inj.1 (by have : (45 : UInt8).toNat = 45 := rfl; omega))
      rw [hb]
      exact main
    · rw [if_neg (by omega)]
      exact main
end Go.Proofs.YtbiolondnkeakaaDoor.Pure
namespace Go.Proofs.YtbiolondnkeakaaDoor
open Go.RowKit Go.Proofs.YtbiolondnkeakaaDoor.PT Go.Proofs.YtbiolondnkeakaaDoorW.PrintWords Go.Proofs.YtbiolondnkeakaaDoorW.PrintLast Go.Proofs.YtbiolondnkeakaaDoorW.PrintMore Plain

/-- The words that have not been read, in memory; there may be none from the start. -/
structure IsRd (b : Nat) (ad : Option Addr) (c : Nat) (l : List ByteArray) (bad : Bool) (w : World) : Prop where
  s0 : w.cell? ⟨b, 0, none⟩ = some (.slice ad l.length c)
  s1 : w.cell? ⟨b, 1, none⟩ = some (.bool bad)
  f0 : w.frozen? ⟨b, 0, none⟩ = false
  f1 : w.frozen? ⟨b, 1, none⟩ = false
  row : 0 < l.length → ∃ A o, ad = some ⟨A, o, none⟩ ∧ A < b ∧ ∀ j, j < l.length → w.cell? ⟨A, o + j, none⟩ = some (.string (l.getD j ⟨#[]⟩))
  cap : l.length ≤ c
theorem IsRd.bad {b c : Nat} {ad : Option Addr} {l : List ByteArray} {bad : Bool} {w : World} (h : IsRd b ad c l bad w) (v : Bool) : IsRd b ad c l v (w.setCell ⟨b, 1, none⟩ (.bool v)) where
  s0 := (World.cell?_setCell_other _ _ _ _ (by intro e; cases e)).trans h.s0
  s1 := World.cell?_setCell_same _ _ _ h.s1
  f0 := (World.frozen?_setCell _ _ _ _).trans h.f0
  f1 := (World.frozen?_setCell _ _ _ _).trans h.f1
  row := fun h0 => by
    obtain ⟨A, o, e, hA, hr⟩ := h.row h0
    exact ⟨A, o, e, hA, fun j hj => (World.cell?_setCell_other _ _ _ _ (fun e => Nat.ne_of_lt hA (congrArg Addr.block e).symm)).trans (hr j hj)⟩
  cap := h.cap
theorem IsRd.step {b A o c : Nat} {x : ByteArray} {l : List ByteArray} {bad : Bool} {w : World} (h : IsRd b (some ⟨A, o, none⟩) c (x :: l) bad w) (o' c' : Nat) (ho : o' = o + 1 ∨ l = []) (hc : l.length ≤ c') :
    IsRd b (some ⟨A, o', none⟩) c' l bad (w.setCell ⟨b, 0, none⟩ (.slice (some ⟨A, o', none⟩) l.length c')) where
  s0 := World.cell?_setCell_same _ _ _ h.s0
  s1 := (World.cell?_setCell_other _ _ _ _ (by intro e; cases e)).trans h.s1
  f0 := (World.frozen?_setCell _ _ _ _).trans h.f0
  f1 := (World.frozen?_setCell _ _ _ _).trans h.f1
  row := fun h0 => by
    obtain ⟨A2, o2, e, hA, hr⟩ := h.row (by simp)
    cases e
    refine ⟨A, o', rfl, hA, fun j hj => (World.cell?_setCell_other _ _ _ _ (fun e => Nat.ne_of_lt hA (congrArg Addr.block e).symm)).trans ?_⟩
    have e := hr (j + 1) (by simp; omega)
    rcases ho with rfl | rfl
    · rw [show o + 1 + j = o + (j + 1) by omega]
      exact e
    · cases hj
  cap := hc
theorem IsRd.grown {b c M : Nat} {ad : Option Addr} {l : List ByteArray} {bad : Bool} {w w' : World} (h : IsRd b ad c l bad w) (hg : w.grownBy w' (some M)) (h1 : b < w.heap.size) (hM : b < M) : IsRd b ad c l bad w' := by
  have hc : ∀ B, B < w.heap.size → B ≠ M → ∀ i, w'.cell? ⟨B, i, none⟩ = w.cell? ⟨B, i, none⟩ := fun B hlt hne i => World.cell?_of_block (w := w) (hg.block B hlt (by intro e; cases e; exact hne rfl))
  have hf : ∀ B, B < w.heap.size → B ≠ M → ∀ i, w'.frozen? ⟨B, i, none⟩ = w.frozen? ⟨B, i, none⟩ := fun B hlt hne i => World.frozen?_of_block (w := w) (hg.block B hlt (by intro e; cases e; exact hne rfl))
  refine ⟨(hc b h1 (by omega) 0).trans h.s0, (hc b h1 (by omega) 1).trans h.s1, (hf b h1 (by omega) 0).trans h.f0, (hf b h1 (by omega) 1).trans h.f1, fun h0 => ?_, h.cap⟩
  obtain ⟨A, o, e, hA, hr⟩ := h.row h0
  exact ⟨A, o, e, hA, fun j hj => (hc A (by omega) (by omega) _).trans (hr j hj)⟩

set_option maxRecDepth 100000 in
theorem take_calls (b c : Nat) (ad : Option Addr) (l : List ByteArray) (bad : Bool) (w : World) (h : IsRd b ad c l bad w) :
    Calls Tryd.prog 36 #[.pointer (some ⟨b, 0, none⟩)] w fun e w' => ∃ ad' c', e = .returned (.string (l.headD ⟨#[]⟩)) ∧ IsRd b ad' c' l.tail (bad || l.isEmpty) w' ∧ w.grownBy w' (some b) := by
  cases l with
  | nil =>
    have s0 := h.s0
    have s1 := h.s1
    have f1 := h.f1
    rw [List.length_nil] at s0
    have H := Lib.hid h
    clear h
    go_enter Tryd.func36, Tryd.ntmps36
    go_wp2
    go_ret
    refine ⟨ad, c, rfl, ?_, gb_set _ _ _ _⟩
    have := H.out.bad true
    simpa using this
  | cons x l =>
    have s0 := h.s0
    obtain ⟨A, o, rfl, hA, hr⟩ := h.row (by simp)
    have r0 := hr 0 (by simp)
    have f0 := h.f0
    have hc := h.cap
    rw [List.length_cons] at s0 hc
    rw [Nat.add_zero] at r0
    change w.cell? ⟨A, o, none⟩ = some (.string x) at r0
    have H := Lib.hid h
    clear h hr
    have hl1 : (0 : Int) < ((l.length + 1 : Nat) : Int) := by omega
    go_enter Tryd.func36, Tryd.ntmps36
    go_wp2
    all_goals go_ret
    · have hz : l.length = 0 := by omega
      exact ⟨rfl, ⟨some ⟨A, o, none⟩, 0, H.out.step o 0 (.inr (List.eq_nil_of_length_eq_zero hz)) (by omega)⟩, gb_set _ _ _ _⟩
    · exact ⟨rfl, ⟨some ⟨A, o + 1, none⟩, c - 1, H.out.step (o + 1) (c - 1) (.inl rfl) (by omega)⟩, gb_set _ _ _ _⟩
set_option maxRecDepth 100000 in
theorem need_calls (b c : Nat) (ad : Option Addr) (l : List ByteArray) (bad : Bool) (s : ByteArray) (w : World) (h : IsRd b ad c l bad w) :
    Calls Tryd.prog 37 #[.pointer (some ⟨b, 0, none⟩), .string s] w fun e w' => ∃ ad' c', e = .returned (.tuple #[]) ∧ IsRd b ad' c' l.tail (bad || l.isEmpty || decide (l.headD ⟨#[]⟩ ≠ s)) w' ∧ w.grownBy w' (some b) := by
  go_enter Tryd.func37, Tryd.ntmps37
  go_wp2_with fail
  refine (take_calls b c ad l bad w h).mono ?_
  rintro e w2 ⟨ad', c', rfl, h2, hb2⟩
  have s1 := h2.s1
  have f1 := h2.f1
  have H2 := Lib.hid h2
  clear h2
  by_cases hs : l.headD ⟨#[]⟩ = s
  · subst hs
    go_wp2
    go_end0
    have e : (bad || l.isEmpty || decide (l.headD ⟨#[]⟩ ≠ l.headD ⟨#[]⟩)) = (bad || l.isEmpty) := by simp
    exact ⟨ad', c', rfl, by rw [e]; exact H2.out, hb2⟩
  · have hne : ((l.head?.getD ⟨#[]⟩).toList == s.toList) = false := by
      rw [beq_eq_false_iff_ne, ByteArray.toList_eq, ByteArray.toList_eq]
      intro e
      exact hs (by rw [List.headD_eq_head?_getD]; exact ByteArray.ext (Array.toList_inj.1 e))
    go_wp2
    go_end0
    have e : (bad || l.isEmpty || decide (l.headD ⟨#[]⟩ ≠ s)) = true := by rw [decide_eq_true hs, Bool.or_true]
    exact ⟨ad', c', rfl, by rw [e]; exact H2.out.bad true, gb_trans hb2 (gb_set _ _ _ _)⟩
set_option maxRecDepth 100000 in
set_option maxHeartbeats 4000000 in
theorem rnumber_calls (b c : Nat) (ad : Option Addr) (l : List ByteArray) (bad : Bool) (w : World) (h : IsRd b ad c l bad w) (h1 : b < w.heap.size) (hs : (l.headD ⟨#[]⟩).size ≤ 9223372036854775000) :
    Calls Tryd.prog 38 #[.pointer (some ⟨b, 0, none⟩)] w fun e w' => ∃ ad' c', e = .returned (.int .i64 (pnum (l.headD ⟨#[]⟩)).1) ∧ IsRd b ad' c' l.tail (bad || l.isEmpty || decide ((pnum (l.headD ⟨#[]⟩)).2 ≠ 0)) w' ∧ w.grownBy w' (some b) := by
  obtain ⟨n, hn⟩ : ∃ n, (pnum (l.headD ⟨#[]⟩)).1 = n := ⟨_, rfl⟩
  obtain ⟨e0, he0⟩ : ∃ e0, (pnum (l.headD ⟨#[]⟩)).2 = e0 := ⟨_, rfl⟩
  have hp : flagstoneref1_ParseNumber.f (2 * (l.headD ⟨#[]⟩).size + 51) (l.headD ⟨#[]⟩) = some (n, e0) := by
    rw [Pure.refparse _ _ hs (by omega), ← hn, ← he0]
    rfl
  rw [hn, he0]
  have HP := Lib.hid hp
  clear hp hn he0 hs
  go_enter Tryd.func38, Tryd.ntmps38
  go_wp2_with fail
  refine (take_calls b c ad l bad w h).mono ?_
  rintro e w2 ⟨ad', c', rfl, i2, hb2⟩
  have hz := hb2.size
  have H2 := Lib.hid i2
  clear i2
  go_wp2_with fail
  refine (flagstoneref1_ParseNumber.calls _ _ n e0 w2 (by have := HP.out; rw [List.headD_eq_head?_getD] at this; exact this)).mono ?_
  rintro e w3 ⟨rfl, hb3⟩
  have i3 := H2.out.grown (M := w2.heap.size) (gb_below _ hb3.below) (by omega) (by omega)
  have hb03 := gb_trans hb2 (gb_below b hb3.below)
  have s1 := i3.s1
  have f1 := i3.f1
  have H3 := Lib.hid i3
  clear i3
  by_cases he : e0 = 0
  · subst he
    go_wp2
    go_ret
    have e : (bad || l.isEmpty || decide ((0 : Int) ≠ 0)) = (bad || l.isEmpty) := by simp
    exact ⟨ad', c', rfl, by rw [e]; exact H3.out, hb03⟩
  · have hne : (e0 != 0) = true := bne_iff_ne.2 he
    go_wp2
    go_ret
    have e : (bad || l.isEmpty || decide (e0 ≠ 0)) = true := by rw [decide_eq_true he, Bool.or_true]
    exact ⟨ad', c', rfl, by rw [e]; exact H3.out.bad true, gb_trans hb03 (gb_set _ _ _ _)⟩

/-- The parse's state: R the result's block, b the reader, M the metric. -/
structure RSt (W0 : World) (R b M : Nat) (p : PS) (m : Met) (w : World) : Prop where
  words : ∃ ad c, IsRd b ad c p.l p.bad w
  met : IsM M m w
  res : IsM R .zero w
  below : Below W0.heap.size W0 w
  hR : W0.heap.size ≤ R
  hb : R < b
  hM : b < M
  hs : M < w.heap.size
  small : ∀ x ∈ p.l, x.size ≤ 200
theorem RSt.words' {W0 : World} {R b M : Nat} {p p' : PS} {m : Met} {w w' : World} (h : RSt W0 R b M p m w) (hw : ∃ ad c, IsRd b ad c p'.l p'.bad w') (hg : w.grownBy w' (some b)) (hsub : ∀ x ∈ p'.l, x ∈ p.l) : RSt W0 R b M p' m w' := by
  have h1 := h.hR
  have h3 := h.hb
  have h4 := h.hM
  have h5 := h.hs
  exact ⟨hw, h.met.grown hg h5 (by omega), h.res.grown hg (by omega) (by omega), h.below.grown hg h.below.size (fun k hk => by cases hk; omega), h1, h3, h4, Nat.lt_of_lt_of_le h5 hg.size, fun x hx => h.small x (hsub x hx)⟩
theorem RSt.store {W0 : World} {R b M : Nat} {p : PS} {m m' : Met} {w : World} (h : RSt W0 R b M p m w) (i : Nat) (v : Value) (hm : IsM M m' (w.setCell ⟨M, i, none⟩ v)) : RSt W0 R b M p m' (w.setCell ⟨M, i, none⟩ v) := by
  have h1 := h.hR
  have h3 := h.hb
  have h4 := h.hM
  have h5 := h.hs
  have hg := gb_set w M i v
  obtain ⟨ad, c, hw⟩ := h.words
  exact ⟨⟨ad, c, hw.grown hg (by omega) h4⟩, hm, h.res.grown hg (by omega) (by omega), h.below.grown hg h.below.size (fun k hk => by cases hk; omega), h1, h3, h4, Nat.lt_of_lt_of_le h5 hg.size, h.small⟩
theorem RSt.over {W0 : World} {R b M : Nat} {p : PS} {m : Met} {w w' : World} (h : RSt W0 R b M p m w) (hb : Below w.heap.size w w') : RSt W0 R b M p m w' := by
  have h1 := h.hR
  have h3 := h.hb
  have h4 := h.hM
  have h5 := h.hs
  have hg := gb_below w.heap.size hb
  obtain ⟨ad, c, hw⟩ := h.words
  exact ⟨⟨ad, c, hw.grown hg (by omega) (by omega)⟩, h.met.grown hg h5 (by omega), h.res.grown hg (by omega) (by omega), h.below.trans (hb.mono h.below.size), h1, h3, h4, Nat.lt_of_lt_of_le h5 hb.size, h.small⟩
theorem nx_smallR {W0 : World} {R b M : Nat} {p : PS} {m : Met} {w : World} (h : RSt W0 R b M p m w) : (nx p.l).size ≤ 200 := nx_le p.l h.small
theorem take_st {W0 : World} {R b M : Nat} {p : PS} {m : Met} {w : World} (h : RSt W0 R b M p m w) :
    Calls Tryd.prog 36 #[.pointer (some ⟨b, 0, none⟩)] w fun e w' => e = .returned (.string (nx p.l)) ∧ RSt W0 R b M p.nxt m w' := by
  obtain ⟨ad, c, hw⟩ := h.words
  refine (take_calls b c ad p.l p.bad w hw).mono ?_
  rintro e w' ⟨ad', c', rfl, h2, hg⟩
  exact ⟨rfl, h.words' (p' := p.nxt) ⟨ad', c', h2⟩ hg fun x hx => List.mem_of_mem_tail hx⟩
theorem need_st {W0 : World} {R b M : Nat} {p : PS} {m : Met} {w : World} (h : RSt W0 R b M p m w) (s : ByteArray) :
    Calls Tryd.prog 37 #[.pointer (some ⟨b, 0, none⟩), .string s] w fun e w' => e = .returned (.tuple #[]) ∧ RSt W0 R b M (p.wrd s) m w' := by
  obtain ⟨ad, c, hw⟩ := h.words
  refine (need_calls b c ad p.l p.bad s w hw).mono ?_
  rintro e w' ⟨ad', c', rfl, h2, hg⟩
  exact ⟨rfl, h.words' (p' := p.wrd s) ⟨ad', c', h2⟩ hg fun x hx => List.mem_of_mem_tail hx⟩
theorem rnumber_st {W0 : World} {R b M : Nat} {p : PS} {m : Met} {w : World} (h : RSt W0 R b M p m w) :
    Calls Tryd.prog 38 #[.pointer (some ⟨b, 0, none⟩)] w fun e w' => e = .returned (.int .i64 p.numV) ∧ RSt W0 R b M p.num m w' := by
  obtain ⟨ad, c, hw⟩ := h.words
  have h4 := h.hM
  have h5 := h.hs
  have hn := nx_smallR h
  refine (rnumber_calls b c ad p.l p.bad w hw (by omega) (by unfold nx at hn; omega)).mono ?_
  rintro e w' ⟨ad', c', rfl, h2, hg⟩
  exact ⟨rfl, h.words' (p' := p.num) ⟨ad', c', h2⟩ hg fun x hx => List.mem_of_mem_tail hx⟩
/-- flagstoneref34.kinds. -/
theorem rkinds_in (W : World) : Calls Tryd.prog 25 #[] W fun e w' => e = .returned (.slice (some ⟨W.heap.size, 0, none⟩) 5 5) ∧ w' = W.alloc (.cells #[.string ⟨#[]⟩, .string wSum, .string wCount, .string wShare, .string wRatio] 9) := by
  go_enter Tryd.func25, Tryd.ntmps25
  go_wp2
  go_ret
  exact ⟨rfl, rfl⟩
def kindW (i : Nat) : ByteArray := if i = 1 then wSum else if i = 2 then wCount else if i = 3 then wShare else wRatio
theorem rkinds_b (W : World) (i : Nat) (h1 : 1 ≤ i) (h4 : i ≤ 4) : Calls Tryd.prog 25 #[] W fun e w' => ∃ N, e = .returned (.slice (some ⟨N, 0, none⟩) 5 5) ∧ Below W.heap.size W w' ∧ w'.cell? ⟨N, i, none⟩ = some (.string (kindW i)) := by
  refine (rkinds_in W).mono ?_
  rintro e w' ⟨rfl, rfl⟩
  refine ⟨_, rfl, (Below.refl _ _).alloc (Nat.le_refl _) _, ?_⟩
  rcases (show i = 1 ∨ i = 2 ∨ i = 3 ∨ i = 4 by omega) with rfl | rfl | rfl | rfl <;> simp [kindW]
/-- The kind that the first words have. -/
def kUp (s : ByteArray) (i : Nat) : Int := if s = wSum ∧ 1 < i then 1 else if s = wCount ∧ 2 < i then 2 else if s = wShare ∧ 3 < i then 3 else if s = wRatio ∧ 4 < i then 4 else 0
theorem kUp_start (s : ByteArray) : kUp s 1 = 0 := by unfold kUp; simp
theorem kUp_end (s : ByteArray) : kUp s 5 = kindOf s := by unfold kUp kindOf; simp
theorem words_ne : wSum ≠ wCount ∧ wSum ≠ wShare ∧ wSum ≠ wRatio ∧ wCount ≠ wShare ∧ wCount ≠ wRatio ∧ wShare ≠ wRatio := by decide
theorem kUp_yes (s : ByteArray) (i : Nat) (h1 : 1 ≤ i) (h4 : i ≤ 4) (h : s = kindW i) : kUp s (i + 1) = (i : Int) := by
  obtain ⟨n1, n2, n3, n4, n5, n6⟩ := words_ne
  rcases (show i = 1 ∨ i = 2 ∨ i = 3 ∨ i = 4 by omega) with rfl | rfl | rfl | rfl
  · have e : s = wSum := h
    subst e
    unfold kUp
    simp
  · have e : s = wCount := h
    subst e
    unfold kUp
    simp [n1.symm]
  · have e : s = wShare := h
    subst e
    unfold kUp
    simp [n2.symm, n4.symm]
  · have e : s = wRatio := h
    subst e
    unfold kUp
    simp [n3.symm, n5.symm, n6.symm]
theorem kUp_no (s : ByteArray) (i : Nat) (h1 : 1 ≤ i) (h4 : i ≤ 4) (h : ¬ s = kindW i) : kUp s (i + 1) = kUp s i := by
  rcases (show i = 1 ∨ i = 2 ∨ i = 3 ∨ i = 4 by omega) with rfl | rfl | rfl | rfl
  · have e : ¬ s = wSum := h
    unfold kUp
    simp [e]
  · have e : ¬ s = wCount := h
    unfold kUp
    simp [e]
  · have e : ¬ s = wShare := h
    unfold kUp
    simp [e]
  · have e : ¬ s = wRatio := h
    unfold kUp
    simp [e]
end Go.Proofs.YtbiolondnkeakaaDoor
namespace Go.Proofs.YtbiolondnkeakaaDoor
open Go.RowKit Go.Proofs.YtbiolondnkeakaaDoor.PT Go.Proofs.YtbiolondnkeakaaDoorW.PrintWords Go.Proofs.YtbiolondnkeakaaDoorW.PrintLast Go.Proofs.YtbiolondnkeakaaDoorW.PrintMore Plain

theorem own_strings {w : World} {base : Nat} {ok : Nat → Prop} {v : Value} {l : List ByteArray} (h : Kd.R Kd.string 9 w base ok v l) :
    ∃ ad c, v = .slice ad l.length c ∧ l.length ≤ c ∧ (0 < l.length → ∃ A, ad = some ⟨A, 0, none⟩ ∧ base ≤ A ∧ A < w.heap.size ∧ ∀ j, j < l.length → w.cell? ⟨A, 0 + j, none⟩ = some (.string (l.getD j ⟨#[]⟩))) := by
  obtain ⟨inner, ho, _⟩ := h.2
  rcases ho.2 with ⟨rfl, hn⟩ | ⟨g, cap, cur, rfl, hb, hg, hle, _⟩
  · exact ⟨none, 0, by rw [hn], by omega, fun h0 => by omega⟩
  · refine ⟨_, _, rfl, hle, fun _ => ⟨g, rfl, hb, (Array.getElem?_eq_some_iff.1 hg).1, fun j hj => ?_⟩⟩
    obtain ⟨ad, e, hc⟩ := Kd.at_string (Kd.R_reads' h).2.2 (j : Int) (by omega) (by omega)
    cases e
    rw [Addr.add_lit, Int.toNat_natCast] at hc
    rw [hc]
    unfold rdOf
    rw [Int.toNat_natCast]
    rfl
theorem rd_start {w2 : World} {ad : Option Addr} {c : Nat} {l : List ByteArray} (hc : l.length ≤ c) (h : 0 < l.length → ∃ A, ad = some ⟨A, 0, none⟩ ∧ A < w2.heap.size ∧ ∀ j, j < l.length → w2.cell? ⟨A, 0 + j, none⟩ = some (.string (l.getD j ⟨#[]⟩))) (t : TypeId) :
    IsRd w2.heap.size ad c l false (w2.alloc (.cells #[.slice ad l.length c, .bool false] t)) := by
  refine ⟨by simp, by simp, by simp, by simp, fun h0 => ?_, hc⟩
  obtain ⟨A, e, hA, hr⟩ := h h0
  exact ⟨A, 0, e, hA, fun j hj => ((Below.refl w2.heap.size w2).alloc (Nat.le_refl _) _).cell (p := ⟨A, _, none⟩) hA |>.trans (hr j hj)⟩

theorem wLeast_list : wLeast.toList = [108, 101, 97, 115, 116] := by rw [ByteArray.toList_eq]; rfl
theorem wBefore_list : wBefore.toList = [98, 101, 102, 111, 114, 101] := by rw [ByteArray.toList_eq]; rfl
theorem nxt_skip {p : PS} {s : ByteArray} (h : p.hasB s = true) : p.nxt = p.skip s := by
  have h2 : p.l.head? = some s := of_decide_eq_true h
  unfold PS.nxt PS.skip
  rw [if_pos h2]
  cases hl : p.l with
  | nil => rw [hl] at h2; cases h2
  | cons x t => simp
/-- Whether the next word is a given one, as the text asks it. -/
theorem has_test {W0 : World} {R b M : Nat} {p : PS} {m : Met} {w : World} (h : RSt W0 R b M p m w) (s : ByteArray) :
    (∃ ad c, w.cell? ⟨b, 0, none⟩ = some (.slice ad 0 c) ∧ p.hasB s = false) ∨
    ∃ A o c x t, w.cell? ⟨b, 0, none⟩ = some (.slice (some ⟨A, o, none⟩) (t + 1) c) ∧ w.cell? ⟨A, o, none⟩ = some (.string x) ∧ p.l ≠ [] ∧ p.hasB s = (x.toList == s.toList) := by
  obtain ⟨ad, c, hw⟩ := h.words
  unfold PS.hasB
  cases hl : p.l with
  | nil =>
    have s0 := hw.s0
    rw [hl] at s0
    exact .inl ⟨ad, c, s0, rfl⟩
  | cons x l =>
    have s0 := hw.s0
    obtain ⟨A, o, rfl, _, hr⟩ := hw.row (by rw [hl]; simp)
    have r0 := hr 0 (by rw [hl]; simp)
    rw [hl, Nat.add_zero] at r0
    rw [hl] at s0
    refine .inr ⟨A, o, c, x, l.length, s0, r0, List.cons_ne_nil _ _, ?_⟩
    by_cases hx : x = s
    · rw [hx, List.head?_cons, decide_eq_true rfl, beq_self_eq_true]
    · rw [List.head?_cons, decide_eq_false (fun e => hx (Option.some.inj e))]
      symm
      rw [beq_eq_false_iff_ne, ByteArray.toList_eq, ByteArray.toList_eq]
      exact fun e => hx (ByteArray.ext (Array.toList_inj.1 e))
set_option maxRecDepth 100000 in
set_option maxHeartbeats 16000000 in
theorem refparse_calls (s : ByteArray) (hs : s.size ≤ 200) (w : World) :
    Calls Tryd.prog 15 #[.string s] w fun e w' => e = .returned (.tuple #[(parseM s).1.val, .int .i64 (parseM s).2]) ∧ Below w.heap.size w w' := by
  have hd : decide ((200 : Int) < (s.size : Int)) = false := decide_eq_false (by omega)
  have hwf := Split.words_f s (by omega)
  obtain ⟨l, hl⟩ : ∃ l, Lib.goFieldsP blank s = l := ⟨_, rfl⟩
  have hsm := fields_small s hs
  rw [hl] at hwf hsm
  have HWF := Lib.hid hwf
  have HL := Lib.hid hl
  have HSM := Lib.hid hsm
  have HS := Lib.hid hs
  clear hl hsm hwf
  go_enter Tryd.func15, Tryd.ntmps15
  go_wp2_with fail
  have hz : IsM w.heap.size .zero (w.alloc (.cells #[.int .i64 0, .string ⟨#[]⟩, .string ⟨#[]⟩, .int .i64 0, .int .i64 0, .int .i64 0, .int .i64 0] 29)) := ⟨by simp [Met.zero], by simp [Met.zero], by simp [Met.zero], by simp [Met.zero], by simp [Met.zero], by simp [Met.zero], by simp [Met.zero], fun i => by simp⟩
  obtain ⟨W1, hW1⟩ : ∃ W1, w.alloc (.cells #[.int .i64 0, .string ⟨#[]⟩, .string ⟨#[]⟩, .int .i64 0, .int .i64 0, .int .i64 0, .int .i64 0] 29) = W1 := ⟨_, rfl⟩
  have hb1 : Below w.heap.size w W1 := by rw [← hW1]; exact (Below.refl _ _).alloc (Nat.le_refl _) _
  have hs1 : W1.heap.size = w.heap.size + 1 := by rw [← hW1, World.size_alloc]
  rw [hW1] at hz ⊢
  have HZ := Lib.hid (And.intro hz (And.intro hb1 hs1))
  clear hW1 hz hb1 hs1
  refine (flagstoneref34_words.calls _ s l W1 HWF.out).mono ?_
  rintro e w2 ⟨v, rfl, hR, hb2⟩
  obtain ⟨ad, c, rfl, hlc, hrow⟩ := own_strings hR
  have hsz2 := hb2.size
  have H2 := Lib.hid (And.intro hb2 (And.intro hlc hrow))
  clear hR hb2 hlc hrow
  go_wp2_with fail
  obtain ⟨R, hRe⟩ : ∃ R, w.heap.size = R := ⟨_, rfl⟩
  obtain ⟨b, hbe⟩ : ∃ b, w2.heap.size = b := ⟨_, rfl⟩
  obtain ⟨W3, hW3, hst⟩ : ∃ W3, (w2.alloc (.cells #[.slice ad l.length c, .bool false] 75)).alloc (.cells #[.int .i64 0, .string ⟨#[]⟩, .string ⟨#[]⟩, .int .i64 0, .int .i64 0, .int .i64 (-1099511627776), .int .i64 0] 29) = W3 ∧ RSt w R b (b + 1) ⟨l, false⟩ .start W3 := by
    have h1 := rd_start (w2 := w2) (ad := ad) (c := c) (l := l) H2.out.2.1 (fun h0 => by
      obtain ⟨A, e, _, hA, hr⟩ := H2.out.2.2 h0
      exact ⟨A, e, hA, hr⟩) 75
    have hs1 := HZ.out.2.2
    have hz2 := HZ.out.1.grown (b := W1.heap.size) (gb_below _ H2.out.1) (by omega) (by omega)
    have hb : Below w.heap.size w ((w2.alloc (.cells #[.slice ad l.length c, .bool false] 75)).alloc (.cells #[.int .i64 0, .string ⟨#[]⟩, .string ⟨#[]⟩, .int .i64 0, .int .i64 0, .int .i64 (-1099511627776), .int .i64 0] 29)) := ((HZ.out.2.1.trans (H2.out.1.mono HZ.out.2.1.size)).alloc (by omega) _).alloc (by rw [World.size_alloc]; omega) _
    refine ⟨_, rfl, ⟨⟨ad, c, ?_⟩, ?_, ?_, hb, by omega, by omega, by omega, ?_, HSM.out⟩⟩
    · rw [← hbe]
      exact h1.grown (M := w2.heap.size + 1) (World.grownBy_alloc _ _ _) (by rw [World.size_alloc]; omega) (by omega)
    · rw [← hbe]
      have e1 : w2.heap.size + 1 = (w2.alloc (.cells #[.slice ad l.length c, .bool false] 75)).heap.size := by rw [World.size_alloc]
      rw [e1]
      exact ⟨by simp [Met.start], by simp [Met.start], by simp [Met.start], by simp [Met.start], by simp [Met.start], by simp [Met.start], by simp [Met.start], fun i => by simp⟩
    · rw [← hRe]
      refine (hz2.grown (b := w2.heap.size) (World.grownBy_alloc w2 (.cells #[.slice ad l.length c, .bool false] 75) _) (by omega) (by omega)).grown (b := w2.heap.size) (World.grownBy_alloc _ _ _) (by rw [World.size_alloc]; omega) (by omega)
    · rw [World.size_alloc, World.size_alloc]; omega
  rw [hW3]
  rw [hbe]
  obtain ⟨M, hMe⟩ : ∃ M, b + 1 = M := ⟨_, rfl⟩
  rw [hRe]
  rw [hMe] at hst ⊢
  have ST := Lib.hid hst
  have HRM := Lib.hid (And.intro hRe hMe)
  clear hst hW3 hRe hbe hMe HZ H2 hsz2
  obtain ⟨p0, hp0⟩ : ∃ p0 : PS, (⟨l, false⟩ : PS) = p0 := ⟨_, rfl⟩
  rw [hp0] at ST
  have HP := Lib.hid hp0
  clear hp0
  refine (take_st ST.out).mono ?_
  rintro e w4 ⟨rfl, st4⟩
  obtain ⟨name, hname⟩ : ∃ name, nx p0.l = name := ⟨_, rfl⟩
  rw [hname]
  have HN := Lib.hid hname
  have ST4 := Lib.hid st4
  clear st4 ST hname
  go_wp2_with fail
  go_loopg [7] 5 (fun gg s7 wr => ∃ i : Nat, s7 = .int .i64 i ∧ 1 ≤ i ∧ i ≤ 5 ∧ 5 - i ≤ gg ∧ Hid (RSt w R b M p0.nxt { Met.start with k := kUp name i } wr))
  case atStart => exact ⟨1, rfl, by omega, by omega, by omega, by rw [kUp_start]; exact ST4⟩
  case round =>
    obtain ⟨i, rfl, hi1, hi5, hgg, HS4⟩ := hrel
    clear ST4
    by_cases hlt : i < 5
    · have hltd : decide ((i : Int) < 5) = true := decide_eq_true (by omega)
      go_wp2_with fail
      refine (rkinds_b wr i hi1 (by omega)).mono ?_
      rintro e w5 ⟨N5, rfl, hb5, _⟩
      have ST5 := Lib.hid (HS4.out.over hb5)
      clear hb5 HS4
      go_wp2_with fail
      refine (rkinds_b w5 i hi1 (by omega)).mono ?_
      rintro e w6 ⟨N, rfl, hb6, hcell⟩
      have ST6 := Lib.hid (ST5.out.over hb6)
      clear hb6 ST5
      have f0 := ST6.out.met.fr 0
      have c0 := ST6.out.met.c0
      by_cases hk : name = kindW i
      · have hne : (name.toList == (kindW i).toList) = true := by rw [hk]; exact beq_self_eq_true _
        have e := kUp_yes name i hi1 (by omega) hk
        have HS7 := Lib.hid (show RSt w R b M p0.nxt { Met.start with k := kUp name (i + 1) } (w6.setCell ⟨M, 0, none⟩ (.int .i64 i)) from by rw [e]; exact ST6.out.store 0 _ (ST6.out.met.setK i))
        clear hk e
        go_wp2_with fail
        go_roundg (5 - (i + 1))
        case measure => omega
        case rel => exact ⟨i + 1, by go_num, by omega, by omega, Nat.le_refl _, HS7⟩
      · have hne : (name.toList == (kindW i).toList) = false := by
          rw [beq_eq_false_iff_ne, ByteArray.toList_eq, ByteArray.toList_eq]
          intro e
          exact hk (ByteArray.ext (Array.toList_inj.1 e))
        have e := kUp_no name i hi1 (by omega) hk
        have HS7 := Lib.hid (show RSt w R b M p0.nxt { Met.start with k := kUp name (i + 1) } w6 from by rw [e]; exact ST6.out)
        clear hk e
        go_wp2_with fail
        go_roundg (5 - (i + 1))
        case measure => omega
        case rel => exact ⟨i + 1, by go_num, by omega, by omega, Nat.le_refl _, HS7⟩
    · have hltd : decide ((i : Int) < 5) = false := decide_eq_false (by omega)
      obtain rfl : i = 5 := by omega
      go_wp2_with fail
      refine (rkinds_b wr 1 (by omega) (by omega)).mono ?_
      rintro e w5 ⟨N5, rfl, hb5, _⟩
      have st5 := HS4.out.over hb5
      rw [kUp_end] at st5
      obtain ⟨K, hK⟩ : ∃ K, kindOf name = K := ⟨_, rfl⟩
      rw [hK] at st5
      have HK := Lib.hid hK
      have ST5 := Lib.hid st5
      clear hb5 HS4 st5 hK
      go_wp2_with fail
      refine (need_st ST5.out wOf).mono ?_
      rintro e w6 ⟨rfl, st6⟩
      have ST6 := Lib.hid st6
      clear st6 ST5
      go_wp2_with fail
      refine (take_st ST6.out).mono ?_
      rintro e w7 ⟨rfl, st7⟩
      obtain ⟨nm, hnm⟩ : ∃ nm, nx (p0.nxt.wrd wOf).l = nm := ⟨_, rfl⟩
      rw [hnm]
      have HNM := Lib.hid hnm
      change RSt w R b M p0.p3 _ w7 at st7
      have c1 := st7.met.c1
      have f1 := st7.met.fr 1
      have c0 := st7.met.c0
      have hs7 := st7.hs
      have st8 := st7.store 1 _ (st7.met.setNm nm)
      have ST8 := Lib.hid st8
      clear st7 st8 ST6 hnm
      go_upto_if 41 with (fail)
      go_cut [] (fun wc => RSt w R b M (p0.p3.toN K) { Met.start with k := K, nm := nm, bl := p0.p3.toV K } wc)
      case first =>
        by_cases h4 : K = 4
        · have hb4 : (K == 4) = true := by rw [h4]; rfl
          have H4 := Lib.hid h4
          clear h4
          go_wp2_with fail
          refine (need_st ST8.out wTo).mono ?_
          rintro e w9 ⟨rfl, st9⟩
          have ST9 := Lib.hid st9
          clear st9 c0 c1 f1 ST8 hs7
          go_wp2_with fail
          refine (take_st ST9.out).mono ?_
          rintro e w10 ⟨rfl, st10⟩
          have c2 := st10.met.c2
          have f2 := st10.met.fr 2
          have hs10 := st10.hs
          have st11 := st10.store 2 _ (st10.met.setBl (nx (p0.p3.wrd wTo).l))
          have ST11 := Lib.hid st11
          clear ST9 st10 st11
          go_wp2_with fail
          go_meet
          have e1 : p0.p3.toN K = (p0.p3.wrd wTo).nxt := if_pos H4.out
          have e2 : p0.p3.toV K = nx (p0.p3.wrd wTo).l := if_pos H4.out
          rw [e1, e2]
          exact ST11.out
        · have hb4 : (K == 4) = false := by simp [h4]
          have H4 := Lib.hid h4
          clear h4
          go_wp2_with fail
          go_meet
          have e1 : p0.p3.toN K = p0.p3 := if_neg H4.out
          have e2 : p0.p3.toV K = ⟨#[]⟩ := if_neg H4.out
          rw [e1, e2]
          exact ST8.out
      case rest =>
        clear ST8 c0 c1 f1 hs7
        have STC := Lib.hid hcut
        clear hcut
        go_wp2_with fail
        refine (need_st STC.out wWithin).mono ?_
        rintro e w12 ⟨rfl, st12⟩
        change RSt w R b M (p0.p5 K) _ w12 at st12
        have ST12 := Lib.hid st12
        clear STC st12
        go_wp2_with fail
        refine (rnumber_st ST12.out).mono ?_
        rintro e w13 ⟨rfl, st13⟩
        have c3 := st13.met.c3
        have f3 := st13.met.fr 3
        have hs13 := st13.hs
        have st14 := st13.store 3 _ (st13.met.setWi (p0.p5 K).numV)
        have ST14 := Lib.hid st14
        clear ST12 st13 st14
        go_wp2_with fail
        refine (need_st ST14.out wCap).mono ?_
        rintro e w15 ⟨rfl, st15⟩
        change RSt w R b M (p0.p7 K) _ w15 at st15
        have ST15 := Lib.hid st15
        clear ST14 st15 c3 f3 hs13
        go_wp2_with fail
        refine (rnumber_st ST15.out).mono ?_
        rintro e w16 ⟨rfl, st16⟩
        change RSt w R b M (p0.p8 K) _ w16 at st16
        have c4 := st16.met.c4
        have f4 := st16.met.fr 4
        have hs16 := st16.hs
        have st17 := st16.store 4 _ (st16.met.setCa (p0.p7 K).numV)
        have ST17 := Lib.hid (show ∃ W17, w16.setCell ⟨M, 4, none⟩ (.int .i64 (p0.p7 K).numV) = W17 ∧ RSt w R b M (p0.p8 K) { Met.start with k := K, nm := nm, bl := p0.p3.toV K, wi := (p0.p5 K).numV, ca := (p0.p7 K).numV } W17 from ⟨_, rfl, st17⟩)
        clear ST15 st16 st17
        go_upto_region 20 with (fail)
        obtain ⟨W17, hW17, st17⟩ := ST17.out
        rw [hW17]
        clear hW17 ST17 c4 f4 hs16
        have ST18 := Lib.hid st17
        clear st17
        go_cut [71] (fun s71 wc => s71 = .bool ((p0.p8 K).hasB wLeast) ∧ wc = W17)
        case first =>
          have hh := has_test ST18.out wLeast
          rcases hh with ⟨ad, c2, s0, hb⟩ | ⟨A, o, c2, x, t, s0, r0, hl, hb⟩ 
          · have HB := Lib.hid hb
            clear hb
            go_wp2_with fail
            go_meet
            exact ⟨by rw [HB.out], rfl⟩
          · have HB := Lib.hid hb
            clear hb
            have hl0 : decide ((0 : Int) < ((t + 1 : Nat) : Int)) = true := decide_eq_true (by omega)
            have hl1 : (0 : Int) < (t : Int) + 1 := by omega
            have hl2 : decide ((0 : Int) < (t : Int) + 1) = true := decide_eq_true hl1
            go_wp2_with fail
            go_meet
            exact ⟨by rw [HB.out, wLeast_list], rfl⟩
        case rest =>
          obtain ⟨rfl, rfl⟩ := hcut
          have hs17 := ST18.out.hs
          go_upto_if 71 with (fail)
          go_cut [] (fun wc => RSt w R b M (p0.p9 K) { Met.start with k := K, nm := nm, bl := p0.p3.toV K, wi := (p0.p5 K).numV, ca := (p0.p7 K).numV, le := (p0.p8 K).optV wLeast (-1099511627776) } wc)
          case first =>
            cases hh : (p0.p8 K).hasB wLeast with
            | true =>
              have H4 := Lib.hid hh
              clear hh
              go_wp2_with fail
              refine (take_st ST18.out).mono ?_
              rintro e w18 ⟨rfl, st18⟩
              rw [nxt_skip H4.out] at st18
              have ST19 := Lib.hid st18
              clear st18
              go_wp2_with fail
              refine (rnumber_st ST19.out).mono ?_
              rintro e w19 ⟨rfl, st19⟩
              have d1 := st19.met.c5
              have g1 := st19.met.fr 5
              have hs19 := st19.hs
              have st20 := st19.store 5 _ (st19.met.setLe ((p0.p8 K).skip wLeast).numV)
              have ST20 := Lib.hid st20
              clear ST18 ST19 st19 st20
              go_wp2_with fail
              go_meet
              have e1 : p0.p9 K = ((p0.p8 K).skip wLeast).num := if_pos H4.out
              have e2 : (p0.p8 K).optV wLeast (-1099511627776) = ((p0.p8 K).skip wLeast).numV := if_pos H4.out
              rw [e1, e2]
              exact ST20.out
            | false =>
              have H4 := Lib.hid hh
              clear hh
              go_wp2_with fail
              go_meet
              have e1 : p0.p9 K = p0.p8 K := if_neg (by rw [H4.out]; exact Bool.noConfusion)
              have e2 : (p0.p8 K).optV wLeast (-1099511627776) = -1099511627776 := if_neg (by rw [H4.out]; exact Bool.noConfusion)
              rw [e1, e2]
              exact ST18.out
          case rest =>
            clear ST18 hs17
            have STD := Lib.hid hcut
            clear hcut
            go_upto_region 23 with (fail)
            go_cut [91] (fun s91 wd => s91 = .bool ((p0.p9 K).hasB wBefore) ∧ wd = wc)
            case first =>
              have hh := has_test STD.out wBefore
              rcases hh with ⟨ad, c2, s0, hb⟩ | ⟨A, o, c2, x, t, s0, r0, hl, hb⟩
              · have HB := Lib.hid hb
                clear hb
                go_wp2_with fail
                go_meet
                exact ⟨by rw [HB.out], rfl⟩
              · have HB := Lib.hid hb
                clear hb
                have hl0 : decide ((0 : Int) < ((t + 1 : Nat) : Int)) = true := decide_eq_true (by omega)
                have hl1 : (0 : Int) < (t : Int) + 1 := by omega
                have hl2 : decide ((0 : Int) < (t : Int) + 1) = true := decide_eq_true hl1
                go_wp2_with fail
                go_meet
                exact ⟨by rw [HB.out, wBefore_list], rfl⟩
            case rest =>
            obtain ⟨rfl, rfl⟩ := hcut
            go_upto_if 91 with (fail)
            go_cut [] (fun wc => RSt w R b M (p0.p10 K) { Met.start with k := K, nm := nm, bl := p0.p3.toV K, wi := (p0.p5 K).numV, ca := (p0.p7 K).numV, le := (p0.p8 K).optV wLeast (-1099511627776), be := (p0.p9 K).optV wBefore 0 } wc)
            case first =>
              cases hh : (p0.p9 K).hasB wBefore with
              | true =>
                have H4 := Lib.hid hh
                clear hh
                go_wp2_with fail
                refine (take_st STD.out).mono ?_
                rintro e w21 ⟨rfl, st21⟩
                rw [nxt_skip H4.out] at st21
                have ST21 := Lib.hid st21
                clear st21
                go_wp2_with fail
                refine (rnumber_st ST21.out).mono ?_
                rintro e w22 ⟨rfl, st22⟩
                have d1 := st22.met.c6
                have g1 := st22.met.fr 6
                have hs22 := st22.hs
                have st23 := st22.store 6 _ (st22.met.setBe ((p0.p9 K).skip wBefore).numV)
                have ST23 := Lib.hid st23
                clear ST21 st22 st23
                go_wp2_with fail
                go_meet
                have e1 : p0.p10 K = ((p0.p9 K).skip wBefore).num := if_pos H4.out
                have e2 : (p0.p9 K).optV wBefore 0 = ((p0.p9 K).skip wBefore).numV := if_pos H4.out
                rw [e1, e2]
                exact ST23.out
              | false =>
                have H4 := Lib.hid hh
                clear hh
                go_wp2_with fail
                go_meet
                have e1 : p0.p10 K = p0.p9 K := if_neg (by rw [H4.out]; exact Bool.noConfusion)
                have e2 : (p0.p9 K).optV wBefore 0 = 0 := if_neg (by rw [H4.out]; exact Bool.noConfusion)
                rw [e1, e2]
                exact STD.out
            case rest =>
              clear STD
              have hm : ({ Met.start with k := K, nm := nm, bl := p0.p3.toV K, wi := (p0.p5 K).numV, ca := (p0.p7 K).numV, le := (p0.p8 K).optV wLeast (-1099511627776), be := (p0.p9 K).optV wBefore 0 } : Met) = metOf p0 K := by
                unfold metOf
                rw [HNM.out]
              rw [hm] at hcut
              obtain ⟨m, hmm⟩ : ∃ m, metOf p0 K = m := ⟨_, rfl⟩
              obtain ⟨q, hq⟩ : ∃ q, p0.p10 K = q := ⟨_, rfl⟩
              rw [hmm, hq] at hcut
              have hans : parseM s = endOf q m := by
                unfold parseM
                rw [if_neg (by have := HS.out; omega), HL.out]
                show parseW l = _
                unfold parseW
                have e0 : nx l = name := by have := HN.out; rw [← HP.out] at this; exact this
                rw [e0, HK.out, HP.out, hmm, hq]
              have hkm : m.k = K := by rw [← hmm]; rfl
              have HMS := Lib.hid (show m.nm.size ≤ 200 ∧ m.bl.size ≤ 200 by have e := metOf_small l HSM.out K; rw [HP.out, hmm] at e; exact e)
              have HANS := Lib.hid (And.intro hans hkm)
              clear hm hmm hq hans HNM HN HK HP HL hkm
              have STE := Lib.hid hcut
              clear hcut
              have hR := STE.out.hR
              obtain ⟨r0, r1, r2, r3, r4, r5, r6, rf⟩ := STE.out.res
              have c0 := STE.out.met.c0
              obtain ⟨ad, c, iw⟩ := STE.out.words
              have s0 := iw.s0
              have s1 := iw.s1
              clear iw
              by_cases hk0 : m.k = 0
              · have hb0 : (m.k == 0) = true := by rw [hk0]; rfl
                have hend := Lib.hid (endOf_bad (q := q) (m := m) (.inr (.inl hk0)))
                clear hk0
                go_wp2_with fail
                exact bodyPost_ret (v := .tuple #[Met.zero.val, .int .i64 1]) (by simp [results, Tryd.results15, go_sem, Met.zero, Met.val, r0, r1, r2, r3, r4, r5, r6]) rfl ⟨by rw [HANS.out.1, hend.out], below_seven STE.out.below hR _ _ _ _ _ _ _⟩
              · have hb0 : (m.k == 0) = false := by simp [hk0]
                cases hbad : q.bad with
                | true =>
                  rw [hbad] at s1
                  have hend := Lib.hid (endOf_bad (q := q) (m := m) (.inl hbad))
                  clear hbad hk0
                  go_wp2_with fail
                  exact bodyPost_ret (v := .tuple #[Met.zero.val, .int .i64 1]) (by simp [results, Tryd.results15, go_sem, Met.zero, Met.val, r0, r1, r2, r3, r4, r5, r6]) rfl ⟨by rw [HANS.out.1, hend.out], below_seven STE.out.below hR _ _ _ _ _ _ _⟩
                | false =>
                  rw [hbad] at s1
                  cases hql : q.l with
                  | cons x t =>
                    rw [hql, List.length_cons] at s0
                    have hl1 : decide ((0 : Int) < (t.length : Int) + 1) = true := decide_eq_true (by omega)
                    have hend := Lib.hid (endOf_bad (q := q) (m := m) (.inr (.inr (by rw [hql]; exact List.cons_ne_nil _ _))))
                    clear hk0 hbad hql
                    go_wp2_with fail
                    exact bodyPost_ret (v := .tuple #[Met.zero.val, .int .i64 1]) (by simp [results, Tryd.results15, go_sem, Met.zero, Met.val, r0, r1, r2, r3, r4, r5, r6]) rfl ⟨by rw [HANS.out.1, hend.out], below_seven STE.out.below hR _ _ _ _ _ _ _⟩
                  | nil =>
                    rw [hql, List.length_nil] at s0
                    have hno : ¬ (q.bad = true ∨ m.k = 0 ∨ q.l ≠ []) := by
                      rintro (h | h | h)
                      · rw [hbad] at h; cases h
                      · exact hk0 h
                      · exact h hql
                    have HNO := Lib.hid hno
                    have c1 := STE.out.met.c1
                    have c2 := STE.out.met.c2
                    have c3 := STE.out.met.c3
                    have c4 := STE.out.met.c4
                    have c5 := STE.out.met.c5
                    have c6 := STE.out.met.c6
                    clear hno hk0 hbad hql
                    go_wp2_with fail
                    refine (refcheck_in m wc (by have := HMS.out.1; omega) (by have := HMS.out.2; omega)).mono ?_
                    rintro e w30 ⟨rfl, hb30⟩
                    have STF := Lib.hid (STE.out.over hb30)
                    clear hb30 r0 r1 r2 r3 r4 r5 r6 rf c0 c1 c2 c3 c4 c5 c6 s0 s1
                    obtain ⟨r0, r1, r2, r3, r4, r5, r6, rf⟩ := STF.out.res
                    obtain ⟨er, her⟩ : ∃ er, m.err = er := ⟨_, rfl⟩
                    rw [her]
                    have HE := Lib.hid her
                    clear her
                    by_cases he : er = 0
                    · have hne : (er != 0) = false := by rw [he]; rfl
                      have hend := Lib.hid (endOf_ok HNO.out (HE.out.trans he))
                      clear he
                      obtain ⟨c0, c1, c2, c3, c4, c5, c6, cf⟩ := STF.out.met
                      go_wp2_with fail
                      exact bodyPost_ret (v := .tuple #[m.val, .int .i64 0]) (by simp [results, Tryd.results15, go_sem, Met.val, r0, r1, r2, r3, r4, r5, r6]) rfl ⟨by rw [HANS.out.1, hend.out], below_seven STF.out.below hR _ _ _ _ _ _ _⟩
                    · have hne : (er != 0) = true := bne_iff_ne.2 he
                      have hend := Lib.hid (endOf_err HNO.out (fun h => he (HE.out.symm.trans h)))
                      clear he
                      go_wp2_with fail
                      exact bodyPost_ret (v := .tuple #[Met.zero.val, .int .i64 er]) (by simp [results, Tryd.results15, go_sem, Met.zero, Met.val, r0, r1, r2, r3, r4, r5, r6]) rfl ⟨by rw [HANS.out.1, hend.out, HE.out], below_seven STF.out.below hR _ _ _ _ _ _ _⟩

set_option maxRecDepth 100000 in
set_option maxHeartbeats 1600000 in
theorem refparse_long (s : ByteArray) (hs : 200 < s.size) (w : World) :
    Calls Tryd.prog 15 #[.string s] w fun e w' => e = .returned (.tuple #[Met.zero.val, .int .i64 4]) ∧ Below w.heap.size w w' := by
  have hd : decide ((200 : Int) < (s.size : Int)) = true := decide_eq_true (by omega)
  go_enter Tryd.func15, Tryd.ntmps15
  go_wp2_with fail
  exact bodyPost_ret (v := .tuple #[Met.zero.val, .int .i64 4]) (by simp [results, Tryd.results15, go_sem, Met.zero, Met.val]) rfl ⟨rfl, (Below.refl _ _).alloc (Nat.le_refl _) _⟩
/-- flagstoneref34.Parse. -/
theorem refparse_any (s : ByteArray) (w : World) :
    Calls Tryd.prog 15 #[.string s] w fun e w' => e = .returned (.tuple #[(parseM s).1.val, .int .i64 (parseM s).2]) ∧ Below w.heap.size w w' := by
  by_cases hs : s.size ≤ 200
  · exact refparse_calls s hs w
  · have e : parseM s = (.zero, 4) := if_pos (by omega)
    rw [e]
    exact refparse_long s (by omega) w
end Go.Proofs.YtbiolondnkeakaaDoor
