/- Plain laws: the reference's words, keys and texts are those of the plain functions. The reference's Check is that of the plain function. -/
import Derived.Test.YtbiolondnkeakaaDoorKey
import Derived.Test.YtbiolondnkeakaaDoorPTx2
import Derived.Test.YtbiolondnkeakaaDoorCheck
namespace Go.Proofs.YtbiolondnkeakaaDoor.Pure
open Go.RowKit Go.Proofs.YtbiolondnkeakaaDoor.PT Go.Proofs.YtbiolondnkeakaaDoorW.PrintWords Go.Proofs.YtbiolondnkeakaaDoorW.PrintLast Go.Proofs.YtbiolondnkeakaaDoorW.PrintMore Plain

theorem bt_nat (s : ByteArray) (i : Nat) (h : i < s.size) : bt s (i : Int) = ((s.get! i).toNat : Int) := by
  rw [get!_of s i h, ← bt_at s (i : Int) (by simpa using h)]
  simp
theorem wrap_succ {i : Nat} (h : i < 9223372036854775807) : wrap64 ((i : Int) + 1) = ((i + 1 : Nat) : Int) := by
  unfold wrap64
  omega

theorem word_l0 (s : ByteArray) (hs : s.size ≤ 9223372036854775807) (d : Nat) : ∀ (k i : Nat), i + d = s.size → wordTo s i → d < k → flagstoneref1_Word.l0 k s (i : Int) = some (wordB s) := by
  induction d with
  | zero =>
    intro k i hi ht hk
    obtain ⟨k, rfl⟩ : ∃ m, k = m + 1 := ⟨k - 1, by omega⟩
    rw [flagstoneref1_Word.l0, if_neg (by omega), wordB_all (k := i) (by omega) ht]
  | succ d ih =>
    intro k i hi ht hk
    obtain ⟨k, rfl⟩ : ∃ m, k = m + 1 := ⟨k - 1, by omega⟩
    have hlt : i < s.size := by omega
    rw [flagstoneref1_Word.l0, if_pos (by omega), if_pos (by omega), bt_nat s i hlt, wrap_succ (by omega)]
    by_cases hok : okAt i (s.get! i).toNat
    · have ht2 : wordTo s (i + 1) := by
        intro j hj
        by_cases e : j = i
        · subst e; exact okAt_byte.1 hok
        · exact ht j (by omega)
      have IH := ih k (i + 1) (by omega) ht2 (by omega)
      rw [IH]
      generalize (s.get! i).toNat = c at hok
      unfold okAt at hok
      repeat' split
      all_goals first | rfl | (exfalso; omega)
    · have hF : wordB s = false := decide_eq_false fun hw => hok (okAt_byte.2 (hw.2 i hlt))
      rw [hF]
      generalize flagstoneref1_Word.l0 k s ((i + 1 : Nat) : Int) = R
      generalize (s.get! i).toNat = c at hok
      unfold okAt at hok
      repeat' split
      all_goals first | rfl | (exfalso; omega)

theorem word_f (s : ByteArray) (k : Nat) (hs : s.size ≤ 9223372036854775807) (hk : s.size < k) : flagstoneref1_Word.f k s = some (wordB s) :=
  word_l0 s hs s.size k 0 (by omega) (wordTo_zero s) hk

theorem reserved_f : flagstoneref1_Reserved.f = some reservedB := by kernel_rfl

theorem key_l0 (s : ByteArray) (d : Nat) : ∀ (k i : Nat), i + d = 46 → (∀ j, j < i → reservedB.getD j ByteArray.empty ≠ s) → d < k →
    flagstoneref1_Key.l0 k s reservedB (i : Int) = some (!((reservedB.map fun r => r.data.toList).contains s.data.toList)) := by
  induction d with
  | zero =>
    intro k i hi hne hk
    obtain ⟨k, rfl⟩ : ∃ m, k = m + 1 := ⟨k - 1, by omega⟩
    obtain rfl : i = 46 := by omega
    rw [flagstoneref1_Key.l0, if_neg (by rw [reserved_length]; decide)]
    have := not_reserved hne
    rw [this]
    rfl
  | succ d ih =>
    intro k i hi hne hk
    obtain ⟨k, rfl⟩ : ∃ m, k = m + 1 := ⟨k - 1, by omega⟩
    rw [flagstoneref1_Key.l0, if_pos (by rw [reserved_length]; omega), if_pos (by omega), wrap_succ (by omega)]
    have hrd : rdOf ByteArray.empty reservedB (i : Int) = reservedB.getD i ByteArray.empty := by unfold rdOf; simp
    rw [hrd]
    by_cases e : reservedB.getD i ByteArray.empty = s
    · have hm : (reservedB.map fun r => r.data.toList).contains s.data.toList = true := by
        refine List.contains_iff_mem.2 (List.mem_map.2 ⟨s, ?_, rfl⟩)
        have hl : i < reservedB.length := by rw [reserved_length]; omega
        rw [List.getD_eq_getElem?_getD, List.getElem?_eq_getElem hl, Option.getD_some] at e
        rw [← e]
        exact List.getElem_mem hl
      rw [if_pos (by rw [e]), hm]
      rfl
    · rw [if_neg (fun h => e (by rw [Lib.toList_data, Lib.toList_data] at h; exact ByteArray.ext (Array.toList_inj.1 h)))]
      exact ih k (i + 1) (by omega) (fun j hj => by
        by_cases ej : j = i
        · subst ej; exact e
        · exact hne j (by omega)) (by omega)

theorem key_f (s : ByteArray) (k : Nat) (hs : s.size ≤ 9223372036854775807) (hk : s.size + 50 < k) : flagstoneref1_Key.f k s = some (keyB s) := by
  unfold flagstoneref1_Key.f
  rw [word_f s k hs (by omega)]
  simp only [Option.bind_some]
  obtain ⟨k, rfl⟩ : ∃ m, k = m + 1 := ⟨k - 1, by omega⟩
  cases hw : wordB s with
  | false =>
    rw [if_neg Bool.noConfusion, flagstoneref1_Key.j0, if_pos rfl, keyB_noword hw]
  | true =>
    rw [if_pos rfl, flagstoneref1_Key.j0]
    by_cases h32 : s.size ≤ 32
    · rw [if_neg (by simp; omega), reserved_f]
      simp only [Option.bind_some]
      rw [show (0 : Int) = ((0 : Nat) : Int) from rfl, key_l0 s 46 k 0 (by omega) (fun j h => absurd h (Nat.not_lt_zero j)) (by omega)]
      unfold keyB
      rw [hw, decide_eq_true h32]
      rfl
    · rw [if_pos (by simp; omega), keyB_long (by omega)]
end Go.Proofs.YtbiolondnkeakaaDoor.Pure
namespace Go.Proofs.YtbiolondnkeakaaDoor.Pure
open Go.RowKit Go.Proofs.YtbiolondnkeakaaDoor.PT Go.Proofs.YtbiolondnkeakaaDoorW.PrintWords Go.Proofs.YtbiolondnkeakaaDoorW.PrintLast Go.Proofs.YtbiolondnkeakaaDoorW.PrintMore Plain

theorem within_f (a b c : Int) : flagstoneref34_within.f a b c = some (decide (b ≤ a ∧ a ≤ c)) := by
  unfold flagstoneref34_within.f
  by_cases h : a ≥ b
  · rw [if_pos h]
    congr 1
    by_cases h2 : a ≤ c
    · rw [decide_eq_true h2, decide_eq_true ⟨h, h2⟩]
    · rw [decide_eq_false h2, decide_eq_false (fun e => h2 e.2)]
  · rw [if_neg h, decide_eq_false (fun e => h e.1)]

theorem check_j1 (a0 : Int) (a1 a2 : ByteArray) (a3 a4 a5 a6 : Int) (k : Nat) (bad : Bool) : flagstoneref34_Check.j1 (k + 1) (a0 == 4) bad a0 a1 a2 a3 a4 a5 a6 =
    some (if bad = true then 3 else if (a0 ≠ 4 ∧ a2 ≠ ⟨#[]⟩) ∨ (a0 = 3 ∧ a4 ≠ 1) then 15 else 0) := by
  rw [flagstoneref34_Check.j1]
  cases bad with
  | true => rw [if_pos rfl, if_pos rfl]
  | false =>
    rw [if_neg (show ¬ (false = true) from Bool.noConfusion), if_neg (show ¬ (false = true) from Bool.noConfusion)]
    by_cases h4 : a0 = 4
    · subst h4
      rw [if_pos (show ((4 : Int) == 4) = true from rfl), if_neg (show ¬ ((4 : Int) = 3) by decide), if_neg (show ¬ (((4 : Int) ≠ 4 ∧ a2 ≠ ⟨#[]⟩) ∨ ((4 : Int) = 3 ∧ a4 ≠ 1)) from by rintro (h | h); exact h.1 rfl; exact absurd h.1 (by decide))]
    · rw [if_neg (by simp [h4])]
      by_cases h2 : a2 = ⟨#[]⟩
      · rw [if_pos (bytes_nil.2 h2)]
        by_cases h3 : a0 = 3
        · rw [if_pos h3]
          by_cases hc : a4 = 1
          · rw [if_pos hc, if_neg (by rintro (h | h); exact h.2 h2; exact h.2 hc)]
          · rw [if_neg hc, if_pos (.inr ⟨h3, hc⟩)]
        · rw [if_neg h3, if_neg (by rintro (h | h); exact h.2 h2; exact h3 h.1)]
      · rw [if_neg (fun e => h2 (bytes_nil.1 e)), if_pos (.inl ⟨h4, h2⟩)]

theorem check_j0 (a0 : Int) (a1 a2 : ByteArray) (a3 a4 a5 a6 : Int) (k : Nat) (bad : Bool) : flagstoneref34_Check.j0 (k + 2) (a0 == 4) bad a0 a1 a2 a3 a4 a5 a6 =
    some (if bad = true then 6 else if a3 < 1 ∨ a3 > 68719476736 ∨ a4 < 1 ∨ a4 > 1048576 ∨ a5 < -1099511627776 ∨ a5 > 1099511627776 ∨ a6 < 0 ∨ a6 > 68719476736 then 3
      else if (a0 ≠ 4 ∧ a2 ≠ ⟨#[]⟩) ∨ (a0 = 3 ∧ a4 ≠ 1) then 15 else 0) := by
  rw [flagstoneref34_Check.j0]
  cases bad with
  | true => rw [if_pos rfl, if_pos rfl]
  | false =>
    rw [if_neg (show ¬ (false = true) from Bool.noConfusion), if_neg (show ¬ (false = true) from Bool.noConfusion)]
    simp only [within_f, Option.bind_some, check_j1, decide_eq_true_eq]
    by_cases q3 : 1 ≤ a3 ∧ a3 ≤ 68719476736
    · rw [if_pos q3]
      by_cases q4 : 1 ≤ a4 ∧ a4 ≤ 1048576
      · rw [if_pos q4]
        by_cases q5 : -1099511627776 ≤ a5 ∧ a5 ≤ 1099511627776
        · rw [if_pos q5]
          by_cases q6 : 0 ≤ a6 ∧ a6 ≤ 68719476736
          · rw [decide_eq_true q6, if_neg (by decide), if_neg (show ¬ (a3 < 1 ∨ a3 > 68719476736 ∨ a4 < 1 ∨ a4 > 1048576 ∨ a5 < -1099511627776 ∨ a5 > 1099511627776 ∨ a6 < 0 ∨ a6 > 68719476736) by omega)]
          · rw [decide_eq_false q6, if_pos (by decide), if_pos (show (a3 < 1 ∨ a3 > 68719476736 ∨ a4 < 1 ∨ a4 > 1048576 ∨ a5 < -1099511627776 ∨ a5 > 1099511627776 ∨ a6 < 0 ∨ a6 > 68719476736) by omega)]
        · rw [if_neg q5, if_pos trivial, if_pos (show (a3 < 1 ∨ a3 > 68719476736 ∨ a4 < 1 ∨ a4 > 1048576 ∨ a5 < -1099511627776 ∨ a5 > 1099511627776 ∨ a6 < 0 ∨ a6 > 68719476736) by omega)]
      · rw [if_neg q4, if_pos trivial, if_pos (show (a3 < 1 ∨ a3 > 68719476736 ∨ a4 < 1 ∨ a4 > 1048576 ∨ a5 < -1099511627776 ∨ a5 > 1099511627776 ∨ a6 < 0 ∨ a6 > 68719476736) by omega)]
    · rw [if_neg q3, if_pos trivial, if_pos (show (a3 < 1 ∨ a3 > 68719476736 ∨ a4 < 1 ∨ a4 > 1048576 ∨ a5 < -1099511627776 ∨ a5 > 1099511627776 ∨ a6 < 0 ∨ a6 > 68719476736) by omega)]

/-- The reference's Check. -/
theorem check_f (a0 : Int) (a1 a2 : ByteArray) (a3 a4 a5 a6 : Int) (k : Nat) (h1 : a1.size ≤ 9223372036854775807) (h2 : a2.size ≤ 9223372036854775807) (hk : a1.size + a2.size + 60 < k) :
    flagstoneref34_Check.f k a0 a1 a2 a3 a4 a5 a6 = some (checkP a0 a1 a2 a3 a4 a5 a6) := by
  obtain ⟨k, rfl⟩ : ∃ m, k = m + 2 := ⟨k - 2, by omega⟩
  unfold flagstoneref34_Check.f
  rw [within_f]
  simp only [Option.bind_some, decide_eq_true_eq]
  unfold checkP
  by_cases hn : 1 ≤ a0 ∧ a0 ≤ 4
  · rw [if_pos hn, if_neg (show ¬ ¬ (1 ≤ a0 ∧ a0 ≤ 4) from fun h => h hn), key_f a1 _ h1 (by omega)]
    simp only [Option.bind_some]
    cases k1 : keyB a1 with
    | false => rw [if_neg (show ¬ (false = true) from Bool.noConfusion), check_j0, if_pos rfl, if_pos (show false = false ∨ (a0 = 4 ∧ keyB a2 = false) from .inl rfl)]
    | true =>
      rw [if_pos rfl]
      by_cases h4 : a0 = 4
      · rw [if_pos h4, key_f a2 _ h2 (by omega)]
        simp only [Option.bind_some]
        rw [check_j0]
        cases k2 : keyB a2 with
        | false => rw [if_pos (show (!false) = true from rfl), if_pos (show true = false ∨ (a0 = 4 ∧ false = false) from .inr ⟨h4, rfl⟩)]
        | true => rw [if_neg (show ¬ ((!true) = true) by decide), if_neg (show ¬ (true = false ∨ (a0 = 4 ∧ true = false)) from by rintro (h | h); cases h; cases h.2)]
      · rw [if_neg h4, check_j0, if_neg (show ¬ (false = true) from Bool.noConfusion), if_neg (show ¬ (true = false ∨ (a0 = 4 ∧ keyB a2 = false)) from by rintro (h | h); cases h; exact h4 h.1)]
  · rw [if_neg hn, if_pos hn]
end Go.Proofs.YtbiolondnkeakaaDoor.Pure
