/- Plain laws: the reference's words, keys and texts are those of the plain functions. -/
import Derived.Test.YtndgmcifagipjaaDoorPTx1
import Derived.Test.YtndgmcifagipjaaDoorPTx2
namespace Go.Proofs.YtndgmcifagipjaaDoor.Pure
open Go.RowKit Go.Proofs.YtndgmcifagipjaaDoor.PT Go.Proofs.YtndgmcifagipjaaDoorW.PrintWords Go.Proofs.YtndgmcifagipjaaDoorW.PrintLast Go.Proofs.YtndgmcifagipjaaDoorW.PrintMore Plain

theorem bt_nat (s : ByteArray) (i : Nat) (h : i < s.size) : bt s (i : Int) = ((s.get! i).toNat : Int) := by
  rw [get!_of s i h, ← bt_at s (i : Int) (by simpa using h)]
  simp
theorem wrap_succ {i : Nat} (h : i < 9223372036854775807) : wrap64 ((i : Int) + 1) = ((i + 1 : Nat) : Int) := by
  unfold wrap64
  omega

theorem word_l0 (s : ByteArray) (hs : s.size ≤ 9223372036854775807) (d : Nat) : ∀ (k i : Nat), i + d = s.size → wordTo s i → d < k → flagstoneref1_Word.l0 k s (i : Int) = some (wordB s) := by
  induction d with
  | zero =>
    intro k i hi ht hk
    obtain ⟨k, rfl⟩ : ∃ m, k = m + 1 := ⟨k - 1, by omega⟩
    rw [flagstoneref1_Word.l0, if_neg (by omega), wordB_all (k := i) (by omega) ht]
  | succ d ih =>
    intro k i hi ht hk
    obtain ⟨k, rfl⟩ : ∃ m, k = m + 1 := ⟨k - 1, by omega⟩
    have hlt : i < s.size := by omega
    rw [flagstoneref1_Word.l0, if_pos (by omega), if_pos (by omega), bt_nat s i hlt, wrap_succ (by omega)]
    by_cases hok : okAt i (s.get! i).toNat
    · have ht2 : wordTo s (i + 1) := by
        intro j hj
        by_cases e : j = i
        · subst e; exact okAt_byte.1 hok
        · exact ht j (by omega)
      have IH := ih k (i + 1) (by omega) ht2 (by omega)
      rw [IH]
      generalize (s.get! i).toNat = c at hok
      unfold okAt at hok
      repeat' split
      all_goals first | rfl | (exfalso; omega)
    · have hF : wordB s = false := decide_eq_false fun hw => hok (okAt_byte.2 (hw.2 i hlt))
      rw [hF]
      generalize flagstoneref1_Word.l0 k s ((i + 1 : Nat) : Int) = R
      generalize (s.get! i).toNat = c at hok
      unfold okAt at hok
      repeat' split
      all_goals first | rfl | (exfalso; omega)

theorem word_f (s : ByteArray) (k : Nat) (hs : s.size ≤ 9223372036854775807) (hk : s.size < k) : flagstoneref1_Word.f k s = some (wordB s) :=
  word_l0 s hs s.size k 0 (by omega) (wordTo_zero s) hk

theorem reserved_f : flagstoneref1_Reserved.f = some reservedB := by kernel_rfl

theorem key_l0 (s : ByteArray) (d : Nat) : ∀ (k i : Nat), i + d = 46 → (∀ j, j < i → reservedB.getD j ByteArray.empty ≠ s) → d < k →
    flagstoneref1_Key.l0 k s reservedB (i : Int) = some (!((reservedB.map fun r => r.data.toList).contains s.data.toList)) := by
  induction d with
  | zero =>
    intro k i hi hne hk
    obtain ⟨k, rfl⟩ : ∃ m, k = m + 1 := ⟨k - 1, by omega⟩
    obtain rfl : i = 46 := by omega
    rw [flagstoneref1_Key.l0, if_neg (by rw [reserved_length]; decide)]
    have := not_reserved hne
    rw [this]
    rfl
  | succ d ih =>
    intro k i hi hne hk
    obtain ⟨k, rfl⟩ : ∃ m, k = m + 1 := ⟨k - 1, by omega⟩
    rw [flagstoneref1_Key.l0, if_pos (by rw [reserved_length]; omega), if_pos (by omega), wrap_succ (by omega)]
    have hrd : rdOf ByteArray.empty reservedB (i : Int) = reservedB.getD i ByteArray.empty := by unfold rdOf; simp
    rw [hrd]
    by_cases e : reservedB.getD i ByteArray.empty = s
    · have hm : (reservedB.map fun r => r.data.toList).contains s.data.toList = true := by
        refine List.contains_iff_mem.2 (List.mem_map.2 ⟨s, ?_, rfl⟩)
        have hl : i < reservedB.length := by rw [reserved_length]; omega
        rw [List.getD_eq_getElem?_getD, List.getElem?_eq_getElem hl, Option.getD_some] at e
        rw [← e]
        exact List.getElem_mem hl
      rw [if_pos (by rw [e]), hm]
      rfl
    · rw [if_neg (fun h => e (by rw [Lib.toList_data, Lib.toList_data] at h; exact ByteArray.ext (Array.toList_inj.1 h)))]
      exact ih k (i + 1) (by omega) (fun j hj => by
        by_cases ej : j = i
        · subst ej; exact e
        · exact hne j (by omega)) (by omega)

theorem key_f (s : ByteArray) (k : Nat) (hs : s.size ≤ 9223372036854775807) (hk : s.size + 50 < k) : flagstoneref1_Key.f k s = some (keyB s) := by
  unfold flagstoneref1_Key.f
  rw [word_f s k hs (by omega)]
  simp only [Option.bind_some]
  obtain ⟨k, rfl⟩ : ∃ m, k = m + 1 := ⟨k - 1, by omega⟩
  cases hw : wordB s with
  | false =>
    rw [if_neg Bool.noConfusion, flagstoneref1_Key.j0, if_pos rfl, keyB_noword hw]
  | true =>
    rw [if_pos rfl, flagstoneref1_Key.j0]
    by_cases h32 : s.size ≤ 32
    · rw [if_neg (by simp; omega), reserved_f]
      simp only [Option.bind_some]
      rw [show (0 : Int) = ((0 : Nat) : Int) from rfl, key_l0 s 46 k 0 (by omega) (fun j h => absurd h (Nat.not_lt_zero j)) (by omega)]
      unfold keyB
      rw [hw, decide_eq_true h32]
      rfl
    · rw [if_pos (by simp; omega), keyB_long (by omega)]

theorem valid_l0 (s : ByteArray) (hs : s.size ≤ 200) (hv : Lib.validD s.data.toList = true) (d : Nat) : ∀ (k i : Nat), i + d = s.size → plainTo s i → d < k → flagstoneref1_Valid.l0 k s (i : Int) = some (validB s) := by
  induction d with
  | zero =>
    intro k i hi ht hk
    obtain ⟨k, rfl⟩ : ∃ m, k = m + 1 := ⟨k - 1, by omega⟩
    rw [flagstoneref1_Valid.l0, if_neg (by omega), validB_end (pos := i) (by omega) ht hs hv]
  | succ d ih =>
    intro k i hi ht hk
    obtain ⟨k, rfl⟩ : ∃ m, k = m + 1 := ⟨k - 1, by omega⟩
    have hlt : i < s.size := by omega
    rw [flagstoneref1_Valid.l0, if_pos (by omega), if_pos (by omega), bt_nat s i hlt, wrap_succ (by omega)]
    by_cases h1 : (s.get! i).toNat < 32
    · rw [if_pos (by omega), show validB s = false from decide_eq_false fun hv => by have := hv.2.2 i hlt; omega]
    · rw [if_neg (by omega)]
      by_cases h2 : (s.get! i).toNat = 127
      · rw [if_pos (by omega), show validB s = false from decide_eq_false fun hv => by have := hv.2.2 i hlt; omega]
      · rw [if_neg (by omega)]
        exact ih k (i + 1) (by omega) (fun j hj => by
          by_cases ej : j = i
          · subst ej; omega
          · exact ht j (by omega)) (by omega)
theorem valid_f (s : ByteArray) (k : Nat) (hs : s.size ≤ 9223372036854775807) (hk : 202 < k) : flagstoneref1_Valid.f k s = some (validB s) := by
  obtain ⟨k, rfl⟩ : ∃ m, k = m + 1 := ⟨k - 1, by omega⟩
  unfold flagstoneref1_Valid.f
  by_cases h : s.size ≤ 200
  · rw [if_neg (by omega)]
    unfold utf8_ValidString.f
    rw [if_pos hs]
    simp only [Option.bind_some]
    rw [flagstoneref1_Valid.j0]
    cases hv : Lib.validD s.data.toList with
    | true =>
      rw [if_neg Bool.noConfusion]
      exact valid_l0 s h hv s.size k 0 (by omega) (fun j h => absurd h (Nat.not_lt_zero j)) (by omega)
    | false => rw [Bool.not_false, if_pos rfl, validB_no hv]
  · rw [if_pos (by omega), flagstoneref1_Valid.j0, if_pos rfl, validB_long h]

set_option maxRecDepth 100000 in
theorem awake_true : flagstonelaw1_awake.f = some true := by decide +kernel
end Go.Proofs.YtndgmcifagipjaaDoor.Pure
