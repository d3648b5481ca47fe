/- The plain law of TextKeys: the program and the reference agree on each of the six texts. -/
import Derived.Test.YtndgmcifagipjaaDoorPureA
namespace Go.Proofs.YtndgmcifagipjaaDoor.Pure
open Go.RowKit Go.Proofs.YtndgmcifagipjaaDoor.PT Go.Proofs.YtndgmcifagipjaaDoorW.PrintWords Go.Proofs.YtndgmcifagipjaaDoorW.PrintLast Go.Proofs.YtndgmcifagipjaaDoorW.PrintMore Plain

theorem encode_size (n : Int) : (Utf8.encode n).size ≤ 4 := by
  unfold Utf8.encode
  dsimp only
  generalize (if Utf8.valid n = true then n.toNat else Utf8.runeError) = c
  by_cases h1 : c < 0x80
  · rw [if_pos h1]; exact (show 1 ≤ 4 by omega)
  · rw [if_neg h1]
    by_cases h2 : c < 0x800
    · rw [if_pos h2]; exact (show 2 ≤ 4 by omega)
    · rw [if_neg h2]
      by_cases h3 : c < 0x10000
      · rw [if_pos h3]; exact (show 3 ≤ 4 by omega)
      · rw [if_neg h3]; exact (show 4 ≤ 4 by omega)

theorem keys_l1 (l : List ByteArray) (M : Nat) (hM : M ≤ 9223372036854775000) (hl : ∀ s ∈ l, s.size ≤ M) (hn : l.length ≤ 100) (d : Nat) : ∀ (k i : Nat), i + d = l.length → M + 60 + d < k → flagstonelaw1_TextKeys.l1 k l (i : Int) = some true := by
  induction d with
  | zero =>
    intro k i hi hk
    obtain ⟨k, rfl⟩ : ∃ m, k = m + 1 := ⟨k - 1, by omega⟩
    rw [flagstonelaw1_TextKeys.l1, if_neg (by omega)]
  | succ d ih =>
    intro k i hi hk
    obtain ⟨k, rfl⟩ : ∃ m, k = m + 1 := ⟨k - 1, by omega⟩
    have hlt : i < l.length := by omega
    rw [flagstonelaw1_TextKeys.l1, if_pos (by omega), if_pos (by omega), wrap_succ (by omega)]
    have hrd : rdOf ByteArray.empty l (i : Int) = l[i] := by unfold rdOf; simp [hlt]
    rw [hrd]
    have hs := hl _ (List.getElem_mem hlt)
    rw [key_f l[i] k (by omega) (by omega)]
    unfold text_Key.f
    simp only [Option.bind_some, bne_self_eq_false]
    rw [if_neg Bool.noConfusion]
    exact ih k (i + 1) (by omega) (by omega)

theorem keys_l0 (x0 : ByteArray) (x1 : Nat) (x2 : Int) (h0 : x0.size ≤ 140737488351232) (h1 : x1 ≤ 40) (d : Nat) : ∀ (k i : Nat) (x7 : ByteArray), i + d = x1 → x7.size ≤ 4 * i → 140737488360000 + d < k →
    flagstonelaw1_TextKeys.l0 k x0 (x1 : Int) x2 x7 (i : Int) = some true := by
  induction d with
  | zero =>
    intro k i x7 hi hx hk
    obtain ⟨k, rfl⟩ : ∃ m, k = m + 1 := ⟨k - 1, by omega⟩
    have he := encode_size (wrap32 x2)
    rw [flagstonelaw1_TextKeys.l0, if_neg (by omega), if_pos (by omega), if_pos (by omega), if_pos (by omega), if_pos (by omega)]
    refine keys_l1 _ 140737488352000 (by decide) ?_ (by simp) 6 k 0 (by simp) (by omega)
    intro s hs
    simp only [List.mem_cons, List.not_mem_nil, or_false] at hs
    have a1 : (⟨#[97]⟩ : ByteArray).size = 1 := rfl
    have a2 : (⟨#[48]⟩ : ByteArray).size = 1 := rfl
    rcases hs with rfl | rfl | rfl | rfl | rfl | rfl <;> (try rw [ByteArray.size_append]) <;> omega
  | succ d ih =>
    intro k i x7 hi hx hk
    obtain ⟨k, rfl⟩ : ∃ m, k = m + 1 := ⟨k - 1, by omega⟩
    have he := encode_size (wrap32 (wrap64 (97 + (Int.tmod (i : Int) 26))))
    rw [flagstonelaw1_TextKeys.l0, if_pos (by omega), if_pos (by omega), wrap_succ (by omega)]
    exact ih k (i + 1) _ (by omega) (by rw [ByteArray.size_append]; omega) (by omega)

theorem TextKeys : flagstonelaw1_TextKeys.Pure := by
  intro a0 a1 a2 h0 h1 h2
  refine ⟨140737488370000, ?_⟩
  unfold flagstonelaw1_TextKeys.f
  rw [awake_true]
  simp only [Option.bind_some, if_true]
  have hn : ∃ n : Nat, Int.tmod (wrap64 (Int.tmod a1 40 + 40)) 40 = (n : Int) ∧ n ≤ 40 := by
    have hm : -40 < Int.tmod a1 40 ∧ Int.tmod a1 40 < 40 := by
      constructor
      · have := Int.lt_tmod_of_pos a1 (b := 40) (by decide); omega
      · exact Int.tmod_lt_of_pos a1 (by decide)
    generalize Int.tmod a1 40 = m at hm
    have hw : wrap64 (m + 40) = m + 40 := by unfold wrap64; omega
    rw [hw, Int.tmod_eq_emod_of_nonneg (by omega)]
    exact ⟨((m + 40) % 40).toNat, by omega, by omega⟩
  obtain ⟨n, hn, hn2⟩ := hn
  rw [hn]
  exact keys_l0 a0 n a2 h0 hn2 n _ 0 _ (by omega) (by decide) (by omega)
end Go.Proofs.YtndgmcifagipjaaDoor.Pure
