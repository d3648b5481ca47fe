/- The plain law of TextValid. -/
import Derived.Test.YtndgmcifagipjaaDoorPureKeys
import Derived.Test.YtndgmcifagipjaaDoorPTx3
namespace Go.Proofs.YtndgmcifagipjaaDoor.Pure
open Go.RowKit Go.Proofs.YtndgmcifagipjaaDoor.PT Go.Proofs.YtndgmcifagipjaaDoorW.PrintWords Go.Proofs.YtndgmcifagipjaaDoorW.PrintLast Go.Proofs.YtndgmcifagipjaaDoorW.PrintMore Plain

theorem valid_l1 (l : List ByteArray) (hl : ∀ s ∈ l, s.size ≤ 9223372036854775807) (hn : l.length ≤ 100) (d : Nat) : ∀ (k i : Nat), i + d = l.length → 300 + d < k → flagstonelaw1_TextValid.l1 k l (i : Int) = some true := by
  induction d with
  | zero =>
    intro k i hi hk
    obtain ⟨k, rfl⟩ : ∃ m, k = m + 1 := ⟨k - 1, by omega⟩
    rw [flagstonelaw1_TextValid.l1, if_neg (by omega)]
  | succ d ih =>
    intro k i hi hk
    obtain ⟨k, rfl⟩ : ∃ m, k = m + 1 := ⟨k - 1, by omega⟩
    have hlt : i < l.length := by omega
    rw [flagstonelaw1_TextValid.l1, if_pos (by omega), if_pos (by omega), wrap_succ (by omega)]
    have hrd : rdOf ByteArray.empty l (i : Int) = l[i] := by unfold rdOf; simp [hlt]
    rw [hrd]
    have hs := hl _ (List.getElem_mem hlt)
    rw [valid_f l[i] k hs (by omega)]
    unfold text_Valid.f
    rw [if_pos hs]
    simp only [Option.bind_some, bne_self_eq_false]
    rw [if_neg Bool.noConfusion]
    exact ih k (i + 1) (by omega) (by omega)

theorem valid_l0x (x0 : ByteArray) (x1 : Nat) (x2 : Int) (h0 : x0.size ≤ 140737488351232) (h1 : x1 ≤ 7) (d : Nat) : ∀ (k : Nat) (x7 : ByteArray), x7.size + d = 197 + x1 → 400 + d < k →
    flagstonelaw1_TextValid.l0 k x0 (x1 : Int) x2 x7 = some true := by
  have hw : wrap64 (197 + (x1 : Int)) = ((197 + x1 : Nat) : Int) := by rw [show (197 + (x1 : Int)) = ((197 + x1 : Nat) : Int) by omega]; unfold wrap64; omega
  induction d with
  | zero =>
    intro k x7 hx hk
    obtain ⟨k, rfl⟩ : ∃ m, k = m + 1 := ⟨k - 1, by omega⟩
    have hst : (strOfNums [x2]).size = 1 := rfl
    have hex : (x7.extract 0 190).size = 190 := by rw [ByteArray.size_extract]; omega
    rw [flagstonelaw1_TextValid.l0, hw, if_neg (by omega)]
    simp only [Option.bind_some]
    rw [if_pos (by rw [hst]; omega), if_pos (by decide), if_pos (by omega), if_pos (by rw [hex]; omega)]
    refine valid_l1 _ ?_ (by simp) 4 k 0 (by simp) (by omega)
    intro s hs
    simp only [List.mem_cons, List.not_mem_nil, or_false] at hs
    rcases hs with rfl | rfl | rfl | rfl
    · omega
    · omega
    · rw [ByteArray.size_append, hst]; omega
    · rw [ByteArray.size_append, hex]; omega
  | succ d ih =>
    intro k x7 hx hk
    obtain ⟨k, rfl⟩ : ∃ m, k = m + 1 := ⟨k - 1, by omega⟩
    have he : (⟨#[120]⟩ : ByteArray).size = 1 := rfl
    rw [flagstonelaw1_TextValid.l0, hw, if_pos (by omega), if_pos (by omega)]
    exact ih k _ (by rw [ByteArray.size_append, he]; omega) (by omega)

theorem tmod_range (a : Int) (m : Int) (h : 0 < m) (h2 : m ≤ 1000) : ∃ n : Nat, Int.tmod (wrap64 (Int.tmod a m + m)) m = (n : Int) ∧ (n : Int) < m := by
  have hm : -m < Int.tmod a m ∧ Int.tmod a m < m := ⟨by have := Int.lt_tmod_of_pos a h; omega, Int.tmod_lt_of_pos a h⟩
  generalize Int.tmod a m = r at hm
  have hw : wrap64 (r + m) = r + m := by unfold wrap64; omega
  rw [hw, Int.tmod_eq_emod_of_nonneg (by omega)]
  have h3 := Int.emod_nonneg (r + m) (show m ≠ 0 by omega)
  have h4 := Int.emod_lt_of_pos (r + m) h
  exact ⟨((r + m) % m).toNat, by omega, by omega⟩

theorem TextValid : flagstonelaw1_TextValid.Pure := by
  intro a0 a1 a2 h0 h1 h2
  refine ⟨1000, ?_⟩
  unfold flagstonelaw1_TextValid.f
  rw [awake_true]
  simp only [Option.bind_some, if_true]
  obtain ⟨n, hn, hn2⟩ := tmod_range a1 7 (by decide) (by decide)
  rw [hn]
  exact valid_l0x a0 n a2 h0 (by omega) (197 + n) _ _ (by rw [show (⟨#[]⟩ : ByteArray).size = 0 from rfl]; omega) (by omega)
end Go.Proofs.YtndgmcifagipjaaDoor.Pure
