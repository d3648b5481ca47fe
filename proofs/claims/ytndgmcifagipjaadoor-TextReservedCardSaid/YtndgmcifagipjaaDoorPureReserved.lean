/- The plain law of TextReserved. -/
import Derived.Test.YtndgmcifagipjaaDoorPureValid
import Derived.Test.YtndgmcifagipjaaDoorPTx6
namespace Go.Proofs.YtndgmcifagipjaaDoor.Pure
open Go.RowKit Go.Proofs.YtndgmcifagipjaaDoor.PT Go.Proofs.YtndgmcifagipjaaDoorW.PrintWords Go.Proofs.YtndgmcifagipjaaDoorW.PrintLast Go.Proofs.YtndgmcifagipjaaDoorW.PrintMore Plain

theorem same_l0 (l : List ByteArray) (hn : l.length ≤ 1000) (d : Nat) : ∀ (k i : Nat), i + d = l.length → d < k → flagstoneref1_Same.l0 k l l (i : Int) = some true := by
  induction d with
  | zero =>
    intro k i hi hk
    obtain ⟨k, rfl⟩ : ∃ m, k = m + 1 := ⟨k - 1, by omega⟩
    rw [flagstoneref1_Same.l0, if_neg (by omega)]
  | succ d ih =>
    intro k i hi hk
    obtain ⟨k, rfl⟩ : ∃ m, k = m + 1 := ⟨k - 1, by omega⟩
    rw [flagstoneref1_Same.l0, if_pos (by omega), if_pos (by omega), if_pos (by omega), if_pos rfl, wrap_succ (by omega)]
    exact ih k (i + 1) (by omega) (by omega)

/-- What the law says of place i, reckoned at all 46. -/
def at46 (i : Nat) : Bool :=
  let m := reservedB
  !(keyB (m.getD i ByteArray.empty)) && decide ((m.getD i ByteArray.empty).size ≤ 100) && (decide (i = 0) || Op.bytesLess (m.getD (i - 1) ByteArray.empty).data.toList (m.getD i ByteArray.empty).data.toList)
set_option maxRecDepth 100000 in
theorem all46 : (List.range 46).all at46 = true := by decide +kernel

theorem TextReserved : flagstonelaw1_TextReserved.Pure := by
  intro a0 h0
  refine ⟨1000, ?_⟩
  unfold flagstonelaw1_TextReserved.f
  rw [awake_true]
  simp only [Option.bind_some, if_true]
  unfold text_Reserved.f
  rw [reserved_f]
  simp only [Option.bind_some]
  have hsame : flagstoneref1_Same.f 1000 reservedB reservedB = some true := by
    unfold flagstoneref1_Same.f
    rw [if_pos rfl]
    exact same_l0 reservedB (by decide) 46 1000 0 (by decide) (by decide)
  rw [hsame]
  simp only [Option.bind_some, if_true]
  have hlen : (reservedB.length : Int) = 46 := by rw [reserved_length]; rfl
  rw [hlen]
  obtain ⟨n, hn, hn2⟩ := tmod_range a0 46 (by decide) (by decide)
  rw [hn]
  have h46 := List.all_eq_true.1 all46 n (List.mem_range.2 (by omega))
  unfold at46 at h46
  simp only [Bool.and_eq_true, Bool.or_eq_true, decide_eq_true_eq, Bool.not_eq_true'] at h46
  obtain ⟨⟨hk, hsz⟩, hor⟩ := h46
  have e : ∀ j : Nat, rdOf ByteArray.empty reservedB (j : Int) = reservedB.getD j ByteArray.empty := fun j => by unfold rdOf; simp
  rw [if_neg (by decide), if_pos (by omega), if_pos (by omega), e]
  unfold text_Key.f
  simp only [Option.bind_some]
  rw [hk, if_neg Bool.noConfusion, if_pos (by omega)]
  have hs1 : (⟨#[115]⟩ : ByteArray).size = 1 := rfl
  have hs2 : (reservedB.getD n ByteArray.empty ++ (⟨#[115]⟩ : ByteArray)).size ≤ 200 := by rw [ByteArray.size_append, hs1]; omega
  rw [key_f _ 1000 (by omega) (by omega)]
  simp only [Option.bind_some, beq_self_eq_true, if_true]
  by_cases h0n : n = 0
  · rw [if_pos (by omega)]
  · have hw : wrap64 ((n : Int) - 1) = ((n - 1 : Nat) : Int) := by unfold wrap64; omega
    rw [if_neg (by omega), hw, if_pos (by omega), if_pos (by omega), e, Lib.toList_data, Lib.toList_data]
    rcases hor with h | h
    · exact absurd h h0n
    · rw [h]
end Go.Proofs.YtndgmcifagipjaaDoor.Pure
