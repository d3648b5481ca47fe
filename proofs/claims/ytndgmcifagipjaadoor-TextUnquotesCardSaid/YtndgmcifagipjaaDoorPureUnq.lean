/- The reference reads a quoted text as the program does; and what is read quotes to the same text. -/
import Derived.Test.YtndgmcifagipjaaDoorPureQuotes
import Derived.Test.YtndgmcifagipjaaDoorPTx8
namespace Go.Proofs.YtndgmcifagipjaaDoor.Pure
open Go.RowKit Go.Proofs.YtndgmcifagipjaaDoor.PT Go.Proofs.YtndgmcifagipjaaDoorW.PrintWords Go.Proofs.YtndgmcifagipjaaDoorW.PrintLast Go.Proofs.YtndgmcifagipjaaDoorW.PrintMore Plain

/-- What is returned for what has been read. -/
def finU (U : Option (List UInt8)) : ByteArray × Int :=
  match U with
  | none => (⟨#[]⟩, 1)
  | some l => if validB ⟨l.toArray⟩ = true then (⟨l.toArray⟩, 0) else (⟨#[]⟩, 2)

theorem middle_size (s : ByteArray) (h : 2 ≤ s.size) : (middle s).size = s.size - 2 := by
  unfold middle; rw [ByteArray.size_extract]; omega
theorem extract_get (s : ByteArray) (a b j : Nat) (hj : j < (s.extract a b).size) (hj2 : j + a < s.size) : (s.extract a b)[j] = s[j + a] := by
  rw [ByteArray.getElem_extract]
  simp only [Nat.add_comm]
theorem middle_get (s : ByteArray) (_h : 2 ≤ s.size) (j : Nat) (hj : j < (middle s).size) (hj2 : j + 1 < s.size) : (middle s)[j] = s[j + 1] := extract_get s 1 (s.size - 1) j hj hj2
theorem ne34 {c : UInt8} (h : ¬ c = 34) : ¬ ((c.toNat : Int) = 34) := fun e => h (UInt8.toNat_inj.1 (by have : (34 : UInt8).toNat = 34 := rfl; omega))
theorem ne92 {c : UInt8} (h : ¬ c = 92) : ¬ ((c.toNat : Int) = 92) := fun e => h (UInt8.toNat_inj.1 (by have : (92 : UInt8).toNat = 92 := rfl; omega))

theorem unquote_l0 (s : ByteArray) (h2 : 2 ≤ s.size) (hs : s.size ≤ 140737488355328) : ∀ (d k i : Nat) (acc : List UInt8) (U : Option (List UInt8)), i + d = (middle s).size → 300 + d < k → acc.length ≤ i →
    U = (unq ((middle s).data.toList.drop i) false).map (acc ++ ·) → flagstoneref1_Unquote.l0 k s (s.size : Int) (nat8 acc) ((i + 1 : Nat) : Int) = some (finU U) := by
  intro d
  induction d using Nat.strongRecOn with
  | ind d ih =>
    intro k i acc U hi hk ha hU
    obtain ⟨k, rfl⟩ : ∃ m, k = m + 1 := ⟨k - 1, by omega⟩
    have hM := middle_size s h2
    have hw : wrap64 ((s.size : Int) - 1) = ((s.size - 1 : Nat) : Int) := by unfold wrap64; omega
    have hnl : (nat8 acc).length < 140737488355328 := by rw [nat8_length]; omega
    rw [flagstoneref1_Unquote.l0, hw]
    by_cases hlt : i < (middle s).size
    · have hlt1 : i + 1 < s.size := by omega
      rw [if_pos (by omega), if_pos (by omega), if_pos (by omega), bt_nat s (i + 1) hlt1, get!_of s (i + 1) hlt1]
      have hg := middle_get s h2 i hlt hlt1
      by_cases h34 : s[i + 1] = 34
      · rw [if_pos (by rw [h34]; rfl), unq_stop hlt hU (.inr ⟨rfl, hg.trans h34⟩)]
        rfl
      · rw [if_neg (ne34 h34)]
        by_cases h92 : s[i + 1] = 92
        · have hU2 := unq_slash hlt hU (hg.trans h92)
          rw [if_pos (by rw [h92]; rfl), wrap_succ (by omega)]
          by_cases hl2 : i + 1 < (middle s).size
          · have hlt2 : i + 1 + 1 < s.size := by omega
            have hg2 := middle_get s h2 (i + 1) hl2 hlt2
            have ec : nat8 acc ++ [(s[i + 1 + 1].toNat : Int)] = nat8 (acc ++ [s[i + 1 + 1]]) := by rw [nat8_append]; rfl
            rw [if_neg (by omega), if_pos (by omega), if_pos (by omega), bt_nat s (i + 1 + 1) hlt2, get!_of s (i + 1 + 1) hlt2, wrap_succ (by omega), if_pos hnl, ec]
            by_cases hc : s[i + 1 + 1] = 34 ∨ s[i + 1 + 1] = 92
            · have hU3 := unq_keep hl2 hU2 (.inl ⟨rfl, by rw [hg2]; exact hc⟩)
              rw [hg2] at hU3
              have R := ih (d - 2) (by omega) k (i + 1 + 1) (acc ++ [s[i + 1 + 1]]) U (by omega) (by omega) (by rw [List.length_append]; simp only [List.length_cons, List.length_nil]; omega) hU3
              rcases hc with h | h
              · rw [if_pos (by rw [h]; rfl)]; exact R
              · rw [if_neg (by rw [h]; decide), if_pos (by rw [h]; rfl)]; exact R
            · rw [if_neg (ne34 (fun e => hc (.inl e))), if_neg (ne92 (fun e => hc (.inr e))), unq_stop hl2 hU2 (.inl ⟨rfl, by rw [hg2]; exact hc⟩)]
              rfl
          · rw [if_pos (by omega), unq_end hl2 hU2]
            rfl
        · have ec : nat8 acc ++ [(s[i + 1].toNat : Int)] = nat8 (acc ++ [s[i + 1]]) := by rw [nat8_append]; rfl
          rw [if_neg (ne92 h92), if_pos hnl, ec, wrap_succ (by omega)]
          have hU3 := unq_keep hlt hU (.inr ⟨rfl, by rw [hg]; rintro (h | h); exact h34 h; exact h92 h⟩)
          rw [hg] at hU3
          exact ih (d - 1) (by omega) k (i + 1) (acc ++ [s[i + 1]]) U (by omega) (by omega) (by rw [List.length_append]; simp only [List.length_cons, List.length_nil]; omega) hU3
    · rw [if_neg (by omega), str_nat8, valid_f _ k (by rw [Lib.size_eq]; show acc.length ≤ _; omega) (by omega), unq_end hlt hU]
      rw [if_neg Bool.noConfusion]
      simp only [Option.bind_some, finU]
      split <;> rfl

theorem unquote_f (s : ByteArray) (hs : s.size ≤ 140737488355328) (k : Nat) (hk : 310 + s.size < k) : flagstoneref1_Unquote.f k s = some (unqP s) := by
  obtain ⟨k, rfl⟩ : ∃ m, k = m + 1 := ⟨k - 1, by omega⟩
  unfold flagstoneref1_Unquote.f
  by_cases h2 : s.size < 2
  · rw [if_pos (by omega), flagstoneref1_Unquote.j0, if_pos rfl, unqP_form (.inl h2)]
  · have hw : wrap64 ((s.size : Int) - 1) = ((s.size - 1 : Nat) : Int) := by unfold wrap64; omega
    have b0 : bt s 0 = ((s.get! 0).toNat : Int) := bt_nat s 0 (by omega)
    rw [if_neg (by omega), if_pos (by omega), b0, hw]
    by_cases h0 : s.get! 0 = 34
    · rw [if_pos (by rw [h0]; rfl), if_pos (by omega), if_pos (by omega), bt_nat s (s.size - 1) (by omega), flagstoneref1_Unquote.j0]
      by_cases h1 : s.get! (s.size - 1) = 34
      · rw [if_neg (by rw [h1]; decide)]
        have hf : ¬ (s.size < 2 ∨ (s.get! 0) ≠ 34 ∨ s.get! (s.size - 1) ≠ 34) := by rintro (e | e | e); exact h2 e; exact e h0; exact e h1
        have R := unquote_l0 s (by omega) hs (middle s).size k 0 [] _ (by omega) (by have := middle_size s (by omega); omega) (Nat.le_refl _) (unq_start (middle s).data.toList)
        refine Eq.trans R (congrArg some ?_)
        unfold unqP
        rw [if_neg hf]
        rfl
      · rw [if_pos (by rw [bne_iff_ne]; exact ne34 h1), unqP_form (.inr (.inr h1))]
    · rw [if_neg (ne34 h0), flagstoneref1_Unquote.j0, if_pos rfl, unqP_form (.inr (.inl h0))]

/-- What is read without an error quotes to the same text. -/
theorem quote_unq (s u : ByteArray) (h : unqP s = (u, 0)) : quoteP u = (s, 0) := by
  by_cases hf : s.size < 2 ∨ (s.get! 0) ≠ 34 ∨ s.get! (s.size - 1) ≠ 34
  · rw [unqP_form hf] at h; cases h
  · cases hq : unq (middle s).data.toList false with
    | none => rw [unqP_none hf hq] at h; cases h
    | some l =>
      rw [unqP_some hf hq] at h
      by_cases hv : validB ⟨l.toArray⟩ = true
      · rw [if_pos hv] at h
        cases h
        have he := (esc_unq _).1 l hq
        unfold quoteP
        rw [if_pos hv]
        have h2 : 2 ≤ s.size := by omega
        have g0 : s.get! 0 = 34 := Classical.byContradiction fun e => hf (.inr (.inl e))
        have g1 : s.get! (s.size - 1) = 34 := Classical.byContradiction fun e => hf (.inr (.inr e))
        rw [get!_of s 0 (by omega)] at g0
        rw [get!_of s (s.size - 1) (by omega)] at g1
        have hm := middle_size s h2
        have hsz : s.data.toList.length = s.size := by simp
        have key : quotedL l = s.data.toList := by
          unfold quotedL
          rw [he]
          apply List.ext_getElem
          · rw [List.length_cons, List.length_append]
            have : (middle s).data.toList.length = (middle s).size := by simp
            simp only [List.length_cons, List.length_nil]
            omega
          · intro j h1 h3
            have hml : (middle s).data.toList.length = (middle s).size := by simp
            have hj : j < s.size := by omega
            have hr : s.data.toList[j] = s[j] := rfl
            rw [hr]
            cases j with
            | zero => rw [List.getElem_cons_zero]; exact g0.symm
            | succ j =>
              rw [List.getElem_cons_succ]
              by_cases hjm : j < (middle s).size
              · rw [List.getElem_append_left (by omega)]
                exact middle_get s h2 j hjm hj
              · rw [List.getElem_append_right (by omega)]
                have e : j + 1 = s.size - 1 := by omega
                simp only [List.getElem_singleton, e]
                exact g1.symm
        show ((⟨(quotedL l).toArray⟩ : ByteArray), (0 : Int)) = (s, 0)
        rw [key]
      · rw [if_neg hv] at h; cases h
end Go.Proofs.YtndgmcifagipjaaDoor.Pure
