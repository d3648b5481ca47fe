/- The plain law of TextQuotes: the reference quotes as the program does, and what is quoted is read as it was. -/
import Derived.Test.YtndgmcifagipjaaDoorPureKeys
import Derived.Test.YtndgmcifagipjaaDoorPTx7
namespace Go.Proofs.YtndgmcifagipjaaDoor.Pure
open Go.RowKit Go.Proofs.YtndgmcifagipjaaDoor.PT Go.Proofs.YtndgmcifagipjaaDoorW.PrintWords Go.Proofs.YtndgmcifagipjaaDoorW.PrintLast Go.Proofs.YtndgmcifagipjaaDoorW.PrintMore Plain

/-- Bytes as numbers. -/
def nat8 (l : List UInt8) : List Int := l.map fun c => (c.toNat : Int)
theorem str_nat8 (l : List UInt8) : strOfNums (nat8 l) = ⟨l.toArray⟩ := by
  unfold strOfNums nat8
  rw [List.map_map]
  have : (fun n : Int => UInt8.ofNat n.toNat) ∘ (fun c : UInt8 => (c.toNat : Int)) = id := by
    funext c
    show UInt8.ofNat (c.toNat : Int).toNat = c
    rw [Int.toNat_natCast, UInt8.ofNat_toNat]
  rw [this, List.map_id]
theorem nat8_append (a b : List UInt8) : nat8 (a ++ b) = nat8 a ++ nat8 b := List.map_append ..
theorem nat8_length (l : List UInt8) : (nat8 l).length = l.length := List.length_map ..

theorem quote_l0 (s : ByteArray) (hs : s.size ≤ 200) (d : Nat) : ∀ (k i : Nat), i + d = s.size → d < k → flagstoneref1_Quote.l0 k s (nat8 (escTo s i)) (i : Int) = some (⟨(quotedL s.data.toList).toArray⟩, 0) := by
  induction d with
  | zero =>
    intro k i hi hk
    obtain ⟨k, rfl⟩ : ∃ m, k = m + 1 := ⟨k - 1, by omega⟩
    have hl := escTo_length s i
    rw [flagstoneref1_Quote.l0, if_neg (by omega), if_pos (by rw [nat8_length]; omega)]
    have e : nat8 (escTo s i) ++ [34] = nat8 (escTo s i ++ [34]) := by rw [nat8_append]; rfl
    rw [e, str_nat8, escTo_end (by omega)]
  | succ d ih =>
    intro k i hi hk
    obtain ⟨k, rfl⟩ : ∃ m, k = m + 1 := ⟨k - 1, by omega⟩
    have hlt : i < s.size := by omega
    have hl := escTo_length s i
    have hnl : (nat8 (escTo s i)).length < 140737488355328 := by rw [nat8_length]; omega
    have IH := ih k (i + 1) (by omega) (by omega)
    rw [flagstoneref1_Quote.l0, if_pos (by omega), if_pos (by omega), bt_nat s i hlt, get!_of s i hlt, wrap_succ (by omega)]
    have e92 : nat8 (escTo s i) ++ [92] = nat8 (escTo s i ++ [92]) := by rw [nat8_append]; rfl
    have ec : ∀ l, nat8 l ++ [(s[i].toNat : Int)] = nat8 (l ++ [s[i]]) := fun l => by rw [nat8_append]; rfl
    have hnl2 : (nat8 (escTo s i ++ [92])).length < 140737488355328 := by rw [nat8_length, List.length_append]; simp only [List.length_cons, List.length_nil]; omega
    by_cases h34 : s[i] = 34
    · rw [if_pos (by rw [h34]; rfl), if_pos hnl, e92]
      simp only [Option.bind_some]
      rw [if_pos hnl2, ec, ← escTo_esc hlt (.inl h34)]
      exact IH
    · have h34n : ¬ ((s[i].toNat : Int) = 34) := fun h => h34 (UInt8.toNat_inj.1 (by have : (34 : UInt8).toNat = 34 := rfl; omega))
      rw [if_neg h34n]
      by_cases h92 : s[i] = 92
      · rw [if_pos (by rw [h92]; rfl), if_pos hnl, e92]
        simp only [Option.bind_some]
        rw [if_pos hnl2, ec, ← escTo_esc hlt (.inr h92)]
        exact IH
      · have h92n : ¬ ((s[i].toNat : Int) = 92) := fun h => h92 (UInt8.toNat_inj.1 (by have : (92 : UInt8).toNat = 92 := rfl; omega))
        rw [if_neg h92n, if_pos hnl, ec, ← escTo_plain hlt (by rintro (h | h); exact h34 h; exact h92 h)]
        exact IH

theorem quote_f (s : ByteArray) (k : Nat) (hs : s.size ≤ 9223372036854775807) (hk : 300 < k) : flagstoneref1_Quote.f k s = some (quoteP s) := by
  unfold flagstoneref1_Quote.f quoteP
  rw [valid_f s k hs (by omega)]
  simp only [Option.bind_some]
  cases hv : validB s with
  | true =>
    rw [if_pos rfl, if_pos rfl]
    have h200 : s.size ≤ 200 := (of_decide_eq_true hv).1
    exact quote_l0 s h200 s.size k 0 (by omega) (by omega)
  | false => rw [if_neg Bool.noConfusion, if_neg Bool.noConfusion]

theorem get!_list (L : List UInt8) (j : Nat) (h : j < L.length) : (⟨L.toArray⟩ : ByteArray).get! j = L[j] := by
  rw [get!_of _ j (by rw [Lib.size_eq]; exact h)]
  rfl
/-- A quoted text is read as it was. -/
theorem unq_quoted (s : ByteArray) (hv : validB s = true) : unqP ⟨(quotedL s.data.toList).toArray⟩ = (s, 0) := by
  obtain ⟨L, hL⟩ : ∃ L, quotedL s.data.toList = L := ⟨_, rfl⟩
  have hlen : L.length = (esc s.data.toList).length + 2 := by rw [← hL]; unfold quotedL; simp
  have hsz : (⟨L.toArray⟩ : ByteArray).size = L.length := by rw [Lib.size_eq]
  have h0 : (⟨L.toArray⟩ : ByteArray).get! 0 = 34 := by
    rw [get!_list L 0 (by omega)]
    simp only [← hL]
    rfl
  have h1 : (⟨L.toArray⟩ : ByteArray).get! ((⟨L.toArray⟩ : ByteArray).size - 1) = 34 := by
    rw [hsz, get!_list L _ (by omega)]
    have : L = (34 :: esc s.data.toList) ++ [34] := by rw [← hL]; rfl
    subst this
    simp
  have hm : (middle ⟨L.toArray⟩).data.toList = esc s.data.toList := by
    unfold middle
    rw [Lib.extract_data, hsz, hlen]
    show ((L.drop 1).take _) = _
    rw [← hL]
    show ((esc s.data.toList ++ [34]).take _) = _
    rw [show (esc s.data.toList).length + 2 - 1 - 1 = (esc s.data.toList).length by omega]
    exact List.take_left
  have hf : ¬ ((⟨L.toArray⟩ : ByteArray).size < 2 ∨ (⟨L.toArray⟩ : ByteArray).get! 0 ≠ 34 ∨ (⟨L.toArray⟩ : ByteArray).get! ((⟨L.toArray⟩ : ByteArray).size - 1) ≠ 34) := by
    rintro (e | e | e)
    · rw [hsz] at e; omega
    · exact e h0
    · exact e h1
  have hs : (⟨s.data.toList.toArray⟩ : ByteArray) = s := ByteArray.ext (by simp)
  rw [hL, unqP_some hf (by rw [hm]; exact unq_esc _), hs, if_pos hv]

theorem quotes_l0 (l : List ByteArray) (hl : ∀ s ∈ l, s.size ≤ 9223372036854775807) (hn : l.length ≤ 100) (d : Nat) : ∀ (k i : Nat), i + d = l.length → 400 + 2 * d < k → flagstonelaw1_TextQuotes.l0 k l (l.length : Int) (i : Int) = some true := by
  induction d with
  | zero =>
    intro k i hi hk
    obtain ⟨k, rfl⟩ : ∃ m, k = m + 1 := ⟨k - 1, by omega⟩
    rw [flagstonelaw1_TextQuotes.l0, if_neg (by omega)]
  | succ d ih =>
    intro k i hi hk
    obtain ⟨k, rfl⟩ : ∃ m, k = m + 2 := ⟨k - 2, by omega⟩
    have hlt : i < l.length := by omega
    have IH := ih k (i + 1) (by omega) (by omega)
    rw [flagstonelaw1_TextQuotes.l0, if_pos (by omega), if_pos (by omega), if_pos (by omega)]
    have hrd : rdOf ByteArray.empty l (i : Int) = l[i] := by unfold rdOf; simp [hlt]
    rw [hrd]
    have hs := hl _ (List.getElem_mem hlt)
    generalize l[i] = s at hs
    rw [quote_f s (k + 1) hs (by omega)]
    unfold text_Quote.f
    rw [if_pos hs]
    simp only [Option.bind_some, bne_self_eq_false, if_true]
    rw [flagstonelaw1_TextQuotes.j1, if_neg Bool.noConfusion, wrap_succ (by omega)]
    cases hv : validB s with
    | false =>
      have e : quoteP s = (⟨#[]⟩, 2) := by unfold quoteP; rw [if_neg (by rw [hv]; exact Bool.noConfusion)]
      rw [e, if_neg (by decide)]
      exact IH
    | true =>
      have e : quoteP s = (⟨(quotedL s.data.toList).toArray⟩, 0) := by unfold quoteP; rw [if_pos hv]
      have h200 : s.size ≤ 200 := (of_decide_eq_true hv).1
      have hq : (⟨(quotedL s.data.toList).toArray⟩ : ByteArray).size ≤ 140737488355328 := by
        rw [Lib.size_eq]
        have := esc_length s.data.toList
        have h2 := Lib.size_eq s
        show (quotedL s.data.toList).length ≤ _
        unfold quotedL
        simp only [List.length_cons, List.length_append, List.length_nil]
        omega
      rw [e, if_pos rfl]
      unfold text_Unquote.f
      rw [if_pos hq, unq_quoted s hv]
      simp only [Option.bind_some, if_true]
      exact IH

theorem TextQuotes : flagstonelaw1_TextQuotes.Pure := by
  intro a0 a1 h0 h1
  have he := encode_size (wrap32 a1)
  refine ⟨1000, ?_⟩
  unfold flagstonelaw1_TextQuotes.f
  rw [awake_true]
  simp only [Option.bind_some, if_true]
  generalize Utf8.encode (wrap32 a1) = E at he
  have a1s : (⟨#[92]⟩ : ByteArray).size = 1 := rfl
  have a2s : (⟨#[34]⟩ : ByteArray).size = 1 := rfl
  rw [if_pos (by omega), if_pos (by omega), if_pos (by rw [ByteArray.size_append, a1s]; omega)]
  refine quotes_l0 _ ?_ (by simp) 3 1000 0 (by simp) (by omega)
  intro s hs
  simp only [List.mem_cons, List.not_mem_nil, or_false] at hs
  rcases hs with rfl | rfl | rfl
  · omega
  · rw [ByteArray.size_append]; omega
  · rw [ByteArray.size_append, ByteArray.size_append, a1s, a2s]; omega
end Go.Proofs.YtndgmcifagipjaaDoor.Pure
