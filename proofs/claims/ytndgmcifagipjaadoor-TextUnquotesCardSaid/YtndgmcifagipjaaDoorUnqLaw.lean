/- The walk of TextUnquotes. -/
import Derived.Test.YtndgmcifagipjaaDoorPureUnq
import Derived.Test.YtndgmcifagipjaaDoorPTx1
import Derived.Laws.IdiomStrings
import Derived.Lib.AtoiErrMem
namespace Go.Proofs.YtndgmcifagipjaaDoor.UnqLaw
open Go.RowKit Go.Proofs.YtndgmcifagipjaaDoor Go.Proofs.YtndgmcifagipjaaDoor.Plain

theorem idx_in (x : Int) (n : Nat) (h0 : 0 < n) (h1 : n ≤ 1000) : 0 ≤ (wrap64 (x.tmod (n : Int) + (n : Int))).tmod (n : Int) ∧ (wrap64 (x.tmod (n : Int) + (n : Int))).tmod (n : Int) < (n : Int) := by
  have ha : -(n : Int) < x.tmod (n : Int) ∧ x.tmod (n : Int) < (n : Int) := by
    by_cases hx : 0 ≤ x
    · have a := Int.tmod_nonneg (n : Int) hx
      have b := Int.tmod_lt_of_pos x (show (0 : Int) < (n : Int) by omega)
      exact ⟨by omega, b⟩
    · have a := Int.tmod_nonneg (n : Int) (show 0 ≤ -x by omega)
      have b := Int.tmod_lt_of_pos (-x) (show (0 : Int) < (n : Int) by omega)
      rw [Int.neg_tmod] at a b
      exact ⟨by omega, by omega⟩
  generalize x.tmod (n : Int) = y at ha
  have hw : wrap64 (y + (n : Int)) = y + (n : Int) := by unfold wrap64; omega
  rw [hw]
  exact ⟨Int.tmod_nonneg _ (by omega), Int.tmod_lt_of_pos _ (by omega)⟩

theorem quoteP_size (s : ByteArray) : (quoteP s).1.size ≤ 402 := by
  unfold quoteP
  by_cases hv : validB s = true
  · rw [if_pos hv]
    have h := (of_decide_eq_true hv).1
    have he := esc_length s.data.toList
    show (quotedL s.data.toList).length ≤ 402
    unfold quotedL
    simp only [List.length_cons, List.length_append, List.length_nil]
    have : s.data.toList.length = s.size := by simp
    omega
  · rw [if_neg hv]; exact Nat.zero_le _

/-- The bytes of a string in a new row. -/
theorem laid_bytes (q : ByteArray) (w : World) : ∃ W cap, (convert 9 26 (.string q)).run Tryd.prog w = .ok (.slice (some ⟨w.heap.size, 0, none⟩) q.size cap) W ∧ Below w.heap.size w W ∧ W.heap.size = w.heap.size + 1 ∧
    (∀ j, j < q.size → W.cell? ⟨w.heap.size, j, none⟩ = some (.int .u8 (q.data.toList.getD j 0).toNat)) ∧ ∀ j, j < q.size → W.frozen? ⟨w.heap.size, j, none⟩ = false := by
  refine ⟨_, _, Lib.run_convert_string_bytes w 9 26 5 q Tryd.underlying9 Tryd.underlying26 Tryd.underlying5, Lib.bytesWorld_below _ _ _, Lib.bytesWorld_size _ _ _, fun j hj => Lib.bytesWorld_cell w _ q j hj, fun j hj => ?_⟩
  unfold World.frozen?
  rw [Lib.bytesWorld_at_new]
  have : q.size ≤ (Lib.bytesCells w 5 q).size := by
    unfold Lib.bytesCells
    rw [Array.size_append, Array.size_map]
    exact Nat.le_add_right _ _
  simp only [Bool.and_eq_false_iff, decide_eq_false_iff_not]
  left
  omega

/-- One byte of them is changed, and they are a string again. -/
theorem back_bytes (q : ByteArray) (g cap : Nat) (W : World) (hc : ∀ j, j < q.size → W.cell? ⟨g, j, none⟩ = some (.int .u8 (q.data.toList.getD j 0).toNat)) :
    ∃ r : ByteArray, r.size = q.size ∧ (convert 26 9 (.slice (some ⟨g, 0, none⟩) q.size cap)).run Tryd.prog W = .ok (.string r) W := by
  have hl : q.data.toList.length = q.size := by simp
  have h := run_convert_bytes_back (P := Tryd.prog) W 26 9 5 ⟨g, 0, none⟩ cap q.data.toList Tryd.underlying26 Tryd.underlying5 Tryd.underlying9 (fun j hj => by
    have h3 := hc j (by omega)
    have e : q.data.toList.getD j 0 = q.data.toList[j] := by simp only [List.getD, List.getElem?_eq_getElem hj, Option.getD_some]
    rw [e] at h3
    have e2 : (⟨g, 0, none⟩ : Addr).add j = ⟨g, j, none⟩ := by simp [Addr.add]; omega
    rw [e2]
    exact h3)
  rw [hl] at h
  exact ⟨_, hl, h⟩

theorem set_bytes (q : ByteArray) (g cap i : Nat) (W : World) (c : Int) (hc8 : (Lit.int .u8 c).wf = true) (hi : i < q.size) (hc : ∀ j, j < q.size → W.cell? ⟨g, j, none⟩ = some (.int .u8 (q.data.toList.getD j 0).toNat)) :
    ∃ r : ByteArray, r.size = q.size ∧ (convert 26 9 (.slice (some ⟨g, 0, none⟩) q.size cap)).run Tryd.prog (W.setCell ⟨g, i, none⟩ (.int .u8 c)) = .ok (.string r) (W.setCell ⟨g, i, none⟩ (.int .u8 c)) := by
  obtain ⟨b, hb⟩ : ∃ b : UInt8, (b.toNat : Int) = c := by
    have h1 : 0 ≤ c ∧ c ≤ 255 := by simpa [Lit.wf, IntKind.min, IntKind.max, IntKind.signed, IntKind.bits] using hc8
    refine ⟨UInt8.ofNat c.toNat, ?_⟩
    rw [UInt8.toNat_ofNat']
    omega
  subst hb
  have hs : (⟨(q.data.toList.set i b).toArray⟩ : ByteArray).size = q.size := by
    show (q.data.toList.set i b).length = q.size
    rw [List.length_set]
    simp
  obtain ⟨r, hr, h⟩ := back_bytes ⟨(q.data.toList.set i b).toArray⟩ g cap (W.setCell ⟨g, i, none⟩ (.int .u8 (b.toNat : Int))) (fun j hj => by
    rw [hs] at hj
    have hlen : q.data.toList.length = q.size := by simp
    by_cases e : j = i
    · subst e
      rw [World.cell?_setCell_same _ _ _ (hc j hj)]
      have : (q.data.toList.set j b).getD j 0 = b := by simp only [List.getD, List.getElem?_set_self (show j < q.data.toList.length by omega), Option.getD_some]
      exact congrArg (fun z : UInt8 => some (Value.int .u8 (z.toNat : Int))) this.symm
    · rw [World.cell?_setCell_other _ _ _ _ (show (⟨g, i, none⟩ : Addr) ≠ ⟨g, j, none⟩ from fun h => e (by cases h; rfl)), hc j hj]
      have : (q.data.toList.set i b).getD j 0 = q.data.toList.getD j 0 := by simp only [List.getD, List.getElem?_set_ne (fun h : i = j => e h.symm)]
      exact congrArg (fun z : UInt8 => some (Value.int .u8 (z.toNat : Int))) this.symm)
  rw [hs] at h hr
  exact ⟨r, hr, h⟩
end Go.Proofs.YtndgmcifagipjaaDoor.UnqLaw
