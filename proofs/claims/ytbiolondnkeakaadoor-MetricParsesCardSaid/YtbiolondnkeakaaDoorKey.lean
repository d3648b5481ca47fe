/- The walks of text.Key and text.Reserved. -/
import Derived.Test.YtbiolondnkeakaaDoorTabs
import Derived.Test.YtbiolondnkeakaaDoorPlain
import Derived.Test.YtbiolondnkeakaaDoorShelf
import Derived.WalkKit
import Derived.WalkSpells
import Derived.WalkLawsBesides
import Derived.Deep.LoopGhost
import Derived.Lib.OthersKept
import Derived.Lib.Hide
import Derived.Outline
namespace Go.Proofs.YtbiolondnkeakaaDoor
open Go.RowKit Plain

set_option maxRecDepth 100000 in
theorem fields_const (s : ByteArray) (w : World) (hs : s.data.toList = wordsL) (hT : Tabs w) :
    Calls Tryd.prog 58 #[.string s] w fun e w' => e = .returned (.slice (some ⟨w.heap.size, 0, none⟩) 46 46) ∧ w.alloc (.cells (reservedB.map Value.string).toArray 9) = w' := by
  refine (Tryd.strings_Fields s w ?_ (by rw [hs]; exact words_ascii) hT.asc).mono ?_
  · rw [Lib.size_eq, hs]
    decide +kernel
  · rintro e w' ⟨he, hw⟩
    rw [hs, fields_length] at he
    rw [hs, fields_values] at hw
    exact ⟨he, hw.symm⟩

theorem res_cell (w : World) (k : Nat) (h : k < 46) : (w.alloc (.cells (reservedB.map Value.string).toArray 9)).cell? ⟨w.heap.size, k, none⟩ = some (.string (reservedB.getD k ByteArray.empty)) := by
  rw [World.cell?_alloc_new]
  · rw [List.getElem?_toArray, List.getElem?_map, List.getD_eq_getElem?_getD, List.getElem?_eq_getElem (by exact h)]
    rfl

set_option maxRecDepth 1000000 in
set_option maxHeartbeats 2000000 in
theorem key_loops (s : ByteArray) (w : World) (hT : Tabs w) (h0 : 0 < s.size) (h32 : s.size ≤ 32) :
    Calls Tryd.prog 47 #[.string s] w fun e w' => e = .returned (.bool (keyB s)) ∧ Below w.heap.size w w' := by
  have HT0 := Lib.hid hT
  clear hT
  have g1 : ¬ ((s.size : Int) < 1) := by omega
  have g2 : ¬ ((32 : Int) < (s.size : Int)) := by omega
  go_enter Tryd.func47, Tryd.ntmps47
  go_wp2
  go_loopw [] (fun wr => ∃ pos : Nat, wr = w.iter s pos ∧ wordTo s pos) (fun wr => s.size - wr.iterPos w.heap.size)
  case atStart => exact ⟨0, rfl, wordTo_zero s⟩
  case round =>
    obtain ⟨pos, rfl, ht⟩ := hrel
    have HT := Lib.hid ht
    clear ht
    by_cases hp : pos < s.size
    · have hnx : ∀ ty, (Instr.next (.pointer (some ⟨w.heap.size, 0, none⟩)) true ty).run Tryd.prog (w.iter s pos) = _ := fun ty => run_next_any w s pos ty hp
      have hwd := (decode_bytes s pos hp).2.1
      by_cases hok : okAt pos (Utf8.decode s pos).1
      · have HN := Lib.hid (wordTo_rune hp HT.out hok)
        clear HT
        generalize (Utf8.decode s pos).1 = c at hnx hok
        generalize (Utf8.decode s pos).2 = n at hnx hwd HN
        have hcases : (97 ≤ c ∧ c ≤ 122) ∨ (1 ≤ pos ∧ 48 ≤ c ∧ c ≤ 57) ∨ (1 ≤ pos ∧ c = 45) ∨ (1 ≤ pos ∧ c = 95) := by unfold okAt at hok; omega
        clear hok
        rcases hcases with ⟨h1, h2⟩ | ⟨h0, h1, h2⟩ | ⟨h0, rfl⟩ | ⟨h0, rfl⟩
        · have g1 : (97 : Int) ≤ (c : Int) := by omega
          have g2 : (c : Int) ≤ 122 := by omega
          go_wp2
          go_roundw
          case rel => exact ⟨_, rfl, HN.out⟩
          case measure => simp; omega
        · have hpz : ((pos : Int) == 0) = false := beq_eq_false_iff_ne.2 (by omega)
          have g1 : ¬ (97 : Int) ≤ (c : Int) := by omega
          have g2 : ¬ (c : Int) < 48 := by omega
          have g3 : ¬ (57 : Int) < (c : Int) := by omega
          go_wp2
          go_roundw
          case rel => exact ⟨_, rfl, HN.out⟩
          case measure => simp; omega
        · have hpz : ((pos : Int) == 0) = false := beq_eq_false_iff_ne.2 (by omega)
          go_wp2
          go_roundw
          case rel => exact ⟨_, rfl, HN.out⟩
          case measure => simp; omega
        · have hpz : ((pos : Int) == 0) = false := beq_eq_false_iff_ne.2 (by omega)
          go_wp2
          go_roundw
          case rel => exact ⟨_, rfl, HN.out⟩
          case measure => simp; omega
      · have HF := Lib.hid (keyB_noword (wordB_rune hp hok))
        clear HT
        generalize (Utf8.decode s pos).1 = c at hnx hok
        generalize (Utf8.decode s pos).2 = n at hnx hwd
        have hcases : (pos = 0 ∧ c < 97) ∨ (pos = 0 ∧ 122 < c) ∨ (1 ≤ pos ∧ c < 48 ∧ c ≠ 45) ∨ (1 ≤ pos ∧ 57 < c ∧ c < 97 ∧ c ≠ 95) ∨ (1 ≤ pos ∧ 122 < c) := by unfold okAt at hok; omega
        clear hok
        rcases hcases with ⟨rfl, h1⟩ | ⟨rfl, h1⟩ | ⟨h0, h1, h2⟩ | ⟨h0, h1, h2, h3⟩ | ⟨h0, h1⟩
        · have g1 : ¬ (97 : Int) ≤ (c : Int) := by omega
          go_wp2
          go_ret
          exact ⟨ret_bool HF.out.symm, (Below.refl _ w).alloc (Nat.le_refl _) (.stringIter s _)⟩
        · have g1 : (97 : Int) ≤ (c : Int) := by omega
          have g2 : ¬ (c : Int) ≤ 122 := by omega
          go_wp2
          go_ret
          exact ⟨ret_bool HF.out.symm, (Below.refl _ w).alloc (Nat.le_refl _) (.stringIter s _)⟩
        · have hpz : ((pos : Int) == 0) = false := beq_eq_false_iff_ne.2 (by omega)
          have g1 : ¬ (97 : Int) ≤ (c : Int) := by omega
          have g2 : (c : Int) < 48 := by omega
          have g3 : ((c : Int) != 45) = true := bne_iff_ne.2 (by omega)
          have g4 : ((c : Int) != 95) = true := bne_iff_ne.2 (by omega)
          go_wp2
          go_ret
          exact ⟨ret_bool HF.out.symm, (Below.refl _ w).alloc (Nat.le_refl _) (.stringIter s _)⟩
        · have hpz : ((pos : Int) == 0) = false := beq_eq_false_iff_ne.2 (by omega)
          have g1 : ¬ (97 : Int) ≤ (c : Int) := by omega
          have g2 : ¬ (c : Int) < 48 := by omega
          have g5 : (57 : Int) < (c : Int) := by omega
          have g3 : ((c : Int) != 45) = true := bne_iff_ne.2 (by omega)
          have g4 : ((c : Int) != 95) = true := bne_iff_ne.2 (by omega)
          go_wp2
          go_ret
          exact ⟨ret_bool HF.out.symm, (Below.refl _ w).alloc (Nat.le_refl _) (.stringIter s _)⟩
        · have hpz : ((pos : Int) == 0) = false := beq_eq_false_iff_ne.2 (by omega)
          have g1 : (97 : Int) ≤ (c : Int) := by omega
          have g6 : ¬ (c : Int) ≤ 122 := by omega
          have g2 : ¬ (c : Int) < 48 := by omega
          have g5 : (57 : Int) < (c : Int) := by omega
          have g3 : ((c : Int) != 45) = true := bne_iff_ne.2 (by omega)
          have g4 : ((c : Int) != 95) = true := bne_iff_ne.2 (by omega)
          go_wp2
          go_ret
          exact ⟨ret_bool HF.out.symm, (Below.refl _ w).alloc (Nat.le_refl _) (.stringIter s _)⟩
    · have hnx : ∀ ty, (Instr.next (.pointer (some ⟨w.heap.size, 0, none⟩)) true ty).run Tryd.prog (w.iter s pos) = _ := fun ty => run_next_end w s pos ty hp
      have HW := Lib.hid (wordB_end hp h0 HT.out)
      have HTI := Lib.hid (HT0.out.below ((Below.refl _ w).alloc (Nat.le_refl _) (.stringIter s pos)))
      go_wp2_with (fail)
      refine (fields_const _ _ ?hs HTI.out).mono ?_
      case hs => rfl
      rintro e w2 ⟨rfl, rfl⟩
      go_wp2
      have hcells : ∀ k, k < 46 → ((w.alloc (.stringIter s pos)).alloc (.cells (reservedB.map Value.string).toArray 9)).cell? ⟨w.heap.size + 1, k, none⟩ = some (.string (reservedB.getD k ByteArray.empty)) := by
        intro k hk
        have := res_cell (w.alloc (.stringIter s pos)) k hk
        rw [World.size_alloc] at this
        exact this
      have HC := Lib.hid hcells
      clear hcells
      have hbel : Below w.heap.size w ((w.alloc (.stringIter s pos)).alloc (.cells (reservedB.map Value.string).toArray 9)) := ((Below.refl _ w).alloc (Nat.le_refl _) _).alloc (by rw [World.size_alloc]; omega) _
      have HB := Lib.hid hbel
      clear hbel
      generalize (w.alloc (.stringIter s pos)).alloc (.cells (reservedB.map Value.string).toArray 9) = W at HC HB ⊢
      go_loop [52] (fun i => ∃ k : Nat, k ≤ 46 ∧ i = .int .i64 k ∧ ∀ j, j < k → reservedB.getD j ByteArray.empty ≠ s) (fun i => 46 - (intOf i).toNat)
      case atStart => exact ⟨0, by omega, rfl, fun j h => absurd h (Nat.not_lt_zero j)⟩
      case round =>
        obtain ⟨k, hk, rfl, hne⟩ := hrel
        have HNE := Lib.hid hne
        clear hne
        by_cases hlt : k < 46
        · have hcell := HC.out k hlt
          have hltz : (k : Int) < 46 := by omega
          generalize hr : reservedB.getD k ByteArray.empty = r at hcell
          by_cases e : r = s
          · have HF := Lib.hid (keyB_res (k := k) (s := s) (by rw [← e, ← hr, List.getD_eq_getElem?_getD, List.getElem?_eq_getElem (by exact hlt)]; rfl))
            clear hr
            subst e
            have hb : (r.toList == r.toList) = true := BEq.rfl
            go_wp2
            go_ret
            exact ⟨ret_bool HF.out.symm, HB.out⟩
          · have HN := Lib.hid (show ∀ j, j < k + 1 → reservedB.getD j ByteArray.empty ≠ s from fun j hj => by
              by_cases ej : j = k
              · subst ej; rw [hr]; exact e
              · exact HNE.out j (by omega))
            have hb : (r.toList == s.toList) = false := beq_eq_false_iff_ne.2 fun h => e (by rw [Lib.toList_data, Lib.toList_data] at h; exact ByteArray.ext (Array.toList_inj.1 h))
            clear hr
            go_wp2
            go_round
            case rel => exact ⟨k + 1, by omega, by go_num, HN.out⟩
            case measure => simp [intOf]; omega
        · have hk46 : k = 46 := by omega
          subst hk46
          have HF := Lib.hid (keyB_yes HW.out h32 HNE.out)
          go_wp2
          go_ret
          exact ⟨ret_bool HF.out.symm, HB.out⟩

def text_Key.f (a0 : ByteArray) : Option Bool := some (keyB a0)
set_option maxRecDepth 1000000 in
theorem text_Key.calls (a0 : ByteArray) (r : Bool) (w : World) (hT : Tabs w) (h : text_Key.f a0 = some r) :
    Calls Tryd.prog 47 #[.string a0] w fun e w' => e = .returned (.bool r) ∧ Below w.heap.size w w' := by
  obtain rfl := Option.some.inj h
  by_cases h0 : a0.size < 1
  · have HF := Lib.hid (keyB_short h0)
    have g1 : ((a0.size : Int) < 1) := by omega
    clear hT
    go_enter Tryd.func47, Tryd.ntmps47
    go_wp2
    go_ret
    exact ⟨ret_bool HF.out.symm, Below.refl _ _⟩
  · by_cases h1 : 32 < a0.size
    · have HF := Lib.hid (keyB_long h1)
      have g1 : ¬ ((a0.size : Int) < 1) := by omega
      have g2 : ((32 : Int) < (a0.size : Int)) := by omega
      clear hT
      go_enter Tryd.func47, Tryd.ntmps47
      go_wp2
      go_ret
      exact ⟨ret_bool HF.out.symm, Below.refl _ _⟩
    · exact key_loops a0 w hT (by omega) (by omega)
end Go.Proofs.YtbiolondnkeakaaDoor
