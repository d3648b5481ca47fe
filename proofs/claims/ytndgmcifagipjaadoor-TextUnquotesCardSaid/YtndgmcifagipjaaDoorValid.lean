/- The walks of text.Valid and of the library's ValidString at this dump. -/
import Derived.Test.YtndgmcifagipjaaDoorTabs
import Derived.Test.YtndgmcifagipjaaDoorPlain
import Derived.Test.YtndgmcifagipjaaDoorShelf
import Derived.WalkKit
import Derived.WalkSpells
import Derived.WalkLawsBesides
import Derived.Deep.LoopGhost
import Derived.Lib.OthersKept
import Derived.Lib.Hide
import Derived.Outline
namespace Go.Proofs.YtndgmcifagipjaaDoor
open Go.RowKit Plain

def utf8_ValidString.f (a0 : ByteArray) : Option Bool := if a0.size ≤ 9223372036854775807 then some (Lib.validD a0.data.toList) else none
theorem utf8_ValidString.calls (a0 : ByteArray) (r : Bool) (w : World) (hT : Tabs w) (h : utf8_ValidString.f a0 = some r) :
    Calls Tryd.prog 28 #[.string a0] w fun e w' => e = .returned (.bool r) ∧ Below w.heap.size w w' := by
  unfold utf8_ValidString.f at h
  split at h
  · obtain rfl := Option.some.inj h
    exact Any.utf8_ValidString Tryd.laysValid a0 w (by assumption) hT.utf
  · cases h

set_option maxHeartbeats 1000000 in
theorem valid_loop (s : ByteArray) (w : World) (hs : s.size ≤ 200) (hv : Lib.validD s.data.toList = true) (hcall : Calls Tryd.prog 28 #[.string s] w fun e w' => e = .returned (.bool true) ∧ Below w.heap.size w w') :
    Calls Tryd.prog 13 #[.string s] w fun e w' => e = .returned (.bool (validB s)) ∧ Below w.heap.size w w' := by
  have HC := Lib.hid hcall
  have HV := Lib.hid hv
  clear hcall hv
  have hsz : ¬ ((200 : Int) < (s.size : Int)) := by omega
  go_enter Tryd.func13, Tryd.ntmps13
  go_wp2_with (go_at_call 28; refine HC.out.mono ?_; rintro e w2 ⟨rfl, hb2⟩)
  have HB := Lib.hid hb2
  clear hb2
  go_loopw [] (fun wr => ∃ pos : Nat, wr = w2.iter s pos ∧ plainTo s pos) (fun wr => s.size - wr.iterPos w2.heap.size)
  case atStart => exact ⟨0, rfl, fun j h => absurd h (Nat.not_lt_zero j)⟩
  case round =>
    obtain ⟨pos, rfl, ht⟩ := hrel
    have HT := Lib.hid ht
    clear ht
    by_cases hp : pos < s.size
    · have hnx : ∀ ty, (Instr.next (.pointer (some ⟨w2.heap.size, 0, none⟩)) true ty).run Tryd.prog (w2.iter s pos) = _ := fun ty => run_next_any w2 s pos ty hp
      have hwd := decode_bytes s pos hp
      by_cases h1 : (Utf8.decode s pos).1 < 32
      · have HF := Lib.hid (validB_bad hp (.inl h1))
        clear hwd
        go_wp2
        go_ret
        exact ⟨ret_bool HF.out.symm, HB.out.alloc HB.out.size (.stringIter s _)⟩
      · by_cases h2 : (Utf8.decode s pos).1 = 127
        · have HF := Lib.hid (validB_bad hp (.inr h2))
          clear hwd
          go_wp2
          go_ret
          exact ⟨ret_bool HF.out.symm, HB.out.alloc HB.out.size (.stringIter s _)⟩
        · have HN := Lib.hid (plainTo_step hp HT.out h1 h2)
          have h2z : (((Utf8.decode s pos).1 : Int) == 127) = false := by simpa using fun h => h2 (by omega)
          have h1z : ¬ (((Utf8.decode s pos).1 : Int) < 32) := by omega
          have hwd1 := hwd.2.1
          clear hwd
          go_wp2
          go_roundw
          case rel => exact ⟨_, rfl, HN.out⟩
          case measure =>
            simp
            omega
    · have hnx : ∀ ty, (Instr.next (.pointer (some ⟨w2.heap.size, 0, none⟩)) true ty).run Tryd.prog (w2.iter s pos) = _ := fun ty => run_next_end w2 s pos ty hp
      go_wp2
      go_ret
      exact ⟨ret_bool (validB_end hp HT.out hs HV.out).symm, HB.out.alloc HB.out.size (.stringIter s _)⟩

def text_Valid.f (a0 : ByteArray) : Option Bool := if a0.size ≤ 9223372036854775807 then some (validB a0) else none
theorem text_Valid.calls (a0 : ByteArray) (r : Bool) (w : World) (hT : Tabs w) (h : text_Valid.f a0 = some r) :
    Calls Tryd.prog 13 #[.string a0] w fun e w' => e = .returned (.bool r) ∧ Below w.heap.size w w' := by
  unfold text_Valid.f at h
  split at h
  · obtain rfl := Option.some.inj h
    rename_i hm
    have HC := utf8_ValidString.calls a0 (Lib.validD a0.data.toList) w hT (by unfold utf8_ValidString.f; rw [if_pos hm])
    by_cases hs : a0.size ≤ 200
    · cases hv : Lib.validD a0.data.toList with
      | true => rw [hv] at HC; exact valid_loop a0 w hs hv HC
      | false =>
        have HF := Lib.hid (validB_no hv)
        rw [hv] at HC
        have HC := Lib.hid HC
        clear hv hT
        have hsz : ¬ ((200 : Int) < (a0.size : Int)) := by omega
        go_enter Tryd.func13, Tryd.ntmps13
        go_wp2_with (go_at_call 28; refine HC.out.mono ?_; rintro e w2 ⟨rfl, hb2⟩)
        go_ret
        exact ⟨ret_bool HF.out.symm, hb2⟩
    · have HF := Lib.hid (validB_long hs)
      have hsz : ((200 : Int) < (a0.size : Int)) := by omega
      clear HC hT
      go_enter Tryd.func13, Tryd.ntmps13
      go_wp2
      go_ret
      exact ⟨ret_bool HF.out.symm, Below.refl _ _⟩
  · cases h
end Go.Proofs.YtndgmcifagipjaaDoor
