/- The walk of text.Reserved: the reserved words in a new row. -/
import Derived.Test.YtndgmcifagipjaaDoorKey
import Derived.Test.YtndgmcifagipjaaDoorWWords
namespace Go.Proofs.YtndgmcifagipjaaDoor
open Go.RowKit Plain Go.Proofs.YtndgmcifagipjaaDoorW.PrintWords

def text_Reserved.f : Option (List ByteArray) := some reservedB
set_option maxRecDepth 100000 in
theorem text_Reserved.calls (r : List ByteArray) (w : World) (hT : Tabs w) (h : text_Reserved.f = some r) :
    Calls Tryd.prog 19 #[] w fun e w' => ∃ v0_ : Value, e = .returned (v0_) ∧ Kd.R Kd.string 9 w' w.heap.size (fun _ => True) v0_ r ∧ Below w.heap.size w w' := by
  obtain rfl := Option.some.inj h
  have HT := Lib.hid hT
  clear hT
  go_enter Tryd.func19, Tryd.ntmps19
  go_wp2_with fail
  refine (fields_const _ _ ?hs HT.out).mono ?_
  case hs => rfl
  rintro e w2 ⟨rfl, rfl⟩
  go_wp2
  go_ret
  refine ⟨_, rfl, Kd.R_of_own (enc := Value.string) (h1 := fun _ => rfl) ?_ (fun _ _ => trivial), (Below.refl _ _).alloc (Nat.le_refl _) _⟩
  refine ⟨by simp [encs], .inr ⟨w.heap.size, 46, (reservedB.map Value.string).toArray, by simp [reserved_length], Nat.le_refl _, ?_, ?_⟩⟩
  · exact heap_alloc_new w _
  · refine ⟨by decide, by unfold maxLen; decide, by simp [reserved_length], ?_⟩
    rw [List.take_of_length_le (by simp)]
    rfl
end Go.Proofs.YtndgmcifagipjaaDoor
