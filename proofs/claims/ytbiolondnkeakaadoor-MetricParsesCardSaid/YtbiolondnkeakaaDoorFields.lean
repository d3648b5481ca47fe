/- The words of a text, as metric.Parse takes them: strings.FieldsFunc at its closure. -/
import Derived.Test.YtbiolondnkeakaaDoorTabs
import Derived.Test.YtbiolondnkeakaaDoorShelf
import Derived.Shelf.Strings.FieldsFuncAny
import Derived.WalkKit
import Derived.WalkSpells
namespace Go.Proofs.YtbiolondnkeakaaDoor
open Go.RowKit Go.Shelf Go.Lib

/-- A blank between words. -/
def blank (r : Nat) : Bool := decide (r = 32) || (decide (r = 9) || decide (r = 10))
theorem blank_at (w : World) : PredAt Tryd.prog 29 #[] encR blank w := fun W r _ => by
  unfold FnGives
  have z1 : ((r : Int) == 32) = decide (r = 32) := by by_cases h : r = 32 <;> simp [h]; omega
  have z2 : ((r : Int) == 9) = decide (r = 9) := by by_cases h : r = 9 <;> simp [h]; omega
  have z3 : ((r : Int) == 10) = decide (r = 10) := by by_cases h : r = 10 <;> simp [h]; omega
  cases h1 : decide (r = 32) <;> cases h2 : decide (r = 9) <;> cases h3 : decide (r = 10)
  all_goals
    have e : blank r = (decide (r = 32) || (decide (r = 9) || decide (r = 10))) := rfl
    rw [h1, h2, h3] at e
    rw [h1] at z1
    rw [h2] at z2
    rw [h3] at z3
    clear h1 h2 h3
    rw [show #[encR r] = #[Value.int .i32 (r : Int)] from rfl, e]
    go_enter Tryd.func29, Tryd.ntmps29
    go_wp2
    go_ret
    exact ⟨rfl, 0, rfl⟩

set_option maxRecDepth 100000 in
theorem fields_calls (s : ByteArray) (w : World) (hs : s.size ≤ 4294967296) :
    Calls Tryd.prog 28 #[.string s, .func (.func 29) #[] #[]] w fun e w' => ∃ A, e = .returned (.slice (some ⟨A, 0, none⟩) (goFieldsP blank s).length (goFieldsP blank s).length) ∧ w.heap.size ≤ A ∧
      w'.ownsRow w.heap.size 9 1 (.slice (some ⟨A, 0, none⟩) (goFieldsP blank s).length (goFieldsP blank s).length) (goFieldsP blank s).length ((goFieldsP blank s).map Value.string) ∧ Below w.heap.size w w' :=
  Any.strings_FieldsFunc Tryd.laysFF 29 #[] (fun _ _ => by kernel_rfl) blank s w hs (blank_at w) (by kernel_rfl) (by kernel_rfl)
end Go.Proofs.YtbiolondnkeakaaDoor
