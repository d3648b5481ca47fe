/- What the rows' list of package-level variables gives a walk ('Tabs'), and a world that meets the list (for the rows' witness). -/
import Derived.Test.YtbiolondnkeakaaDoorRows
import Derived.Test.YtbiolondnkeakaaDoorCards
import Derived.Test.YtbiolondnkeakaaDoorTie
import Derived.Test.YtbiolondnkeakaaDoorTabs
import Derived.WalkKit
import Derived.ProofKit
import Derived.OpenShut
import Derived.SizedLaws
import Derived.Deep.DeepHandedRow
import Derived.Deep.DeepWitnessRowRef
import Derived.Lib.LaidTab
import Derived.Lib.LaidIn
import Derived.Lib.LaidU8T
import Derived.Stop.LaidErr
namespace Go.Proofs.YtbiolondnkeakaaDoor
open Go.ChangeShapes Go.WideShapes Go.ChangeAt Go.RowKit Go.Lib

theorem own : ownKnob Tryd.prog.godebug = none := by kernel_rfl
theorem laidOut : laidOutB Tryd.prog = true := by kernel_rfl

/-- The list that every row bears. -/
def nine : List (String × DataW Unit) := [("math/bits.deBruijn32tab", Rows.laid_math_bits_deBruijn32tab), ("math/bits.deBruijn64tab", Rows.laid_math_bits_deBruijn64tab), ("internal/strconv.uint64pow10", Rows.laid_internal_strconv_uint64pow10), ("strconv.ErrRange", Rows.laid_strconv_ErrRange), ("strconv.ErrSyntax", Rows.laid_strconv_ErrSyntax), ("unicode.White_Space", Rows.laid_unicode_White_Space), ("strings.asciiSpace", Rows.laid_strings_asciiSpace)]

theorem d_pow : (Rows.laid_internal_strconv_uint64pow10 : DataW Unit) = tabData .u64 pow10Tab := by kernel_rfl
theorem d_asc : (Rows.laid_strings_asciiSpace : DataW Unit) = tabData .u8 asciiSpaceTab := by kernel_rfl
theorem tPow : (Tryd.prog.globals[5]?).map (·.type) = some 143 := by kernel_rfl
theorem tAsc : (Tryd.prog.globals[0]?).map (·.type) = some 100 := by kernel_rfl
theorem star : ("*" ++ "errors.errorString" : String) = "*errors.errorString" := by decide +kernel
theorem rowErr (u : TypeId) (h : Tryd.prog.typeName? 3 u = some "*errors.errorString") : u = 148 :=
  typeName_ptr_named (nm := "errors.errorString") (by rw [star]; kernel_rfl) (by kernel_rfl) (by decide) u (by rw [star]; exact h)

theorem tabs_of {W : World} (h : laidMet Tryd.prog nine W) : Tabs W := by
  have hL := h
  unfold nine at hL
  rw [d_pow, d_asc] at hL
  refine ⟨tabIs_of_head (t := 100) (e := 5) (n := 256) gAsc tAsc Tryd.underlying100 Tryd.underlying5 (by kernel_rfl) (by kernel_rfl) hL.tail.tail.tail.tail.tail.tail,
    tabIs_of_head (t := 143) (e := 128) (n := 20) gPow tPow Tryd.underlying143 Tryd.underlying128 (by kernel_rfl) (by kernel_rfl) hL.tail.tail, ?_⟩
  obtain ⟨a, s, hv, _⟩ := laid_sentinel (g := 4) hL.tail.tail.tail (by kernel_rfl) (by kernel_rfl) Tryd.underlying95 rowErr Tryd.underlying148 Tryd.underlying150 rfl rfl Tryd.underlying9 (by kernel_rfl) (by kernel_rfl)
  exact ⟨_, _, hv⟩

/-- THE WITNESS's WORLD: the settled one with four blocks more; the listed variables hold what their initialisers lay. -/
noncomputable def laidWorld (os : Os) : World :=
  let N := (World.settled Tryd.prog os).heap.size
  let w0 := World.holding Tryd.prog os ⟨#[.cells (([9, 13, 1, 32, 133, 101, 160, 5760, 5600, 8192, 8202, 1, 8232, 8233, 1, 8239, 8287, 48, 12288, 12288, 1] : List Int).map fun z => Value.int .u16 z).toArray 122,
    .cells #[.slice (some ⟨N, 0, none⟩) 7 7, .slice none 0 0, .int .i64 2] 120,
    .cells #[.string ⟨#[105, 110, 118, 97, 108, 105, 100, 32, 115, 121, 110, 116, 97, 120]⟩] 150, .cells #[.string ⟨#[118, 97, 108, 117, 101, 32, 111, 117, 116, 32, 111, 102, 32, 114, 97, 110, 103, 101]⟩] 150], #[], []⟩
  let put (h : Array Obj) (g : Nat) (cs : Array Value) : Array Obj := h.modify g fun
    | .cells _ t frozen => .cells cs t frozen
    | o => o
  let h1 := put w0.heap 0 (asciiSpaceTab.map fun z => Value.int .u8 z).toArray
  let h4 := put h1 1 #[.pointer (some ⟨N + 1, 0, none⟩)]
  let h5 := put h4 3 #[.iface 148 (.pointer (some ⟨N + 2, 0, none⟩))]
  let h6 := put h5 4 #[.iface 148 (.pointer (some ⟨N + 3, 0, none⟩))]
  let h7 := put h6 5 (pow10Tab.map fun z => Value.int .u64 z).toArray
  let h8 := put h7 6 (([0, 1, 28, 2, 29, 14, 24, 3, 30, 22, 20, 15, 25, 17, 4, 8, 31, 27, 13, 23, 21, 19, 16, 7, 26, 12, 18, 6, 11, 5, 10, 9] : List Int).map fun z => Value.int .u8 z).toArray
  let h9 := put h8 7 (([0, 1, 56, 2, 57, 49, 28, 3, 61, 58, 42, 50, 38, 29, 17, 4, 62, 47, 59, 36, 45, 43, 51, 22, 53, 39, 33, 30, 24, 18, 12, 5, 63, 55, 48, 27, 60, 41, 37, 16, 46, 35, 44, 21, 52, 32, 23, 11, 54, 26, 40, 15, 34, 20, 31, 10, 25, 14, 19, 9, 13, 8, 7, 6] : List Int).map fun z => Value.int .u8 z).toArray
  { w0 with heap := h9 }
noncomputable abbrev N0 : Nat := (World.settled Tryd.prog default).heap.size
set_option maxRecDepth 1000000 in
theorem laid_met (os : Os) (args : Array Value) : laidMet Tryd.prog nine ((laidWorld os).forCall (fun _ _ => 0) ⟨#[], args, []⟩).memory :=
  (LaidIn.of_run [0, 1, 2, 3, 4, 5, 6, 7, 8, N0, N0 + 1, N0 + 2, N0 + 3] 10 (by kernel_rfl) (by kernel_rfl) (by kernel_rfl) (by kernel_rfl)).met
end Go.Proofs.YtbiolondnkeakaaDoor
