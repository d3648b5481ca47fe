/- The walk of the law's sanity check. -/
import Derived.Test.YtbiolondnkeakaaDoorValue
namespace Go.Proofs.YtbiolondnkeakaaDoor
open Go.RowKit Plain

def awakeS : ByteArray := ⟨#[115, 117, 109, 32, 111, 102, 32, 114, 101, 118, 101, 110, 117, 101, 32, 119, 105, 116, 104, 105, 110, 32, 54, 48, 52, 56, 48, 48, 32, 99, 97, 112, 32, 53, 48, 48, 32, 108, 101, 97, 115, 116, 32, 49]⟩
def revenue : ByteArray := ⟨#[114, 101, 118, 101, 110, 117, 101]⟩
def awakeM : Met := ⟨1, revenue, ⟨#[]⟩, 604800, 500, 1, 0⟩
def awakeL : List Ev := [⟨⟨#[]⟩, 0, 2, 0, ⟨#[]⟩, revenue, ⟨#[]⟩, 0, 0, 7⟩, ⟨⟨#[]⟩, 0, 2, 0, ⟨#[]⟩, revenue, ⟨#[]⟩, 0, 0, -2⟩]
theorem awake_parse : parseM awakeS = (awakeM, 0) := by kernel_rfl
theorem awake_value : valP awakeM awakeL = (7, 0) := by kernel_rfl

theorem row_lit (w : World) (l : List Ev) (t : TypeId) : EvRow (w.alloc (.cells (evCells l).toArray t)) w.heap.size 0 l := EvRow.of_flat fun i u hu => by
  rw [Nat.zero_add, cell_of_row _ w.heap.size i (evCells l).toArray t (0, 0) (heap_alloc_new w _)]
  simpa using hu

set_option maxRecDepth 100000 in
set_option maxHeartbeats 4000000 in
theorem awake_calls (w : World) (hT : Tabs w) : Calls Tryd.prog 9 #[] w fun e w' => e = .returned (.bool true) ∧ Below w.heap.size w w' := by
  have HT := Lib.hid (And.intro hT trivial)
  clear hT
  go_enter Tryd.func9, Tryd.ntmps9
  go_wp2_with fail
  refine (parse_any awakeS w HT.out.1).mono ?_
  rw [awake_parse]
  rintro e w1 ⟨rfl, hb1⟩
  have HB1 := Lib.hid hb1
  clear hb1
  simp only [awakeM, Met.val]
  go_wp2_with fail
  obtain ⟨W, hW, hbW, hT, hr, hM⟩ : ∃ W, (w1.alloc (.cells #[.int .i64 1, .string revenue, .string ⟨#[]⟩, .int .i64 604800, .int .i64 500, .int .i64 1, .int .i64 0] 29)).alloc (.cells (evCells awakeL).toArray 40) = W ∧ Below w.heap.size w W ∧ Tabs W ∧ IsEvs (.slice (some ⟨w1.heap.size + 1, 0, none⟩) 2 2) awakeL W ∧ W.cell? ⟨w1.heap.size, 3, none⟩ = some (.int .i64 604800) := by
    have hb : Below w.heap.size w ((w1.alloc (.cells #[.int .i64 1, .string revenue, .string ⟨#[]⟩, .int .i64 604800, .int .i64 500, .int .i64 1, .int .i64 0] 29)).alloc (.cells (evCells awakeL).toArray 40)) := (HB1.out.alloc HB1.out.size _).alloc (by rw [World.size_alloc]; have := HB1.out.size; omega) _
    refine ⟨_, rfl, hb, Tabs.below HT.out.1 hb, .inr ⟨w1.heap.size + 1, 0, 2, rfl, ?_, by simp⟩, by simp⟩
    have := row_lit (w1.alloc (.cells #[.int .i64 1, .string revenue, .string ⟨#[]⟩, .int .i64 604800, .int .i64 500, .int .i64 1, .int .i64 0] 29)) awakeL 40
    rw [World.size_alloc] at this
    exact this
  have HW := Lib.hid (And.intro hbW (And.intro hT hr))
  have hMl := World.block_lt_of_cell? W _ hM
  change _ < W.heap.size at hMl
  clear hbW hT hr
  change Calls _ _ _ ((w1.alloc (.cells #[.int .i64 1, .string revenue, .string ⟨#[]⟩, .int .i64 604800, .int .i64 500, .int .i64 1, .int .i64 0] 29)).alloc (.cells (evCells awakeL).toArray 40)) _
  rw [hW]
  clear hW
  refine (value_calls awakeM _ awakeL W HW.out.2.1 HW.out.2.2 (by decide) (by decide) (by decide)).mono ?_
  rw [awake_value]
  rintro e w2 ⟨rfl, hb2⟩
  have hM2 := (hb2.cell (p := ⟨w1.heap.size, 3, none⟩) hMl).trans hM
  have HB2 := Lib.hid (HW.out.1.trans (hb2.mono HW.out.1.size))
  clear hb2 hM HW
  go_wp2_with fail
  go_ret
  exact ⟨rfl, HB2.out⟩
end Go.Proofs.YtbiolondnkeakaaDoor
