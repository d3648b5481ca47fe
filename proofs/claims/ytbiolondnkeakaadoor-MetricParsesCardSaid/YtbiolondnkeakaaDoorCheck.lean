/- The walk of metric.kinds: a new map. The walk of metric.Check. -/
import Derived.Test.YtbiolondnkeakaaDoorProg
import Derived.WalkSmall
import Derived.Laws.NewFold
import Derived.Carry
import Derived.Laws.IdiomRangeMap
import Derived.Test.YtbiolondnkeakaaDoorKey
import Derived.Test.YtbiolondnkeakaaDoorParse
import Derived.Deep.RegionWith
import Derived.Laws.EntriesVeiled
namespace Go.Proofs.YtbiolondnkeakaaDoor
open Go.RowKit

/-- A key that is not there is laid into the newest block. -/
theorem run_put (w : World) (es : Array MapEntry) (c : Nat) (n : Int) (v : Value) (hf : Instr.findNow (.int .i64) (.int .i64 n) es.toList 0 = some none) :
    (Instr.mapUpdate 64 (.map (some w.heap.size)) (.int .i64 n) v).run Tryd.prog (w.alloc (.map es c)) = .ok () (w.alloc (.map (es.push ⟨.int .i64 n, v, c⟩) (c + 1))) := by
  have hp : ∀ (x y : Obj), (w.heap.push x).setIfInBounds w.heap.size y = w.heap.push y := by
    intro x y
    apply Array.toList_inj.1
    simp
  have hset : ∀ (o' : Obj), (setObj w.heap.size o').run Tryd.prog (w.alloc (.map es c)) = .ok () (w.alloc o') := fun o' => by
    simp only [setObj, Sem.run]
    rw [heap_alloc_new]
    show Result.ok () ({ w.alloc (.map es c) with heap := (w.heap.push (.map es c)).setIfInBounds w.heap.size o' } : World) = _
    rw [hp]
    rfl
  simp [Instr.mapUpdate, run_underlying Tryd.underlying64, MapKept.run_getObj_map (heap_alloc_new w (.map es c)), MapKept.run_checkKey Tryd.underlying3 (show MapKept.IsKey (.int .i64) (.int .i64 n) from by trivial), MapKept.run_findKey Tryd.underlying3 hf, hset, Result.andThen]

/-- A kind as it stands in the map. -/
def kindV (name : ByteArray) (f : Nat) : Value := .agg #[.string name, .func (.func f) #[] #[]]
def kindsM : Array MapEntry := #[⟨.int .i64 1, kindV ⟨#[115, 117, 109]⟩ 52, 0⟩, ⟨.int .i64 2, kindV ⟨#[99, 111, 117, 110, 116]⟩ 53, 1⟩, ⟨.int .i64 3, kindV ⟨#[115, 104, 97, 114, 101]⟩ 53, 2⟩,
  ⟨.int .i64 4, kindV ⟨#[114, 97, 116, 105, 111]⟩ 52, 3⟩]

set_option maxRecDepth 100000 in
theorem kinds_calls (w : World) : Calls Tryd.prog 31 #[] w fun e w' => e = .returned (.map (some w.heap.size)) ∧ w' = w.alloc (.map kindsM 4) := by
  have kmm := fun w => run_makeMap (P := Tryd.prog) 64 w
  have k1 := fun v => run_put w #[] 0 1 v rfl
  have k2 := fun v1 v => run_put w #[⟨.int .i64 1, v1, 0⟩] 1 2 v rfl
  have k3 := fun v1 v2 v => run_put w #[⟨.int .i64 1, v1, 0⟩, ⟨.int .i64 2, v2, 1⟩] 2 3 v rfl
  have k4 := fun v1 v2 v3 v => run_put w #[⟨.int .i64 1, v1, 0⟩, ⟨.int .i64 2, v2, 1⟩, ⟨.int .i64 3, v3, 2⟩] 3 4 v rfl
  go_enter Tryd.func31, Tryd.ntmps31
  go_wp2_with fail
  go_ret
  exact ⟨rfl, rfl⟩
end Go.Proofs.YtbiolondnkeakaaDoor
namespace Go.Proofs.YtbiolondnkeakaaDoor
open Go.RowKit Plain

/-- The first error of a metric. -/
def checkP (kind : Int) (name below : ByteArray) (window cap least before : Int) : Int :=
  if ¬ (1 ≤ kind ∧ kind ≤ 4) then 7
  else if keyB name = false ∨ (kind = 4 ∧ keyB below = false) then 6
  else if window < 1 ∨ window > 68719476736 ∨ cap < 1 ∨ cap > 1048576 ∨ least < -1099511627776 ∨ least > 1099511627776 ∨ before < 0 ∨ before > 68719476736 then 3
  else if (kind ≠ 4 ∧ below ≠ ⟨#[]⟩) ∨ (kind = 3 ∧ cap ≠ 1) then 15
  else 0

theorem zero68 (w : World) : (zeroValue 68).run Tryd.prog w = .ok (.agg #[.string ⟨#[]⟩, .nilFunc]) w := by kernel_rfl
theorem isKey64 (n : Int) : MapKept.IsKey (.int .i64) (.int .i64 n) := rfl
theorem checkKey64 (w : World) (n : Int) : (Instr.checkKey kindsM.isEmpty 10000 3 (.int .i64 n)).run Tryd.prog w = .ok () w := MapKept.run_checkKey Tryd.underlying3 (isKey64 n) _ 9999

def lookR : Option (Nat × Value) → Value
  | some x => .tuple #[x.2, .bool true]
  | none => .tuple #[.agg #[.string ⟨#[]⟩, .nilFunc], .bool false]
/-- A look for a kind. -/
theorem run_look {w : World} {b : Nat} (n : Int) {r : Option (Nat × Value)} (hb : w.heap[b]? = some (.map kindsM 4)) (hf : Instr.findNow (.int .i64) (.int .i64 n) kindsM.toList 0 = some r) :
    (Instr.lookup 64 (.map (some b)) (.int .i64 n) true).run Tryd.prog w = .ok (lookR r) w := by
  have k := MapKept.run_findKey (P := Tryd.prog) (w := w) Tryd.underlying3 hf
  have c := checkKey64 w n
  have z := zero68 w
  unfold Instr.lookup
  simp only [Sem.run_bind, run_underlying Tryd.underlying64, MapKept.run_getObj_map hb, Result.andThen, Sem.run_pure]
  rw [c]
  simp only
  rw [k]
  simp only
  cases r with
  | some x => rfl
  | none => simp only [Sem.run_bind, z, Result.andThen, Sem.run_pure]; rfl
theorem find_kind (n : Int) : (1 ≤ n ∧ n ≤ 4 ∧ ∃ i s f, Instr.findNow (.int .i64) (.int .i64 n) kindsM.toList 0 = some (some (i, .agg #[.string s, .func (.func f) #[] #[]]))) ∨
    (¬ (1 ≤ n ∧ n ≤ 4) ∧ Instr.findNow (.int .i64) (.int .i64 n) kindsM.toList 0 = some none) := by
  by_cases h : 1 ≤ n ∧ n ≤ 4
  · have : n = 1 ∨ n = 2 ∨ n = 3 ∨ n = 4 := by omega
    refine .inl ⟨h.1, h.2, ?_⟩
    rcases this with rfl | rfl | rfl | rfl <;> exact ⟨_, _, _, rfl⟩
  · refine .inr ⟨h, ?_⟩
    have e1 : (n == 1) = false := by simp; omega
    have e2 : (n == 2) = false := by simp; omega
    have e3 : (n == 3) = false := by simp; omega
    have e4 : (n == 4) = false := by simp; omega
    simp [Instr.findNow, kindsM, Instr.sameNow, e1, e2, e3, e4]

theorem bytes_nil {s : ByteArray} : s.toList = [] ↔ s = ⟨#[]⟩ := by
  rw [ByteArray.toList_eq]
  constructor
  · intro h
    exact ByteArray.ext (by simpa using h)
  · rintro rfl; rfl
/-- What is left to walk, at any world like the one that stands. -/
theorem world_gen {K : Act → World → Prop} {a : Act} {w : World} (S : World → Prop) (h : S w) (k : ∀ W, S W → K a W) : K a w := k w h

set_option maxRecDepth 100000 in
set_option maxHeartbeats 8000000 in
theorem check_calls (a0 : Int) (a1 a2 : ByteArray) (a3 a4 a5 a6 : Int) (w : World) (hT : Tabs w) (_h1 : a1.size ≤ 9223372036854775807) (_h2 : a2.size ≤ 9223372036854775807) :
    Calls Tryd.prog 20 #[.agg #[.int .i64 a0, .string a1, .string a2, .int .i64 a3, .int .i64 a4, .int .i64 a5, .int .i64 a6]] w fun e w' => e = .returned (.int .i64 (checkP a0 a1 a2 a3 a4 a5 a6)) ∧ Below w.heap.size w w' := by
  have HT := Lib.hid hT
  clear hT
  go_enter Tryd.func20, Tryd.ntmps20
  go_wp2_with fail
  obtain ⟨W1, hW1, c0, c1, c2, c3, c4, c5, c6, hb1, hB⟩ : ∃ W1, w.alloc (.cells #[.int .i64 a0, .string a1, .string a2, .int .i64 a3, .int .i64 a4, .int .i64 a5, .int .i64 a6] 29) = W1 ∧ W1.cell? ⟨w.heap.size, 0, none⟩ = some (.int .i64 a0) ∧
      W1.cell? ⟨w.heap.size, 1, none⟩ = some (.string a1) ∧ W1.cell? ⟨w.heap.size, 2, none⟩ = some (.string a2) ∧ W1.cell? ⟨w.heap.size, 3, none⟩ = some (.int .i64 a3) ∧ W1.cell? ⟨w.heap.size, 4, none⟩ = some (.int .i64 a4) ∧
      W1.cell? ⟨w.heap.size, 5, none⟩ = some (.int .i64 a5) ∧ W1.cell? ⟨w.heap.size, 6, none⟩ = some (.int .i64 a6) ∧ Below w.heap.size w W1 ∧ w.heap.size < W1.heap.size :=
    ⟨_, rfl, by simp, by simp, by simp, by simp, by simp, by simp, by simp, (Below.refl _ _).alloc (Nat.le_refl _) _, by rw [World.size_alloc]; omega⟩
  rw [hW1]
  clear hW1
  have HT1 := Lib.hid (Tabs.below HT.out hb1)
  obtain ⟨B, hBw⟩ : ∃ B, w.heap.size = B := ⟨_, rfl⟩
  rw [hBw] at c0 c1 c2 c3 c4 c5 c6 hb1 hB ⊢
  have hfind : ∀ (r : Option (Nat × Value)), Instr.findNow (.int .i64) (.int .i64 a0) kindsM.toList 0 = some r → ∀ v, v = lookR r →
      (∀ o, (Instr.lookup 64 (.map (some W1.heap.size)) (.int .i64 a0) true).run Tryd.prog ((W1.alloc (.map kindsM 4)).alloc o).drew = .ok v ((W1.alloc (.map kindsM 4)).alloc o).drew) ∧
      (∀ o, (Instr.lookup 64 (.map (some (W1.heap.size + 1))) (.int .i64 a0) true).run Tryd.prog ((W1.alloc o).alloc (.map kindsM 4)).drew = .ok v ((W1.alloc o).alloc (.map kindsM 4)).drew) ∧
      ((Instr.lookup 64 (.map (some W1.heap.size)) (.int .i64 a0) true).run Tryd.prog (W1.alloc (.map kindsM 4)).drew = .ok v (W1.alloc (.map kindsM 4)).drew) := by
    rintro r hr v rfl
    refine ⟨fun o => run_look a0 ?_ hr, fun o => run_look a0 ?_ hr, run_look a0 ?_ hr⟩
    · show ((W1.alloc (.map kindsM 4)).alloc o).heap[W1.heap.size]? = _
      rw [heap_alloc_old _ _ (by rw [World.size_alloc]; omega)]
      exact heap_alloc_new W1 _
    · have := heap_alloc_new (W1.alloc o) (.map kindsM 4)
      rw [World.size_alloc] at this
      exact this
    · exact heap_alloc_new W1 _
  rcases find_kind a0 with ⟨n1, n4, i, s, f, hf⟩ | ⟨hn, hf⟩
  · obtain ⟨l1, l2, l3⟩ := hfind _ hf _ rfl
    clear hfind hf
    simp only [lookR] at l1 l2 l3
    go_region_with (first | (go_at_call 31; refine (kinds_calls _).mono ?_; rintro e w' ⟨rfl, rfl⟩))
    all_goals
      refine world_gen (fun W => Below W1.heap.size W1 W) (by first | exact (((Below.refl _ _).alloc (Nat.le_refl _) _).alloc (by simp) _).drew) ?_
      intro W hbW
      have d1 := (hbW.cell (p := ⟨B, 1, none⟩) hB).trans c1
      have d2 := (hbW.cell (p := ⟨B, 2, none⟩) hB).trans c2
      have d3 := (hbW.cell (p := ⟨B, 3, none⟩) hB).trans c3
      have d4 := (hbW.cell (p := ⟨B, 4, none⟩) hB).trans c4
      have d5 := (hbW.cell (p := ⟨B, 5, none⟩) hB).trans c5
      have d6 := (hbW.cell (p := ⟨B, 6, none⟩) hB).trans c6
      have d0 := (hbW.cell (p := ⟨B, 0, none⟩) hB).trans c0
      clear l1 l2 l3
      have hW0 := hb1.trans (hbW.mono (Nat.le_of_lt hB))
      have hBW : B < W.heap.size := Nat.lt_of_lt_of_le hB hbW.size
      go_wp2_with fail
      refine (text_Key.calls a1 _ W (Tabs.below HT1.out hbW) rfl).mono ?_
      rintro e W3 ⟨rfl, hb3⟩
      have hW3 := hW0.trans (hb3.mono (Nat.le_of_lt hBW))
      have e0 := (hb3.cell (p := ⟨B, 0, none⟩) hBW).trans d0
      have e2 := (hb3.cell (p := ⟨B, 2, none⟩) hBW).trans d2
      have e3 := (hb3.cell (p := ⟨B, 3, none⟩) hBW).trans d3
      have e4 := (hb3.cell (p := ⟨B, 4, none⟩) hBW).trans d4
      have e5 := (hb3.cell (p := ⟨B, 5, none⟩) hBW).trans d5
      have e6 := (hb3.cell (p := ⟨B, 6, none⟩) hBW).trans d6
      have hB3 : B < W3.heap.size := Nat.lt_of_lt_of_le hBW hb3.size
      clear d0 d1 d2 d3 d4 d5 d6
    all_goals
      cases hk1 : keyB a1 with
      | false =>
        go_wp2
        go_ret
        exact ⟨congrArg (fun z => Ending.returned (Value.int .i64 z)) (by unfold checkP; rw [if_neg (fun h => h ⟨n1, n4⟩), if_pos (.inl hk1)]), by rw [hBw]; exact hW3⟩
      | true =>
        by_cases h4 : a0 = 4
        · subst h4
          have hb4 : ((4 : Int) == 4) = true := rfl
          go_wp2_with fail
          refine (text_Key.calls a2 _ W3 (Tabs.below (Tabs.below HT1.out hbW) hb3) rfl).mono ?_
          rintro e W4 ⟨rfl, hb4'⟩
          have hW4 := hW3.trans (hb4'.mono (Nat.le_of_lt hB3))
          have f3 := (hb4'.cell (p := ⟨B, 3, none⟩) hB3).trans e3
          have f4 := (hb4'.cell (p := ⟨B, 4, none⟩) hB3).trans e4
          have f5 := (hb4'.cell (p := ⟨B, 5, none⟩) hB3).trans e5
          have f6 := (hb4'.cell (p := ⟨B, 6, none⟩) hB3).trans e6
          have f0 := (hb4'.cell (p := ⟨B, 0, none⟩) hB3).trans e0
          have f2 := (hb4'.cell (p := ⟨B, 2, none⟩) hB3).trans e2
          clear e0 e2 e3 e4 e5 e6
          cases hk2 : keyB a2 with
          | false =>
            go_wp2
            go_ret
            exact ⟨congrArg (fun z => Ending.returned (Value.int .i64 z)) (by unfold checkP; rw [if_neg (fun h => h ⟨n1, n4⟩), if_pos (.inr ⟨rfl, hk2⟩)]), by rw [hBw]; exact hW4⟩
          | true =>
            go_wp2
            all_goals
              go_ret
              refine ⟨congrArg (fun z => Ending.returned (Value.int .i64 z)) ?_, by rw [hBw]; exact hW4⟩
              unfold checkP
              rw [if_neg (fun h => h ⟨n1, n4⟩), if_neg (by rw [hk1, hk2]; rintro (h | ⟨_, h⟩) <;> cases h)]
              first | (rw [if_pos (by omega)]; done) | (rw [if_neg (by omega), if_neg (by rintro (⟨h, _⟩ | ⟨h, _⟩) <;> omega)]; done)
        · have hb4 : (a0 == 4) = false := by simp [h4]
          go_wp2
          all_goals
            go_ret
            refine ⟨congrArg (fun z => Ending.returned (Value.int .i64 z)) ?_, by rw [hBw]; exact hW3⟩
            unfold checkP
            rw [if_neg (fun h => h ⟨n1, n4⟩), if_neg (by rw [hk1]; rintro (h | ⟨h, _⟩); cases h; exact h4 h)]
            first | (rw [if_pos (by omega)]; done) | (rw [if_neg (by omega)]; first | (rw [if_pos (by simp_all [bytes_nil]; done)]; done) | (rw [if_neg (by simp_all [bytes_nil]; done)]; done) | (rw [if_pos (by simp_all [bytes_nil]; omega)]; done) | (rw [if_neg (by simp_all [bytes_nil]; omega)]; done))
  · obtain ⟨l1, l2, l3⟩ := hfind _ hf _ rfl
    clear hfind hf
    simp only [lookR] at l1 l2 l3
    go_region_with (first | (go_at_call 31; refine (kinds_calls _).mono ?_; rintro e w' ⟨rfl, rfl⟩))
    all_goals
      refine world_gen (fun W => Below W1.heap.size W1 W) (by first | exact (((Below.refl _ _).alloc (Nat.le_refl _) _).alloc (by simp) _).drew) ?_
      intro W hbW
      clear l1 l2 l3
      have hW0 := hb1.trans (hbW.mono (Nat.le_of_lt hB))
      go_wp2
      go_ret
      exact ⟨congrArg (fun z => Ending.returned (Value.int .i64 z)) (by unfold checkP; rw [if_pos hn]), by rw [hBw]; exact hW0⟩
end Go.Proofs.YtbiolondnkeakaaDoor
