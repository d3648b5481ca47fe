/- The plain law of TextParses, told in two halves (at most 60 digits, or more), and the two walks in one. -/
import Derived.Test.YtndgmcifagipjaaDoorPureParse
import Derived.Test.YtndgmcifagipjaaDoorPPAx2
import Derived.Test.YtndgmcifagipjaaDoorPPBx1
namespace Go.Proofs.YtndgmcifagipjaaDoor.Pure
open Go.RowKit Go.Proofs.YtndgmcifagipjaaDoor.PPA Go.Proofs.YtndgmcifagipjaaDoorW.PrintWords Go.Proofs.YtndgmcifagipjaaDoorW.PrintLast Go.Proofs.YtndgmcifagipjaaDoorW.PrintMore Plain

theorem encode_size2 (n : Int) : (Utf8.encode n).size ≤ 4 := by
  unfold Utf8.encode
  dsimp only
  generalize (if Utf8.valid n = true then n.toNat else Utf8.runeError) = c
  by_cases h1 : c < 0x80
  · rw [if_pos h1]; exact (show 1 ≤ 4 by omega)
  · rw [if_neg h1]
    by_cases h2 : c < 0x800
    · rw [if_pos h2]; exact (show 2 ≤ 4 by omega)
    · rw [if_neg h2]
      by_cases h3 : c < 0x10000
      · rw [if_pos h3]; exact (show 3 ≤ 4 by omega)
      · rw [if_neg h3]; exact (show 4 ≤ 4 by omega)
set_option maxRecDepth 100000 in
theorem awake_true2 : flagstonelaw1_awake.f = some true := by decide +kernel

theorem parses_l1_a (l : List ByteArray) (hl : ∀ s ∈ l, s.size ≤ 140737488355000) (hn : l.length ≤ 100) (d : Nat) : ∀ (k i : Nat), i + d = l.length → 300000000000000 + d < k → PPA.flagstonelaw1_TextParses.l1 k l (l.length : Int) (i : Int) = some true := by
  induction d with
  | zero =>
    intro k i hi hk
    obtain ⟨k, rfl⟩ : ∃ m, k = m + 1 := ⟨k - 1, by omega⟩
    rw [PPA.flagstonelaw1_TextParses.l1, if_neg (by omega)]
  | succ d ih =>
    intro k i hi hk
    obtain ⟨k, rfl⟩ : ∃ m, k = m + 1 := ⟨k - 1, by omega⟩
    have hlt : i < l.length := by omega
    rw [PPA.flagstonelaw1_TextParses.l1, if_pos (by omega), if_pos (by omega), if_pos (by omega), wrap_succ2 (by omega)]
    have hrd : rdOf ByteArray.empty l (i : Int) = l[i] := by unfold rdOf; simp [hlt]
    rw [hrd]
    have hs := hl _ (List.getElem_mem hlt)
    rw [refparse l[i] k (by omega) (by omega)]
    unfold text_ParseNumber.f
    rw [if_pos (by omega)]
    simp only [Option.bind_some, if_true]
    exact ih k (i + 1) (by omega) (by omega)

theorem parses_l0_a (x0 : ByteArray) (x1 : List Int) (h0 : x0.size ≤ 140737488351232) (h1 : x1.length ≤ 60) (d : Nat) : ∀ (k i : Nat) (x5 : ByteArray), i + d = x1.length → x5.size ≤ 4 * i → 300000000000100 + d < k →
    PPA.flagstonelaw1_TextParses.l0 k x0 x1 x5 (i : Int) = some true := by
  induction d with
  | zero =>
    intro k i x5 hi hx hk
    obtain ⟨k, rfl⟩ : ∃ m, k = m + 1 := ⟨k - 1, by omega⟩
    have a1 : (⟨#[45]⟩ : ByteArray).size = 1 := rfl
    have a2 : (⟨#[48]⟩ : ByteArray).size = 1 := rfl
    have a3 : (⟨#[49]⟩ : ByteArray).size = 1 := rfl
    rw [PPA.flagstonelaw1_TextParses.l0, if_neg (by omega), if_pos (by omega), if_pos (by omega), if_pos (by rw [ByteArray.size_append, a3]; omega)]
    simp only [Option.bind_some]
    refine parses_l1_a _ ?_ (by simp) 6 k 0 (by simp) (by omega)
    intro s hs
    simp only [List.mem_cons, List.not_mem_nil, or_false] at hs
    rcases hs with rfl | rfl | rfl | rfl | rfl | rfl
    · omega
    · omega
    · rw [ByteArray.size_append, a1]; omega
    · rw [ByteArray.size_append, a2]; omega
    · rw [ByteArray.size_append]; omega
    · rw [ByteArray.size_append, ByteArray.size_append, a2, a3]; omega
  | succ d ih =>
    intro k i x5 hi hx hk
    obtain ⟨k, rfl⟩ : ∃ m, k = m + 1 := ⟨k - 1, by omega⟩
    have he := encode_size2 ((48 + (Int.tmod (rd x1 (i : Int)) 10)) % 256)
    rw [PPA.flagstonelaw1_TextParses.l0, if_pos (by omega), if_pos (by omega)]
    generalize Utf8.encode ((48 + (Int.tmod (rd x1 (i : Int)) 10)) % 256) = E at he
    rw [if_pos (by omega), wrap_succ2 (by omega)]
    exact ih k (i + 1) _ (by omega) (by rw [ByteArray.size_append]; omega) (by omega)

theorem parses_l1_b (l : List ByteArray) (hl : ∀ s ∈ l, s.size ≤ 140737488355000) (hn : l.length ≤ 100) (d : Nat) : ∀ (k i : Nat), i + d = l.length → 300000000000000 + d < k → PPB.flagstonelaw1_TextParses.l1 k l (l.length : Int) (i : Int) = some true := by
  induction d with
  | zero =>
    intro k i hi hk
    obtain ⟨k, rfl⟩ : ∃ m, k = m + 1 := ⟨k - 1, by omega⟩
    rw [PPB.flagstonelaw1_TextParses.l1, if_neg (by omega)]
  | succ d ih =>
    intro k i hi hk
    obtain ⟨k, rfl⟩ : ∃ m, k = m + 1 := ⟨k - 1, by omega⟩
    have hlt : i < l.length := by omega
    rw [PPB.flagstonelaw1_TextParses.l1, if_pos (by omega), if_pos (by omega), if_pos (by omega), wrap_succ2 (by omega)]
    have hrd : rdOf ByteArray.empty l (i : Int) = l[i] := by unfold rdOf; simp [hlt]
    rw [hrd]
    have hs := hl _ (List.getElem_mem hlt)
    rw [refparse l[i] k (by omega) (by omega)]
    unfold text_ParseNumber.f
    rw [if_pos (by omega)]
    simp only [Option.bind_some, if_true]
    exact ih k (i + 1) (by omega) (by omega)

theorem parses_l0_b (x0 : ByteArray) (x1 : List Int) (h0 : x0.size ≤ 140737488351232) (h1 : x1.length ≤ 60) (d : Nat) : ∀ (k i : Nat) (x5 : ByteArray), i + d = x1.length → x5.size ≤ 4 * i → 300000000000100 + d < k →
    PPB.flagstonelaw1_TextParses.l0 k x0 x1 x5 (i : Int) = some true := by
  induction d with
  | zero =>
    intro k i x5 hi hx hk
    obtain ⟨k, rfl⟩ : ∃ m, k = m + 1 := ⟨k - 1, by omega⟩
    have a1 : (⟨#[45]⟩ : ByteArray).size = 1 := rfl
    have a2 : (⟨#[48]⟩ : ByteArray).size = 1 := rfl
    have a3 : (⟨#[49]⟩ : ByteArray).size = 1 := rfl
    rw [PPB.flagstonelaw1_TextParses.l0, if_neg (by omega), if_pos (by omega), if_pos (by omega), if_pos (by rw [ByteArray.size_append, a3]; omega)]
    simp only [Option.bind_some]
    refine parses_l1_b _ ?_ (by simp) 6 k 0 (by simp) (by omega)
    intro s hs
    simp only [List.mem_cons, List.not_mem_nil, or_false] at hs
    rcases hs with rfl | rfl | rfl | rfl | rfl | rfl
    · omega
    · omega
    · rw [ByteArray.size_append, a1]; omega
    · rw [ByteArray.size_append, a2]; omega
    · rw [ByteArray.size_append]; omega
    · rw [ByteArray.size_append, ByteArray.size_append, a2, a3]; omega
  | succ d ih =>
    intro k i x5 hi hx hk
    obtain ⟨k, rfl⟩ : ∃ m, k = m + 1 := ⟨k - 1, by omega⟩
    have he := encode_size2 ((48 + (Int.tmod (rd x1 (i : Int)) 10)) % 256)
    rw [PPB.flagstonelaw1_TextParses.l0, if_pos (by omega), if_pos (by omega)]
    generalize Utf8.encode ((48 + (Int.tmod (rd x1 (i : Int)) 10)) % 256) = E at he
    rw [if_pos (by omega), wrap_succ2 (by omega)]
    exact ih k (i + 1) _ (by omega) (by rw [ByteArray.size_append]; omega) (by omega)

theorem parses_a (a0 : ByteArray) (l1 : List Int) (h0 : a0.size ≤ 140737488351232) (h1 : ¬ (l1.length : Int) > 60) : ∃ k, PPA.flagstonelaw1_TextParses.f k a0 l1 = some true := by
  refine ⟨400000000000000, ?_⟩
  unfold PPA.flagstonelaw1_TextParses.f
  rw [awake_true2]
  simp only [Option.bind_some, if_true]
  rw [if_neg h1]
  exact parses_l0_a a0 l1 h0 (by omega) l1.length _ 0 _ (by omega) (by decide) (by omega)
theorem parses_b (a0 : ByteArray) (l1 : List Int) (h0 : a0.size ≤ 140737488351232) (h1 : (l1.length : Int) > 60) : ∃ k, PPB.flagstonelaw1_TextParses.f k a0 l1 = some true := by
  refine ⟨400000000000000, ?_⟩
  unfold PPB.flagstonelaw1_TextParses.f
  rw [awake_true2]
  simp only [Option.bind_some, if_true]
  rw [if_pos h1, if_pos (by omega)]
  have hl : (l1.take 60).length = 60 := by rw [List.length_take]; omega
  exact parses_l0_b a0 (l1.take 60) h0 (by omega) 60 _ 0 _ (by omega) (by decide) (by omega)
end Go.Proofs.YtndgmcifagipjaaDoor.Pure
namespace Go.Proofs.YtndgmcifagipjaaDoor.PW
open Go.RowKit Go.Proofs.YtndgmcifagipjaaDoorW.PrintWords Go.Proofs.YtndgmcifagipjaaDoorW.PrintLast Go.Proofs.YtndgmcifagipjaaDoorW.PrintMore
theorem flagstonelaw1_TextParses.walk (_ : True) (a0 : ByteArray) (a1 : Option Addr) (len1 cap1 : Nat) (z1 : List Int) (w : World) (hT : Tabs w) (w0 : a0.size ≤ 140737488351232) (w1 : (a1 = none ∧ len1 = 0 ∧ cap1 = 0 ∧ z1 = []) ∨ ∃ x, a1 = some x ∧ len1 ≤ cap1 ∧ cap1 ≤ maxLen ∧ z1.length = cap1 ∧ (∀ i, i < z1.length → w.cell? (x.add i) = some (.int .u8 (z1.getD i 0))) ∧ ∀ n ∈ z1, (Lit.int .u8 n).wf = true) (_y1 : len1 * 1 ≤ 140737488351232) :
    Calls Tryd.prog 6 #[.string a0, .slice a1 len1 cap1] w fun e w' => e = .returned (.bool true) ∧ Below w.heap.size w w' := by
  obtain ⟨l1, rfl, hr1, hm1, hw1, hc1⟩ := ReadsInt.ofRowC w1
  by_cases h : (l1.length : Int) > 60
  · obtain ⟨k, hk⟩ := Pure.parses_b a0 l1 w0 h
    exact PPB.flagstonelaw1_TextParses.calls k a0 _ _ l1 true w hT (Kd.C_of_reads (d := (0 : Int)) (h1 := fun _ => rfl) hr1) hc1 hk
  · obtain ⟨k, hk⟩ := Pure.parses_a a0 l1 w0 h
    exact PPA.flagstonelaw1_TextParses.calls k a0 _ _ l1 true w hT (Kd.C_of_reads (d := (0 : Int)) (h1 := fun _ => rfl) hr1) hc1 hk
end Go.Proofs.YtndgmcifagipjaaDoor.PW
