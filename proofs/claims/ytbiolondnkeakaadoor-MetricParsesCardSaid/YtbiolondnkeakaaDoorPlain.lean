/- Plain functions on bytes: what keys, texts, quoted texts and numbers are, with no program in sight. -/
import Derived.Laws.RangeAny
import Derived.Lib.DecodeN
import Derived.Lib.ValidU
import Derived.Lib.Fields
import Derived.Lib.AtoiAll
import Derived.Lib.ItoaNum
namespace Go.Proofs.YtbiolondnkeakaaDoor.Plain
open Go

/-- A letter, or behind the first place a digit, '-' or '_'. -/
def wordAt (j c : Nat) : Bool := (decide (97 ≤ c) && decide (c ≤ 122)) || (decide (j ≠ 0) && ((decide (48 ≤ c) && decide (c ≤ 57)) || decide (c = 45) || decide (c = 95)))

/-- The reserved words in one text, and one by one. -/
def wordsL : List UInt8 := [97, 110, 100, 32, 97, 114, 109, 115, 32, 97, 116, 116, 114, 105, 98, 117, 116, 101, 32, 98, 111, 111, 108, 32, 99, 108, 97, 105, 109, 115, 32, 99, 111, 110, 116, 97, 105, 110, 115, 32, 99, 111, 111, 108, 32, 99, 111, 111, 108, 105, 110, 103, 32, 100, 101, 102, 97, 117, 108, 116, 32, 100, 114, 97, 102, 116, 32, 101, 110, 100, 115, 32, 101, 120, 99, 108, 117, 100, 101, 32, 101, 120, 105, 115, 116, 115, 32, 101, 120, 112, 101, 114, 105, 109, 101, 110, 116, 32, 102, 97, 108, 115, 101, 32, 102, 108, 97, 103, 32, 104, 111, 108, 100, 111, 117, 116, 32, 105, 110, 32, 105, 110, 99, 108, 117, 100, 101, 32, 105, 115, 32, 108, 97, 121, 101, 114, 32, 108, 105, 115, 116, 32, 109, 101, 109, 98, 101, 114, 32, 110, 101, 101, 100, 115, 32, 110, 111, 116, 32, 110, 117, 109, 98, 101, 114, 32, 111, 102, 102, 32, 111, 110, 32, 111, 114, 32, 114, 117, 108, 101, 32, 114, 117, 110, 110, 105, 110, 103, 32, 115, 97, 108, 116, 32, 115, 101, 103, 109, 101, 110, 116, 32, 115, 101, 114, 118, 101, 32, 115, 101, 116, 116, 105, 110, 103, 115, 32, 115, 112, 108, 105, 116, 32, 115, 116, 97, 114, 116, 115, 32, 115, 116, 111, 112, 112, 101, 100, 32, 116, 97, 114, 103, 101, 116, 32, 116, 101, 120, 116, 32, 116, 111, 32, 116, 114, 117, 101, 32, 117, 110, 116, 105, 108, 32, 118, 97, 114, 105, 97, 116, 105, 111, 110, 115, 32, 118, 101, 114, 115, 105, 111, 110, 32, 119, 104, 101, 110]
def reservedB : List ByteArray := [
  ⟨#[97, 110, 100]⟩,
  ⟨#[97, 114, 109, 115]⟩,
  ⟨#[97, 116, 116, 114, 105, 98, 117, 116, 101]⟩,
  ⟨#[98, 111, 111, 108]⟩,
  ⟨#[99, 108, 97, 105, 109, 115]⟩,
  ⟨#[99, 111, 110, 116, 97, 105, 110, 115]⟩,
  ⟨#[99, 111, 111, 108]⟩,
  ⟨#[99, 111, 111, 108, 105, 110, 103]⟩,
  ⟨#[100, 101, 102, 97, 117, 108, 116]⟩,
  ⟨#[100, 114, 97, 102, 116]⟩,
  ⟨#[101, 110, 100, 115]⟩,
  ⟨#[101, 120, 99, 108, 117, 100, 101]⟩,
  ⟨#[101, 120, 105, 115, 116, 115]⟩,
  ⟨#[101, 120, 112, 101, 114, 105, 109, 101, 110, 116]⟩,
  ⟨#[102, 97, 108, 115, 101]⟩,
  ⟨#[102, 108, 97, 103]⟩,
  ⟨#[104, 111, 108, 100, 111, 117, 116]⟩,
  ⟨#[105, 110]⟩,
  ⟨#[105, 110, 99, 108, 117, 100, 101]⟩,
  ⟨#[105, 115]⟩,
  ⟨#[108, 97, 121, 101, 114]⟩,
  ⟨#[108, 105, 115, 116]⟩,
  ⟨#[109, 101, 109, 98, 101, 114]⟩,
  ⟨#[110, 101, 101, 100, 115]⟩,
  ⟨#[110, 111, 116]⟩,
  ⟨#[110, 117, 109, 98, 101, 114]⟩,
  ⟨#[111, 102, 102]⟩,
  ⟨#[111, 110]⟩,
  ⟨#[111, 114]⟩,
  ⟨#[114, 117, 108, 101]⟩,
  ⟨#[114, 117, 110, 110, 105, 110, 103]⟩,
  ⟨#[115, 97, 108, 116]⟩,
  ⟨#[115, 101, 103, 109, 101, 110, 116]⟩,
  ⟨#[115, 101, 114, 118, 101]⟩,
  ⟨#[115, 101, 116, 116, 105, 110, 103, 115]⟩,
  ⟨#[115, 112, 108, 105, 116]⟩,
  ⟨#[115, 116, 97, 114, 116, 115]⟩,
  ⟨#[115, 116, 111, 112, 112, 101, 100]⟩,
  ⟨#[116, 97, 114, 103, 101, 116]⟩,
  ⟨#[116, 101, 120, 116]⟩,
  ⟨#[116, 111]⟩,
  ⟨#[116, 114, 117, 101]⟩,
  ⟨#[117, 110, 116, 105, 108]⟩,
  ⟨#[118, 97, 114, 105, 97, 116, 105, 111, 110, 115]⟩,
  ⟨#[118, 101, 114, 115, 105, 111, 110]⟩,
  ⟨#[119, 104, 101, 110]⟩]
theorem reserved_length : reservedB.length = 46 := rfl
set_option maxRecDepth 100000 in
theorem fields_words : (Lib.fields wordsL).map (fun l => (⟨l.toArray⟩ : ByteArray)) = reservedB := by decide +kernel
theorem fields_length : (Lib.fields wordsL).length = 46 := by decide +kernel
theorem words_ascii : ∀ (j : Nat) b, wordsL[j]? = some b → b.toNat < 128 := by
  intro j b h
  have : ∀ b ∈ wordsL, b.toNat < 128 := by decide +kernel
  exact this b (List.mem_of_getElem? h)
theorem fields_values : (Lib.fields wordsL).map (fun l => Value.string ⟨l.toArray⟩) = reservedB.map Value.string := by
  rw [← fields_words, List.map_map]
  rfl

def wordP (s : ByteArray) : Prop := 0 < s.size ∧ ∀ j, j < s.size → wordAt j (s.get! j).toNat = true
instance (s : ByteArray) : Decidable (wordP s) := inferInstanceAs (Decidable (_ ∧ _))

def validP (s : ByteArray) : Prop := s.size ≤ 200 ∧ Lib.validD s.data.toList = true ∧ ∀ j, j < s.size → 32 ≤ (s.get! j).toNat ∧ (s.get! j).toNat ≠ 127
instance (s : ByteArray) : Decidable (validP s) := inferInstanceAs (Decidable (_ ∧ _ ∧ _))
def validB (s : ByteArray) : Bool := decide (validP s)

theorem get!_of (s : ByteArray) (j : Nat) (h : j < s.size) : s.get! j = s[j]'h := by
  cases s with
  | mk d => exact getElem!_pos d j h

/-- The bytes that one step of the decoder takes, behind the first, are 128 or more; and they lie in the text. -/
theorem decode_bytes (s : ByteArray) (pos : Nat) (h : pos < s.size) :
    pos + (Utf8.decode s pos).2 ≤ s.size ∧ 1 ≤ (Utf8.decode s pos).2 ∧ (∀ j, pos < j → j < pos + (Utf8.decode s pos).2 → 128 ≤ (s.get! j).toNat) ∧
      (((s.get! pos).toNat < 128 ∧ (Utf8.decode s pos).1 = (s.get! pos).toNat ∧ (Utf8.decode s pos).2 = 1) ∨ (128 ≤ (s.get! pos).toNat ∧ 128 ≤ (Utf8.decode s pos).1)) := by
  have hlow := Lib.decode_at s pos
  generalize Utf8.decode s pos = r at hlow ⊢
  subst hlow
  have key : ∀ d b, (s.get! (pos + d)).toNat = b → b / 64 = 2 → 128 ≤ (s.get! (pos + d)).toNat := by intro d b e h2; omega
  unfold Lib.decodeN
  generalize h1 : (s.get! (pos + 1)).toNat = b1
  generalize h2 : (s.get! (pos + 2)).toNat = b2
  generalize h3 : (s.get! (pos + 3)).toNat = b3
  generalize h0 : (s.get! pos).toNat = b0
  have pick : ∀ n, n ≤ 4 → ∀ j, pos < j → j < pos + n → j = pos + 1 ∨ j = pos + 2 ∨ j = pos + 3 := by intro n hn j a b; omega
  repeat' split
  all_goals
    refine ⟨by dsimp only; omega, by dsimp only; omega, ?_, by dsimp only; omega⟩
    intro j hj1 hj2
    dsimp only at hj2
    rcases pick _ (by omega) j hj1 hj2 with rfl | rfl | rfl <;> omega

def wordTo (s : ByteArray) (k : Nat) : Prop := ∀ j, j < k → wordAt j (s.get! j).toNat = true
def wordB (s : ByteArray) : Bool := decide (wordP s)
theorem wordTo_zero (s : ByteArray) : wordTo s 0 := fun j h => absurd h (Nat.not_lt_zero j)
theorem wordTo_succ {s : ByteArray} {k : Nat} (h : k < s.size) (ht : wordTo s k) (hc : (97 ≤ (s[k].toNat : Int) ∧ (s[k].toNat : Int) ≤ 122) ∨ (k ≠ 0 ∧ ((48 ≤ (s[k].toNat : Int) ∧ (s[k].toNat : Int) ≤ 57) ∨ (s[k].toNat : Int) = 45 ∨ (s[k].toNat : Int) = 95))) : wordTo s (k + 1) := by
  intro j hj
  by_cases e : j = k
  · subst e
    rw [get!_of s j h]
    generalize s[j].toNat = c at hc
    simp only [wordAt, Bool.or_eq_true, Bool.and_eq_true, decide_eq_true_eq]
    omega
  · exact ht j (by omega)
theorem wordB_false {s : ByteArray} {k : Nat} (h : k < s.size) (hc : ¬ ((97 ≤ (s[k].toNat : Int) ∧ (s[k].toNat : Int) ≤ 122) ∨ (k ≠ 0 ∧ ((48 ≤ (s[k].toNat : Int) ∧ (s[k].toNat : Int) ≤ 57) ∨ (s[k].toNat : Int) = 45 ∨ (s[k].toNat : Int) = 95)))) : wordB s = false := by
  refine decide_eq_false fun hp => hc ?_
  have := hp.2 k h
  rw [get!_of s k h] at this
  generalize s[k].toNat = c at this
  simp only [wordAt, Bool.or_eq_true, Bool.and_eq_true, decide_eq_true_eq] at this
  omega
theorem wordB_all {s : ByteArray} {k : Nat} (h : ¬ k < s.size) (ht : wordTo s k) : wordB s = decide (0 < (s.size : Int)) := by
  unfold wordB
  exact decide_eq_decide.2 ⟨fun hp => by have := hp.1; omega, fun hp => ⟨by omega, fun j hj => ht j (by omega)⟩⟩

/-- Every byte before place k is no control character. -/
def plainTo (s : ByteArray) (k : Nat) : Prop := ∀ j, j < k → 32 ≤ (s.get! j).toNat ∧ (s.get! j).toNat ≠ 127
theorem plainTo_step {s : ByteArray} {pos : Nat} (hp : pos < s.size) (h : plainTo s pos) (h1 : ¬ (Utf8.decode s pos).1 < 32) (h2 : ¬ (Utf8.decode s pos).1 = 127) : plainTo s (pos + (Utf8.decode s pos).2) := by
  have hd := decode_bytes s pos hp
  intro j hj
  by_cases e : j < pos
  · exact h j e
  · by_cases e2 : j = pos
    · subst e2
      omega
    · have := hd.2.2.1 j (by omega) hj
      omega
theorem validB_bad {s : ByteArray} {pos : Nat} (hp : pos < s.size) (h : (Utf8.decode s pos).1 < 32 ∨ (Utf8.decode s pos).1 = 127) : validB s = false := by
  have hd := decode_bytes s pos hp
  refine decide_eq_false fun hv => ?_
  have := hv.2.2 pos hp
  omega
theorem validB_end {s : ByteArray} {pos : Nat} (hp : ¬ pos < s.size) (h : plainTo s pos) (hs : s.size ≤ 200) (hv : Lib.validD s.data.toList = true) : validB s = true :=
  decide_eq_true ⟨hs, hv, fun j hj => h j (by omega)⟩
theorem validB_long {s : ByteArray} (h : ¬ s.size ≤ 200) : validB s = false := decide_eq_false fun hv => h hv.1
theorem validB_no {s : ByteArray} (h : Lib.validD s.data.toList = false) : validB s = false := decide_eq_false fun hv => absurd (hv.2.1.symm.trans h) (by decide)

/-- What a rune at place pos must be in a word. -/
def okAt (pos c : Nat) : Prop := (97 ≤ c ∧ c ≤ 122) ∨ (pos ≠ 0 ∧ ((48 ≤ c ∧ c ≤ 57) ∨ c = 45 ∨ c = 95))
theorem okAt_byte {pos c : Nat} : okAt pos c ↔ wordAt pos c = true := by
  unfold okAt
  simp only [wordAt, Bool.or_eq_true, Bool.and_eq_true, decide_eq_true_eq]
  omega
theorem wordTo_rune {s : ByteArray} {pos : Nat} (hp : pos < s.size) (h : wordTo s pos) (hc : okAt pos (Utf8.decode s pos).1) : wordTo s (pos + (Utf8.decode s pos).2) := by
  have hd := decode_bytes s pos hp
  have h2 : (Utf8.decode s pos).1 < 128 := by unfold okAt at hc; omega
  obtain ⟨ha, hb, hw⟩ : (s.get! pos).toNat < 128 ∧ (Utf8.decode s pos).1 = (s.get! pos).toNat ∧ (Utf8.decode s pos).2 = 1 := by omega
  rw [hw]
  intro j hj
  by_cases e : j = pos
  · subst e
    rw [hb] at hc
    exact okAt_byte.1 hc
  · exact h j (by omega)
theorem wordB_rune {s : ByteArray} {pos : Nat} (hp : pos < s.size) (hc : ¬ okAt pos (Utf8.decode s pos).1) : wordB s = false := by
  have hd := decode_bytes s pos hp
  refine decide_eq_false fun hw => hc ?_
  have := okAt_byte.2 (hw.2 pos hp)
  rcases hd.2.2.2 with ⟨h1, h2, h3⟩ | ⟨h1, h2⟩
  · rw [h2]; exact this
  · unfold okAt at this
    omega
def keyB (s : ByteArray) : Bool := wordB s && decide (s.size ≤ 32) && !((reservedB.map fun r => r.data.toList).contains s.data.toList)
theorem keyB_short {s : ByteArray} (h : s.size < 1) : keyB s = false := by
  have : wordB s = false := decide_eq_false fun hp => by have := hp.1; omega
  simp [keyB, this]
theorem keyB_long {s : ByteArray} (h : 32 < s.size) : keyB s = false := by
  have : decide (s.size ≤ 32) = false := decide_eq_false (by omega)
  simp [keyB, this]
theorem keyB_noword {s : ByteArray} (h : wordB s = false) : keyB s = false := by simp [keyB, h]
theorem keyB_res {s : ByteArray} {k : Nat} (h : reservedB[k]? = some s) : keyB s = false := by
  have : (reservedB.map fun r => r.data.toList).contains s.data.toList = true := List.contains_iff_mem.2 (List.mem_map.2 ⟨s, List.mem_of_getElem? h, rfl⟩)
  unfold keyB
  rw [this]
  simp
theorem not_reserved {s : ByteArray} (h3 : ∀ j, j < 46 → reservedB.getD j ByteArray.empty ≠ s) : (reservedB.map fun r => r.data.toList).contains s.data.toList = false := by
  have hm : ¬ s.data.toList ∈ reservedB.map fun r => r.data.toList := by
    intro h
    obtain ⟨r, hr, e⟩ := List.mem_map.1 h
    obtain ⟨j, hj, e2⟩ := List.mem_iff_getElem.1 hr
    refine h3 j hj ?_
    rw [List.getD_eq_getElem?_getD, List.getElem?_eq_getElem hj, Option.getD_some, e2]
    exact ByteArray.ext (Array.ext' e)
  cases hc : (reservedB.map fun r => r.data.toList).contains s.data.toList with
  | false => rfl
  | true => exact absurd (List.contains_iff_mem.1 hc) hm
theorem keyB_yes {s : ByteArray} (h1 : wordB s = true) (h2 : s.size ≤ 32) (h3 : ∀ j, j < 46 → reservedB.getD j ByteArray.empty ≠ s) : keyB s = true := by
  unfold keyB
  rw [not_reserved h3, h1, decide_eq_true h2]
  rfl
theorem wordB_end {s : ByteArray} {pos : Nat} (hp : ¬ pos < s.size) (h0 : 0 < s.size) (h : wordTo s pos) : wordB s = true := decide_eq_true ⟨h0, fun j hj => h j (by omega)⟩
end Go.Proofs.YtbiolondnkeakaaDoor.Plain
