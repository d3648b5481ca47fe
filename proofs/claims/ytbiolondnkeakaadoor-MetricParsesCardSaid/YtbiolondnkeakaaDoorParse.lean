/- The walks of text.Number and text.ParseNumber. -/
import Derived.Test.YtbiolondnkeakaaDoorTabs
import Derived.Test.YtbiolondnkeakaaDoorNums
import Derived.Test.YtbiolondnkeakaaDoorShelf
import Derived.WalkKit
import Derived.WalkSpells
import Derived.WalkLawsBesides
import Derived.Deep.LoopGhost
import Derived.Lib.OthersKept
import Derived.Lib.AtoiErrMem
import Derived.Lib.AppendIntMem
import Derived.Lib.Hide
import Derived.Outline
namespace Go.Proofs.YtbiolondnkeakaaDoor
open Go.RowKit Plain

def text_Number.f (a0 : Int) : Option ByteArray := if -9223372036854775808 ≤ a0 ∧ a0 ≤ 9223372036854775807 then some ⟨(Lib.itoa a0).toArray⟩ else none
theorem text_Number.calls (a0 : Int) (r : ByteArray) (w : World) (hT : Tabs w) (h : text_Number.f a0 = some r) :
    Calls Tryd.prog 48 #[.int .i64 a0] w fun e w' => e = .returned (.string r) ∧ Below w.heap.size w w' := by
  unfold text_Number.f at h
  split at h
  · rename_i hb
    obtain rfl := Option.some.inj h
    have HC := Lib.hid (Tryd.strconv_Itoa a0 hb.1 hb.2 w hT.pow)
    clear hT hb
    go_enter Tryd.func48, Tryd.ntmps48
    go_wp2_with (go_at_call 59; refine HC.out.mono ?_; rintro e w2 ⟨rfl, ⟨k, os, rfl⟩⟩)
    go_ret
    exact ⟨rfl, Lib.below_grow _ _ (Nat.le_refl _) _ _⟩
  · cases h

theorem ret_two {a b c d : Int} (h : (a, b) = (c, d)) : Ending.returned (.tuple #[.int .i64 a, .int .i64 b]) = .returned (.tuple #[.int .i64 c, .int .i64 d]) := by cases h; rfl

theorem cut_any (s D : ByteArray) (b : Bool) (w : World) (hD : D.data.toList = digitsOf s.data.toList) (hb : negOf s.data.toList = b) :
    Calls Tryd.prog 65 #[.string s, .string ⟨#[45]⟩] w fun e w' => e = .returned (.tuple #[.string D, .bool b]) ∧ w = w' := by
  refine (Tryd.strings_CutPrefix s ⟨#[45]⟩ w).mono ?_
  rintro e w' ⟨rfl, rfl⟩
  have e1 : (⟨(Lib.trimPrefix s.data.toList [45]).toArray⟩ : ByteArray) = D := ByteArray.ext (Array.ext' (by rw [hD]; rfl))
  have e2 : Lib.hasPrefix s.data.toList [45] = b := hb
  exact ⟨by show Ending.returned (.tuple #[.string ⟨(Lib.trimPrefix s.data.toList [45]).toArray⟩, .bool (Lib.hasPrefix s.data.toList [45])]) = _; rw [e1, e2], rfl⟩

theorem parse_empty (s : ByteArray) (b : Bool) (w : World) (HC : Hid (Calls Tryd.prog 65 #[.string s, .string ⟨#[45]⟩] w fun e w' => e = .returned (.tuple #[.string ⟨#[]⟩, .bool b]) ∧ w = w')) :
    Calls Tryd.prog 54 #[.string s] w fun e w' => e = .returned (.tuple #[.int .i64 0, .int .i64 1]) ∧ w = w' := by
  go_enter Tryd.func54, Tryd.ntmps54
  go_wp2_with (go_at_call 65; refine HC.out.mono ?_; rintro e w2 ⟨rfl, rfl⟩)
  go_ret2
  exact ⟨rfl, rfl⟩

theorem ne_toList (D : ByteArray) (h0 : 0 < D.size) : D.toList.isEmpty = false := by
  rw [Lib.size_eq] at h0
  rw [Lib.toList_data]
  cases h : D.data.toList with
  | nil => rw [h] at h0; exact absurd h0 (by decide)
  | cons c r => rfl

theorem parse_lead (s D : ByteArray) (b : Bool) (w : World) (h0 : 0 < D.size) (h1 : D[0] = 48) (h2 : 1 < D.size ∨ b = true) (HC : Hid (Calls Tryd.prog 65 #[.string s, .string ⟨#[45]⟩] w fun e w' => e = .returned (.tuple #[.string D, .bool b]) ∧ w = w')) :
    Calls Tryd.prog 54 #[.string s] w fun e w' => e = .returned (.tuple #[.int .i64 0, .int .i64 1]) ∧ w = w' := by
  have hE := ne_toList D h0
  have hE2 : ¬ D.toList = [] := fun h => by rw [h] at hE; exact Bool.noConfusion hE
  have hz : ((D[0].toNat : Int) == 48) = true := by rw [h1]; rfl
  clear h1
  by_cases hl : 1 < D.size
  · have hlz : (1 : Int) < (D.size : Int) := by omega
    clear h2
    go_enter Tryd.func54, Tryd.ntmps54
    go_wp2_with (go_at_call 65; refine HC.out.mono ?_; rintro e w2 ⟨rfl, rfl⟩)
    go_ret2
    exact ⟨rfl, rfl⟩
  · obtain rfl : b = true := by rcases h2 with h2 | h2; exact absurd h2 hl; exact h2
    have hlz : ¬ (1 : Int) < (D.size : Int) := by omega
    clear h2
    go_enter Tryd.func54, Tryd.ntmps54
    go_wp2_with (go_at_call 65; refine HC.out.mono ?_; rintro e w2 ⟨rfl, rfl⟩)
    go_ret2
    exact ⟨rfl, rfl⟩

/-- How Atoi ends at a text of digits. -/
theorem atoi_ok (s : ByteArray) (v : Int) (w : World) (hs : s.size ≤ 140737488355328) (h : Lib.atoiAll s.data.toList = .ok v) :
    Calls Tryd.prog 66 #[.string s] w fun e w' => e = .returned (.tuple #[.int .i64 v, .nilIface]) ∧ Below w.heap.size w w' := by
  refine (Tryd.strconv_Atoi_ok s (by omega) v h w).mono ?_
  rintro e w' ⟨rfl, hw⟩
  refine ⟨rfl, ?_⟩
  rcases hw with rfl | ⟨t, rfl⟩
  · exact Below.refl _ _
  · exact Lib.bytesWorld_below _ _ _
theorem atoi_range (s : ByteArray) (w : World) (hs : s.size ≤ 140737488355328) (h : Lib.atoiAll s.data.toList = .range) (hT : Tabs w) :
    Calls Tryd.prog 66 #[.string s] w fun e w' => (∃ (v : Int) (N : Nat), e = .returned (.tuple #[.int .i64 v, .iface 114 (.pointer (some ⟨N, 0, none⟩))])) ∧ Below w.heap.size w w' := by
  obtain ⟨tp, p, hv⟩ := hT.rng
  refine (Tryd.strconv_Atoi_range_var s (by omega) h tp p w hv).mono ?_
  rintro e w' ⟨N, rfl, _, _, hb⟩
  exact ⟨⟨_, N, rfl⟩, hb⟩

set_option maxHeartbeats 2000000 in
/-- The scan, and what follows. -/
theorem parse_scan (s D : ByteArray) (b : Bool) (w : World) (h0 : 0 < D.size) (h1 : ¬ (D[0] = 48 ∧ (1 < D.size ∨ b = true))) (HC : Hid (Calls Tryd.prog 65 #[.string s, .string ⟨#[45]⟩] w fun e w' => e = .returned (.tuple #[.string D, .bool b]) ∧ w = w'))
    (R : Int × Int) (HB : Hid ((¬ ∀ c ∈ D.data.toList, dig c = true) → R = (0, 1)))
    (HA : Hid ((∀ c ∈ D.data.toList, dig c = true) → (∃ v, Lib.atoiAll s.data.toList = .ok v ∧ R = if v < -1099511627776 ∨ 1099511627776 < v then (0, 3) else (v, 0)) ∨ (Lib.atoiAll s.data.toList = .range ∧ R = (0, 3)))) (HT : Hid (Tabs w)) (hs : s.size ≤ 140737488355328) :
    Calls Tryd.prog 54 #[.string s] w fun e w' => e = .returned (.tuple #[.int .i64 R.1, .int .i64 R.2]) ∧ Below w.heap.size w w' := by
  have hE := ne_toList D h0
  have hE2 : ¬ D.toList = [] := fun h => by rw [h] at hE; exact Bool.noConfusion hE
  have hcase : (((D[0].toNat : Int) == 48) = false) ∨ ((((D[0].toNat : Int) == 48) = true) ∧ (¬ (1 : Int) < (D.size : Int)) ∧ b = false) := by
    by_cases e : D[0] = 48
    · right
      refine ⟨by rw [e]; rfl, ?_, ?_⟩
      · intro h; exact h1 ⟨e, .inl (by omega)⟩
      · cases b with
        | false => rfl
        | true => exact absurd ⟨e, .inr rfl⟩ h1
    · left
      refine beq_eq_false_iff_ne.2 fun h => e ?_
      exact UInt8.toNat_inj.1 (by have h2 : (48 : UInt8).toNat = 48 := rfl; omega)
  clear h1
  rcases hcase with hz | ⟨hz, hl, rfl⟩
  all_goals
    go_enter Tryd.func54, Tryd.ntmps54
    go_wp2_with (go_at_call 65; refine HC.out.mono ?_; rintro e w2 ⟨rfl, rfl⟩)
    go_loopw [] (fun wr => ∃ pos : Nat, wr = w.iter D pos ∧ digTo D pos) (fun wr => D.size - wr.iterPos w.heap.size)
    case atStart => exact ⟨0, rfl, fun j h => absurd h (Nat.not_lt_zero j)⟩
    case round =>
      obtain ⟨pos, rfl, ht⟩ := hrel
      have HD := Lib.hid ht
      clear ht
      by_cases hp : pos < D.size
      · have hnx : ∀ ty, (Instr.next (.pointer (some ⟨w.heap.size, 0, none⟩)) true ty).run Tryd.prog (w.iter D pos) = _ := fun ty => run_next_any w D pos ty hp
        have hwd := (decode_bytes D pos hp).2.1
        by_cases hok : 48 ≤ (Utf8.decode D pos).1 ∧ (Utf8.decode D pos).1 ≤ 57
        · have HN := Lib.hid (digTo_rune hp HD.out hok.1 hok.2)
          clear HD
          generalize (Utf8.decode D pos).1 = c at hnx hok
          generalize (Utf8.decode D pos).2 = n at hnx hwd HN
          have g1 : ¬ (c : Int) < 48 := by omega
          have g2 : ¬ (57 : Int) < (c : Int) := by omega
          clear hok
          go_wp2
          go_roundw
          case rel => exact ⟨_, rfl, HN.out⟩
          case measure => simp; omega
        · have HF := Lib.hid (HB.out (digTo_bad hp (by omega)))
          clear HD
          generalize (Utf8.decode D pos).1 = c at hnx hok
          generalize (Utf8.decode D pos).2 = n at hnx hwd
          by_cases g1 : c < 48
          · have g1z : (c : Int) < 48 := by omega
            clear hok
            go_wp2
            go_ret2
            exact ⟨by rw [HF.out]; rfl, (Below.refl _ w).alloc (Nat.le_refl _) (.stringIter D _)⟩
          · have g1z : ¬ (c : Int) < 48 := by omega
            have g2z : (57 : Int) < (c : Int) := by omega
            clear hok
            go_wp2
            go_ret2
            exact ⟨by rw [HF.out]; rfl, (Below.refl _ w).alloc (Nat.le_refl _) (.stringIter D _)⟩
      · have hnx : ∀ ty, (Instr.next (.pointer (some ⟨w.heap.size, 0, none⟩)) true ty).run Tryd.prog (w.iter D pos) = _ := fun ty => run_next_end w D pos ty hp
        have hbi : Below w.heap.size w (w.iter D pos) := (Below.refl _ w).alloc (Nat.le_refl _) (.stringIter D pos)
        have HBI := Lib.hid hbi
        have HTI := Lib.hid (HT.out.below hbi)
        have hle := hbi.size
        clear hbi
        rcases HA.out (digTo_end hp HD.out) with ⟨v, hv, hR⟩ | ⟨hv, hR⟩
        · have HC2 := Lib.hid (atoi_ok s v (w.iter D pos) hs hv)
          have HR := Lib.hid hR
          clear hv hR
          by_cases g1 : v < -1099511627776
          · go_wp2_with (go_at_call 66; refine HC2.out.mono ?_; rintro e w2 ⟨rfl, hb2⟩)
            go_ret2
            exact ⟨by rw [HR.out, if_pos (.inl g1)]; rfl, HBI.out.trans (hb2.mono hle)⟩
          · by_cases g2 : 1099511627776 < v
            · go_wp2_with (go_at_call 66; refine HC2.out.mono ?_; rintro e w2 ⟨rfl, hb2⟩)
              go_ret2
              exact ⟨by rw [HR.out, if_pos (.inr g2)]; rfl, HBI.out.trans (hb2.mono hle)⟩
            · go_wp2_with (go_at_call 66; refine HC2.out.mono ?_; rintro e w2 ⟨rfl, hb2⟩)
              go_ret2
              exact ⟨by rw [HR.out, if_neg (by omega)]; rfl, HBI.out.trans (hb2.mono hle)⟩
        · have HC2 := Lib.hid (atoi_range s (w.iter D pos) hs hv HTI.out)
          have HR := Lib.hid hR
          clear hv hR
          go_wp2_with (go_at_call 66; refine HC2.out.mono ?_; rintro e w2 ⟨⟨v, N, rfl⟩, hb2⟩)
          go_ret2
          exact ⟨by rw [HR.out]; rfl, HBI.out.trans (hb2.mono hle)⟩

def text_ParseNumber.f (a0 : ByteArray) : Option (Int × Int) := if a0.size ≤ 140737488355328 then some (parseP a0.data.toList) else none
theorem text_ParseNumber.calls (a0 : ByteArray) (r1 r2 : Int) (w : World) (hT : Tabs w) (h : text_ParseNumber.f a0 = some (r1, r2)) :
    Calls Tryd.prog 54 #[.string a0] w fun e w' => e = .returned (.tuple #[.int .i64 r1, .int .i64 r2]) ∧ Below w.heap.size w w' := by
  unfold text_ParseNumber.f at h
  split at h
  · rename_i hs
    have h := Option.some.inj h
    by_cases h0 : digitsOf a0.data.toList = []
    · rw [parseP_none h0] at h
      cases h
      refine (parse_empty a0 _ w (Lib.hid (cut_any a0 ⟨#[]⟩ _ w (by rw [h0]) rfl))).mono ?_
      rintro e w' ⟨rfl, rfl⟩
      exact ⟨rfl, Below.refl _ _⟩
    · obtain ⟨D, hD⟩ : ∃ D : ByteArray, D.data.toList = digitsOf a0.data.toList := ⟨⟨(digitsOf a0.data.toList).toArray⟩, rfl⟩
      have hlen : D.size = (digitsOf a0.data.toList).length := by rw [Lib.size_eq, hD]
      have hpos : 0 < D.size := by rw [hlen]; exact List.length_pos_iff.2 h0
      have hhead : (digitsOf a0.data.toList).head? = some (D[0]) := by
        rw [← hD, List.head?_eq_getElem?]
        have : 0 < D.data.toList.length := by rw [← Lib.size_eq]; exact hpos
        rw [List.getElem?_eq_getElem this]
        simp
        rfl
      have HC := Lib.hid (cut_any a0 D _ w hD rfl)
      by_cases h1 : (digitsOf a0.data.toList).head? = some 48 ∧ (1 < (digitsOf a0.data.toList).length ∨ negOf a0.data.toList = true)
      · rw [parseP_zero h1.1 h1.2] at h
        cases h
        rw [hhead, ← hlen] at h1
        refine (parse_lead a0 D _ w hpos (Option.some.inj h1.1) h1.2 HC).mono ?_
        rintro e w' ⟨rfl, rfl⟩
        exact ⟨rfl, Below.refl _ _⟩
      · have HB : (¬ ∀ c ∈ D.data.toList, dig c = true) → parseP a0.data.toList = (0, 1) := fun hb => parseP_bad (by rw [← hD]; exact hb)
        have HA : (∀ c ∈ D.data.toList, dig c = true) → (∃ v, Lib.atoiAll a0.data.toList = .ok v ∧ parseP a0.data.toList = if v < -1099511627776 ∨ 1099511627776 < v then (0, 3) else (v, 0)) ∨ (Lib.atoiAll a0.data.toList = .range ∧ parseP a0.data.toList = (0, 3)) := by
          intro hd
          rw [hD] at hd
          rw [parseP_digits h0 h1 hd, atoi_digits _ h0 hd]
          generalize val 0 (digitsOf a0.data.toList) = n
          cases negOf a0.data.toList with
          | true =>
            by_cases g : 9223372036854775808 < n
            · right
              rw [if_pos (.inr ⟨rfl, g⟩), if_pos (by omega)]
              exact ⟨rfl, rfl⟩
            · left
              refine ⟨-(n : Int), by rw [if_neg (by simp; omega)]; rfl, ?_⟩
              by_cases g2 : 1099511627776 < n
              · rw [if_pos g2, if_pos (.inl (by omega))]
              · rw [if_neg g2]
                exact (if_neg (by omega)).symm
          | false =>
            by_cases g : 9223372036854775808 ≤ n
            · right
              rw [if_pos (.inl ⟨rfl, g⟩), if_pos (by omega)]
              exact ⟨rfl, rfl⟩
            · left
              refine ⟨(n : Int), by rw [if_neg (by simp; omega)]; rfl, ?_⟩
              by_cases g2 : 1099511627776 < n
              · rw [if_pos g2, if_pos (.inr (by omega))]
              · rw [if_neg g2]
                exact (if_neg (by omega)).symm
        rw [hhead, ← hlen] at h1
        have := parse_scan a0 D _ w hpos (fun hh => h1 ⟨congrArg some hh.1, hh.2⟩) HC (parseP a0.data.toList) (Lib.hid HB) (Lib.hid HA) (Lib.hid hT) hs
        rw [h] at this
        exact this
  · cases h
end Go.Proofs.YtbiolondnkeakaaDoor
