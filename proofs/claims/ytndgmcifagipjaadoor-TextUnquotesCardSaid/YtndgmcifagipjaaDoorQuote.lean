/- The walk of text.Quote. -/
import Derived.Test.YtndgmcifagipjaaDoorValid
import Derived.Test.YtndgmcifagipjaaDoorQuoteP
import Derived.Test.YtndgmcifagipjaaDoorBuilderW
namespace Go.Proofs.YtndgmcifagipjaaDoor
open Go.RowKit Plain

theorem bel_trans {w w1 w2 : World} (h : Below w.heap.size w w1) (h2 : Below w1.heap.size w1 w2) : Below w.heap.size w w2 := h.trans (h2.mono h.size)
theorem byte_snoc (acc : List UInt8) (c : UInt8) : Lib.byteCells acc ++ [.int .u8 (c.toNat : Int)] = Lib.byteCells (acc ++ [c]) := by rw [Lib.byteCells_append]; rfl

def text_Quote.f (a0 : ByteArray) : Option (ByteArray × Int) := if a0.size ≤ 9223372036854775807 then some (quoteP a0) else none

/-- A byte that is written to a builder that holds some bytes. -/
theorem write_byte (B b : Nat) (acc : List UInt8) (c : UInt8) (w : World) (h : Lib.IsBuilder 47 5 B b (Lib.byteCells acc) w) (hl : acc.length + 1 ≤ 140737488355328) (hB : B ≤ w.heap.size) :
    Calls Tryd.prog 32 #[.pointer (some ⟨b, 0, none⟩), .int .u8 (c.toNat : Int)] w fun e w' => e = .returned .nilIface ∧ Lib.IsBuilder 47 5 B b (Lib.byteCells (acc ++ [c])) w' ∧ Below B w w' := by
  refine (Tryd.Builder_WriteByte B b (Lib.byteCells acc) (c.toNat : Int) w h (by rw [Lib.byteCells_length]; exact hl) hB).mono ?_
  rintro e w' ⟨rfl, h1, h2⟩
  rw [byte_snoc] at h1
  exact ⟨rfl, .inr h1, h2⟩

set_option maxHeartbeats 2000000 in
theorem quote_loop (s : ByteArray) (w : World) (hs : s.size ≤ 200) (HV : Hid (Calls Tryd.prog 13 #[.string s] w fun e w' => e = .returned (.bool true) ∧ Below w.heap.size w w')) :
    Calls Tryd.prog 22 #[.string s] w fun e w' => e = .returned (.tuple #[.string ⟨(quotedL s.data.toList).toArray⟩, .int .i64 0]) ∧ Below w.heap.size w w' := by
  go_enter Tryd.func22, Tryd.ntmps22
  go_wp2_with (go_at_call 13; refine HV.out.mono ?_; rintro e w1 ⟨rfl, hb1⟩)
  have HB1 := Lib.hid hb1
  clear hb1
  refine (write_byte w1.heap.size w1.heap.size [] 34 _ (Lib.fresh_isBuilder 47 5 w1) (by decide) (by rw [World.size_alloc]; omega)).mono ?_
  rintro e w2 ⟨rfl, hi2, hb2⟩
  have hsz2 : w1.heap.size ≤ w2.heap.size := by have := hb2.size; rw [World.size_alloc] at this; omega
  have HS0 := Lib.hid (show Lib.IsBuilder 47 5 w1.heap.size w1.heap.size (Lib.byteCells (escTo s 0)) w2 ∧ Below w1.heap.size w1 w2 from ⟨hi2, ((Below.refl _ _).alloc (Nat.le_refl _) _).trans hb2⟩)
  clear hi2 hb2 hsz2
  go_wp2
  go_loopw [5] (fun i wr => ∃ k : Nat, k ≤ s.size ∧ i = .int .i64 k ∧ Hid (Lib.IsBuilder 47 5 w1.heap.size w1.heap.size (Lib.byteCells (escTo s k)) wr ∧ Below w1.heap.size w1 wr)) (fun i _ => s.size - (intOf i).toNat)
  case atStart => exact ⟨0, Nat.zero_le _, rfl, HS0⟩
  case round =>
    obtain ⟨k, hk, rfl, HS⟩ := hrel
    clear HS0
    by_cases hlt : k < s.size
    · have hltz : (k : Int) < (s.size : Int) := by omega
      have hl := escTo_length s k
      have hsz := HS.out.2.size
      by_cases hc : s[k] = 34 ∨ s[k] = 92
      · have HE := Lib.hid (escTo_esc hlt hc)
        have hcase : ((s[k].toNat : Int) == 34) = true ∨ (((s[k].toNat : Int) == 34) = false ∧ ((s[k].toNat : Int) == 92) = true) := by
          rcases hc with e | e
          · left; rw [e]; rfl
          · right; rw [e]; exact ⟨rfl, rfl⟩
        clear hc
        rcases hcase with g1 | ⟨g1, g2⟩
        all_goals
          go_wp2_with fail
          refine (write_byte w1.heap.size w1.heap.size (escTo s k) 92 wr HS.out.1 (by omega) hsz).mono ?_
          rintro e w3 ⟨rfl, hi3, hb3⟩
          have hsz3 : w1.heap.size ≤ w3.heap.size := Nat.le_trans hsz hb3.size
          have HS3 := Lib.hid (And.intro hi3 (HS.out.2.trans hb3))
          clear hi3 hb3
          go_wp2_with fail
          refine (write_byte w1.heap.size w1.heap.size (escTo s k ++ [92]) s[k] w3 HS3.out.1 (by simp only [List.length_append, List.length_cons, List.length_nil]; omega) hsz3).mono ?_
          rintro e w4 ⟨rfl, hi4, hb4⟩
          rw [← HE.out] at hi4
          have HS4 := Lib.hid (And.intro hi4 (HS3.out.2.trans hb4))
          clear hi4 hb4
          go_wp2
          go_roundw
          case rel => exact ⟨k + 1, by omega, by go_num, HS4⟩
          case measure => simp [intOf]; omega
      · have HE := Lib.hid (escTo_plain hlt hc)
        have g1 : ((s[k].toNat : Int) == 34) = false := (byte_eq (n := 34) (by decide)).trans (decide_eq_false fun e => hc (.inl e))
        have g2 : ((s[k].toNat : Int) == 92) = false := (byte_eq (n := 92) (by decide)).trans (decide_eq_false fun e => hc (.inr e))
        clear hc
        go_wp2_with fail
        refine (write_byte w1.heap.size w1.heap.size (escTo s k) s[k] wr HS.out.1 (by omega) hsz).mono ?_
        rintro e w3 ⟨rfl, hi3, hb3⟩
        rw [← HE.out] at hi3
        have HS3 := Lib.hid (And.intro hi3 (HS.out.2.trans hb3))
        clear hi3 hb3
        go_wp2
        go_roundw
        case rel => exact ⟨k + 1, by omega, by go_num, HS3⟩
        case measure => simp [intOf]; omega
    · have hl := escTo_length s k
      have hsz := HS.out.2.size
      have HE := Lib.hid (escTo_end hlt)
      go_wp2_with fail
      refine (write_byte w1.heap.size w1.heap.size (escTo s k) 34 wr HS.out.1 (by omega) hsz).mono ?_
      rintro e w3 ⟨rfl, hi3, hb3⟩
      have hsz3 : w1.heap.size ≤ w3.heap.size := Nat.le_trans hsz hb3.size
      rw [HE.out] at hi3
      have HS3 := Lib.hid (And.intro hi3 (HS.out.2.trans hb3))
      clear hi3 hb3
      go_wp2_with fail
      refine (Tryd.Builder_String_any w1.heap.size w1.heap.size (quotedL s.data.toList) w3 HS3.out.1 hsz3).mono ?_
      rintro e w4 ⟨rfl, hb4⟩
      go_wp2
      go_ret2
      exact ⟨rfl, bel_trans HB1.out (HS3.out.2.trans hb4)⟩

theorem text_Quote.calls (a0 : ByteArray) (r1 : ByteArray) (r2 : Int) (w : World) (hT : Tabs w) (h : text_Quote.f a0 = some (r1, r2)) :
    Calls Tryd.prog 22 #[.string a0] w fun e w' => e = .returned (.tuple #[.string r1, .int .i64 r2]) ∧ Below w.heap.size w w' := by
  unfold text_Quote.f at h
  split at h
  · rename_i hm
    have h := Option.some.inj h
    have HC := Lib.hid (text_Valid.calls a0 (validB a0) w hT (by unfold text_Valid.f; rw [if_pos hm]))
    unfold quoteP at h
    cases hv : validB a0 with
    | true =>
      rw [if_pos hv] at h
      cases h
      rw [hv] at HC
      exact quote_loop a0 w (of_decide_eq_true hv).1 HC
    | false =>
      rw [if_neg (by rw [hv]; exact Bool.noConfusion)] at h
      cases h
      rw [hv] at HC
      clear hv hT hm
      go_enter Tryd.func22, Tryd.ntmps22
      go_wp2_with (go_at_call 13; refine HC.out.mono ?_; rintro e w1 ⟨rfl, hb1⟩)
      go_ret2
      exact ⟨rfl, hb1⟩
  · cases h
end Go.Proofs.YtndgmcifagipjaaDoor
