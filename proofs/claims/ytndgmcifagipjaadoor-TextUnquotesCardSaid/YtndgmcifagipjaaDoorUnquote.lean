/- The walk of text.Unquote. -/
import Derived.Test.YtndgmcifagipjaaDoorQuote
import Derived.WalkMore
namespace Go.Proofs.YtndgmcifagipjaaDoor
open Go.RowKit Plain

theorem builderF_below {T e : TypeId} {B b : Nat} {bs : List Value} {w w' : World} (h : Lib.IsBuilderF T e B b bs w) (hb : Below w.heap.size w w') : Lib.IsBuilderF T e B b bs w' := by
  have lt : ∀ g o, w.heap[g]? = some o → g < w.heap.size := fun g o hg => (Array.getElem?_eq_some_iff.1 hg).1
  have one : ∀ p, Lib.BuilderAtF T e B b p bs w → Lib.BuilderAtF T e B b p bs w' := by
    rintro p ⟨hB, v, h1, ⟨hl, h2⟩, hne⟩
    refine ⟨hB, v, (hb.block b (lt _ _ h1)).trans h1, ⟨hl, ?_⟩, hne⟩
    rcases h2 with h2 | ⟨g, cap, cur, fz, e1, e2, e3, r⟩
    · exact .inl h2
    · exact .inr ⟨g, cap, cur, fz, e1, e2, (hb.block g (lt _ _ e3)).trans e3, r⟩
  exact h.imp (one _) (one _)

theorem unq_early1 (s : ByteArray) (w : World) (h : s.size < 2) :
    Calls Tryd.prog 24 #[.string s] w fun e w' => e = .returned (.tuple #[.string ⟨#[]⟩, .int .i64 1]) ∧ Below w.heap.size w w' := by
  have hz : (s.size : Int) < 2 := by omega
  go_enter Tryd.func24, Tryd.ntmps24
  go_wp2
  go_step3
  go_wp2
  rw [Exit.noGoto_ret]
  go_ret2
  exact ⟨rfl, Below.refl _ _⟩
theorem unq_early2 (s : ByteArray) (w : World) (h : 2 ≤ s.size) (hc : ((s[0].toNat : Int) != 34) = true) :
    Calls Tryd.prog 24 #[.string s] w fun e w' => e = .returned (.tuple #[.string ⟨#[]⟩, .int .i64 1]) ∧ Below w.heap.size w w' := by
  have hz : ¬ (s.size : Int) < 2 := by omega
  have h0 : 0 < s.size := by omega
  go_enter Tryd.func24, Tryd.ntmps24
  go_wp2
  go_step3
  go_wp2
  rw [Exit.noGoto_ret]
  go_ret2
  exact ⟨rfl, Below.refl _ _⟩
theorem unq_early3 (s : ByteArray) (w : World) (h : 2 ≤ s.size) (hm : s.size ≤ 140737488355328) (hc : ((s[0].toNat : Int) != 34) = false) (hl : ((s[s.size - 1].toNat : Int) != 34) = true) :
    Calls Tryd.prog 24 #[.string s] w fun e w' => e = .returned (.tuple #[.string ⟨#[]⟩, .int .i64 1]) ∧ Below w.heap.size w w' := by
  have hz : ¬ (s.size : Int) < 2 := by omega
  have h0 : 0 < s.size := by omega
  go_enter Tryd.func24, Tryd.ntmps24
  go_wp2
  go_step3
  go_wp2
  rw [Exit.noGoto_ret]
  go_ret2
  exact ⟨rfl, Below.refl _ _⟩

set_option maxHeartbeats 4000000 in
theorem unq_main (s M : ByteArray) (w : World) (h : 2 ≤ s.size) (hm : s.size ≤ 140737488355328) (hc : ((s[0].toNat : Int) != 34) = false) (hl : ((s[s.size - 1].toNat : Int) != 34) = false) (hM : s.extract 1 (s.size - 1) = M)
    (hMs : M.size ≤ 140737488355326) (R : ByteArray × Int) (HT : Hid (Tabs w)) (HN : Hid (unq M.data.toList false = none → R = (⟨#[]⟩, 1)))
    (HY : Hid (∀ l, unq M.data.toList false = some l → R = if validB ⟨l.toArray⟩ = true then (⟨l.toArray⟩, 0) else (⟨#[]⟩, 2))) :
    Calls Tryd.prog 24 #[.string s] w fun e w' => e = .returned (.tuple #[.string R.1, .int .i64 R.2]) ∧ Below w.heap.size w w' := by
  have hz : ¬ (s.size : Int) < 2 := by omega
  have h0 : 0 < s.size := by omega
  go_enter Tryd.func24, Tryd.ntmps24
  go_wp2
  go_step3
  go_wp2
  go_step3
  go_wp2
  clear hM hc hl hz
  have HS0 := Lib.hid (show Lib.IsBuilder 47 5 w.heap.size w.heap.size (Lib.byteCells []) (w.alloc (.cells #[.pointer none, .slice none 0 0] 47)) ∧ Below w.heap.size w (w.alloc (.cells #[.pointer none, .slice none 0 0] 47)) from ⟨Lib.fresh_isBuilder 47 5 w, (Below.refl _ _).alloc (Nat.le_refl _) _⟩)
  have HU0 := Lib.hid (unq_start M.data.toList)
  go_loopw [6, 7] (fun e i wr => ∃ (k : Nat) (b : Bool) (acc : List UInt8), k ≤ M.size ∧ e = .bool b ∧ i = .int .i64 k ∧ acc.length ≤ k ∧ Hid (Lib.IsBuilder 47 5 w.heap.size w.heap.size (Lib.byteCells acc) wr ∧ Below w.heap.size w wr) ∧ Hid (unq M.data.toList false = (unq (M.data.toList.drop k) b).map (acc ++ ·))) (fun _ i _ => M.size - (intOf i).toNat)
  case atStart => exact ⟨0, false, [], Nat.zero_le _, rfl, rfl, Nat.le_refl _, HS0, HU0⟩
  case round =>
    obtain ⟨k, b, acc, hk, rfl, rfl, hacc, HS, HU⟩ := hrel
    clear HS0 HU0
    have hsz := HS.out.2.size
    by_cases hlt : k < M.size
    · have hltz : (k : Int) < (M.size : Int) := by omega
      by_cases hc34 : M[k] = 34
      · have g1 : ((M[k].toNat : Int) == 34) = true := by rw [hc34]; rfl
        cases b with
        | false =>
          have HR := Lib.hid (HN.out (unq_stop hlt HU.out (.inr ⟨rfl, hc34⟩)))
          clear hc34
          go_wp2
          rw [Exit.noGoto_ret]
          go_ret2
          exact ⟨by rw [HR.out]; rfl, HS.out.2⟩
        | true =>
          have HK := Lib.hid (unq_keep hlt HU.out (.inl ⟨rfl, .inl hc34⟩))
          clear hc34
          go_wp2_with fail
          refine (write_byte w.heap.size w.heap.size acc M[k] wr HS.out.1 (by omega) hsz).mono ?_
          rintro e w3 ⟨rfl, hi3, hb3⟩
          have HS3 := Lib.hid (And.intro hi3 (HS.out.2.trans hb3))
          clear hi3 hb3
          go_wp2
          go_roundw
          case rel => exact ⟨k + 1, false, acc ++ [M[k]], by omega, rfl, by go_num, by simp only [List.length_append, List.length_cons, List.length_nil]; omega, HS3, HK⟩
          case measure => simp [intOf]; omega
      · have g1 : ((M[k].toNat : Int) == 34) = false := (byte_eq (n := 34) (by decide)).trans (decide_eq_false hc34)
        by_cases hc92 : M[k] = 92
        · have g2 : ((M[k].toNat : Int) == 92) = true := by rw [hc92]; rfl
          cases b with
          | false =>
            have HK := Lib.hid (unq_slash hlt HU.out hc92)
            clear hc92 hc34
            go_wp2
            go_roundw
            case rel => exact ⟨k + 1, true, acc, by omega, rfl, by go_num, by omega, HS, HK⟩
            case measure => simp [intOf]; omega
          | true =>
            have HK := Lib.hid (unq_keep hlt HU.out (.inl ⟨rfl, .inr hc92⟩))
            clear hc92 hc34
            go_wp2_with fail
            refine (write_byte w.heap.size w.heap.size acc M[k] wr HS.out.1 (by omega) hsz).mono ?_
            rintro e w3 ⟨rfl, hi3, hb3⟩
            have HS3 := Lib.hid (And.intro hi3 (HS.out.2.trans hb3))
            clear hi3 hb3
            go_wp2
            go_roundw
            case rel => exact ⟨k + 1, false, acc ++ [M[k]], by omega, rfl, by go_num, by simp only [List.length_append, List.length_cons, List.length_nil]; omega, HS3, HK⟩
            case measure => simp [intOf]; omega
        · have g2 : ((M[k].toNat : Int) == 92) = false := (byte_eq (n := 92) (by decide)).trans (decide_eq_false hc92)
          have hno : ¬ (M[k] = 34 ∨ M[k] = 92) := by rintro (e | e); exact hc34 e; exact hc92 e
          cases b with
          | true =>
            have HR := Lib.hid (HN.out (unq_stop hlt HU.out (.inl ⟨rfl, hno⟩)))
            clear hc92 hc34 hno
            go_wp2
            rw [Exit.noGoto_ret]
            go_ret2
            exact ⟨by rw [HR.out]; rfl, HS.out.2⟩
          | false =>
            have HK := Lib.hid (unq_keep hlt HU.out (.inr ⟨rfl, hno⟩))
            clear hc92 hc34 hno
            go_wp2_with fail
            refine (write_byte w.heap.size w.heap.size acc M[k] wr HS.out.1 (by omega) hsz).mono ?_
            rintro e w3 ⟨rfl, hi3, hb3⟩
            have HS3 := Lib.hid (And.intro hi3 (HS.out.2.trans hb3))
            clear hi3 hb3
            go_wp2
            go_roundw
            case rel => exact ⟨k + 1, false, acc ++ [M[k]], by omega, rfl, by go_num, by simp only [List.length_append, List.length_cons, List.length_nil]; omega, HS3, HK⟩
            case measure => simp [intOf]; omega
    · have hend := unq_end hlt HU.out
      cases b with
      | true =>
        have HR := Lib.hid (HN.out hend)
        clear hend
        go_wp2
        first | rw [Exit.noGoto_ret] | skip
        go_ret2
        exact ⟨by rw [HR.out]; rfl, HS.out.2⟩
      | false =>
        have HR := Lib.hid (HY.out acc hend)
        clear hend
        go_wp2_with fail
        refine (Tryd.Builder_String_any_f w.heap.size w.heap.size acc wr (Lib.IsBuilderF.of HS.out.1) hsz).mono ?_
        rintro e w3 ⟨rfl, hi3, hb3⟩
        have HB3 := Lib.hid (HS.out.2.trans hb3)
        have hs3 := HB3.out.size
        have HC := Lib.hid (text_Valid.calls ⟨acc.toArray⟩ (validB ⟨acc.toArray⟩) w3 (HT.out.below HB3.out) (by unfold text_Valid.f; rw [if_pos (by rw [Lib.size_eq]; show acc.length ≤ _; omega)]))
        have HI3 := Lib.hid hi3
        clear hi3 hb3
        cases hv : validB ⟨acc.toArray⟩ with
        | true =>
          rw [hv] at HC HR
          clear hv
          go_wp2_with fail
          refine HC.out.mono ?_
          rintro e w4 ⟨rfl, hb4⟩
          have HI4 := Lib.hid (builderF_below HI3.out hb4)
          have hs4 : w.heap.size ≤ w4.heap.size := Nat.le_trans hs3 hb4.size
          have HB4 := Lib.hid (bel_trans HB3.out hb4)
          clear hb4
          go_wp2_with fail
          refine (Tryd.Builder_String_any_f w.heap.size w.heap.size acc w4 HI4.out hs4).mono ?_
          rintro e w5 ⟨rfl, _, hb5⟩
          go_wp2
          first | rw [Exit.noGoto_ret] | skip
          go_ret2
          exact ⟨by rw [HR.out]; rfl, HB4.out.trans hb5⟩
        | false =>
          rw [hv] at HC HR
          clear hv
          go_wp2_with fail
          refine HC.out.mono ?_
          rintro e w4 ⟨rfl, hb4⟩
          go_wp2
          first | rw [Exit.noGoto_ret] | skip
          go_ret2
          exact ⟨by rw [HR.out]; rfl, bel_trans HB3.out hb4⟩

def text_Unquote.f (a0 : ByteArray) : Option (ByteArray × Int) := if a0.size ≤ 140737488355328 then some (unqP a0) else none
theorem text_Unquote.calls (a0 : ByteArray) (r1 : ByteArray) (r2 : Int) (w : World) (hT : Tabs w) (h : text_Unquote.f a0 = some (r1, r2)) :
    Calls Tryd.prog 24 #[.string a0] w fun e w' => e = .returned (.tuple #[.string r1, .int .i64 r2]) ∧ Below w.heap.size w w' := by
  unfold text_Unquote.f at h
  split at h
  · rename_i hm
    have h := Option.some.inj h
    by_cases h2 : a0.size < 2
    · rw [unqP_form (.inl h2)] at h
      cases h
      exact unq_early1 a0 w h2
    · have hs : 2 ≤ a0.size := by omega
      have e0 : a0.get! 0 = a0[0] := get!_of a0 0 (by omega)
      have e1 : a0.get! (a0.size - 1) = a0[a0.size - 1] := get!_of a0 _ (by omega)
      have b0 := byte_eq (c := a0[0]) (n := 34) (by decide)
      have b1 := byte_eq (c := a0[a0.size - 1]) (n := 34) (by decide)
      by_cases hc0 : a0[0] = 34
      · have n0 : ((a0[0].toNat : Int) != 34) = false := by rw [bne_eq_false_iff_eq]; exact beq_iff_eq.1 (b0.trans (decide_eq_true hc0))
        by_cases hc1 : a0[a0.size - 1] = 34
        · have n1 : ((a0[a0.size - 1].toNat : Int) != 34) = false := by rw [bne_eq_false_iff_eq]; exact beq_iff_eq.1 (b1.trans (decide_eq_true hc1))
          have hf : ¬ (a0.size < 2 ∨ (a0.get! 0) ≠ 34 ∨ a0.get! (a0.size - 1) ≠ 34) := by
            rintro (e | e | e)
            · exact h2 e
            · exact e (e0.trans hc0)
            · exact e (e1.trans hc1)
          have hMs : (middle a0).size ≤ 140737488355326 := by
            unfold middle
            rw [ByteArray.size_extract]
            omega
          have := unq_main a0 (middle a0) w hs hm n0 n1 rfl hMs (unqP a0) (Lib.hid hT) (Lib.hid fun e => unqP_none hf e) (Lib.hid fun l e => unqP_some hf e)
          rw [h] at this
          exact this
        · rw [unqP_form (.inr (.inr (by rw [e1]; exact hc1)))] at h
          cases h
          exact unq_early3 a0 w hs hm n0 (by rw [bne_iff_ne]; exact beq_eq_false_iff_ne.1 (b1.trans (decide_eq_false hc1)))
      · rw [unqP_form (.inr (.inl (by rw [e0]; exact hc0)))] at h
        cases h
        exact unq_early2 a0 w hs (by rw [bne_iff_ne]; exact beq_eq_false_iff_ne.1 (b0.trans (decide_eq_false hc0)))
  · cases h
end Go.Proofs.YtndgmcifagipjaaDoor
