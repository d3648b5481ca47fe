/- The walk of TextUnquotes. -/
import Derived.Test.YtndgmcifagipjaaDoorUnqLaw
namespace Go.Proofs.YtndgmcifagipjaaDoor.UnqLaw
open Go.RowKit Go.Proofs.YtndgmcifagipjaaDoor Go.Proofs.YtndgmcifagipjaaDoor.Plain

theorem laid_five (a b c d e : ByteArray) (w : World) : ∃ W, w.alloc (.cells #[.string a, .string b, .string c, .string d, .string e] 9) = W ∧ Below w.heap.size w W ∧
    ∀ k, k < 5 → ∀ w', Below W.heap.size W w' → ∃ t ∈ [a, b, c, d, e], w'.cell? ⟨w.heap.size, k, none⟩ = some (.string t) := by
  refine ⟨_, rfl, (Below.refl _ _).alloc (Nat.le_refl _) _, fun k hk w' hb => ?_⟩
  rw [hb.cell (show w.heap.size < (w.alloc _).heap.size by rw [World.size_alloc]; omega), World.cell?_alloc_new]
  match k, hk with
  | 0, _ => exact ⟨a, by simp, rfl⟩
  | 1, _ => exact ⟨b, by simp, rfl⟩
  | 2, _ => exact ⟨c, by simp, rfl⟩
  | 3, _ => exact ⟨d, by simp, rfl⟩
  | 4, _ => exact ⟨e, by simp, rfl⟩

theorem quote_short {u t : ByteArray} (h : quoteP u = (t, 0)) : u.size ≤ 200 := by
  unfold quoteP at h
  by_cases hv : validB u = true
  · exact (of_decide_eq_true hv).1
  · rw [if_neg hv] at h; cases h

set_option maxRecDepth 100000 in
set_option maxHeartbeats 4000000 in
theorem walk (s : ByteArray) (hs : s.size ≤ 140737488351232) (x : Int) (_hx : (Lit.int .i64 x).wf = true) (c : Int) (hc : (Lit.int .u8 c).wf = true) (w : World) (hT : Tabs w) :
    Calls Tryd.prog 9 #[.string s, .int .i64 x, .int .u8 c] w fun e w' => e = .returned (.bool true) ∧ Below w.heap.size w w' := by
  have HT := Lib.hid hT
  clear hT
  go_enter Tryd.func9, Tryd.ntmps9
  go_wp2_with (go_at_call 10; refine (PT.flagstonelaw1_awake.calls true w HT.out Pure.awake_true).mono ?_; rintro e w1 ⟨rfl, hb1⟩)
  have HB1 := Lib.hid hb1
  clear hb1
  have HT1 := Lib.hid (Tabs.below HT.out HB1.out)
  obtain ⟨q, e1, hq, hqs⟩ : ∃ q e1, quoteP s = (q, e1) ∧ q.size ≤ 402 := ⟨_, _, rfl, quoteP_size s⟩
  have HQ := Lib.hid hq
  clear hq
  refine (PT.flagstoneref1_Quote.calls 400 s q e1 w1 HT1.out (by rw [Pure.quote_f s 400 (by omega) (by omega), HQ.out])).mono ?_
  rintro e w2 ⟨rfl, hb2⟩
  have HB2 := Lib.hid (bel_trans HB1.out hb2)
  clear hb2
  have HT2 := Lib.hid (Tabs.below HT.out HB2.out)
  obtain ⟨W, cap, hrun, hbW, hsW, hcW, hfW⟩ := laid_bytes q w2
  have HBW := Lib.hid hbW
  have HCW := Lib.hid hcW
  clear hbW hcW
  have hcon : ∃ W4 r, Below w2.heap.size w2 W4 ∧ W4.heap.size = w2.heap.size + 1 ∧ r.size = q.size ∧ (convert 26 9 (.slice (some ⟨w2.heap.size, 0, none⟩) q.size cap)).run Tryd.prog W4 = .ok (.string r) W4 ∧
      ((q.size = 0 ∧ W4 = W) ∨ (0 < q.size ∧ (0 ≤ (wrap64 (x.tmod (q.size : Int) + (q.size : Int))).tmod (q.size : Int) ∧ (wrap64 (x.tmod (q.size : Int) + (q.size : Int))).tmod (q.size : Int) < (q.size : Int)) ∧
        W.frozen? ⟨w2.heap.size, ((wrap64 (x.tmod (q.size : Int) + (q.size : Int))).tmod (q.size : Int)).toNat, none⟩ = false ∧ (∃ v, W.cell? ⟨w2.heap.size, ((wrap64 (x.tmod (q.size : Int) + (q.size : Int))).tmod (q.size : Int)).toNat, none⟩ = some v) ∧
        W.setCell ⟨w2.heap.size, ((wrap64 (x.tmod (q.size : Int) + (q.size : Int))).tmod (q.size : Int)).toNat, none⟩ (.int .u8 c) = W4)) := by
    rcases Nat.eq_zero_or_pos q.size with h0 | h0
    · obtain ⟨r, hr, h⟩ := back_bytes q w2.heap.size cap W HCW.out
      exact ⟨W, r, HBW.out, hsW, hr, h, .inl ⟨h0, rfl⟩⟩
    · have hi := idx_in x q.size h0 (by omega)
      have hin : ((wrap64 (x.tmod (q.size : Int) + (q.size : Int))).tmod (q.size : Int)).toNat < q.size := by omega
      obtain ⟨r, hr, h⟩ := set_bytes q w2.heap.size cap _ W c hc hin HCW.out
      exact ⟨_, r, HBW.out.setCell (Nat.le_refl _) _, by simp only [World.setCell, Array.size_modify]; exact hsW, hr, h, .inr ⟨h0, hi, hfW _ hin, ⟨_, HCW.out _ hin⟩, rfl⟩⟩
  obtain ⟨W4, r, hb4, hs4, hr, hrun2, hcase⟩ := hcon
  have HB4 := Lib.hid (bel_trans HB2.out hb4)
  have HT4 := Lib.hid (Tabs.below HT.out HB4.out)
  clear hb4 hfW HCW HBW
  have z1 : (({ data := #[34] } : ByteArray) ++ s ++ { data := #[34] }).size ≤ 140737488355000 := by
    rw [ByteArray.size_append, ByteArray.size_append]
    show 1 + s.size + 1 ≤ _
    omega
  have z4 : (({ data := #[34] } : ByteArray) ++ s ++ { data := #[92, 34] }).size ≤ 140737488355000 := by
    rw [ByteArray.size_append, ByteArray.size_append]
    show 1 + s.size + 2 ≤ _
    omega
  have d1 : s.size + 2 ≤ 9223372036854775807 := by omega
  rcases hcase with ⟨h0, rfl⟩ | ⟨h0, hi, hf, ⟨v, hv⟩, hset⟩
  · rw [h0] at hrun hrun2
    go_wp2_with fail
    clear hrun hrun2 hsW
    generalize ({ data := #[34] } : ByteArray) ++ s ++ { data := #[34] } = t1 at z1 ⊢
    generalize ({ data := #[34] } : ByteArray) ++ s ++ { data := #[92, 34] } = t4 at z4 ⊢
    have hl : ∀ t ∈ [s, t1, q, r, t4], t.size ≤ 140737488355000 := by
      intro t ht
      simp only [List.mem_cons, List.not_mem_nil, or_false] at ht
      rcases ht with rfl | rfl | rfl | rfl | rfl <;> omega
    obtain ⟨W5, hW5, hb5, hc5⟩ := laid_five s t1 q r t4 W4
    rw [hW5]
    have HB5 := Lib.hid (bel_trans HB4.out hb5)
    have HT5 := Lib.hid (Tabs.below HT.out HB5.out)
    have HC5 := Lib.hid hc5
    clear hb5 hc5
    go_loopw [55] (fun i wr => ∃ k : Nat, k ≤ 5 ∧ i = .int .i64 k ∧ Hid (Below W5.heap.size W5 wr)) (fun i _ => 5 - (intOf i).toNat)
    case atStart => exact ⟨0, Nat.zero_le _, rfl, Lib.hid (Below.refl _ _)⟩
    case round =>
      obtain ⟨k, hk, rfl, HS⟩ := hrel
      by_cases hlt : k < 5
      · have hltz : (k : Int) < 5 := by omega
        obtain ⟨t, ht, hcell⟩ := HC5.out k hlt wr HS.out
        rw [hs4] at hcell
        have hts := hl t ht
        obtain ⟨u, e, hu⟩ : ∃ u e, unqP t = (u, e) := ⟨_, _, rfl⟩
        have HU := Lib.hid hu
        clear hu
        have HTr := Lib.hid (Tabs.below HT5.out HS.out)
        go_wp2_with fail
        refine (text_Unquote.calls t u e wr HTr.out (by unfold text_Unquote.f; rw [if_pos (by omega), HU.out])).mono ?_
        rintro e_ w6 ⟨rfl, hb6⟩
        have HB6 := Lib.hid (HS.out.trans (hb6.mono HS.out.size))
        have HT6 := Lib.hid (Tabs.below HTr.out hb6)
        clear hb6
        go_wp2_with fail
        refine (PT.flagstoneref1_Unquote.calls (400 + t.size) t u e w6 HT6.out (by rw [Pure.unquote_f t (by omega) _ (by omega), HU.out])).mono ?_
        rintro e_ w7 ⟨rfl, hb7⟩
        have HB7 := Lib.hid (HB6.out.trans (hb7.mono HB6.out.size))
        have HT7 := Lib.hid (Tabs.below HT6.out hb7)
        clear hb7
        by_cases he : e = 0
        · subst he
          have HQ2 := Lib.hid (Pure.quote_unq t u HU.out)
          have hus := quote_short HQ2.out
          go_wp2_with fail
          refine (text_Quote.calls u t 0 w7 HT7.out (by unfold text_Quote.f; rw [if_pos (by omega), HQ2.out])).mono ?_
          rintro e_ w8 ⟨rfl, hb8⟩
          have HB8 := Lib.hid (HB7.out.trans (hb8.mono HB7.out.size))
          clear hb8
          go_wp2
          go_roundw
          case rel => exact ⟨k + 1, by omega, by go_num, HB8⟩
          case measure => simp [intOf]; omega
        · have he2 : (e == 0) = false := beq_eq_false_iff_ne.2 he
          go_wp2
          go_roundw
          case rel => exact ⟨k + 1, by omega, by go_num, HB7⟩
          case measure => simp [intOf]; omega
      · obtain rfl : k = 5 := by omega
        go_wp2_with fail
        go_ret
        exact ⟨rfl, bel_trans HB5.out HS.out⟩
  · go_wp2_with fail
    clear hrun hrun2 hsW hset hv hf hi
    generalize ({ data := #[34] } : ByteArray) ++ s ++ { data := #[34] } = t1 at z1 ⊢
    generalize ({ data := #[34] } : ByteArray) ++ s ++ { data := #[92, 34] } = t4 at z4 ⊢
    have hl : ∀ t ∈ [s, t1, q, r, t4], t.size ≤ 140737488355000 := by
      intro t ht
      simp only [List.mem_cons, List.not_mem_nil, or_false] at ht
      rcases ht with rfl | rfl | rfl | rfl | rfl <;> omega
    obtain ⟨W5, hW5, hb5, hc5⟩ := laid_five s t1 q r t4 W4
    rw [hW5]
    have HB5 := Lib.hid (bel_trans HB4.out hb5)
    have HT5 := Lib.hid (Tabs.below HT.out HB5.out)
    have HC5 := Lib.hid hc5
    clear hb5 hc5
    go_loopw [55] (fun i wr => ∃ k : Nat, k ≤ 5 ∧ i = .int .i64 k ∧ Hid (Below W5.heap.size W5 wr)) (fun i _ => 5 - (intOf i).toNat)
    case atStart => exact ⟨0, Nat.zero_le _, rfl, Lib.hid (Below.refl _ _)⟩
    case round =>
      obtain ⟨k, hk, rfl, HS⟩ := hrel
      by_cases hlt : k < 5
      · have hltz : (k : Int) < 5 := by omega
        obtain ⟨t, ht, hcell⟩ := HC5.out k hlt wr HS.out
        rw [hs4] at hcell
        have hts := hl t ht
        obtain ⟨u, e, hu⟩ : ∃ u e, unqP t = (u, e) := ⟨_, _, rfl⟩
        have HU := Lib.hid hu
        clear hu
        have HTr := Lib.hid (Tabs.below HT5.out HS.out)
        go_wp2_with fail
        refine (text_Unquote.calls t u e wr HTr.out (by unfold text_Unquote.f; rw [if_pos (by omega), HU.out])).mono ?_
        rintro e_ w6 ⟨rfl, hb6⟩
        have HB6 := Lib.hid (HS.out.trans (hb6.mono HS.out.size))
        have HT6 := Lib.hid (Tabs.below HTr.out hb6)
        clear hb6
        go_wp2_with fail
        refine (PT.flagstoneref1_Unquote.calls (400 + t.size) t u e w6 HT6.out (by rw [Pure.unquote_f t (by omega) _ (by omega), HU.out])).mono ?_
        rintro e_ w7 ⟨rfl, hb7⟩
        have HB7 := Lib.hid (HB6.out.trans (hb7.mono HB6.out.size))
        have HT7 := Lib.hid (Tabs.below HT6.out hb7)
        clear hb7
        by_cases he : e = 0
        · subst he
          have HQ2 := Lib.hid (Pure.quote_unq t u HU.out)
          have hus := quote_short HQ2.out
          go_wp2_with fail
          refine (text_Quote.calls u t 0 w7 HT7.out (by unfold text_Quote.f; rw [if_pos (by omega), HQ2.out])).mono ?_
          rintro e_ w8 ⟨rfl, hb8⟩
          have HB8 := Lib.hid (HB7.out.trans (hb8.mono HB7.out.size))
          clear hb8
          go_wp2
          go_roundw
          case rel => exact ⟨k + 1, by omega, by go_num, HB8⟩
          case measure => simp [intOf]; omega
        · have he2 : (e == 0) = false := beq_eq_false_iff_ne.2 he
          go_wp2
          go_roundw
          case rel => exact ⟨k + 1, by omega, by go_num, HB7⟩
          case measure => simp [intOf]; omega
      · obtain rfl : k = 5 := by omega
        go_wp2_with fail
        go_ret
        exact ⟨rfl, bel_trans HB5.out HS.out⟩

theorem flagstonelaw1_TextUnquotes.walk (_ : True) (a0 : ByteArray) (a1 a2 : Int) (w : World) (hT : Tabs w) (w0 : a0.size ≤ 140737488351232) (w1 : (Lit.int .i64 a1).wf = true) (w2 : (Lit.int .u8 a2).wf = true) :
    Calls Tryd.prog 9 #[.string a0, .int .i64 a1, .int .u8 a2] w fun e w' => e = .returned (.bool true) ∧ Below w.heap.size w w' := UnqLaw.walk a0 w0 a1 w1 a2 w2 w hT
end Go.Proofs.YtndgmcifagipjaaDoor.UnqLaw
