/- The walk of the law MetricLong. -/
import Derived.Test.YtbiolondnkeakaaDoorAwake
import Derived.Test.YtbiolondnkeakaaDoorData
import Derived.Test.YtbiolondnkeakaaDoorRound
namespace Go.Proofs.YtbiolondnkeakaaDoor
open Go.RowKit Go.Proofs.YtbiolondnkeakaaDoor.PT Go.Proofs.YtbiolondnkeakaaDoorW.PrintWords Go.Proofs.YtbiolondnkeakaaDoorW.PrintLast Go.Proofs.YtbiolondnkeakaaDoorW.PrintMore Plain Split

theorem key_buy : keyB sBuy = true := by decide +kernel
theorem key_visit : keyB sVisit = true := by decide +kernel
theorem key_name (x : Int) : keyB (nameOf x) = true := by
  unfold nameOf
  split
  · exact key_buy
  · exact key_visit
/-- A made metric has no errors. -/
theorem metD_fine (l : List Int) : Fine (metD l) := by
  have h1 := nxV_range l 0 (n := 4) (by omega)
  have h2 := nxV_range l (d2 l) (n := 30) (by omega)
  have h3 := nxV_range l (d3 l) (n := 50) (by omega)
  have h4 := nxV_range l (d6 l) (n := 10) (by omega)
  have h5 := nxV_range l (d8 l) (n := 20) (by omega)
  refine ⟨?_, ?_, key_name _, fun hk => ?_, ?_, ?_, ?_, ?_, ?_, ?_, ?_, ?_, fun hk => ?_, fun hk => ?_⟩
  · show 1 ≤ dK l; unfold dK; omega
  · show dK l ≤ 4; unfold dK; omega
  · show keyB (dB l) = true
    unfold dB
    rw [if_pos (show dK l = 4 from hk)]
    exact key_name _
  · show 1 ≤ dW l; unfold dW; omega
  · show dW l ≤ _; unfold dW; omega
  · show 1 ≤ dCa l; unfold dCa dC; split <;> omega
  · show dCa l ≤ _; unfold dCa dC; split <;> omega
  · show _ ≤ dL l; unfold dL; split <;> omega
  · show dL l ≤ _; unfold dL; split <;> omega
  · show 0 ≤ dE l; unfold dE; split <;> omega
  · show dE l ≤ _; unfold dE; split <;> omega
  · show dB l = _
    unfold dB
    rw [if_neg (show ¬ dK l = 4 from hk)]
  · show dCa l = 1
    unfold dCa
    rw [if_pos (show dK l = 3 from hk)]
theorem bytes_wf {l : List Int} (h : ∀ n ∈ l, (Lit.int .u8 n).wf = true) : Bytes l := fun x hx => by
  have := h x hx
  simp only [Lit.wf, IntKind.min, IntKind.max, IntKind.signed, IntKind.bits, Bool.and_eq_true] at this
  simpa using this
theorem bytes_u8 {n : Int} (h : (Lit.int .u8 n).wf = true) : 0 ≤ n ∧ n ≤ 255 := bytes_wf (l := [n]) (by simpa using h) n (by simp)

theorem sp_size (S : ByteArray) : (S ++ ⟨#[32]⟩).size = S.size + 1 := by rw [ByteArray.size_append]; rfl
theorem sp_data {S S0 : ByteArray} {n : Nat} (h : S.data.toList = S0.data.toList ++ List.replicate n 32) : (S ++ ⟨#[32]⟩).data.toList = S0.data.toList ++ List.replicate (n + 1) 32 := by
  rw [app, h, List.replicate_succ', List.append_assoc]
namespace PL
set_option maxRecDepth 100000 in
set_option maxHeartbeats 4000000 in
theorem flagstonelaw34_MetricLong.walk (_ : True) (a0 : Option Addr) (len0 cap0 : Nat) (z0 : List Int) (a1 : Int) (w : World) (hT : Tabs w) (w0 : (a0 = none ∧ len0 = 0 ∧ cap0 = 0 ∧ z0 = []) ∨ ∃ x, a0 = some x ∧ len0 ≤ cap0 ∧ cap0 ≤ maxLen ∧ z0.length = cap0 ∧ (∀ i, i < z0.length → w.cell? (x.add i) = some (.int .u8 (z0.getD i 0))) ∧ ∀ n ∈ z0, (Lit.int .u8 n).wf = true) (y0 : len0 * 1 ≤ 140737488351232) (w1 : (Lit.int .u8 a1).wf = true) :
    Calls Tryd.prog 4 #[.slice a0 len0 cap0, .int .u8 a1] w fun e w' => e = .returned (.bool true) ∧ Below w.heap.size w w' := by
  obtain ⟨l, rfl, hr, _, hw, _⟩ := ReadsInt.ofRowC w0
  have hrC := Kd.C_of_reads (d := (0 : Int)) (h1 := fun _ => rfl) hr
  have HL := Lib.hid (And.intro hrC (And.intro (bytes_wf hw) (And.intro (show l.length ≤ 4611686018427387904 by omega) hT)))
  obtain ⟨hn0, hn1⟩ := bytes_u8 w1
  clear w0 y0 w1 hr hw hrC hT
  go_enter Tryd.func4, Tryd.ntmps4
  go_wp2_with fail
  refine (awake_calls w HL.out.2.2.2).mono ?_
  rintro e w2 ⟨rfl, hb2⟩
  have HB2 := Lib.hid hb2
  clear hb2
  go_wp2_with fail
  refine (data_metric a0 cap0 l w2 (Kd.C_below HL.out.1 HB2.out) ⟨HL.out.2.1, HL.out.2.2.1⟩).mono ?_
  rintro e w3 ⟨rfl, hb3⟩
  have hf := metD_fine l
  obtain ⟨m, hm⟩ : ∃ m, metD l = m := ⟨_, rfl⟩
  rw [hm] at hf ⊢
  have HM := Lib.hid (And.intro hf (HB2.out.trans (hb3.mono HB2.out.size)))
  clear hm hf hb3 HB2
  simp only [Met.val]
  go_wp2_with fail
  have hM4 := val_start w3 m
  obtain ⟨W4, hW4, hb4, hs4⟩ : ∃ W4, w3.alloc (.cells #[.int .i64 m.k, .string m.nm, .string m.bl, .int .i64 m.wi, .int .i64 m.ca, .int .i64 m.le, .int .i64 m.be] 29) = W4 ∧ Below w3.heap.size w3 W4 ∧ w3.heap.size < W4.heap.size := ⟨_, rfl, (Below.refl _ _).alloc (Nat.le_refl _) _, by simp⟩
  rw [hW4] at hM4 ⊢
  obtain ⟨M, hM⟩ : ∃ M, w3.heap.size = M := ⟨_, rfl⟩
  have hbw4 : Below w.heap.size w W4 := HM.out.2.trans (hb4.mono HM.out.2.size)
  rw [hM] at hM4 hs4 ⊢
  have H4 := Lib.hid (And.intro hM4 (And.intro hs4 (And.intro hbw4 HM.out.1)))
  clear hM4 hs4 hb4 hbw4 hW4 HM hM
  have hnm := key_small H4.out.2.2.2.nm
  refine (refprint_calls m W4 (by omega) (by by_cases h4 : m.k = 4; have := key_small (H4.out.2.2.2.bl h4); omega; rw [H4.out.2.2.2.sh h4]; decide)).mono ?_
  rw [show printM m = (p10 m, 0) from if_neg (fun h => h (fine_iff.2 H4.out.2.2.2))]
  rintro e w5 ⟨rfl, hb5⟩
  have hps := p10_small H4.out.2.2.2
  have hst5 : IsM M m w5 := H4.out.1.grown (b := W4.heap.size) (gb_below _ hb5) H4.out.2.1 (Nat.ne_of_lt H4.out.2.1)
  have H5 := Lib.hid (And.intro hst5 (And.intro (Nat.lt_of_lt_of_le H4.out.2.1 hb5.size) (And.intro (H4.out.2.2.1.trans (hb5.mono H4.out.2.2.1.size)) H4.out.2.2.2)))
  clear hst5 hb5 H4 hnm
  obtain ⟨sz, hsz⟩ : ∃ sz : Nat, (sz : Int) = 198 + a1 % 5 := ⟨(198 + a1 % 5).toNat, by omega⟩
  have hsz1 : 198 ≤ sz ∧ sz ≤ 202 := by omega
  have hszr : (198 + a1 % 5 : Int) = (sz : Int) := hsz.symm
  obtain ⟨hsza, hszb⟩ := hsz1
  clear hsz
  obtain ⟨S0, hS0⟩ : ∃ S0, p10 m = S0 := ⟨_, rfl⟩
  rw [hS0] at hps ⊢
  have HS0 := Lib.hid hS0
  clear hS0
  go_wp2_with fail
  go_loopg [6] 300 (fun gg s6 wr => ∃ (S : ByteArray) (n : Nat), s6 = .string S ∧ Hid (S.data.toList = S0.data.toList ++ List.replicate n 32) ∧ S.size ≤ sz ∧ 300 - S.size ≤ gg ∧ wr = w5)
  case atStart => exact ⟨S0, 0, rfl, by rw [List.replicate_zero, List.append_nil]; exact Lib.hid rfl, by omega, by omega, rfl⟩
  case round =>
    obtain ⟨S, n, rfl, HS, hSs, hgg, rfl⟩ := hrel
    by_cases hlt : S.size < sz
    · have hltd : decide ((S.size : Int) < (sz : Int)) = true := decide_eq_true (by omega)
      have hz : (9223372036854775807 < S.size + 1) = False := eq_false (by omega)
      go_wp2_with fail
      go_roundg (300 - (S.size + 1))
      case measure => omega
      case rel => exact ⟨S ++ ⟨#[32]⟩, n + 1, rfl, sp_data HS.out, by rw [sp_size]; omega, by rw [sp_size]; exact Nat.le_refl _, rfl⟩
    · have hltd : decide ((S.size : Int) < (sz : Int)) = false := decide_eq_false (by omega)
      go_wp2_with fail
      refine (parse_any S _ (Tabs.below HL.out.2.2.2 H5.out.2.2.1)).mono ?_
      have hM : M < wr.heap.size := H5.out.2.1
      by_cases hbig : 200 < sz
      · have hp : parseM S = (.zero, 4) := if_pos (by omega)
        rw [hp]
        have hbd : decide ((200 : Int) < (sz : Int)) = true := decide_eq_true (by omega)
        rintro e w6 ⟨rfl, hb6⟩
        have HB6 := Lib.hid (H5.out.2.2.1.trans (hb6.mono H5.out.2.2.1.size))
        clear hp hb6
        simp only [Met.val, Met.zero]
        go_wp2_with fail
        go_ret
        exact ⟨rfl, HB6.out.alloc HB6.out.size _⟩
      · have hp : parseM S = (m, 0) := parse_fb H5.out.2.2.2 (by omega) (by rw [HS.out, fb_spaces, ← HS0.out, fb_p10 H5.out.2.2.2])
        rw [hp]
        have hbd : decide ((200 : Int) < (sz : Int)) = false := decide_eq_false (by omega)
        rintro e w6 ⟨rfl, hb6⟩
        have hst6 : IsM M m w6 := H5.out.1.grown (b := wr.heap.size) (gb_below _ hb6) hM (Nat.ne_of_lt hM)
        have hM6 : M < w6.heap.size := Nat.lt_of_lt_of_le hM hb6.size
        obtain ⟨c0, c1, c2, c3, c4, c5, c6, _⟩ := hst6
        have HB6 := Lib.hid (H5.out.2.2.1.trans (hb6.mono H5.out.2.2.1.size))
        clear hp hb6
        simp only [Met.val]
        go_wp2_with fail
        go_ret
        exact ⟨rfl, HB6.out.alloc HB6.out.size _⟩
end PL
end Go.Proofs.YtbiolondnkeakaaDoor
