/- The law's texts of words, and the texts that are spoiled: there are such, of a possible size. The walk of the law MetricParses. -/
import Derived.Test.YtbiolondnkeakaaDoorPTx6
import Derived.Test.YtbiolondnkeakaaDoorPTx7
import Derived.Test.YtbiolondnkeakaaDoorLong
import Derived.Laws.IdiomStrings
import Derived.Lib.AtoiErrMem
import Derived.Test.YtbiolondnkeakaaDoorRefAll
import Derived.Test.YtbiolondnkeakaaDoorAwake
namespace Go.Proofs.YtbiolondnkeakaaDoor
open Go.RowKit Go.Proofs.YtbiolondnkeakaaDoor.PT Go.Proofs.YtbiolondnkeakaaDoorW.PrintWords Go.Proofs.YtbiolondnkeakaaDoorW.PrintLast Go.Proofs.YtbiolondnkeakaaDoorW.PrintMore Plain

def Oct (l : List Int) : Prop := ∀ x ∈ l, 0 ≤ x ∧ x ≤ 255
theorem Oct.take {l : List Int} (h : Oct l) (n : Nat) : Oct (l.take n) := fun x hx => h x (List.mem_of_mem_take hx)
theorem Oct.drop {l : List Int} (h : Oct l) (n : Nat) : Oct (l.drop n) := fun x hx => h x (List.mem_of_mem_drop hx)
theorem Oct.app {l k : List Int} (h : Oct l) (h2 : Oct k) : Oct (l ++ k) := fun x hx => (List.mem_append.1 hx).elim (h x) (h2 x)
theorem Oct.one {c : Int} (h : 0 ≤ c ∧ c ≤ 255) : Oct [c] := fun x hx => by cases List.mem_singleton.1 hx; exact h
theorem Oct.nil : Oct [] := fun x hx => by cases hx
theorem Oct.set {l : List Int} (h : Oct l) (i : Nat) {c : Int} (hc : 0 ≤ c ∧ c ≤ 255) : Oct (l.set i c) := fun x hx => (List.mem_or_eq_of_mem_set hx).elim (h x) (fun e => by rw [e]; exact hc)
theorem spoil_j0 (k : Nat) (l : List Int) (a2 a3 : Int) (K : Nat) (hl : l.length ≤ 1000) (h : Oct l) (h3 : 0 ≤ a3 ∧ a3 ≤ 255) (hK : K ≤ l.length) (hK1 : 0 < l.length → K < l.length) : ∃ r, flagstonedata_Spoil.j0 (k + 1) l a2 a3 l (K : Int) = some r ∧ Oct r ∧ r.length ≤ 1001 := by
  have e1 : wrap64 ((K : Int) + 1) = ((K + 1 : Nat) : Int) := by unfold wrap64; omega
  have ht : (l.take K).length ≤ 1000 := by rw [List.length_take]; omega
  have hd : (l.drop K).length ≤ 1000 := by rw [List.length_drop]; omega
  have hd1 : (l.drop (K + 1)).length ≤ 1000 := by rw [List.length_drop]; omega
  have htl : (l.take K).length = K := by rw [List.length_take]; omega
  have hdl : (l.drop K).length = l.length - K := List.length_drop
  have hdl1 : (l.drop (K + 1)).length = l.length - (K + 1) := List.length_drop
  rw [flagstonedata_Spoil.j0]
  by_cases c0 : Int.tmod a2 5 = 0
  · rw [if_pos c0]
    by_cases hp : (l.length : Int) > 0
    · rw [if_pos hp, if_pos (by omega), if_pos (by have := hK1 (by omega); omega)]
      exact ⟨_, rfl, h.set _ h3, by rw [List.length_set]; omega⟩
    · rw [if_neg hp]
      exact ⟨_, rfl, h, by omega⟩
  · rw [if_neg c0]
    by_cases c1 : Int.tmod a2 5 = 1
    · rw [if_pos c1, Option.bind_some, if_pos (by omega), if_pos (by omega), Int.toNat_natCast, List.nil_append, if_pos (by simp only [List.length_nil]; omega), Option.bind_some, Option.bind_some, if_pos (by simp only [List.length_cons, List.length_nil]; omega), Option.bind_some, if_pos (by simp only [List.length_append, List.length_cons, List.length_nil]; omega)]
      exact ⟨_, rfl, (((h.take K).app (Oct.one h3)).app (h.drop K)), by simp only [List.length_append, List.length_cons, List.length_nil]; omega⟩
    · rw [if_neg c1]
      by_cases c2 : Int.tmod a2 5 = 2
      · rw [if_pos c2]
        by_cases hp : (l.length : Int) > 0
        · have hK2 := hK1 (by omega)
          rw [if_pos hp, Option.bind_some, if_pos (by omega), if_pos (by omega), Int.toNat_natCast, List.nil_append, if_pos (by simp only [List.length_nil]; omega), Option.bind_some, e1, if_pos (by omega), if_pos (by omega), Int.toNat_natCast, if_pos (by omega)]
          exact ⟨_, rfl, (h.take K).app (h.drop (K + 1)), by simp only [List.length_append]; omega⟩
        · rw [if_neg hp]
          exact ⟨_, rfl, h, by omega⟩
      · rw [if_neg c2]
        by_cases c3 : Int.tmod a2 5 = 3
        · rw [if_pos c3, if_pos (by omega), if_pos (by omega), Int.toNat_natCast]
          exact ⟨_, rfl, h.take K, by omega⟩
        · rw [if_neg c3]
          exact ⟨_, rfl, h, by omega⟩
theorem spoil_some (l : List Int) (a1 a2 a3 : Int) (hl : l.length ≤ 1000) (h : Oct l) (h1 : 0 ≤ a1 ∧ a1 ≤ 65535) (h3 : 0 ≤ a3 ∧ a3 ≤ 255) : ∃ r, flagstonedata_Spoil.f 1 l a1 a2 a3 = some r ∧ Oct r ∧ r.length ≤ 1001 := by
  unfold flagstonedata_Spoil.f
  rw [Option.bind_some, if_pos (by simp only [List.length_nil]; omega), Option.bind_some, List.nil_append]
  by_cases hp : (l.length : Int) > 0
  · have ew : wrap64 a1 = a1 := by unfold wrap64; omega
    rw [if_pos hp, if_neg (by omega), ew]
    have k0 := Int.tmod_nonneg (l.length : Int) h1.1
    have k1 := Int.tmod_lt_of_pos a1 hp
    obtain ⟨K, hK⟩ : ∃ K : Nat, Int.tmod a1 (l.length : Int) = (K : Int) := ⟨(Int.tmod a1 (l.length : Int)).toNat, by omega⟩
    rw [hK]
    exact spoil_j0 0 l a2 a3 K hl h h3 (by omega) (by omega)
  · rw [if_neg hp]
    exact spoil_j0 0 l a2 a3 0 hl h h3 (by omega) (by omega)

theorem rdOf_small {ws : List ByteArray} {n : Nat} (h : ∀ x ∈ ws, x.size ≤ n) (i : Int) : (rdOf ByteArray.empty ws i).size ≤ n := by
  unfold rdOf
  rw [List.getD_eq_getElem?_getD]
  cases hx : ws[i.toNat]? with
  | none => exact Nat.zero_le _
  | some x => exact h x (List.mem_of_getElem? hx)
theorem text_l0 (l : List Int) (hb : Bytes l) (ws : List ByteArray) (hw : ws.length = 22) (hs : ∀ x ∈ ws, x.size ≤ 13) (d : Nat) : ∀ (k i : Nat) (s : ByteArray), i + d = 20 → d < k → s.size ≤ 20 * i →
    ∃ r, flagstonelaw34_text.l0 k l ws s (i : Int) = some r ∧ r.size ≤ 400 := by
  have hbl : ∀ x ∈ ([(⟨#[32]⟩ : ByteArray), (⟨#[32, 32]⟩ : ByteArray), (⟨#[10]⟩ : ByteArray), (⟨#[9]⟩ : ByteArray)] : List ByteArray), x.size ≤ 2 := by decide
  induction d with
  | zero =>
    intro k i s hi hk hsz
    obtain ⟨k, rfl⟩ : ∃ m, k = m + 1 := ⟨k - 1, by omega⟩
    rw [flagstonelaw34_text.l0]
    by_cases hlt : (i : Int) < (l.length : Int)
    · rw [if_pos hlt, if_neg (by omega)]
      exact ⟨_, rfl, by omega⟩
    · rw [if_neg hlt]
      exact ⟨_, rfl, by omega⟩
  | succ d ih =>
    intro k i s hi hk hsz
    obtain ⟨k, rfl⟩ : ∃ m, k = m + 1 := ⟨k - 1, by omega⟩
    rw [flagstonelaw34_text.l0]
    by_cases hlt : (i : Int) < (l.length : Int)
    · have h20 : (i : Int) < 20 := by omega
      have h00 : (0 : Int) ≤ (i : Int) := by omega
      have h22 : ¬ (((22 : Nat) : Int) = 0) := by omega
      have h22e : ((22 : Nat) : Int) = 22 := by omega
      have hin : i < l.length := by omega
      have hr : rd l (i : Int) = l[i] := by unfold rd; simp [hin]
      have hx := hb l[i] (List.getElem_mem hin)
      obtain ⟨x, hxe⟩ : ∃ x, l[i] = x := ⟨_, rfl⟩
      rw [hxe] at hr hx
      have y0 : 0 ≤ x / 64 := by omega
      have y4 : x / 64 < 4 := by omega
      have y256 : x / 64 % 256 = x / 64 := by omega
      have ew : wrap64 x = x := by unfold wrap64; omega
      have k0 := Int.tmod_nonneg (22 : Int) hx.1
      have k1 := Int.tmod_lt_of_pos x (show (0 : Int) < 22 by omega)
      have q0 : Int.tdiv x 64 = x / 64 := Int.tdiv_eq_ediv_of_nonneg hx.1
      have e1 : wrap64 ((i : Int) + 1) = ((i + 1 : Nat) : Int) := by unfold wrap64; omega
      have s1 := rdOf_small hs (Int.tmod x 22)
      have s2 := rdOf_small hbl (x / 64)
      rw [if_pos hlt, if_pos h20, if_pos h00, hr, ew, hw, q0, y256]
      clear hr ew q0 hlt hxe hx y256
      rw [if_neg h22, h22e, if_pos k0, if_pos k1]
      generalize rdOf ByteArray.empty ws (Int.tmod x 22) = A at s1 ⊢
      clear k0 k1
      generalize x / 64 = y at s2 y0 y4 ⊢
      have g1 : s.size + A.size ≤ 9223372036854775807 := by clear e1 s2; omega
      rw [if_pos g1, Option.bind_some, if_pos y0, if_pos (show y < ((([(⟨#[32]⟩ : ByteArray), (⟨#[32, 32]⟩ : ByteArray), (⟨#[10]⟩ : ByteArray), (⟨#[9]⟩ : ByteArray)] : List ByteArray).length : Nat) : Int) from y4)]
      generalize rdOf ByteArray.empty [(⟨#[32]⟩ : ByteArray), (⟨#[32, 32]⟩ : ByteArray), (⟨#[10]⟩ : ByteArray), (⟨#[9]⟩ : ByteArray)] y = B at s2 ⊢
      have g2 : (s ++ A).size + B.size ≤ 9223372036854775807 := by rw [ByteArray.size_append]; clear e1; omega
      rw [if_pos g2, e1]
      clear e1
      exact ih k (i + 1) _ (by omega) (by omega) (by rw [ByteArray.size_append, ByteArray.size_append]; omega)
    · rw [if_neg hlt]
      exact ⟨_, rfl, by omega⟩
theorem text_some (l : List Int) (hb : Bytes l) : ∃ r, flagstonelaw34_text.f 21 l = some r ∧ r.size ≤ 400 := by
  unfold flagstonelaw34_text.f
  exact text_l0 l hb _ (by decide) (by decide) 20 21 0 _ rfl (by omega) (by decide)

/-- The bytes of a string in a new row. -/
theorem laid_bytes (q : ByteArray) (w : World) : ∃ W cap, (convert 9 22 (.string q)).run Tryd.prog w = .ok (.slice (some ⟨w.heap.size, 0, none⟩) q.size cap) W ∧ Below w.heap.size w W ∧ q.size ≤ cap ∧
    ∀ j, j < q.size → W.cell? ⟨w.heap.size, j, none⟩ = some (.int .u8 (q.data.toList.getD j 0).toNat) := by
  refine ⟨_, _, Lib.run_convert_string_bytes w 9 22 5 q Tryd.underlying9 Tryd.underlying22 Tryd.underlying5, Lib.bytesWorld_below _ _ _, ?_, fun j hj => Lib.bytesWorld_cell _ _ _ _ hj⟩
  exact grownCap_ge _ _ _ _
def octs (q : ByteArray) : List Int := q.data.toList.map fun b => (b.toNat : Int)
theorem octs_length (q : ByteArray) : (octs q).length = q.size := by unfold octs; rw [List.length_map, Array.length_toList]; rfl
theorem octs_oct (q : ByteArray) : Oct (octs q) := fun x hx => by
  obtain ⟨b, _, rfl⟩ := List.mem_map.1 hx
  have := b.toNat_lt
  omega
theorem octs_read {q : ByteArray} {W : World} {g : Nat} (hq : q.size ≤ 1000) (h : ∀ j, j < q.size → W.cell? ⟨g, j, none⟩ = some (.int .u8 (q.data.toList.getD j 0).toNat)) : Kd.C (Kd.int .u8) W (some ⟨g, 0, none⟩) (octs q).length (octs q) := by
  refine Kd.C_of_reads (d := (0 : Int)) (h1 := fun _ => rfl) ⟨rfl, by rw [octs_length]; omega, fun _ => ⟨⟨g, 0, none⟩, rfl, fun j hj => ?_⟩⟩
  rw [octs_length] at hj
  have hl : j < q.data.toList.length := by rw [Array.length_toList]; exact hj
  rw [Addr.add_lit, Nat.zero_add, h j hj]
  unfold octs
  simp [List.getD, List.getElem?_map, List.getElem?_eq_getElem hl]
/-- A row of bytes is a string again. -/
theorem back_bytes {w : World} {base : Nat} {ok : Nat → Prop} {v : Value} {r : List Int} (h : Kd.R (Kd.int .u8) 5 w base ok v r) (ho : Oct r) : ∃ s : ByteArray, (convert 22 9 v).run Tryd.prog w = .ok (.string s) w := by
  obtain ⟨inner, hown, _⟩ := h.2
  rcases hown.2 with ⟨rfl, _⟩ | ⟨g, cap, cur, rfl, _, hg, hle, _⟩
  · exact ⟨⟨#[]⟩, by kernel_rfl⟩
  · have hC := (Kd.R_reads' h).2.2
    have hm : r = (r.map fun x => UInt8.ofNat x.toNat).map fun b : UInt8 => (b.toNat : Int) := by
      rw [List.map_map]
      refine (List.map_id r).symm.trans (List.map_congr_left fun x hx => ?_)
      have := ho x hx
      show x = ((UInt8.ofNat x.toNat).toNat : Int)
      rw [UInt8.toNat_ofNat']
      omega
    obtain ⟨L, hL⟩ : ∃ L : List UInt8, r = L.map fun b : UInt8 => (b.toNat : Int) := ⟨_, hm⟩
    have hll : r.length = L.length := by rw [hL, List.length_map]
    have hrun := run_convert_bytes_back (P := Tryd.prog) w 22 9 5 ⟨g, 0, none⟩ cap L Tryd.underlying22 Tryd.underlying5 Tryd.underlying9 (fun j hj => by
      obtain ⟨ad, e, hc⟩ := Kd.at_int hC (j : Int) (by omega) (by omega)
      cases e
      rw [Int.toNat_natCast] at hc
      rw [hc]
      unfold rd
      rw [Int.toNat_natCast, hL]
      simp [List.getD, List.getElem?_map, List.getElem?_eq_getElem hj])
    rw [hll]
    exact ⟨_, hrun⟩
end Go.Proofs.YtbiolondnkeakaaDoor
namespace Go.Proofs.YtbiolondnkeakaaDoor
open Go.RowKit Plain
/-- A metric in memory, behind the beginning. -/
def QM (w0 : World) (M0 : Nat) (m : Met) (W : World) : Prop := IsM M0 m W ∧ M0 < W.heap.size ∧ Below w0.heap.size w0 W
theorem QM.over {w0 W W' : World} {M0 : Nat} {m : Met} (h : QM w0 M0 m W) (hb : Below W.heap.size W W') : QM w0 M0 m W' :=
  ⟨h.1.grown (b := W.heap.size) (gb_below _ hb) h.2.1 (Nat.ne_of_lt h.2.1), Nat.lt_of_lt_of_le h.2.1 hb.size, h.2.2.trans (hb.mono h.2.2.size)⟩
end Go.Proofs.YtbiolondnkeakaaDoor
namespace Go.Proofs.YtbiolondnkeakaaDoor
open Go.RowKit Go.Proofs.YtbiolondnkeakaaDoor.PT Go.Proofs.YtbiolondnkeakaaDoorW.PrintWords Go.Proofs.YtbiolondnkeakaaDoorW.PrintLast Go.Proofs.YtbiolondnkeakaaDoorW.PrintMore Plain Split

theorem bytes_u16 {n : Int} (h : (Lit.int .u16 n).wf = true) : 0 ≤ n ∧ n ≤ 65535 := by
  simp only [Lit.wf, IntKind.min, IntKind.max, IntKind.signed, IntKind.bits, Bool.and_eq_true] at h
  simpa using h
def sel3 (a b c : ByteArray) (i : Nat) : ByteArray := if i = 0 then a else if i = 1 then b else c
theorem lit_sel3 (W : World) (a b c : ByteArray) (i : Nat) (hi : i < 3) : (W.alloc (.cells #[.string a, .string b, .string c] 9)).cell? ⟨W.heap.size, i, none⟩ = some (.string (sel3 a b c i)) := by
  rcases (show i = 0 ∨ i = 1 ∨ i = 2 by omega) with rfl | rfl | rfl <;> simp [sel3]
namespace PL
set_option maxRecDepth 100000 in
set_option maxHeartbeats 16000000 in
theorem flagstonelaw34_MetricParses.walk (_ : True) (a0 : ByteArray) (a1 : Option Addr) (len1 cap1 : Nat) (z1 : List Int) (a2 : Option Addr) (len2 cap2 : Nat) (z2 : List Int) (a3 a4 a5 : Int) (w : World) (hT : Tabs w)
    (w1 : (a1 = none ∧ len1 = 0 ∧ cap1 = 0 ∧ z1 = []) ∨ ∃ x, a1 = some x ∧ len1 ≤ cap1 ∧ cap1 ≤ maxLen ∧ z1.length = cap1 ∧ (∀ i, i < z1.length → w.cell? (x.add i) = some (.int .u8 (z1.getD i 0))) ∧ ∀ n ∈ z1, (Lit.int .u8 n).wf = true) (y1 : len1 * 1 ≤ 140737488351232)
    (w2 : (a2 = none ∧ len2 = 0 ∧ cap2 = 0 ∧ z2 = []) ∨ ∃ x, a2 = some x ∧ len2 ≤ cap2 ∧ cap2 ≤ maxLen ∧ z2.length = cap2 ∧ (∀ i, i < z2.length → w.cell? (x.add i) = some (.int .u8 (z2.getD i 0))) ∧ ∀ n ∈ z2, (Lit.int .u8 n).wf = true) (y2 : len2 * 1 ≤ 140737488351232)
    (w3 : (Lit.int .u16 a3).wf = true) (w4 : (Lit.int .u16 a4).wf = true) (w5 : (Lit.int .u8 a5).wf = true) :
    Calls Tryd.prog 3 #[.string a0, .slice a1 len1 cap1, .slice a2 len2 cap2, .int .u16 a3, .int .u16 a4, .int .u8 a5] w fun e w' => e = .returned (.bool true) ∧ Below w.heap.size w w' := by
  have hcap1 : len1 ≤ cap1 := by
    rcases w1 with ⟨_, h1, h2, _⟩ | ⟨_, _, h, _⟩
    · omega
    · exact h
  obtain ⟨l, rfl, hr, _, hw, _⟩ := ReadsInt.ofRowC w1
  have hrC := Kd.C_of_reads (d := (0 : Int)) (h1 := fun _ => rfl) hr
  have HL := Lib.hid (And.intro hrC (And.intro (bytes_wf hw) (And.intro hcap1 (show l.length ≤ 4611686018427387904 by omega))))
  obtain ⟨lm, rfl, hrm, _, hwm, _⟩ := ReadsInt.ofRowC w2
  have hrmC := Kd.C_of_reads (d := (0 : Int)) (h1 := fun _ => rfl) hrm
  have HLM := Lib.hid (And.intro hrmC (And.intro (bytes_wf hwm) (show lm.length ≤ 4611686018427387904 by omega)))
  have HT := Lib.hid hT
  have HA := Lib.hid (And.intro (bytes_u16 w3) (And.intro (bytes_u16 w4) (bytes_u8 w5)))
  clear w1 y1 w2 y2 w3 w4 w5 hr hw hrC hrm hwm hrmC hT hcap1
  go_enter Tryd.func3, Tryd.ntmps3
  go_wp2_with fail
  refine (awake_calls w HT.out).mono ?_
  rintro e w2 ⟨rfl, hb2⟩
  have HB2 := Lib.hid hb2
  clear hb2
  by_cases hs : a0.size ≤ 300
  · have hsz : ¬ (300 : Int) < (a0.size : Int) := by omega
    clear hs
    go_wp2_with fail
    refine (data_metric a2 cap2 lm w2 (Kd.C_below HLM.out.1 HB2.out) HLM.out.2).mono ?_
    rintro e w3 ⟨rfl, hb3⟩
    have hf := metD_fine lm
    obtain ⟨m, hm⟩ : ∃ m, metD lm = m := ⟨_, rfl⟩
    rw [hm] at hf ⊢
    have HB3 := Lib.hid (HB2.out.trans (hb3.mono HB2.out.size))
    have hnm := key_small hf.nm
    have hbl : m.bl.size ≤ 9223372036854775000 := by
      by_cases h4 : m.k = 4
      · have := key_small (hf.bl h4); omega
      · rw [hf.sh h4]; decide
    have HF := Lib.hid (And.intro hf hbl)
    clear hm hf hb3 HB2 hbl
    simp only [Met.val]
    go_wp2_with fail
    refine (refprint_calls m w3 (by omega) HF.out.2).mono ?_
    rw [show printM m = (p10 m, 0) from if_neg (fun h => h (fine_iff.2 HF.out.1))]
    rintro e w4 ⟨rfl, hb4⟩
    have hps := p10_small HF.out.1
    obtain ⟨p, hp⟩ : ∃ p, p10 m = p := ⟨_, rfl⟩
    rw [hp] at hps ⊢
    have HB4 := Lib.hid (HB3.out.trans (hb4.mono HB3.out.size))
    have HPS := Lib.hid (show p.size ≤ 1000 by omega)
    clear hp hps hb4 HB3 HF hnm
    go_wp2_with fail
    go_loopg [15] 3 (fun gg s15 wr => ∃ i : Nat, s15 = .int .i64 i ∧ i ≤ 3 ∧ 3 - i ≤ gg ∧ Hid (Below w.heap.size w wr))
    case atStart => exact ⟨0, rfl, by omega, by omega, HB4⟩
    case round =>
      obtain ⟨i, rfl, hi, hgg, HB⟩ := hrel
      clear HB4
      by_cases hlt : i < 3
      · have hltd : decide ((i : Int) < 3) = true := decide_eq_true (by omega)
        go_upto_region 9 with (fail)
        go_cut [16] (fun s16 wc => ∃ x : ByteArray, s16 = .string x ∧ Hid (Below w.heap.size w wc))
        case first =>
          obtain ⟨tx, htx, _⟩ := text_some l HL.out.2.1
          have HTX := Lib.hid htx
          clear htx
          go_wp2_with fail
          refine (flagstonelaw34_text.calls 21 a1 cap1 l tx wr (Kd.C_below HL.out.1 HB.out) HL.out.2.2.1 HTX.out).mono ?_
          rintro e w6 ⟨rfl, hb6⟩
          obtain ⟨W7, cap, hrun, hb7, hcap, hcells⟩ := laid_bytes p w6
          obtain ⟨r, hr, hoct, _⟩ := spoil_some (octs p) a3 a4 a5 (by rw [octs_length]; exact HPS.out) (octs_oct p) HA.out.1 HA.out.2.2
          have hrd := octs_read HPS.out hcells
          have hsp := flagstonedata_Spoil.calls 1 (some ⟨w6.heap.size, 0, none⟩) cap (octs p) a3 a4 a5 r W7 hrd (by rw [octs_length]; exact hcap) hr
          rw [octs_length] at hsp
          have HB7 := Lib.hid (HB.out.trans ((hb6.trans (hb7.mono hb6.size)).mono HB.out.size))
          have HSP := Lib.hid (And.intro hsp hoct)
          clear hb6 hb7 hcap hcells hr hoct hrd hsp HB
          go_wp2_with fail
          refine HSP.out.1.mono ?_
          rintro e w8 ⟨v, rfl, hR, hb8⟩
          obtain ⟨s2, hs2⟩ := back_bytes hR HSP.out.2
          have HB8 := Lib.hid (HB7.out.trans (hb8.mono HB7.out.size))
          have hcell := lit_sel3 w8 a0 tx s2 i hlt
          obtain ⟨x, hx⟩ : ∃ x, sel3 a0 tx s2 i = x := ⟨_, rfl⟩
          rw [hx] at hcell
          have hi0 : decide ((0 : Int) ≤ (i : Int)) = true := decide_eq_true (by omega)
          have hi3 : (i : Int) < 3 := by omega
          clear hR hb8 hx hrun HSP HB7
          go_wp2_with fail
          go_meet
          exact ⟨x, rfl, Lib.hid (HB8.out.alloc HB8.out.size _)⟩
        case rest =>
          clear HB
          obtain ⟨x, rfl, HB⟩ := hcut
          go_wp2_with fail
          refine (parse_any x wc (Tabs.below HT.out HB.out)).mono ?_
          obtain ⟨q, hq⟩ : ∃ q, parseM x = q := ⟨_, rfl⟩
          rw [hq]
          have HQ := Lib.hid hq
          clear hq
          obtain ⟨y, er⟩ := q
          rintro e w6 ⟨rfl, hb6⟩
          have HB6 := Lib.hid (HB.out.trans (hb6.mono HB.out.size))
          clear hb6 HB
          simp only [Met.val]
          go_wp2_with fail
          have hy7 := val_start w6 y
          obtain ⟨W7, hW7, hb7, hs7⟩ : ∃ W7, w6.alloc (.cells #[.int .i64 y.k, .string y.nm, .string y.bl, .int .i64 y.wi, .int .i64 y.ca, .int .i64 y.le, .int .i64 y.be] 29) = W7 ∧ Below w6.heap.size w6 W7 ∧ w6.heap.size < W7.heap.size := ⟨_, rfl, (Below.refl _ _).alloc (Nat.le_refl _) _, by simp⟩
          rw [hW7] at hy7 ⊢
          obtain ⟨Y, hY⟩ : ∃ Y, w6.heap.size = Y := ⟨_, rfl⟩
          rw [hY] at hy7 hs7 ⊢
          have H7 := Lib.hid (show QM w Y y W7 from ⟨hy7, hs7, HB6.out.trans (hb7.mono HB6.out.size)⟩)
          clear hy7 hs7 hb7 hW7 hY HB6
          refine (refparse_any x W7).mono ?_
          rw [HQ.out]
          rintro e w8 ⟨rfl, hb8⟩
          have H8 := Lib.hid (H7.out.over hb8)
          clear hb8 H7
          simp only [Met.val]
          go_upto_region 12 with (fail)
          have hy9 := val_start w8 y
          obtain ⟨W9, hW9, hb9⟩ : ∃ W9, w8.alloc (.cells #[.int .i64 y.k, .string y.nm, .string y.bl, .int .i64 y.wi, .int .i64 y.ca, .int .i64 y.le, .int .i64 y.be] 29) = W9 ∧ Below w8.heap.size w8 W9 := ⟨_, rfl, (Below.refl _ _).alloc (Nat.le_refl _) _⟩
          rw [hW9] at hy9 ⊢
          have H9 := Lib.hid (H8.out.over hb9)
          obtain ⟨Z, hZ⟩ : ∃ Z, w8.heap.size = Z := ⟨_, rfl⟩
          rw [hZ] at hy9 ⊢
          obtain ⟨c0, c1, c2, c3, c4, c5, c6, cf⟩ := H9.out.1
          obtain ⟨d0, d1, d2, d3, d4, d5, d6, df⟩ := hy9
          clear hb9 hW9 hZ H8
          go_wp2_with fail
          go_roundg (3 - (i + 1))
          case measure => omega
          case rel => exact ⟨i + 1, by go_num, by omega, Nat.le_refl _, Lib.hid H9.out.2.2⟩
      · have hltd : decide ((i : Int) < 3) = false := decide_eq_false (by omega)
        go_wp2_with fail
        go_ret
        exact ⟨rfl, HB.out⟩
  · have hsz : (300 : Int) < (a0.size : Int) := by omega
    go_wp2_with fail
    go_ret
    exact ⟨rfl, HB2.out⟩
end PL
end Go.Proofs.YtbiolondnkeakaaDoor
