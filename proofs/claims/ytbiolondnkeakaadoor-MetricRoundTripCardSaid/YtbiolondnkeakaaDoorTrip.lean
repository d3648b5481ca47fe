/- The walk of the law MetricRoundTrip. -/
import Derived.Test.YtbiolondnkeakaaDoorLong
import Derived.Test.YtbiolondnkeakaaDoorPrint
namespace Go.Proofs.YtbiolondnkeakaaDoor
open Go.RowKit Go.Proofs.YtbiolondnkeakaaDoor.PT Go.Proofs.YtbiolondnkeakaaDoorW.PrintWords Go.Proofs.YtbiolondnkeakaaDoorW.PrintLast Go.Proofs.YtbiolondnkeakaaDoorW.PrintMore Plain Split

/-- What stands between two words. -/
def blankOf (b : Int) : ByteArray := if b % 4 = 0 then ⟨#[32]⟩ else if b % 4 = 1 then ⟨#[10]⟩ else if b % 4 = 2 then ⟨#[9, 32]⟩ else ⟨#[32, 32]⟩
/-- A text whose spaces are other blanks: bl says which. -/
def spread (bl : Nat → Int) : Nat → List UInt8 → List UInt8
  | _, [] => []
  | k, c :: r => if c = 32 then (blankOf (bl k)).data.toList ++ spread bl (k + 1) r else c :: spread bl k r
theorem blankOf_ok (b : Int) : (blankOf b).data.toList ≠ [] ∧ (∀ c ∈ (blankOf b).data.toList, isB c = true) ∧ (blankOf b).size ≤ 2 := by
  unfold blankOf
  repeat' split
  all_goals exact ⟨by decide, by decide, by decide⟩
theorem fb_spread (bl : Nat → Int) : ∀ (l : List UInt8) (k : Nat) (cur : List UInt8), fb cur (spread bl k l ++ [10]) = fb cur l
  | [], k, cur => by
    show (if isB 10 = true then (if cur = [] then fb [] [] else cur :: fb [] []) else _) = (if cur = [] then [] else [cur])
    rw [if_pos (show isB 10 = true from rfl)]
    rfl
  | c :: r, k, cur => by
    unfold spread
    by_cases hc : c = 32
    · rw [if_pos hc, hc]
      obtain ⟨h1, h2, _⟩ := blankOf_ok (bl k)
      have hr := fb_spread bl r (k + 1) []
      rw [List.append_assoc]
      cases hb : (blankOf (bl k)).data.toList with
      | nil => exact absurd hb h1
      | cons d b =>
        rw [hb] at h2
        have hd := h2 d List.mem_cons_self
        have hbl := fb_blank b (spread bl (k + 1) r ++ [10]) (fun x hx => h2 x (List.mem_cons_of_mem _ hx))
        show (if isB d = true then (if cur = [] then fb [] (b ++ (spread bl (k + 1) r ++ [10])) else cur :: fb [] (b ++ (spread bl (k + 1) r ++ [10]))) else _) = (if isB 32 = true then (if cur = [] then fb [] r else cur :: fb [] r) else _)
        rw [if_pos hd, if_pos (show isB 32 = true from rfl), hbl, hr]
    · rw [if_neg hc]
      have h1 := fb_spread bl r k []
      have h2 := fb_spread bl r k (cur ++ [c])
      rw [List.cons_append]
      show (if isB c = true then (if cur = [] then fb [] (spread bl k r ++ [10]) else cur :: fb [] (spread bl k r ++ [10])) else fb (cur ++ [c]) (spread bl k r ++ [10])) = (if isB c = true then (if cur = [] then fb [] r else cur :: fb [] r) else fb (cur ++ [c]) r)
      rw [h1, h2]
/-- How many spaces a text holds. -/
def spaces (l : List UInt8) : Nat := (l.filter fun c => c == 32).length
theorem spread_append (bl : Nat → Int) : ∀ (l r : List UInt8) (k : Nat), spread bl k (l ++ r) = spread bl k l ++ spread bl (k + spaces l) r
  | [], r, k => by simp [spread, spaces]
  | c :: l, r, k => by
    rw [List.cons_append]
    rw [show spread bl k (c :: (l ++ r)) = if c = 32 then (blankOf (bl k)).data.toList ++ spread bl (k + 1) (l ++ r) else c :: spread bl k (l ++ r) from rfl, show spread bl k (c :: l) = if c = 32 then (blankOf (bl k)).data.toList ++ spread bl (k + 1) l else c :: spread bl k l from rfl]
    by_cases hc : c = 32
    · rw [if_pos hc, if_pos hc, spread_append bl l r (k + 1), List.append_assoc]
      have : k + 1 + spaces l = k + spaces (c :: l) := by unfold spaces; rw [List.filter_cons_of_pos (by rw [hc]; rfl), List.length_cons]; omega
      rw [this]
    · rw [if_neg hc, if_neg hc, spread_append bl l r k, List.cons_append]
      have : spaces l = spaces (c :: l) := by unfold spaces; rw [List.filter_cons_of_neg (by simpa using hc)]
      rw [this]
theorem spread_length (bl : Nat → Int) : ∀ (l : List UInt8) (k : Nat), (spread bl k l).length ≤ 2 * l.length
  | [], _ => Nat.le_refl _
  | c :: l, k => by
    unfold spread
    split
    · have := spread_length bl l (k + 1)
      have h3 := (blankOf_ok (bl k)).2.2
      have h4 : (blankOf (bl k)).data.toList.length = (blankOf (bl k)).size := len_data _
      rw [List.length_append, List.length_cons]
      omega
    · have := spread_length bl l k
      rw [List.length_cons, List.length_cons]
      omega
/-- A made metric, as the law compares it. -/
def blOf (z : List Int) (k : Nat) : Int := if k < z.length then z.getD k 0 else 0

theorem byte_eqT {c : UInt8} {n : Nat} (h : n < 256) : ((c.toNat : Int) == (n : Int)) = decide (c = UInt8.ofNat n) := by
  rw [Bool.eq_iff_iff, beq_iff_eq, decide_eq_true_iff]
  constructor
  · intro e
    exact UInt8.toNat_inj.1 (by rw [UInt8.toNat_ofNat_of_lt' h]; omega)
  · intro e
    rw [e, UInt8.toNat_ofNat_of_lt' h]

/-! One step of reading, at place k. -/
theorem getD_bytes {bs : List Int} (h : Bytes bs) (k : Nat) : 0 ≤ bs.getD k 0 ∧ bs.getD k 0 ≤ 255 := by
  rw [List.getD_eq_getElem?_getD]
  cases e : bs[k]? with
  | none => exact ⟨by decide, by decide⟩
  | some x => exact h x (List.mem_of_getElem? e)
theorem data_at {S0 : ByteArray} {i : Nat} (hlt : i < S0.size) : S0.data.toList.take (i + 1) = S0.data.toList.take i ++ [S0[i]] := by
  have hl : i < S0.data.toList.length := by rw [len_data]; exact hlt
  rw [List.take_add_one, List.getElem?_eq_getElem hl, Option.toList_some]
  rfl
theorem trip_blank {S0 T : ByteArray} {i k : Nat} {bs : List Int} (hlt : i < S0.size) (hc : S0[i] = 32) (h : k = spaces (S0.data.toList.take i) ∧ T.data.toList = 32 :: spread (blOf bs) 0 (S0.data.toList.take i)) :
    k + 1 = spaces (S0.data.toList.take (i + 1)) ∧ (T ++ blankOf (blOf bs k)).data.toList = 32 :: spread (blOf bs) 0 (S0.data.toList.take (i + 1)) := by
  rw [data_at hlt, hc]
  constructor
  · unfold spaces at *
    rw [List.filter_append, List.length_append, ← h.1]
    rfl
  · rw [app, h.2, spread_append, Nat.zero_add, ← h.1, List.cons_append]
    show _ = 32 :: (_ ++ ((blankOf (blOf bs k)).data.toList ++ []))
    rw [List.append_nil]
theorem trip_word {S0 T : ByteArray} {i k : Nat} {bs : List Int} (hlt : i < S0.size) (hc : S0[i] ≠ 32) (h : k = spaces (S0.data.toList.take i) ∧ T.data.toList = 32 :: spread (blOf bs) 0 (S0.data.toList.take i)) :
    k = spaces (S0.data.toList.take (i + 1)) ∧ (T ++ S0.extract i (i + 1)).data.toList = 32 :: spread (blOf bs) 0 (S0.data.toList.take (i + 1)) := by
  rw [data_at hlt]
  constructor
  · unfold spaces at *
    rw [List.filter_append, List.length_append, ← h.1, List.filter_cons_of_neg (by simpa using hc)]
    rfl
  · have he : (S0.extract i (i + 1)).data.toList = [S0[i]] := by
      rw [Lib.extract_data]
      have hl : i < S0.data.toList.length := by rw [len_data]; exact hlt
      rw [show i + 1 - i = 1 by omega, List.drop_eq_getElem_cons hl]
      rfl
    rw [app, h.2, spread_append, Nat.zero_add, ← h.1, List.cons_append, he]
    show _ = 32 :: (_ ++ (if S0[i] = 32 then _ else S0[i] :: []))
    rw [if_neg hc]

namespace PL
set_option maxRecDepth 100000 in
set_option maxHeartbeats 8000000 in
theorem flagstonelaw34_MetricRoundTrip.walk (_ : True) (a0 : Option Addr) (len0 cap0 : Nat) (z0 : List Int) (a1 : Option Addr) (len1 cap1 : Nat) (z1 : List Int) (w : World) (hT : Tabs w) (w0 : (a0 = none ∧ len0 = 0 ∧ cap0 = 0 ∧ z0 = []) ∨ ∃ x, a0 = some x ∧ len0 ≤ cap0 ∧ cap0 ≤ maxLen ∧ z0.length = cap0 ∧ (∀ i, i < z0.length → w.cell? (x.add i) = some (.int .u8 (z0.getD i 0))) ∧ ∀ n ∈ z0, (Lit.int .u8 n).wf = true) (y0 : len0 * 1 ≤ 140737488351232)
    (w1 : (a1 = none ∧ len1 = 0 ∧ cap1 = 0 ∧ z1 = []) ∨ ∃ x, a1 = some x ∧ len1 ≤ cap1 ∧ cap1 ≤ maxLen ∧ z1.length = cap1 ∧ (∀ i, i < z1.length → w.cell? (x.add i) = some (.int .u8 (z1.getD i 0))) ∧ ∀ n ∈ z1, (Lit.int .u8 n).wf = true) (y1 : len1 * 1 ≤ 140737488351232) :
    Calls Tryd.prog 8 #[.slice a0 len0 cap0, .slice a1 len1 cap1] w fun e w' => e = .returned (.bool true) ∧ Below w.heap.size w w' := by
  obtain ⟨l, rfl, hr, _, hw, _⟩ := ReadsInt.ofRowC w0
  have hrC := Kd.C_of_reads (d := (0 : Int)) (h1 := fun _ => rfl) hr
  have HL := Lib.hid (And.intro hrC (And.intro (bytes_wf hw) (And.intro (show l.length ≤ 4611686018427387904 by omega) hT)))
  obtain ⟨bs, rfl, hrb, _, hwb, _⟩ := ReadsInt.ofRowC w1
  have HB := Lib.hid (And.intro hrb (And.intro (bytes_wf hwb) (show bs.length ≤ 4611686018427387904 by omega)))
  clear w0 y0 hr hw hrC hT w1 y1 hrb hwb
  go_enter Tryd.func8, Tryd.ntmps8
  go_wp2_with fail
  refine (awake_calls w HL.out.2.2.2).mono ?_
  rintro e w2 ⟨rfl, hb2⟩
  have HB2 := Lib.hid hb2
  clear hb2
  go_wp2_with fail
  refine (data_metric a0 cap0 l w2 (Kd.C_below HL.out.1 HB2.out) ⟨HL.out.2.1, HL.out.2.2.1⟩).mono ?_
  rintro e w3 ⟨rfl, hb3⟩
  have hf := metD_fine l
  obtain ⟨m, hm⟩ : ∃ m, metD l = m := ⟨_, rfl⟩
  rw [hm] at hf ⊢
  have HM := Lib.hid (And.intro hf (HB2.out.trans (hb3.mono HB2.out.size)))
  clear hm hf hb3 HB2
  simp only [Met.val]
  go_wp2_with fail
  have hM4 := val_start w3 m
  obtain ⟨W4, hW4, hb4, hs4⟩ : ∃ W4, w3.alloc (.cells #[.int .i64 m.k, .string m.nm, .string m.bl, .int .i64 m.wi, .int .i64 m.ca, .int .i64 m.le, .int .i64 m.be] 29) = W4 ∧ Below w3.heap.size w3 W4 ∧ w3.heap.size < W4.heap.size := ⟨_, rfl, (Below.refl _ _).alloc (Nat.le_refl _) _, by simp⟩
  rw [hW4] at hM4 ⊢
  obtain ⟨M, hM⟩ : ∃ M, w3.heap.size = M := ⟨_, rfl⟩
  have hbw4 : Below w.heap.size w W4 := HM.out.2.trans (hb4.mono HM.out.2.size)
  rw [hM] at hM4 hs4 ⊢
  have HQ4 := Lib.hid (show QM w M m W4 from ⟨hM4, hs4, hbw4⟩)
  have HF := Lib.hid HM.out.1
  clear hM4 hs4 hb4 hbw4 hW4 HM hM
  have hnm := key_small HF.out.nm
  refine (print_calls m W4 (Tabs.below HL.out.2.2.2 HQ4.out.2.2) (by omega) (by by_cases h4 : m.k = 4; have := key_small (HF.out.bl h4); omega; rw [HF.out.sh h4]; decide)).mono ?_
  rw [show printM m = (p10 m, 0) from if_neg (fun h => h (fine_iff.2 HF.out))]
  rintro e w5 ⟨rfl, hb5⟩
  have hps := p10_small HF.out
  have HQ5 := Lib.hid (HQ4.out.over hb5)
  clear hb5 HQ4 hnm
  obtain ⟨S0, hS0⟩ : ∃ S0, p10 m = S0 := ⟨_, rfl⟩
  rw [hS0] at hps ⊢
  have HS0 := Lib.hid hS0
  clear hS0
  go_wp2_with fail
  refine (parse_any S0 w5 (Tabs.below HL.out.2.2.2 HQ5.out.2.2)).mono ?_
  rw [show parseM S0 = (m, 0) from parse_fb HF.out (by omega) (by rw [← HS0.out, fb_p10 HF.out])]
  rintro e w6 ⟨rfl, hb6⟩
  have HQ6 := Lib.hid (HQ5.out.over hb6)
  clear hb6 HQ5
  simp only [Met.val]
  go_wp2_with fail
  have hX7 := val_start w6 m
  obtain ⟨W7, hW7, hb7, hs7⟩ : ∃ W7, w6.alloc (.cells #[.int .i64 m.k, .string m.nm, .string m.bl, .int .i64 m.wi, .int .i64 m.ca, .int .i64 m.le, .int .i64 m.be] 29) = W7 ∧ Below w6.heap.size w6 W7 ∧ w6.heap.size < W7.heap.size := ⟨_, rfl, (Below.refl _ _).alloc (Nat.le_refl _) _, by simp⟩
  rw [hW7] at hX7 ⊢
  obtain ⟨X, hX⟩ : ∃ X, w6.heap.size = X := ⟨_, rfl⟩
  have HQ7 := Lib.hid (HQ6.out.over hb7)
  rw [hX] at hX7 hs7 ⊢
  have HX7 := Lib.hid (show QM w X m W7 from ⟨hX7, hs7, HQ7.out.2.2⟩)
  clear hX7 hs7 hb7 hW7 HQ6 hX
  have hsd : S0.data.toList.length = S0.size := len_data _
  go_loopg [10, 11, 12] 300 (fun gg s10 s11 s12 wr => ∃ (i k : Nat) (T : ByteArray), s10 = .string T ∧ s11 = .int .i64 k ∧ s12 = .int .i64 i ∧ i ≤ S0.size ∧ 300 - i ≤ gg ∧ T.size ≤ 2 * i + 1 ∧ k ≤ i ∧ Hid (k = spaces (S0.data.toList.take i) ∧ T.data.toList = 32 :: spread (blOf bs) 0 (S0.data.toList.take i)) ∧ Hid (QM w M m wr) ∧ Hid (QM w X m wr))
  case atStart => exact ⟨0, 0, ⟨#[32]⟩, rfl, rfl, rfl, Nat.zero_le _, by omega, by decide, Nat.le_refl _, Lib.hid ⟨rfl, rfl⟩, HQ7, HX7⟩
  case round =>
    obtain ⟨i, k, T, rfl, rfl, rfl, hi, hgg, hT1, hki, HS, HQ, HX⟩ := hrel
    clear HQ7 HX7
    by_cases hlt : i < S0.size
    · have hltz : (i : Int) < (S0.size : Int) := by omega
      by_cases hc32 : S0[i] = 32
      · have g1 : ((S0[i].toNat : Int) != 32) = false := by rw [hc32]; rfl
        have hz1 : (9223372036854775807 < T.size + 1) = False := eq_false (by omega)
        have hz2 : (9223372036854775807 < T.size + 2) = False := eq_false (by omega)
        have HN := Lib.hid (trip_blank hlt hc32 HS.out)
        clear hc32
        by_cases hkb : k < bs.length
        · have hkz : (k : Int) < (bs.length : Int) := by omega
          obtain ⟨ad, rfl, hcell⟩ := (HB.out.1.below HX.out.2.2).at_ (k : Int) (by omega) (by omega)
          rw [show rd bs (k : Int) = blOf bs k from by unfold rd blOf; rw [if_pos hkb]; rfl, Int.toNat_natCast] at hcell
          have hb0 : 0 ≤ blOf bs k ∧ blOf bs k ≤ 255 := by unfold blOf; rw [if_pos hkb]; exact getD_bytes HB.out.2.1 k
          obtain ⟨b, hb⟩ : ∃ b, blOf bs k = b := ⟨_, rfl⟩
          rw [hb] at hcell hb0 HN
          clear hb
          obtain ⟨hb0, hb1⟩ := hb0
          rcases (show b % 4 = 0 ∨ b % 4 = 1 ∨ b % 4 = 2 ∨ b % 4 = 3 by omega) with h4 | h4 | h4 | h4
          · rw [show blankOf b = ⟨#[32]⟩ from by unfold blankOf; rw [if_pos h4]] at HN
            go_wp2_with fail
            go_roundg (300 - (i + 1))
            case measure => omega
            case rel => exact ⟨i + 1, k + 1, T ++ ⟨#[32]⟩, rfl, by go_num, by go_num, by omega, Nat.le_refl _, by rw [ByteArray.size_append]; show _ + 1 ≤ _; omega, by omega, HN, HQ.out.alloc _, HX.out.alloc _⟩
          · rw [show blankOf b = ⟨#[10]⟩ from by unfold blankOf; rw [if_neg (by omega), if_pos h4]] at HN
            go_wp2_with fail
            go_roundg (300 - (i + 1))
            case measure => omega
            case rel => exact ⟨i + 1, k + 1, T ++ ⟨#[10]⟩, rfl, by go_num, by go_num, by omega, Nat.le_refl _, by rw [ByteArray.size_append]; show _ + 1 ≤ _; omega, by omega, HN, HQ.out.alloc _, HX.out.alloc _⟩
          · rw [show blankOf b = ⟨#[9, 32]⟩ from by unfold blankOf; rw [if_neg (by omega), if_neg (by omega), if_pos h4]] at HN
            go_wp2_with fail
            go_roundg (300 - (i + 1))
            case measure => omega
            case rel => exact ⟨i + 1, k + 1, T ++ ⟨#[9, 32]⟩, rfl, by go_num, by go_num, by omega, Nat.le_refl _, by rw [ByteArray.size_append]; show _ + 2 ≤ _; omega, by omega, HN, HQ.out.alloc _, HX.out.alloc _⟩
          · rw [show blankOf b = ⟨#[32, 32]⟩ from by unfold blankOf; rw [if_neg (by omega), if_neg (by omega), if_neg (by omega)]] at HN
            go_wp2_with fail
            go_roundg (300 - (i + 1))
            case measure => omega
            case rel => exact ⟨i + 1, k + 1, T ++ ⟨#[32, 32]⟩, rfl, by go_num, by go_num, by omega, Nat.le_refl _, by rw [ByteArray.size_append]; show _ + 2 ≤ _; omega, by omega, HN, HQ.out.alloc _, HX.out.alloc _⟩
        · have hkz : ¬ (k : Int) < (bs.length : Int) := by omega
          rw [show blOf bs k = 0 from by unfold blOf; rw [if_neg hkb], show blankOf 0 = ⟨#[32]⟩ from rfl] at HN
          go_wp2_with fail
          go_roundg (300 - (i + 1))
          case measure => omega
          case rel => exact ⟨i + 1, k + 1, T ++ ⟨#[32]⟩, rfl, by go_num, by go_num, by omega, Nat.le_refl _, by rw [ByteArray.size_append]; show _ + 1 ≤ _; omega, by omega, HN, HQ.out.alloc _, HX.out.alloc _⟩
      · have g1 : ((S0[i].toNat : Int) != 32) = true := by
          rw [show ((S0[i].toNat : Int) != 32) = !((S0[i].toNat : Int) == ((32 : Nat) : Int)) from rfl, byte_eqT (by decide)]
          simpa using hc32
        have hz1 : (9223372036854775807 < T.size + 1) = False := eq_false (by omega)
        have HN := Lib.hid (trip_word hlt hc32 HS.out)
        clear hc32
        go_wp2_with fail
        go_roundg (300 - (i + 1))
        case measure => omega
        case rel => exact ⟨i + 1, k, T ++ S0.extract i (i + 1), rfl, rfl, by go_num, by omega, Nat.le_refl _, by rw [ByteArray.size_append, ByteArray.size_extract]; omega, by omega, HN, HQ, HX⟩
    · have hltz : ¬ (i : Int) < (S0.size : Int) := by omega
      have hz1 : (9223372036854775807 < T.size + 1) = False := eq_false (by omega)
      obtain rfl : i = S0.size := by omega
      go_wp2_with fail
      obtain ⟨U, hU⟩ : ∃ U, T ++ (⟨#[10]⟩ : ByteArray) = U := ⟨_, rfl⟩
      rw [hU]
      have hs1 : U.size = T.size + 1 := by rw [← hU, ByteArray.size_append]; rfl
      have HU := Lib.hid (show U.data.toList = T.data.toList ++ [10] from by rw [← hU, app])
      clear hU
      refine (parse_any U wr (Tabs.below HL.out.2.2.2 HQ.out.2.2)).mono ?_
      by_cases hbig : 200 ≤ T.size
      · have hp : parseM U = (.zero, 4) := if_pos (by rw [hs1]; omega)
        rw [hp]
        have hbd : (200 : Int) ≤ (T.size : Int) := by omega
        rintro e w8 ⟨rfl, hb8⟩
        have HQ8 := HQ.out.over hb8
        have HX8 := HX.out.over hb8
        obtain ⟨⟨c0, c1, c2, c3, c4, c5, c6, _⟩, hM8, hB8⟩ := HQ8
        obtain ⟨⟨d0, d1, d2, d3, d4, d5, d6, _⟩, hX8, _⟩ := HX8
        have HB8 := Lib.hid hB8
        clear hp hb8 hB8 hs1
        simp only [Met.val, Met.zero]
        go_wp2_with fail
        go_ret
        exact ⟨rfl, HB8.out.alloc HB8.out.size _⟩
      · have hp : parseM U = (m, 0) := parse_fb HF.out (by rw [hs1]; omega) (by
          rw [HU.out, HS.out.2, List.take_of_length_le (by omega), List.cons_append]
          have h1 := fb_blank [32] (spread (blOf bs) 0 S0.data.toList ++ [10]) (by decide)
          rw [List.cons_append, List.nil_append] at h1
          show fb [] (32 :: (spread (blOf bs) 0 S0.data.toList ++ [10])) = _
          rw [h1, fb_spread, ← HS0.out, fb_p10 HF.out])
        rw [hp]
        have hbd : ¬ (200 : Int) ≤ (T.size : Int) := by omega
        rintro e w8 ⟨rfl, hb8⟩
        have HQ8 := HQ.out.over hb8
        have HX8 := HX.out.over hb8
        obtain ⟨⟨c0, c1, c2, c3, c4, c5, c6, _⟩, hM8, hB8⟩ := HQ8
        obtain ⟨⟨d0, d1, d2, d3, d4, d5, d6, _⟩, hX8, _⟩ := HX8
        have HB8 := Lib.hid hB8
        clear hp hb8 hB8 hs1
        simp only [Met.val]
        go_wp2_with fail
        go_ret
        exact ⟨rfl, HB8.out.alloc HB8.out.size _⟩
end PL
end Go.Proofs.YtbiolondnkeakaaDoor
