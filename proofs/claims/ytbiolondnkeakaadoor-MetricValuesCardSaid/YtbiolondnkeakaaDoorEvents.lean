/- The walk of flagstonedata.Events: it makes some events. -/
import Derived.Test.YtbiolondnkeakaaDoorEventsA
import Derived.Deep.DrawnRows
import Derived.OwnWalk
namespace Go.Proofs.YtbiolondnkeakaaDoor
open Go.RowKit Go.Proofs.YtbiolondnkeakaaDoor.PT Go.Proofs.YtbiolondnkeakaaDoorW.PrintWords Go.Proofs.YtbiolondnkeakaaDoorW.PrintLast Go.Proofs.YtbiolondnkeakaaDoorW.PrintMore Plain

def EvsRes (w : World) (e : Ending) (w' : World) : Prop := ∃ v L B, e = .returned v ∧ OwnEvs B v L w' ∧ L.length ≤ 60 ∧ Below w.heap.size w w'
theorem ES.slice {w0 W : World} {S Q : Nat} {l : List Int} {L : List Ev} {v : Value} {Mo : Option Nat} (h : ES w0 S Q l L v Mo W) : ∃ A c, v = .slice A L.length c := by
  rcases h.out.2 with ⟨rfl, hn⟩ | ⟨g, cap, cur, rfl, _⟩
  · rw [hn]; exact ⟨_, _, rfl⟩
  · exact ⟨_, _, rfl⟩
def cli (c : Int) : ByteArray := if c = 0 then ⟨#[97, 112, 112]⟩ else if c = 1 then ⟨#[116, 97, 98]⟩ else ⟨#[119, 101, 98]⟩
theorem lit_cli (W : World) (c : Int) (h0 : 0 ≤ c) (h1 : c < 3) : (W.alloc (.cells #[.string ⟨#[97, 112, 112]⟩, .string ⟨#[116, 97, 98]⟩, .string ⟨#[119, 101, 98]⟩] 9)).cell? ⟨W.heap.size, c.toNat, none⟩ = some (.string (cli c)) := by
  rcases (show c = 0 ∨ c = 1 ∨ c = 2 by omega) with rfl | rfl | rfl <;> simp [cli]
theorem ES.lt {w0 W : World} {S Q M : Nat} {l : List Int} {L : List Ev} {v : Value} (h : ES w0 S Q l L v (some M) W) : M < W.heap.size := by
  obtain ⟨_, _, x, hx⟩ := h.ev M rfl
  exact hx.lt
theorem ES.drop {w0 W : World} {S Q M : Nat} {l : List Int} {L : List Ev} {v : Value} (h : ES w0 S Q l L v (some M) W) : ES w0 S Q l L v none W := ⟨h.src, h.hS, h.hSQ, h.hQ, h.seq, h.sfr, h.out, fun _ h => by cases h⟩
theorem cell_far {W : World} {B i M j : Nat} {v u : Value} (hne : B ≠ M) (h : W.cell? ⟨B, i, none⟩ = some v) : (W.setCell ⟨M, j, none⟩ u).cell? ⟨B, i, none⟩ = some v :=
  (World.cell?_setCell_other _ _ _ _ (by intro e; cases e; exact hne rfl)).trans h
theorem cell_ten {W : World} {B i M : Nat} {v u0 u1 u2 u3 u4 u5 u6 u7 u8 u9 : Value} (hne : B ≠ M) (h : W.cell? ⟨B, i, none⟩ = some v) :
    ((((((((((W.setCell ⟨M, 0, none⟩ u0).setCell ⟨M, 1, none⟩ u1).setCell ⟨M, 2, none⟩ u2).setCell ⟨M, 3, none⟩ u3).setCell ⟨M, 4, none⟩ u4).setCell ⟨M, 5, none⟩ u5).setCell ⟨M, 6, none⟩ u6).setCell ⟨M, 7, none⟩ u7).setCell ⟨M, 8, none⟩ u8).setCell ⟨M, 9, none⟩ u9).cell? ⟨B, i, none⟩ = some v :=
  cell_far hne (cell_far hne (cell_far hne (cell_far hne (cell_far hne (cell_far hne (cell_far hne (cell_far hne (cell_far hne (cell_far hne h)))))))))
/-- An event is appended. -/
theorem ES.push {w0 W w' : World} {S Q : Nat} {l : List Int} {L : List Ev} {v v' : Value} (h : ES w0 S Q l L v none W) (x : Ev) (hg : W.grownBy w' v.ownBlock) (ho : w'.ownsRow (Q + 1) 40 10 v' (L.length + 1) (evCells L ++ x.cells)) : ES w0 S Q l (L ++ [x]) v' none w' := by
  obtain ⟨k, hk, hs⟩ := h.src
  have h1 := h.hS
  have h2 := h.hSQ
  have h3 := h.hQ
  obtain ⟨A0, c0, hbk, hg0, hr⟩ := hs.1
  have hrow : ∀ k, v.ownBlock = some k → Q + 1 ≤ k := fun k e => (h.out.lt k e).1
  have hS : some S ≠ v.ownBlock := fun e => by have := hrow S e.symm; omega
  have hQ : some Q ≠ v.ownBlock := fun e => by have := hrow Q e.symm; omega
  refine ⟨⟨k, hk, ⟨A0, c0, ?_, hg0, hr⟩, hs.2.grown hg hs.2.size (fun k e => by have := hrow k e; omega)⟩, h1, h2, Nat.lt_of_lt_of_le h3 hg.size, fun i hi => ?_, fun i => ?_, ?_, fun M hM => by cases hM⟩
  · rw [hg.block S (by omega) hS]; exact hbk
  · obtain ⟨a, ha⟩ := h.seq i hi
    exact ⟨a, (World.cell?_of_block (w := W) (a := ⟨Q, i, none⟩) (hg.block Q h3 hQ)).trans ha⟩
  · exact (World.frozen?_of_block (w := W) (a := ⟨Q, i, none⟩) (hg.block Q h3 hQ)).trans (h.sfr i)
  · rw [evCells_append, List.length_append, show evCells [x] = x.cells from List.append_nil _]
    exact ho
attribute [local go_sem ↓] Go.wp_at_zero Go.wp_at_succ
set_option maxRecDepth 100000 in
set_option maxHeartbeats 16000000 in
theorem events_calls (A0 : Option Addr) (c0 : Nat) (l : List Int) (w : World) (hr : Kd.C (Kd.int .u8) w A0 l.length l) (hl : Bytes l ∧ l.length ≤ 4611686018427387904) :
    Calls Tryd.prog 17 #[.slice A0 l.length c0] w (EvsRes w) := by
  have HL := Lib.hid hl
  have HR := Lib.hid hr
  clear hr hl
  go_enter Tryd.func17, Tryd.ntmps17
  go_wp2_with fail
  obtain ⟨W, hW, hes⟩ : ∃ W, (w.alloc (.cells #[.slice A0 l.length c0, .int .i64 0] 56)).alloc (.cells #[.int .i64 0, .int .i64 0, .int .i64 0] 3) = W ∧ ES w w.heap.size (w.heap.size + 1) l [] (.slice none 0 0) none W := by
    have hi := IsS56.new w w A0 c0 l 0 (Below.refl _ _) HR.out
    have h0 : SrcAt w w.heap.size l 0 (w.alloc (.cells #[.slice A0 l.length c0, .int .i64 0] 56)) := ⟨hi, below_alloc w _⟩
    refine ⟨_, rfl, ⟨0, Nat.zero_le _, h0.alloc _⟩, Nat.le_refl _, Nat.lt_succ_self _, by simp, fun i hi => ⟨0, ?_⟩, fun i => by simp, World.ownsRow_nil _ _ _ _, fun M hM => by cases hM⟩
    rcases (show i = 0 ∨ i = 1 ∨ i = 2 by omega) with rfl | rfl | rfl <;> simp
  rw [hW]
  obtain ⟨S, hS⟩ : ∃ S, w.heap.size = S := ⟨_, rfl⟩
  rw [hS] at hes ⊢
  obtain ⟨Q, hQ⟩ : ∃ Q, S + 1 = Q := ⟨_, rfl⟩
  rw [hQ] at hes ⊢
  have HES := Lib.hid hes
  have HSQ := Lib.hid (And.intro hS hQ)
  clear hes hW hS hQ HR
  go_loopg [4, 5, 7] 61 (fun gg s4 s5 s7 wr => ∃ L A c t la, s4 = .slice A (List.length L) c ∧ s5 = .int .i64 t ∧ s7 = .int .i64 la ∧ List.length L ≤ 60 ∧ 60 - List.length L ≤ gg ∧ Hid (ES w S Q l L (.slice A (List.length L) c) none wr))
  case atStart => exact ⟨[], none, 0, 0, -1, rfl, rfl, rfl, by simp, by simp, HES⟩
  case round =>
    obtain ⟨L, A, c, t, la, rfl, rfl, rfl, hL, hgg, HE⟩ := hrel
    clear HES
    obtain ⟨n, hn⟩ : ∃ n, L.length = n := ⟨_, rfl⟩
    rw [hn] at hL hgg HE ⊢
    have HN := Lib.hid hn
    clear hn
    go_wp2_with fail
    refine (more_es HE.out).mono ?_
    rintro e w2 ⟨b, rfl, he2⟩
    have HE2 := Lib.hid he2
    clear he2
    rcases b
    · go_wp2_with fail
      go_ret
      exact ⟨_, L, _, rfl, OwnEvs.of_row HE2.out.out, by rw [HN.out]; exact hL, HE2.out.below⟩
    · by_cases h60 : n < 60
      · have h60z : decide ((n : Int) < 60) = true := decide_eq_true (by omega)
        go_wp2_with fail
        refine (next_es 4 HL (by omega) HE2.out).mono ?_
        rintro e w3 ⟨r, rfl, hr0, hr1, he3, _⟩
        have HE3 := Lib.hid he3
        clear he3 HE2
        go_wp2_with fail
        refine (next_es 3 HL (by omega) HE3.out).mono ?_
        rintro e w4 ⟨c4, rfl, hc0, hc1, he4, _⟩
        have HE4 := Lib.hid he4
        clear he4 HE3
        go_upto_region 8 with (fail)
        go_cut [33] (fun s33 wc => ∃ b : Bool, s33 = .bool b ∧ wc = w4)
        case first =>
          cases hz : (r == 0)
          · go_wp2_with fail
            go_meet
            exact ⟨_, rfl, rfl⟩
          · go_wp2_with fail
            go_meet
            exact ⟨_, rfl, rfl⟩
        case rest =>
        obtain ⟨b33, rfl, rfl⟩ := hcut
        go_upto_if 33 with (fail)
        go_cut [8] (fun s8 wd => ∃ r2 : Int, s8 = .int .i64 r2 ∧ wd = wc)
        case first =>
          rcases b33 <;> go_wp2_with fail
          all_goals
            go_meet
            exact ⟨_, rfl, rfl⟩
        case rest =>
          obtain ⟨r2, rfl, rfl⟩ := hcut
          go_upto_region 10 with (fail)
          go_cut [5, 7] (fun s5 s7 w5 => ∃ t2 la2 : Int, s5 = .int .i64 t2 ∧ s7 = .int .i64 la2 ∧ w5 = wc)
          case first =>
            go_wp2_with fail
            go_meet
            exact ⟨_, _, rfl, rfl, rfl⟩
          case rest =>
            obtain ⟨t2, la2, rfl, rfl, rfl⟩ := hcut
            obtain ⟨a, hq0⟩ := HE4.out.seq c4.toNat (by omega)
            have hf0 := HE4.out.sfr c4.toNat
            have hc0d : decide ((0 : Int) ≤ c4) = true := decide_eq_true hc0
            have hc1d : decide (c4 < 3) = true := decide_eq_true hc1
            go_upto_region 11 with (fail)
            go_cut [] (fun w5 => ∃ q : Int, Hid (ES w S Q l L (.slice A n c) none w5) ∧ w5.cell? ⟨Q, c4.toNat, none⟩ = some (.int .i64 q))
            case first =>
              go_wp2_with fail
              go_meet
              exact ⟨_, Lib.hid (HE4.out.setSeq _ _), World.cell?_setCell_same _ _ _ hq0⟩
            case rest =>
              clear hq0 hf0 HE4
              obtain ⟨q, HE5, hq⟩ := hcut
              go_upto_region 12 with (fail)
              go_cut [10] (fun s10 w6 => ∃ M, s10 = .pointer (some ⟨M, 0, none⟩) ∧ Hid (ES w S Q l L (.slice A n c) (some M) w6))
              case first =>
                have hSQ := HE5.out.hSQ
                refine wp_region_held_drew (S := (fun w' => ES w S Q l L (.slice A n c) (none) w' ∧ w'.cell? ⟨Q, c4.toNat, none⟩ = some (.int .i64 q))) (by kernel_rfl) ⟨(HE5.out.over (below_drew _)), (cell_over (below_drew _) hq)⟩ (fun hHeld => ?_)
                refine wpAnyH_keep hHeld (fun Wa0 ha0 => ?_)
                clear hHeld
                refine tk 1 45 (v := ?_) ha0 ?_ ?_
                rotate_left
                · intro w hSw; (try dsimp only at hSw); go_simp; all_goals with_reducible rfl
                simp only [List.setIfInBounds_toArray, List.set_cons_zero, List.set_cons_succ]
                refine tk 4 48 (v := ?_) ha0 ?_ ?_
                rotate_left
                · intro w hSw; (try dsimp only at hSw); go_simp; all_goals with_reducible rfl
                simp only [List.setIfInBounds_toArray, List.set_cons_zero, List.set_cons_succ]
                refine tk 5 49 (v := ?_) ha0 ?_ ?_
                rotate_left
                · intro w hSw; (try dsimp only at hSw); go_simp; all_goals with_reducible rfl
                simp only [List.setIfInBounds_toArray, List.set_cons_zero, List.set_cons_succ]
                refine tk 6 50 (v := ?_) ha0 ?_ ?_
                rotate_left
                · intro w hSw; (try dsimp only at hSw); go_simp; all_goals with_reducible rfl
                simp only [List.setIfInBounds_toArray, List.set_cons_zero, List.set_cons_succ]
                refine tk 7 51 (v := ?_) ha0 ?_ ?_
                rotate_left
                · intro w hSw; (try dsimp only at hSw); go_simp; all_goals with_reducible rfl
                simp only [List.setIfInBounds_toArray, List.set_cons_zero, List.set_cons_succ]
                refine tk 8 52 (v := ?_) ha0 ?_ ?_
                rotate_left
                · intro w hSw; (try dsimp only at hSw); go_simp; all_goals with_reducible rfl
                simp only [List.setIfInBounds_toArray, List.set_cons_zero, List.set_cons_succ]
                refine tk 9 53 (v := ?_) ha0 ?_ ?_
                rotate_left
                · intro w hSw; (try dsimp only at hSw); go_simp; all_goals with_reducible rfl
                simp only [List.setIfInBounds_toArray, List.set_cons_zero, List.set_cons_succ]
                refine wpAnyH_ready (rs := [0, 10, 13]) (by kernel_rfl) (by simp) ?_
                refine AllReadyH.consL rfl (fun K hK => ?_) ?_
                ·go_simp
                 have hlit := lit_cli Wa0 c4 hc0 hc1
                 have hNQ := (ha0.1).hQ
                 obtain ⟨N, hN⟩ : ∃ N, Wa0.heap.size = N := ⟨_, rfl⟩
                 rw [hN] at hlit hNQ ⊢
                 clear hN
                 refine hK.out _ _ ?_ (fun hHeld => ?_)
                 · exact ⟨((ha0.1).over (below_alloc _ _)), (cell_over (below_alloc _ _) (ha0.2))⟩
                 clear hK K
                 refine wpAnyH_go (fun w' => ES w S Q l L (.slice A n c) (none) w' ∧ w'.cell? ⟨Q, c4.toNat, none⟩ = some (.int .i64 q) ∧ w'.cell? ⟨N, c4.toNat, none⟩ = some (.string (cli c4))) (fun _ h => ⟨h.1, h.2.1⟩) ⟨hHeld.1, hHeld.2, hlit⟩ (fun Wa8 ha8 => ?_)
                 clear hHeld
                 refine tk 2 46 (v := ?_) ha8 ?_ ?_
                 rotate_left
                 · intro w hSw; (try dsimp only at hSw); go_simp; all_goals with_reducible rfl
                 simp only [List.setIfInBounds_toArray, List.set_cons_zero, List.set_cons_succ]
                 refine tk 3 47 (v := ?_) ha8 ?_ ?_
                 rotate_left
                 · intro w hSw; (try dsimp only at hSw); go_simp; all_goals with_reducible rfl
                 simp only [List.setIfInBounds_toArray, List.set_cons_zero, List.set_cons_succ]
                 refine wpAnyH_ready (rs := [10, 13]) (by kernel_rfl) (by simp) ?_
                 refine AllReadyH.consL rfl (fun K hK => ?_) ?_
                 ·go_simp
                  refine (next_es 6 HL (by omega) (ha8.1)).mono ?_
                  rintro e w' ⟨r6, rfl, r60, r61, hE, hk⟩
                  (try go_wp2_with fail)
                  refine hK.out _ _ ?_ (fun hHeld => ?_)
                  · exact ⟨((ha8.1).keep (hE).src hk), (cell_next hk (by omega) (ha8.2.1)), (cell_next hk (by omega) (ha8.2.2))⟩
                  clear hK K
                  refine wpAnyH_keep hHeld (fun Wa11 ha11 => ?_)
                  clear hHeld
                  refine wpAnyH_ready (rs := [11, 13]) (by kernel_rfl) (by simp) ?_
                  refine AllReadyH.consL rfl (fun K hK => ?_) ?_
                  ·go_simp
                   refine (id_es _ (by omega) (ha11.1)).mono ?_
                   rintro e w' ⟨s5, rfl, hE, hb⟩
                   (try go_wp2_with fail)
                   refine hK.out _ _ ?_ (fun hHeld => ?_)
                   · exact ⟨((ha11.1).over hb), (cell_over hb (ha11.2.1)), (cell_over hb (ha11.2.2))⟩
                   clear hK K
                   refine wpAnyH_keep hHeld (fun Wa12 ha12 => ?_)
                   clear hHeld
                   refine tk 12 56 (v := ?_) ha12 ?_ ?_
                   rotate_left
                   · intro w hSw; (try dsimp only at hSw); go_simp; all_goals with_reducible rfl
                   simp only [List.setIfInBounds_toArray, List.set_cons_zero, List.set_cons_succ]
                   refine wpAnyH_ready (rs := [13]) (by kernel_rfl) (by simp) ?_
                   refine AllReadyH.consL rfl (fun K hK => ?_) ?_
                   ·go_simp
                    have hEM := (ha12.1).alloc0
                    have hMQ := (ha12.1).hQ
                    have hMN := World.block_lt_of_cell? _ _ (ha12.2.2)
                    (try dsimp only at hMN)
                    obtain ⟨M, hM⟩ : ∃ M, Wa12.heap.size = M := ⟨_, rfl⟩
                    rw [hM] at hEM hMQ hMN ⊢
                    clear hM
                    refine hK.out _ _ ?_ (fun hHeld => ?_)
                    · exact ⟨((ha12.1).over (below_alloc _ _)), (cell_over (below_alloc _ _) (ha12.2.1)), (cell_over (below_alloc _ _) (ha12.2.2))⟩
                    clear hK K
                    refine wpAnyH_go (fun w' => ES w S Q l L (.slice A n c) (none) w' ∧ w'.cell? ⟨Q, c4.toNat, none⟩ = some (.int .i64 q) ∧ w'.cell? ⟨N, c4.toNat, none⟩ = some (.string (cli c4)) ∧ ES w S Q l L (.slice A n c) (some M) w') (fun _ h => ⟨h.1, h.2.1, h.2.2.1⟩) ⟨hHeld.1, hHeld.2.1, hHeld.2.2, hEM⟩ (fun Wa14 ha14 => ?_)
                    clear hHeld
                    refine wpAnyH_ready (rs := [14]) (by kernel_rfl) (by simp) ?_
                    refine AllReadyH.consL rfl (fun K hK => ?_) ?_
                    ·obtain ⟨_, _, x, hx⟩ := (ha14.2.2.2).ev _ rfl
                     obtain ⟨m0, m1, m2, m3, m4, m5, m6, m7, m8, m9⟩ := hx.at
                     have mf := hx.2
                     clear hx
                     go_simp
                     have hEW := (ha14.2.2.2).write (cli c4) s5 ⟨#[]⟩ ⟨#[]⟩ q 0 t2 0 0 0
                     refine hK.out _ _ ?_ (fun hHeld => ?_)
                     · exact ⟨hEW.drop, (cell_ten (by omega) (ha14.2.1)), (cell_ten (by omega) (ha14.2.2.1)), hEW⟩
                     clear hK K
                     refine wpAnyH_keep hHeld (fun Wa15 ha15 => ?_)
                     clear hHeld
                     refine wpAnyH_done (by kernel_rfl) ?_ _
                     go_wp2_with fail
                     go_meet
                     exact ⟨_, rfl, Lib.hid (ha15.2.2.2)⟩
                    exact AllReadyH.nil
                   exact AllReadyH.nil
                  refine AllReadyH.consL rfl (fun K hK => ?_) ?_
                  ·go_simp
                   have hEM := (ha11.1).alloc0
                   have hMQ := (ha11.1).hQ
                   have hMN := World.block_lt_of_cell? _ _ (ha11.2.2)
                   (try dsimp only at hMN)
                   obtain ⟨M, hM⟩ : ∃ M, Wa11.heap.size = M := ⟨_, rfl⟩
                   rw [hM] at hEM hMQ hMN ⊢
                   clear hM
                   refine hK.out _ _ ?_ (fun hHeld => ?_)
                   · exact ⟨((ha11.1).over (below_alloc _ _)), (cell_over (below_alloc _ _) (ha11.2.1)), (cell_over (below_alloc _ _) (ha11.2.2))⟩
                   clear hK K
                   refine wpAnyH_go (fun w' => ES w S Q l L (.slice A n c) (none) w' ∧ w'.cell? ⟨Q, c4.toNat, none⟩ = some (.int .i64 q) ∧ w'.cell? ⟨N, c4.toNat, none⟩ = some (.string (cli c4)) ∧ ES w S Q l L (.slice A n c) (some M) w') (fun _ h => ⟨h.1, h.2.1, h.2.2.1⟩) ⟨hHeld.1, hHeld.2.1, hHeld.2.2, hEM⟩ (fun Wa12 ha12 => ?_)
                   clear hHeld
                   refine wpAnyH_ready (rs := [11]) (by kernel_rfl) (by simp) ?_
                   refine AllReadyH.consL rfl (fun K hK => ?_) ?_
                   ·go_simp
                    refine (id_es _ (by omega) (ha12.2.2.2)).mono ?_
                    rintro e w' ⟨s5, rfl, hE, hb⟩
                    (try go_wp2_with fail)
                    refine hK.out _ _ ?_ (fun hHeld => ?_)
                    · exact ⟨((ha12.1).over hb), (cell_over hb (ha12.2.1)), (cell_over hb (ha12.2.2.1)), ((ha12.2.2.2).over hb)⟩
                    clear hK K
                    refine wpAnyH_keep hHeld (fun Wa13 ha13 => ?_)
                    clear hHeld
                    refine tk 12 56 (v := ?_) ha13 ?_ ?_
                    rotate_left
                    · intro w hSw; (try dsimp only at hSw); go_simp; all_goals with_reducible rfl
                    simp only [List.setIfInBounds_toArray, List.set_cons_zero, List.set_cons_succ]
                    refine wpAnyH_ready (rs := [14]) (by kernel_rfl) (by simp) ?_
                    refine AllReadyH.consL rfl (fun K hK => ?_) ?_
                    ·obtain ⟨_, _, x, hx⟩ := (ha13.2.2.2).ev _ rfl
                     obtain ⟨m0, m1, m2, m3, m4, m5, m6, m7, m8, m9⟩ := hx.at
                     have mf := hx.2
                     clear hx
                     go_simp
                     have hEW := (ha13.2.2.2).write (cli c4) s5 ⟨#[]⟩ ⟨#[]⟩ q 0 t2 0 0 0
                     refine hK.out _ _ ?_ (fun hHeld => ?_)
                     · exact ⟨hEW.drop, (cell_ten (by omega) (ha13.2.1)), (cell_ten (by omega) (ha13.2.2.1)), hEW⟩
                     clear hK K
                     refine wpAnyH_keep hHeld (fun Wa15 ha15 => ?_)
                     clear hHeld
                     refine wpAnyH_done (by kernel_rfl) ?_ _
                     go_wp2_with fail
                     go_meet
                     exact ⟨_, rfl, Lib.hid (ha15.2.2.2)⟩
                    exact AllReadyH.nil
                   exact AllReadyH.nil
                  exact AllReadyH.nil
                 refine AllReadyH.consL rfl (fun K hK => ?_) ?_
                 ·go_simp
                  have hEM := (ha8.1).alloc0
                  have hMQ := (ha8.1).hQ
                  have hMN := World.block_lt_of_cell? _ _ (ha8.2.2)
                  (try dsimp only at hMN)
                  obtain ⟨M, hM⟩ : ∃ M, Wa8.heap.size = M := ⟨_, rfl⟩
                  rw [hM] at hEM hMQ hMN ⊢
                  clear hM
                  refine hK.out _ _ ?_ (fun hHeld => ?_)
                  · exact ⟨((ha8.1).over (below_alloc _ _)), (cell_over (below_alloc _ _) (ha8.2.1)), (cell_over (below_alloc _ _) (ha8.2.2))⟩
                  clear hK K
                  refine wpAnyH_go (fun w' => ES w S Q l L (.slice A n c) (none) w' ∧ w'.cell? ⟨Q, c4.toNat, none⟩ = some (.int .i64 q) ∧ w'.cell? ⟨N, c4.toNat, none⟩ = some (.string (cli c4)) ∧ ES w S Q l L (.slice A n c) (some M) w') (fun _ h => ⟨h.1, h.2.1, h.2.2.1⟩) ⟨hHeld.1, hHeld.2.1, hHeld.2.2, hEM⟩ (fun Wa11 ha11 => ?_)
                  clear hHeld
                  refine wpAnyH_ready (rs := [10]) (by kernel_rfl) (by simp) ?_
                  refine AllReadyH.consL rfl (fun K hK => ?_) ?_
                  ·go_simp
                   refine (next_es 6 HL (by omega) (ha11.2.2.2)).mono ?_
                   rintro e w' ⟨r6, rfl, r60, r61, hE, hk⟩
                   (try go_wp2_with fail)
                   refine hK.out _ _ ?_ (fun hHeld => ?_)
                   · exact ⟨((ha11.1).keep (hE).src hk), (cell_next hk (by omega) (ha11.2.1)), (cell_next hk (by omega) (ha11.2.2.1)), ((ha11.2.2.2).keep (hE).src hk)⟩
                   clear hK K
                   refine wpAnyH_keep hHeld (fun Wa12 ha12 => ?_)
                   clear hHeld
                   refine wpAnyH_ready (rs := [11]) (by kernel_rfl) (by simp) ?_
                   refine AllReadyH.consL rfl (fun K hK => ?_) ?_
                   ·go_simp
                    refine (id_es _ (by omega) (ha12.2.2.2)).mono ?_
                    rintro e w' ⟨s5, rfl, hE, hb⟩
                    (try go_wp2_with fail)
                    refine hK.out _ _ ?_ (fun hHeld => ?_)
                    · exact ⟨((ha12.1).over hb), (cell_over hb (ha12.2.1)), (cell_over hb (ha12.2.2.1)), ((ha12.2.2.2).over hb)⟩
                    clear hK K
                    refine wpAnyH_keep hHeld (fun Wa13 ha13 => ?_)
                    clear hHeld
                    refine tk 12 56 (v := ?_) ha13 ?_ ?_
                    rotate_left
                    · intro w hSw; (try dsimp only at hSw); go_simp; all_goals with_reducible rfl
                    simp only [List.setIfInBounds_toArray, List.set_cons_zero, List.set_cons_succ]
                    refine wpAnyH_ready (rs := [14]) (by kernel_rfl) (by simp) ?_
                    refine AllReadyH.consL rfl (fun K hK => ?_) ?_
                    ·obtain ⟨_, _, x, hx⟩ := (ha13.2.2.2).ev _ rfl
                     obtain ⟨m0, m1, m2, m3, m4, m5, m6, m7, m8, m9⟩ := hx.at
                     have mf := hx.2
                     clear hx
                     go_simp
                     have hEW := (ha13.2.2.2).write (cli c4) s5 ⟨#[]⟩ ⟨#[]⟩ q 0 t2 0 0 0
                     refine hK.out _ _ ?_ (fun hHeld => ?_)
                     · exact ⟨hEW.drop, (cell_ten (by omega) (ha13.2.1)), (cell_ten (by omega) (ha13.2.2.1)), hEW⟩
                     clear hK K
                     refine wpAnyH_keep hHeld (fun Wa15 ha15 => ?_)
                     clear hHeld
                     refine wpAnyH_done (by kernel_rfl) ?_ _
                     go_wp2_with fail
                     go_meet
                     exact ⟨_, rfl, Lib.hid (ha15.2.2.2)⟩
                    exact AllReadyH.nil
                   exact AllReadyH.nil
                  exact AllReadyH.nil
                 exact AllReadyH.nil
                refine AllReadyH.consL rfl (fun K hK => ?_) ?_
                ·go_simp
                 refine (next_es 6 HL (by omega) (ha0.1)).mono ?_
                 rintro e w' ⟨r6, rfl, r60, r61, hE, hk⟩
                 (try go_wp2_with fail)
                 refine hK.out _ _ ?_ (fun hHeld => ?_)
                 · exact ⟨((ha0.1).keep (hE).src hk), (cell_next hk (by omega) (ha0.2))⟩
                 clear hK K
                 refine wpAnyH_keep hHeld (fun Wa8 ha8 => ?_)
                 clear hHeld
                 refine wpAnyH_ready (rs := [0, 11, 13]) (by kernel_rfl) (by simp) ?_
                 refine AllReadyH.consL rfl (fun K hK => ?_) ?_
                 ·go_simp
                  have hlit := lit_cli Wa8 c4 hc0 hc1
                  have hNQ := (ha8.1).hQ
                  obtain ⟨N, hN⟩ : ∃ N, Wa8.heap.size = N := ⟨_, rfl⟩
                  rw [hN] at hlit hNQ ⊢
                  clear hN
                  refine hK.out _ _ ?_ (fun hHeld => ?_)
                  · exact ⟨((ha8.1).over (below_alloc _ _)), (cell_over (below_alloc _ _) (ha8.2))⟩
                  clear hK K
                  refine wpAnyH_go (fun w' => ES w S Q l L (.slice A n c) (none) w' ∧ w'.cell? ⟨Q, c4.toNat, none⟩ = some (.int .i64 q) ∧ w'.cell? ⟨N, c4.toNat, none⟩ = some (.string (cli c4))) (fun _ h => ⟨h.1, h.2.1⟩) ⟨hHeld.1, hHeld.2, hlit⟩ (fun Wa9 ha9 => ?_)
                  clear hHeld
                  refine tk 2 46 (v := ?_) ha9 ?_ ?_
                  rotate_left
                  · intro w hSw; (try dsimp only at hSw); go_simp; all_goals with_reducible rfl
                  simp only [List.setIfInBounds_toArray, List.set_cons_zero, List.set_cons_succ]
                  refine tk 3 47 (v := ?_) ha9 ?_ ?_
                  rotate_left
                  · intro w hSw; (try dsimp only at hSw); go_simp; all_goals with_reducible rfl
                  simp only [List.setIfInBounds_toArray, List.set_cons_zero, List.set_cons_succ]
                  refine wpAnyH_ready (rs := [11, 13]) (by kernel_rfl) (by simp) ?_
                  refine AllReadyH.consL rfl (fun K hK => ?_) ?_
                  ·go_simp
                   refine (id_es _ (by omega) (ha9.1)).mono ?_
                   rintro e w' ⟨s5, rfl, hE, hb⟩
                   (try go_wp2_with fail)
                   refine hK.out _ _ ?_ (fun hHeld => ?_)
                   · exact ⟨((ha9.1).over hb), (cell_over hb (ha9.2.1)), (cell_over hb (ha9.2.2))⟩
                   clear hK K
                   refine wpAnyH_keep hHeld (fun Wa12 ha12 => ?_)
                   clear hHeld
                   refine tk 12 56 (v := ?_) ha12 ?_ ?_
                   rotate_left
                   · intro w hSw; (try dsimp only at hSw); go_simp; all_goals with_reducible rfl
                   simp only [List.setIfInBounds_toArray, List.set_cons_zero, List.set_cons_succ]
                   refine wpAnyH_ready (rs := [13]) (by kernel_rfl) (by simp) ?_
                   refine AllReadyH.consL rfl (fun K hK => ?_) ?_
                   ·go_simp
                    have hEM := (ha12.1).alloc0
                    have hMQ := (ha12.1).hQ
                    have hMN := World.block_lt_of_cell? _ _ (ha12.2.2)
                    (try dsimp only at hMN)
                    obtain ⟨M, hM⟩ : ∃ M, Wa12.heap.size = M := ⟨_, rfl⟩
                    rw [hM] at hEM hMQ hMN ⊢
                    clear hM
                    refine hK.out _ _ ?_ (fun hHeld => ?_)
                    · exact ⟨((ha12.1).over (below_alloc _ _)), (cell_over (below_alloc _ _) (ha12.2.1)), (cell_over (below_alloc _ _) (ha12.2.2))⟩
                    clear hK K
                    refine wpAnyH_go (fun w' => ES w S Q l L (.slice A n c) (none) w' ∧ w'.cell? ⟨Q, c4.toNat, none⟩ = some (.int .i64 q) ∧ w'.cell? ⟨N, c4.toNat, none⟩ = some (.string (cli c4)) ∧ ES w S Q l L (.slice A n c) (some M) w') (fun _ h => ⟨h.1, h.2.1, h.2.2.1⟩) ⟨hHeld.1, hHeld.2.1, hHeld.2.2, hEM⟩ (fun Wa14 ha14 => ?_)
                    clear hHeld
                    refine wpAnyH_ready (rs := [14]) (by kernel_rfl) (by simp) ?_
                    refine AllReadyH.consL rfl (fun K hK => ?_) ?_
                    ·obtain ⟨_, _, x, hx⟩ := (ha14.2.2.2).ev _ rfl
                     obtain ⟨m0, m1, m2, m3, m4, m5, m6, m7, m8, m9⟩ := hx.at
                     have mf := hx.2
                     clear hx
                     go_simp
                     have hEW := (ha14.2.2.2).write (cli c4) s5 ⟨#[]⟩ ⟨#[]⟩ q 0 t2 0 0 0
                     refine hK.out _ _ ?_ (fun hHeld => ?_)
                     · exact ⟨hEW.drop, (cell_ten (by omega) (ha14.2.1)), (cell_ten (by omega) (ha14.2.2.1)), hEW⟩
                     clear hK K
                     refine wpAnyH_keep hHeld (fun Wa15 ha15 => ?_)
                     clear hHeld
                     refine wpAnyH_done (by kernel_rfl) ?_ _
                     go_wp2_with fail
                     go_meet
                     exact ⟨_, rfl, Lib.hid (ha15.2.2.2)⟩
                    exact AllReadyH.nil
                   exact AllReadyH.nil
                  refine AllReadyH.consL rfl (fun K hK => ?_) ?_
                  ·go_simp
                   have hEM := (ha9.1).alloc0
                   have hMQ := (ha9.1).hQ
                   have hMN := World.block_lt_of_cell? _ _ (ha9.2.2)
                   (try dsimp only at hMN)
                   obtain ⟨M, hM⟩ : ∃ M, Wa9.heap.size = M := ⟨_, rfl⟩
                   rw [hM] at hEM hMQ hMN ⊢
                   clear hM
                   refine hK.out _ _ ?_ (fun hHeld => ?_)
                   · exact ⟨((ha9.1).over (below_alloc _ _)), (cell_over (below_alloc _ _) (ha9.2.1)), (cell_over (below_alloc _ _) (ha9.2.2))⟩
                   clear hK K
                   refine wpAnyH_go (fun w' => ES w S Q l L (.slice A n c) (none) w' ∧ w'.cell? ⟨Q, c4.toNat, none⟩ = some (.int .i64 q) ∧ w'.cell? ⟨N, c4.toNat, none⟩ = some (.string (cli c4)) ∧ ES w S Q l L (.slice A n c) (some M) w') (fun _ h => ⟨h.1, h.2.1, h.2.2.1⟩) ⟨hHeld.1, hHeld.2.1, hHeld.2.2, hEM⟩ (fun Wa12 ha12 => ?_)
                   clear hHeld
                   refine wpAnyH_ready (rs := [11]) (by kernel_rfl) (by simp) ?_
                   refine AllReadyH.consL rfl (fun K hK => ?_) ?_
                   ·go_simp
                    refine (id_es _ (by omega) (ha12.2.2.2)).mono ?_
                    rintro e w' ⟨s5, rfl, hE, hb⟩
                    (try go_wp2_with fail)
                    refine hK.out _ _ ?_ (fun hHeld => ?_)
                    · exact ⟨((ha12.1).over hb), (cell_over hb (ha12.2.1)), (cell_over hb (ha12.2.2.1)), ((ha12.2.2.2).over hb)⟩
                    clear hK K
                    refine wpAnyH_keep hHeld (fun Wa13 ha13 => ?_)
                    clear hHeld
                    refine tk 12 56 (v := ?_) ha13 ?_ ?_
                    rotate_left
                    · intro w hSw; (try dsimp only at hSw); go_simp; all_goals with_reducible rfl
                    simp only [List.setIfInBounds_toArray, List.set_cons_zero, List.set_cons_succ]
                    refine wpAnyH_ready (rs := [14]) (by kernel_rfl) (by simp) ?_
                    refine AllReadyH.consL rfl (fun K hK => ?_) ?_
                    ·obtain ⟨_, _, x, hx⟩ := (ha13.2.2.2).ev _ rfl
                     obtain ⟨m0, m1, m2, m3, m4, m5, m6, m7, m8, m9⟩ := hx.at
                     have mf := hx.2
                     clear hx
                     go_simp
                     have hEW := (ha13.2.2.2).write (cli c4) s5 ⟨#[]⟩ ⟨#[]⟩ q 0 t2 0 0 0
                     refine hK.out _ _ ?_ (fun hHeld => ?_)
                     · exact ⟨hEW.drop, (cell_ten (by omega) (ha13.2.1)), (cell_ten (by omega) (ha13.2.2.1)), hEW⟩
                     clear hK K
                     refine wpAnyH_keep hHeld (fun Wa15 ha15 => ?_)
                     clear hHeld
                     refine wpAnyH_done (by kernel_rfl) ?_ _
                     go_wp2_with fail
                     go_meet
                     exact ⟨_, rfl, Lib.hid (ha15.2.2.2)⟩
                    exact AllReadyH.nil
                   exact AllReadyH.nil
                  exact AllReadyH.nil
                 refine AllReadyH.consL rfl (fun K hK => ?_) ?_
                 ·go_simp
                  refine (id_es _ (by omega) (ha8.1)).mono ?_
                  rintro e w' ⟨s5, rfl, hE, hb⟩
                  (try go_wp2_with fail)
                  refine hK.out _ _ ?_ (fun hHeld => ?_)
                  · exact ⟨((ha8.1).over hb), (cell_over hb (ha8.2))⟩
                  clear hK K
                  refine wpAnyH_keep hHeld (fun Wa9 ha9 => ?_)
                  clear hHeld
                  refine wpAnyH_ready (rs := [0, 13]) (by kernel_rfl) (by simp) ?_
                  refine AllReadyH.consL rfl (fun K hK => ?_) ?_
                  ·go_simp
                   have hlit := lit_cli Wa9 c4 hc0 hc1
                   have hNQ := (ha9.1).hQ
                   obtain ⟨N, hN⟩ : ∃ N, Wa9.heap.size = N := ⟨_, rfl⟩
                   rw [hN] at hlit hNQ ⊢
                   clear hN
                   refine hK.out _ _ ?_ (fun hHeld => ?_)
                   · exact ⟨((ha9.1).over (below_alloc _ _)), (cell_over (below_alloc _ _) (ha9.2))⟩
                   clear hK K
                   refine wpAnyH_go (fun w' => ES w S Q l L (.slice A n c) (none) w' ∧ w'.cell? ⟨Q, c4.toNat, none⟩ = some (.int .i64 q) ∧ w'.cell? ⟨N, c4.toNat, none⟩ = some (.string (cli c4))) (fun _ h => ⟨h.1, h.2.1⟩) ⟨hHeld.1, hHeld.2, hlit⟩ (fun Wa10 ha10 => ?_)
                   clear hHeld
                   refine tk 2 46 (v := ?_) ha10 ?_ ?_
                   rotate_left
                   · intro w hSw; (try dsimp only at hSw); go_simp; all_goals with_reducible rfl
                   simp only [List.setIfInBounds_toArray, List.set_cons_zero, List.set_cons_succ]
                   refine tk 3 47 (v := ?_) ha10 ?_ ?_
                   rotate_left
                   · intro w hSw; (try dsimp only at hSw); go_simp; all_goals with_reducible rfl
                   simp only [List.setIfInBounds_toArray, List.set_cons_zero, List.set_cons_succ]
                   refine tk 12 56 (v := ?_) ha10 ?_ ?_
                   rotate_left
                   · intro w hSw; (try dsimp only at hSw); go_simp; all_goals with_reducible rfl
                   simp only [List.setIfInBounds_toArray, List.set_cons_zero, List.set_cons_succ]
                   refine wpAnyH_ready (rs := [13]) (by kernel_rfl) (by simp) ?_
                   refine AllReadyH.consL rfl (fun K hK => ?_) ?_
                   ·go_simp
                    have hEM := (ha10.1).alloc0
                    have hMQ := (ha10.1).hQ
                    have hMN := World.block_lt_of_cell? _ _ (ha10.2.2)
                    (try dsimp only at hMN)
                    obtain ⟨M, hM⟩ : ∃ M, Wa10.heap.size = M := ⟨_, rfl⟩
                    rw [hM] at hEM hMQ hMN ⊢
                    clear hM
                    refine hK.out _ _ ?_ (fun hHeld => ?_)
                    · exact ⟨((ha10.1).over (below_alloc _ _)), (cell_over (below_alloc _ _) (ha10.2.1)), (cell_over (below_alloc _ _) (ha10.2.2))⟩
                    clear hK K
                    refine wpAnyH_go (fun w' => ES w S Q l L (.slice A n c) (none) w' ∧ w'.cell? ⟨Q, c4.toNat, none⟩ = some (.int .i64 q) ∧ w'.cell? ⟨N, c4.toNat, none⟩ = some (.string (cli c4)) ∧ ES w S Q l L (.slice A n c) (some M) w') (fun _ h => ⟨h.1, h.2.1, h.2.2.1⟩) ⟨hHeld.1, hHeld.2.1, hHeld.2.2, hEM⟩ (fun Wa14 ha14 => ?_)
                    clear hHeld
                    refine wpAnyH_ready (rs := [14]) (by kernel_rfl) (by simp) ?_
                    refine AllReadyH.consL rfl (fun K hK => ?_) ?_
                    ·obtain ⟨_, _, x, hx⟩ := (ha14.2.2.2).ev _ rfl
                     obtain ⟨m0, m1, m2, m3, m4, m5, m6, m7, m8, m9⟩ := hx.at
                     have mf := hx.2
                     clear hx
                     go_simp
                     have hEW := (ha14.2.2.2).write (cli c4) s5 ⟨#[]⟩ ⟨#[]⟩ q 0 t2 0 0 0
                     refine hK.out _ _ ?_ (fun hHeld => ?_)
                     · exact ⟨hEW.drop, (cell_ten (by omega) (ha14.2.1)), (cell_ten (by omega) (ha14.2.2.1)), hEW⟩
                     clear hK K
                     refine wpAnyH_keep hHeld (fun Wa15 ha15 => ?_)
                     clear hHeld
                     refine wpAnyH_done (by kernel_rfl) ?_ _
                     go_wp2_with fail
                     go_meet
                     exact ⟨_, rfl, Lib.hid (ha15.2.2.2)⟩
                    exact AllReadyH.nil
                   exact AllReadyH.nil
                  refine AllReadyH.consL rfl (fun K hK => ?_) ?_
                  ·go_simp
                   have hEM := (ha9.1).alloc0
                   have hMQ := (ha9.1).hQ
                   obtain ⟨M, hM⟩ : ∃ M, Wa9.heap.size = M := ⟨_, rfl⟩
                   rw [hM] at hEM hMQ ⊢
                   clear hM
                   refine hK.out _ _ ?_ (fun hHeld => ?_)
                   · exact ⟨((ha9.1).over (below_alloc _ _)), (cell_over (below_alloc _ _) (ha9.2))⟩
                   clear hK K
                   refine wpAnyH_go (fun w' => ES w S Q l L (.slice A n c) (none) w' ∧ w'.cell? ⟨Q, c4.toNat, none⟩ = some (.int .i64 q) ∧ ES w S Q l L (.slice A n c) (some M) w') (fun _ h => ⟨h.1, h.2.1⟩) ⟨hHeld.1, hHeld.2, hEM⟩ (fun Wa10 ha10 => ?_)
                   clear hHeld
                   refine wpAnyH_ready (rs := [0]) (by kernel_rfl) (by simp) ?_
                   refine AllReadyH.consL rfl (fun K hK => ?_) ?_
                   ·go_simp
                    have hlit := lit_cli Wa10 c4 hc0 hc1
                    have hNQ := (ha10.2.2).hQ
                    have hNM := (ha10.2.2).lt
                    obtain ⟨N, hN⟩ : ∃ N, Wa10.heap.size = N := ⟨_, rfl⟩
                    rw [hN] at hlit hNQ hNM ⊢
                    clear hN
                    refine hK.out _ _ ?_ (fun hHeld => ?_)
                    · exact ⟨((ha10.1).over (below_alloc _ _)), (cell_over (below_alloc _ _) (ha10.2.1)), ((ha10.2.2).over (below_alloc _ _))⟩
                    clear hK K
                    refine wpAnyH_go (fun w' => ES w S Q l L (.slice A n c) (none) w' ∧ w'.cell? ⟨Q, c4.toNat, none⟩ = some (.int .i64 q) ∧ ES w S Q l L (.slice A n c) (some M) w' ∧ w'.cell? ⟨N, c4.toNat, none⟩ = some (.string (cli c4))) (fun _ h => ⟨h.1, h.2.1, h.2.2.1⟩) ⟨hHeld.1, hHeld.2.1, hHeld.2.2, hlit⟩ (fun Wa11 ha11 => ?_)
                    clear hHeld
                    refine tk 2 46 (v := ?_) ha11 ?_ ?_
                    rotate_left
                    · intro w hSw; (try dsimp only at hSw); go_simp; all_goals with_reducible rfl
                    simp only [List.setIfInBounds_toArray, List.set_cons_zero, List.set_cons_succ]
                    refine tk 3 47 (v := ?_) ha11 ?_ ?_
                    rotate_left
                    · intro w hSw; (try dsimp only at hSw); go_simp; all_goals with_reducible rfl
                    simp only [List.setIfInBounds_toArray, List.set_cons_zero, List.set_cons_succ]
                    refine tk 12 56 (v := ?_) ha11 ?_ ?_
                    rotate_left
                    · intro w hSw; (try dsimp only at hSw); go_simp; all_goals with_reducible rfl
                    simp only [List.setIfInBounds_toArray, List.set_cons_zero, List.set_cons_succ]
                    refine wpAnyH_ready (rs := [14]) (by kernel_rfl) (by simp) ?_
                    refine AllReadyH.consL rfl (fun K hK => ?_) ?_
                    ·obtain ⟨_, _, x, hx⟩ := (ha11.2.2.1).ev _ rfl
                     obtain ⟨m0, m1, m2, m3, m4, m5, m6, m7, m8, m9⟩ := hx.at
                     have mf := hx.2
                     clear hx
                     go_simp
                     have hEW := (ha11.2.2.1).write (cli c4) s5 ⟨#[]⟩ ⟨#[]⟩ q 0 t2 0 0 0
                     refine hK.out _ _ ?_ (fun hHeld => ?_)
                     · exact ⟨hEW.drop, (cell_ten (by omega) (ha11.2.1)), hEW, (cell_ten (by omega) (ha11.2.2.2))⟩
                     clear hK K
                     refine wpAnyH_keep hHeld (fun Wa15 ha15 => ?_)
                     clear hHeld
                     refine wpAnyH_done (by kernel_rfl) ?_ _
                     go_wp2_with fail
                     go_meet
                     exact ⟨_, rfl, Lib.hid (ha15.2.2.1)⟩
                    exact AllReadyH.nil
                   exact AllReadyH.nil
                  exact AllReadyH.nil
                 refine AllReadyH.consL rfl (fun K hK => ?_) ?_
                 ·go_simp
                  have hEM := (ha8.1).alloc0
                  have hMQ := (ha8.1).hQ
                  obtain ⟨M, hM⟩ : ∃ M, Wa8.heap.size = M := ⟨_, rfl⟩
                  rw [hM] at hEM hMQ ⊢
                  clear hM
                  refine hK.out _ _ ?_ (fun hHeld => ?_)
                  · exact ⟨((ha8.1).over (below_alloc _ _)), (cell_over (below_alloc _ _) (ha8.2))⟩
                  clear hK K
                  refine wpAnyH_go (fun w' => ES w S Q l L (.slice A n c) (none) w' ∧ w'.cell? ⟨Q, c4.toNat, none⟩ = some (.int .i64 q) ∧ ES w S Q l L (.slice A n c) (some M) w') (fun _ h => ⟨h.1, h.2.1⟩) ⟨hHeld.1, hHeld.2, hEM⟩ (fun Wa9 ha9 => ?_)
                  clear hHeld
                  refine wpAnyH_ready (rs := [0, 11]) (by kernel_rfl) (by simp) ?_
                  refine AllReadyH.consL rfl (fun K hK => ?_) ?_
                  ·go_simp
                   have hlit := lit_cli Wa9 c4 hc0 hc1
                   have hNQ := (ha9.2.2).hQ
                   have hNM := (ha9.2.2).lt
                   obtain ⟨N, hN⟩ : ∃ N, Wa9.heap.size = N := ⟨_, rfl⟩
                   rw [hN] at hlit hNQ hNM ⊢
                   clear hN
                   refine hK.out _ _ ?_ (fun hHeld => ?_)
                   · exact ⟨((ha9.1).over (below_alloc _ _)), (cell_over (below_alloc _ _) (ha9.2.1)), ((ha9.2.2).over (below_alloc _ _))⟩
                   clear hK K
                   refine wpAnyH_go (fun w' => ES w S Q l L (.slice A n c) (none) w' ∧ w'.cell? ⟨Q, c4.toNat, none⟩ = some (.int .i64 q) ∧ ES w S Q l L (.slice A n c) (some M) w' ∧ w'.cell? ⟨N, c4.toNat, none⟩ = some (.string (cli c4))) (fun _ h => ⟨h.1, h.2.1, h.2.2.1⟩) ⟨hHeld.1, hHeld.2.1, hHeld.2.2, hlit⟩ (fun Wa10 ha10 => ?_)
                   clear hHeld
                   refine tk 2 46 (v := ?_) ha10 ?_ ?_
                   rotate_left
                   · intro w hSw; (try dsimp only at hSw); go_simp; all_goals with_reducible rfl
                   simp only [List.setIfInBounds_toArray, List.set_cons_zero, List.set_cons_succ]
                   refine tk 3 47 (v := ?_) ha10 ?_ ?_
                   rotate_left
                   · intro w hSw; (try dsimp only at hSw); go_simp; all_goals with_reducible rfl
                   simp only [List.setIfInBounds_toArray, List.set_cons_zero, List.set_cons_succ]
                   refine wpAnyH_ready (rs := [11]) (by kernel_rfl) (by simp) ?_
                   refine AllReadyH.consL rfl (fun K hK => ?_) ?_
                   ·go_simp
                    refine (id_es _ (by omega) (ha10.2.2.1)).mono ?_
                    rintro e w' ⟨s5, rfl, hE, hb⟩
                    (try go_wp2_with fail)
                    refine hK.out _ _ ?_ (fun hHeld => ?_)
                    · exact ⟨((ha10.1).over hb), (cell_over hb (ha10.2.1)), ((ha10.2.2.1).over hb), (cell_over hb (ha10.2.2.2))⟩
                    clear hK K
                    refine wpAnyH_keep hHeld (fun Wa13 ha13 => ?_)
                    clear hHeld
                    refine tk 12 56 (v := ?_) ha13 ?_ ?_
                    rotate_left
                    · intro w hSw; (try dsimp only at hSw); go_simp; all_goals with_reducible rfl
                    simp only [List.setIfInBounds_toArray, List.set_cons_zero, List.set_cons_succ]
                    refine wpAnyH_ready (rs := [14]) (by kernel_rfl) (by simp) ?_
                    refine AllReadyH.consL rfl (fun K hK => ?_) ?_
                    ·obtain ⟨_, _, x, hx⟩ := (ha13.2.2.1).ev _ rfl
                     obtain ⟨m0, m1, m2, m3, m4, m5, m6, m7, m8, m9⟩ := hx.at
                     have mf := hx.2
                     clear hx
                     go_simp
                     have hEW := (ha13.2.2.1).write (cli c4) s5 ⟨#[]⟩ ⟨#[]⟩ q 0 t2 0 0 0
                     refine hK.out _ _ ?_ (fun hHeld => ?_)
                     · exact ⟨hEW.drop, (cell_ten (by omega) (ha13.2.1)), hEW, (cell_ten (by omega) (ha13.2.2.2))⟩
                     clear hK K
                     refine wpAnyH_keep hHeld (fun Wa15 ha15 => ?_)
                     clear hHeld
                     refine wpAnyH_done (by kernel_rfl) ?_ _
                     go_wp2_with fail
                     go_meet
                     exact ⟨_, rfl, Lib.hid (ha15.2.2.1)⟩
                    exact AllReadyH.nil
                   exact AllReadyH.nil
                  refine AllReadyH.consL rfl (fun K hK => ?_) ?_
                  ·go_simp
                   refine (id_es _ (by omega) (ha9.2.2)).mono ?_
                   rintro e w' ⟨s5, rfl, hE, hb⟩
                   (try go_wp2_with fail)
                   refine hK.out _ _ ?_ (fun hHeld => ?_)
                   · exact ⟨((ha9.1).over hb), (cell_over hb (ha9.2.1)), ((ha9.2.2).over hb)⟩
                   clear hK K
                   refine wpAnyH_keep hHeld (fun Wa10 ha10 => ?_)
                   clear hHeld
                   refine wpAnyH_ready (rs := [0]) (by kernel_rfl) (by simp) ?_
                   refine AllReadyH.consL rfl (fun K hK => ?_) ?_
                   ·go_simp
                    have hlit := lit_cli Wa10 c4 hc0 hc1
                    have hNQ := (ha10.2.2).hQ
                    have hNM := (ha10.2.2).lt
                    obtain ⟨N, hN⟩ : ∃ N, Wa10.heap.size = N := ⟨_, rfl⟩
                    rw [hN] at hlit hNQ hNM ⊢
                    clear hN
                    refine hK.out _ _ ?_ (fun hHeld => ?_)
                    · exact ⟨((ha10.1).over (below_alloc _ _)), (cell_over (below_alloc _ _) (ha10.2.1)), ((ha10.2.2).over (below_alloc _ _))⟩
                    clear hK K
                    refine wpAnyH_go (fun w' => ES w S Q l L (.slice A n c) (none) w' ∧ w'.cell? ⟨Q, c4.toNat, none⟩ = some (.int .i64 q) ∧ ES w S Q l L (.slice A n c) (some M) w' ∧ w'.cell? ⟨N, c4.toNat, none⟩ = some (.string (cli c4))) (fun _ h => ⟨h.1, h.2.1, h.2.2.1⟩) ⟨hHeld.1, hHeld.2.1, hHeld.2.2, hlit⟩ (fun Wa11 ha11 => ?_)
                    clear hHeld
                    refine tk 2 46 (v := ?_) ha11 ?_ ?_
                    rotate_left
                    · intro w hSw; (try dsimp only at hSw); go_simp; all_goals with_reducible rfl
                    simp only [List.setIfInBounds_toArray, List.set_cons_zero, List.set_cons_succ]
                    refine tk 3 47 (v := ?_) ha11 ?_ ?_
                    rotate_left
                    · intro w hSw; (try dsimp only at hSw); go_simp; all_goals with_reducible rfl
                    simp only [List.setIfInBounds_toArray, List.set_cons_zero, List.set_cons_succ]
                    refine tk 12 56 (v := ?_) ha11 ?_ ?_
                    rotate_left
                    · intro w hSw; (try dsimp only at hSw); go_simp; all_goals with_reducible rfl
                    simp only [List.setIfInBounds_toArray, List.set_cons_zero, List.set_cons_succ]
                    refine wpAnyH_ready (rs := [14]) (by kernel_rfl) (by simp) ?_
                    refine AllReadyH.consL rfl (fun K hK => ?_) ?_
                    ·obtain ⟨_, _, x, hx⟩ := (ha11.2.2.1).ev _ rfl
                     obtain ⟨m0, m1, m2, m3, m4, m5, m6, m7, m8, m9⟩ := hx.at
                     have mf := hx.2
                     clear hx
                     go_simp
                     have hEW := (ha11.2.2.1).write (cli c4) s5 ⟨#[]⟩ ⟨#[]⟩ q 0 t2 0 0 0
                     refine hK.out _ _ ?_ (fun hHeld => ?_)
                     · exact ⟨hEW.drop, (cell_ten (by omega) (ha11.2.1)), hEW, (cell_ten (by omega) (ha11.2.2.2))⟩
                     clear hK K
                     refine wpAnyH_keep hHeld (fun Wa15 ha15 => ?_)
                     clear hHeld
                     refine wpAnyH_done (by kernel_rfl) ?_ _
                     go_wp2_with fail
                     go_meet
                     exact ⟨_, rfl, Lib.hid (ha15.2.2.1)⟩
                    exact AllReadyH.nil
                   exact AllReadyH.nil
                  exact AllReadyH.nil
                 exact AllReadyH.nil
                refine AllReadyH.consL rfl (fun K hK => ?_) ?_
                ·go_simp
                 have hEM := (ha0.1).alloc0
                 have hMQ := (ha0.1).hQ
                 obtain ⟨M, hM⟩ : ∃ M, Wa0.heap.size = M := ⟨_, rfl⟩
                 rw [hM] at hEM hMQ ⊢
                 clear hM
                 refine hK.out _ _ ?_ (fun hHeld => ?_)
                 · exact ⟨((ha0.1).over (below_alloc _ _)), (cell_over (below_alloc _ _) (ha0.2))⟩
                 clear hK K
                 refine wpAnyH_go (fun w' => ES w S Q l L (.slice A n c) (none) w' ∧ w'.cell? ⟨Q, c4.toNat, none⟩ = some (.int .i64 q) ∧ ES w S Q l L (.slice A n c) (some M) w') (fun _ h => ⟨h.1, h.2.1⟩) ⟨hHeld.1, hHeld.2, hEM⟩ (fun Wa8 ha8 => ?_)
                 clear hHeld
                 refine wpAnyH_ready (rs := [0, 10]) (by kernel_rfl) (by simp) ?_
                 refine AllReadyH.consL rfl (fun K hK => ?_) ?_
                 ·go_simp
                  have hlit := lit_cli Wa8 c4 hc0 hc1
                  have hNQ := (ha8.2.2).hQ
                  have hNM := (ha8.2.2).lt
                  obtain ⟨N, hN⟩ : ∃ N, Wa8.heap.size = N := ⟨_, rfl⟩
                  rw [hN] at hlit hNQ hNM ⊢
                  clear hN
                  refine hK.out _ _ ?_ (fun hHeld => ?_)
                  · exact ⟨((ha8.1).over (below_alloc _ _)), (cell_over (below_alloc _ _) (ha8.2.1)), ((ha8.2.2).over (below_alloc _ _))⟩
                  clear hK K
                  refine wpAnyH_go (fun w' => ES w S Q l L (.slice A n c) (none) w' ∧ w'.cell? ⟨Q, c4.toNat, none⟩ = some (.int .i64 q) ∧ ES w S Q l L (.slice A n c) (some M) w' ∧ w'.cell? ⟨N, c4.toNat, none⟩ = some (.string (cli c4))) (fun _ h => ⟨h.1, h.2.1, h.2.2.1⟩) ⟨hHeld.1, hHeld.2.1, hHeld.2.2, hlit⟩ (fun Wa9 ha9 => ?_)
                  clear hHeld
                  refine tk 2 46 (v := ?_) ha9 ?_ ?_
                  rotate_left
                  · intro w hSw; (try dsimp only at hSw); go_simp; all_goals with_reducible rfl
                  simp only [List.setIfInBounds_toArray, List.set_cons_zero, List.set_cons_succ]
                  refine tk 3 47 (v := ?_) ha9 ?_ ?_
                  rotate_left
                  · intro w hSw; (try dsimp only at hSw); go_simp; all_goals with_reducible rfl
                  simp only [List.setIfInBounds_toArray, List.set_cons_zero, List.set_cons_succ]
                  refine wpAnyH_ready (rs := [10]) (by kernel_rfl) (by simp) ?_
                  refine AllReadyH.consL rfl (fun K hK => ?_) ?_
                  ·go_simp
                   refine (next_es 6 HL (by omega) (ha9.2.2.1)).mono ?_
                   rintro e w' ⟨r6, rfl, r60, r61, hE, hk⟩
                   (try go_wp2_with fail)
                   refine hK.out _ _ ?_ (fun hHeld => ?_)
                   · exact ⟨((ha9.1).keep (hE).src hk), (cell_next hk (by omega) (ha9.2.1)), ((ha9.2.2.1).keep (hE).src hk), (cell_next hk (by omega) (ha9.2.2.2))⟩
                   clear hK K
                   refine wpAnyH_keep hHeld (fun Wa12 ha12 => ?_)
                   clear hHeld
                   refine wpAnyH_ready (rs := [11]) (by kernel_rfl) (by simp) ?_
                   refine AllReadyH.consL rfl (fun K hK => ?_) ?_
                   ·go_simp
                    refine (id_es _ (by omega) (ha12.2.2.1)).mono ?_
                    rintro e w' ⟨s5, rfl, hE, hb⟩
                    (try go_wp2_with fail)
                    refine hK.out _ _ ?_ (fun hHeld => ?_)
                    · exact ⟨((ha12.1).over hb), (cell_over hb (ha12.2.1)), ((ha12.2.2.1).over hb), (cell_over hb (ha12.2.2.2))⟩
                    clear hK K
                    refine wpAnyH_keep hHeld (fun Wa13 ha13 => ?_)
                    clear hHeld
                    refine tk 12 56 (v := ?_) ha13 ?_ ?_
                    rotate_left
                    · intro w hSw; (try dsimp only at hSw); go_simp; all_goals with_reducible rfl
                    simp only [List.setIfInBounds_toArray, List.set_cons_zero, List.set_cons_succ]
                    refine wpAnyH_ready (rs := [14]) (by kernel_rfl) (by simp) ?_
                    refine AllReadyH.consL rfl (fun K hK => ?_) ?_
                    ·obtain ⟨_, _, x, hx⟩ := (ha13.2.2.1).ev _ rfl
                     obtain ⟨m0, m1, m2, m3, m4, m5, m6, m7, m8, m9⟩ := hx.at
                     have mf := hx.2
                     clear hx
                     go_simp
                     have hEW := (ha13.2.2.1).write (cli c4) s5 ⟨#[]⟩ ⟨#[]⟩ q 0 t2 0 0 0
                     refine hK.out _ _ ?_ (fun hHeld => ?_)
                     · exact ⟨hEW.drop, (cell_ten (by omega) (ha13.2.1)), hEW, (cell_ten (by omega) (ha13.2.2.2))⟩
                     clear hK K
                     refine wpAnyH_keep hHeld (fun Wa15 ha15 => ?_)
                     clear hHeld
                     refine wpAnyH_done (by kernel_rfl) ?_ _
                     go_wp2_with fail
                     go_meet
                     exact ⟨_, rfl, Lib.hid (ha15.2.2.1)⟩
                    exact AllReadyH.nil
                   exact AllReadyH.nil
                  exact AllReadyH.nil
                 refine AllReadyH.consL rfl (fun K hK => ?_) ?_
                 ·go_simp
                  refine (next_es 6 HL (by omega) (ha8.2.2)).mono ?_
                  rintro e w' ⟨r6, rfl, r60, r61, hE, hk⟩
                  (try go_wp2_with fail)
                  refine hK.out _ _ ?_ (fun hHeld => ?_)
                  · exact ⟨((ha8.1).keep (hE).src hk), (cell_next hk (by omega) (ha8.2.1)), ((ha8.2.2).keep (hE).src hk)⟩
                  clear hK K
                  refine wpAnyH_keep hHeld (fun Wa9 ha9 => ?_)
                  clear hHeld
                  refine wpAnyH_ready (rs := [0, 11]) (by kernel_rfl) (by simp) ?_
                  refine AllReadyH.consL rfl (fun K hK => ?_) ?_
                  ·go_simp
                   have hlit := lit_cli Wa9 c4 hc0 hc1
                   have hNQ := (ha9.2.2).hQ
                   have hNM := (ha9.2.2).lt
                   obtain ⟨N, hN⟩ : ∃ N, Wa9.heap.size = N := ⟨_, rfl⟩
                   rw [hN] at hlit hNQ hNM ⊢
                   clear hN
                   refine hK.out _ _ ?_ (fun hHeld => ?_)
                   · exact ⟨((ha9.1).over (below_alloc _ _)), (cell_over (below_alloc _ _) (ha9.2.1)), ((ha9.2.2).over (below_alloc _ _))⟩
                   clear hK K
                   refine wpAnyH_go (fun w' => ES w S Q l L (.slice A n c) (none) w' ∧ w'.cell? ⟨Q, c4.toNat, none⟩ = some (.int .i64 q) ∧ ES w S Q l L (.slice A n c) (some M) w' ∧ w'.cell? ⟨N, c4.toNat, none⟩ = some (.string (cli c4))) (fun _ h => ⟨h.1, h.2.1, h.2.2.1⟩) ⟨hHeld.1, hHeld.2.1, hHeld.2.2, hlit⟩ (fun Wa10 ha10 => ?_)
                   clear hHeld
                   refine tk 2 46 (v := ?_) ha10 ?_ ?_
                   rotate_left
                   · intro w hSw; (try dsimp only at hSw); go_simp; all_goals with_reducible rfl
                   simp only [List.setIfInBounds_toArray, List.set_cons_zero, List.set_cons_succ]
                   refine tk 3 47 (v := ?_) ha10 ?_ ?_
                   rotate_left
                   · intro w hSw; (try dsimp only at hSw); go_simp; all_goals with_reducible rfl
                   simp only [List.setIfInBounds_toArray, List.set_cons_zero, List.set_cons_succ]
                   refine wpAnyH_ready (rs := [11]) (by kernel_rfl) (by simp) ?_
                   refine AllReadyH.consL rfl (fun K hK => ?_) ?_
                   ·go_simp
                    refine (id_es _ (by omega) (ha10.2.2.1)).mono ?_
                    rintro e w' ⟨s5, rfl, hE, hb⟩
                    (try go_wp2_with fail)
                    refine hK.out _ _ ?_ (fun hHeld => ?_)
                    · exact ⟨((ha10.1).over hb), (cell_over hb (ha10.2.1)), ((ha10.2.2.1).over hb), (cell_over hb (ha10.2.2.2))⟩
                    clear hK K
                    refine wpAnyH_keep hHeld (fun Wa13 ha13 => ?_)
                    clear hHeld
                    refine tk 12 56 (v := ?_) ha13 ?_ ?_
                    rotate_left
                    · intro w hSw; (try dsimp only at hSw); go_simp; all_goals with_reducible rfl
                    simp only [List.setIfInBounds_toArray, List.set_cons_zero, List.set_cons_succ]
                    refine wpAnyH_ready (rs := [14]) (by kernel_rfl) (by simp) ?_
                    refine AllReadyH.consL rfl (fun K hK => ?_) ?_
                    ·obtain ⟨_, _, x, hx⟩ := (ha13.2.2.1).ev _ rfl
                     obtain ⟨m0, m1, m2, m3, m4, m5, m6, m7, m8, m9⟩ := hx.at
                     have mf := hx.2
                     clear hx
                     go_simp
                     have hEW := (ha13.2.2.1).write (cli c4) s5 ⟨#[]⟩ ⟨#[]⟩ q 0 t2 0 0 0
                     refine hK.out _ _ ?_ (fun hHeld => ?_)
                     · exact ⟨hEW.drop, (cell_ten (by omega) (ha13.2.1)), hEW, (cell_ten (by omega) (ha13.2.2.2))⟩
                     clear hK K
                     refine wpAnyH_keep hHeld (fun Wa15 ha15 => ?_)
                     clear hHeld
                     refine wpAnyH_done (by kernel_rfl) ?_ _
                     go_wp2_with fail
                     go_meet
                     exact ⟨_, rfl, Lib.hid (ha15.2.2.1)⟩
                    exact AllReadyH.nil
                   exact AllReadyH.nil
                  refine AllReadyH.consL rfl (fun K hK => ?_) ?_
                  ·go_simp
                   refine (id_es _ (by omega) (ha9.2.2)).mono ?_
                   rintro e w' ⟨s5, rfl, hE, hb⟩
                   (try go_wp2_with fail)
                   refine hK.out _ _ ?_ (fun hHeld => ?_)
                   · exact ⟨((ha9.1).over hb), (cell_over hb (ha9.2.1)), ((ha9.2.2).over hb)⟩
                   clear hK K
                   refine wpAnyH_keep hHeld (fun Wa10 ha10 => ?_)
                   clear hHeld
                   refine wpAnyH_ready (rs := [0]) (by kernel_rfl) (by simp) ?_
                   refine AllReadyH.consL rfl (fun K hK => ?_) ?_
                   ·go_simp
                    have hlit := lit_cli Wa10 c4 hc0 hc1
                    have hNQ := (ha10.2.2).hQ
                    have hNM := (ha10.2.2).lt
                    obtain ⟨N, hN⟩ : ∃ N, Wa10.heap.size = N := ⟨_, rfl⟩
                    rw [hN] at hlit hNQ hNM ⊢
                    clear hN
                    refine hK.out _ _ ?_ (fun hHeld => ?_)
                    · exact ⟨((ha10.1).over (below_alloc _ _)), (cell_over (below_alloc _ _) (ha10.2.1)), ((ha10.2.2).over (below_alloc _ _))⟩
                    clear hK K
                    refine wpAnyH_go (fun w' => ES w S Q l L (.slice A n c) (none) w' ∧ w'.cell? ⟨Q, c4.toNat, none⟩ = some (.int .i64 q) ∧ ES w S Q l L (.slice A n c) (some M) w' ∧ w'.cell? ⟨N, c4.toNat, none⟩ = some (.string (cli c4))) (fun _ h => ⟨h.1, h.2.1, h.2.2.1⟩) ⟨hHeld.1, hHeld.2.1, hHeld.2.2, hlit⟩ (fun Wa11 ha11 => ?_)
                    clear hHeld
                    refine tk 2 46 (v := ?_) ha11 ?_ ?_
                    rotate_left
                    · intro w hSw; (try dsimp only at hSw); go_simp; all_goals with_reducible rfl
                    simp only [List.setIfInBounds_toArray, List.set_cons_zero, List.set_cons_succ]
                    refine tk 3 47 (v := ?_) ha11 ?_ ?_
                    rotate_left
                    · intro w hSw; (try dsimp only at hSw); go_simp; all_goals with_reducible rfl
                    simp only [List.setIfInBounds_toArray, List.set_cons_zero, List.set_cons_succ]
                    refine tk 12 56 (v := ?_) ha11 ?_ ?_
                    rotate_left
                    · intro w hSw; (try dsimp only at hSw); go_simp; all_goals with_reducible rfl
                    simp only [List.setIfInBounds_toArray, List.set_cons_zero, List.set_cons_succ]
                    refine wpAnyH_ready (rs := [14]) (by kernel_rfl) (by simp) ?_
                    refine AllReadyH.consL rfl (fun K hK => ?_) ?_
                    ·obtain ⟨_, _, x, hx⟩ := (ha11.2.2.1).ev _ rfl
                     obtain ⟨m0, m1, m2, m3, m4, m5, m6, m7, m8, m9⟩ := hx.at
                     have mf := hx.2
                     clear hx
                     go_simp
                     have hEW := (ha11.2.2.1).write (cli c4) s5 ⟨#[]⟩ ⟨#[]⟩ q 0 t2 0 0 0
                     refine hK.out _ _ ?_ (fun hHeld => ?_)
                     · exact ⟨hEW.drop, (cell_ten (by omega) (ha11.2.1)), hEW, (cell_ten (by omega) (ha11.2.2.2))⟩
                     clear hK K
                     refine wpAnyH_keep hHeld (fun Wa15 ha15 => ?_)
                     clear hHeld
                     refine wpAnyH_done (by kernel_rfl) ?_ _
                     go_wp2_with fail
                     go_meet
                     exact ⟨_, rfl, Lib.hid (ha15.2.2.1)⟩
                    exact AllReadyH.nil
                   exact AllReadyH.nil
                  exact AllReadyH.nil
                 exact AllReadyH.nil
                exact AllReadyH.nil
              case rest =>
                obtain ⟨M, rfl, HE6⟩ := hcut
                clear hq HE5
                go_wp2_with fail
                refine (next_es 8 HL (by omega) HE6.out).mono ?_
                rintro e w7 ⟨r8, rfl, hr80, hr81, he7, _⟩
                have HE7 := Lib.hid he7
                clear he7 HE6
                go_upto_block 2 with (fail)
                go_cut [] (fun w9 => Hid (ES w S Q l L (.slice A n c) (some M) w9))
                case first =>
                  have hSQ := HE7.out.hSQ
                  have hMQ := (HE7.out.ev _ rfl).1
                  by_cases h012 : r8 = 0 ∨ r8 = 1 ∨ r8 = 2
                  · have hb : ((r8 == 0) = true) ∨ ((r8 == 0) = false ∧ (r8 == 1) = true) ∨ ((r8 == 0) = false ∧ (r8 == 1) = false ∧ (r8 == 2) = true) := by
                      rcases h012 with rfl | rfl | rfl <;> decide
                    clear h012 hr80 hr81
                    rcases hb with b0 | ⟨b0, b1⟩ | ⟨b0, b1, b2⟩
                    all_goals
                      go_upto_region 18 with (fail)
                      refine wp_region_held_drew (S := (fun w' => ES w S Q l L (.slice A n c) (some M) w')) (by kernel_rfl) (HE7.out.over (below_drew _)) (fun hHeld => ?_)
                      refine wpAnyH_keep hHeld (fun Wb0 hb0 => ?_)
                      clear hHeld
                      refine tk 1 76 (v := ?_) hb0 ?_ ?_
                      rotate_left
                      · intro w hSw; (try dsimp only at hSw); go_simp; all_goals with_reducible rfl
                      simp only [List.setIfInBounds_toArray, List.set_cons_zero, List.set_cons_succ]
                      refine tk 6 81 (v := ?_) hb0 ?_ ?_
                      rotate_left
                      · intro w hSw; (try dsimp only at hSw); go_simp; all_goals with_reducible rfl
                      simp only [List.setIfInBounds_toArray, List.set_cons_zero, List.set_cons_succ]
                      refine tk 11 86 (v := ?_) hb0 ?_ ?_
                      rotate_left
                      · intro w hSw; (try dsimp only at hSw); go_simp; all_goals with_reducible rfl
                      simp only [List.setIfInBounds_toArray, List.set_cons_zero, List.set_cons_succ]
                      refine tk 15 90 (v := ?_) hb0 ?_ ?_
                      rotate_left
                      · intro w hSw; (try dsimp only at hSw); go_simp; all_goals with_reducible rfl
                      simp only [List.setIfInBounds_toArray, List.set_cons_zero, List.set_cons_succ]
                      refine tk 19 94 (v := ?_) hb0 ?_ ?_
                      rotate_left
                      · intro w hSw; (try dsimp only at hSw); go_simp; all_goals with_reducible rfl
                      simp only [List.setIfInBounds_toArray, List.set_cons_zero, List.set_cons_succ]
                      refine wpAnyH_ready (rs := [0]) (by kernel_rfl) (by simp) ?_
                      refine AllReadyH.consL rfl (fun K hK => ?_) ?_
                      ·go_simp
                       refine (exps_es (hb0)).mono ?_
                       rintro e w' ⟨N, x0, x1, rfl, hE, hb, hN, e0, e1⟩
                       have hML := (hb0).lt
                       have hMN : M < N := Nat.lt_of_lt_of_le hML hN
                       have hQN := Nat.lt_of_lt_of_le (hb0).hQ hN
                       (try go_wp2_with fail)
                       refine hK.out _ _ ?_ (fun hHeld => ?_)
                       · exact ((hb0).over hb)
                       clear hK K
                       refine wpAnyH_go (fun w' => ES w S Q l L (.slice A n c) (some M) w' ∧ w'.cell? ⟨N, 0, none⟩ = some (.string x0) ∧ w'.cell? ⟨N, 1, none⟩ = some (.string x1)) (fun _ h => h.1) ⟨hHeld, e0, e1⟩ (fun Wb6 hb6 => ?_)
                       clear hHeld
                       refine wpAnyH_ready (rs := [2]) (by kernel_rfl) (by simp) ?_
                       refine AllReadyH.consL rfl (fun K hK => ?_) ?_
                       ·go_simp
                        refine (next_es 8 HL (by omega) (hb6.1)).mono ?_
                        rintro e w' ⟨ra, rfl, ra0, ra1, hE, hk⟩
                        have hye : IntKind.i64.wrap (Int.tdiv ra 7) = ra / 7 := by rw [Int.tdiv_eq_ediv_of_nonneg ra0]; exact IntWalk.i64_in _ (by omega)
                        have hy0 : 0 ≤ ra / 7 := by omega
                        have hy1 : ra / 7 < 2 := by omega
                        have hyd0 : decide (0 ≤ ra / 7) = true := decide_eq_true hy0
                        have hyd2 : decide (ra / 7 < 2) = true := decide_eq_true hy1
                        have hyd4 : decide (ra / 7 < 4) = true := decide_eq_true (by omega)
                        have hy4 : ra / 7 < 4 := by omega
                        have hcell : w'.cell? ⟨N, (ra / 7).toNat, none⟩ = some (.string (if ra / 7 = 0 then x0 else x1)) := by
                          have g0 := cell_next hk (by omega) (hb6.2.1)
                          have g1 := cell_next hk (by omega) (hb6.2.2)
                          rcases (show ra / 7 = 0 ∨ ra / 7 = 1 by omega) with e | e <;> rw [e]
                          · exact g0
                          · exact g1
                        obtain ⟨y, hy⟩ : ∃ y, (if ra / 7 = 0 then x0 else x1) = y := ⟨_, rfl⟩
                        rw [hy] at hcell
                        clear hy
                        (try go_wp2_with fail)
                        refine hK.out _ _ ?_ (fun hHeld => ?_)
                        · exact ⟨((hb6.1).keep (hE).src hk), (cell_next hk (by omega) (hb6.2.1)), (cell_next hk (by omega) (hb6.2.2))⟩
                        clear hK K
                        refine wpAnyH_go (fun w' => ES w S Q l L (.slice A n c) (some M) w' ∧ w'.cell? ⟨N, 0, none⟩ = some (.string x0) ∧ w'.cell? ⟨N, 1, none⟩ = some (.string x1) ∧ w'.cell? ⟨N, (ra / 7).toNat, none⟩ = some (.string y)) (fun _ h => ⟨h.1, h.2.1, h.2.2.1⟩) ⟨hHeld.1, hHeld.2.1, hHeld.2.2, hcell⟩ (fun Wb7 hb7 => ?_)
                        clear hHeld
                        refine tk 3 78 (v := ?_) hb7 ?_ ?_
                        rotate_left
                        · intro w hSw; (try dsimp only at hSw); go_simp; all_goals with_reducible rfl
                        simp only [List.setIfInBounds_toArray, List.set_cons_zero, List.set_cons_succ]
                        refine tk 4 79 (v := ?_) hb7 ?_ ?_
                        rotate_left
                        · intro w hSw; (try dsimp only at hSw); go_simp; all_goals with_reducible rfl
                        simp only [List.setIfInBounds_toArray, List.set_cons_zero, List.set_cons_succ]
                        refine tk 5 80 (v := ?_) hb7 ?_ ?_
                        rotate_left
                        · intro w hSw; (try dsimp only at hSw); go_simp; all_goals with_reducible rfl
                        simp only [List.setIfInBounds_toArray, List.set_cons_zero, List.set_cons_succ]
                        refine wpAnyH_ready (rs := [7]) (by kernel_rfl) (by simp) ?_
                        refine AllReadyH.consL rfl (fun K hK => ?_) ?_
                        ·go_simp
                         refine (next_es 10 HL (by omega) (hb7.1)).mono ?_
                         rintro e w' ⟨rb, rfl, rb0, rb1, hE, hk⟩
                         (try go_wp2_with fail)
                         refine hK.out _ _ ?_ (fun hHeld => ?_)
                         · exact ⟨((hb7.1).keep (hE).src hk), (cell_next hk (by omega) (hb7.2.1)), (cell_next hk (by omega) (hb7.2.2.1)), (cell_next hk (by omega) (hb7.2.2.2))⟩
                         clear hK K
                         refine wpAnyH_keep hHeld (fun Wb11 hb11 => ?_)
                         clear hHeld
                         refine tk 8 83 (v := ?_) hb11 ?_ ?_
                         rotate_left
                         · intro w hSw; (try dsimp only at hSw); go_simp; all_goals with_reducible rfl
                         simp only [List.setIfInBounds_toArray, List.set_cons_zero, List.set_cons_succ]
                         refine tk 9 84 (v := ?_) hb11 ?_ ?_
                         rotate_left
                         · intro w hSw; (try dsimp only at hSw); go_simp; all_goals with_reducible rfl
                         simp only [List.setIfInBounds_toArray, List.set_cons_zero, List.set_cons_succ]
                         refine tk 10 85 (v := ?_) hb11 ?_ ?_
                         rotate_left
                         · intro w hSw; (try dsimp only at hSw); go_simp; all_goals with_reducible rfl
                         simp only [List.setIfInBounds_toArray, List.set_cons_zero, List.set_cons_succ]
                         refine wpAnyH_ready (rs := [12]) (by kernel_rfl) (by simp) ?_
                         refine AllReadyH.consL rfl (fun K hK => ?_) ?_
                         ·go_simp
                          refine (next_es 12 HL (by omega) (hb11.1)).mono ?_
                          rintro e w' ⟨rc, rfl, rc0, rc1, hE, hk⟩
                          (try go_wp2_with fail)
                          refine hK.out _ _ ?_ (fun hHeld => ?_)
                          · exact ⟨((hb11.1).keep (hE).src hk), (cell_next hk (by omega) (hb11.2.1)), (cell_next hk (by omega) (hb11.2.2.1)), (cell_next hk (by omega) (hb11.2.2.2))⟩
                          clear hK K
                          refine wpAnyH_keep hHeld (fun Wb15 hb15 => ?_)
                          clear hHeld
                          refine tk 13 88 (v := ?_) hb15 ?_ ?_
                          rotate_left
                          · intro w hSw; (try dsimp only at hSw); go_simp; all_goals with_reducible rfl
                          simp only [List.setIfInBounds_toArray, List.set_cons_zero, List.set_cons_succ]
                          refine tk 14 89 (v := ?_) hb15 ?_ ?_
                          rotate_left
                          · intro w hSw; (try dsimp only at hSw); go_simp; all_goals with_reducible rfl
                          simp only [List.setIfInBounds_toArray, List.set_cons_zero, List.set_cons_succ]
                          refine wpAnyH_ready (rs := [16]) (by kernel_rfl) (by simp) ?_
                          refine AllReadyH.consL rfl (fun K hK => ?_) ?_
                          ·go_simp
                           refine (next_es 5 HL (by omega) (hb15.1)).mono ?_
                           rintro e w' ⟨rd, rfl, rd0, rd1, hE, hk⟩
                           (try go_wp2_with fail)
                           refine hK.out _ _ ?_ (fun hHeld => ?_)
                           · exact ⟨((hb15.1).keep (hE).src hk), (cell_next hk (by omega) (hb15.2.1)), (cell_next hk (by omega) (hb15.2.2.1)), (cell_next hk (by omega) (hb15.2.2.2))⟩
                           clear hK K
                           refine wpAnyH_keep hHeld (fun Wb18 hb18 => ?_)
                           clear hHeld
                           refine tk 17 92 (v := ?_) hb18 ?_ ?_
                           rotate_left
                           · intro w hSw; (try dsimp only at hSw); go_simp; all_goals with_reducible rfl
                           simp only [List.setIfInBounds_toArray, List.set_cons_zero, List.set_cons_succ]
                           refine tk 18 93 (v := ?_) hb18 ?_ ?_
                           rotate_left
                           · intro w hSw; (try dsimp only at hSw); go_simp; all_goals with_reducible rfl
                           simp only [List.setIfInBounds_toArray, List.set_cons_zero, List.set_cons_succ]
                           refine wpAnyH_ready (rs := [20]) (by kernel_rfl) (by simp) ?_
                           refine AllReadyH.consL rfl (fun K hK => ?_) ?_
                           ·obtain ⟨_, _, x, hx⟩ := (hb18.1).ev _ rfl
                            obtain ⟨m0, m1, m2, m3, m4, m5, m6, m7, m8, m9⟩ := hx.at
                            have mf := hx.2
                            clear hx
                            go_simp
                            refine hK.out _ _ ?_ (fun hHeld => ?_)
                            · exact ⟨((hb18.1).setKd _), (cell_far (by omega) (hb18.2.1)), (cell_far (by omega) (hb18.2.2.1)), (cell_far (by omega) (hb18.2.2.2))⟩
                            clear hK K
                            refine wpAnyH_keep hHeld (fun Wb21 hb21 => ?_)
                            clear hHeld
                            refine tk 21 95 (v := ?_) hb21 ?_ ?_
                            rotate_left
                            · intro w hSw; (try dsimp only at hSw); go_simp; all_goals with_reducible rfl
                            simp only [List.setIfInBounds_toArray, List.set_cons_zero, List.set_cons_succ]
                            refine wpAnyH_ready (rs := [22]) (by kernel_rfl) (by simp) ?_
                            refine AllReadyH.consL rfl (fun K hK => ?_) ?_
                            ·obtain ⟨_, _, x, hx⟩ := (hb21.1).ev _ rfl
                             obtain ⟨m0, m1, m2, m3, m4, m5, m6, m7, m8, m9⟩ := hx.at
                             have mf := hx.2
                             clear hx
                             go_simp
                             refine hK.out _ _ ?_ (fun hHeld => ?_)
                             · exact ⟨((hb21.1).setNm _), (cell_far (by omega) (hb21.2.1)), (cell_far (by omega) (hb21.2.2.1)), (cell_far (by omega) (hb21.2.2.2))⟩
                             clear hK K
                             refine wpAnyH_keep hHeld (fun Wb23 hb23 => ?_)
                             clear hHeld
                             refine tk 23 96 (v := ?_) hb23 ?_ ?_
                             rotate_left
                             · intro w hSw; (try dsimp only at hSw); go_simp; all_goals with_reducible rfl
                             simp only [List.setIfInBounds_toArray, List.set_cons_zero, List.set_cons_succ]
                             refine wpAnyH_ready (rs := [24]) (by kernel_rfl) (by simp) ?_
                             refine AllReadyH.consL rfl (fun K hK => ?_) ?_
                             ·obtain ⟨_, _, x, hx⟩ := (hb23.1).ev _ rfl
                              obtain ⟨m0, m1, m2, m3, m4, m5, m6, m7, m8, m9⟩ := hx.at
                              have mf := hx.2
                              clear hx
                              go_simp
                              refine hK.out _ _ ?_ (fun hHeld => ?_)
                              · exact ⟨((hb23.1).setAr _), (cell_far (by omega) (hb23.2.1)), (cell_far (by omega) (hb23.2.2.1)), (cell_far (by omega) (hb23.2.2.2))⟩
                              clear hK K
                              refine wpAnyH_keep hHeld (fun Wb25 hb25 => ?_)
                              clear hHeld
                              refine tk 25 97 (v := ?_) hb25 ?_ ?_
                              rotate_left
                              · intro w hSw; (try dsimp only at hSw); go_simp; all_goals with_reducible rfl
                              simp only [List.setIfInBounds_toArray, List.set_cons_zero, List.set_cons_succ]
                              refine wpAnyH_ready (rs := [26]) (by kernel_rfl) (by simp) ?_
                              refine AllReadyH.consL rfl (fun K hK => ?_) ?_
                              ·obtain ⟨_, _, x, hx⟩ := (hb25.1).ev _ rfl
                               obtain ⟨m0, m1, m2, m3, m4, m5, m6, m7, m8, m9⟩ := hx.at
                               have mf := hx.2
                               clear hx
                               go_simp
                               refine hK.out _ _ ?_ (fun hHeld => ?_)
                               · exact ⟨((hb25.1).setVr _), (cell_far (by omega) (hb25.2.1)), (cell_far (by omega) (hb25.2.2.1)), (cell_far (by omega) (hb25.2.2.2))⟩
                               clear hK K
                               refine wpAnyH_keep hHeld (fun Wb27 hb27 => ?_)
                               clear hHeld
                               refine wpAnyH_done (by kernel_rfl) ?_ _
                               go_wp2_with fail
                               go_meet
                               exact Lib.hid (hb27.1)
                              exact AllReadyH.nil
                             exact AllReadyH.nil
                            exact AllReadyH.nil
                           exact AllReadyH.nil
                          exact AllReadyH.nil
                         exact AllReadyH.nil
                        exact AllReadyH.nil
                       exact AllReadyH.nil
                      exact AllReadyH.nil
                  · have b0 : (r8 == 0) = false := by simp; omega
                    have b1 : (r8 == 1) = false := by simp; omega
                    have b2 : (r8 == 2) = false := by simp; omega
                    by_cases h3 : r8 = 3
                    · have b3 : (r8 == 3) = true := by rw [h3]; rfl
                      clear h3 h012 hr80 hr81
                      go_wp2_with fail
                      refine (next_es 6 HL (by omega) HE7.out).mono ?_
                      rintro e w8 ⟨k, rfl, hk0, hk1, he8, _⟩
                      have HE8 := Lib.hid he8
                      clear he8 HE7
                      go_upto_region 21 with (fail)
                      go_cut [106] (fun s106 w9 => ∃ b : Bool, s106 = .bool b ∧ Hid (ES w S Q l L (.slice A n c) (some M) w9))
                      case first =>
                        obtain ⟨_, _, x, hx⟩ := HE8.out.ev _ rfl
                        obtain ⟨x4, hx4⟩ : ∃ x4, w8.cell? ⟨M, 4, none⟩ = some (.string x4) := ⟨_, hx.at.2.2.2.2.1⟩
                        clear hx
                        refine wp_region_held_drew (S := (fun w' => ES w S Q l L (.slice A n c) (some M) w' ∧ w'.cell? ⟨M, 4, none⟩ = some (.string x4))) (by kernel_rfl) ⟨(HE8.out.over (below_drew _)), (cell_over (below_drew _) hx4)⟩ (fun hHeld => ?_)
                        refine wpAnyH_keep hHeld (fun Wd0 hd0 => ?_)
                        clear hHeld
                        refine tk 0 102 (v := ?_) hd0 ?_ ?_
                        rotate_left
                        · intro w hSw; (try dsimp only at hSw); go_simp; all_goals with_reducible rfl
                        simp only [List.setIfInBounds_toArray, List.set_cons_zero, List.set_cons_succ]
                        refine tk 2 104 (v := ?_) hd0 ?_ ?_
                        rotate_left
                        · intro w hSw; (try dsimp only at hSw); go_simp; all_goals with_reducible rfl
                        simp only [List.setIfInBounds_toArray, List.set_cons_zero, List.set_cons_succ]
                        refine tk 3 105 (v := ?_) hd0 ?_ ?_
                        rotate_left
                        · intro w hSw; (try dsimp only at hSw); go_simp; all_goals with_reducible rfl
                        simp only [List.setIfInBounds_toArray, List.set_cons_zero, List.set_cons_succ]
                        refine wpAnyH_ready (rs := [1]) (by kernel_rfl) (by simp) ?_
                        refine AllReadyH.consL rfl (fun K hK => ?_) ?_
                        ·go_simp
                         refine (id_es _ hk0 (hd0.1)).mono ?_
                         rintro e w' ⟨s7, rfl, hE, hb⟩
                         (try go_wp2_with fail)
                         refine hK.out _ _ ?_ (fun hHeld => ?_)
                         · exact ⟨((hd0.1).over hb), (cell_over hb (hd0.2))⟩
                         clear hK K
                         refine wpAnyH_keep hHeld (fun Wd4 hd4 => ?_)
                         clear hHeld
                         refine tk 4 106 (v := ?_) hd4 ?_ ?_
                         rotate_left
                         · intro w hSw; (try dsimp only at hSw); go_simp; all_goals with_reducible rfl
                         simp only [List.setIfInBounds_toArray, List.set_cons_zero, List.set_cons_succ]
                         refine wpAnyH_done (by kernel_rfl) ?_ _
                         go_wp2_with fail
                         go_meet
                         exact ⟨_, rfl, Lib.hid (hd4.1)⟩
                        exact AllReadyH.nil
                      case rest =>
                        obtain ⟨b106, rfl, HE9⟩ := hcut
                        clear HE8
                        go_upto_if 106 with (fail)
                        go_cut [11] (fun s11 wd => ∃ k2 : Int, s11 = .int .i64 k2 ∧ 0 ≤ k2 ∧ wd = wc)
                        case first =>
                          rcases b106 <;> go_wp2_with fail
                          · go_meet
                            exact ⟨_, rfl, hk0, rfl⟩
                          · go_meet
                            exact ⟨_, rfl, by omega, rfl⟩
                        case rest =>
                          obtain ⟨k2, rfl, hk20, rfl⟩ := hcut
                          go_wp2_with fail
                          refine (id_es _ hk20 HE9.out).mono ?_
                          rintro e wx ⟨s9, rfl, hex, _⟩
                          obtain ⟨_, _, x, hx⟩ := hex.ev _ rfl
                          obtain ⟨m0, m1, m2, m3, m4, m5, m6, m7, m8, m9⟩ := hx.at
                          have mf := hx.2
                          have HEX := Lib.hid ((hex.setKd 3).setOt s9)
                          clear hx hex HE9
                          go_wp2_with fail
                          go_meet
                          exact HEX
                    · have b3 : (r8 == 3) = false := by simp; omega
                      clear h3 h012 hr80 hr81
                      go_upto_region 14 with (fail)
                      refine wp_region_held_drew (S := (fun w' => ES w S Q l L (.slice A n c) (some M) w')) (by kernel_rfl) (HE7.out.over (below_drew _)) (fun hHeld => ?_)
                      refine wpAnyH_keep hHeld (fun Wc0 hc0 => ?_)
                      clear hHeld
                      refine tk 1 60 (v := ?_) hc0 ?_ ?_
                      rotate_left
                      · intro w hSw; (try dsimp only at hSw); go_simp; all_goals with_reducible rfl
                      simp only [List.setIfInBounds_toArray, List.set_cons_zero, List.set_cons_succ]
                      refine tk 6 65 (v := ?_) hc0 ?_ ?_
                      rotate_left
                      · intro w hSw; (try dsimp only at hSw); go_simp; all_goals with_reducible rfl
                      simp only [List.setIfInBounds_toArray, List.set_cons_zero, List.set_cons_succ]
                      refine tk 9 68 (v := ?_) hc0 ?_ ?_
                      rotate_left
                      · intro w hSw; (try dsimp only at hSw); go_simp; all_goals with_reducible rfl
                      simp only [List.setIfInBounds_toArray, List.set_cons_zero, List.set_cons_succ]
                      refine wpAnyH_ready (rs := [0]) (by kernel_rfl) (by simp) ?_
                      refine AllReadyH.consL rfl (fun K hK => ?_) ?_
                      ·go_simp
                       refine (names_es (hc0)).mono ?_
                       rintro e w' ⟨N, rfl, hE, hb, hN, e0, e1⟩
                       have hML := (hc0).lt
                       have hMN : M < N := Nat.lt_of_lt_of_le hML hN
                       have hQN := Nat.lt_of_lt_of_le (hc0).hQ hN
                       (try go_wp2_with fail)
                       refine hK.out _ _ ?_ (fun hHeld => ?_)
                       · exact ((hc0).over hb)
                       clear hK K
                       refine wpAnyH_go (fun w' => ES w S Q l L (.slice A n c) (some M) w' ∧ w'.cell? ⟨N, 0, none⟩ = some (.string sBuy) ∧ w'.cell? ⟨N, 1, none⟩ = some (.string sVisit)) (fun _ h => h.1) ⟨hHeld, e0, e1⟩ (fun Wc4 hc4 => ?_)
                       clear hHeld
                       refine wpAnyH_ready (rs := [2]) (by kernel_rfl) (by simp) ?_
                       refine AllReadyH.consL rfl (fun K hK => ?_) ?_
                       ·go_simp
                        refine (next_es 3 HL (by omega) (hc4.1)).mono ?_
                        rintro e w' ⟨ra, rfl, ra0, ra1, hE, hk⟩
                        have hye : IntKind.i64.wrap (Int.tdiv ra 2) = ra / 2 := by rw [Int.tdiv_eq_ediv_of_nonneg ra0]; exact IntWalk.i64_in _ (by omega)
                        have hy0 : 0 ≤ ra / 2 := by omega
                        have hy1 : ra / 2 < 2 := by omega
                        have hyd0 : decide (0 ≤ ra / 2) = true := decide_eq_true hy0
                        have hyd2 : decide (ra / 2 < 2) = true := decide_eq_true hy1
                        have hyd4 : decide (ra / 2 < 4) = true := decide_eq_true (by omega)
                        have hy4 : ra / 2 < 4 := by omega
                        have hcell : w'.cell? ⟨N, (ra / 2).toNat, none⟩ = some (.string (if ra / 2 = 0 then sBuy else sVisit)) := by
                          have g0 := cell_next hk (by omega) (hc4.2.1)
                          have g1 := cell_next hk (by omega) (hc4.2.2)
                          rcases (show ra / 2 = 0 ∨ ra / 2 = 1 by omega) with e | e <;> rw [e]
                          · exact g0
                          · exact g1
                        obtain ⟨y, hy⟩ : ∃ y, (if ra / 2 = 0 then sBuy else sVisit) = y := ⟨_, rfl⟩
                        rw [hy] at hcell
                        clear hy
                        (try go_wp2_with fail)
                        refine hK.out _ _ ?_ (fun hHeld => ?_)
                        · exact ⟨((hc4.1).keep (hE).src hk), (cell_next hk (by omega) (hc4.2.1)), (cell_next hk (by omega) (hc4.2.2))⟩
                        clear hK K
                        refine wpAnyH_go (fun w' => ES w S Q l L (.slice A n c) (some M) w' ∧ w'.cell? ⟨N, 0, none⟩ = some (.string sBuy) ∧ w'.cell? ⟨N, 1, none⟩ = some (.string sVisit) ∧ w'.cell? ⟨N, (ra / 2).toNat, none⟩ = some (.string y)) (fun _ h => ⟨h.1, h.2.1, h.2.2.1⟩) ⟨hHeld.1, hHeld.2.1, hHeld.2.2, hcell⟩ (fun Wc5 hc5 => ?_)
                        clear hHeld
                        refine tk 3 62 (v := ?_) hc5 ?_ ?_
                        rotate_left
                        · intro w hSw; (try dsimp only at hSw); go_simp; all_goals with_reducible rfl
                        simp only [List.setIfInBounds_toArray, List.set_cons_zero, List.set_cons_succ]
                        refine tk 4 63 (v := ?_) hc5 ?_ ?_
                        rotate_left
                        · intro w hSw; (try dsimp only at hSw); go_simp; all_goals with_reducible rfl
                        simp only [List.setIfInBounds_toArray, List.set_cons_zero, List.set_cons_succ]
                        refine tk 5 64 (v := ?_) hc5 ?_ ?_
                        rotate_left
                        · intro w hSw; (try dsimp only at hSw); go_simp; all_goals with_reducible rfl
                        simp only [List.setIfInBounds_toArray, List.set_cons_zero, List.set_cons_succ]
                        refine wpAnyH_ready (rs := [7]) (by kernel_rfl) (by simp) ?_
                        refine AllReadyH.consL rfl (fun K hK => ?_) ?_
                        ·go_simp
                         refine (next_es 40 HL (by omega) (hc5.1)).mono ?_
                         rintro e w' ⟨rb, rfl, rb0, rb1, hE, hk⟩
                         (try go_wp2_with fail)
                         refine hK.out _ _ ?_ (fun hHeld => ?_)
                         · exact ⟨((hc5.1).keep (hE).src hk), (cell_next hk (by omega) (hc5.2.1)), (cell_next hk (by omega) (hc5.2.2.1)), (cell_next hk (by omega) (hc5.2.2.2))⟩
                         clear hK K
                         refine wpAnyH_keep hHeld (fun Wc9 hc9 => ?_)
                         clear hHeld
                         refine tk 8 67 (v := ?_) hc9 ?_ ?_
                         rotate_left
                         · intro w hSw; (try dsimp only at hSw); go_simp; all_goals with_reducible rfl
                         simp only [List.setIfInBounds_toArray, List.set_cons_zero, List.set_cons_succ]
                         refine wpAnyH_ready (rs := [10]) (by kernel_rfl) (by simp) ?_
                         refine AllReadyH.consL rfl (fun K hK => ?_) ?_
                         ·obtain ⟨_, _, x, hx⟩ := (hc9.1).ev _ rfl
                          obtain ⟨m0, m1, m2, m3, m4, m5, m6, m7, m8, m9⟩ := hx.at
                          have mf := hx.2
                          clear hx
                          go_simp
                          refine hK.out _ _ ?_ (fun hHeld => ?_)
                          · exact ⟨((hc9.1).setKd _), (cell_far (by omega) (hc9.2.1)), (cell_far (by omega) (hc9.2.2.1)), (cell_far (by omega) (hc9.2.2.2))⟩
                          clear hK K
                          refine wpAnyH_keep hHeld (fun Wc11 hc11 => ?_)
                          clear hHeld
                          refine tk 11 69 (v := ?_) hc11 ?_ ?_
                          rotate_left
                          · intro w hSw; (try dsimp only at hSw); go_simp; all_goals with_reducible rfl
                          simp only [List.setIfInBounds_toArray, List.set_cons_zero, List.set_cons_succ]
                          refine wpAnyH_ready (rs := [12]) (by kernel_rfl) (by simp) ?_
                          refine AllReadyH.consL rfl (fun K hK => ?_) ?_
                          ·obtain ⟨_, _, x, hx⟩ := (hc11.1).ev _ rfl
                           obtain ⟨m0, m1, m2, m3, m4, m5, m6, m7, m8, m9⟩ := hx.at
                           have mf := hx.2
                           clear hx
                           go_simp
                           refine hK.out _ _ ?_ (fun hHeld => ?_)
                           · exact ⟨((hc11.1).setNm _), (cell_far (by omega) (hc11.2.1)), (cell_far (by omega) (hc11.2.2.1)), (cell_far (by omega) (hc11.2.2.2))⟩
                           clear hK K
                           refine wpAnyH_keep hHeld (fun Wc13 hc13 => ?_)
                           clear hHeld
                           refine tk 13 70 (v := ?_) hc13 ?_ ?_
                           rotate_left
                           · intro w hSw; (try dsimp only at hSw); go_simp; all_goals with_reducible rfl
                           simp only [List.setIfInBounds_toArray, List.set_cons_zero, List.set_cons_succ]
                           refine wpAnyH_ready (rs := [14]) (by kernel_rfl) (by simp) ?_
                           refine AllReadyH.consL rfl (fun K hK => ?_) ?_
                           ·obtain ⟨_, _, x, hx⟩ := (hc13.1).ev _ rfl
                            obtain ⟨m0, m1, m2, m3, m4, m5, m6, m7, m8, m9⟩ := hx.at
                            have mf := hx.2
                            clear hx
                            go_simp
                            refine hK.out _ _ ?_ (fun hHeld => ?_)
                            · exact ⟨((hc13.1).setVa _), (cell_far (by omega) (hc13.2.1)), (cell_far (by omega) (hc13.2.2.1)), (cell_far (by omega) (hc13.2.2.2))⟩
                            clear hK K
                            refine wpAnyH_keep hHeld (fun Wc15 hc15 => ?_)
                            clear hHeld
                            refine wpAnyH_done (by kernel_rfl) ?_ _
                            go_wp2_with fail
                            go_meet
                            exact Lib.hid (hc15.1)
                           exact AllReadyH.nil
                          exact AllReadyH.nil
                         exact AllReadyH.nil
                        exact AllReadyH.nil
                       exact AllReadyH.nil
                      exact AllReadyH.nil
                case rest =>
                  clear HE7
                  obtain ⟨_, hMv, x, hx⟩ := hcut.out.ev _ rfl
                  obtain ⟨m0, m1, m2, m3, m4, m5, m6, m7, m8, m9⟩ := hx.at
                  have HE10 := Lib.hid hcut.out.drop
                  clear hcut hx
                  obtain ⟨i0, hi, hz0, hz1, hz2⟩ := info_parts info40
                  go_wp2_with (at_builtin; refine wpList_append_own _ rfl _ _ 38 rfl (Q + 1) 40 i0 Ev.zero.val 10 112 Tryd.underlying38 hi hz0 hz1 hz2 rfl (by decide) _ _ _ rfl (HE10.out.out.alloc _) ⟨wc.heap.size, 0, none⟩ 1 1 x.cells rfl ?c1 ?c2 ?c3 ?c4 ?c5 ?c6 ?_)
                  case c1 => rfl
                  case c2 =>
                    intro j u hj
                    rw [Addr.add_lit]
                    have := row_new wc x 40 0 x rfl j u hj
                    simpa using this
                  case c3 => exact x.cells_one
                  case c4 => have := HN.out; unfold maxLen; omega
                  case c5 => have := HN.out; omega
                  case c6 => have := HE10.out.hQ; simp; omega
                  intro v' w10 hown hgrow hnil
                  have HE11 := Lib.hid (ES.push (HE10.out.over (below_alloc wc _)) x hgrow hown)
                  obtain ⟨A', c', hv'⟩ := HE11.out.slice
                  rw [hv'] at HE11
                  rw [show (L ++ [x]).length = n + 1 by rw [List.length_append, HN.out]; rfl] at hv' HE11
                  subst hv'
                  clear hown hgrow hnil HE10
                  go_wp2_with fail
                  go_roundg (60 - (n + 1))
                  case measure => omega
                  case rel =>
                    have hl2 : (L ++ [x]).length = n + 1 := by rw [List.length_append, HN.out]; rfl
                    exact ⟨L ++ [x], A', c', t2, la2, by rw [hl2], rfl, rfl, by omega, by omega, by rw [hl2]; exact HE11⟩
      · have h60z : decide ((n : Int) < 60) = false := decide_eq_false (by omega)
        go_wp2_with fail
        go_ret
        exact ⟨_, L, _, rfl, OwnEvs.of_row HE2.out.out, by rw [HN.out]; exact hL, HE2.out.below⟩
end Go.Proofs.YtbiolondnkeakaaDoor
