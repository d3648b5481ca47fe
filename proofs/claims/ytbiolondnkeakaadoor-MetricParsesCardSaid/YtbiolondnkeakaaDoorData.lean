/- The walks of flagstonedata's functions that make metrics. -/
import Derived.Test.YtbiolondnkeakaaDoorMet
import Derived.Test.YtbiolondnkeakaaDoorPTx8
import Derived.Deep.RegionWith
import Derived.Deep.DrawnRows
import Derived.Deep.DeepCutAuto
import Derived.IntWalk
namespace Go.Proofs.YtbiolondnkeakaaDoor
open Go.RowKit Go.Proofs.YtbiolondnkeakaaDoor.PT Go.Proofs.YtbiolondnkeakaaDoorW.PrintWords Go.Proofs.YtbiolondnkeakaaDoorW.PrintLast Go.Proofs.YtbiolondnkeakaaDoorW.PrintMore Plain

/-- The numbers of a list, as bytes. -/
def Bytes (l : List Int) : Prop := ∀ x ∈ l, 0 ≤ x ∧ x ≤ 255
/-- What a source gives, and where it then stands. -/
def nxV (l : List Int) (k : Nat) (n : Int) : Int := match l[k]? with | some x => x % n | none => 0
def nxA (l : List Int) (k : Nat) : Nat := if k < l.length then k + 1 else k
theorem nxV_range (l : List Int) (k : Nat) {n : Int} (hn : 0 < n) : 0 ≤ nxV l k n ∧ nxV l k n < n := by
  unfold nxV
  split
  · exact ⟨Int.emod_nonneg _ (by omega), Int.emod_lt_of_pos _ hn⟩
  · omega
theorem nxA_le {l : List Int} {k : Nat} (h : k ≤ l.length) : nxA l k ≤ l.length := by unfold nxA; split <;> omega
theorem next_f {l : List Int} (h : Bytes l) (k : Nat) (hk : k ≤ l.length) (hl : l.length ≤ 4611686018427387904) (n : Int) (hn : 0 < n) : flagstonedata_Source_Next.f l (k : Int) n = some (nxV l k n, ((nxA l k : Nat) : Int)) := by
  unfold flagstonedata_Source_Next.f
  by_cases hlt : k < l.length
  · have e1 : wrap64 ((k : Int) + 1) = ((k + 1 : Nat) : Int) := by unfold wrap64; omega
    have e2 : wrap64 (((k + 1 : Nat) : Int) - 1) = (k : Int) := by unfold wrap64; omega
    rw [if_neg (by omega), e1, e2, if_pos (by omega), if_pos (by omega), if_neg (by omega)]
    have hx : l[k]? = some l[k] := List.getElem?_eq_getElem hlt
    have hr : rd l (k : Int) = l[k] := by unfold rd; simp [hlt]
    have hb := h l[k] (List.getElem_mem hlt)
    rw [hr, show wrap64 l[k] = l[k] by unfold wrap64; omega]
    have e3 : nxV l k n = l[k] % n := by unfold nxV; rw [hx]
    have e4 : nxA l k = k + 1 := if_pos hlt
    rw [e3, e4, Int.tmod_eq_emod_of_nonneg hb.1]
  · rw [if_pos (by omega)]
    have e3 : nxV l k n = 0 := by unfold nxV; rw [List.getElem?_eq_none (by omega)]
    have e4 : nxA l k = k := if_neg hlt
    rw [e3, e4]

def SrcAt (w0 : World) (S : Nat) (l : List Int) (k : Nat) (W : World) : Prop := IsS56 w0 W S l (k : Int) ∧ Below w0.heap.size w0 W
theorem next_in {w0 W : World} {S : Nat} {l : List Int} {k : Nat} (n : Int) (hl : Bytes l ∧ l.length ≤ 4611686018427387904) (hn : 0 < n) (hk : k ≤ l.length) (h : SrcAt w0 S l k W) :
    Calls Tryd.prog 27 #[.pointer (some ⟨S, 0, none⟩), .int .i64 n] W fun e w' => e = .returned (.int .i64 (nxV l k n)) ∧ SrcAt w0 S l (nxA l k) w' ∧ KeepBut W w' S none := by
  refine (flagstonedata_Source_Next.calls S l (k : Int) n _ _ w0 W h.1 h.2 (next_f hl.1 k hk hl.2 n hn)).mono ?_
  rintro e w' ⟨rfl, h1, h2, h3⟩
  exact ⟨rfl, ⟨h1, h2⟩, h3⟩

def sBuy : ByteArray := ⟨#[98, 117, 121]⟩
def sVisit : ByteArray := ⟨#[118, 105, 115, 105, 116]⟩
/-- flagstonedata.Names. -/
theorem names_in (W : World) : Calls Tryd.prog 16 #[] W fun e w' => e = .returned (.slice (some ⟨W.heap.size, 0, none⟩) 2 2) ∧ w' = W.alloc (.cells #[.string sBuy, .string sVisit] 9) := by
  go_enter Tryd.func16, Tryd.ntmps16
  go_wp2
  go_ret
  exact ⟨rfl, rfl⟩

def nameOf (x : Int) : ByteArray := if x = 0 then sBuy else sVisit
/-- The state of the making: the source, the result's block, the names' row (where it has been made), the metric (where it has been made). -/
structure FS (w0 : World) (R S : Nat) (l : List Int) (k : Nat) (No Mo : Option Nat) (W : World) : Prop where
  src : SrcAt w0 S l k W
  res : IsM R .zero W
  hR : w0.heap.size ≤ R
  hS : R < S
  hs : S < W.heap.size
  row : ∀ N, No = some N → W.cell? ⟨N, (nxV l (nxA l 0) 2).toNat, none⟩ = some (.string (nameOf (nxV l (nxA l 0) 2))) ∧ N < W.heap.size ∧ S < N
  mz : ∀ M, Mo = some M → IsM M .zero W ∧ M < W.heap.size ∧ S < M
theorem keep_cell {W w' : World} {S B : Nat} (h : KeepBut W w' S none) (hB : B < W.heap.size) (hne : B ≠ S) (i : Nat) : w'.cell? ⟨B, i, none⟩ = W.cell? ⟨B, i, none⟩ := World.cell?_of_block (w := W) (h.2 B hB hne (by simp))
theorem keep_frozen {W w' : World} {S B : Nat} (h : KeepBut W w' S none) (hB : B < W.heap.size) (hne : B ≠ S) (i : Nat) : w'.frozen? ⟨B, i, none⟩ = W.frozen? ⟨B, i, none⟩ := World.frozen?_of_block (w := W) (h.2 B hB hne (by simp))
theorem IsM.keep {M S : Nat} {m : Met} {W w' : World} (h : IsM M m W) (hk : KeepBut W w' S none) (hB : M < W.heap.size) (hne : M ≠ S) : IsM M m w' := by
  have c := keep_cell hk hB hne
  have f := keep_frozen hk hB hne
  exact ⟨(c 0).trans h.c0, (c 1).trans h.c1, (c 2).trans h.c2, (c 3).trans h.c3, (c 4).trans h.c4, (c 5).trans h.c5, (c 6).trans h.c6, fun i => (f i).trans (h.fr i)⟩
theorem FS.keep {w0 W w' : World} {R S : Nat} {l : List Int} {k k' : Nat} {No Mo : Option Nat} (h : FS w0 R S l k No Mo W) (hs : SrcAt w0 S l k' w') (hk : KeepBut W w' S none) : FS w0 R S l k' No Mo w' := by
  have h1 := h.hR
  have h2 := h.hS
  have h3 := h.hs
  refine ⟨hs, h.res.keep hk (by omega) (by omega), h1, h2, Nat.lt_of_lt_of_le h3 hk.1, fun N hN => ?_, fun M hM => ?_⟩
  · obtain ⟨r0, r2, r3⟩ := h.row N hN
    exact ⟨(keep_cell hk r2 (by omega) _).trans r0, Nat.lt_of_lt_of_le r2 hk.1, r3⟩
  · obtain ⟨r0, r1, r2⟩ := h.mz M hM
    exact ⟨r0.keep hk r1 (by omega), Nat.lt_of_lt_of_le r1 hk.1, r2⟩
theorem FS.over {w0 W w' : World} {R S : Nat} {l : List Int} {k : Nat} {No Mo : Option Nat} (h : FS w0 R S l k No Mo W) (hs : SrcAt w0 S l k w') (hb : Below W.heap.size W w') : FS w0 R S l k No Mo w' := h.keep hs (KeepBut.of_below hb S none)
theorem SrcAt.alloc {w0 W : World} {S : Nat} {l : List Int} {k : Nat} (h : SrcAt w0 S l k W) (o : Obj) : SrcAt w0 S l k (W.alloc o) := ⟨IsS56.alloc h.1 o, h.2.alloc h.2.size o⟩
theorem FS.alloc {w0 W : World} {R S : Nat} {l : List Int} {k : Nat} {No : Option Nat} (h : FS w0 R S l k No none W) : FS w0 R S l k No (some W.heap.size) (W.alloc (.cells #[.int .i64 0, .string ⟨#[]⟩, .string ⟨#[]⟩, .int .i64 0, .int .i64 0, .int .i64 0, .int .i64 0] 29)) := by
  have h' := h.over (h.src.alloc (.cells #[.int .i64 0, .string ⟨#[]⟩, .string ⟨#[]⟩, .int .i64 0, .int .i64 0, .int .i64 0, .int .i64 0] 29)) ((Below.refl _ _).alloc (Nat.le_refl _) _)
  exact ⟨h'.src, h'.res, h'.hR, h'.hS, h'.hs, h'.row, fun M hM => by
    cases hM
    exact ⟨⟨by simp [Met.zero], by simp [Met.zero], by simp [Met.zero], by simp [Met.zero], by simp [Met.zero], by simp [Met.zero], by simp [Met.zero], fun i => by simp⟩, by simp, h.hs⟩⟩
theorem next_fs {w0 W : World} {R S : Nat} {l : List Int} {k : Nat} {No Mo : Option Nat} (n : Int) (hl : Hid (Bytes l ∧ l.length ≤ 4611686018427387904)) (hn : 0 < n) (hk : k ≤ l.length) (h : FS w0 R S l k No Mo W) :
    Calls Tryd.prog 27 #[.pointer (some ⟨S, 0, none⟩), .int .i64 n] W fun e w' => e = .returned (.int .i64 (nxV l k n)) ∧ FS w0 R S l (nxA l k) No Mo w' ∧ nxA l k ≤ l.length := by
  refine (next_in n hl.out hn hk h.src).mono ?_
  rintro e w' ⟨rfl, h1, h2⟩
  exact ⟨rfl, h.keep h1 h2, nxA_le hk⟩
theorem names_fs {w0 W : World} {R S : Nat} {l : List Int} {k : Nat} {No Mo : Option Nat} (h : FS w0 R S l k No Mo W) :
    Calls Tryd.prog 16 #[] W fun e w' => ∃ N, e = .returned (.slice (some ⟨N, 0, none⟩) 2 2) ∧ FS w0 R S l k (some N) Mo w' := by
  refine (names_in W).mono ?_
  rintro e w' ⟨rfl, rfl⟩
  have h' := h.over (h.src.alloc (.cells #[.string sBuy, .string sVisit] 9)) ((Below.refl _ _).alloc (Nat.le_refl _) _)
  exact ⟨_, rfl, h'.src, h'.res, h'.hR, h'.hS, h'.hs, fun N hN => by
    cases hN
    refine ⟨?_, by simp, h.hs⟩
    have hx : nxV l (nxA l 0) 2 = 0 ∨ nxV l (nxA l 0) 2 = 1 := by have := nxV_range l (nxA l 0) (n := 2) (by omega); omega
    rcases hx with e | e <;> (rw [e]; simp [nameOf]), h'.mz⟩

def dK (l : List Int) : Int := 1 + nxV l 0 4
def dN (l : List Int) : ByteArray := nameOf (nxV l (nxA l 0) 2)
def d2 (l : List Int) : Nat := nxA l (nxA l 0)
def dW (l : List Int) : Int := 1 + nxV l (d2 l) 30
def d3 (l : List Int) : Nat := nxA l (d2 l)
def dC (l : List Int) : Int := 1 + nxV l (d3 l) 50
def d4 (l : List Int) : Nat := nxA l (d3 l)
def dCa (l : List Int) : Int := if dK l = 3 then 1 else dC l
def dB (l : List Int) : ByteArray := if dK l = 4 then nameOf (nxV l (d4 l) 2) else ⟨#[]⟩
def d5 (l : List Int) : Nat := if dK l = 4 then nxA l (d4 l) else d4 l
def d6 (l : List Int) : Nat := nxA l (d5 l)
def dL (l : List Int) : Int := if nxV l (d5 l) 3 = 0 then nxV l (d6 l) 10 - 3 else -1099511627776
def d7 (l : List Int) : Nat := if nxV l (d5 l) 3 = 0 then nxA l (d6 l) else d6 l
def d8 (l : List Int) : Nat := nxA l (d7 l)
def dE (l : List Int) : Int := if nxV l (d7 l) 2 = 0 then nxV l (d8 l) 20 else 0
/-- flagstonedata.Metric. -/
def metD (l : List Int) : Met := ⟨dK l, dN l, dB l, dW l, dCa l, dL l, dE l⟩

/-- The state behind the literal. -/
structure MS (w0 : World) (R S M : Nat) (l : List Int) (k : Nat) (m : Met) (W : World) : Prop where
  src : SrcAt w0 S l k W
  res : IsM R .zero W
  met : IsM M m W
  hR : w0.heap.size ≤ R
  hS : R < S
  hM : S < M
  hs : M < W.heap.size
  hk : k ≤ l.length
theorem MS.keep {w0 W w' : World} {R S M : Nat} {l : List Int} {k k' : Nat} {m : Met} (h : MS w0 R S M l k m W) (hs : SrcAt w0 S l k' w') (hk : KeepBut W w' S none) (hk' : k' ≤ l.length) : MS w0 R S M l k' m w' := by
  have h1 := h.hR
  have h2 := h.hS
  have h3 := h.hM
  have h4 := h.hs
  exact ⟨hs, h.res.keep hk (by omega) (by omega), h.met.keep hk h4 (by omega), h1, h2, h3, Nat.lt_of_lt_of_le h4 hk.1, hk'⟩
theorem SrcAt.set {w0 W : World} {S : Nat} {l : List Int} {k : Nat} (h : SrcAt w0 S l k W) (B i : Nat) (v : Value) (hne : S ≠ B) (hB : w0.heap.size ≤ B) : SrcAt w0 S l k (W.setCell ⟨B, i, none⟩ v) := ⟨h.1.far hne v, h.2.setCell hB v⟩
theorem MS.store {w0 W : World} {R S M : Nat} {l : List Int} {k : Nat} {m m' : Met} (h : MS w0 R S M l k m W) (i : Nat) (v : Value) (hm : IsM M m' (W.setCell ⟨M, i, none⟩ v)) : MS w0 R S M l k m' (W.setCell ⟨M, i, none⟩ v) := by
  have h1 := h.hR
  have h2 := h.hS
  have h3 := h.hM
  have h4 := h.hs
  exact ⟨h.src.set M i v (by omega) (by omega), h.res.grown (gb_set W M i v) (by omega) (by omega), hm, h1, h2, h3, by simpa [World.setCell] using h4, h.hk⟩
theorem next_ms {w0 W : World} {R S M : Nat} {l : List Int} {k : Nat} {m : Met} (n : Int) (hl : Hid (Bytes l ∧ l.length ≤ 4611686018427387904)) (hn : 0 < n) (h : MS w0 R S M l k m W) :
    Calls Tryd.prog 27 #[.pointer (some ⟨S, 0, none⟩), .int .i64 n] W fun e w' => e = .returned (.int .i64 (nxV l k n)) ∧ MS w0 R S M l (nxA l k) m w' ∧ KeepBut W w' S none := by
  refine (next_in n hl.out hn h.hk h.src).mono ?_
  rintro e w' ⟨rfl, h1, h2⟩
  exact ⟨rfl, h.keep h1 h2 (nxA_le h.hk), h2⟩
theorem MS.over {w0 W w' : World} {R S M : Nat} {l : List Int} {k : Nat} {m : Met} (h : MS w0 R S M l k m W) (hs : SrcAt w0 S l k w') (hb : Below W.heap.size W w') : MS w0 R S M l k m w' := h.keep hs (KeepBut.of_below hb S none) h.hk
theorem FS.ms_new {w0 W : World} {R S : Nat} {l : List Int} {k : Nat} {No : Option Nat} (h : FS w0 R S l k No none W) (hk : k ≤ l.length) (m : Met) :
    MS w0 R S W.heap.size l k m (W.alloc (.cells #[.int .i64 m.k, .string m.nm, .string m.bl, .int .i64 m.wi, .int .i64 m.ca, .int .i64 m.le, .int .i64 m.be] 29)) :=
  ⟨h.src.alloc _, (h.over (h.src.alloc _) ((Below.refl _ _).alloc (Nat.le_refl _) _)).res, ⟨by simp, by simp, by simp, by simp, by simp, by simp, by simp, fun i => by simp⟩, h.hR, h.hS, h.hs, by simp, hk⟩
theorem FS.ms_set {w0 W : World} {R S M : Nat} {l : List Int} {k : Nat} {No : Option Nat} (h : FS w0 R S l k No (some M) W) (hk : k ≤ l.length) (m : Met) :
    MS w0 R S M l k m (((((((W.setCell ⟨M, 0, none⟩ (.int .i64 m.k)).setCell ⟨M, 1, none⟩ (.string m.nm)).setCell ⟨M, 2, none⟩ (.string m.bl)).setCell ⟨M, 3, none⟩ (.int .i64 m.wi)).setCell ⟨M, 4, none⟩ (.int .i64 m.ca)).setCell ⟨M, 5, none⟩ (.int .i64 m.le)).setCell ⟨M, 6, none⟩ (.int .i64 m.be)) := by
  obtain ⟨h1, h2, h3⟩ := h.mz M rfl
  have hS := h.hS
  have h0 : MS w0 R S M l k .zero W := ⟨h.src, h.res, h1, h.hR, h.hS, h3, h2, hk⟩
  have g1 := h0.store 0 _ (h0.met.setK m.k)
  have g2 := g1.store 1 _ (g1.met.setNm m.nm)
  have g3 := g2.store 2 _ (g2.met.setBl m.bl)
  have g4 := g3.store 3 _ (g3.met.setWi m.wi)
  have g5 := g4.store 4 _ (g4.met.setCa m.ca)
  have g6 := g5.store 5 _ (g5.met.setLe m.le)
  exact g6.store 6 _ (g6.met.setBe m.be)

theorem names_ms {w0 W : World} {R S M : Nat} {l : List Int} {k : Nat} {m : Met} (h : MS w0 R S M l k m W) :
    Calls Tryd.prog 16 #[] W fun e w' => ∃ N, e = .returned (.slice (some ⟨N, 0, none⟩) 2 2) ∧ MS w0 R S M l k m w' ∧ N < w'.heap.size ∧ N ≠ S ∧ ∀ x : Int, 0 ≤ x → x < 2 → w'.cell? ⟨N, x.toNat, none⟩ = some (.string (nameOf x)) := by
  refine (names_in W).mono ?_
  rintro e w' ⟨rfl, rfl⟩
  have h1 := h.hM
  have h2 := h.hs
  refine ⟨_, rfl, h.over (h.src.alloc _) ((Below.refl _ _).alloc (Nat.le_refl _) _), by simp, by omega, fun x h0 h1 => ?_⟩
  have hx : x = 0 ∨ x = 1 := by omega
  rcases hx with rfl | rfl <;> simp [nameOf]

attribute [local go_sem ↓] Go.wp_at_zero Go.wp_at_succ
set_option maxRecDepth 100000 in
set_option maxHeartbeats 4000000 in
theorem data_metric (A0 : Option Addr) (c0 : Nat) (l : List Int) (w : World) (hr : Kd.C (Kd.int .u8) w A0 l.length l) (hl : Bytes l ∧ l.length ≤ 4611686018427387904) :
    Calls Tryd.prog 11 #[.slice A0 l.length c0] w fun e w' => e = .returned (metD l).val ∧ Below w.heap.size w w' := by
  have HL := Lib.hid hl
  have HR := Lib.hid hr
  clear hr hl
  go_enter Tryd.func11, Tryd.ntmps11
  go_upto_region 2 with (fail)
  obtain ⟨W, hW, hfs⟩ : ∃ W, (w.alloc (.cells #[.int .i64 0, .string ⟨#[]⟩, .string ⟨#[]⟩, .int .i64 0, .int .i64 0, .int .i64 0, .int .i64 0] 29)).alloc (.cells #[.slice A0 l.length c0, .int .i64 0] 56) = W ∧ FS w w.heap.size (w.heap.size + 1) l 0 none none W := by
    have hb : Below w.heap.size w (w.alloc (.cells #[.int .i64 0, .string ⟨#[]⟩, .string ⟨#[]⟩, .int .i64 0, .int .i64 0, .int .i64 0, .int .i64 0] 29)) := (Below.refl _ _).alloc (Nat.le_refl _) _
    have hi := IsS56.new w (w.alloc (.cells #[.int .i64 0, .string ⟨#[]⟩, .string ⟨#[]⟩, .int .i64 0, .int .i64 0, .int .i64 0, .int .i64 0] 29)) A0 c0 l 0 hb HR.out
    rw [World.size_alloc] at hi
    exact ⟨_, rfl, ⟨hi, hb.alloc hb.size _⟩, ⟨by simp [Met.zero], by simp [Met.zero], by simp [Met.zero], by simp [Met.zero], by simp [Met.zero], by simp [Met.zero], by simp [Met.zero], fun i => by simp⟩, Nat.le_refl _, by omega, by simp, (fun _ h => by cases h), (fun _ h => by cases h)⟩
  rw [hW]
  clear hW HR
  obtain ⟨R, hR⟩ : ∃ R, w.heap.size = R := ⟨_, rfl⟩
  rw [hR] at hfs ⊢
  obtain ⟨S, hS⟩ : ∃ S, R + 1 = S := ⟨_, rfl⟩
  rw [hS] at hfs ⊢
  have HRS := Lib.hid (And.intro hR hS)
  clear hR hS
  have hfsd : FS w R S l 0 none none W.drew := hfs.over ⟨IsS56.drew hfs.src.1, hfs.src.2.drew⟩ (Below.refl _ _).drew
  have hfsm : FS w R S l 0 none (some W.heap.size) (W.alloc (.cells #[.int .i64 0, .string ⟨#[]⟩, .string ⟨#[]⟩, .int .i64 0, .int .i64 0, .int .i64 0, .int .i64 0] 29)).drew := hfsd.alloc
  have hk : (0 : Nat) ≤ l.length := Nat.zero_le _
  clear hfs
  obtain ⟨hx0, hx2⟩ := nxV_range l (nxA l 0) (n := 2) (by omega)
  have hx0d : decide ((0 : Int) ≤ nxV l (nxA l 0) 2) = true := decide_eq_true hx0
  have hx2d : decide (nxV l (nxA l 0) 2 < 2) = true := decide_eq_true hx2
  go_cut [4] (fun s4 wc => ∃ M, s4 = .pointer (some ⟨M, 0, none⟩) ∧ MS w R S M l (nxA l (nxA l (nxA l (nxA l 0)))) ⟨1 + nxV l 0 4, nameOf (nxV l (nxA l 0) 2), ⟨#[]⟩, 1 + nxV l (nxA l (nxA l 0)) 30, 1 + nxV l (nxA l (nxA l (nxA l 0))) 50, -1099511627776, 0⟩ wc)
  case first =>
    have hw1 : IntKind.i64.wrap (1 + nxV l 0 4) = 1 + nxV l 0 4 := IntWalk.i64_in _ (by have := nxV_range l 0 (n := 4) (by omega); omega)
    have hw2 : IntKind.i64.wrap (1 + nxV l (nxA l (nxA l 0)) 30) = 1 + nxV l (nxA l (nxA l 0)) 30 := IntWalk.i64_in _ (by have := nxV_range l (nxA l (nxA l 0)) (n := 30) (by omega); omega)
    have hw3 : IntKind.i64.wrap (1 + nxV l (nxA l (nxA l (nxA l 0))) 50) = 1 + nxV l (nxA l (nxA l (nxA l 0))) 50 := IntWalk.i64_in _ (by have := nxV_range l (nxA l (nxA l (nxA l 0))) (n := 50) (by omega); omega)
    go_region_with (first | (go_at_call 27; refine (next_fs _ HL (by omega) (by assumption) (by first | assumption | exact FS.alloc (by assumption))).mono ?_; (try clear hfs); (try clear r0 r1 r2); (try clear m0 m1 m2 m3 m4 m5 m6 mf m7 m8); rintro e w' ⟨rfl, hfs, hk⟩; (try (obtain ⟨r0, r1, r2⟩ := hfs.row _ rfl)); (try (obtain ⟨⟨m0, m1, m2, m3, m4, m5, m6, mf⟩, m7, m8⟩ := hfs.mz _ rfl))) | (go_at_call 16; refine (names_fs (by first | assumption | exact FS.alloc (by assumption))).mono ?_; (try clear hfs); (try clear m0 m1 m2 m3 m4 m5 m6 mf m7 m8); rintro e w' ⟨N, rfl, hfs⟩; (try (obtain ⟨r0, r1, r2⟩ := hfs.row _ rfl)); (try (obtain ⟨⟨m0, m1, m2, m3, m4, m5, m6, mf⟩, m7, m8⟩ := hfs.mz _ rfl))))
    all_goals
      go_wp2_with fail
      go_meet
      refine ⟨_, rfl, ?_⟩
      first | (with_reducible refine FS.ms_new (No := some N) ?_ ?_ _ <;> with_reducible assumption) | (with_reducible refine FS.ms_set (No := some N) ?_ ?_ _ <;> with_reducible assumption)
  case rest =>
    obtain ⟨M, rfl, hms⟩ := hcut
    change MS w R S M l (d4 l) ⟨dK l, dN l, ⟨#[]⟩, dW l, dC l, -1099511627776, 0⟩ _ at hms
    have HMS := Lib.hid hms
    have c0 := hms.met.c0
    clear hms hfsd hfsm hx0 hx2 hx0d hx2d hk
    go_upto_if 25 with (fail)
    go_cut [] (fun wc => MS w R S M l (d4 l) ⟨dK l, dN l, ⟨#[]⟩, dW l, dCa l, -1099511627776, 0⟩ wc)
    case first =>
      have c4 := HMS.out.met.c4
      have f4 := HMS.out.met.fr 4
      by_cases h3 : dK l = 3
      · have hb : (dK l == 3) = true := by rw [h3]; rfl
        have H3 := Lib.hid h3
        clear h3
        have st := Lib.hid (HMS.out.store 4 _ (HMS.out.met.setCa 1))
        go_wp2_with fail
        go_meet
        have e : dCa l = 1 := if_pos H3.out
        rw [e]
        exact st.out
      · have hb : (dK l == 3) = false := by simp [h3]
        have H3 := Lib.hid h3
        clear h3
        go_wp2_with fail
        go_meet
        have e : dCa l = dC l := if_neg H3.out
        rw [e]
        exact HMS.out
    case rest =>
      clear HMS c0
      have STB := Lib.hid hcut
      have c0 := hcut.met.c0
      clear hcut
      go_upto_if 29 with (fail)
      go_cut [] (fun wc => MS w R S M l (d5 l) ⟨dK l, dN l, dB l, dW l, dCa l, -1099511627776, 0⟩ wc)
      case first =>
        by_cases h4 : dK l = 4
        · have hb : (dK l == 4) = true := by rw [h4]; rfl
          have H4 := Lib.hid h4
          clear h4
          go_wp2_with fail
          refine (names_ms STB.out).mono ?_
          rintro e w1 ⟨N, rfl, st1, hN1, hN2, hrow⟩
          have ST1 := Lib.hid (And.intro st1 (And.intro hN1 (And.intro hN2 hrow)))
          clear st1 hN1 hN2 hrow c0
          go_wp2_with fail
          refine (next_ms 2 HL (by omega) ST1.out.1).mono ?_
          rintro e w2 ⟨rfl, st2, hk2⟩
          obtain ⟨hx0, hx2⟩ := nxV_range l (d4 l) (n := 2) (by omega)
          have hx0d : decide ((0 : Int) ≤ nxV l (d4 l) 2) = true := decide_eq_true hx0
          have hx2d : decide (nxV l (d4 l) 2 < 2) = true := decide_eq_true hx2
          have hr := (keep_cell hk2 ST1.out.2.1 ST1.out.2.2.1 _).trans (ST1.out.2.2.2 _ hx0 hx2)
          have c2 := st2.met.c2
          have f2 := st2.met.fr 2
          have ST2 := Lib.hid (st2.store 2 _ (st2.met.setBl (nameOf (nxV l (d4 l) 2))))
          clear st2 hk2 ST1
          go_wp2_with fail
          go_meet
          have e1 : dB l = nameOf (nxV l (d4 l) 2) := if_pos H4.out
          have e2 : d5 l = nxA l (d4 l) := if_pos H4.out
          rw [e1, e2]
          exact ST2.out
        · have hb : (dK l == 4) = false := by simp [h4]
          have H4 := Lib.hid h4
          clear h4
          go_wp2_with fail
          go_meet
          have e1 : dB l = ⟨#[]⟩ := if_neg H4.out
          have e2 : d5 l = d4 l := if_neg H4.out
          rw [e1, e2]
          exact STB.out
      case rest =>
        clear STB c0
        have STC := Lib.hid hcut
        clear hcut
        go_wp2_with fail
        refine (next_ms 3 HL (by omega) STC.out).mono ?_
        rintro e w3 ⟨rfl, st3, _⟩
        change MS w R S M l (d6 l) _ w3 at st3
        have ST3 := Lib.hid st3
        clear st3 STC
        go_upto_if 38 with (fail)
        go_cut [] (fun wc => MS w R S M l (d7 l) ⟨dK l, dN l, dB l, dW l, dCa l, dL l, 0⟩ wc)
        case first =>
          by_cases hz : nxV l (d5 l) 3 = 0
          · have hb : (nxV l (d5 l) 3 == 0) = true := by rw [hz]; rfl
            have HZ := Lib.hid hz
            clear hz
            go_wp2_with fail
            refine (next_ms 10 HL (by omega) ST3.out).mono ?_
            rintro e w4 ⟨rfl, st4, _⟩
            obtain ⟨hx0, hx2⟩ := nxV_range l (d6 l) (n := 10) (by omega)
            have c5 := st4.met.c5
            have f5 := st4.met.fr 5
            have ST4 := Lib.hid (st4.store 5 _ (st4.met.setLe (nxV l (d6 l) 10 - 3)))
            clear st4
            go_wp2_with fail
            go_meet
            have e1 : dL l = nxV l (d6 l) 10 - 3 := if_pos HZ.out
            have e2 : d7 l = nxA l (d6 l) := if_pos HZ.out
            rw [e1, e2]
            exact ST4.out
          · have hb : (nxV l (d5 l) 3 == 0) = false := by simp [hz]
            have HZ := Lib.hid hz
            clear hz
            go_wp2_with fail
            go_meet
            have e1 : dL l = -1099511627776 := if_neg HZ.out
            have e2 : d7 l = d6 l := if_neg HZ.out
            rw [e1, e2]
            exact ST3.out
        case rest =>
          clear ST3
          have STD := Lib.hid hcut
          clear hcut
          go_wp2_with fail
          refine (next_ms 2 HL (by omega) STD.out).mono ?_
          rintro e w5 ⟨rfl, st5, _⟩
          change MS w R S M l (d8 l) _ w5 at st5
          have ST5 := Lib.hid st5
          clear st5 STD
          go_upto_if 45 with (fail)
          go_cut [] (fun wc => ∃ k, MS w R S M l k (metD l) wc)
          case first =>
            by_cases hz : nxV l (d7 l) 2 = 0
            · have hb : (nxV l (d7 l) 2 == 0) = true := by rw [hz]; rfl
              have HZ := Lib.hid hz
              clear hz
              go_wp2_with fail
              refine (next_ms 20 HL (by omega) ST5.out).mono ?_
              rintro e w6 ⟨rfl, st6, _⟩
              have c6 := st6.met.c6
              have f6 := st6.met.fr 6
              have ST6 := Lib.hid (st6.store 6 _ (st6.met.setBe (nxV l (d8 l) 20)))
              clear st6
              go_wp2_with fail
              go_meet
              have e1 : dE l = nxV l (d8 l) 20 := if_pos HZ.out
              unfold metD
              rw [e1]
              exact ⟨_, ST6.out⟩
            · have hb : (nxV l (d7 l) 2 == 0) = false := by simp [hz]
              have HZ := Lib.hid hz
              clear hz
              go_wp2_with fail
              go_meet
              have e1 : dE l = 0 := if_neg HZ.out
              unfold metD
              rw [e1]
              exact ⟨_, ST5.out⟩
          case rest =>
            clear ST5
            obtain ⟨k, hms⟩ := hcut
            obtain ⟨m, hm⟩ : ∃ m, metD l = m := ⟨_, rfl⟩
            rw [hm] at hms
            have HM := Lib.hid hm
            clear hm
            have c0 := hms.met.c0
            have c1 := hms.met.c1
            have c2 := hms.met.c2
            have c3 := hms.met.c3
            have c4 := hms.met.c4
            have c5 := hms.met.c5
            have c6 := hms.met.c6
            have r0 := hms.res.c0
            have r1 := hms.res.c1
            have r2 := hms.res.c2
            have r3 := hms.res.c3
            have r4 := hms.res.c4
            have r5 := hms.res.c5
            have r6 := hms.res.c6
            have rf := hms.res.fr
            have HMS := Lib.hid hms
            clear hms
            go_wp2_with fail
            have hb := HMS.out.src.2
            have hR := HMS.out.hR
            exact bodyPost_ret (v := m.val) (by simp [results, Tryd.results11, go_sem, Met.val, r0, r1, r2, r3, r4, r5, r6]) rfl ⟨by rw [HM.out], ((((((hb.setCell hR _).setCell hR _).setCell hR _).setCell hR _).setCell hR _).setCell hR _).setCell hR _⟩
end Go.Proofs.YtbiolondnkeakaaDoor
