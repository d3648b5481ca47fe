/- The walk of the law MetricChecks. -/
import Derived.Test.YtbiolondnkeakaaDoorLong
import Derived.Test.YtbiolondnkeakaaDoorPrint
import Derived.Test.YtbiolondnkeakaaDoorEventsA
import Derived.Deep.DrawnRows
namespace Go.Proofs.YtbiolondnkeakaaDoor
open Go.RowKit Go.Proofs.YtbiolondnkeakaaDoor.PT Go.Proofs.YtbiolondnkeakaaDoorW.PrintWords Go.Proofs.YtbiolondnkeakaaDoorW.PrintLast Go.Proofs.YtbiolondnkeakaaDoorW.PrintMore Plain Split

/-- A metric whose texts are of a possible size. -/
def Sm (x : Met) : Prop := x.nm.size ≤ 140737488355328 ∧ x.bl.size ≤ 140737488355328
/-- The state of a round's making: the given metric, the made one, and the new variable (where it has been made). -/
structure CS (w0 : World) (P D : Nat) (p m : Met) (Mo : Option Nat) (W : World) : Prop where
  qp : QM w0 P p W
  qd : QM w0 D m W
  mz : ∀ X, Mo = some X → IsM X .zero W ∧ X < W.heap.size ∧ P < X ∧ D < X
theorem CS.over {w0 W W' : World} {P D : Nat} {p m : Met} {Mo : Option Nat} (h : CS w0 P D p m Mo W) (hb : Below W.heap.size W W') : CS w0 P D p m Mo W' :=
  ⟨h.qp.over hb, h.qd.over hb, fun X hX => by
    obtain ⟨h1, h2, h3⟩ := h.mz X hX
    exact ⟨h1.grown (b := W.heap.size) (gb_below _ hb) h2 (Nat.ne_of_lt h2), Nat.lt_of_lt_of_le h2 hb.size, h3⟩⟩
theorem CS.lit {w0 W : World} {P D : Nat} {p m : Met} {Mo : Option Nat} (h : CS w0 P D p m Mo W) (o : Obj) : CS w0 P D p m Mo (W.alloc o) := h.over ((Below.refl _ _).alloc (Nat.le_refl _) _)
theorem CS.drew {w0 W : World} {P D : Nat} {p m : Met} {Mo : Option Nat} (h : CS w0 P D p m Mo W) : CS w0 P D p m Mo W.drew := h.over (Below.refl _ _).drew
theorem CS.alloc {w0 W : World} {P D : Nat} {p m : Met} (h : CS w0 P D p m none W) : CS w0 P D p m (some W.heap.size) (W.alloc (.cells #[.int .i64 0, .string ⟨#[]⟩, .string ⟨#[]⟩, .int .i64 0, .int .i64 0, .int .i64 0, .int .i64 0] 29)) :=
  ⟨h.qp.alloc _, h.qd.alloc _, fun X hX => by
    cases hX
    exact ⟨⟨by simp [Met.zero], by simp [Met.zero], by simp [Met.zero], by simp [Met.zero], by simp [Met.zero], by simp [Met.zero], by simp [Met.zero], fun i => by simp⟩, by simp, h.qp.2.1, h.qd.2.1⟩⟩
/-- Behind it: the three metrics. -/
def XS (w0 : World) (P D X : Nat) (p m x : Met) (W : World) : Prop := QM w0 P p W ∧ QM w0 D m W ∧ QM w0 X x W
theorem XS.over {w0 W W' : World} {P D X : Nat} {p m x : Met} (h : XS w0 P D X p m x W) (hb : Below W.heap.size W W') : XS w0 P D X p m x W' := ⟨h.1.over hb, h.2.1.over hb, h.2.2.over hb⟩
theorem XS.drew {w0 W : World} {P D X : Nat} {p m x : Met} (h : XS w0 P D X p m x W) : XS w0 P D X p m x W.drew := h.over (Below.refl _ _).drew
theorem CS.new {w0 W : World} {P D : Nat} {p m : Met} (h : CS w0 P D p m none W) (x : Met) : XS w0 P D W.heap.size p m x (W.alloc (.cells #[.int .i64 x.k, .string x.nm, .string x.bl, .int .i64 x.wi, .int .i64 x.ca, .int .i64 x.le, .int .i64 x.be] 29)) :=
  ⟨h.qp.alloc _, h.qd.alloc _, val_start W x, by simp, (h.qp.alloc _).2.2⟩
theorem QM.set {w0 W : World} {P X : Nat} {p : Met} (h : QM w0 P p W) (i : Nat) (v : Value) (hX : P < X) (hw : w0.heap.size ≤ X) : QM w0 P p (W.setCell ⟨X, i, none⟩ v) :=
  ⟨h.1.grown (gb_set W X i v) h.2.1 (by omega), by simpa [World.setCell] using h.2.1, h.2.2.grown (gb_set W X i v) h.2.2.size (fun k hk => by cases hk; exact hw)⟩
theorem XS.store {w0 W : World} {P D X : Nat} {p m x x' : Met} (h : XS w0 P D X p m x W) (i : Nat) (v : Value) (hm : IsM X x' (W.setCell ⟨X, i, none⟩ v)) (hP : P < X) (hD : D < X) (hw : w0.heap.size ≤ X) : XS w0 P D X p m x' (W.setCell ⟨X, i, none⟩ v) :=
  ⟨h.1.set i v hP hw, h.2.1.set i v hD hw, hm, by simpa [World.setCell] using h.2.2.2.1, (h.1.set i v hP hw).2.2⟩
theorem CS.set {w0 W : World} {P D X : Nat} {p m : Met} (h : CS w0 P D p m (some X) W) (hw : w0.heap.size ≤ P) (x : Met) :
    XS w0 P D X p m x (((((((W.setCell ⟨X, 0, none⟩ (.int .i64 x.k)).setCell ⟨X, 1, none⟩ (.string x.nm)).setCell ⟨X, 2, none⟩ (.string x.bl)).setCell ⟨X, 3, none⟩ (.int .i64 x.wi)).setCell ⟨X, 4, none⟩ (.int .i64 x.ca)).setCell ⟨X, 5, none⟩ (.int .i64 x.le)).setCell ⟨X, 6, none⟩ (.int .i64 x.be)) := by
  obtain ⟨h1, h2, h3, h4⟩ := h.mz X rfl
  have hX : w0.heap.size ≤ X := by omega
  have h0 : XS w0 P D X p m .zero W := ⟨h.qp, h.qd, h1, h2, h.qp.2.2⟩
  have g1 := h0.store 0 _ (h0.2.2.1.setK x.k) h3 h4 hX
  have g2 := g1.store 1 _ (g1.2.2.1.setNm x.nm) h3 h4 hX
  have g3 := g2.store 2 _ (g2.2.2.1.setBl x.bl) h3 h4 hX
  have g4 := g3.store 3 _ (g3.2.2.1.setWi x.wi) h3 h4 hX
  have g5 := g4.store 4 _ (g4.2.2.1.setCa x.ca) h3 h4 hX
  have g6 := g5.store 5 _ (g5.2.2.1.setLe x.le) h3 h4 hX
  exact g6.store 6 _ (g6.2.2.1.setBe x.be) h3 h4 hX
theorem keepCS {w0 w' : World} {P D : Nat} {p m : Met} {Mo : Option Nat} (h : CS w0 P D p m Mo w') : w'.cell? ⟨P, 0, none⟩ = some (.int .i64 p.k) ∧ w'.cell? ⟨P, 1, none⟩ = some (.string p.nm) ∧ w'.cell? ⟨P, 2, none⟩ = some (.string p.bl) ∧ w'.cell? ⟨P, 3, none⟩ = some (.int .i64 p.wi) ∧ w'.cell? ⟨P, 4, none⟩ = some (.int .i64 p.ca) ∧ w'.cell? ⟨P, 5, none⟩ = some (.int .i64 p.le) ∧ w'.cell? ⟨P, 6, none⟩ = some (.int .i64 p.be) ∧ w'.cell? ⟨D, 0, none⟩ = some (.int .i64 m.k) ∧ w'.cell? ⟨D, 1, none⟩ = some (.string m.nm) ∧ w'.cell? ⟨D, 2, none⟩ = some (.string m.bl) ∧ w'.cell? ⟨D, 3, none⟩ = some (.int .i64 m.wi) ∧ w'.cell? ⟨D, 4, none⟩ = some (.int .i64 m.ca) ∧ w'.cell? ⟨D, 5, none⟩ = some (.int .i64 m.le) ∧ w'.cell? ⟨D, 6, none⟩ = some (.int .i64 m.be) :=
  ⟨h.qp.1.c0, h.qp.1.c1, h.qp.1.c2, h.qp.1.c3, h.qp.1.c4, h.qp.1.c5, h.qp.1.c6, h.qd.1.c0, h.qd.1.c1, h.qd.1.c2, h.qd.1.c3, h.qd.1.c4, h.qd.1.c5, h.qd.1.c6⟩
theorem keepXS {w0 w' : World} {P D X : Nat} {p m x : Met} (h : XS w0 P D X p m x w') : w'.cell? ⟨P, 0, none⟩ = some (.int .i64 p.k) ∧ w'.cell? ⟨P, 1, none⟩ = some (.string p.nm) ∧ w'.cell? ⟨P, 2, none⟩ = some (.string p.bl) ∧ w'.cell? ⟨P, 3, none⟩ = some (.int .i64 p.wi) ∧ w'.cell? ⟨P, 4, none⟩ = some (.int .i64 p.ca) ∧ w'.cell? ⟨P, 5, none⟩ = some (.int .i64 p.le) ∧ w'.cell? ⟨P, 6, none⟩ = some (.int .i64 p.be) ∧ w'.cell? ⟨D, 0, none⟩ = some (.int .i64 m.k) ∧ w'.cell? ⟨D, 1, none⟩ = some (.string m.nm) ∧ w'.cell? ⟨D, 2, none⟩ = some (.string m.bl) ∧ w'.cell? ⟨D, 3, none⟩ = some (.int .i64 m.wi) ∧ w'.cell? ⟨D, 4, none⟩ = some (.int .i64 m.ca) ∧ w'.cell? ⟨D, 5, none⟩ = some (.int .i64 m.le) ∧ w'.cell? ⟨D, 6, none⟩ = some (.int .i64 m.be) :=
  keepCS (Mo := none) ⟨h.1, h.2.1, fun _ h => by cases h⟩
theorem keepX {w0 w' : World} {P D X : Nat} {p m x : Met} (h : XS w0 P D X p m x w') : w'.cell? ⟨X, 0, none⟩ = some (.int .i64 x.k) ∧ w'.cell? ⟨X, 1, none⟩ = some (.string x.nm) ∧ w'.cell? ⟨X, 2, none⟩ = some (.string x.bl) ∧ w'.cell? ⟨X, 3, none⟩ = some (.int .i64 x.wi) ∧ w'.cell? ⟨X, 4, none⟩ = some (.int .i64 x.ca) ∧ w'.cell? ⟨X, 5, none⟩ = some (.int .i64 x.le) ∧ w'.cell? ⟨X, 6, none⟩ = some (.int .i64 x.be) :=
  ⟨h.2.2.1.c0, h.2.2.1.c1, h.2.2.1.c2, h.2.2.1.c3, h.2.2.1.c4, h.2.2.1.c5, h.2.2.1.c6⟩

theorem limits_some (a n : Int) (h0 : 0 ≤ a) : ∃ r, flagstonelaw34_limits.f a n = some r := by
  have h1 : 0 ≤ Int.tmod a 13 := Int.tmod_nonneg _ h0
  have h2 : Int.tmod a 13 < 13 := Int.tmod_lt_of_pos _ (by decide)
  unfold flagstonelaw34_limits.f
  rw [Option.bind_some, if_pos h1, if_pos (by simpa using h2)]
  exact ⟨_, rfl⟩
theorem change_some (m : Met) (f n : Int) (s : ByteArray) (hm : Sm m) (hs : s.size ≤ 140737488355328) : ∃ x : Met, Sm x ∧ flagstonelaw34_change.f m.k m.nm m.bl m.wi m.ca m.le m.be f n s = some (x.k, x.nm, x.bl, x.wi, x.ca, x.le, x.be) := by
  unfold flagstonelaw34_change.f
  repeat' split
  · exact ⟨⟨n, m.nm, m.bl, m.wi, m.ca, m.le, m.be⟩, hm, rfl⟩
  · exact ⟨⟨m.k, s, m.bl, m.wi, m.ca, m.le, m.be⟩, ⟨hs, hm.2⟩, rfl⟩
  · exact ⟨⟨m.k, m.nm, s, m.wi, m.ca, m.le, m.be⟩, ⟨hm.1, hs⟩, rfl⟩
  · exact ⟨⟨m.k, m.nm, m.bl, n, m.ca, m.le, m.be⟩, hm, rfl⟩
  · exact ⟨⟨m.k, m.nm, m.bl, m.wi, n, m.le, m.be⟩, hm, rfl⟩
  · exact ⟨⟨m.k, m.nm, m.bl, m.wi, m.ca, n, m.be⟩, hm, rfl⟩
  · exact ⟨⟨m.k, m.nm, m.bl, m.wi, m.ca, m.le, n⟩, hm, rfl⟩
  · exact ⟨m, hm, rfl⟩
/-- The two metrics that were there before. -/
def CB (w0 : World) (P D : Nat) (p m : Met) (W : World) : Prop := QM w0 P p W ∧ QM w0 D m W
theorem CB.over {w0 W W' : World} {P D : Nat} {p m : Met} (h : CB w0 P D p m W) (hb : Below W.heap.size W W') : CB w0 P D p m W' := ⟨h.1.over hb, h.2.over hb⟩
theorem CB.cells {w0 w' : World} {P D : Nat} {p m : Met} (h : CB w0 P D p m w') : w'.cell? ⟨P, 0, none⟩ = some (.int .i64 p.k) ∧ w'.cell? ⟨P, 1, none⟩ = some (.string p.nm) ∧ w'.cell? ⟨P, 2, none⟩ = some (.string p.bl) ∧ w'.cell? ⟨P, 3, none⟩ = some (.int .i64 p.wi) ∧ w'.cell? ⟨P, 4, none⟩ = some (.int .i64 p.ca) ∧ w'.cell? ⟨P, 5, none⟩ = some (.int .i64 p.le) ∧ w'.cell? ⟨P, 6, none⟩ = some (.int .i64 p.be) ∧ w'.cell? ⟨D, 0, none⟩ = some (.int .i64 m.k) ∧ w'.cell? ⟨D, 1, none⟩ = some (.string m.nm) ∧ w'.cell? ⟨D, 2, none⟩ = some (.string m.bl) ∧ w'.cell? ⟨D, 3, none⟩ = some (.int .i64 m.wi) ∧ w'.cell? ⟨D, 4, none⟩ = some (.int .i64 m.ca) ∧ w'.cell? ⟨D, 5, none⟩ = some (.int .i64 m.le) ∧ w'.cell? ⟨D, 6, none⟩ = some (.int .i64 m.be) :=
  keepCS (Mo := none) ⟨h.1, h.2, fun _ h => by cases h⟩
/-- A metric among others in a row. -/
def Row7 (N o : Nat) (y : Met) (w' : World) : Prop := w'.cell? ⟨N, o, none⟩ = some (.int .i64 y.k) ∧ w'.cell? ⟨N, o + 1, none⟩ = some (.string y.nm) ∧ w'.cell? ⟨N, o + 2, none⟩ = some (.string y.bl) ∧ w'.cell? ⟨N, o + 3, none⟩ = some (.int .i64 y.wi) ∧ w'.cell? ⟨N, o + 4, none⟩ = some (.int .i64 y.ca) ∧ w'.cell? ⟨N, o + 5, none⟩ = some (.int .i64 y.le) ∧ w'.cell? ⟨N, o + 6, none⟩ = some (.int .i64 y.be)
theorem Row7.lt {N o : Nat} {y : Met} {W : World} (h : Row7 N o y W) : N < W.heap.size := World.block_lt_of_cell? W _ h.1
theorem Row7.over {N o : Nat} {y : Met} {W W' : World} (h : Row7 N o y W) (hb : Below W.heap.size W W') : Row7 N o y W' := by
  have c := fun i => hb.cell (p := ⟨N, i, none⟩) h.lt
  exact ⟨(c _).trans h.1, (c _).trans h.2.1, (c _).trans h.2.2.1, (c _).trans h.2.2.2.1, (c _).trans h.2.2.2.2.1, (c _).trans h.2.2.2.2.2.1, (c _).trans h.2.2.2.2.2.2⟩
theorem cell_far1 {W : World} {B i M j : Nat} {v u : Value} (hne : B ≠ M) (h : W.cell? ⟨B, i, none⟩ = some v) : (W.setCell ⟨M, j, none⟩ u).cell? ⟨B, i, none⟩ = some v :=
  (World.cell?_setCell_other _ _ _ _ (by intro e; cases e; exact hne rfl)).trans h
theorem Row7.far1 {N o X j : Nat} {y : Met} {W : World} {u : Value} (h : Row7 N o y W) (hne : N ≠ X) : Row7 N o y (W.setCell ⟨X, j, none⟩ u) :=
  ⟨cell_far1 hne h.1, cell_far1 hne h.2.1, cell_far1 hne h.2.2.1, cell_far1 hne h.2.2.2.1, cell_far1 hne h.2.2.2.2.1, cell_far1 hne h.2.2.2.2.2.1, cell_far1 hne h.2.2.2.2.2.2⟩
theorem Row7.far {N o X : Nat} {y : Met} {W : World} {u0 u1 u2 u3 u4 u5 u6 : Value} (h : Row7 N o y W) (hne : N ≠ X) : Row7 N o y (((((((W.setCell ⟨X, 0, none⟩ u0).setCell ⟨X, 1, none⟩ u1).setCell ⟨X, 2, none⟩ u2).setCell ⟨X, 3, none⟩ u3).setCell ⟨X, 4, none⟩ u4).setCell ⟨X, 5, none⟩ u5).setCell ⟨X, 6, none⟩ u6) :=
  ((((((h.far1 hne).far1 hne).far1 hne).far1 hne).far1 hne).far1 hne).far1 hne
def sel (p m x : Met) (i : Nat) : Met := if i = 0 then p else if i = 1 then m else x
theorem sel_sm {p m x : Met} (i : Nat) (hp : Hid (Sm p)) (hm : Hid (Sm m)) (hx : Hid (Sm x)) : Hid (Sm (sel p m x i)) := by
  unfold sel
  split
  · exact hp
  · split
    · exact hm
    · exact hx
theorem lit_sel (W : World) (p m x : Met) (i : Nat) (hi : i < 3) : Row7 W.heap.size (i * 7) (sel p m x i) (W.alloc (.cells #[.int .i64 p.k, .string p.nm, .string p.bl, .int .i64 p.wi, .int .i64 p.ca, .int .i64 p.le, .int .i64 p.be, .int .i64 m.k, .string m.nm, .string m.bl, .int .i64 m.wi, .int .i64 m.ca, .int .i64 m.le, .int .i64 m.be, .int .i64 x.k, .string x.nm, .string x.bl, .int .i64 x.wi, .int .i64 x.ca, .int .i64 x.le, .int .i64 x.be] 29)) := by
  rcases (show i = 0 ∨ i = 1 ∨ i = 2 by omega) with rfl | rfl | rfl <;> (refine ⟨?_, ?_, ?_, ?_, ?_, ?_, ?_⟩ <;> simp [sel])
/-- The new variable. -/
structure CX (w0 : World) (P D X : Nat) (p m : Met) (W : World) : Prop where
  qp : QM w0 P p W
  qd : QM w0 D m W
  hP : P < X
  hD : D < X
  ex : ∃ x, IsM X x W
theorem CX.lt {w0 W : World} {P D X : Nat} {p m : Met} (h : CX w0 P D X p m W) : X < W.heap.size := by
  obtain ⟨x, hx⟩ := h.ex
  exact World.block_lt_of_cell? W _ hx.c0
theorem CX.over {w0 W W' : World} {P D X : Nat} {p m : Met} (h : CX w0 P D X p m W) (hb : Below W.heap.size W W') : CX w0 P D X p m W' := by
  have hl := h.lt
  obtain ⟨x, hx⟩ := h.ex
  exact ⟨h.qp.over hb, h.qd.over hb, h.hP, h.hD, x, hx.grown (b := W.heap.size) (gb_below _ hb) hl (Nat.ne_of_lt hl)⟩
theorem CB.alloc {w0 W : World} {P D : Nat} {p m : Met} (h : CB w0 P D p m W) : CX w0 P D W.heap.size p m (W.alloc (.cells #[.int .i64 0, .string ⟨#[]⟩, .string ⟨#[]⟩, .int .i64 0, .int .i64 0, .int .i64 0, .int .i64 0] 29)) :=
  ⟨h.1.alloc _, h.2.alloc _, h.1.2.1, h.2.2.1, .zero, by simp [Met.zero], by simp [Met.zero], by simp [Met.zero], by simp [Met.zero], by simp [Met.zero], by simp [Met.zero], by simp [Met.zero], fun i => by simp⟩
theorem CX.set {w0 W : World} {P D X : Nat} {p m : Met} (h : CX w0 P D X p m W) (hw : w0.heap.size ≤ P) (x : Met) :
    XS w0 P D X p m x (((((((W.setCell ⟨X, 0, none⟩ (.int .i64 x.k)).setCell ⟨X, 1, none⟩ (.string x.nm)).setCell ⟨X, 2, none⟩ (.string x.bl)).setCell ⟨X, 3, none⟩ (.int .i64 x.wi)).setCell ⟨X, 4, none⟩ (.int .i64 x.ca)).setCell ⟨X, 5, none⟩ (.int .i64 x.le)).setCell ⟨X, 6, none⟩ (.int .i64 x.be)) := by
  obtain ⟨x0, h1⟩ := h.ex
  have h2 := h.lt
  have h3 := h.hP
  have h4 := h.hD
  have hX : w0.heap.size ≤ X := by omega
  have h0 : XS w0 P D X p m x0 W := ⟨h.qp, h.qd, h1, h2, h.qp.2.2⟩
  have g1 := h0.store 0 _ (h0.2.2.1.setK x.k) h3 h4 hX
  have g2 := g1.store 1 _ (g1.2.2.1.setNm x.nm) h3 h4 hX
  have g3 := g2.store 2 _ (g2.2.2.1.setBl x.bl) h3 h4 hX
  have g4 := g3.store 3 _ (g3.2.2.1.setWi x.wi) h3 h4 hX
  have g5 := g4.store 4 _ (g4.2.2.1.setCa x.ca) h3 h4 hX
  have g6 := g5.store 5 _ (g5.2.2.1.setLe x.le) h3 h4 hX
  exact g6.store 6 _ (g6.2.2.1.setBe x.be) h3 h4 hX
theorem XS.cb {w0 W : World} {P D X : Nat} {p m x : Met} (h : XS w0 P D X p m x W) : CB w0 P D p m W := ⟨h.1, h.2.1⟩
theorem XS.cx {w0 W W0 : World} {P D X : Nat} {p m x : Met} (h : XS w0 P D X p m x W) (h0 : CX w0 P D X p m W0) : CX w0 P D X p m W := ⟨h.1, h.2.1, h0.hP, h0.hD, x, h.2.2.1⟩
theorem limits_b (a n : Int) (W : World) (h0 : Hid (0 ≤ a)) : Calls Tryd.prog 22 #[.int .u8 a, .int .i64 n] W fun e w' => ∃ r, e = .returned (.int .i64 r) ∧ Below W.heap.size W w' := by
  obtain ⟨r, hr⟩ := limits_some a n h0.out
  refine (flagstonelaw34_limits.calls a n r W hr).mono ?_
  rintro e w' ⟨rfl, hb⟩
  exact ⟨r, rfl, hb⟩
theorem change_b {m : Met} (f n : Int) (s : ByteArray) (W : World) (hm : Hid (Sm m)) (hs : Hid (s.size ≤ 140737488355328)) :
    Calls Tryd.prog 21 #[.agg #[.int .i64 m.k, .string m.nm, .string m.bl, .int .i64 m.wi, .int .i64 m.ca, .int .i64 m.le, .int .i64 m.be], .int .u8 f, .int .i64 n, .string s] W fun e w' => ∃ x : Met, e = .returned (.agg #[.int .i64 x.k, .string x.nm, .string x.bl, .int .i64 x.wi, .int .i64 x.ca, .int .i64 x.le, .int .i64 x.be]) ∧ Hid (Sm x) ∧ Below W.heap.size W w' := by
  obtain ⟨x, hx, he⟩ := change_some m f n s hm.out hs.out
  refine (flagstonelaw34_change.calls m.k m.nm m.bl m.wi m.ca m.le m.be f n s x.k x.nm x.bl x.wi x.ca x.le x.be W he).mono ?_
  rintro e w' ⟨rfl, hb⟩
  exact ⟨x, rfl, Lib.hid hx, hb⟩
theorem check_xs {w0 W : World} {P D X : Nat} {p m x : Met} (hT : Hid (Tabs w0)) (hx : Hid (Sm x)) (h : XS w0 P D X p m x W) :
    Calls Tryd.prog 20 #[.agg #[.int .i64 x.k, .string x.nm, .string x.bl, .int .i64 x.wi, .int .i64 x.ca, .int .i64 x.le, .int .i64 x.be]] W fun e w' => e = .returned (.int .i64 x.err) ∧ XS w0 P D X p m x w' := by
  have h1 := hx.out.1
  have h2 := hx.out.2
  refine (check_calls x.k x.nm x.bl x.wi x.ca x.le x.be W (Tabs.below hT.out h.1.2.2) (by omega) (by omega)).mono ?_
  rintro e w' ⟨rfl, hb⟩
  exact ⟨rfl, h.over hb⟩
theorem refcheck_xs {w0 W : World} {P D X : Nat} {p m x : Met} (hx : Hid (Sm x)) (h : XS w0 P D X p m x W) :
    Calls Tryd.prog 24 #[.agg #[.int .i64 x.k, .string x.nm, .string x.bl, .int .i64 x.wi, .int .i64 x.ca, .int .i64 x.le, .int .i64 x.be]] W fun e w' => e = .returned (.int .i64 x.err) ∧ XS w0 P D X p m x w' := by
  have h1 := hx.out.1
  have h2 := hx.out.2
  refine (refcheck_in x W (by omega) (by omega)).mono ?_
  rintro e w' ⟨rfl, hb⟩
  exact ⟨rfl, h.over hb⟩
attribute [local go_sem ↓] Go.wp_at_zero Go.wp_at_succ
namespace PL
set_option maxRecDepth 100000 in
set_option maxHeartbeats 64000000 in
theorem flagstonelaw34_MetricChecks.walk (_ : True) (p : Met) (a1 : Option Addr) (len1 cap1 : Nat) (z1 : List Int) (a2 a3 a4 : Int) (a5 : ByteArray) (w : World) (hT : Tabs w) (hp : Sm p) (w1 : (a1 = none ∧ len1 = 0 ∧ cap1 = 0 ∧ z1 = []) ∨ ∃ x, a1 = some x ∧ len1 ≤ cap1 ∧ cap1 ≤ maxLen ∧ z1.length = cap1 ∧ (∀ i, i < z1.length → w.cell? (x.add i) = some (.int .u8 (z1.getD i 0))) ∧ ∀ n ∈ z1, (Lit.int .u8 n).wf = true) (y1 : len1 * 1 ≤ 140737488351232) (w3 : (Lit.int .u8 a3).wf = true) :
    Calls Tryd.prog 7 #[p.val, .slice a1 len1 cap1, .int .u8 a2, .int .u8 a3, .int .i64 a4, .string a5] w fun e w' => e = .returned (.bool true) ∧ Below w.heap.size w w' := by
  obtain ⟨l, rfl, hr, _, hw, _⟩ := ReadsInt.ofRowC w1
  have hrC := Kd.C_of_reads (d := (0 : Int)) (h1 := fun _ => rfl) hr
  have HL := Lib.hid (And.intro hrC (And.intro (bytes_wf hw) (show l.length ≤ 4611686018427387904 by omega)))
  have HT := Lib.hid hT
  have HP := Lib.hid hp
  have H3 := Lib.hid (bytes_u8 w3).1
  clear w1 y1 w3 hr hw hrC hT hp
  show Calls Tryd.prog 7 #[.agg #[.int .i64 p.k, .string p.nm, .string p.bl, .int .i64 p.wi, .int .i64 p.ca, .int .i64 p.le, .int .i64 p.be], .slice a1 l.length cap1, .int .u8 a2, .int .u8 a3, .int .i64 a4, .string a5] w _
  go_enter Tryd.func7, Tryd.ntmps7
  go_wp2_with fail
  have hP1 := val_start w p
  obtain ⟨W1, hW1, hb1, hs1⟩ : ∃ W1, w.alloc (.cells #[.int .i64 p.k, .string p.nm, .string p.bl, .int .i64 p.wi, .int .i64 p.ca, .int .i64 p.le, .int .i64 p.be] 29) = W1 ∧ Below w.heap.size w W1 ∧ w.heap.size < W1.heap.size := ⟨_, rfl, (Below.refl _ _).alloc (Nat.le_refl _) _, by simp⟩
  rw [hW1] at hP1 ⊢
  obtain ⟨P, hP⟩ : ∃ P, w.heap.size = P := ⟨_, rfl⟩
  have hQ1 : QM w P p W1 := by rw [← hP]; exact ⟨hP1, hs1, hb1⟩
  rw [hP]
  have HPw := Lib.hid (Nat.le_of_eq hP)
  have HQ1 := Lib.hid hQ1
  clear hP1 hb1 hs1 hW1 hP hQ1
  refine (awake_calls W1 (Tabs.below HT.out HQ1.out.2.2)).mono ?_
  rintro e w2 ⟨rfl, hb2⟩
  have HQ2 := Lib.hid (HQ1.out.over hb2)
  clear hb2 HQ1
  by_cases hs : a5.size ≤ 100
  · have hsz : ¬ (100 : Int) < (a5.size : Int) := by omega
    have HS := Lib.hid (show a5.size ≤ 140737488355328 by omega)
    clear hs
    go_wp2_with fail
    refine (data_metric a1 cap1 l w2 (Kd.C_below HL.out.1 HQ2.out.2.2) HL.out.2).mono ?_
    rintro e w3 ⟨rfl, hb3⟩
    have hf := metD_fine l
    obtain ⟨m, hm⟩ : ∃ m, metD l = m := ⟨_, rfl⟩
    rw [hm] at hf ⊢
    have HF := Lib.hid hf
    have HQ3 := Lib.hid (HQ2.out.over hb3)
    clear hm hf hb3 HQ2
    simp only [Met.val]
    go_wp2_with fail
    have hM4 := val_start w3 m
    obtain ⟨W4, hW4, hb4, hs4⟩ : ∃ W4, w3.alloc (.cells #[.int .i64 m.k, .string m.nm, .string m.bl, .int .i64 m.wi, .int .i64 m.ca, .int .i64 m.le, .int .i64 m.be] 29) = W4 ∧ Below w3.heap.size w3 W4 ∧ w3.heap.size < W4.heap.size := ⟨_, rfl, (Below.refl _ _).alloc (Nat.le_refl _) _, by simp⟩
    rw [hW4] at hM4 ⊢
    obtain ⟨D, hD⟩ : ∃ D, w3.heap.size = D := ⟨_, rfl⟩
    have HQ4 := Lib.hid (HQ3.out.over hb4)
    rw [hD] at hM4 hs4 ⊢
    have HD4 := Lib.hid (show QM w D m W4 from ⟨hM4, hs4, HQ4.out.2.2⟩)
    clear hM4 hs4 hb4 hW4 HQ3 hD
    have HM := Lib.hid (show Sm m from ⟨by have := key_small HF.out.nm; omega, by by_cases h4 : m.k = 4; have := key_small (HF.out.bl h4); omega; rw [HF.out.sh h4]; decide⟩)
    have h1 := HM.out.1
    have h2 := HM.out.2
    refine (check_calls m.k m.nm m.bl m.wi m.ca m.le m.be W4 (Tabs.below HT.out HQ4.out.2.2) (by omega) (by omega)).mono ?_
    clear h1 h2
    rw [show checkP m.k m.nm m.bl m.wi m.ca m.le m.be = 0 from fine_iff.2 HF.out]
    rintro e w5 ⟨rfl, hb5⟩
    have HC0 := Lib.hid (show CS w P D p m none w5 from ⟨HQ4.out.over hb5, HD4.out.over hb5, fun _ h => by cases h⟩)
    clear hb5 HQ4 HD4 HF
    go_wp2_with fail
    go_loopg [14] 10 (fun gg s14 wr => ∃ i : Nat, s14 = .int .i64 i ∧ i ≤ 3 ∧ 3 - i ≤ gg ∧ Hid (CS w P D p m none wr))
    case atStart => exact ⟨0, rfl, by omega, by omega, HC0⟩
    case round =>
      obtain ⟨i, rfl, hi, hgg, HC⟩ := hrel
      clear HC0
      by_cases hlt : i < 3
      · have hltz : (i : Int) < 3 := by omega
        go_upto_region 11 with (fail)
        go_cut [15] (fun s15 wc => ∃ X x, s15 = .pointer (some ⟨X, 0, none⟩) ∧ Hid (Sm x) ∧ XS w P D X p m x wc)
        case first =>
          have hcb : CB w P D p m wr.drew := ⟨HC.out.qp.over (below_drew _), HC.out.qd.over (below_drew _)⟩
          clear hltz
          have hlt0 : decide ((0 : Int) ≤ (i : Int)) = true := decide_eq_true (by omega)
          have hlt3 : (i : Int) < 3 := by omega
          refine wp_region_held_drew (S := (fun w' => CB w P D p m w')) (by kernel_rfl) hcb (fun hHeld => ?_)
          refine wpAnyH_go (fun w' => CB w P D p m w') (fun _ h => h) hHeld (fun Wb0 hb0 => ?_)
          clear hHeld
          refine wpAnyH_takeL (i := 0) 34 (v := ?_) rfl rfl (by kernel_rfl) (by kernel_rfl) (by kernel_rfl) (fun _ _ _ h => h) (Or.inl ⟨by rfl, ?_⟩) hb0 ?_
          rotate_left
          · intro w hSw
            (try dsimp only at hSw)
            obtain ⟨p0, p1, p2, p3, p4, p5, p6, d0, d1, d2, d3, d4, d5, d6⟩ := CB.cells hSw
            clear hSw
            go_simp
            all_goals with_reducible rfl
          simp only [List.setIfInBounds_toArray, List.set_cons_zero, List.set_cons_succ]
          refine wpAnyH_takeL (i := 1) 35 (v := ?_) rfl rfl (by kernel_rfl) (by kernel_rfl) (by kernel_rfl) (fun _ _ _ h => h) (Or.inl ⟨by rfl, ?_⟩) hb0 ?_
          rotate_left
          · intro w hSw
            (try dsimp only at hSw)
            obtain ⟨p0, p1, p2, p3, p4, p5, p6, d0, d1, d2, d3, d4, d5, d6⟩ := CB.cells hSw
            clear hSw
            go_simp
            all_goals with_reducible rfl
          simp only [List.setIfInBounds_toArray, List.set_cons_zero, List.set_cons_succ]
          refine wpAnyH_takeL (i := 2) 36 (v := ?_) rfl rfl (by kernel_rfl) (by kernel_rfl) (by kernel_rfl) (fun _ _ _ h => h) (Or.inl ⟨by rfl, ?_⟩) hb0 ?_
          rotate_left
          · intro w hSw
            (try dsimp only at hSw)
            obtain ⟨p0, p1, p2, p3, p4, p5, p6, d0, d1, d2, d3, d4, d5, d6⟩ := CB.cells hSw
            clear hSw
            go_simp
            all_goals with_reducible rfl
          simp only [List.setIfInBounds_toArray, List.set_cons_zero, List.set_cons_succ]
          refine wpAnyH_takeL (i := 3) 37 (v := ?_) rfl rfl (by kernel_rfl) (by kernel_rfl) (by kernel_rfl) (fun _ _ _ h => h) (Or.inl ⟨by rfl, ?_⟩) hb0 ?_
          rotate_left
          · intro w hSw
            (try dsimp only at hSw)
            go_simp
            all_goals with_reducible rfl
          simp only [List.setIfInBounds_toArray, List.set_cons_zero, List.set_cons_succ]
          refine wpAnyH_takeL (i := 4) 38 (v := ?_) rfl rfl (by kernel_rfl) (by kernel_rfl) (by kernel_rfl) (fun _ _ _ h => h) (Or.inl ⟨by rfl, ?_⟩) hb0 ?_
          rotate_left
          · intro w hSw
            (try dsimp only at hSw)
            go_simp
            all_goals with_reducible rfl
          simp only [List.setIfInBounds_toArray, List.set_cons_zero, List.set_cons_succ]
          refine wpAnyH_takeL (i := 5) 39 (v := ?_) rfl rfl (by kernel_rfl) (by kernel_rfl) (by kernel_rfl) (fun _ _ _ h => h) (Or.inl ⟨by rfl, ?_⟩) hb0 ?_
          rotate_left
          · intro w hSw
            (try dsimp only at hSw)
            go_simp
            all_goals with_reducible rfl
          simp only [List.setIfInBounds_toArray, List.set_cons_zero, List.set_cons_succ]
          refine wpAnyH_takeL (i := 7) 41 (v := ?_) rfl rfl (by kernel_rfl) (by kernel_rfl) (by kernel_rfl) (fun _ _ _ h => h) (Or.inl ⟨by rfl, ?_⟩) hb0 ?_
          rotate_left
          · intro w hSw
            (try dsimp only at hSw)
            go_simp
            all_goals with_reducible rfl
          simp only [List.setIfInBounds_toArray, List.set_cons_zero, List.set_cons_succ]
          refine wpAnyH_takeL (i := 10) 44 (v := ?_) rfl rfl (by kernel_rfl) (by kernel_rfl) (by kernel_rfl) (fun _ _ _ h => h) (Or.inl ⟨by rfl, ?_⟩) hb0 ?_
          rotate_left
          · intro w hSw
            (try dsimp only at hSw)
            go_simp
            all_goals with_reducible rfl
          simp only [List.setIfInBounds_toArray, List.set_cons_zero, List.set_cons_succ]
          refine wpAnyH_ready (rs := [6, 13]) (by kernel_rfl) (by simp) ?_
          refine AllReadyH.consL rfl (fun K hK => ?_) ?_
          · go_simp
            refine (limits_b _ _ Wb0 H3).mono ?_
            rintro e w' ⟨r, rfl, hb⟩
            (try go_wp2_with fail)
            refine hK.out _ _ ?_ (fun hHeld => ?_)
            · exact ((hb0).over hb)
            clear hK K
            refine wpAnyH_go (fun w' => CB w P D p m w') (fun _ h => h) hHeld (fun Wb9 hb9 => ?_)
            clear hHeld
            refine wpAnyH_ready (rs := [8, 13]) (by kernel_rfl) (by simp) ?_
            refine AllReadyH.consL rfl (fun K hK => ?_) ?_
            · go_simp
              refine (change_b _ _ _ Wb9 HM HS).mono ?_
              rintro e w' ⟨x, rfl, HX, hb⟩
              (try go_wp2_with fail)
              refine hK.out _ _ ?_ (fun hHeld => ?_)
              · exact ((hb9).over hb)
              clear hK K
              refine wpAnyH_go (fun w' => CB w P D p m w') (fun _ h => h) hHeld (fun Wb10 hb10 => ?_)
              clear hHeld
              refine wpAnyH_ready (rs := [9, 13]) (by kernel_rfl) (by simp) ?_
              refine AllReadyH.consL rfl (fun K hK => ?_) ?_
              · go_simp
                have hlit := lit_sel Wb10 p m x i hlt
                obtain ⟨N, hN⟩ : ∃ N, Wb10.heap.size = N := ⟨_, rfl⟩
                rw [hN] at hlit ⊢
                clear hN
                refine hK.out _ _ ?_ (fun hHeld => ?_)
                · exact ((hb10).over (below_alloc _ _))
                clear hK K
                refine wpAnyH_go (fun w' => CB w P D p m w' ∧ Row7 N (i * 7) (sel p m x i) w') (fun _ h => h.1) ⟨hHeld, hlit⟩ (fun Wb11 hb11 => ?_)
                clear hHeld
                refine wpAnyH_takeL (i := 11) 45 (v := ?_) rfl rfl (by kernel_rfl) (by kernel_rfl) (by kernel_rfl) (fun _ _ _ h => h) (Or.inl ⟨by rfl, ?_⟩) hb11 ?_
                rotate_left
                · intro w hSw
                  (try dsimp only at hSw)
                  go_simp
                  all_goals with_reducible rfl
                simp only [List.setIfInBounds_toArray, List.set_cons_zero, List.set_cons_succ]
                refine wpAnyH_takeL (i := 12) 46 (v := ?_) rfl rfl (by kernel_rfl) (by kernel_rfl) (by kernel_rfl) (fun _ _ _ h => h) (Or.inl ⟨by rfl, ?_⟩) hb11 ?_
                rotate_left
                · intro w hSw
                  (try dsimp only at hSw)
                  obtain ⟨r0, r1, r2, r3, r4, r5, r6⟩ := hSw.2
                  clear hSw
                  go_simp
                  all_goals with_reducible rfl
                simp only [List.setIfInBounds_toArray, List.set_cons_zero, List.set_cons_succ]
                refine wpAnyH_ready (rs := [13]) (by kernel_rfl) (by simp) ?_
                refine AllReadyH.consL rfl (fun K hK => ?_) ?_
                · go_simp
                  have hCX := (hb11.1).alloc
                  have hNX := (hb11.2).lt
                  obtain ⟨X, hX⟩ : ∃ X, Wb11.heap.size = X := ⟨_, rfl⟩
                  rw [hX] at hCX hNX ⊢
                  clear hX
                  refine hK.out _ _ ?_ (fun hHeld => ?_)
                  · exact ⟨((hb11.1).over (below_alloc _ _)), ((hb11.2).over (below_alloc _ _))⟩
                  clear hK K
                  refine wpAnyH_go (fun w' => CB w P D p m w' ∧ Row7 N (i * 7) (sel p m x i) w' ∧ CX w P D X p m w') (fun _ h => ⟨h.1, h.2.1⟩) ⟨hHeld.1, hHeld.2, hCX⟩ (fun Wb14 hb14 => ?_)
                  clear hHeld
                  refine wpAnyH_ready (rs := [14]) (by kernel_rfl) (by simp) ?_
                  refine AllReadyH.consL rfl (fun K hK => ?_) ?_
                  · obtain ⟨x0, hx0⟩ := (hb14.2.2).ex
                    obtain ⟨c0, c1, c2, c3, c4, c5, c6, cf⟩ := hx0
                    obtain ⟨y, hy⟩ : ∃ y, sel p m x i = y := ⟨_, rfl⟩
                    (try rw [hy])
                    have HY := Lib.hid hy
                    clear hy
                    go_simp
                    have hXS := (hb14.2.2).set HPw.out y
                    refine hK.out _ _ ?_ (fun hHeld => ?_)
                    · exact ⟨hXS.cb, ((hb14.2.1).far (by omega)), (hXS.cx (hb14.2.2))⟩
                    clear hK K
                    refine wpAnyH_go (fun w' => CB w P D p m w' ∧ Row7 N (i * 7) (sel p m x i) w' ∧ CX w P D X p m w' ∧ XS w P D X p m (sel p m x i) w') (fun _ h => ⟨h.1, h.2.1, h.2.2.1⟩) ⟨hHeld.1, hHeld.2.1, hHeld.2.2, (by rw [HY.out]; exact hXS)⟩ (fun Wb15 hb15 => ?_)
                    clear hHeld
                    refine wpAnyH_done (by kernel_rfl) ?_ _
                    go_wp2_with fail
                    go_meet
                    exact ⟨_, _, rfl, sel_sm i HP HM HX, hb15.2.2.2⟩
                  exact AllReadyH.nil
                exact AllReadyH.nil
              refine AllReadyH.consL rfl (fun K hK => ?_) ?_
              · go_simp
                have hCX := (hb10).alloc
                obtain ⟨X, hX⟩ : ∃ X, Wb10.heap.size = X := ⟨_, rfl⟩
                rw [hX] at hCX ⊢
                clear hX
                refine hK.out _ _ ?_ (fun hHeld => ?_)
                · exact ((hb10).over (below_alloc _ _))
                clear hK K
                refine wpAnyH_go (fun w' => CB w P D p m w' ∧ CX w P D X p m w') (fun _ h => h.1) ⟨hHeld, hCX⟩ (fun Wb11 hb11 => ?_)
                clear hHeld
                refine wpAnyH_ready (rs := [9]) (by kernel_rfl) (by simp) ?_
                refine AllReadyH.consL rfl (fun K hK => ?_) ?_
                · go_simp
                  have hlit := lit_sel Wb11 p m x i hlt
                  have hNX := (hb11.2).lt
                  obtain ⟨N, hN⟩ : ∃ N, Wb11.heap.size = N := ⟨_, rfl⟩
                  rw [hN] at hlit hNX ⊢
                  clear hN
                  refine hK.out _ _ ?_ (fun hHeld => ?_)
                  · exact ⟨((hb11.1).over (below_alloc _ _)), ((hb11.2).over (below_alloc _ _))⟩
                  clear hK K
                  refine wpAnyH_go (fun w' => CB w P D p m w' ∧ CX w P D X p m w' ∧ Row7 N (i * 7) (sel p m x i) w') (fun _ h => ⟨h.1, h.2.1⟩) ⟨hHeld.1, hHeld.2, hlit⟩ (fun Wb12 hb12 => ?_)
                  clear hHeld
                  refine wpAnyH_takeL (i := 11) 45 (v := ?_) rfl rfl (by kernel_rfl) (by kernel_rfl) (by kernel_rfl) (fun _ _ _ h => h) (Or.inl ⟨by rfl, ?_⟩) hb12 ?_
                  rotate_left
                  · intro w hSw
                    (try dsimp only at hSw)
                    go_simp
                    all_goals with_reducible rfl
                  simp only [List.setIfInBounds_toArray, List.set_cons_zero, List.set_cons_succ]
                  refine wpAnyH_takeL (i := 12) 46 (v := ?_) rfl rfl (by kernel_rfl) (by kernel_rfl) (by kernel_rfl) (fun _ _ _ h => h) (Or.inl ⟨by rfl, ?_⟩) hb12 ?_
                  rotate_left
                  · intro w hSw
                    (try dsimp only at hSw)
                    obtain ⟨r0, r1, r2, r3, r4, r5, r6⟩ := hSw.2.2
                    clear hSw
                    go_simp
                    all_goals with_reducible rfl
                  simp only [List.setIfInBounds_toArray, List.set_cons_zero, List.set_cons_succ]
                  refine wpAnyH_ready (rs := [14]) (by kernel_rfl) (by simp) ?_
                  refine AllReadyH.consL rfl (fun K hK => ?_) ?_
                  · obtain ⟨x0, hx0⟩ := (hb12.2.1).ex
                    obtain ⟨c0, c1, c2, c3, c4, c5, c6, cf⟩ := hx0
                    obtain ⟨y, hy⟩ : ∃ y, sel p m x i = y := ⟨_, rfl⟩
                    (try rw [hy])
                    have HY := Lib.hid hy
                    clear hy
                    go_simp
                    have hXS := (hb12.2.1).set HPw.out y
                    refine hK.out _ _ ?_ (fun hHeld => ?_)
                    · exact ⟨hXS.cb, (hXS.cx (hb12.2.1)), ((hb12.2.2).far (by omega))⟩
                    clear hK K
                    refine wpAnyH_go (fun w' => CB w P D p m w' ∧ CX w P D X p m w' ∧ Row7 N (i * 7) (sel p m x i) w' ∧ XS w P D X p m (sel p m x i) w') (fun _ h => ⟨h.1, h.2.1, h.2.2.1⟩) ⟨hHeld.1, hHeld.2.1, hHeld.2.2, (by rw [HY.out]; exact hXS)⟩ (fun Wb15 hb15 => ?_)
                    clear hHeld
                    refine wpAnyH_done (by kernel_rfl) ?_ _
                    go_wp2_with fail
                    go_meet
                    exact ⟨_, _, rfl, sel_sm i HP HM HX, hb15.2.2.2⟩
                  exact AllReadyH.nil
                exact AllReadyH.nil
              exact AllReadyH.nil
            refine AllReadyH.consL rfl (fun K hK => ?_) ?_
            · go_simp
              have hCX := (hb9).alloc
              obtain ⟨X, hX⟩ : ∃ X, Wb9.heap.size = X := ⟨_, rfl⟩
              rw [hX] at hCX ⊢
              clear hX
              refine hK.out _ _ ?_ (fun hHeld => ?_)
              · exact ((hb9).over (below_alloc _ _))
              clear hK K
              refine wpAnyH_go (fun w' => CB w P D p m w' ∧ CX w P D X p m w') (fun _ h => h.1) ⟨hHeld, hCX⟩ (fun Wb10 hb10 => ?_)
              clear hHeld
              refine wpAnyH_ready (rs := [8]) (by kernel_rfl) (by simp) ?_
              refine AllReadyH.consL rfl (fun K hK => ?_) ?_
              · go_simp
                refine (change_b _ _ _ Wb10 HM HS).mono ?_
                rintro e w' ⟨x, rfl, HX, hb⟩
                (try go_wp2_with fail)
                refine hK.out _ _ ?_ (fun hHeld => ?_)
                · exact ⟨((hb10.1).over hb), ((hb10.2).over hb)⟩
                clear hK K
                refine wpAnyH_go (fun w' => CB w P D p m w' ∧ CX w P D X p m w') (fun _ h => h) hHeld (fun Wb11 hb11 => ?_)
                clear hHeld
                refine wpAnyH_ready (rs := [9]) (by kernel_rfl) (by simp) ?_
                refine AllReadyH.consL rfl (fun K hK => ?_) ?_
                · go_simp
                  have hlit := lit_sel Wb11 p m x i hlt
                  have hNX := (hb11.2).lt
                  obtain ⟨N, hN⟩ : ∃ N, Wb11.heap.size = N := ⟨_, rfl⟩
                  rw [hN] at hlit hNX ⊢
                  clear hN
                  refine hK.out _ _ ?_ (fun hHeld => ?_)
                  · exact ⟨((hb11.1).over (below_alloc _ _)), ((hb11.2).over (below_alloc _ _))⟩
                  clear hK K
                  refine wpAnyH_go (fun w' => CB w P D p m w' ∧ CX w P D X p m w' ∧ Row7 N (i * 7) (sel p m x i) w') (fun _ h => ⟨h.1, h.2.1⟩) ⟨hHeld.1, hHeld.2, hlit⟩ (fun Wb12 hb12 => ?_)
                  clear hHeld
                  refine wpAnyH_takeL (i := 11) 45 (v := ?_) rfl rfl (by kernel_rfl) (by kernel_rfl) (by kernel_rfl) (fun _ _ _ h => h) (Or.inl ⟨by rfl, ?_⟩) hb12 ?_
                  rotate_left
                  · intro w hSw
                    (try dsimp only at hSw)
                    go_simp
                    all_goals with_reducible rfl
                  simp only [List.setIfInBounds_toArray, List.set_cons_zero, List.set_cons_succ]
                  refine wpAnyH_takeL (i := 12) 46 (v := ?_) rfl rfl (by kernel_rfl) (by kernel_rfl) (by kernel_rfl) (fun _ _ _ h => h) (Or.inl ⟨by rfl, ?_⟩) hb12 ?_
                  rotate_left
                  · intro w hSw
                    (try dsimp only at hSw)
                    obtain ⟨r0, r1, r2, r3, r4, r5, r6⟩ := hSw.2.2
                    clear hSw
                    go_simp
                    all_goals with_reducible rfl
                  simp only [List.setIfInBounds_toArray, List.set_cons_zero, List.set_cons_succ]
                  refine wpAnyH_ready (rs := [14]) (by kernel_rfl) (by simp) ?_
                  refine AllReadyH.consL rfl (fun K hK => ?_) ?_
                  · obtain ⟨x0, hx0⟩ := (hb12.2.1).ex
                    obtain ⟨c0, c1, c2, c3, c4, c5, c6, cf⟩ := hx0
                    obtain ⟨y, hy⟩ : ∃ y, sel p m x i = y := ⟨_, rfl⟩
                    (try rw [hy])
                    have HY := Lib.hid hy
                    clear hy
                    go_simp
                    have hXS := (hb12.2.1).set HPw.out y
                    refine hK.out _ _ ?_ (fun hHeld => ?_)
                    · exact ⟨hXS.cb, (hXS.cx (hb12.2.1)), ((hb12.2.2).far (by omega))⟩
                    clear hK K
                    refine wpAnyH_go (fun w' => CB w P D p m w' ∧ CX w P D X p m w' ∧ Row7 N (i * 7) (sel p m x i) w' ∧ XS w P D X p m (sel p m x i) w') (fun _ h => ⟨h.1, h.2.1, h.2.2.1⟩) ⟨hHeld.1, hHeld.2.1, hHeld.2.2, (by rw [HY.out]; exact hXS)⟩ (fun Wb15 hb15 => ?_)
                    clear hHeld
                    refine wpAnyH_done (by kernel_rfl) ?_ _
                    go_wp2_with fail
                    go_meet
                    exact ⟨_, _, rfl, sel_sm i HP HM HX, hb15.2.2.2⟩
                  exact AllReadyH.nil
                exact AllReadyH.nil
              exact AllReadyH.nil
            exact AllReadyH.nil
          refine AllReadyH.consL rfl (fun K hK => ?_) ?_
          · go_simp
            have hCX := (hb0).alloc
            obtain ⟨X, hX⟩ : ∃ X, Wb0.heap.size = X := ⟨_, rfl⟩
            rw [hX] at hCX ⊢
            clear hX
            refine hK.out _ _ ?_ (fun hHeld => ?_)
            · exact ((hb0).over (below_alloc _ _))
            clear hK K
            refine wpAnyH_go (fun w' => CB w P D p m w' ∧ CX w P D X p m w') (fun _ h => h.1) ⟨hHeld, hCX⟩ (fun Wb9 hb9 => ?_)
            clear hHeld
            refine wpAnyH_ready (rs := [6]) (by kernel_rfl) (by simp) ?_
            refine AllReadyH.consL rfl (fun K hK => ?_) ?_
            · go_simp
              refine (limits_b _ _ Wb9 H3).mono ?_
              rintro e w' ⟨r, rfl, hb⟩
              (try go_wp2_with fail)
              refine hK.out _ _ ?_ (fun hHeld => ?_)
              · exact ⟨((hb9.1).over hb), ((hb9.2).over hb)⟩
              clear hK K
              refine wpAnyH_go (fun w' => CB w P D p m w' ∧ CX w P D X p m w') (fun _ h => h) hHeld (fun Wb10 hb10 => ?_)
              clear hHeld
              refine wpAnyH_ready (rs := [8]) (by kernel_rfl) (by simp) ?_
              refine AllReadyH.consL rfl (fun K hK => ?_) ?_
              · go_simp
                refine (change_b _ _ _ Wb10 HM HS).mono ?_
                rintro e w' ⟨x, rfl, HX, hb⟩
                (try go_wp2_with fail)
                refine hK.out _ _ ?_ (fun hHeld => ?_)
                · exact ⟨((hb10.1).over hb), ((hb10.2).over hb)⟩
                clear hK K
                refine wpAnyH_go (fun w' => CB w P D p m w' ∧ CX w P D X p m w') (fun _ h => h) hHeld (fun Wb11 hb11 => ?_)
                clear hHeld
                refine wpAnyH_ready (rs := [9]) (by kernel_rfl) (by simp) ?_
                refine AllReadyH.consL rfl (fun K hK => ?_) ?_
                · go_simp
                  have hlit := lit_sel Wb11 p m x i hlt
                  have hNX := (hb11.2).lt
                  obtain ⟨N, hN⟩ : ∃ N, Wb11.heap.size = N := ⟨_, rfl⟩
                  rw [hN] at hlit hNX ⊢
                  clear hN
                  refine hK.out _ _ ?_ (fun hHeld => ?_)
                  · exact ⟨((hb11.1).over (below_alloc _ _)), ((hb11.2).over (below_alloc _ _))⟩
                  clear hK K
                  refine wpAnyH_go (fun w' => CB w P D p m w' ∧ CX w P D X p m w' ∧ Row7 N (i * 7) (sel p m x i) w') (fun _ h => ⟨h.1, h.2.1⟩) ⟨hHeld.1, hHeld.2, hlit⟩ (fun Wb12 hb12 => ?_)
                  clear hHeld
                  refine wpAnyH_takeL (i := 11) 45 (v := ?_) rfl rfl (by kernel_rfl) (by kernel_rfl) (by kernel_rfl) (fun _ _ _ h => h) (Or.inl ⟨by rfl, ?_⟩) hb12 ?_
                  rotate_left
                  · intro w hSw
                    (try dsimp only at hSw)
                    go_simp
                    all_goals with_reducible rfl
                  simp only [List.setIfInBounds_toArray, List.set_cons_zero, List.set_cons_succ]
                  refine wpAnyH_takeL (i := 12) 46 (v := ?_) rfl rfl (by kernel_rfl) (by kernel_rfl) (by kernel_rfl) (fun _ _ _ h => h) (Or.inl ⟨by rfl, ?_⟩) hb12 ?_
                  rotate_left
                  · intro w hSw
                    (try dsimp only at hSw)
                    obtain ⟨r0, r1, r2, r3, r4, r5, r6⟩ := hSw.2.2
                    clear hSw
                    go_simp
                    all_goals with_reducible rfl
                  simp only [List.setIfInBounds_toArray, List.set_cons_zero, List.set_cons_succ]
                  refine wpAnyH_ready (rs := [14]) (by kernel_rfl) (by simp) ?_
                  refine AllReadyH.consL rfl (fun K hK => ?_) ?_
                  · obtain ⟨x0, hx0⟩ := (hb12.2.1).ex
                    obtain ⟨c0, c1, c2, c3, c4, c5, c6, cf⟩ := hx0
                    obtain ⟨y, hy⟩ : ∃ y, sel p m x i = y := ⟨_, rfl⟩
                    (try rw [hy])
                    have HY := Lib.hid hy
                    clear hy
                    go_simp
                    have hXS := (hb12.2.1).set HPw.out y
                    refine hK.out _ _ ?_ (fun hHeld => ?_)
                    · exact ⟨hXS.cb, (hXS.cx (hb12.2.1)), ((hb12.2.2).far (by omega))⟩
                    clear hK K
                    refine wpAnyH_go (fun w' => CB w P D p m w' ∧ CX w P D X p m w' ∧ Row7 N (i * 7) (sel p m x i) w' ∧ XS w P D X p m (sel p m x i) w') (fun _ h => ⟨h.1, h.2.1, h.2.2.1⟩) ⟨hHeld.1, hHeld.2.1, hHeld.2.2, (by rw [HY.out]; exact hXS)⟩ (fun Wb15 hb15 => ?_)
                    clear hHeld
                    refine wpAnyH_done (by kernel_rfl) ?_ _
                    go_wp2_with fail
                    go_meet
                    exact ⟨_, _, rfl, sel_sm i HP HM HX, hb15.2.2.2⟩
                  exact AllReadyH.nil
                exact AllReadyH.nil
              exact AllReadyH.nil
            exact AllReadyH.nil
          exact AllReadyH.nil
        case rest =>
          obtain ⟨X, x, rfl, HX, hxs⟩ := hcut
          have HXS := Lib.hid hxs
          obtain ⟨c0, c1, c2, c3, c4, c5, c6⟩ := keepX hxs
          have h1 := HX.out.1
          have h2 := HX.out.2
          clear hxs HC
          go_wp2_with fail
          refine (print_calls x wc (Tabs.below HT.out HXS.out.1.2.2) (by omega) (by omega)).mono ?_
          rintro e w6 ⟨rfl, hb6⟩
          have HX6 := Lib.hid (HXS.out.over hb6)
          clear hb6 HXS c0 c1 c2 c3 c4 c5 c6
          obtain ⟨c0, c1, c2, c3, c4, c5, c6⟩ := keepX HX6.out
          go_wp2_with fail
          refine (refprint_calls x w6 (by omega) (by omega)).mono ?_
          rintro e w7 ⟨rfl, hb7⟩
          have HX7 := Lib.hid (HX6.out.over hb7)
          clear hb7 HX6 c0 c1 c2 c3 c4 c5 c6 h1 h2
          obtain ⟨q, hq⟩ : ∃ q, printM x = q := ⟨_, rfl⟩
          rw [hq]
          clear hq
          have hxd := HX7.out.drew
          go_upto_region 14 with (fail)
          go_region_held3 (fun w' => w'.cell? ⟨X, 0, none⟩ = some (.int .i64 x.k) ∧ w'.cell? ⟨X, 1, none⟩ = some (.string x.nm) ∧ w'.cell? ⟨X, 2, none⟩ = some (.string x.bl) ∧ w'.cell? ⟨X, 3, none⟩ = some (.int .i64 x.wi) ∧ w'.cell? ⟨X, 4, none⟩ = some (.int .i64 x.ca) ∧ w'.cell? ⟨X, 5, none⟩ = some (.int .i64 x.le) ∧ w'.cell? ⟨X, 6, none⟩ = some (.int .i64 x.be)) (first | assumption | exact keepX (by with_reducible assumption))
            (first | (go_at_call 20; refine (check_xs HT HX (by with_reducible assumption)).mono ?_; (try clear hxd); rintro e w' ⟨rfl, hxd⟩) | (go_at_call 24; refine (refcheck_xs HX (by with_reducible assumption)).mono ?_; (try clear hxd); rintro e w' ⟨rfl, hxd⟩))
          all_goals
            go_wp2_with fail
            go_roundg (3 - (i + 1))
            case measure => omega
            case rel => exact ⟨i + 1, by go_num, by omega, Nat.le_refl _, Lib.hid ⟨hxd.1, hxd.2.1, fun _ h => by cases h⟩⟩
      · have hltz : ¬ (i : Int) < 3 := by omega
        go_wp2_with fail
        go_ret
        exact ⟨rfl, HC.out.qp.2.2⟩
  · have hsz : (100 : Int) < (a5.size : Int) := by omega
    go_wp2_with fail
    go_ret
    exact ⟨rfl, HQ2.out.2.2⟩
end PL
end Go.Proofs.YtbiolondnkeakaaDoor
