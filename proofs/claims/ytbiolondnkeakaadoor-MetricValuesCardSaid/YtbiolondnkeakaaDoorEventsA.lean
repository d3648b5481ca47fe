/- The making of events: its state in memory, and what its callees do with it. -/
import Derived.Test.YtbiolondnkeakaaDoorLong
import Derived.Deep.RegionHeld3
namespace Go
section
variable {P : Program} {ops : Array Oper} {Q : Exit → Act → World → Prop} {md : Region.Mode} {S S' : World → Prop}
/-- A condition may grow on the way through a region. -/
theorem wpAnyH_more (h1 : ∀ w, S' w → S w) : ∀ (fuel : Nat) (listed : Array Bool) (a : Act) (w : World), wpAnyH P md ops Q S' fuel listed a w → wpAnyH P md ops Q S fuel listed a w
  | 0, _, _, _, h => h
  | fuel + 1, _, _, _, h => ⟨h.1, fun i hi => wpOp_mono (fun a' w' h' => ⟨h1 w' h'.1, wpAnyH_more h1 fuel _ a' w' h'.2⟩) (h.2 i hi)⟩
/-- The world is forgotten: what is known of it is the (grown) condition. -/
theorem wpAnyH_go {fuel : Nat} {listed : Array Bool} {a : Act} {w : World} (S' : World → Prop) (h1 : ∀ w, S' w → S w) (h2 : S' w) (h3 : ∀ W, S' W → wpAnyH P md ops Q S' fuel listed a W) : wpAnyH P md ops Q S fuel listed a w :=
  wpAnyH_more h1 _ _ _ _ (h3 w h2)
theorem wpAnyH_keep {fuel : Nat} {listed : Array Bool} {a : Act} {w : World} (h2 : S w) (h3 : ∀ W, S W → wpAnyH P md ops Q S fuel listed a W) : wpAnyH P md ops Q S fuel listed a w := h3 w h2
/-- An operation of a written row. -/
theorem opL {i : Nat} {o : Oper} (h : (ops.toList.drop i).head? = some o) : ops[i]? = some o := by
  rw [List.head?_drop, Array.getElem?_toList] at h
  exact h
/-- 'wpAnyH_take', the operation and its temporary written out. -/
theorem wpAnyH_takeL {i : Nat} (d : Nat) {oi : Oper} {v : Value} {fuel : Nat} {listed : Array Bool} {a : Act} {w : World} (hi : (ops.toList.drop i).head? = some oi) (hd : oi.dst = some d)
    (hs : Region.noSelect ops = true) (hf : Region.free md ops listed i = true) (hr : (Region.ready md ops listed).contains i = true)
    (hQ : ∀ c a w, Q (.panic c) (a.put oi.dst v) w → Q (.panic c) a w) (hy : YieldsIf P ops S oi v a) (hS : S w)
    (h : wpAnyH P md ops Q S fuel (listed.setIfInBounds i true) { a with tmps := a.tmps.setIfInBounds d v } w) : wpAnyH P md ops Q S (fuel + 1) listed a w :=
  wpAnyH_take (opL hi) hs hf hr hQ hy hS (by rw [hd]; exact h)
/-- The same, what a program can pay left to it. -/
theorem tk (i d : Nat) {oi : Oper} {v : Value} {fuel : Nat} {listed : Array Bool} {a : Act} {w : World} (hS : S w) (hy : ∀ w, S w → (execOp a.eval oi).run P w = .ok (.value v) w)
    (h : wpAnyH P md ops Q S fuel (listed.setIfInBounds i true) { a with tmps := a.tmps.setIfInBounds d v } w) (hi : (ops.toList.drop i).head? = some oi := by rfl) (hd : oi.dst = some d := by rfl)
    (hs : Region.noSelect ops = true := by kernel_rfl) (hf : Region.free md ops listed i = true := by kernel_rfl) (hr : (Region.ready md ops listed).contains i = true := by kernel_rfl)
    (hQ : ∀ c a w, Q (.panic c) (a.put oi.dst v) w → Q (.panic c) a w := by exact fun _ _ _ h => h) (hw : Region.wanted oi (yielded ops a.tmps) = true := by rfl) : wpAnyH P md ops Q S (fuel + 1) listed a w :=
  wpAnyH_takeL d hi hd hs hf hr hQ (.inl ⟨hw, hy⟩) hS h
/-- 'AllReadyH.cons', the operation written out. -/
theorem AllReadyH.consL {fuel : Nat} {listed : Array Bool} {a : Act} {w : World} {i : Nat} {o : Oper} {rs : List Nat} (ho : (ops.toList.drop i).head? = some o)
    (h : ∀ K' : Act → World → Prop, Shut (∀ a w, S w → (S w → wpAnyH P md ops Q S fuel (listed.setIfInBounds i true) a w) → K' a w) → if Region.wanted o (yielded ops a.tmps) = true then Oper.wp P o a w K' Q else K' (a.put o.dst undef) w)
    (hs : AllReadyH P md ops Q S fuel listed a w rs) : AllReadyH P md ops Q S fuel listed a w (i :: rs) := AllReadyH.cons (opL ho) h hs
end
end Go
namespace Go.Proofs.YtbiolondnkeakaaDoor
open Go.RowKit Go.Proofs.YtbiolondnkeakaaDoor.PT Go.Proofs.YtbiolondnkeakaaDoorW.PrintWords Go.Proofs.YtbiolondnkeakaaDoorW.PrintLast Go.Proofs.YtbiolondnkeakaaDoorW.PrintMore Plain

/-- An event's own block. -/
def IsE (M : Nat) (x : Ev) (W : World) : Prop := (∀ i v, x.cells[i]? = some v → W.cell? ⟨M, i, none⟩ = some v) ∧ ∀ i, W.frozen? ⟨M, i, none⟩ = false
theorem IsE.at {M : Nat} {x : Ev} {W : World} (h : IsE M x W) :
    W.cell? ⟨M, 0, none⟩ = some (.string x.cl) ∧ W.cell? ⟨M, 1, none⟩ = some (.int .i64 x.sq) ∧ W.cell? ⟨M, 2, none⟩ = some (.int .i64 x.kd) ∧ W.cell? ⟨M, 3, none⟩ = some (.int .i64 x.ti) ∧ W.cell? ⟨M, 4, none⟩ = some (.string x.id) ∧
    W.cell? ⟨M, 5, none⟩ = some (.string x.nm) ∧ W.cell? ⟨M, 6, none⟩ = some (.string x.ot) ∧ W.cell? ⟨M, 7, none⟩ = some (.int .i64 x.vr) ∧ W.cell? ⟨M, 8, none⟩ = some (.int .i64 x.ar) ∧ W.cell? ⟨M, 9, none⟩ = some (.int .i64 x.va) :=
  ⟨h.1 0 _ rfl, h.1 1 _ rfl, h.1 2 _ rfl, h.1 3 _ rfl, h.1 4 _ rfl, h.1 5 _ rfl, h.1 6 _ rfl, h.1 7 _ rfl, h.1 8 _ rfl, h.1 9 _ rfl⟩
theorem IsE.lt {M : Nat} {x : Ev} {W : World} (h : IsE M x W) : M < W.heap.size := World.block_lt_of_cell? W _ h.at.1
theorem IsE.move {M : Nat} {x : Ev} {W w' : World} (h : IsE M x W) (hb : w'.heap[M]? = W.heap[M]?) : IsE M x w' :=
  ⟨fun i v hv => (World.cell?_of_block (w := W) (a := ⟨M, i, none⟩) hb).trans (h.1 i v hv), fun i => (World.frozen?_of_block (w := W) (a := ⟨M, i, none⟩) hb).trans (h.2 i)⟩
theorem IsE.set {M : Nat} {x : Ev} {W : World} (h : IsE M x W) (i : Nat) (v : Value) (y : Ev) (hy : y.cells = x.cells.set i v) : IsE M y (W.setCell ⟨M, i, none⟩ v) := by
  refine ⟨fun j u hu => ?_, fun j => (World.frozen?_setCell _ _ _ _).trans (h.2 j)⟩
  rw [hy] at hu
  by_cases hij : i = j
  · subst hij
    have hl : i < x.cells.length := by
      by_cases hl : i < x.cells.length
      · exact hl
      · rw [List.getElem?_eq_none (by rw [List.length_set]; omega)] at hu; cases hu
    rw [List.getElem?_set_self hl] at hu
    cases hu
    exact World.cell?_setCell_same _ _ _ (h.1 i _ (List.getElem?_eq_getElem hl))
  · rw [List.getElem?_set_ne hij] at hu
    exact (cell_at_other W M i j v hij).trans (h.1 j u hu)
theorem IsE.new (W : World) (x : Ev) : IsE W.heap.size x (W.alloc (.cells #[.string x.cl, .int .i64 x.sq, .int .i64 x.kd, .int .i64 x.ti, .string x.id, .string x.nm, .string x.ot, .int .i64 x.vr, .int .i64 x.ar, .int .i64 x.va] 40)) :=
  ⟨fun i v hv => by have := row_new W x 40 0 x rfl i v hv; simpa using this, fun i => by simp⟩
theorem IsE.write {M : Nat} {x : Ev} {W : World} (h : IsE M x W) (y : Ev) :
    IsE M y ((((((((((W.setCell ⟨M, 0, none⟩ (.string y.cl)).setCell ⟨M, 1, none⟩ (.int .i64 y.sq)).setCell ⟨M, 2, none⟩ (.int .i64 y.kd)).setCell ⟨M, 3, none⟩ (.int .i64 y.ti)).setCell ⟨M, 4, none⟩ (.string y.id)).setCell ⟨M, 5, none⟩ (.string y.nm)).setCell ⟨M, 6, none⟩ (.string y.ot)).setCell ⟨M, 7, none⟩ (.int .i64 y.vr)).setCell ⟨M, 8, none⟩ (.int .i64 y.ar)).setCell ⟨M, 9, none⟩ (.int .i64 y.va)) := by
  have g0 := h.set 0 (.string y.cl) { x with cl := y.cl } rfl
  have g1 := g0.set 1 (.int .i64 y.sq) { x with cl := y.cl, sq := y.sq } rfl
  have g2 := g1.set 2 (.int .i64 y.kd) { x with cl := y.cl, sq := y.sq, kd := y.kd } rfl
  have g3 := g2.set 3 (.int .i64 y.ti) { x with cl := y.cl, sq := y.sq, kd := y.kd, ti := y.ti } rfl
  have g4 := g3.set 4 (.string y.id) { x with cl := y.cl, sq := y.sq, kd := y.kd, ti := y.ti, id := y.id } rfl
  have g5 := g4.set 5 (.string y.nm) { x with cl := y.cl, sq := y.sq, kd := y.kd, ti := y.ti, id := y.id, nm := y.nm } rfl
  have g6 := g5.set 6 (.string y.ot) { x with cl := y.cl, sq := y.sq, kd := y.kd, ti := y.ti, id := y.id, nm := y.nm, ot := y.ot } rfl
  have g7 := g6.set 7 (.int .i64 y.vr) { x with cl := y.cl, sq := y.sq, kd := y.kd, ti := y.ti, id := y.id, nm := y.nm, ot := y.ot, vr := y.vr } rfl
  have g8 := g7.set 8 (.int .i64 y.ar) { y with va := x.va } rfl
  exact g8.set 9 (.int .i64 y.va) y rfl

/-- What stays as it was. -/
theorem cell_next {W w' : World} {S B i : Nat} {v : Value} (hk : KeepBut W w' S none) (hne : B ≠ S) (h : W.cell? ⟨B, i, none⟩ = some v) : w'.cell? ⟨B, i, none⟩ = some v := by
  exact (World.cell?_of_block (w := W) (a := ⟨B, i, none⟩) (hk.2 B (World.block_lt_of_cell? W _ h) hne (by simp))).trans h
theorem cell_over {W w' : World} {B i : Nat} {v : Value} (hb : Below W.heap.size W w') (h : W.cell? ⟨B, i, none⟩ = some v) : w'.cell? ⟨B, i, none⟩ = some v :=
  (hb.cell (p := ⟨B, i, none⟩) (World.block_lt_of_cell? W _ h)).trans h
theorem below_alloc (W : World) (o : Obj) : Below W.heap.size W (W.alloc o) := (Below.refl _ _).alloc (Nat.le_refl _) _
theorem below_drew (W : World) : Below W.heap.size W W.drew := (Below.refl _ _).drew

/-- The state of the making: the source in block S, the sequence numbers in block Q, the events so far, the event at hand. -/
structure ES (w0 : World) (S Q : Nat) (l : List Int) (L : List Ev) (v : Value) (Mo : Option Nat) (W : World) : Prop where
  src : ∃ k, k ≤ l.length ∧ SrcAt w0 S l k W
  hS : w0.heap.size ≤ S
  hSQ : S < Q
  hQ : Q < W.heap.size
  seq : ∀ i, i < 3 → ∃ a, W.cell? ⟨Q, i, none⟩ = some (.int .i64 a)
  sfr : ∀ i, W.frozen? ⟨Q, i, none⟩ = false
  out : W.ownsRow (Q + 1) 40 10 v L.length (evCells L)
  ev : ∀ M, Mo = some M → Q < M ∧ v.ownBlock ≠ some M ∧ ∃ x, IsE M x W
theorem ES.keep {w0 W w' : World} {S Q : Nat} {l : List Int} {L : List Ev} {v : Value} {Mo : Option Nat} (h : ES w0 S Q l L v Mo W) (hs : ∃ k, k ≤ l.length ∧ SrcAt w0 S l k w') (hk : KeepBut W w' S none) : ES w0 S Q l L v Mo w' := by
  have h2 := h.hSQ
  have h3 := h.hQ
  refine ⟨hs, h.hS, h2, Nat.lt_of_lt_of_le h3 hk.1, fun i hi => ?_, fun i => ?_, KeepBut.own hk h.out ?_ (by cases v.ownBlock <;> simp), fun M hM => ?_⟩
  · obtain ⟨a, ha⟩ := h.seq i hi
    exact ⟨a, cell_next hk (by omega) ha⟩
  · exact (World.frozen?_of_block (w := W) (a := ⟨Q, i, none⟩) (hk.2 Q h3 (by omega) (by simp))).trans (h.sfr i)
  · intro e
    have := (h.out.lt _ e).1
    omega
  · obtain ⟨r1, r2, x, hx⟩ := h.ev M hM
    exact ⟨r1, r2, x, hx.move (hk.2 M hx.lt (by omega) (by simp))⟩
theorem SrcAt.over {w0 W w' : World} {S : Nat} {l : List Int} {k : Nat} (h : SrcAt w0 S l k W) (hw : w0.heap.size ≤ W.heap.size) (hb : Below W.heap.size W w') : SrcAt w0 S l k w' := by
  obtain ⟨A0, c0, hbk, hg, hr⟩ := h.1
  refine ⟨⟨A0, c0, ?_, hg, hr⟩, h.2.trans (hb.mono hw)⟩
  rw [hb.block S (Array.getElem?_eq_some_iff.1 hbk).1]
  exact hbk
theorem ES.below {w0 W : World} {S Q : Nat} {l : List Int} {L : List Ev} {v : Value} {Mo : Option Nat} (h : ES w0 S Q l L v Mo W) : Below w0.heap.size w0 W := by
  obtain ⟨k, _, hs⟩ := h.src
  exact hs.2
theorem ES.over {w0 W w' : World} {S Q : Nat} {l : List Int} {L : List Ev} {v : Value} {Mo : Option Nat} (h : ES w0 S Q l L v Mo W) (hb : Below W.heap.size W w') : ES w0 S Q l L v Mo w' := by
  obtain ⟨k, hk, hs⟩ := h.src
  exact h.keep ⟨k, hk, hs.over h.below.size hb⟩ (KeepBut.of_below hb S none)
theorem ES.alloc {w0 W : World} {S Q : Nat} {l : List Int} {L : List Ev} {v : Value} {Mo : Option Nat} (h : ES w0 S Q l L v Mo W) (x : Ev) :
    ES w0 S Q l L v (some W.heap.size) (W.alloc (.cells #[.string x.cl, .int .i64 x.sq, .int .i64 x.kd, .int .i64 x.ti, .string x.id, .string x.nm, .string x.ot, .int .i64 x.vr, .int .i64 x.ar, .int .i64 x.va] 40)) := by
  have h' := h.over (below_alloc W (.cells #[.string x.cl, .int .i64 x.sq, .int .i64 x.kd, .int .i64 x.ti, .string x.id, .string x.nm, .string x.ot, .int .i64 x.vr, .int .i64 x.ar, .int .i64 x.va] 40))
  refine ⟨h'.src, h'.hS, h'.hSQ, h'.hQ, h'.seq, h'.sfr, h'.out, fun M hM => ?_⟩
  cases hM
  exact ⟨h.hQ, fun e => Nat.lt_irrefl _ (h.out.lt _ e).2, x, IsE.new W x⟩
theorem ES.alloc0 {w0 W : World} {S Q : Nat} {l : List Int} {L : List Ev} {v : Value} {Mo : Option Nat} (h : ES w0 S Q l L v Mo W) :
    ES w0 S Q l L v (some W.heap.size) (W.alloc (.cells #[.string ⟨#[]⟩, .int .i64 0, .int .i64 0, .int .i64 0, .string ⟨#[]⟩, .string ⟨#[]⟩, .string ⟨#[]⟩, .int .i64 0, .int .i64 0, .int .i64 0] 40)) := h.alloc Ev.zero
/-- A store into the event at hand. -/
theorem ES.put {w0 W w' : World} {S Q M : Nat} {l : List Int} {L : List Ev} {v : Value} (h : ES w0 S Q l L v (some M) W) (hg : W.grownBy w' (some M)) (hb : Below w0.heap.size W w') (hx : ∃ x, IsE M x w') : ES w0 S Q l L v (some M) w' := by
  obtain ⟨k, hk, hs⟩ := h.src
  obtain ⟨r1, r2, x, hxM⟩ := h.ev M rfl
  have h2 := h.hSQ
  have h3 := h.hQ
  obtain ⟨A0, c0, hbk, hg0, hr⟩ := hs.1
  refine ⟨⟨k, hk, ⟨A0, c0, ?_, hg0, hr⟩, hs.2.trans hb⟩, h.hS, h2, Nat.lt_of_lt_of_le h3 hg.size, fun i hi => ?_, fun i => ?_, h.out.kept hg (.inr r2), fun M' hM => ?_⟩
  · rw [hg.block S (by omega) (by simp; omega)]; exact hbk
  · obtain ⟨a, ha⟩ := h.seq i hi
    exact ⟨a, (World.cell?_of_block (w := W) (a := ⟨Q, i, none⟩) (hg.block Q h3 (by simp; omega))).trans ha⟩
  · exact (World.frozen?_of_block (w := W) (a := ⟨Q, i, none⟩) (hg.block Q h3 (by simp; omega))).trans (h.sfr i)
  · cases hM
    exact ⟨r1, r2, hx⟩
theorem ES.set {w0 W : World} {S Q M : Nat} {l : List Int} {L : List Ev} {v : Value} (h : ES w0 S Q l L v (some M) W) (i : Nat) (u : Value) (hx : ∀ x, IsE M x W → ∃ y, IsE M y (W.setCell ⟨M, i, none⟩ u)) : ES w0 S Q l L v (some M) (W.setCell ⟨M, i, none⟩ u) := by
  have h1 := h.hS
  have h2 := h.hSQ
  obtain ⟨r1, r2, x, hxM⟩ := h.ev M rfl
  exact h.put (gb_set W M i u) ((Below.refl _ _).setCell (by show _ ≤ M; omega) _) (hx x hxM)
theorem ES.setCl {w0 W : World} {S Q M : Nat} {l : List Int} {L : List Ev} {v : Value} (h : ES w0 S Q l L v (some M) W) (s : ByteArray) : ES w0 S Q l L v (some M) (W.setCell ⟨M, 0, none⟩ (.string s)) := h.set 0 _ fun x hx => ⟨{ x with cl := s }, hx.set 0 _ _ rfl⟩
theorem ES.setSq {w0 W : World} {S Q M : Nat} {l : List Int} {L : List Ev} {v : Value} (h : ES w0 S Q l L v (some M) W) (s : Int) : ES w0 S Q l L v (some M) (W.setCell ⟨M, 1, none⟩ (.int .i64 s)) := h.set 1 _ fun x hx => ⟨{ x with sq := s }, hx.set 1 _ _ rfl⟩
theorem ES.setKd {w0 W : World} {S Q M : Nat} {l : List Int} {L : List Ev} {v : Value} (h : ES w0 S Q l L v (some M) W) (s : Int) : ES w0 S Q l L v (some M) (W.setCell ⟨M, 2, none⟩ (.int .i64 s)) := h.set 2 _ fun x hx => ⟨{ x with kd := s }, hx.set 2 _ _ rfl⟩
theorem ES.setTi {w0 W : World} {S Q M : Nat} {l : List Int} {L : List Ev} {v : Value} (h : ES w0 S Q l L v (some M) W) (s : Int) : ES w0 S Q l L v (some M) (W.setCell ⟨M, 3, none⟩ (.int .i64 s)) := h.set 3 _ fun x hx => ⟨{ x with ti := s }, hx.set 3 _ _ rfl⟩
theorem ES.setId {w0 W : World} {S Q M : Nat} {l : List Int} {L : List Ev} {v : Value} (h : ES w0 S Q l L v (some M) W) (s : ByteArray) : ES w0 S Q l L v (some M) (W.setCell ⟨M, 4, none⟩ (.string s)) := h.set 4 _ fun x hx => ⟨{ x with id := s }, hx.set 4 _ _ rfl⟩
theorem ES.setNm {w0 W : World} {S Q M : Nat} {l : List Int} {L : List Ev} {v : Value} (h : ES w0 S Q l L v (some M) W) (s : ByteArray) : ES w0 S Q l L v (some M) (W.setCell ⟨M, 5, none⟩ (.string s)) := h.set 5 _ fun x hx => ⟨{ x with nm := s }, hx.set 5 _ _ rfl⟩
theorem ES.setOt {w0 W : World} {S Q M : Nat} {l : List Int} {L : List Ev} {v : Value} (h : ES w0 S Q l L v (some M) W) (s : ByteArray) : ES w0 S Q l L v (some M) (W.setCell ⟨M, 6, none⟩ (.string s)) := h.set 6 _ fun x hx => ⟨{ x with ot := s }, hx.set 6 _ _ rfl⟩
theorem ES.setVr {w0 W : World} {S Q M : Nat} {l : List Int} {L : List Ev} {v : Value} (h : ES w0 S Q l L v (some M) W) (s : Int) : ES w0 S Q l L v (some M) (W.setCell ⟨M, 7, none⟩ (.int .i64 s)) := h.set 7 _ fun x hx => ⟨{ x with vr := s }, hx.set 7 _ _ rfl⟩
theorem ES.setAr {w0 W : World} {S Q M : Nat} {l : List Int} {L : List Ev} {v : Value} (h : ES w0 S Q l L v (some M) W) (s : Int) : ES w0 S Q l L v (some M) (W.setCell ⟨M, 8, none⟩ (.int .i64 s)) := h.set 8 _ fun x hx => ⟨{ x with ar := s }, hx.set 8 _ _ rfl⟩
theorem ES.setVa {w0 W : World} {S Q M : Nat} {l : List Int} {L : List Ev} {v : Value} (h : ES w0 S Q l L v (some M) W) (s : Int) : ES w0 S Q l L v (some M) (W.setCell ⟨M, 9, none⟩ (.int .i64 s)) := h.set 9 _ fun x hx => ⟨{ x with va := s }, hx.set 9 _ _ rfl⟩
theorem ES.write {w0 W : World} {S Q M : Nat} {l : List Int} {L : List Ev} {v : Value} (h : ES w0 S Q l L v (some M) W) (y0 y4 y5 y6 : ByteArray) (y1 y2 y3 y7 y8 y9 : Int) :
    ES w0 S Q l L v (some M) ((((((((((W.setCell ⟨M, 0, none⟩ (.string y0)).setCell ⟨M, 1, none⟩ (.int .i64 y1)).setCell ⟨M, 2, none⟩ (.int .i64 y2)).setCell ⟨M, 3, none⟩ (.int .i64 y3)).setCell ⟨M, 4, none⟩ (.string y4)).setCell ⟨M, 5, none⟩ (.string y5)).setCell ⟨M, 6, none⟩ (.string y6)).setCell ⟨M, 7, none⟩ (.int .i64 y7)).setCell ⟨M, 8, none⟩ (.int .i64 y8)).setCell ⟨M, 9, none⟩ (.int .i64 y9)) :=
  (((((((((h.setCl y0).setSq y1).setKd y2).setTi y3).setId y4).setNm y5).setOt y6).setVr y7).setAr y8).setVa y9
/-- A store into the sequence numbers. -/
theorem ES.setSeq {w0 W : World} {S Q : Nat} {l : List Int} {L : List Ev} {v : Value} {Mo : Option Nat} (h : ES w0 S Q l L v Mo W) (c : Nat) (a : Int) : ES w0 S Q l L v Mo (W.setCell ⟨Q, c, none⟩ (.int .i64 a)) := by
  obtain ⟨k, hk, hs⟩ := h.src
  have h1 := h.hS
  have h2 := h.hSQ
  have h3 := h.hQ
  have hg := gb_set W Q c (.int .i64 a)
  obtain ⟨A0, c0, hbk, hg0, hr⟩ := hs.1
  refine ⟨⟨k, hk, ⟨A0, c0, ?_, hg0, hr⟩, hs.2.setCell (by show _ ≤ Q; omega) _⟩, h1, h2, Nat.lt_of_lt_of_le h3 hg.size, fun i hi => ?_, fun i => (World.frozen?_setCell _ _ _ _).trans (h.sfr i), h.out.kept hg (.inr ?_), fun M hM => ?_⟩
  · rw [hg.block S (by omega) (by simp; omega)]; exact hbk
  · obtain ⟨b, hb⟩ := h.seq i hi
    by_cases hic : c = i
    · subst hic; exact ⟨a, World.cell?_setCell_same _ _ _ hb⟩
    · exact ⟨b, (cell_at_other W Q c i _ hic).trans hb⟩
  · intro e
    have := (h.out.lt _ e).1
    omega
  · obtain ⟨r1, r2, x, hx⟩ := h.ev M hM
    exact ⟨r1, r2, x, hx.move (hg.block M hx.lt (by simp; omega))⟩

theorem more_es {w0 W : World} {S Q : Nat} {l : List Int} {L : List Ev} {v : Value} {Mo : Option Nat} (h : ES w0 S Q l L v Mo W) :
    Calls Tryd.prog 39 #[.pointer (some ⟨S, 0, none⟩)] W fun e w' => ∃ b, e = .returned (.bool b) ∧ ES w0 S Q l L v Mo w' := by
  obtain ⟨k, hk, hs⟩ := h.src
  refine (flagstonedata_Source_More.calls S l (k : Int) _ _ w0 W hs.1 hs.2 rfl).mono ?_
  rintro e w' ⟨rfl, h1, h2, h3⟩
  exact ⟨_, rfl, h.keep ⟨k, hk, h1, h2⟩ h3⟩
theorem next_es {w0 W : World} {S Q : Nat} {l : List Int} {L : List Ev} {v : Value} {Mo : Option Nat} (n : Int) (hl : Hid (Bytes l ∧ l.length ≤ 4611686018427387904)) (hn : 0 < n) (h : ES w0 S Q l L v Mo W) :
    Calls Tryd.prog 27 #[.pointer (some ⟨S, 0, none⟩), .int .i64 n] W fun e w' => ∃ r : Int, e = .returned (.int .i64 r) ∧ 0 ≤ r ∧ r < n ∧ ES w0 S Q l L v Mo w' ∧ KeepBut W w' S none := by
  obtain ⟨k, hk, hs⟩ := h.src
  refine (next_in n hl.out hn hk hs).mono ?_
  rintro e w' ⟨rfl, h1, h2⟩
  obtain ⟨r0, r1⟩ := nxV_range l k hn
  exact ⟨_, rfl, r0, r1, h.keep ⟨_, nxA_le hk, h1⟩ h2, h2⟩
theorem id_some (a : Int) (h : 0 ≤ a) : ∃ s, flagstonedata_Id.f a = some s := by
  have h1 : 0 ≤ Int.tmod a 6 := Int.tmod_nonneg _ h
  have h2 : Int.tmod a 6 < 6 := Int.tmod_lt_of_pos _ (by decide)
  unfold flagstonedata_Id.f flagstonedata_Ids.f
  rw [Option.bind_some, Option.bind_some, if_neg (by decide), if_pos (by exact h1), if_pos (by exact h2)]
  exact ⟨_, rfl⟩
theorem id_es {w0 W : World} {S Q : Nat} {l : List Int} {L : List Ev} {v : Value} {Mo : Option Nat} (a : Int) (ha : 0 ≤ a) (h : ES w0 S Q l L v Mo W) :
    Calls Tryd.prog 40 #[.int .i64 a] W fun e w' => ∃ s, e = .returned (.string s) ∧ ES w0 S Q l L v Mo w' ∧ Below W.heap.size W w' := by
  obtain ⟨s, hs⟩ := id_some a ha
  refine (flagstonedata_Id.calls a s W hs).mono ?_
  rintro e w' ⟨rfl, hb⟩
  exact ⟨s, rfl, h.over hb, hb⟩
theorem names_es {w0 W : World} {S Q : Nat} {l : List Int} {L : List Ev} {v : Value} {Mo : Option Nat} (h : ES w0 S Q l L v Mo W) :
    Calls Tryd.prog 16 #[] W fun e w' => ∃ N, e = .returned (.slice (some ⟨N, 0, none⟩) 2 2) ∧ ES w0 S Q l L v Mo w' ∧ Below W.heap.size W w' ∧ W.heap.size ≤ N ∧ w'.cell? ⟨N, 0, none⟩ = some (.string sBuy) ∧ w'.cell? ⟨N, 1, none⟩ = some (.string sVisit) := by
  refine (names_in W).mono ?_
  rintro e w' ⟨rfl, rfl⟩
  exact ⟨_, rfl, h.over (below_alloc _ _), below_alloc _ _, Nat.le_refl _, by simp, by simp⟩
/-- flagstonedata.Experiments. -/
theorem exps_es {w0 W : World} {S Q : Nat} {l : List Int} {L : List Ev} {v : Value} {Mo : Option Nat} (h : ES w0 S Q l L v Mo W) :
    Calls Tryd.prog 41 #[] W fun e w' => ∃ N s0 s1, e = .returned (.slice (some ⟨N, 0, none⟩) 4 4) ∧ ES w0 S Q l L v Mo w' ∧ Below W.heap.size W w' ∧ W.heap.size ≤ N ∧ w'.cell? ⟨N, 0, none⟩ = some (.string s0) ∧ w'.cell? ⟨N, 1, none⟩ = some (.string s1) := by
  have hg : Calls Tryd.prog 41 #[] W fun e w' => e = .returned (.slice (some ⟨W.heap.size, 0, none⟩) 4 4) ∧ w' = W.alloc (.cells #[.string ⟨#[98, 108, 117, 101]⟩, .string ⟨#[103, 114, 101, 101, 110]⟩, .string ⟨#[102, 97, 115, 116]⟩, .string ⟨#[115, 108, 111, 119]⟩] 9) := by
    go_enter Tryd.func41, Tryd.ntmps41
    go_wp2
    go_ret
    exact ⟨rfl, rfl⟩
  refine hg.mono ?_
  rintro e w' ⟨rfl, rfl⟩
  exact ⟨_, _, _, rfl, h.over (below_alloc _ _), below_alloc _ _, Nat.le_refl _, by simp; rfl, by simp; rfl⟩
end Go.Proofs.YtbiolondnkeakaaDoor
