/- The two graphs side by side, and the operations over them. -/
import Derived.Test.YtkldomkooleecaaGreatDoorSim
import Derived.Test.YtkldomkooleecaaGreatDoorGen32

namespace Go.Proofs.YtkldomkooleecaaGreatDoor
open Go.RowKit Go.Maps Go.MapKept

def Gw (b nb eb : Nat) (y : Nat) : Prop := y ≠ b ∧ y ≠ nb ∧ y ≠ eb
def Fw (w : World) (R : Nat) (y : Nat) : Prop := y ≠ R ∧ ¬ OwnAt w ⟨R, 0, none⟩ y
/-- Neither graph turns block y. -/
def Free (w : World) (b nb eb R : Nat) (y : Nat) : Prop := y < w.heap.size ∧ y ≠ b ∧ y ≠ nb ∧ y ≠ eb ∧ y ≠ R ∧ ¬ OwnAt w ⟨R, 0, none⟩ y

inductive Step (b nb eb R : Nat) (w w' : World) : Prop
  | mk (M : List Nat) (hM : ∀ y ∈ M, ¬ Free w b nb eb R y) (hk : Kept M w w') (hf : ∀ y, Free w b nb eb R y → Free w' b nb eb R y)
section
variable {b nb eb R : Nat} {w w' : World}
theorem Step.size (h : Step b nb eb R w w') : w.heap.size ≤ w'.heap.size := by obtain ⟨M, _, hk, _⟩ := h; exact hk.size
theorem Step.free (h : Step b nb eb R w w') {y : Nat} (hy : Free w b nb eb R y) : Free w' b nb eb R y := by obtain ⟨M, _, _, hf⟩ := h; exact hf y hy
theorem Step.refl (b nb eb R : Nat) (w : World) : Step b nb eb R w w := ⟨[], by simp, Kept.refl _ _, fun _ h => h⟩
theorem Step.trans {a c : World} (h : Step b nb eb R a w) (k : Step b nb eb R w c) : Step b nb eb R a c := by
  obtain ⟨M, h1, h2, h3⟩ := h
  obtain ⟨M', k1, k2, k3⟩ := k
  refine ⟨M ++ M', fun y hy hf => ?_, (h2.mono (M' := M ++ M') (fun x hx => .inl (by simp [hx]))).trans (k2.mono (M' := M ++ M') (fun x hx => .inl (by simp [hx]))), fun y hy => k3 y (h3 y hy)⟩
  rcases List.mem_append.1 hy with hy | hy
  · exact h1 y hy hf
  · exact k1 y hy (h3 y hf)
/-- What reads through blocks that are free stands. -/
theorem Step.rd (h : Step b nb eb R w w') {β : Type} {Q : (Nat → Prop) → World → Value → β → Prop} {e : Value} {x : β} {S : Nat → Prop} (hQ : Good Q) (hq : Q S w e x) (hS : ∀ y, S y → Free w b nb eb R y) : Q S w' e x := by
  obtain ⟨M, h1, h2, _⟩ := h
  exact hQ.kept hq h2 (fun y hy hs => h1 y hy (hS y hs))
theorem Step.reads (h : Step b nb eb R w w') {e : Value} {n : Nat} {rs : List (List Value)} {S : Nat → Prop} (hq : Reads S w e n rs) (hS : ∀ y, S y → Free w b nb eb R y) : Reads S w' e n rs := by
  obtain ⟨M, h1, h2, _⟩ := h
  exact hq.kept h2 (fun y hy hs => h1 y hy (hS y hs))
theorem Step.blk (h : Step b nb eb R w w') {A : Nat} {cs : List Value} {t : TypeId} (hA : Free w b nb eb R A) (hb : Blk w A cs t) : Blk w' A cs t := by
  obtain ⟨M, h1, h2, _⟩ := h
  exact hb.kept h2 (fun hm => h1 A hm hA)
theorem Step.tabs {tb : Nat} (h : Step b nb eb R w w') (hf : ∀ y, y < tb → Free w b nb eb R y) (hT : Tabs tb w) : Tabs tb w' := by
  obtain ⟨M, h1, h2, _⟩ := h
  exact hT.kept h2 (fun y hy => Nat.le_of_not_lt fun hl => h1 y hy (hf y hl))
theorem Step.range (h : Step b nb eb R w w') {c off : Nat} {r : List Value} (hb : Free w b nb eb R c) (hr : w.rangeAt c off r) : w'.rangeAt c off r := by
  obtain ⟨M, h1, h2, _⟩ := h
  exact h2.range hr (fun hm => h1 c hm hb)
/-- Over the whole play nothing old turns. -/
theorem Step.whole {w0 : World} (h : Step b nb eb R w w') (k : Kept [] w0 w) (hf : ∀ y, y < w0.heap.size → Free w b nb eb R y) : Kept [] w0 w' := by
  obtain ⟨M, h1, h2, _⟩ := h
  exact k.trans' h2 (fun y hy => .inr (Nat.le_of_not_lt fun hl => h1 y hy (hf y hl)))
end

/-- The graph at b with its maps at nb and eb, and the reference graph at R. -/
structure PSt (b nb eb R base d : Nat) (w : World) (last : Nat) (ns : List Nd) (rs : List RN) : Prop where
  gat : GAt d w b nb eb base last ns
  dat : ∀ x ∈ ns, DL d (fun y => base ≤ y ∧ Fw w R y) w x.dv x.deps ∧ Reads (fun y => base ≤ y ∧ Fw w R y) w x.uv 1 (irows x.uses)
  rg : RG (Gw b nb eb) d w R base rs
  Rb : R ≠ b
  Rn : R ≠ nb
  Re : R ≠ eb

section
variable {b nb eb R base d : Nat} {w w' : World} {last : Nat} {ns : List Nd} {rs : List RN}
theorem PSt.cell (h : PSt b nb eb R base d w last ns rs) : ∃ v, w.cell? ⟨R, 0, none⟩ = some v ∧ ∀ y, v.ownBlock = some y → base ≤ y ∧ y < w.heap.size := by
  obtain ⟨v, hb, _, hg⟩ := h.rg.data
  exact ⟨v, hb.cell 0 _ rfl, hg.lt⟩
theorem PSt.own (h : PSt b nb eb R base d w last ns rs) {y : Nat} (hy : OwnAt w ⟨R, 0, none⟩ y) : base ≤ y ∧ y < w.heap.size := by
  obtain ⟨v, hv, ho⟩ := h.cell
  exact ho y ((OwnAt.of hv y).1 hy)
theorem PSt.gop {M : List Nat} {last' : Nat} {ns' : List Nd} (h : PSt b nb eb R base d w last ns rs) (hg : GAt d w' b nb eb base last' ns') (k : Kept M w w') (hM : ∀ y ∈ M, y = b ∨ y = nb ∨ y = eb)
    (hn : ∀ x ∈ ns', x ∈ ns ∨ (DL d (w.heap.size ≤ ·) w' x.dv x.deps ∧ Reads (w.heap.size ≤ ·) w' x.uv 1 (irows x.uses))) : PSt b nb eb R base d w' last' ns' rs ∧ Step b nb eb R w w' := by
  obtain ⟨v, hv, _⟩ := h.cell
  have hRM : R ∉ M := fun hy => by
    rcases hM R hy with q | q | q
    · exact h.Rb q
    · exact h.Rn q
    · exact h.Re q
  have i0 := fun y => OwnAt.kept hv k hRM y
  have q1 := h.gat.lt1
  have q2 := h.gat.lt2
  have q3 := h.gat.lt3
  have q4 := h.gat.lt4
  have q5 := h.rg.lt
  have q6 := k.size
  have hMb : ∀ y ∈ M, y < base := fun y hy => by rcases hM y hy with q | q | q <;> omega
  refine ⟨⟨hg, fun x hx => ?_, h.rg.kept k (fun y hy => ⟨fun e => hRM (e ▸ hy), fun hq => ?_⟩), h.Rb, h.Rn, h.Re⟩, .mk M (fun y hy hf => ?_) k (fun y hy => ?_)⟩
  · rcases hn x hx with hx | ⟨hx1, hx2⟩
    · obtain ⟨d1, d2⟩ := h.dat x hx
      exact ⟨(DL.good d).mono ((DL.good d).kept d1 k (fun y hy hq => by have := hMb y hy; omega)) (fun y _ hq => ⟨hq.1, hq.2.1, fun e => hq.2.2 ((i0 y).1 e)⟩), (d2.kept k (fun y hy hq => by have := hMb y hy; omega)).mono (fun y _ hq => ⟨hq.1, hq.2.1, fun e => hq.2.2 ((i0 y).1 e)⟩)⟩
    · have key : ∀ y, w.heap.size ≤ y → base ≤ y ∧ Fw w' R y := fun y hy => ⟨by omega, by omega, fun e => by have := (h.own ((i0 y).1 e)).2; omega⟩
      exact ⟨(DL.good d).mono hx1 (fun y _ hq => key y hq), hx2.mono (fun y _ hq => key y hq)⟩
  · obtain ⟨g1, g2, g3⟩ := hq
    rcases hM y hy with q | q | q
    · exact g1 q
    · exact g2 q
    · exact g3 q
  · obtain ⟨_, f1, f2, f3, _⟩ := hf
    rcases hM y hy with q | q | q
    · exact f1 q
    · exact f2 q
    · exact f3 q
  · obtain ⟨f0, f1, f2, f3, f4, f5⟩ := hy
    exact ⟨by omega, f1, f2, f3, f4, fun e => f5 ((i0 y).1 e)⟩
theorem PSt.kept0 (h : PSt b nb eb R base d w last ns rs) (k : Kept [] w w') : PSt b nb eb R base d w' last ns rs ∧ Step b nb eb R w w' := h.gop (h.gat.kept0 k) k (by simp) (fun _ hx => .inl hx)
theorem PSt.rop {rs' : List RN} (h : PSt b nb eb R base d w last ns rs) (hc : RG (Gw b nb eb) d w' R base rs') (ht : RTurn R w w') : PSt b nb eb R base d w' last ns rs' ∧ Step b nb eb R w w' := by
  obtain ⟨M, hM, k, h0⟩ := ht
  have q1 := h.gat.lt1
  have q2 := h.gat.lt2
  have q3 := h.gat.lt3
  have q4 := h.gat.lt4
  have q5 := h.rg.lt
  have q6 := k.size
  have hMb : ∀ y ∈ M, y = R ∨ base ≤ y := fun y hy => (hM y hy).imp id (fun q => (h.own q).1)
  have hb : b ∉ M := fun hy => by rcases hMb b hy with q | q; exact h.Rb q.symm; omega
  have hnb : nb ∉ M := fun hy => by rcases hMb nb hy with q | q; exact h.Rn q.symm; omega
  have heb : eb ∉ M := fun hy => by rcases hMb eb hy with q | q; exact h.Re q.symm; omega
  have hnF : ∀ y ∈ M, ¬ Fw w R y := fun y hy hf => by
    rcases hM y hy with q | q
    · exact hf.1 q
    · exact hf.2 q
  have key : ∀ y, y < w.heap.size → base ≤ y ∧ Fw w R y → base ≤ y ∧ Fw w' R y := fun y hl hf => ⟨hf.1, hf.2.1, fun e => by
    rcases h0 y e with q | q
    · exact hf.2.2 q
    · omega⟩
  have hdat : ∀ x ∈ ns, DL d (fun y => base ≤ y ∧ Fw w' R y) w' x.dv x.deps ∧ Reads (fun y => base ≤ y ∧ Fw w' R y) w' x.uv 1 (irows x.uses) := fun x hx => by
    obtain ⟨d1, d2⟩ := h.dat x hx
    have e1 := (DL.good d).mono d1 (S' := fun y => (base ≤ y ∧ Fw w R y) ∧ y < w.heap.size) (fun y hy hq => ⟨hq, hy⟩)
    have e2 := d2.mono (S' := fun y => (base ≤ y ∧ Fw w R y) ∧ y < w.heap.size) (fun y hy hq => ⟨hq, hy⟩)
    exact ⟨(DL.good d).mono ((DL.good d).kept e1 k (fun y hy hq => hnF y hy hq.1.2)) (fun y _ hq => key y hq.2 hq.1), (e2.kept k (fun y hy hq => hnF y hy hq.1.2)).mono (fun y _ hq => key y hq.2 hq.1)⟩
  refine ⟨⟨⟨q1, q2, q3, by omega, h.gat.ne1, h.gat.ne2, h.gat.ne3, h.gat.blk.kept k hb, ?_, h.gat.edges.kept k heb, fun x hx => ?_, h.gat.nums, h.gat.rng⟩, hdat, hc, h.Rb, h.Rn, h.Re⟩, .mk M (fun y hy hf => hnF y hy ⟨hf.2.2.2.2.1, hf.2.2.2.2.2⟩) k (fun y hy => ?_)⟩
  · obtain ⟨n, hm⟩ := h.gat.nodes
    exact ⟨n, hm.kept k hnb⟩
  · obtain ⟨d1, d2⟩ := hdat x hx
    obtain ⟨_, _, d3⟩ := h.gat.data x hx
    exact ⟨(DL.good d).mono d1 (fun y _ hq => hq.1), d2.mono (fun y _ hq => hq.1), d3⟩
  · obtain ⟨f0, f1, f2, f3, f4, f5⟩ := hy
    refine ⟨by omega, f1, f2, f3, f4, fun e => ?_⟩
    rcases h0 y e with q | q
    · exact f5 q
    · omega
theorem PSt.fresh (h : PSt b nb eb R base d w last ns rs) (k : Kept [] w w') {y : Nat} (h1 : w.heap.size ≤ y) (h2 : y < w'.heap.size) : Free w' b nb eb R y := by
  obtain ⟨v, hv, ho⟩ := h.cell
  have q1 := h.gat.lt1
  have q2 := h.gat.lt2
  have q3 := h.gat.lt3
  have q4 := h.gat.lt4
  have q5 := h.rg.lt
  refine ⟨h2, by omega, by omega, by omega, by omega, fun e => ?_⟩
  have := (ho y ((OwnAt.of hv y).1 ((OwnAt.kept hv k (by simp) y).1 e))).2
  omega
theorem PSt.start {bb : Nat} (hg : GAt d w b nb eb bb 0 []) (k : Kept [] w w') (hR : Blk w' R [.slice none 0 0] 100) (hl : w.heap.size ≤ R) :
    PSt b nb eb R w'.heap.size d w' 0 [] [] ∧ ∀ y, y < w'.heap.size → y ≠ b → y ≠ nb → y ≠ eb → y ≠ R → Free w' b nb eb R y := by
  have n1 : ∀ y, ¬ OwnAt w' ⟨R, 0, none⟩ y := fun y e => by simpa [Value.ownBlock] using (OwnAt.of (hR.cell 0 _ rfl) y).1 e
  have hg' := hg.kept0 k
  have q1 := hg.lt1
  have q2 := hg.lt2
  have q3 := hg.lt3
  have q4 := hg.lt4
  have q5 := k.size
  have q6 := hR.lt
  refine ⟨⟨⟨by omega, by omega, by omega, Nat.le_refl _, hg'.ne1, hg'.ne2, hg'.ne3, hg'.blk, hg'.nodes, hg'.edges, fun x hx => by simp at hx, by simp, fun x hx => by simp at hx⟩, fun x hx => by simp at hx, ⟨q6, Nat.le_refl _, fun y hy => ⟨by omega, by omega, by omega⟩, by simp, _, hR, fun y hy => by simp [Value.ownBlock] at hy, Gr.nil _ _ _⟩, by omega, by omega, by omega⟩, fun y p0 p1 p2 p3 p4 => ⟨p0, p1, p2, p3, p4, n1 y⟩⟩
end

/-- What stands after n operations. -/
structure PInv (Q : List Dp) (b nb eb R base d : Nat) (w0 w : World) (n : Nat) (last : Nat) (ns : List Nd) (rs : List RN) : Prop where
  ps : PSt b nb eb R base d w last ns rs
  sim : Sim last ns rs
  fit : ∀ x ∈ ns, ∀ y ∈ x.deps, Fit Q y
  cov : ∀ x ∈ rs, ∀ y ∈ x.deps, Cov Q y
  st : Step b nb eb R w0 w
  a1 : last ≤ n
  a2 : ns.length ≤ n
def PHas (Q : List Dp) (b nb eb R base d : Nat) (w0 w : World) (n : Nat) : Prop := ∃ last ns rs, PInv Q b nb eb R base d w0 w n last ns rs

def okU (ns : List Nd) (us : List Int) : Bool := us.all fun u => (nodeOf ns u).isSome
theorem okU_no {ns : List Nd} {us : List Int} {u : Int} (hu : u ∈ us) (hx : nodeOf ns u = none) : okU ns us = false := by
  unfold okU
  rw [List.all_eq_false]
  exact ⟨u, hu, by simp [hx]⟩
theorem okU_yes {ns : List Nd} {us : List Int} (h : ∀ u ∈ us, nodeOf ns u ≠ none) : okU ns us = true := by
  unfold okU
  rw [List.all_eq_true]
  intro u hu
  cases hx : nodeOf ns u with
  | none => exact absurd hx (h u hu)
  | some x => rfl
def addI (ns : List Nd) (last : Nat) (us : List Int) : Int := if okU ns us then (last : Int) + 1 else 0
def addE (ns : List Nd) (us : List Int) : Int := if okU ns us then 0 else 7
/-- The first graph has added; the second has not yet. -/
inductive MidA (b nb eb R base d : Nat) (w0 W : World) (last : Nat) (ns : List Nd) (rs : List RN) (ds : List Dp) (us : List Int) : Prop
  | no (ho : okU ns us = false) (u : Int) (hu : u ∈ us) (hx : nodeOf ns u = none) (h : PSt b nb eb R base d W last ns rs) (s : Step b nb eb R w0 W)
  | yes (ho : okU ns us = true) (hu : ∀ u ∈ us, nodeOf ns u ≠ none) (dv uv : Value) (born : Nat) (h : PSt b nb eb R base d W (last + 1) (ns ++ [⟨((last + 1 : Nat) : Int), ds, asc us, dv, uv, born⟩]) rs) (s : Step b nb eb R w0 W)
theorem MidA.step {b nb eb R base d : Nat} {w0 W : World} {last : Nat} {ns : List Nd} {rs : List RN} {ds : List Dp} {us : List Int} (h : MidA b nb eb R base d w0 W last ns rs ds us) : Step b nb eb R w0 W := by
  cases h with
  | no _ _ _ _ _ s => exact s
  | yes _ _ _ _ _ _ s => exact s

section
variable {Q : List Dp} {b nb eb R base d n : Nat} {w0 w w' : World} {last : Nat} {ns : List Nd} {rs : List RN}
theorem PInv.kept0 (h : PInv Q b nb eb R base d w0 w n last ns rs) (k : Kept [] w w') : PInv Q b nb eb R base d w0 w' n last ns rs :=
  ⟨(h.ps.kept0 k).1, h.sim, h.fit, h.cov, h.st.trans (h.ps.kept0 k).2, h.a1, h.a2⟩
theorem PInv.more {m : Nat} (h : PInv Q b nb eb R base d w0 w n last ns rs) (hm : n ≤ m) : PInv Q b nb eb R base d w0 w m last ns rs :=
  ⟨h.ps, h.sim, h.fit, h.cov, h.st, Nat.le_trans h.a1 hm, Nat.le_trans h.a2 hm⟩

theorem psAdd {S S' : Nat → Prop} (vd vu : Value) (ds : List Dp) (us : List Int) (w : World) (h : PInv Q b nb eb R base d w0 w n last ns rs) (hd : DL d S w vd ds) (hu : Reads S' w vu 1 (irows us)) (hS : ∀ y, S y → Free w b nb eb R y) (hS' : ∀ y, S' y → Free w b nb eb R y)
    (hn : n ≤ 900) (hdl : ds.length ≤ 1000) (hul : us.length ≤ 1000) :
    Calls Tryz.prog 22 #[.pointer (some ⟨b, 0, none⟩), vd, vu] w fun e w' => e = .returned (.tuple #[.int .i64 (addI ns last us), .int .i64 (addE ns us)]) ∧ MidA b nb eb R base d w w' last ns rs ds us := by
  have hl := h.a1
  refine (gAddF d b nb eb base last ns vd vu ds us w h.ps.gat hd hu (fun x hx => ⟨(hS x hx).2.1, (hS x hx).2.2.1, (hS x hx).2.2.2.1⟩) (fun x hx => ⟨(hS' x hx).2.1, (hS' x hx).2.2.1, (hS' x hx).2.2.2.1⟩) (by omega) hdl hul).mono ?_
  rintro e w' ht
  cases ht with
  | no u hu hx k =>
    have ho := okU_no hu hx
    have := h.ps.kept0 k
    exact ⟨by simp [addI, addE, ho], .no ho u hu hx this.1 this.2⟩
  | yes hu dv uv born hg k hd =>
    have ho := okU_yes hu
    have := h.ps.gop hg k (by simp) (fun x hx => by
      rcases List.mem_append.1 hx with hx | hx
      · exact .inl hx
      · rw [List.mem_singleton] at hx
        subst hx
        exact .inr hd)
    exact ⟨by simp [addI, addE, ho], .yes ho hu dv uv born this.1 this.2⟩

theorem psRAdd {S S' : Nat → Prop} (vd vu : Value) (ds : List Dp) (us : List Int) (w W : World) (h : PInv Q b nb eb R base d w0 w n last ns rs) (hm : MidA b nb eb R base d w W last ns rs ds us) (hd : DL d S W vd ds) (hu : Reads S' W vu 1 (irows us)) (hS : ∀ y, S y → Free W b nb eb R y)
    (hn : n ≤ 900) (hdl : ds.length ≤ 1000) (hul : us.length ≤ 1000) (hf : ∀ y ∈ ds, Fit Q y) :
    Calls Tryz.prog 32 #[.pointer (some ⟨R, 0, none⟩), vd, vu] W fun e w' => e = .returned (.tuple #[.int .i64 (addI ns last us), .int .i64 (addE ns us)]) ∧ PHas Q b nb eb R base d w0 w' (n + 1) ∧ Step b nb eb R W w' := by
  have hl := h.a1
  have hlen := h.sim.len
  have hs2 : ∀ u, (nodeOf ns u = none ↔ rAt rs u = none) := fun u => by
    have := h.sim.has u
    cases h1 : nodeOf ns u <;> cases h2 : rAt rs u <;> simp [h1, h2] at this ⊢
  have hrg : RG (Gw b nb eb) d W R base rs := by
    cases hm with
    | no _ _ _ _ h _ => exact h.rg
    | yes _ _ _ _ _ h _ => exact h.rg
  refine (rAdd d (S := S) R base rs vd vu ds us W hrg hd hu (fun x hx => ⟨⟨(hS x hx).2.1, (hS x hx).2.2.1, (hS x hx).2.2.2.1⟩, (hS x hx).2.2.2.2.1, (hS x hx).2.2.2.2.2⟩) (by omega) hdl hul).mono ?_
  rintro e w' ht
  cases ht with
  | no u hu hx k =>
    have ho := okU_no hu ((hs2 u).2 hx)
    cases hm with
    | yes ho' _ _ _ _ _ _ => rw [ho] at ho'; cases ho'
    | no _ _ _ _ hp hs =>
      have hq := hp.kept0 k
      exact ⟨by simp [addI, addE, ho], ⟨last, ns, rs, hq.1, h.sim, h.fit, h.cov, h.st.trans (hs.trans hq.2), by omega, by have := h.a2; omega⟩, hq.2⟩
  | yes hu hg t =>
    cases hm with
    | no ho u hu' hx _ _ =>
      have h1 := hu u hu'
      rw [(hs2 u).1 hx] at h1
      cases h1
    | yes ho hu' dv uv born hp hs =>
      have hq := hp.rop hg t
      refine ⟨by simp [addI, addE, ho, hlen], ⟨last + 1, _, _, hq.1, h.sim.add h.ps.gat.rng hu' dv uv born, fun x hx y hy => ?_, fun x hx y hy => ?_, h.st.trans (hs.trans hq.2), by omega, by have := h.a2; simp; omega⟩, hq.2⟩
      · rcases List.mem_append.1 hx with hx | hx
        · exact h.fit x hx y hy
        · rw [List.mem_singleton] at hx
          subst hx
          exact hf y hy
      · rcases List.mem_append.1 hx with hx | hx
        · exact h.cov x hx y hy
        · rw [List.mem_singleton] at hx
          subst hx
          exact (hf y hy).2.2

def remE (ns : List Nd) (n : Int) : Int := match nodeOf ns n with
  | none => 7
  | some _ => if usedBy ns n = [] then 0 else 10
def remN (ns : List Nd) (n : Int) : List Nd := match nodeOf ns n with
  | none => ns
  | some _ => if usedBy ns n = [] then without ns n else ns
/-- The first graph has removed; the second has not yet. -/
def MidR (b nb eb R base d : Nat) (w0 W : World) (last : Nat) (ns : List Nd) (rs : List RN) (m : Int) : Prop := PSt b nb eb R base d W last (remN ns m) rs ∧ Step b nb eb R w0 W

theorem psRem (m : Int) (w : World) (h : PInv Q b nb eb R base d w0 w n last ns rs) (hn : n ≤ 900) :
    Calls Tryz.prog 27 #[.pointer (some ⟨b, 0, none⟩), .int .i64 m] w fun e w' => e = .returned (.int .i64 (remE ns m)) ∧ MidR b nb eb R base d w w' last ns rs m := by
  refine (gRemove d b nb eb base last ns m w h.ps.gat (by have := h.a2; omega)).mono ?_
  rintro e w' ht
  unfold MidR
  cases ht with
  | no hx k =>
    have hq := h.ps.kept0 k
    simp only [remE, remN, hx]
    exact ⟨trivial, hq⟩
  | used x hx hu k =>
    have hq := h.ps.kept0 k
    simp only [remE, remN, hx, if_neg hu]
    exact ⟨trivial, hq⟩
  | gone x hx hu hg k =>
    simp only [remE, remN, hx, if_pos hu]
    exact ⟨trivial, h.ps.gop hg k (by simp) (fun x hx => .inl (List.filter_sublist.subset hx))⟩

theorem psRRem (m : Int) (w W : World) (h : PInv Q b nb eb R base d w0 w n last ns rs) (hm : MidR b nb eb R base d w W last ns rs m) :
    Calls Tryz.prog 33 #[.pointer (some ⟨R, 0, none⟩), .int .i64 m] W fun e w' => e = .returned (.int .i64 (remE ns m)) ∧ PHas Q b nb eb R base d w0 w' (n + 1) ∧ Step b nb eb R W w' := by
  obtain ⟨hp, hs⟩ := hm
  have ha1 := h.a1
  have ha2 := h.a2
  have hh := h.sim.has m
  have hdp := h.sim.dept h.ps.gat.nums m
  refine (rRemove d R base rs m W hp.rg).mono ?_
  rintro e w' ht
  cases ht with
  | no hx k =>
    have hq := hp.kept0 k
    have hnn : nodeOf ns m = none := by
      rw [hx] at hh
      cases hy : nodeOf ns m with
      | none => rfl
      | some y => rw [hy] at hh; cases hh
    simp only [remN, hnn] at hq
    simp only [remE, hnn]
    exact ⟨trivial, ⟨last, ns, rs, hq.1, h.sim, h.fit, h.cov, h.st.trans (hs.trans hq.2), by omega, by omega⟩, hq.2⟩
  | used hx hu k =>
    have hq := hp.kept0 k
    rw [hx] at hh
    cases hy : nodeOf ns m with
    | none => rw [hy] at hh; cases hh
    | some y =>
      rw [← hdp] at hu
      simp only [remN, hy, if_neg hu] at hq
      simp only [remE, hy, if_neg hu]
      exact ⟨trivial, ⟨last, ns, rs, hq.1, h.sim, h.fit, h.cov, h.st.trans (hs.trans hq.2), by omega, by omega⟩, hq.2⟩
  | gone k x hn hx hth hu hg t =>
    have hq := hp.rop hg t
    subst hn
    have hat : (rAt rs ((k : Int) + 1)).isSome = true := by rw [rAt_at hx, hth]; rfl
    rw [hat] at hh
    cases hy : nodeOf ns ((k : Int) + 1) with
    | none => rw [hy] at hh; cases hh
    | some y =>
      rw [← hdp] at hu
      simp only [remN, hy, if_pos hu] at hq
      simp only [remE, hy, if_pos hu]
      refine ⟨trivial, ⟨last, _, _, hq.1, h.sim.rem h.ps.gat.nums hx hu, fun z hz => h.fit z (List.filter_sublist.subset hz), fun z hz => ?_, h.st.trans (hs.trans hq.2), by omega, ?_⟩, hq.2⟩
      · unfold outR at hz
        rcases List.mem_or_eq_of_mem_set hz with hz | rfl
        · exact h.cov z hz
        · exact h.cov x (List.mem_of_getElem? hx)
      · have : (without ns ((k : Int) + 1)).length ≤ ns.length := List.length_filter_le _ _
        omega
end
end Go.Proofs.YtkldomkooleecaaGreatDoor

/- The walk of agree: both graphs answer alike. -/
namespace Go.Proofs.YtkldomkooleecaaGreatDoor
open Go.RowKit Go.Maps Go.MapKept

set_option maxRecDepth 100000 in
set_option maxHeartbeats 12800000 in
theorem agree {Q : List Dp} {b nb eb R base d n last : Nat} {w0 : World} {ns : List Nd} {rs : List RN} (tb : Nat) (m : Int) (w : World) (h : PInv Q b nb eb R base d w0 w n last ns rs) (hT : Tabs tb w) (htb : tb ≤ base) (hQ : Q.length < 60) (hn : n ≤ 900) :
    Calls Tryz.prog 34 #[.pointer (some ⟨b, 0, none⟩), .pointer (some ⟨R, 0, none⟩), .int .i64 m] w fun e w' => e = .returned (.bool true) ∧ Kept [] w w' := by
  have HG := Lib.hid h.ps.gat
  have HR := Lib.hid h.ps.rg
  have HT := Lib.hid hT
  have HK := Lib.hid (Kept.refl [] w)
  have HF := Lib.hid h.fit
  have HC := Lib.hid h.cov
  have HLO := Lib.hid h.sim.low
  have HCL := Lib.hid h.sim.clo
  have E1 := Lib.hid (h.sim.has m)
  have E2 := Lib.hid (h.sim.deps m)
  have E3 := Lib.hid (h.sim.uses m)
  have E4 := Lib.hid (h.sim.dept h.ps.gat.nums m)
  have E5 := Lib.hid (h.sim.all h.ps.gat.rng m)
  have hlen : ns.length ≤ 1000000 := by have := h.a2; omega
  clear h hT
  go_enter Tryz.func34, Tryz.ntmps34
  go_wp2_with (first
    | (go_at_call 28; refine Calls.mono (gHas d b nb eb base last ns m _ (by exact HG.out)) ?_; rintro e w1 ⟨rfl, hk⟩; rw [E1.out]; have HG := Lib.hid (HG.out.kept0 hk); have HR := Lib.hid (HR.out.kept0 hk); have HK := Lib.hid (HK.out.trans hk); clear hk)
    | (go_at_call 50; refine Calls.mono (rHas d R base rs m _ (by exact HR.out)) ?_; rintro e w2 ⟨rfl, rfl⟩)
    | (go_at_call 16; refine Calls.mono (gOwnDeps d b nb eb base last ns m _ (by exact HG.out)) ?_; rintro e w3 ⟨v3, rfl, hd, hk⟩; have HD3 : Hid (DL d (fun _ => True) w3 v3 (rDeps rs m)) := (by rw [← E2.out]; exact (DL.good d).mono (Gr.rd (DR.good d) hd (fun _ h => h)) (fun _ _ _ => trivial)); have HG := Lib.hid (HG.out.kept0 hk); have HR := Lib.hid (HR.out.kept0 hk); have HK := Lib.hid (HK.out.trans hk); clear hd hk)
    | (go_at_call 53; refine Calls.mono (rOwnDeps d R base rs m _ (by exact HR.out)) ?_; rintro e w4 ⟨v4, rfl, hd, rfl⟩; have HD4 := Lib.hid hd; clear hd)
    | (go_at_call 10; refine Calls.mono (gUses d b nb eb base last ns m _ (by exact HG.out)) ?_; rintro e w5 ⟨v5, rfl, ho, hk⟩; have HO5 : Hid (Reads (fun _ => True) w5 v5 1 (irows (rUses rs m))) := (by rw [← E3.out]; exact ho.rows'.mono (fun _ _ _ => trivial)); have HG := Lib.hid (HG.out.kept0 hk); have HR := Lib.hid (HR.out.kept0 hk); have HK := Lib.hid (HK.out.trans hk); clear ho hk)
    | (go_at_call 54; refine Calls.mono (rUsesOf d R base rs m _ (by exact HR.out)) ?_; rintro e w6 ⟨v6, rfl, ho, rfl⟩; have HO6 := Lib.hid ho; clear ho)
    | (go_at_call 11; refine Calls.mono (gDependents d b nb eb base last ns m _ (by exact HG.out) hlen) ?_; rintro e w7 ⟨v7, rfl, ho, hk⟩; have HO7 : Hid (Reads (fun _ => True) w7 v7 1 (irows (rDept rs m))) := (by rw [← E4.out]; exact ho.rows'.mono (fun _ _ _ => trivial)); have HG := Lib.hid (HG.out.kept0 hk); have HR := Lib.hid (HR.out.kept0 hk); have HK := Lib.hid (HK.out.trans hk); clear ho hk)
    | (go_at_call 52; refine Calls.mono (rDependents d R base rs m _ (by exact HR.out)) ?_; rintro e w8 ⟨v8, rfl, ho, hk⟩; have HO7' := Lib.hid (HO7.out.kept hk (by simp)); have HO8 := Lib.hid ho; have HG := Lib.hid (HG.out.kept0 hk); have HR := Lib.hid (HR.out.kept0 hk); have HK := Lib.hid (HK.out.trans hk); clear ho hk)
    | (go_at_call 18; refine Calls.mono (gAllDeps d tb b nb eb base last ns Q hQ HF.out HCL.out htb m _ (by exact HG.out) (by exact HT.out.kept0 HK.out)) ?_; rintro e w9 ⟨v9, rfl, hd, hk⟩; have HD9 : Hid (DL d (fun _ => True) w9 v9 (rAll rs m)) := (by rw [← E5.out]; exact (DL.good d).mono hd (fun _ _ _ => trivial)); have HG := Lib.hid (HG.out.kept0 hk); have HR := Lib.hid (HR.out.kept0 hk); have HK := Lib.hid (HK.out.trans hk); clear hd hk)
    | (go_at_call 55; refine Calls.mono (rAllDeps d R base rs Q m _ (by exact HR.out) hQ HC.out HLO.out) ?_; rintro e w10 ⟨v10, rfl, hd, hk⟩; have HD9' := Lib.hid ((DL.good d).kept HD9.out hk (by simp)); have HD10 := Lib.hid hd; have HK := Lib.hid (HK.out.trans hk); clear hd hk)
    | (have _h := HD10; go_at_call 17; refine Calls.mono (eqDeps d _ _ (rAll rs m) _ (by exact HD9'.out) (by exact HD10.out)) ?_; rintro e w12 ⟨rfl, hk⟩; have HK := Lib.hid (HK.out.trans hk); clear hk)
    | (have _h := HD4; go_at_call 17; refine Calls.mono (eqDeps d _ _ (rDeps rs m) _ (by exact HD3.out) (by exact HD4.out)) ?_; rintro e w11 ⟨rfl, hk⟩; have HG := Lib.hid (HG.out.kept0 hk); have HR := Lib.hid (HR.out.kept0 hk); have HK := Lib.hid (HK.out.trans hk); clear hk)
    | (have _h := HO8; go_at_call 26; refine Calls.mono (eqInts _ _ (rDept rs m) _ (by exact HO7'.out) (by exact HO8.out.rows')) ?_; rintro e w14 ⟨rfl, hk⟩; have HG := Lib.hid (HG.out.kept0 hk); have HR := Lib.hid (HR.out.kept0 hk); have HK := Lib.hid (HK.out.trans hk); clear hk)
    | (have _h := HO6; go_at_call 26; refine Calls.mono (eqInts _ _ (rUses rs m) _ (by exact HO5.out) (by exact HO6.out)) ?_; rintro e w13 ⟨rfl, hk⟩; have HG := Lib.hid (HG.out.kept0 hk); have HR := Lib.hid (HR.out.kept0 hk); have HK := Lib.hid (HK.out.trans hk); clear hk))
  go_ret
  exact ⟨rfl, HK.out⟩
end Go.Proofs.YtkldomkooleecaaGreatDoor
