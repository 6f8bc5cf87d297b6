/- The two caches side by side. -/
import Derived.Test.YtkldomkooleecaaDoorPlayP
import Derived.Test.YtkldomkooleecaaDoorCacheD
import Derived.Test.YtkldomkooleecaaDoorCacheF
import Derived.Test.YtkldomkooleecaaDoorRCacheB
namespace Go.Proofs.YtkldomkooleecaaDoor
open Go.RowKit Go.Maps Go.MapKept

def Fw (w : World) (R : Nat) (y : Nat) : Prop := ¬ OwnAt w ⟨R, 0, none⟩ y ∧ ¬ OwnAt w ⟨R, 3, none⟩ y
def Gw (w : World) (B mb : Nat) (y : Nat) : Prop := y ≠ B ∧ y ≠ mb ∧ ¬ OwnAt w ⟨B, 2, none⟩ y
/-- Neither cache turns block y. -/
def Free (w : World) (B mb R : Nat) (y : Nat) : Prop := y < w.heap.size ∧ y ≠ B ∧ y ≠ mb ∧ y ≠ R ∧ ¬ OwnAt w ⟨B, 2, none⟩ y ∧ ¬ OwnAt w ⟨R, 0, none⟩ y ∧ ¬ OwnAt w ⟨R, 3, none⟩ y

inductive Step (B mb R : Nat) (w w' : World) : Prop
  | mk (M : List Nat) (hM : ∀ y ∈ M, ¬ Free w B mb R y) (hk : Kept M w w') (hf : ∀ y, Free w B mb R y → Free w' B mb R y)
theorem Step.size {B mb R : Nat} {w w' : World} (h : Step B mb R w w') : w.heap.size ≤ w'.heap.size := by obtain ⟨M, _, hk, _⟩ := h; exact hk.size
theorem Step.free {B mb R : Nat} {w w' : World} (h : Step B mb R w w') {y : Nat} (hy : Free w B mb R y) : Free w' B mb R y := by obtain ⟨M, _, _, hf⟩ := h; exact hf y hy
theorem Step.refl (B mb R : Nat) (w : World) : Step B mb R w w := ⟨[], by simp, Kept.refl _ _, fun _ h => h⟩
theorem Step.trans {B mb R : Nat} {a b c : World} (h : Step B mb R a b) (k : Step B mb R b c) : Step B mb R a c := by
  obtain ⟨M, h1, h2, h3⟩ := h
  obtain ⟨M', k1, k2, k3⟩ := k
  refine ⟨M ++ M', fun y hy hf => ?_, (h2.mono (M' := M ++ M') (fun x hx => .inl (by simp [hx]))).trans (k2.mono (M' := M ++ M') (fun x hx => .inl (by simp [hx]))), fun y hy => k3 y (h3 y hy)⟩
  rcases List.mem_append.1 hy with hy | hy
  · exact h1 y hy hf
  · exact k1 y hy (h3 y hf)
/-- What reads through blocks that are free stands. -/
theorem Step.rd {B mb R : Nat} {w w' : World} (h : Step B mb R w w') {β : Type} {Q : (Nat → Prop) → World → Value → β → Prop} {e : Value} {x : β} {S : Nat → Prop} (hQ : Good Q) (hq : Q S w e x) (hS : ∀ y, S y → Free w B mb R y) : Q S w' e x := by
  obtain ⟨M, h1, h2, _⟩ := h
  exact hQ.kept hq h2 (fun y hy hs => h1 y hy (hS y hs))
theorem Step.blk {B mb R : Nat} {w w' : World} (h : Step B mb R w w') {A : Nat} {cs : List Value} {t : TypeId} (hA : Free w B mb R A) (hb : Blk w A cs t) : Blk w' A cs t := by
  obtain ⟨M, h1, h2, _⟩ := h
  exact hb.kept h2 (fun hm => h1 A hm hA)
theorem Step.tabs {B mb R tb : Nat} {w w' : World} (h : Step B mb R w w') (hf : ∀ y, y < tb → Free w B mb R y) (hT : Tabs tb w) : Tabs tb w' := by
  obtain ⟨M, h1, h2, _⟩ := h
  exact hT.kept h2 (fun y hy => Nat.le_of_not_lt fun hl => h1 y hy (hf y hl))
theorem Step.range {B mb R : Nat} {w w' : World} (h : Step B mb R w w') {b off : Nat} {r : List Value} (hb : Free w B mb R b) (hr : w.rangeAt b off r) : w'.rangeAt b off r := by
  obtain ⟨M, h1, h2, _⟩ := h
  exact h2.range hr (fun hm => h1 b hm hb)
/-- Over the whole play nothing old turns. -/
theorem Step.whole {B mb R : Nat} {w0 w w' : World} (h : Step B mb R w w') (k : Kept [] w0 w) (hf : ∀ y, y < w0.heap.size → Free w B mb R y) : Kept [] w0 w' := by
  obtain ⟨M, h1, h2, _⟩ := h
  exact k.trans' h2 (fun y hy => .inr (Nat.le_of_not_lt fun hl => h1 y hy (hf y hl)))

theorem Cch.go {F F' : Nat → Prop} {d : Nat} {w w' : World} {b base : Nat} {cap last : Int} {mp : Value} {l : List Cp} {M : List Nat} (h : Cch F d w b base cap last mp l) (k : Kept M w w') (hn : ∀ x ∈ M, x ≠ b ∧ ¬ F x) (h1 : ∀ y, y < w.heap.size → F y → F' y) (h2 : ∀ y, w'.heap.size ≤ y → F' y) : Cch F' d w' b base cap last mp l := by
  obtain ⟨g1, g2, hF, v, hb, ho, hg⟩ := h
  have hg' := hg.mono (CR.good d) (Nat.le_refl _) (S' := fun y => (base ≤ y ∧ F y) ∧ y < w.heap.size) (fun y hy hs => ⟨hs, hy⟩)
  exact ⟨g1, Nat.le_trans g2 k.size, h2, v, hb.kept k (fun hx => (hn b hx).1 rfl), fun y hy => h1 y (hg.lt y hy).2 (ho y hy),
    (hg'.kept (CR.good d) k (fun x hx e => (hn x hx).2 (ho x e)) (fun x hx hs => (hn x hx).2 hs.1.2)).mono (CR.good d) (Nat.le_refl _) (fun y _ hs => ⟨hs.1.1, h1 y hs.2 hs.1.2⟩)⟩
theorem RCch.go {G G' : Nat → Prop} {d : Nat} {w w' : World} {R base : Nat} {cap next : Int} {l : List Cp} {cs : List Cn} {M : List Nat} (h : RCch G d w R base cap next l cs) (k : Kept M w w') (hn : ∀ x ∈ M, x ≠ R ∧ ¬ G x) (h1 : ∀ y, y < w.heap.size → G y → G' y) (h2 : ∀ y, w'.heap.size ≤ y → G' y) : RCch G' d w' R base cap next l cs := by
  obtain ⟨g1, g2, hG, v, n, hb, hv, hvn, gr, gn⟩ := h
  have gr' := gr.mono (CR.good d) (Nat.le_refl _) (S' := fun y => (G y ∧ y ≠ R ∧ n.ownBlock ≠ some y) ∧ y < w.heap.size) (fun y hy hs => ⟨hs, hy⟩)
  have gn' := gn.mono (cn_good d) (Nat.le_refl _) (S' := fun y => (G y ∧ y ≠ R ∧ v.ownBlock ≠ some y) ∧ y < w.heap.size) (fun y hy hs => ⟨hs, hy⟩)
  exact ⟨g1, Nat.le_trans g2 k.size, h2, v, n, hb.kept k (fun hx => (hn R hx).1 rfl), fun y hy => ⟨h1 y (gr.lt y hy).2 (hv y hy).1, (hv y hy).2⟩, fun y hy => h1 y (gn.lt y hy).2 (hvn y hy),
    (gr'.kept (CR.good d) k (fun x hx e => (hn x hx).2 (hv x e).1) (fun x hx hs => (hn x hx).2 hs.1.1)).mono (CR.good d) (Nat.le_refl _) (fun y _ hs => ⟨h1 y hs.2 hs.1.1, hs.1.2⟩),
    (gn'.kept (cn_good d) k (fun x hx e => (hn x hx).2 (hvn x e)) (fun x hx hs => (hn x hx).2 hs.1.1)).mono (cn_good d) (Nat.le_refl _) (fun y _ hs => ⟨h1 y hs.2 hs.1.1, hs.1.2⟩)⟩

/-- The cache at B with its map at mb, and the reference cache at R; cm are the counters of the map. -/
structure PSt (B mb R base d : Nat) (w : World) (cap last : Int) (l : List Cp) (cm : List Cn) (next : Int) (l2 : List Cp) (cs : List Cn) : Prop where
  cch : Cch (Fw w R) d w B base cap last (.map (some mb)) l
  rch : RCch (Gw w B mb) d w R base cap next l2 cs
  map : ∃ es n, IsMap CallKey w mb es n ∧ MapRel es cm
  mB : mb ≠ B
  RB : R ≠ B
  Rm : R ≠ mb
  low : mb < base

section
variable {B mb R base d : Nat} {w w' : World} {cap last next : Int} {l l2 : List Cp} {cm cs : List Cn}
theorem PSt.cells (h : PSt B mb R base d w cap last l cm next l2 cs) : ∃ vb vr vn, w.cell? ⟨B, 2, none⟩ = some vb ∧ w.cell? ⟨R, 0, none⟩ = some vr ∧ w.cell? ⟨R, 3, none⟩ = some vn ∧
    (∀ y, vb.ownBlock = some y → base ≤ y ∧ y < w.heap.size) ∧ (∀ y, vr.ownBlock = some y → base ≤ y ∧ y < w.heap.size) ∧ (∀ y, vn.ownBlock = some y → base ≤ y ∧ y < w.heap.size) := by
  obtain ⟨_, _, _, v, hb, _, hg⟩ := h.cch
  obtain ⟨_, _, _, v', n', hb', _, _, gr, gn⟩ := h.rch
  exact ⟨v, v', n', hb.cell 2 _ rfl, hb'.cell 0 _ rfl, hb'.cell 3 _ rfl, hg.lt, gr.lt, gn.lt⟩
theorem PSt.ownB (h : PSt B mb R base d w cap last l cm next l2 cs) {y : Nat} (hy : OwnAt w ⟨B, 2, none⟩ y) : base ≤ y ∧ y < w.heap.size ∧ Fw w R y := by
  obtain ⟨_, _, _, v, hb, ho, hg⟩ := h.cch
  have := (OwnAt.of (hb.cell 2 _ rfl) y).1 hy
  exact ⟨(hg.lt y this).1, (hg.lt y this).2, ho y this⟩
theorem PSt.ownR (h : PSt B mb R base d w cap last l cm next l2 cs) {y : Nat} (hy : OwnAt w ⟨R, 0, none⟩ y ∨ OwnAt w ⟨R, 3, none⟩ y) : base ≤ y ∧ y < w.heap.size ∧ Gw w B mb y := by
  obtain ⟨_, _, _, v, n, hb, hv, hvn, gr, gn⟩ := h.rch
  rcases hy with hy | hy
  · have := (OwnAt.of (hb.cell 0 _ rfl) y).1 hy
    exact ⟨(gr.lt y this).1, (gr.lt y this).2, (hv y this).1⟩
  · have := (OwnAt.of (hb.cell 3 _ rfl) y).1 hy
    exact ⟨(gn.lt y this).1, (gn.lt y this).2, hvn y this⟩

theorem PSt.kept0 (h : PSt B mb R base d w cap last l cm next l2 cs) (k : Kept [] w w') : PSt B mb R base d w' cap last l cm next l2 cs ∧ Step B mb R w w' := by
  obtain ⟨vb, vr, vn, c1, c2, c3, _⟩ := h.cells
  have i1 := fun y => OwnAt.kept c1 k (by simp) y
  have i2 := fun y => OwnAt.kept c2 k (by simp) y
  have i3 := fun y => OwnAt.kept c3 k (by simp) y
  have hs := k.size
  refine ⟨⟨h.cch.go k (by simp) (fun y _ hf => ⟨fun e => hf.1 ((i2 y).1 e), fun e => hf.2 ((i3 y).1 e)⟩) (fun y hy => ?_), h.rch.go k (by simp) (fun y _ hf => ⟨hf.1, hf.2.1, fun e => hf.2.2 ((i1 y).1 e)⟩) (fun y hy => ?_), ?_, h.mB, h.RB, h.Rm, h.low⟩, .mk [] (by simp) k (fun y hy => ?_)⟩
  · obtain ⟨_, _, hF, _⟩ := h.cch
    have := hF y (by omega)
    exact ⟨fun e => this.1 ((i2 y).1 e), fun e => this.2 ((i3 y).1 e)⟩
  · obtain ⟨_, _, hG, _⟩ := h.rch
    have := hG y (by omega)
    exact ⟨this.1, this.2.1, fun e => this.2.2 ((i1 y).1 e)⟩
  · obtain ⟨es, n, hm, hr⟩ := h.map
    exact ⟨es, n, hm.kept k (by simp), hr⟩
  · obtain ⟨q1, q2, q3, q4, q5, q6, q7⟩ := hy
    exact ⟨by omega, q2, q3, q4, fun e => q5 ((i1 y).1 e), fun e => q6 ((i2 y).1 e), fun e => q7 ((i3 y).1 e)⟩

/-- What an operation on the cache may turn. -/
inductive CTurn (B : Nat) (w w' : World) : Prop
  | mk (M : List Nat) (hM : ∀ y ∈ M, y = B ∨ OwnAt w ⟨B, 2, none⟩ y) (hk : Kept M w w') (h2 : ∀ y, OwnAt w' ⟨B, 2, none⟩ y → OwnAt w ⟨B, 2, none⟩ y ∨ w.heap.size ≤ y)

theorem PSt.cop {last' : Int} {l' : List Cp} (h : PSt B mb R base d w cap last l cm next l2 cs) (hc : Cch (Fw w R) d w' B base cap last' (.map (some mb)) l') (ht : CTurn B w w') : PSt B mb R base d w' cap last' l' cm next l2 cs ∧ Step B mb R w w' := by
  obtain ⟨M, hM, k, h2⟩ := ht
  obtain ⟨vb, vr, vn, c1, c2, c3, o1, o2, o3⟩ := h.cells
  have hRb : R < base := h.rch.1
  have hBb : B < base := h.cch.1
  have hbs : base ≤ w.heap.size := h.cch.2.1
  have hs := k.size
  have hMb : ∀ y ∈ M, y = B ∨ base ≤ y := fun y hy => (hM y hy).imp id (fun q => (h.ownB q).1)
  have hRM : R ∉ M := fun hy => by
    rcases hMb R hy with q | q
    · exact h.RB q
    · omega
  have i2 := fun y => OwnAt.kept c2 k hRM y
  have i3 := fun y => OwnAt.kept c3 k hRM y
  refine ⟨⟨hc.move (fun y _ hf => ⟨fun e => hf.1 ((i2 y).1 e), fun e => hf.2 ((i3 y).1 e)⟩) (fun y hy => ?_), h.rch.go k (fun y hy => ⟨fun e => hRM (e ▸ hy), fun hg => ?_⟩) (fun y hy hg => ⟨hg.1, hg.2.1, fun e => ?_⟩) (fun y hy => ⟨by omega, ?_, fun e => ?_⟩), ?_, h.mB, h.RB, h.Rm, h.low⟩, .mk M (fun y hy hf => ?_) k (fun y hy => ?_)⟩
  · obtain ⟨_, _, hF, _⟩ := hc
    have := hF y hy
    exact ⟨fun e => this.1 ((i2 y).1 e), fun e => this.2 ((i3 y).1 e)⟩
  · rcases hM y hy with q | q
    · exact hg.1 q
    · exact hg.2.2 q
  · rcases h2 y e with q | q
    · exact hg.2.2 q
    · omega
  · have := h.low; omega
  · obtain ⟨_, _, _, v, hb, _, hg⟩ := hc
    have := (hg.lt y ((OwnAt.of (hb.cell 2 _ rfl) y).1 e)).2
    omega
  · obtain ⟨es, n, hm, hr⟩ := h.map
    refine ⟨es, n, hm.kept k (fun hy => ?_), hr⟩
    rcases hMb mb hy with q | q
    · exact h.mB q
    · have := h.low; omega
  · obtain ⟨_, q2, _, _, q5, _⟩ := hf
    rcases hM y hy with q | q
    · exact q2 q
    · exact q5 q
  · obtain ⟨q1, q2, q3, q4, q5, q6, q7⟩ := hy
    refine ⟨by omega, q2, q3, q4, fun e => ?_, fun e => q6 ((i2 y).1 e), fun e => q7 ((i3 y).1 e)⟩
    rcases h2 y e with q | q
    · exact q5 q
    · omega

theorem PSt.rop {next' : Int} {l2' : List Cp} {cs' : List Cn} (h : PSt B mb R base d w cap last l cm next l2 cs) (hc : RCch (Gw w B mb) d w' R base cap next' l2' cs') (ht : RTurn R w w') : PSt B mb R base d w' cap last l cm next' l2' cs' ∧ Step B mb R w w' := by
  obtain ⟨M, hM, k, h0, h3⟩ := ht
  obtain ⟨vb, vr, vn, c1, c2, c3, o1, o2, o3⟩ := h.cells
  have hRb : R < base := h.rch.1
  have hBb : B < base := h.cch.1
  have hbs : base ≤ w.heap.size := h.cch.2.1
  have hs := k.size
  have hMb : ∀ y ∈ M, y = R ∨ base ≤ y := fun y hy => (hM y hy).imp id (fun q => (h.ownR q).1)
  have hBM : B ∉ M := fun hy => by
    rcases hMb B hy with q | q
    · exact h.RB q.symm
    · omega
  have i1 := fun y => OwnAt.kept c1 k hBM y
  have hcF : Cch (fun y => Fw w R y ∧ y ≠ R) d w B base cap last (.map (some mb)) l := by
    obtain ⟨u1, u2, hF, v, hb, ho, hg⟩ := h.cch
    exact ⟨u1, u2, fun y hy => ⟨hF y hy, by omega⟩, v, hb, fun y hy => ⟨ho y hy, by have := (hg.lt y hy).1; omega⟩, hg.mono (CR.good d) (Nat.le_refl _) (fun y _ hs => ⟨hs.1, hs.2, by omega⟩)⟩
  refine ⟨⟨hcF.go k (fun y hy => ⟨fun e => hBM (e ▸ hy), fun hg => ?_⟩) (fun y hy hg => ⟨fun e => ?_, fun e => ?_⟩) (fun y hy => ⟨fun e => ?_, fun e => ?_⟩), hc.move (fun y _ hf => ⟨hf.1, hf.2.1, fun e => hf.2.2 ((i1 y).1 e)⟩) (fun y hy => ?_), ?_, h.mB, h.RB, h.Rm, h.low⟩, .mk M (fun y hy hf => ?_) k (fun y hy => ?_)⟩
  · rcases hM y hy with q | q | q
    · exact hg.2 q
    · exact hg.1.1 q
    · exact hg.1.2 q
  · rcases h0 y e with q | q
    · exact hg.1.1 q
    · omega
  · rcases h3 y e with q | q
    · exact hg.1.2 q
    · omega
  · obtain ⟨_, _, _, v, n, hb, _, _, gr, _⟩ := hc
    have := (gr.lt y ((OwnAt.of (hb.cell 0 _ rfl) y).1 e)).2
    omega
  · obtain ⟨_, _, _, v, n, hb, _, _, _, gn⟩ := hc
    have := (gn.lt y ((OwnAt.of (hb.cell 3 _ rfl) y).1 e)).2
    omega
  · obtain ⟨_, _, hG, _⟩ := hc
    have := hG y hy
    exact ⟨this.1, this.2.1, fun e => this.2.2 ((i1 y).1 e)⟩
  · obtain ⟨es, n, hm, hr⟩ := h.map
    refine ⟨es, n, hm.kept k (fun hy => ?_), hr⟩
    rcases hMb mb hy with q | q
    · exact h.Rm q.symm
    · have := h.low; omega
  · obtain ⟨_, _, _, q4, _, q6, q7⟩ := hf
    rcases hM y hy with q | q | q
    · exact q4 q
    · exact q6 q
    · exact q7 q
  · obtain ⟨q1, q2, q3, q4, q5, q6, q7⟩ := hy
    refine ⟨by omega, q2, q3, q4, fun e => q5 ((i1 y).1 e), fun e => ?_, fun e => ?_⟩
    · rcases h0 y e with q | q
      · exact q6 q
      · omega
    · rcases h3 y e with q | q
      · exact q7 q
      · omega

theorem PSt.mop {cm' : List Cn} {es' : List MapEntry} {n' : Nat} (h : PSt B mb R base d w cap last l cm next l2 cs) (k : Kept [mb] w w') (hm' : IsMap CallKey w' mb es' n') (hr' : MapRel es' cm') : PSt B mb R base d w' cap last l cm' next l2 cs ∧ Step B mb R w w' := by
  obtain ⟨vb, vr, vn, c1, c2, c3, o1, o2, o3⟩ := h.cells
  have hlow := h.low
  have hbs : base ≤ w.heap.size := h.cch.2.1
  have i1 := fun y => OwnAt.kept c1 k (by simpa using Ne.symm h.mB) y
  have i2 := fun y => OwnAt.kept c2 k (by simpa using h.Rm) y
  have i3 := fun y => OwnAt.kept c3 k (by simpa using h.Rm) y
  have hs := k.size
  obtain ⟨u1, u2, hF, u3⟩ := h.cch
  obtain ⟨v1, v2, hG, v3⟩ := h.rch
  have hcF : Cch (fun y => Fw w R y ∧ y ≠ mb) d w B base cap last (.map (some mb)) l := by
    obtain ⟨v, hb, ho, hg⟩ := u3
    exact ⟨u1, u2, fun y hy => ⟨hF y hy, by omega⟩, v, hb, fun y hy => ⟨ho y hy, by have := (hg.lt y hy).1; omega⟩, hg.mono (CR.good d) (Nat.le_refl _) (fun y _ hs => ⟨hs.1, hs.2, by omega⟩)⟩
  refine ⟨⟨hcF.go k (fun y hy => ?_) (fun y _ hf => ⟨fun e => hf.1.1 ((i2 y).1 e), fun e => hf.1.2 ((i3 y).1 e)⟩) (fun y hy => ?_), (show RCch (Gw w B mb) d w R base cap next l2 cs from ⟨v1, v2, hG, v3⟩).go k (fun y hy => ?_) (fun y _ hf => ⟨hf.1, hf.2.1, fun e => hf.2.2 ((i1 y).1 e)⟩) (fun y hy => ?_), ⟨es', n', hm', hr'⟩, h.mB, h.RB, h.Rm, h.low⟩, .mk [mb] (fun y hy hf => ?_) k (fun y hy => ?_)⟩
  · simp at hy
    subst hy
    exact ⟨h.mB, fun q => q.2 rfl⟩
  · have := hF y (by omega)
    exact ⟨fun e => this.1 ((i2 y).1 e), fun e => this.2 ((i3 y).1 e)⟩
  · simp at hy
    subst hy
    exact ⟨Ne.symm h.Rm, fun q => q.2.1 rfl⟩
  · have := hG y (by omega)
    exact ⟨this.1, this.2.1, fun e => this.2.2 ((i1 y).1 e)⟩
  · simp at hy
    exact hf.2.2.1 hy
  · obtain ⟨q1, q2, q3, q4, q5, q6, q7⟩ := hy
    exact ⟨by omega, q2, q3, q4, fun e => q5 ((i1 y).1 e), fun e => q6 ((i2 y).1 e), fun e => q7 ((i3 y).1 e)⟩
end
end Go.Proofs.YtkldomkooleecaaDoor
