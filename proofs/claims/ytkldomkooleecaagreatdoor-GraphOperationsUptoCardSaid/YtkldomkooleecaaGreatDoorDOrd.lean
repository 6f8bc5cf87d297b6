/- The order of dependencies, and a row of them that is sorted: plain facts, and what a swap does. -/
import Derived.Test.YtkldomkooleecaaGreatDoorDepOwn
import Derived.Test.YtkldomkooleecaaGreatDoorTyOrd
import Derived.Shelf.GgSortFunc.SmallK
namespace Go.Proofs.YtkldomkooleecaaGreatDoor
open Go.RowKit Go.Sort

/-- The order of queries. -/
def qCmp (x y : Dp) : Int := fst0 (cmpS x.fn y.fn) (tyCmp x.ty y.ty)
def qLt (x y : Dp) : Bool := decide (qCmp x y < 0)
/-- The same query. -/
def SameQ (x y : Dp) : Prop := x.fn = y.fn ∧ x.ty = y.ty
theorem qCmp_zero (x y : Dp) : qCmp x y = 0 ↔ SameQ x y := by
  unfold qCmp SameQ
  rw [fst0_eq0, cmpS_ord.zero, ty_ord.zero]
theorem qCmp_anti (x y : Dp) : qCmp y x = - qCmp x y := by
  unfold qCmp
  rw [cmpS_ord.anti, ty_ord.anti, fst0_neg]
theorem qCmp_trans (x y z : Dp) : qCmp x y < 0 → qCmp y z < 0 → qCmp x z < 0 := by
  unfold qCmp
  exact fst0_trans (cmpS_ord.trans _ _ _) (fun h => cmpS_ord.left h) (fun h => cmpS_ord.right h) (fun _ _ => ty_ord.trans _ _ _)
theorem qCmp_same {x y : Dp} (z : Dp) (h : SameQ x y) : qCmp x z = qCmp y z := by
  unfold qCmp; rw [h.1, h.2]
theorem qCmp_same' {x y : Dp} (z : Dp) (h : SameQ x y) : qCmp z x = qCmp z y := by
  unfold qCmp; rw [h.1, h.2]
theorem cmpS_ne {x y : ByteArray} (h : x ≠ y) : (cmpS x y < 0) = (Op.bytesLess x.toList y.toList = true) ∧ cmpS x y ≠ 0 := by
  have h0 : cmpS x y ≠ 0 := fun e => h ((cmpS_ord.zero x y).1 e)
  refine ⟨?_, h0⟩
  unfold cmpS cmpB at h0 ⊢
  cases h1 : Op.bytesLess x.toList y.toList <;> cases h2 : Op.bytesLess y.toList x.toList <;> simp_all
theorem qLt_fn {x y : Dp} (h : x.fn ≠ y.fn) : qLt x y = Op.bytesLess x.fn.toList y.fn.toList := by
  obtain ⟨h1, h2⟩ := cmpS_ne h
  unfold qLt qCmp
  rw [fst0_ne h2]
  cases hb : Op.bytesLess x.fn.toList y.fn.toList <;> simp [h1, hb]
theorem qLt_ty {x y : Dp} (h : x.fn = y.fn) : qLt x y = decide (tyCmp x.ty y.ty < 0) := by
  unfold qLt qCmp
  rw [(cmpS_ord.zero _ _).2 h, fst0_zero]

/-- An element of the row: a dependency and where its two slices lie. -/
structure El where
  dp : Dp
  a1 : Option Addr
  c1 : Nat
  a2 : Option Addr
  c2 : Nat
instance : Inhabited El := ⟨⟨⟨⟨#[]⟩, .mk 0 ⟨#[]⟩ 0 [], 0, []⟩, none, 0, none, 0⟩⟩
def El.ev (x : El) : Value := .tuple #[.slice x.a1 x.dp.ty.args.length x.c1, .slice x.a2 x.dp.ids.length x.c2]
def El.enc (x : El) : List Value := x.dp.row x.ev
theorem El.enc_len (x : El) : x.enc.length = 7 := rfl
theorem El.enc_one (x : El) : ∀ v ∈ x.enc, v.oneCell' = true := by
  intro v hv
  simp [El.enc, Dp.row, El.ev, vfst_pair, vsnd_pair] at hv
  rcases hv with rfl | rfl | rfl | rfl | rfl | rfl | rfl <;> rfl
def elLt (x y : El) : Bool := qLt x.dp y.dp
theorem elLt_swo : SWO elLt where
  irrefl := fun x => by
    have := (qCmp_zero x.dp x.dp).2 ⟨rfl, rfl⟩
    simp [elLt, qLt, this]
  trans := fun x y z h1 h2 => by
    simp only [elLt, qLt, decide_eq_true_eq] at *
    exact qCmp_trans _ _ _ h1 h2
  ntrans := fun x y z h1 h2 => by
    simp only [elLt, qLt, decide_eq_false_iff_not, Int.not_lt] at *
    rcases Int.lt_or_eq_of_le h1 with h1 | h1
    · rcases Int.lt_or_eq_of_le h2 with h2 | h2
      · have := qCmp_trans z.dp y.dp x.dp (by rw [qCmp_anti]; omega) (by rw [qCmp_anti]; omega)
        rw [qCmp_anti] at this; omega
      · rw [← qCmp_same' x.dp ((qCmp_zero _ _).1 h2.symm)]; omega
    · rw [qCmp_same z.dp ((qCmp_zero _ _).1 h1.symm)]; exact h2

/-- Block g holds the elements d (and spare cells behind them); each reads, outside of block g. -/
structure SR (dd : Nat) (S : Nat → Prop) (w : World) (g cap : Nat) (d : Array El) : Prop where
  blk : ∃ cur, w.heap[g]? = some (.cells cur 45 (0, 0)) ∧ cur.size = cap * 7
  le : d.size ≤ cap
  holds : HoldsK El.enc 7 w g 0 d
  each : ∀ x ∈ d.toList, DR dd (fun y => S y ∧ y ≠ g) w x.ev x.dp
theorem SR.lt {dd : Nat} {S : Nat → Prop} {w : World} {g cap : Nat} {d : Array El} (h : SR dd S w g cap d) : g < w.heap.size := by
  obtain ⟨cur, h1, _⟩ := h.blk
  exact (Array.getElem?_eq_some_iff.1 h1).1
theorem SR.kept {dd : Nat} {S : Nat → Prop} {w w' : World} {g cap : Nat} {d : Array El} {M : List Nat} (h : SR dd S w g cap d) (k : Kept M w w') (hg : g ∉ M) (hS : ∀ x ∈ M, ¬ S x) : SR dd S w' g cap d := by
  obtain ⟨⟨cur, h1, h2⟩, h3, h4, h5⟩ := h
  have hb : w'.heap[g]? = w.heap[g]? := (k.get h1 hg).trans h1.symm
  refine ⟨⟨cur, k.get h1 hg, h2⟩, h3, fun j hj => ?_, fun x hx => (DR.good dd).kept (h5 x hx) k (fun y hy hq => hS y hy hq.1)⟩
  obtain ⟨q1, q2⟩ := h4 j hj
  exact ⟨(World.cell?_of_block hb).trans q1, (World.frozen?_of_block hb).trans q2⟩
theorem get_mem {d : Array El} {i : Nat} (h : i < d.size) : d[i]! ∈ d.toList := by
  rw [getElem!_pos d i h]; simp
theorem SR.row {dd : Nat} {S : Nat → Prop} {w : World} {g cap : Nat} {d : Array El} (h : SR dd S w g cap d) {i : Nat} (hi : i < d.size) : w.rangeAt g (0 + i * 7) d[i]!.enc := by
  intro j v hj
  have hj7 : j < 7 := by have := (List.getElem?_eq_some_iff.1 hj).1; simpa [El.enc_len] using this
  rw [(h.holds.cell hi hj7).1]
  simp [hj]
theorem swp_mem {d : Array El} {i j : Nat} (hi : i < d.size) (hj : j < d.size) {x : El} (hx : x ∈ (swp d i j).toList) : x ∈ d.toList := by
  unfold swp at hx
  rw [Array.toList_setIfInBounds, Array.toList_setIfInBounds] at hx
  rcases List.mem_or_eq_of_mem_set hx with hx | rfl
  · rcases List.mem_or_eq_of_mem_set hx with hx | rfl
    · exact hx
    · exact get_mem hj
  · exact get_mem hi
/-- What a swap makes. -/
theorem SR.swap {dd : Nat} {S : Nat → Prop} {w : World} {g cap : Nat} {d : Array El} (h : SR dd S w g cap d) {i j : Nat} (hi : i < d.size) (hj : j < d.size) :
    SR dd S ((w.setCells g (0 + i * 7) d[j]!.enc).setCells g (0 + j * 7) d[i]!.enc) g cap (swp d i j) ∧ Kept [g] w ((w.setCells g (0 + i * 7) d[j]!.enc).setCells g (0 + j * 7) d[i]!.enc) := by
  have hw := swap_worldK El.enc 7 El.enc_len w 0 0 g 0 d i j hi hj
  rw [show (putRowK El.enc 7 (Sort.ahead w 0) g 0 d).drewN 0 = w from putRowK_self El.enc 7 w g 0 d h.holds] at hw
  rw [hw]
  have hk : Kept [g] w (putRowK El.enc 7 (Sort.ahead w (0 + 0)) g 0 (swp d i j)) := by
    refine ⟨rfl, rfl, rfl, ?_, fun k hk hn => ?_⟩
    · simp [putRowK, putRow, mapBlock, Sort.ahead]
    · show (w.heap.modify g _)[k]? = _
      rw [Array.getElem?_modify, if_neg (by simp at hn; omega)]
  refine ⟨⟨?_, by rw [size_swp]; exact h.le, holdsK_putRowK El.enc 7 w g 0 d (swp d i j) h.holds (size_swp d i j), fun x hx => ?_⟩, hk⟩
  · obtain ⟨cur, h1, h2⟩ := h.blk
    refine ⟨putCells id 0 (flatK El.enc 7 (swp d i j)) cur, ?_, by simp [putCells, h2]⟩
    show (w.heap.modify g _)[g]? = _
    rw [Array.getElem?_modify, if_pos rfl, h1]
    rfl
  · have hx' : x ∈ d.toList := by
      have := swp_mem hi hj hx
      exact this
    exact (DR.good dd).kept (h.each x hx') hk (by simp)
end Go.Proofs.YtkldomkooleecaaGreatDoor
