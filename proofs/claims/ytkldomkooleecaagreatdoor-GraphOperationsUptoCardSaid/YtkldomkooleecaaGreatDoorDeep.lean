/- Slices whose elements lead on: rows of cells one of which leads to something that is read by a law Q of its own. -/
import Derived.Test.YtkldomkooleecaaGreatDoorMem
namespace Go.Proofs.YtkldomkooleecaaGreatDoor
open Go.RowKit

/-- A reading that stands while its blocks do not turn. -/
structure Good {β : Type} (Q : (Nat → Prop) → World → Value → β → Prop) : Prop where
  kept : ∀ {S w w' e x M}, Q S w e x → Kept M w w' → (∀ y ∈ M, ¬ S y) → Q S w' e x
  mono : ∀ {S S' w e x}, Q S w e x → (∀ b, b < w.heap.size → S b → S' b) → Q S' w e x

section
variable {β : Type} (Q : (Nat → Prop) → World → Value → β → Prop) (r : β → Value → List Value) (size : Nat)

/-- The slice v reads as the list l. -/
def Rd (S : Nat → Prop) (w : World) (v : Value) (l : List β) : Prop :=
  ∃ es : List Value, es.length = l.length ∧ Reads S w v size (List.zipWith r l es) ∧ ∀ (k : Nat) (x : β) (e : Value), l[k]? = some x → es[k]? = some e → Q S w e x

/-- .. and it can be appended to. -/
def Gr (t : TypeId) (S : Nat → Prop) (base : Nat) (w : World) (v : Value) (l : List β) : Prop :=
  ∃ es : List Value, es.length = l.length ∧ Own w base t size v (List.zipWith r l es) ∧ ∀ (k : Nat) (x : β) (e : Value), l[k]? = some x → es[k]? = some e → Q (fun y => S y ∧ v.ownBlock ≠ some y) w e x
end

section
variable {β : Type} {Q : (Nat → Prop) → World → Value → β → Prop} {r : β → Value → List Value} {size : Nat} {S S' : Nat → Prop} {w w' : World} {v : Value} {l : List β} {t : TypeId} {base : Nat}

theorem Rd.kept {M : List Nat} (hQ : Good Q) (h : Rd Q r size S w v l) (k : Kept M w w') (hn : ∀ x ∈ M, ¬ S x) : Rd Q r size S w' v l := by
  obtain ⟨es, h1, h2, h3⟩ := h
  exact ⟨es, h1, h2.kept k hn, fun i x e hx he => hQ.kept (h3 i x e hx he) k hn⟩
theorem Rd.mono (hQ : Good Q) (h : Rd Q r size S w v l) (hs : ∀ b, b < w.heap.size → S b → S' b) : Rd Q r size S' w v l := by
  obtain ⟨es, h1, h2, h3⟩ := h
  exact ⟨es, h1, h2.mono hs, fun i x e hx he => hQ.mono (h3 i x e hx he) hs⟩
theorem Rd.good {γ : Type} (f : γ → List β) (hQ : Good Q) : Good (fun S w v (x : γ) => Rd Q r size S w v (f x)) := ⟨fun h k hn => Rd.kept hQ h k hn, fun h hs => Rd.mono hQ h hs⟩
theorem Rd.nil : Rd Q r size S w (.slice none 0 0) [] := ⟨[], rfl, Reads.nil _ _ _, fun k x e hx => by simp at hx⟩

theorem zip_get {l : List β} {es : List Value} (h : es.length = l.length) {k : Nat} {x : β} (hx : l[k]? = some x) : ∃ e, es[k]? = some e ∧ (List.zipWith r l es)[k]? = some (r x e) := by
  have hk := (List.getElem?_eq_some_iff.1 hx).1
  refine ⟨es[k]'(by omega), by simp, ?_⟩
  rw [List.getElem?_zipWith, hx]
  simp [List.getElem?_eq_getElem (show k < es.length by omega)]
theorem zip_len {l : List β} {es : List Value} (h : es.length = l.length) : (List.zipWith r l es).length = l.length := by simp [h]

/-- What a walk needs of it. -/
theorem Rd.form (h : Rd Q r size S w v l) : ∃ a cap, v = .slice a l.length cap ∧ l.length ≤ cap ∧ cap ≤ 9223372036854775807 ∧
    (l = [] ∨ ∃ b off, a = some ⟨b, off, none⟩ ∧ S b ∧ b < w.heap.size ∧ ∀ (k : Nat) (x : β), l[k]? = some x → ∃ e, w.rangeAt b (off + k * size) (r x e) ∧ (∀ u ∈ r x e, u.oneCell' = true) ∧ Q S w e x) := by
  obtain ⟨es, h1, ⟨h0, a, cap, rfl, h2, h3, h4⟩, h5⟩ := h
  rw [zip_len h1] at h2 ⊢
  refine ⟨a, cap, rfl, h2, by simpa [maxLen] using h3, ?_⟩
  rcases h4 with h4 | ⟨b, off, rfl, hs, hb, hr⟩
  · left
    have := congrArg List.length h4
    rw [zip_len h1] at this
    exact List.eq_nil_of_length_eq_zero this
  · refine .inr ⟨b, off, rfl, hs, hb, fun k x hx => ?_⟩
    obtain ⟨e, he, hz⟩ := zip_get (r := r) h1 hx
    exact ⟨e, hr k _ hz, (h0 _ (List.mem_of_getElem? hz)).2, h5 k x e hx he⟩

theorem Gr.rd (hQ : Good Q) (h : Gr Q r size t S base w v l) (hs : ∀ b, base ≤ b → S b) : Rd Q r size S w v l := by
  obtain ⟨es, h1, h2, h3⟩ := h
  exact ⟨es, h1, h2.rows'.mono fun b _ hb => hs b hb, fun k x e hx he => hQ.mono (h3 k x e hx he) fun _ _ h => h.1⟩
theorem Gr.nil (w : World) (base : Nat) (S : Nat → Prop) : Gr Q r size t S base w (.slice none 0 0) [] := ⟨[], rfl, Own.nil _ _ _ _, fun k x e hx => by simp at hx⟩
theorem Gr.kept {M : List Nat} (hQ : Good Q) (h : Gr Q r size t S base w v l) (k : Kept M w w') (ho : ∀ x ∈ M, v.ownBlock ≠ some x) (hn : ∀ x ∈ M, ¬ S x) : Gr Q r size t S base w' v l := by
  obtain ⟨es, h1, h2, h3⟩ := h
  exact ⟨es, h1, h2.kept k (fun x hx hm => ho x hm hx), fun i x e hx he => hQ.kept (h3 i x e hx he) k (fun y hy hq => hn y hy hq.1)⟩
theorem Gr.mono (hQ : Good Q) (h : Gr Q r size t S base w v l) {base' : Nat} (hb : base' ≤ base) (hs : ∀ b, b < w.heap.size → S b → S' b) : Gr Q r size t S' base' w v l := by
  obtain ⟨es, h1, h2, h3⟩ := h
  exact ⟨es, h1, h2.mono hb, fun k x e hx he => hQ.mono (h3 k x e hx he) fun b hb h => ⟨hs b hb h.1, h.2⟩⟩
theorem Gr.lt (h : Gr Q r size t S base w v l) : ∀ x, v.ownBlock = some x → base ≤ x ∧ x < w.heap.size := by obtain ⟨es, _, h2, _⟩ := h; exact h2.lt
theorem Gr.shape (h : Gr Q r size t S base w v l) : ∃ a cap, v = .slice a l.length cap ∧ l.length ≤ cap ∧ cap ≤ 9223372036854775807 := by
  obtain ⟨es, h1, h2, _⟩ := h
  obtain ⟨a, cap, e, h3, h4⟩ := h2.shape
  rw [zip_len h1] at e h3
  exact ⟨a, cap, e, h3, by simpa [maxLen] using h4⟩

/-- One more at the end. -/
theorem Gr.snoc {w2 : World} {v' : Value} {x : β} {e : Value} {es : List Value} (hQ : Good Q) (h1 : es.length = l.length)
    (h3 : ∀ (k : Nat) (x : β) (e : Value), l[k]? = some x → es[k]? = some e → Q (fun y => S y ∧ v.ownBlock ≠ some y) w e x)
    (hx : Q (fun y => S y ∧ v.ownBlock ≠ some y) w e x)
    (ho : Own w2 base t size v' (List.zipWith r l es ++ [r x e])) (hk : ∀ M, (∀ x, v.ownBlock = some x → x ∈ M) → Kept M w w2) (hl : v'.ownBlock = v.ownBlock ∨ ∃ g, v'.ownBlock = some g ∧ w.heap.size ≤ g) : Gr Q r size t S base w2 v' (l ++ [x]) := by
  have key : ∀ e x, Q (fun y => S y ∧ v.ownBlock ≠ some y) w e x → Q (fun y => S y ∧ v'.ownBlock ≠ some y) w2 e x := by
    intro e x h
    have h' : Q (fun y => S y ∧ v.ownBlock ≠ some y ∧ v'.ownBlock ≠ some y) w e x := hQ.mono h fun y hy hq => ⟨hq.1, hq.2, by
      rcases hl with hl | ⟨g, hg, hge⟩
      · rw [hl]; exact hq.2
      · rw [hg]; intro e; cases e; omega⟩
    exact hQ.mono (hQ.kept h' (hk v.ownBlock.toList (fun x hx => by simp [hx])) (fun x hx hq => hq.2.1 (by simpa using hx))) fun x _ hq => ⟨hq.1, hq.2.2⟩
  refine ⟨es ++ [e], by simp [h1], by rw [List.zipWith_append h1.symm]; exact ho, fun k x' e' hx' he' => ?_⟩
  rcases Nat.lt_or_ge k es.length with hlt | hge
  · rw [List.getElem?_append_left hlt] at he'
    rw [List.getElem?_append_left (by omega)] at hx'
    exact key _ _ (h3 k x' e' hx' he')
  · rw [List.getElem?_append_right hge] at he'
    rw [List.getElem?_append_right (by omega), ← h1] at hx'
    rcases Nat.eq_or_lt_of_le hge with q | q
    · rw [← q, Nat.sub_self] at he' hx'
      simp at he' hx'
      subst he' hx'
      exact key _ _ hx
    · rw [List.getElem?_eq_none (by simp; omega)] at he'
      cases he'
end

/-- A value of the program's language: kind, number, text, elements. -/
inductive Vl where
  | mk (kind n : Int) (s : ByteArray) (elems : List Vl)
def Vl.kind : Vl → Int | .mk k _ _ _ => k
def Vl.n : Vl → Int | .mk _ n _ _ => n
def Vl.s : Vl → ByteArray | .mk _ _ s _ => s
def Vl.elems : Vl → List Vl | .mk _ _ _ l => l
def Vl.row (x : Vl) (e : Value) : List Value := [.int .i64 x.kind, .int .i64 x.n, .string x.s, e]

/-- Slices of values, down to a depth. -/
def VR : Nat → (Nat → Prop) → World → Value → List Vl → Prop
  | 0, S, w, v, l => l = [] ∧ Reads S w v 4 []
  | d + 1, S, w, v, l => l.length ≤ 1000 ∧ Rd (fun S w e (x : Vl) => VR d S w e x.elems) Vl.row 4 S w v l

theorem VR.good : ∀ d, Good (fun S w v (l : List Vl) => VR d S w v l)
  | 0 => ⟨fun h k hn => ⟨h.1, h.2.kept k hn⟩, fun h hs => ⟨h.1, h.2.mono hs⟩⟩
  | d + 1 => ⟨fun h k hn => ⟨h.1, Rd.kept ⟨fun h k hn => (VR.good d).kept h k hn, fun h hs => (VR.good d).mono h hs⟩ h.2 k hn⟩, fun h hs => ⟨h.1, Rd.mono ⟨fun h k hn => (VR.good d).kept h k hn, fun h hs => (VR.good d).mono h hs⟩ h.2 hs⟩⟩
theorem VR.goodAt {γ : Type} (d : Nat) (f : γ → List Vl) : Good (fun S w v (x : γ) => VR d S w v (f x)) := ⟨fun h k hn => (VR.good d).kept h k hn, fun h hs => (VR.good d).mono h hs⟩
theorem VR.nil (d : Nat) (S : Nat → Prop) (w : World) : VR d S w (.slice none 0 0) [] := by
  cases d with
  | zero => exact ⟨rfl, Reads.nil _ _ _⟩
  | succ d => exact ⟨by simp, Rd.nil⟩
theorem VR.form {d : Nat} {S : Nat → Prop} {w : World} {v : Value} {l : List Vl} (h : VR d S w v l) : ∃ a cap, v = .slice a l.length cap ∧ l.length ≤ cap ∧ cap ≤ 9223372036854775807 ∧ l.length ≤ 1000 := by
  cases d with
  | zero =>
    obtain ⟨rfl, h0, a, cap, rfl, h2, h3, h4⟩ := h
    exact ⟨a, cap, rfl, h2, by simpa [maxLen] using h3, by simp⟩
  | succ d =>
    obtain ⟨h1, h2⟩ := h
    obtain ⟨a, cap, rfl, h3, h4, _⟩ := h2.form
    exact ⟨a, cap, rfl, h3, h4, h1⟩
end Go.Proofs.YtkldomkooleecaaGreatDoor
