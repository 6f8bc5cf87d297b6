/- Walks: Top, Pop and Replace of a stack of frames; frames that are not pushed. -/
import Derived.Test.YtkldomkooleecaaStackC
import Derived.Laws.ResultCell
import Derived.WalkSmall
namespace Go.Proofs.Ytkldomkooleecaa
open Go.RowKit

/-- Two results, the first a struct's variable. -/
theorem results_blk_tmp {P : Program} {fn : Func} {p u : Tmp} {ty : TypeId} (h : fn.results = #[.cell p ty, .tmp u]) (tmps : Array Value) (w : World) (g : Nat) (t : TypeId) (cs : List Value) (d : TypeDesc) (z : Value)
    (hp : tmps.getD p undef = .pointer (some ⟨g, 0, none⟩)) (hz : tmps.getD u undef = z) (hb : Blk w g cs t) (hu : P.underlying ty = some d) (hd : (match d with | .struct _ | .array _ _ => true | _ => false) = true) (hi : (P.info? ty).map (·.size) = some cs.length) :
    (results fn tmps).run P w = .ok (.tuple #[.agg cs.toArray, z]) w := by
  rw [results_cell_tmp h, hp, hz]
  simp [asAddr, run_loadVar_row w g t ty cs.toArray (0, 0) d hb hu hd (by simpa using hi), Result.andThen]

theorem zip_snoc {β : Type} {r : β → Value → List Value} {l : List β} {x : β} {es : List Value} (h : es.length = (l ++ [x]).length) : ∃ es' e, es = es' ++ [e] ∧ es'.length = l.length ∧ List.zipWith r (l ++ [x]) es = List.zipWith r l es' ++ [r x e] := by
  have hne : es ≠ [] := by rintro rfl; simp at h
  refine ⟨es.dropLast, es.getLast hne, (List.dropLast_concat_getLast hne).symm, by simp at h ⊢; omega, ?_⟩
  conv => lhs; rw [← List.dropLast_concat_getLast hne]
  rw [List.zipWith_append (by simp at h ⊢; omega)]
  rfl

theorem Gr.pop {β : Type} {Q : (Nat → Prop) → World → Value → β → Prop} {r : β → Value → List Value} {size : Nat} {S : Nat → Prop} {w : World} {l : List β} {x : β} {t : TypeId} {base : Nat} {a : Option Addr} {n cap : Nat}
    (h : Gr Q r size t S base w (.slice a (n + 1) cap) (l ++ [x])) (hn : n = l.length) : Gr Q r size t S base w (.slice a n cap) l := by
  subst hn
  obtain ⟨es, h1, h2, h3⟩ := h
  obtain ⟨es', e, rfl, h4, h5⟩ := zip_snoc (r := r) h1
  rw [h5] at h2
  have hlen : (List.zipWith r l es').length = l.length := zip_len h4
  refine ⟨es', h4, ⟨?_, fun q hq => h2.each q (by simp [hq])⟩, fun k y e' hy he => ?_⟩
  · have hr := h2.row
    rcases hr.2 with ⟨h0, _⟩ | ⟨g, cap', cur, hv, _⟩
    · cases h0
    · simp only [Value.slice.injEq] at hv
      obtain ⟨rfl, _, rfl⟩ := hv
      simp only [List.length_append, List.length_singleton, List.flatten_append, List.flatten_singleton, hlen] at hr ⊢
      refine ownsRow_pop (last := r x e) ?_ hr
      rw [List.length_flatten, show (List.zipWith r l es').map List.length = List.replicate l.length size from List.eq_replicate_iff.2 ⟨by simp; omega, fun z hz => by obtain ⟨q, hq, rfl⟩ := List.mem_map.1 hz; exact (h2.each q (by simp [hq])).1⟩]
      simp [Nat.mul_comm]
  · have hk := (List.getElem?_eq_some_iff.1 hy).1
    have := h3 k y e' (by rw [List.getElem?_append_left hk]; exact hy) (by rw [List.getElem?_append_left (by omega)]; exact he)
    cases a <;> exact this

/-- The last frame of a stack. -/
theorem Sk.last {d : Nat} {S : Nat → Prop} {w : World} {b : Nat} {g : Option Nat} {l : List Frm} {x : Frm} (h : Sk d S w b g (l ++ [x])) : ∃ g' cap q, g = some g' ∧ Blk w b [.slice (some ⟨g', 0, none⟩) (l.length + 1) cap] 90 ∧ l.length + 1 ≤ cap ∧ cap ≤ 9223372036854775807 ∧ b < g' ∧ g' < w.heap.size ∧
    w.rangeAt g' (l.length * 5) (x.row q) ∧ VR d S w q x.slots ∧ Gr (fun S w e (x : Frm) => VR d S w e x.slots) Frm.row 5 43 S (b + 1) w (.slice (some ⟨g', 0, none⟩) (l.length + 1) cap) (l ++ [x]) := by
  obtain ⟨v, rfl, hb, hg⟩ := h
  have hg' := hg
  obtain ⟨es, h1, h2, h3⟩ := hg
  obtain ⟨es', e, rfl, h4, h5⟩ := zip_snoc (r := Frm.row) h1
  have hlen : (List.zipWith Frm.row l es').length = l.length := zip_len h4
  have hr := h2.row
  have hrr := h2.rows
  rw [h5] at hr hrr
  rcases hr.2 with ⟨_, h0⟩ | ⟨g, cap, cur, rfl, c1, c2, c3, c4, _⟩
  · simp at h0
  · have hll : (List.zipWith Frm.row l es' ++ [x.row e]).length = l.length + 1 := by rw [List.length_append, hlen]; rfl
    simp only [hll] at c3 hg' h3 hb ⊢
    have hgl := (Array.getElem?_eq_some_iff.1 c2).1
    obtain ⟨_, a, cap', hv, _, _, hr⟩ := hrr
    simp only [Value.slice.injEq] at hv
    obtain ⟨rfl, _, rfl⟩ := hv
    obtain ⟨b', off, hab, _, _, hrow⟩ := hr.resolve_left (by simp)
    cases hab
    refine ⟨g, cap, e, rfl, hb, c3, by simpa [maxLen] using c4, by omega, (Array.getElem?_eq_some_iff.1 c2).1, ?_, ?_, hg'⟩
    · have := hrow l.length (x.row e) (by rw [List.getElem?_append_right (by omega), hlen]; simp)
      simpa using this
    · exact (VR.good d).mono (h3 l.length x e (by simp) (by rw [List.getElem?_append_right (by omega), h4]; simp)) (fun _ _ h => h.1)

theorem Sk.popped {d : Nat} {S : Nat → Prop} {w w' : World} {b g' cap : Nat} {l : List Frm} {x : Frm} (hb : Blk w b [.slice (some ⟨g', 0, none⟩) (l.length + 1) cap] 90)
    (hg : Gr (fun S w e (x : Frm) => VR d S w e x.slots) Frm.row 5 43 S (b + 1) w (.slice (some ⟨g', 0, none⟩) (l.length + 1) cap) (l ++ [x])) (hk : Kept [] w w') (hSb : ¬ S b) :
    Sk d S (w'.setCell ⟨b, 0, none⟩ (.slice (some ⟨g', 0, none⟩) l.length cap)) b (some g') l := by
  have h1 := hg.pop rfl
  refine ⟨_, rfl, (hb.kept hk (by simp)).set 0 _, h1.kept (VR.goodAt d Frm.slots) (hk.nil.setCell (M := [b]) (by simp) _) ?_ ?_⟩
  · intro y hy e
    simp at hy
    subst hy
    have := (h1.lt _ e).1
    omega
  · intro y hy
    simp at hy
    subst hy
    exact hSb
end Go.Proofs.Ytkldomkooleecaa
