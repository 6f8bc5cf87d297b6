/- Walks over the cache: Remove. -/
import Derived.Test.YtkldomkooleecaaDoorCacheC
namespace Go.Proofs.YtkldomkooleecaaDoor
open Go.RowKit

theorem own_nil {w : World} {base e size : Nat} : Own w base e size (.slice none 0 0) [] := Own.nil _ _ _ _

theorem zip_take {β : Type} {r : β → Value → List Value} : ∀ (k : Nat) (l : List β) (es : List Value), (List.zipWith r l es).take k = List.zipWith r (l.take k) (es.take k)
  | 0, _, _ => by simp
  | k + 1, [], _ => by simp
  | k + 1, _ :: _, [] => by simp
  | k + 1, x :: l, e :: es => by simp [zip_take k l es]
theorem zip_drop {β : Type} {r : β → Value → List Value} : ∀ (k : Nat) (l : List β) (es : List Value), (List.zipWith r l es).drop k = List.zipWith r (l.drop k) (es.drop k)
  | 0, _, _ => by simp
  | k + 1, [], _ => by simp
  | k + 1, _ :: _, [] => by simp
  | k + 1, x :: l, e :: es => by simp [zip_drop k l es]

/-- The codes without the one at k, as they are laid anew. -/
theorem Gr.without {β : Type} {Q : (Nat → Prop) → World → Value → β → Prop} {r : β → Value → List Value} {size : Nat} {t : TypeId} {S : Nat → Prop} {base : Nat} {w w2 : World} {v' : Value} {l : List β} {es : List Value} {k : Nat} (hQ : Good Q) (h1 : es.length = l.length)
    (h3 : ∀ (k : Nat) (x : β) (e : Value), l[k]? = some x → es[k]? = some e → Q S w e x) (hS : ∀ b, S b → b < w.heap.size)
    (ho : Own w2 w.heap.size t size v' (List.zipWith r (l.take k) (es.take k) ++ List.zipWith r (l.drop (k + 1)) (es.drop (k + 1)))) (hk : Kept [] w w2) (hb : base ≤ w.heap.size) : Gr Q r size t S base w2 v' (l.take k ++ l.drop (k + 1)) := by
  refine ⟨es.take k ++ es.drop (k + 1), by simp [h1], ?_, fun i x e hx he => ?_⟩
  · rw [List.zipWith_append (by simp [h1])]
    exact ho.mono hb
  · have hlt := ho.lt
    have key : Q S w e x := by
      rcases Nat.lt_or_ge i (l.take k).length with hl | hl
      · rw [List.getElem?_append_left hl] at hx
        rw [List.getElem?_append_left (by simp [h1] at hl ⊢; exact hl)] at he
        rw [List.getElem?_take] at hx he
        split at hx
        · rename_i hik; rw [if_pos hik] at he; exact h3 i x e hx he
        · cases hx
      · rw [List.getElem?_append_right hl] at hx
        have el : (es.take k).length = (l.take k).length := by simp [h1]
        rw [List.getElem?_append_right (by rw [el]; exact hl), el] at he
        rw [List.getElem?_drop] at hx he
        exact h3 _ x e hx he
    refine hQ.mono (hQ.kept key hk (by simp)) (fun y _ hy => ⟨hy, fun e => ?_⟩)
    have := (hlt y e).1
    have := hS y hy
    omega

set_option maxRecDepth 100000 in
set_option maxHeartbeats 6400000 in
theorem cacheRemove {F : Nat → Prop} (d : Nat) (b base : Nat) (cap last : Int) (mp : Value) (l : List Cp) (i : Int) (k : Nat) (x : Cp) (w : World) (h : Cch F d w b base cap last mp l) (hf : Finds l i k x) (hu : x.unt ≠ 0) (hll : l.length ≤ 100000) :
    Calls Tryd.prog 11 #[.pointer (some ⟨b, 0, none⟩), .int .i64 i] w fun e w' => e = .returned (.int .i64 0) ∧ Cch F d w' b base cap last mp (l.take k ++ l.drop (k + 1)) ∧ Kept [b] w w' ∧ ∀ v y, w'.cell? ⟨b, 2, none⟩ = some v → v.ownBlock = some y → w.heap.size ≤ y := by
  have H := Lib.hid h
  have hbs := h.lt
  have HF := Lib.hid hf
  obtain ⟨i0, z0, hi, hz0, hz1, hz2, hz3⟩ := info_code'
  go_enter Tryd.func11, Tryd.ntmps11
  clear h hf
  go_wp2_with fail
  refine Calls.mono (cacheIndex d b base cap last mp l i _ (by exact H.out)) ?_
  rintro e w1 ⟨hk1, hc⟩
  rcases hc with ⟨k', rfl, x', hf'⟩ | ⟨rfl, hno⟩
  · obtain ⟨hx, hid, hmin⟩ := HF.out
    obtain ⟨hx', hid', hmin'⟩ := hf'
    have hkk : k' = k := by
      rcases Nat.lt_trichotomy k' k with hl | hl | hl
      · exact absurd hid' (hmin k' x' hl hx')
      · exact hl
      · exact absurd hid (hmin' k x hl hx)
    subst hkk
    have hxx : x' = x := by rw [hx] at hx'; exact (Option.some.inj hx').symm
    subst hxx
    obtain ⟨a, c, g1, g2, g3, g4, g5, g6, e0, e1, e2, e3, hb, hg, h5⟩ := (H.out.kept hk1 (by simp)).form
    have hlt : k' < l.length := (List.getElem?_eq_some_iff.1 hx).1
    have hne : l ≠ [] := by rintro rfl; simp at hlt
    obtain ⟨b1, o1, rfl, hSb, hb1, hc1⟩ := h5.resolve_left hne
    obtain ⟨a1, c1, a2, c2, hrx, _⟩ := hc1 k' x' hx
    have u7 : w1.cell? ⟨b1, o1 + k' * 14 + 7, none⟩ = some (.int .i64 x'.unt) := hrx 7 _ rfl
    have hub : (x'.unt == 0) = false := by simpa using hu
    have f2 := hb.frozen 2
    have hbw : b < w1.heap.size := hb.lt
    have HB := Lib.hid hb
    have HGG := Lib.hid (hg.mono (CR.good d) (S' := fun y => (base ≤ y ∧ F y) ∧ y < w1.heap.size) (Nat.le_refl _) (fun b hb h => ⟨h, hb⟩))
    obtain ⟨es, n1, n2, n3⟩ := HGG.out
    have hlen : (List.zipWith Cp.row l es).length = l.length := zip_len n1
    have hR := n2.rows'
    have hR1 := hR.sub 0 k' (Nat.zero_le _) (by rw [hlen]; omega)
    have hR2 := hR.sub (k' + 1) l.length (by omega) (by rw [hlen]; exact Nat.le_refl _)
    rw [List.drop_zero, zip_take] at hR1
    rw [show l.length = (List.zipWith Cp.row l es).length from hlen.symm, List.take_length, zip_drop, hlen] at hR2
    have HR1 := Lib.hid hR1
    have HR2 := Lib.hid hR2
    have N3 := Lib.hid n3
    have N1 := Lib.hid n1
    have HHL := Lib.hid hlen
    have R1 : ∀ W, Kept [] w1 W → Reads (base ≤ ·) W _ 14 (List.zipWith Cp.row (l.take k') (es.take k')) := fun W hW => hR1.kept hW (by simp)
    have R2 : ∀ W, Kept [] w1 W → Reads (base ≤ ·) W _ 14 (List.zipWith Cp.row (l.drop (k' + 1)) (es.drop (k' + 1))) := fun W hW => hR2.kept hW (by simp)
    simp only [sub, Nat.sub_zero, Option.map_some, Addr.add_lit, Nat.zero_mul, Nat.add_zero, ite_self] at R1 R2
    clear hR hR1 hR2 n1 n2 n3 hlen hrx hc1 hne h5 hx hx' hid hid' hmin hmin' hg hb e0 e1 e3 hu
    have hkc : k' ≤ c := by omega
    have hkc1 : k' + 1 ≤ c := by omega
    have L1 : (List.zipWith Cp.row (l.take k') (es.take k')).length ≤ 100000 := by simp; omega
    have L2 : (List.zipWith Cp.row (l.drop (k' + 1)) (es.drop (k' + 1))).length ≤ 100000 := by simp; omega
    have hw1 : IntKind.i64.wrap ((k' : Int) + 1) = (k' : Int) + 1 := IntWalk.i64_in _ (by omega)
    have hw2 : (k' : Int) + 1 ≤ l.length := by omega
    have hw3 : 0 ≤ (k' : Int) + 1 := by omega
    have HL1 := Lib.hid L1
    have HL2 := Lib.hid L2
    clear L1 L2
    go_wp2
    go_region_law ((first
      | (refine step_append_rows rfl (.const (.slice none 0 0)) (.tmp 28) 48 43 rfl i0 z0 14 200 Tryd.underlying48 hi hz0 hz1 hz2 hz3 (by decide) w1.heap.size (.slice none 0 0) [] (List.zipWith Cp.row (l.take k') (es.take k')) rfl own_nil (base ≤ ·) _ rfl (R1 _ (by repeat (first | exact Kept.refl _ _ | refine Kept.drew ?_ | refine Kept.alloc ?_ _))) (by have := HL1.out; simp only [List.length_nil]; omega) (by have := HL1.out; simp only [List.length_nil]; omega) (by simp) ?_; intro v1 w2 ho1 hka _; have K1 : Kept [] w1 w2 := Kept.trans (by repeat (first | exact Kept.refl _ _ | refine Kept.drew ?_ | refine Kept.alloc ?_ _)) (hka [] (by simp [Value.ownBlock])); have HO1 : Hid (Own w2 w1.heap.size 43 14 v1 (List.zipWith Cp.row (l.take k') (es.take k'))) := Lib.hid ho1; have HK1 := Lib.hid K1; have e2 := (HB.out.kept K1 (by simp)).cell 2 _ rfl; have hbw2 := (HB.out.kept K1 (by simp)).lt; clear ho1 hka K1)
      | (refine step_append_rows rfl (.tmp 29) (.tmp 36) 48 43 rfl i0 z0 14 200 Tryd.underlying48 hi hz0 hz1 hz2 hz3 (by decide) w1.heap.size v1 (List.zipWith Cp.row (l.take k') (es.take k')) (List.zipWith Cp.row (l.drop (k' + 1)) (es.drop (k' + 1))) rfl (by first | exact HO1.out | exact HO1.out.kept (M := []) (by repeat (first | exact Kept.refl _ _ | refine Kept.drew ?_ | refine Kept.alloc ?_ _)) (by simp)) (base ≤ ·) _ rfl (R2 _ (Kept.trans HK1.out (by repeat (first | exact Kept.refl _ _ | refine Kept.drew ?_ | refine Kept.alloc ?_ _)))) (by have := HL1.out; have := HL2.out; omega) (by have := HL1.out; have := HL2.out; omega) (by first | exact HK1.out.size | (have := HK1.out.size; simp; omega)) ?_; intro v2 w3 ho2 hkb _; have hl1 := HO1.out.lt; have K2 : Kept [] w1 w3 := (Kept.trans HK1.out (by repeat (first | exact Kept.refl _ _ | refine Kept.drew ?_ | refine Kept.alloc ?_ _))).trans' (hkb v1.ownBlock.toList (by intro x hx; simp [hx])) (fun x hx => .inr (hl1 x (by simpa using hx)).1); have hv2 : ∃ va n vc, v2 = .slice va n vc := (by obtain ⟨a, c, e, _⟩ := ho2.shape; exact ⟨_, _, _, e⟩); obtain ⟨va, n, vc, rfl⟩ := hv2; have HO2 := Lib.hid ho2; have HK2 := Lib.hid K2; have e2 := (HB.out.kept K2 (by simp)).cell 2 _ rfl; have f2 := (HB.out.kept K2 (by simp)).frozen 2; clear ho2 hkb K2 hl1)))
    all_goals go_wp2
    all_goals
      go_ret
      have hgr := Gr.without (k := k') (base := base) (CR.good d) N1.out (fun k x e hx he => (CR.good d).mono (N3.out k x e hx he) (fun y hy h => (⟨h.1.1, hy⟩ : (base ≤ y ∧ F y) ∧ y < w1.heap.size))) (fun b h => h.2) HO2.out HK2.out g4
      have hkS : Kept [b] w3 (w3.setCell ⟨b, 2, none⟩ (.slice va n vc)) := (Kept.refl _ _).setCell (by simp) _
      refine ⟨rfl, ⟨g3, ?_, (fun y hy => g5.out y (by have := HK2.out.size; simp at hy; omega)), _, (HB.out.kept HK2.out (by simp)).set 2 _, (fun y hy => g5.out y (HO2.out.lt y hy).1), (hgr.kept (CR.good d) hkS ?_ ?_).mono (CR.good d) (Nat.le_refl _) (fun _ _ h => h.1)⟩, ?_, fun v y hv hy => ?_⟩
      · have := HK2.out.size
        simp
        omega
      · intro y hy e
        simp at hy
        subst hy
        have := (HO2.out.lt _ e).1
        omega
      · intro y hy h
        simp at hy
        subst hy
        omega
      · exact ((hk1.trans HK2.out).nil).trans hkS
      · rw [((HB.out.kept HK2.out (by simp)).set 2 (.slice va n vc)).cell 2 _ rfl] at hv
        cases hv
        have := (HO2.out.lt _ hy).1
        have := hk1.size
        omega
  · obtain ⟨hx, hid, _⟩ := HF.out
    exact absurd hid (hno k x (List.getElem?_eq_some_iff.1 hx).1 hx)
end Go.Proofs.YtkldomkooleecaaDoor
