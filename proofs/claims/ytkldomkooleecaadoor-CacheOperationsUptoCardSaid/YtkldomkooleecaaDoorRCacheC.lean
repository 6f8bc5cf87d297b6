/- Walks over the reference cache: Invalidate, Remove. -/
import Derived.Test.YtkldomkooleecaaDoorRCache
import Derived.Test.YtkldomkooleecaaDoorInval
import Derived.Test.YtkldomkooleecaaDoorCacheF
namespace Go.Proofs.YtkldomkooleecaaDoor
open Go.RowKit

/-- y is the block of its own of the slice that lies at p. -/
def OwnAt (w : World) (p : Addr) (y : Nat) : Prop := ∃ v, w.cell? p = some v ∧ v.ownBlock = some y
theorem OwnAt.of {w : World} {p : Addr} {v : Value} (h : w.cell? p = some v) (y : Nat) : OwnAt w p y ↔ v.ownBlock = some y := by
  constructor
  · rintro ⟨v', h1, h2⟩
    rw [h] at h1
    cases h1
    exact h2
  · exact fun h2 => ⟨v, h, h2⟩
theorem OwnAt.kept {w w' : World} {M : List Nat} {p : Addr} {v : Value} (hp : w.cell? p = some v) (k : Kept M w w') (hn : p.block ∉ M) (y : Nat) : OwnAt w' p y ↔ OwnAt w p y := by
  rw [OwnAt.of (k.cell' hp hn), OwnAt.of hp]
/-- What an operation on the reference cache may turn. -/
inductive RTurn (R : Nat) (w w' : World) : Prop
  | mk (M : List Nat) (hM : ∀ y ∈ M, y = R ∨ OwnAt w ⟨R, 0, none⟩ y ∨ OwnAt w ⟨R, 3, none⟩ y) (hk : Kept M w w') (h0 : ∀ y, OwnAt w' ⟨R, 0, none⟩ y → OwnAt w ⟨R, 0, none⟩ y ∨ w.heap.size ≤ y) (h3 : ∀ y, OwnAt w' ⟨R, 3, none⟩ y → OwnAt w ⟨R, 3, none⟩ y ∨ w.heap.size ≤ y)

set_option maxRecDepth 100000 in
set_option maxHeartbeats 3200000 in
theorem refInvalidate {G : Nat → Prop} (d : Nat) (R base : Nat) (cap next : Int) (l : List Cp) (cs : List Cn) (i wd : Int) (w : World) (h : RCch G d w R base cap next l cs) :
    Calls Tryd.prog 34 #[.pointer (some ⟨R, 0, none⟩), .int .i64 i, .int .i64 wd] w fun e w' => (e = .returned (.int .i64 7) ∧ Lacks l i l.length ∧ w' = w) ∨ (∃ k x, Finds l i k x ∧
      ((x.unt ≠ 0 ∧ e = .returned (.int .i64 6) ∧ w' = w) ∨ (x.unt = 0 ∧ wd ≤ x.frm ∧ e = .returned (.int .i64 1) ∧ w' = w) ∨
       (x.unt = 0 ∧ x.frm < wd ∧ e = .returned (.int .i64 0) ∧ RCch G d w' R base cap next (endAt l k x wd) cs ∧ RTurn R w w'))) := by
  have H := Lib.hid h
  have hbs := h.lt
  obtain ⟨a, c, a', c', g1, g2, g3, g4, g5, g6, e0, e1, e2, e3, HB, H5, HCS, HX⟩ := h.form
  clear h e1 e2 HCS g3 g4
  go_enter Tryd.func34, Tryd.ntmps34
  go_wp2_with fail
  refine Calls.mono (refIndex d R base cap next l cs i _ (by exact H.out)) ?_
  rintro e w1 ⟨hw1, hc⟩
  subst hw1
  rcases hc with ⟨k, rfl, x, hf⟩ | ⟨rfl, hno⟩
  · have hlt : k < l.length := (List.getElem?_eq_some_iff.1 hf.1).1
    have hne : l ≠ [] := by rintro rfl; simp at hlt
    obtain ⟨hG, hv, hvn, gr, gn⟩ := HX.out
    obtain ⟨g, cap', hsl, hgb, hgl, hfr⟩ := gr.blockG hne
    obtain ⟨rfl, _, rfl⟩ := Value.slice.inj hsl
    obtain ⟨b1, o1, hab, hSb, hb1, hc1⟩ := H5.out.code hne
    cases hab
    obtain ⟨a1, c1, a2, c2, hrx, _⟩ := hc1 k x hf.1
    have u6 : w1.cell? ⟨g, 0 + k * 14 + 6, none⟩ = some (.int .i64 x.frm) := hrx 6 _ rfl
    have u7 : w1.cell? ⟨g, 0 + k * 14 + 7, none⟩ = some (.int .i64 x.unt) := hrx 7 _ rfl
    rw [Nat.zero_add] at u6 u7
    have f7 := hfr (k * 14 + 7)
    have HE := Lib.hid (⟨e0, e3⟩ : _ ∧ _)
    have HF := Lib.hid hf
    have HV := Lib.hid hv
    have HVN := Lib.hid hvn
    have HGR := Lib.hid gr
    have HGN := Lib.hid gn
    have HG := Lib.hid hG
    have hkc : k < c := by omega
    clear hrx hc1 hne hsl e3 hfr hv hvn gr gn hG hSb HX H5 hf
    by_cases hu : x.unt = 0
    · have hub : (x.unt != 0) = false := by simpa using hu
      have HU := Lib.hid hu
      clear hu
      by_cases hw : wd ≤ x.frm
      · have hwb : decide (wd ≤ x.frm) = true := by simpa using hw
        go_wp2
        go_ret
        exact .inr ⟨k, x, HF.out, .inr (.inl ⟨HU.out, hw, rfl, rfl⟩)⟩
      · have hwb : decide (wd ≤ x.frm) = false := by simpa using hw
        go_wp2
        go_ret
        have hkS : Kept [g] w1 (w1.setCell ⟨g, k * 14 + 7, none⟩ (.int .i64 wd)) := (Kept.refl _ _).setCell (by simp) _
        have hgR : R ≠ g := by omega
        have hgg := HV.out g rfl
        have hbl := HB.out.kept hkS (by simpa using hgR)
        refine .inr ⟨k, x, HF.out, .inr (.inr ⟨HU.out, by omega, rfl, ⟨g5, by simpa using g6, fun y hy => HG.out y (by simpa using hy), _, _, hbl, HV.out, HVN.out, HGR.out.ended HF.out.1, HGN.out.kept (cn_good d) hkS (by intro y hy e; simp at hy; subst hy; exact hgg.2 e) (by intro y hy hs; simp at hy; subst hy; exact hs.2.2 rfl)⟩, ?_⟩)⟩
        refine .mk [g] (fun y hy => .inr (.inl ?_)) hkS (fun y hy => .inl ?_) (fun y hy => .inl ?_)
        · simp at hy
          subst hy
          exact ⟨_, HE.out.1, rfl⟩
        · exact (OwnAt.kept HE.out.1 hkS (by simpa using hgR) y).1 hy
        · exact (OwnAt.kept HE.out.2 hkS (by simpa using hgR) y).1 hy
    · have hub : (x.unt != 0) = true := by simpa using hu
      have HU := Lib.hid hu
      clear hu
      go_wp2
      go_ret
      exact .inr ⟨k, x, HF.out, .inl ⟨HU.out, rfl, rfl⟩⟩
  · go_wp2
    go_ret
    exact .inl ⟨rfl, hno, rfl⟩

set_option maxRecDepth 100000 in
set_option maxHeartbeats 6400000 in
theorem refRemove {G : Nat → Prop} (d : Nat) (R base : Nat) (cap next : Int) (l : List Cp) (cs : List Cn) (i : Int) (w : World) (h : RCch G d w R base cap next l cs) (hll : l.length ≤ 100000) :
    Calls Tryd.prog 35 #[.pointer (some ⟨R, 0, none⟩), .int .i64 i] w fun e w' => (e = .returned (.int .i64 7) ∧ Lacks l i l.length ∧ w' = w) ∨ (∃ k x, Finds l i k x ∧
      ((x.unt = 0 ∧ e = .returned (.int .i64 10) ∧ w' = w) ∨ (x.unt ≠ 0 ∧ e = .returned (.int .i64 0) ∧ RCch G d w' R base cap next (l.take k ++ l.drop (k + 1)) cs ∧ RTurn R w w'))) := by
  have H := Lib.hid h
  have hbs := h.lt
  obtain ⟨a, c, a', c', g1, g2, g3, g4, g5, g6, e0, e1, e2, e3, HB, H5, HCS, HX⟩ := h.form
  obtain ⟨i0, z0, hi, hz0, hz1, hz2, hz3⟩ := info_code'
  clear h e1 e2 HCS g3 g4
  go_enter Tryd.func35, Tryd.ntmps35
  go_wp2_with fail
  refine Calls.mono (refIndex d R base cap next l cs i _ (by exact H.out)) ?_
  rintro e w1 ⟨hw1, hc⟩
  subst hw1
  rcases hc with ⟨k, rfl, x, hf⟩ | ⟨rfl, hno⟩
  · have hlt : k < l.length := (List.getElem?_eq_some_iff.1 hf.1).1
    have hne : l ≠ [] := by rintro rfl; simp at hlt
    have HE := Lib.hid (⟨e0, e3⟩ : _ ∧ _)
    have HF := Lib.hid hf
    obtain ⟨b1, o1, rfl, hSb, hb1, hc1⟩ := H5.out.code hne
    obtain ⟨a1, c1, a2, c2, hrx, _⟩ := hc1 k x hf.1
    have u7 : w1.cell? ⟨b1, o1 + k * 14 + 7, none⟩ = some (.int .i64 x.unt) := hrx 7 _ rfl
    have hkc' : k < c := by omega
    clear hrx hc1 hf hSb e3
    by_cases hu : x.unt = 0
    · have hub : (x.unt == 0) = true := by simpa using hu
      have HU := Lib.hid hu
      clear hu
      go_wp2
      go_ret
      exact .inr ⟨k, x, HF.out, .inl ⟨HU.out, rfl, rfl⟩⟩
    · have hub : (x.unt == 0) = false := by simpa using hu
      have HU := Lib.hid hu
      obtain ⟨hG, hv, hvn, gr, gn⟩ := HX.out
      have f0 := HB.out.frozen 0
      have HGG := Lib.hid (gr.mono (CR.good d) (S' := fun y => (G y ∧ y ≠ R ∧ (Value.slice a' cs.length c').ownBlock ≠ some y) ∧ y < w1.heap.size) (Nat.le_refl _) (fun b hb h => ⟨h, hb⟩))
      obtain ⟨es, n1, n2, n3⟩ := HGG.out
      have hlen : (List.zipWith Cp.row l es).length = l.length := zip_len n1
      have hR := n2.rows'
      have hR1 := hR.sub 0 k (Nat.zero_le _) (by rw [hlen]; omega)
      have hR2 := hR.sub (k + 1) l.length (by omega) (by rw [hlen]; exact Nat.le_refl _)
      rw [List.drop_zero, zip_take] at hR1
      rw [show l.length = (List.zipWith Cp.row l es).length from hlen.symm, List.take_length, zip_drop, hlen] at hR2
      have N3 := Lib.hid n3
      have N1 := Lib.hid n1
      have HGN := Lib.hid gn
      have HG := Lib.hid hG
      have HVN := Lib.hid hvn
      have R1 : ∀ W, Kept [] w1 W → Reads (base ≤ ·) W _ 14 (List.zipWith Cp.row (l.take k) (es.take k)) := fun W hW => hR1.kept hW (by simp)
      have R2 : ∀ W, Kept [] w1 W → Reads (base ≤ ·) W _ 14 (List.zipWith Cp.row (l.drop (k + 1)) (es.drop (k + 1))) := fun W hW => hR2.kept hW (by simp)
      simp only [sub, Nat.sub_zero, Option.map_some, Addr.add_lit, Nat.zero_mul, Nat.add_zero, ite_self] at R1 R2
      clear hR hR1 hR2 n1 n2 n3 hlen hne hu hv hvn gr gn hG HX H5
      have hkc : k ≤ c := by omega
      have hkc1 : k + 1 ≤ c := by omega
      have L1 : (List.zipWith Cp.row (l.take k) (es.take k)).length ≤ 100000 := by simp; omega
      have L2 : (List.zipWith Cp.row (l.drop (k + 1)) (es.drop (k + 1))).length ≤ 100000 := by simp; omega
      have hw1 : IntKind.i64.wrap ((k : Int) + 1) = (k : Int) + 1 := IntWalk.i64_in _ (by omega)
      have hw2 : (k : Int) + 1 ≤ l.length := by omega
      have hw3 : 0 ≤ (k : Int) + 1 := by omega
      have HL1 := Lib.hid L1
      have HL2 := Lib.hid L2
      clear L1 L2
      go_wp2
      go_region_law ((first
        | (refine step_append_rows rfl (.tmp 23) (.tmp 29) 48 43 rfl i0 z0 14 200 Tryd.underlying48 hi hz0 hz1 hz2 hz3 (by decide) w1.heap.size (.slice (some ⟨_, 0, none⟩) 0 0) [] (List.zipWith Cp.row (l.take k) (es.take k)) rfl (own_zeroN (by first | exact halloc_new _ _ _ rfl | (exact halloc_new _ _ _ (by simp))) (by simp)) (base ≤ ·) _ rfl (R1 _ (by repeat (first | exact Kept.refl _ _ | refine Kept.drew ?_ | refine Kept.alloc ?_ _))) (by have := HL1.out; simp only [List.length_nil]; omega) (by have := HL1.out; simp only [List.length_nil]; omega) (by simp) ?_; intro v1 w2 ho1 hka _; have K1 : Kept [] w1 w2 := Kept.trans' (by repeat (first | exact Kept.refl _ _ | refine Kept.drew ?_ | refine Kept.alloc ?_ _)) (hka [w1.heap.size] (by simp [Value.ownBlock])) (by simp); have HO1 : Hid (Own w2 w1.heap.size 43 14 v1 (List.zipWith Cp.row (l.take k) (es.take k))) := Lib.hid ho1; have HK1 := Lib.hid K1; have e0 := (HB.out.kept K1 (by simp)).cell 0 _ rfl; have hbw2 := (HB.out.kept K1 (by simp)).lt; clear ho1 hka K1)
        | (refine step_append_rows rfl (.tmp 30) (.tmp 37) 48 43 rfl i0 z0 14 200 Tryd.underlying48 hi hz0 hz1 hz2 hz3 (by decide) w1.heap.size v1 (List.zipWith Cp.row (l.take k) (es.take k)) (List.zipWith Cp.row (l.drop (k + 1)) (es.drop (k + 1))) rfl (by first | exact HO1.out | exact HO1.out.kept (M := []) (by repeat (first | exact Kept.refl _ _ | refine Kept.drew ?_ | refine Kept.alloc ?_ _)) (by simp)) (base ≤ ·) _ rfl (R2 _ (Kept.trans HK1.out (by repeat (first | exact Kept.refl _ _ | refine Kept.drew ?_ | refine Kept.alloc ?_ _)))) (by have := HL1.out; have := HL2.out; omega) (by have := HL1.out; have := HL2.out; omega) (by first | exact HK1.out.size | (have := HK1.out.size; simp; omega)) ?_; intro v2 w3 ho2 hkb _; have hl1 := HO1.out.lt; have K2 : Kept [] w1 w3 := (Kept.trans HK1.out (by repeat (first | exact Kept.refl _ _ | refine Kept.drew ?_ | refine Kept.alloc ?_ _))).trans' (hkb v1.ownBlock.toList (by intro x hx; simp [hx])) (fun x hx => .inr (hl1 x (by simpa using hx)).1); have hv2 : ∃ va n vc, v2 = .slice va n vc := (by obtain ⟨a, c, e, _⟩ := ho2.shape; exact ⟨_, _, _, e⟩); obtain ⟨va, n, vc, rfl⟩ := hv2; have HO2 := Lib.hid ho2; have HK2 := Lib.hid K2; have e0 := (HB.out.kept K2 (by simp)).cell 0 _ rfl; have f0 := (HB.out.kept K2 (by simp)).frozen 0; clear ho2 hkb K2 hl1)))
      all_goals go_wp2
      all_goals
        go_ret
        have hgr := Gr.without (k := k) (base := base) (CR.good d) N1.out (fun k x e hx he => (CR.good d).mono (N3.out k x e hx he) (fun y hy h => (⟨h.1.1, hy⟩ : (G y ∧ y ≠ R ∧ (Value.slice a' cs.length c').ownBlock ≠ some y) ∧ y < w1.heap.size))) (fun b h => h.2) HO2.out HK2.out g6
        have hkS : Kept [R] w3 (w3.setCell ⟨R, 0, none⟩ (.slice va n vc)) := (Kept.refl _ _).setCell (by simp) _
        have hkF : Kept [R] w1 (w3.setCell ⟨R, 0, none⟩ (.slice va n vc)) := HK2.out.nil.trans hkS
        have hlo := HO2.out.lt
        have hBF := (HB.out.kept HK2.out (by simp)).set 0 (.slice va n vc)
        refine .inr ⟨k, x, HF.out, .inr ⟨HU.out, rfl, ⟨g5, Nat.le_trans g6 hkF.size, fun y hy => HG.out y (Nat.le_trans hkF.size hy), _, _, hBF, fun y hy => ⟨HG.out y (hlo y hy).1, fun e => ?_⟩, HVN.out, (hgr.kept (CR.good d) hkS ?_ ?_).mono (CR.good d) (Nat.le_refl _) (fun _ _ h => h.1), ?_⟩, ?_⟩⟩
        · have h1 := (hlo y hy).1
          have h2 := (HGN.out.lt y e).2
          omega
        · intro y hy e
          simp at hy
          subst hy
          have := (hlo _ e).1
          omega
        · intro y hy h
          simp at hy
          subst hy
          exact h.1.2.1 rfl
        · refine ((HGN.out.mono (cn_good d) (Nat.le_refl _) (S' := fun y => (G y ∧ y ≠ R) ∧ y < w1.heap.size) (fun y hy h => ⟨⟨h.1, h.2.1⟩, hy⟩)).kept (cn_good d) hkF ?_ ?_).mono (cn_good d) (Nat.le_refl _) (fun y _ h => ⟨h.1.1, h.1.2, fun e => ?_⟩)
          · intro y hy e
            simp at hy
            subst hy
            have := (HGN.out.lt _ e).1
            omega
          · intro y hy h
            simp at hy
            subst hy
            exact h.1.2 rfl
          · have h1 := (hlo y e).1
            have h2 := h.2
            omega
        · refine .mk [R] (by simp) hkF (fun y hy => .inr ?_) (fun y hy => .inl ?_)
          · exact (hlo y ((OwnAt.of (hBF.cell 0 _ rfl) y).1 hy)).1
          · exact (OwnAt.of HE.out.2 y).2 ((OwnAt.of (hBF.cell 3 _ rfl) y).1 hy)
  · go_wp2
    go_ret
    exact .inl ⟨rfl, hno, rfl⟩
end Go.Proofs.YtkldomkooleecaaDoor
