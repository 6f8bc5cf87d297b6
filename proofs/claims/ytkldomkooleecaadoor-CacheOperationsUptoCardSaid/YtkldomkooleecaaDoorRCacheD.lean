/- Walks over the reference cache: Add. -/
import Derived.Test.YtkldomkooleecaaDoorRCacheC
namespace Go.Proofs.YtkldomkooleecaaDoor
open Go.RowKit

/-- What the arguments' slices lead to does not turn. -/
def Apart (G : Nat → Prop) (w : World) (R : Nat) (S : Nat → Prop) : Prop := ∀ y, y < w.heap.size → S y → G y ∧ y ≠ R ∧ ¬ OwnAt w ⟨R, 0, none⟩ y ∧ ¬ OwnAt w ⟨R, 3, none⟩ y

set_option maxRecDepth 100000 in
set_option maxHeartbeats 6400000 in
theorem refAdd {G : Nat → Prop} (d : Nat) {S : Nat → Prop} (R base : Nat) (cap next : Int) (l : List Cp) (cs : List Cn) (xi xm tk : Int) (tn : ByteArray) (ti xf xu : Int) (ta : List Ty) (xl : List Int) (a1 a2 : Option Addr) (c1 c2 : Nat) (w : World)
    (h : RCch G d w R base cap next l cs) (hm : 1 ≤ xm) (hf : 1 ≤ xf) (hu : xu = 0 ∨ xf < xu) (hcap : (l.length : Int) < cap) (h0 : 0 ≤ next) (h1 : next ≤ 1000000) (hll : l.length ≤ 100000)
    (ht : TR d S w (.slice a1 ta.length c1) ta) (hi : Reads S w (.slice a2 xl.length c2) 1 (irows xl)) (hl : xl.length ≤ 1000) (hS : Apart G w R S) :
    Calls Tryd.prog 29 #[.pointer (some ⟨R, 0, none⟩), .agg #[.int .i64 xi, .int .i64 xm, .int .i64 tk, .string tn, .int .i64 ti, .slice a1 ta.length c1, .int .i64 xf, .int .i64 xu, .int .i64 0, .int .i64 0, .slice none 0 0, .slice none 0 0, .slice none 0 0, .slice a2 xl.length c2]] w fun e w' => e = .returned (.tuple #[.int .i64 next, .int .i64 0]) ∧
      RCch G d w' R base cap (next + 1) (l ++ [⟨next, xm, .mk tk tn ti ta, xf, xu, xl⟩]) cs ∧ RTurn R w w' := by
  have hbs := h.lt
  obtain ⟨a, c, a', c', g1, g2, g3, g4, g5, g6, e0, e1, e2, e3, HB, H5, HCS, HX⟩ := h.form
  have HE := Lib.hid (⟨e0, e3⟩ : _ ∧ _)
  have f2 := HB.out.frozen 2
  obtain ⟨hG, hv, hvn, gr, gn⟩ := HX.out
  have HV := Lib.hid hv
  have HVN := Lib.hid hvn
  have HG0 := Lib.hid hG
  have HGL := Lib.hid gr.lt
  have HNL := Lib.hid gn.lt
  have HGR := Lib.hid (gr.mono (CR.good d) (S' := fun y => (G y ∧ y ≠ R ∧ (Value.slice a' cs.length c').ownBlock ≠ some y) ∧ y < w.heap.size) (Nat.le_refl _) (fun b hb h => ⟨h, hb⟩))
  have HGN := Lib.hid (gn.mono (cn_good d) (S' := fun y => (G y ∧ y ≠ R ∧ (Value.slice a l.length c).ownBlock ≠ some y) ∧ y < w.heap.size) (Nat.le_refl _) (fun b hb h => ⟨h, hb⟩))
  have HT := Lib.hid ((TR.good d).mono ht (S' := fun y => (G y ∧ y ≠ R ∧ (Value.slice a' cs.length c').ownBlock ≠ some y ∧ (Value.slice a l.length c).ownBlock ≠ some y) ∧ y < w.heap.size) (fun y hy hs => by
    obtain ⟨q1, q2, q3, q4⟩ := hS y hy hs
    exact ⟨⟨q1, q2, fun e => q4 ((OwnAt.of e3 y).2 e), fun e => q3 ((OwnAt.of e0 y).2 e)⟩, hy⟩))
  have HI := Lib.hid (hi.mono (S' := fun y => (G y ∧ y ≠ R ∧ (Value.slice a' cs.length c').ownBlock ≠ some y ∧ (Value.slice a l.length c).ownBlock ≠ some y) ∧ y < w.heap.size) (fun y hy hs => by
    obtain ⟨q1, q2, q3, q4⟩ := hS y hy hs
    exact ⟨⟨q1, q2, fun e => q4 ((OwnAt.of e3 y).2 e), fun e => q3 ((OwnAt.of e0 y).2 e)⟩, hy⟩))
  have hA := Lib.hid (show Blk (w.alloc (.cells #[.int .i64 xi, .int .i64 xm, .int .i64 tk, .string tn, .int .i64 ti, .slice a1 ta.length c1, .int .i64 xf, .int .i64 xu, .int .i64 0, .int .i64 0, .slice none 0 0, .slice none 0 0, .slice none 0 0, .slice a2 xl.length c2] 43)) w.heap.size [.int .i64 xi, .int .i64 xm, .int .i64 tk, .string tn, .int .i64 ti, .slice a1 ta.length c1, .int .i64 xf, .int .i64 xu, .int .i64 0, .int .i64 0, .slice none 0 0, .slice none 0 0, .slice none 0 0, .slice a2 xl.length c2] 43 from halloc_new _ _ _ rfl)
  clear h hv hvn gr gn hG ht hi H5 HCS HX hS e3 g3 g4
  have q1 : decide (xm < 1) = false := by simp; omega
  have q2 : decide (xf < 1) = false := by simp; omega
  have q3 : (xu = 0) ∨ ((xu != 0) = true ∧ decide (xu ≤ xf) = false) := by
    rcases hu with hu | hu
    · exact .inl hu
    · exact .inr ⟨by simp; omega, by simpa using hu⟩
  have q4 : decide ((l.length : Int) ≥ cap) = false := by simp; omega
  obtain ⟨i0, z0, hi, hz0, hz1, hz2, hz3⟩ := info_code'
  rcases q3 with rfl | ⟨q3, q5⟩
  all_goals
    go_enter Tryd.func29, Tryd.ntmps29
    go_wp2
    go_quiet (fail)
  all_goals go_upto_region 7 with fail
  · have hkW : Kept [R] w ((((w.alloc (.cells #[.int .i64 xi, .int .i64 xm, .int .i64 tk, .string tn, .int .i64 ti, .slice a1 ta.length c1, .int .i64 xf, .int .i64 0, .int .i64 0, .int .i64 0, .slice none 0 0, .slice none 0 0, .slice none 0 0, .slice a2 xl.length c2] 43)).drewN nq).setCell ⟨w.heap.size, 0, none⟩ (.int .i64 next)).setCell ⟨R, 2, none⟩ (.int .i64 (next + 1))) := ((((Kept.refl [R] w).alloc _).drewN nq).setCell (p := ⟨w.heap.size, 0, none⟩) (by simp) _).setCell (p := ⟨R, 2, none⟩) (by simp) _
    have hk1 : Kept [] (w.alloc (.cells #[.int .i64 xi, .int .i64 xm, .int .i64 tk, .string tn, .int .i64 ti, .slice a1 ta.length c1, .int .i64 xf, .int .i64 0, .int .i64 0, .int .i64 0, .slice none 0 0, .slice none 0 0, .slice none 0 0, .slice a2 xl.length c2] 43)) ((w.alloc (.cells #[.int .i64 xi, .int .i64 xm, .int .i64 tk, .string tn, .int .i64 ti, .slice a1 ta.length c1, .int .i64 xf, .int .i64 0, .int .i64 0, .int .i64 0, .slice none 0 0, .slice none 0 0, .slice none 0 0, .slice a2 xl.length c2] 43)).drewN nq) := (Kept.refl [] _).drewN nq
    have hkA : Kept [w.heap.size] ((w.alloc (.cells #[.int .i64 xi, .int .i64 xm, .int .i64 tk, .string tn, .int .i64 ti, .slice a1 ta.length c1, .int .i64 xf, .int .i64 0, .int .i64 0, .int .i64 0, .slice none 0 0, .slice none 0 0, .slice none 0 0, .slice a2 xl.length c2] 43)).drewN nq) (((w.alloc (.cells #[.int .i64 xi, .int .i64 xm, .int .i64 tk, .string tn, .int .i64 ti, .slice a1 ta.length c1, .int .i64 xf, .int .i64 0, .int .i64 0, .int .i64 0, .slice none 0 0, .slice none 0 0, .slice none 0 0, .slice a2 xl.length c2] 43)).drewN nq).setCell ⟨w.heap.size, 0, none⟩ (.int .i64 next)) := (Kept.refl _ _).setCell (by simp) _
    have hkR : Kept [R] (((w.alloc (.cells #[.int .i64 xi, .int .i64 xm, .int .i64 tk, .string tn, .int .i64 ti, .slice a1 ta.length c1, .int .i64 xf, .int .i64 0, .int .i64 0, .int .i64 0, .slice none 0 0, .slice none 0 0, .slice none 0 0, .slice a2 xl.length c2] 43)).drewN nq).setCell ⟨w.heap.size, 0, none⟩ (.int .i64 next)) ((((w.alloc (.cells #[.int .i64 xi, .int .i64 xm, .int .i64 tk, .string tn, .int .i64 ti, .slice a1 ta.length c1, .int .i64 xf, .int .i64 0, .int .i64 0, .int .i64 0, .slice none 0 0, .slice none 0 0, .slice none 0 0, .slice a2 xl.length c2] 43)).drewN nq).setCell ⟨w.heap.size, 0, none⟩ (.int .i64 next)).setCell ⟨R, 2, none⟩ (.int .i64 (next + 1))) := (Kept.refl _ _).setCell (by simp) _
    have hA3 := Lib.hid (((hA.out.kept hk1 (by simp)).set 0 (.int .i64 next)).kept hkR (by simp; omega))
    have hB3 := Lib.hid ((((HB.out.kept ((Kept.refl [] w).alloc _) (by simp)).kept hk1 (by simp)).kept hkA (by simp; omega)).set 2 (.int .i64 (next + 1)))
    have hsz : ((((w.alloc (.cells #[.int .i64 xi, .int .i64 xm, .int .i64 tk, .string tn, .int .i64 ti, .slice a1 ta.length c1, .int .i64 xf, .int .i64 0, .int .i64 0, .int .i64 0, .slice none 0 0, .slice none 0 0, .slice none 0 0, .slice a2 xl.length c2] 43)).drewN nq).setCell ⟨w.heap.size, 0, none⟩ (.int .i64 next)).setCell ⟨R, 2, none⟩ (.int .i64 (next + 1))).heap.size = w.heap.size + 1 := by simp
    obtain ⟨w3, hw3⟩ : ∃ w3 : World, w3 = ((((w.alloc (.cells #[.int .i64 xi, .int .i64 xm, .int .i64 tk, .string tn, .int .i64 ti, .slice a1 ta.length c1, .int .i64 xf, .int .i64 0, .int .i64 0, .int .i64 0, .slice none 0 0, .slice none 0 0, .slice none 0 0, .slice a2 xl.length c2] 43)).drewN nq).setCell ⟨w.heap.size, 0, none⟩ (.int .i64 next)).setCell ⟨R, 2, none⟩ (.int .i64 (next + 1))) := ⟨_, rfl⟩
    rw [← hw3] at hkW hA3 hB3 hsz ⊢
    have hs3 : w.heap.size + 1 ≤ w3.heap.size := by omega
    clear hk1 hkA hkR hw3 hsz hA e0 e1 e2 f2
    have HKW := Lib.hid hkW
    have hG3 := Lib.hid (HGR.out.kept (CR.good d) hkW (by intro y hy e; simp at hy; subst hy; have := (HGL.out _ e).1; omega) (by intro y hy h; simp at hy; subst hy; exact h.1.2.1 rfl))
    obtain ⟨es, n1, n2, n3⟩ := hG3.out
    have hlen : (List.zipWith Cp.row l es).length = l.length := zip_len n1
    have N2 := Lib.hid n2
    have N3 := Lib.hid n3
    have HHL := Lib.hid hlen
    clear n2 n3 hlen hkW hG3
    have e0 := hB3.out.cell 0 _ rfl
    obtain ⟨r0, r1, r2, r3, r4, r5, r6, r7, r8, r9, r10, r11, r12, r13⟩ := hA3.out.fourteen
    have hbl3 : R < w3.heap.size := by omega
    have hal3 : w.heap.size < w3.heap.size := by omega
    go_region_law ((first
      | (refine step_append_rows rfl (.tmp 52) (.tmp 54) 48 43 rfl i0 z0 14 200 Tryd.underlying48 hi hz0 hz1 hz2 hz3 (by decide) base (.slice a l.length c) (List.zipWith Cp.row l es) [[.int .i64 next, .int .i64 xm, .int .i64 tk, .string tn, .int .i64 ti, .slice a1 ta.length c1, .int .i64 xf, .int .i64 0, .int .i64 0, .int .i64 0, .slice none 0 0, .slice none 0 0, .slice none 0 0, .slice a2 xl.length c2]] rfl (N2.out.kept (((Kept.refl [] w3).drew).alloc _) (by simp)) (fun _ => True) (.slice (some ⟨w3.heap.size, 0, none⟩) 1 1) rfl (rows_lit [[.int .i64 next, .int .i64 xm, .int .i64 tk, .string tn, .int .i64 ti, .slice a1 ta.length c1, .int .i64 xf, .int .i64 0, .int .i64 0, .int .i64 0, .slice none 0 0, .slice none 0 0, .slice none 0 0, .slice a2 xl.length c2]] (halloc_new _ _ _ rfl) (by simp [Value.oneCell']) (by simp)) (by rw [HHL.out]; simp; omega) (by rw [HHL.out]; simp; omega) (by simp; omega) ?_; intro v3 w4 ho3 hk3 hl3; have hk3' := hk3 (Value.slice a l.length c).ownBlock.toList (by intro y hy; simp [hy]); have HO3 := Lib.hid ho3; have HK3 := Lib.hid hk3; have HL3 := Lib.hid hl3; have HB5 := Lib.hid ((hB3.out.kept (((Kept.refl [] w3).drew).alloc _) (by simp)).kept hk3' (by intro hy; have := (HGL.out R (by simpa using hy)).1; omega)); have HA5 := Lib.hid ((hA3.out.kept (((Kept.refl [] w3).drew).alloc _) (by simp)).kept hk3' (by intro hy; have := (HGL.out _ (by simpa using hy)).2; omega)); have e0 := HB5.out.cell 0 _ rfl; have f0 := HB5.out.frozen 0; have x0 := HA5.out.cell 0 _ rfl; obtain ⟨a3, c3', e3, _⟩ := ho3.shape; rw [List.length_append, HHL.out, List.length_singleton] at e3; subst e3; clear ho3 hk3 hl3)))
    all_goals go_wp2
    all_goals
      go_ret2
      have hk3 := HK3.out (Value.slice a l.length c).ownBlock.toList (by intro y hy; simp [hy])
      have hkl := (((Kept.refl [] w3).drew).alloc (.cells (List.toArray [.int .i64 next, .int .i64 xm, .int .i64 tk, .string tn, .int .i64 ti, .slice a1 ta.length c1, .int .i64 xf, .int .i64 0, .int .i64 0, .int .i64 0, .slice none 0 0, .slice none 0 0, .slice none 0 0, .slice a2 xl.length c2]) 43))
      have hlo := HGL.out
      have hgr : Gr (fun S w e (x : Cp) => CR d S w e x) Cp.row 14 43 (fun y => G y ∧ y ≠ R ∧ (Value.slice a' cs.length c').ownBlock ≠ some y) base w4 _ (l ++ [⟨next, xm, .mk tk tn ti ta, xf, 0, xl⟩]) :=
        Gr.snoc (e := .tuple #[.slice a1 ta.length c1, .slice a2 xl.length c2]) (CR.good d) n1
          (fun k y e hy he => (CR.good d).mono ((CR.good d).kept (N3.out k y e hy he) hkl (by simp)) (fun _ _ h => ⟨h.1.1, h.2⟩))
          ⟨_, _, rfl, (TR.good d).mono ((TR.good d).kept ((TR.good d).kept HT.out HKW.out (by intro y hy h; simp at hy; subst hy; exact h.1.2.1 rfl)) hkl (by simp)) (fun y _ h => ⟨⟨h.1.1, h.1.2.1, h.1.2.2.1⟩, h.1.2.2.2⟩),
            ((HI.out.kept HKW.out (by intro y hy h; simp at hy; subst hy; exact h.1.2.1 rfl)).kept hkl (by simp)).mono (fun y _ h => ⟨⟨h.1.1, h.1.2.1, h.1.2.2.1⟩, h.1.2.2.2⟩), hl⟩
          HO3.out HK3.out HL3.out
      have hkS : Kept [R] w4 (w4.setCell ⟨R, 0, none⟩ (.slice a3 (l.length + 1) c3')) := (Kept.refl _ _).setCell (by simp) _
      have hk34 : Kept (R :: (Value.slice a l.length c).ownBlock.toList) w w4 := ((HKW.out.mono (M' := R :: (Value.slice a l.length c).ownBlock.toList) (fun x hx => .inl (by simp at hx; simp [hx]))).trans' hkl (by simp)).trans' hk3 (fun x hx => .inl (by simp at hx ⊢; exact .inr hx))
      have hkF : Kept (R :: (Value.slice a l.length c).ownBlock.toList) w (w4.setCell ⟨R, 0, none⟩ (.slice a3 (l.length + 1) c3')) := hk34.setCell (p := ⟨R, 0, none⟩) (by simp) _
      have hBF := HB5.out.set 0 (.slice a3 (l.length + 1) c3')
      have hown : ∀ y, (Value.slice a3 (l.length + 1) c3').ownBlock = some y → (Value.slice a l.length c).ownBlock = some y ∨ w.heap.size ≤ y := fun y hy => by
        rcases HL3.out with q | ⟨q1, q, q2⟩
        · exact .inl (q ▸ hy)
        · exact .inr (by rw [q] at hy; cases hy; simp at q2; omega)
      have hgn := HGN.out.kept (cn_good d) hkF (by intro y hy e; simp only [List.mem_cons, Option.mem_toList] at hy; rcases hy with rfl | hy; (have := (HNL.out _ e).1; omega); exact (HV.out y hy).2 e) (by intro y hy h; simp only [List.mem_cons, Option.mem_toList] at hy; rcases hy with rfl | hy; exact h.1.2.1 rfl; exact h.1.2.2 hy)
      refine ⟨rfl, ⟨g5, Nat.le_trans g6 hkF.size, fun y hy => HG0.out y (Nat.le_trans hkF.size hy), _, _, hBF, fun y hy => ?_, HVN.out, hgr.kept (CR.good d) hkS (by intro y hy e; simp at hy; subst hy; have := (hgr.lt _ e).1; omega) (by intro y hy h; simp at hy; subst hy; exact h.2.1 rfl), hgn.mono (cn_good d) (Nat.le_refl _) (fun y _ h => ⟨h.1.1, h.1.2.1, fun e => ?_⟩)⟩, ?_⟩
      · rcases hown y hy with q | q
        · exact HV.out y q
        · exact ⟨HG0.out y q, fun e => by have := (HNL.out y e).2; omega⟩
      · rcases hown y e with q | q
        · exact h.1.2.2 q
        · have := h.2; omega
      · refine .mk _ (fun y hy => ?_) hkF (fun y hy => ?_) (fun y hy => .inl ?_)
        · simp only [List.mem_cons, Option.mem_toList] at hy
          rcases hy with rfl | hy
          · exact .inl rfl
          · exact .inr (.inl ((OwnAt.of HE.out.1 y).2 hy))
        · rcases hown y ((OwnAt.of (hBF.cell 0 _ rfl) y).1 hy) with q | q
          · exact .inl ((OwnAt.of HE.out.1 y).2 q)
          · exact .inr q
        · exact (OwnAt.of HE.out.2 y).2 ((OwnAt.of (hBF.cell 3 _ rfl) y).1 hy)
  · have hkW : Kept [R] w ((((w.alloc (.cells #[.int .i64 xi, .int .i64 xm, .int .i64 tk, .string tn, .int .i64 ti, .slice a1 ta.length c1, .int .i64 xf, .int .i64 xu, .int .i64 0, .int .i64 0, .slice none 0 0, .slice none 0 0, .slice none 0 0, .slice a2 xl.length c2] 43)).drewN nq).setCell ⟨w.heap.size, 0, none⟩ (.int .i64 next)).setCell ⟨R, 2, none⟩ (.int .i64 (next + 1))) := ((((Kept.refl [R] w).alloc _).drewN nq).setCell (p := ⟨w.heap.size, 0, none⟩) (by simp) _).setCell (p := ⟨R, 2, none⟩) (by simp) _
    have hk1 : Kept [] (w.alloc (.cells #[.int .i64 xi, .int .i64 xm, .int .i64 tk, .string tn, .int .i64 ti, .slice a1 ta.length c1, .int .i64 xf, .int .i64 xu, .int .i64 0, .int .i64 0, .slice none 0 0, .slice none 0 0, .slice none 0 0, .slice a2 xl.length c2] 43)) ((w.alloc (.cells #[.int .i64 xi, .int .i64 xm, .int .i64 tk, .string tn, .int .i64 ti, .slice a1 ta.length c1, .int .i64 xf, .int .i64 xu, .int .i64 0, .int .i64 0, .slice none 0 0, .slice none 0 0, .slice none 0 0, .slice a2 xl.length c2] 43)).drewN nq) := (Kept.refl [] _).drewN nq
    have hkA : Kept [w.heap.size] ((w.alloc (.cells #[.int .i64 xi, .int .i64 xm, .int .i64 tk, .string tn, .int .i64 ti, .slice a1 ta.length c1, .int .i64 xf, .int .i64 xu, .int .i64 0, .int .i64 0, .slice none 0 0, .slice none 0 0, .slice none 0 0, .slice a2 xl.length c2] 43)).drewN nq) (((w.alloc (.cells #[.int .i64 xi, .int .i64 xm, .int .i64 tk, .string tn, .int .i64 ti, .slice a1 ta.length c1, .int .i64 xf, .int .i64 xu, .int .i64 0, .int .i64 0, .slice none 0 0, .slice none 0 0, .slice none 0 0, .slice a2 xl.length c2] 43)).drewN nq).setCell ⟨w.heap.size, 0, none⟩ (.int .i64 next)) := (Kept.refl _ _).setCell (by simp) _
    have hkR : Kept [R] (((w.alloc (.cells #[.int .i64 xi, .int .i64 xm, .int .i64 tk, .string tn, .int .i64 ti, .slice a1 ta.length c1, .int .i64 xf, .int .i64 xu, .int .i64 0, .int .i64 0, .slice none 0 0, .slice none 0 0, .slice none 0 0, .slice a2 xl.length c2] 43)).drewN nq).setCell ⟨w.heap.size, 0, none⟩ (.int .i64 next)) ((((w.alloc (.cells #[.int .i64 xi, .int .i64 xm, .int .i64 tk, .string tn, .int .i64 ti, .slice a1 ta.length c1, .int .i64 xf, .int .i64 xu, .int .i64 0, .int .i64 0, .slice none 0 0, .slice none 0 0, .slice none 0 0, .slice a2 xl.length c2] 43)).drewN nq).setCell ⟨w.heap.size, 0, none⟩ (.int .i64 next)).setCell ⟨R, 2, none⟩ (.int .i64 (next + 1))) := (Kept.refl _ _).setCell (by simp) _
    have hA3 := Lib.hid (((hA.out.kept hk1 (by simp)).set 0 (.int .i64 next)).kept hkR (by simp; omega))
    have hB3 := Lib.hid ((((HB.out.kept ((Kept.refl [] w).alloc _) (by simp)).kept hk1 (by simp)).kept hkA (by simp; omega)).set 2 (.int .i64 (next + 1)))
    have hsz : ((((w.alloc (.cells #[.int .i64 xi, .int .i64 xm, .int .i64 tk, .string tn, .int .i64 ti, .slice a1 ta.length c1, .int .i64 xf, .int .i64 xu, .int .i64 0, .int .i64 0, .slice none 0 0, .slice none 0 0, .slice none 0 0, .slice a2 xl.length c2] 43)).drewN nq).setCell ⟨w.heap.size, 0, none⟩ (.int .i64 next)).setCell ⟨R, 2, none⟩ (.int .i64 (next + 1))).heap.size = w.heap.size + 1 := by simp
    obtain ⟨w3, hw3⟩ : ∃ w3 : World, w3 = ((((w.alloc (.cells #[.int .i64 xi, .int .i64 xm, .int .i64 tk, .string tn, .int .i64 ti, .slice a1 ta.length c1, .int .i64 xf, .int .i64 xu, .int .i64 0, .int .i64 0, .slice none 0 0, .slice none 0 0, .slice none 0 0, .slice a2 xl.length c2] 43)).drewN nq).setCell ⟨w.heap.size, 0, none⟩ (.int .i64 next)).setCell ⟨R, 2, none⟩ (.int .i64 (next + 1))) := ⟨_, rfl⟩
    rw [← hw3] at hkW hA3 hB3 hsz ⊢
    have hs3 : w.heap.size + 1 ≤ w3.heap.size := by omega
    clear hk1 hkA hkR hw3 hsz hA e0 e1 e2 f2
    have HKW := Lib.hid hkW
    have hG3 := Lib.hid (HGR.out.kept (CR.good d) hkW (by intro y hy e; simp at hy; subst hy; have := (HGL.out _ e).1; omega) (by intro y hy h; simp at hy; subst hy; exact h.1.2.1 rfl))
    obtain ⟨es, n1, n2, n3⟩ := hG3.out
    have hlen : (List.zipWith Cp.row l es).length = l.length := zip_len n1
    have N2 := Lib.hid n2
    have N3 := Lib.hid n3
    have HHL := Lib.hid hlen
    clear n2 n3 hlen hkW hG3
    have e0 := hB3.out.cell 0 _ rfl
    obtain ⟨r0, r1, r2, r3, r4, r5, r6, r7, r8, r9, r10, r11, r12, r13⟩ := hA3.out.fourteen
    have hbl3 : R < w3.heap.size := by omega
    have hal3 : w.heap.size < w3.heap.size := by omega
    go_region_law ((first
      | (refine step_append_rows rfl (.tmp 52) (.tmp 54) 48 43 rfl i0 z0 14 200 Tryd.underlying48 hi hz0 hz1 hz2 hz3 (by decide) base (.slice a l.length c) (List.zipWith Cp.row l es) [[.int .i64 next, .int .i64 xm, .int .i64 tk, .string tn, .int .i64 ti, .slice a1 ta.length c1, .int .i64 xf, .int .i64 xu, .int .i64 0, .int .i64 0, .slice none 0 0, .slice none 0 0, .slice none 0 0, .slice a2 xl.length c2]] rfl (N2.out.kept (((Kept.refl [] w3).drew).alloc _) (by simp)) (fun _ => True) (.slice (some ⟨w3.heap.size, 0, none⟩) 1 1) rfl (rows_lit [[.int .i64 next, .int .i64 xm, .int .i64 tk, .string tn, .int .i64 ti, .slice a1 ta.length c1, .int .i64 xf, .int .i64 xu, .int .i64 0, .int .i64 0, .slice none 0 0, .slice none 0 0, .slice none 0 0, .slice a2 xl.length c2]] (halloc_new _ _ _ rfl) (by simp [Value.oneCell']) (by simp)) (by rw [HHL.out]; simp; omega) (by rw [HHL.out]; simp; omega) (by simp; omega) ?_; intro v3 w4 ho3 hk3 hl3; have hk3' := hk3 (Value.slice a l.length c).ownBlock.toList (by intro y hy; simp [hy]); have HO3 := Lib.hid ho3; have HK3 := Lib.hid hk3; have HL3 := Lib.hid hl3; have HB5 := Lib.hid ((hB3.out.kept (((Kept.refl [] w3).drew).alloc _) (by simp)).kept hk3' (by intro hy; have := (HGL.out R (by simpa using hy)).1; omega)); have HA5 := Lib.hid ((hA3.out.kept (((Kept.refl [] w3).drew).alloc _) (by simp)).kept hk3' (by intro hy; have := (HGL.out _ (by simpa using hy)).2; omega)); have e0 := HB5.out.cell 0 _ rfl; have f0 := HB5.out.frozen 0; have x0 := HA5.out.cell 0 _ rfl; obtain ⟨a3, c3', e3, _⟩ := ho3.shape; rw [List.length_append, HHL.out, List.length_singleton] at e3; subst e3; clear ho3 hk3 hl3)))
    all_goals go_wp2
    all_goals
      go_ret2
      have hk3 := HK3.out (Value.slice a l.length c).ownBlock.toList (by intro y hy; simp [hy])
      have hkl := (((Kept.refl [] w3).drew).alloc (.cells (List.toArray [.int .i64 next, .int .i64 xm, .int .i64 tk, .string tn, .int .i64 ti, .slice a1 ta.length c1, .int .i64 xf, .int .i64 xu, .int .i64 0, .int .i64 0, .slice none 0 0, .slice none 0 0, .slice none 0 0, .slice a2 xl.length c2]) 43))
      have hlo := HGL.out
      have hgr : Gr (fun S w e (x : Cp) => CR d S w e x) Cp.row 14 43 (fun y => G y ∧ y ≠ R ∧ (Value.slice a' cs.length c').ownBlock ≠ some y) base w4 _ (l ++ [⟨next, xm, .mk tk tn ti ta, xf, xu, xl⟩]) :=
        Gr.snoc (e := .tuple #[.slice a1 ta.length c1, .slice a2 xl.length c2]) (CR.good d) n1
          (fun k y e hy he => (CR.good d).mono ((CR.good d).kept (N3.out k y e hy he) hkl (by simp)) (fun _ _ h => ⟨h.1.1, h.2⟩))
          ⟨_, _, rfl, (TR.good d).mono ((TR.good d).kept ((TR.good d).kept HT.out HKW.out (by intro y hy h; simp at hy; subst hy; exact h.1.2.1 rfl)) hkl (by simp)) (fun y _ h => ⟨⟨h.1.1, h.1.2.1, h.1.2.2.1⟩, h.1.2.2.2⟩),
            ((HI.out.kept HKW.out (by intro y hy h; simp at hy; subst hy; exact h.1.2.1 rfl)).kept hkl (by simp)).mono (fun y _ h => ⟨⟨h.1.1, h.1.2.1, h.1.2.2.1⟩, h.1.2.2.2⟩), hl⟩
          HO3.out HK3.out HL3.out
      have hkS : Kept [R] w4 (w4.setCell ⟨R, 0, none⟩ (.slice a3 (l.length + 1) c3')) := (Kept.refl _ _).setCell (by simp) _
      have hk34 : Kept (R :: (Value.slice a l.length c).ownBlock.toList) w w4 := ((HKW.out.mono (M' := R :: (Value.slice a l.length c).ownBlock.toList) (fun x hx => .inl (by simp at hx; simp [hx]))).trans' hkl (by simp)).trans' hk3 (fun x hx => .inl (by simp at hx ⊢; exact .inr hx))
      have hkF : Kept (R :: (Value.slice a l.length c).ownBlock.toList) w (w4.setCell ⟨R, 0, none⟩ (.slice a3 (l.length + 1) c3')) := hk34.setCell (p := ⟨R, 0, none⟩) (by simp) _
      have hBF := HB5.out.set 0 (.slice a3 (l.length + 1) c3')
      have hown : ∀ y, (Value.slice a3 (l.length + 1) c3').ownBlock = some y → (Value.slice a l.length c).ownBlock = some y ∨ w.heap.size ≤ y := fun y hy => by
        rcases HL3.out with q | ⟨q1, q, q2⟩
        · exact .inl (q ▸ hy)
        · exact .inr (by rw [q] at hy; cases hy; simp at q2; omega)
      have hgn := HGN.out.kept (cn_good d) hkF (by intro y hy e; simp only [List.mem_cons, Option.mem_toList] at hy; rcases hy with rfl | hy; (have := (HNL.out _ e).1; omega); exact (HV.out y hy).2 e) (by intro y hy h; simp only [List.mem_cons, Option.mem_toList] at hy; rcases hy with rfl | hy; exact h.1.2.1 rfl; exact h.1.2.2 hy)
      refine ⟨rfl, ⟨g5, Nat.le_trans g6 hkF.size, fun y hy => HG0.out y (Nat.le_trans hkF.size hy), _, _, hBF, fun y hy => ?_, HVN.out, hgr.kept (CR.good d) hkS (by intro y hy e; simp at hy; subst hy; have := (hgr.lt _ e).1; omega) (by intro y hy h; simp at hy; subst hy; exact h.2.1 rfl), hgn.mono (cn_good d) (Nat.le_refl _) (fun y _ h => ⟨h.1.1, h.1.2.1, fun e => ?_⟩)⟩, ?_⟩
      · rcases hown y hy with q | q
        · exact HV.out y q
        · exact ⟨HG0.out y q, fun e => by have := (HNL.out y e).2; omega⟩
      · rcases hown y e with q | q
        · exact h.1.2.2 q
        · have := h.2; omega
      · refine .mk _ (fun y hy => ?_) hkF (fun y hy => ?_) (fun y hy => .inl ?_)
        · simp only [List.mem_cons, Option.mem_toList] at hy
          rcases hy with rfl | hy
          · exact .inl rfl
          · exact .inr (.inl ((OwnAt.of HE.out.1 y).2 hy))
        · rcases hown y ((OwnAt.of (hBF.cell 0 _ rfl) y).1 hy) with q | q
          · exact .inl ((OwnAt.of HE.out.1 y).2 q)
          · exact .inr q
        · exact (OwnAt.of HE.out.2 y).2 ((OwnAt.of (hBF.cell 3 _ rfl) y).1 hy)

theorem bad_cases {xm xf xu : Int} (h : xm < 1 ∨ xf < 1 ∨ (xu ≠ 0 ∧ xu ≤ xf)) : decide (xm < 1) = true ∨ (decide (xm < 1) = false ∧ decide (xf < 1) = true) ∨ (decide (xm < 1) = false ∧ decide (xf < 1) = false ∧ (xu != 0) = true ∧ decide (xu ≤ xf) = true) := by
  by_cases h1 : xm < 1
  · exact .inl (by simpa using h1)
  · by_cases h2 : xf < 1
    · exact .inr (.inl ⟨by simpa using h1, by simpa using h2⟩)
    · refine .inr (.inr ⟨by simpa using h1, by simpa using h2, ?_⟩)
      have : xu ≠ 0 ∧ xu ≤ xf := by omega
      exact ⟨by simpa using this.1, by simpa using this.2⟩

set_option maxRecDepth 100000 in
set_option maxHeartbeats 3200000 in
/-- What is not in range is not added. -/
theorem refAddRange (R : Nat) (xi xm tk : Int) (tn : ByteArray) (ti xf xu : Int) (a1 a2 : Option Addr) (n1 n2 c1 c2 : Nat) (w : World)
    (hb : xm < 1 ∨ xf < 1 ∨ (xu ≠ 0 ∧ xu ≤ xf)) :
    Calls Tryd.prog 29 #[.pointer (some ⟨R, 0, none⟩), .agg #[.int .i64 xi, .int .i64 xm, .int .i64 tk, .string tn, .int .i64 ti, .slice a1 n1 c1, .int .i64 xf, .int .i64 xu, .int .i64 0, .int .i64 0, .slice none 0 0, .slice none 0 0, .slice none 0 0, .slice a2 n2 c2]] w fun e w' => e = .returned (.tuple #[.int .i64 0, .int .i64 1]) ∧ Kept [] w w' := by
  rcases bad_cases hb with q1 | ⟨q1, q2⟩ | ⟨q1, q2, q3, q4⟩
  all_goals
    clear hb
    go_enter Tryd.func29, Tryd.ntmps29
    go_wp2
    go_ret2
    exact ⟨rfl, (Kept.refl [] w).alloc _⟩

set_option maxRecDepth 100000 in
set_option maxHeartbeats 3200000 in
/-- A full cache takes no more. -/
theorem refAddFull {G : Nat → Prop} (d : Nat) (R base : Nat) (cap next : Int) (l : List Cp) (cs : List Cn) (xi xm tk : Int) (tn : ByteArray) (ti xf xu : Int) (a1 a2 : Option Addr) (n1 n2 c1 c2 : Nat) (w : World)
    (h : RCch G d w R base cap next l cs) (hm : 1 ≤ xm) (hf : 1 ≤ xf) (hu : xu = 0 ∨ xf < xu) (hcap : cap ≤ (l.length : Int)) :
    Calls Tryd.prog 29 #[.pointer (some ⟨R, 0, none⟩), .agg #[.int .i64 xi, .int .i64 xm, .int .i64 tk, .string tn, .int .i64 ti, .slice a1 n1 c1, .int .i64 xf, .int .i64 xu, .int .i64 0, .int .i64 0, .slice none 0 0, .slice none 0 0, .slice none 0 0, .slice a2 n2 c2]] w fun e w' => e = .returned (.tuple #[.int .i64 0, .int .i64 8]) ∧ Kept [] w w' := by
  have hbs := h.lt
  obtain ⟨a, c, a', c', g1, g2, g3, g4, g5, g6, e0, e1, e2, e3, HB, H5, HCS, HX⟩ := h.form
  clear h e2 e3 HB H5 HCS HX g3 g4
  have q1 : decide (xm < 1) = false := by simp; omega
  have q2 : decide (xf < 1) = false := by simp; omega
  have q3 : (xu = 0) ∨ ((xu != 0) = true ∧ decide (xu ≤ xf) = false) := by
    rcases hu with hu | hu
    · exact .inl hu
    · exact .inr ⟨by simp; omega, by simpa using hu⟩
  have q4 : decide ((l.length : Int) ≥ cap) = true := by simpa using hcap
  clear hu
  rcases q3 with rfl | ⟨q3, q5⟩
  all_goals
    go_enter Tryd.func29, Tryd.ntmps29
    go_wp2
    go_quiet (fail)
  all_goals go_wp2
  all_goals
    go_ret2
    exact ⟨rfl, ((Kept.refl [] w).alloc _).drewN _⟩
end Go.Proofs.YtkldomkooleecaaDoor
