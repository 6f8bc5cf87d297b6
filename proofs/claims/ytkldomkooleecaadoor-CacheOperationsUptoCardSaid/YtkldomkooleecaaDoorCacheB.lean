/- Walks over the cache: Add. -/
import Derived.Test.YtkldomkooleecaaDoorCache
namespace Go.Proofs.YtkldomkooleecaaDoor
open Go.RowKit

/-- A code's block written anew. -/
theorem Blk.set14 {w : World} {b : Nat} {t : TypeId} {y0 y1 y2 y3 y4 y5 y6 y7 y8 y9 y10 y11 y12 y13 : Value} (h : Blk w b [y0, y1, y2, y3, y4, y5, y6, y7, y8, y9, y10, y11, y12, y13] t) (x0 x1 x2 x3 x4 x5 x6 x7 x8 x9 x10 x11 x12 x13 : Value) :
    Blk ((((((((((((((w.setCell ⟨b, 0, none⟩ x0).setCell ⟨b, 1, none⟩ x1).setCell ⟨b, 2, none⟩ x2).setCell ⟨b, 3, none⟩ x3).setCell ⟨b, 4, none⟩ x4).setCell ⟨b, 5, none⟩ x5).setCell ⟨b, 6, none⟩ x6).setCell ⟨b, 7, none⟩ x7).setCell ⟨b, 8, none⟩ x8).setCell ⟨b, 9, none⟩ x9).setCell ⟨b, 10, none⟩ x10).setCell ⟨b, 11, none⟩ x11).setCell ⟨b, 12, none⟩ x12).setCell ⟨b, 13, none⟩ x13) b [x0, x1, x2, x3, x4, x5, x6, x7, x8, x9, x10, x11, x12, x13] t :=
  ((((((((((((((h.set 0 x0).set 1 x1).set 2 x2).set 3 x3).set 4 x4).set 5 x5).set 6 x6).set 7 x7).set 8 x8).set 9 x9).set 10 x10).set 11 x11).set 12 x12).set 13 x13)
theorem Kept.set14 (w : World) (b : Nat) (x0 x1 x2 x3 x4 x5 x6 x7 x8 x9 x10 x11 x12 x13 : Value) :
    Kept [b] w ((((((((((((((w.setCell ⟨b, 0, none⟩ x0).setCell ⟨b, 1, none⟩ x1).setCell ⟨b, 2, none⟩ x2).setCell ⟨b, 3, none⟩ x3).setCell ⟨b, 4, none⟩ x4).setCell ⟨b, 5, none⟩ x5).setCell ⟨b, 6, none⟩ x6).setCell ⟨b, 7, none⟩ x7).setCell ⟨b, 8, none⟩ x8).setCell ⟨b, 9, none⟩ x9).setCell ⟨b, 10, none⟩ x10).setCell ⟨b, 11, none⟩ x11).setCell ⟨b, 12, none⟩ x12).setCell ⟨b, 13, none⟩ x13) :=
  ((((((((((((((Kept.refl _ w).setCell (by simp) _).setCell (by simp) _).setCell (by simp) _).setCell (by simp) _).setCell (by simp) _).setCell (by simp) _).setCell (by simp) _).setCell (by simp) _).setCell (by simp) _).setCell (by simp) _).setCell (by simp) _).setCell (by simp) _).setCell (by simp) _).setCell (by simp) _

theorem rows_lit {w : World} {b size : Nat} {t : TypeId} (rows : List (List Value)) (h : Blk w b rows.flatten t) (hr : ∀ r ∈ rows, r.length = size ∧ ∀ u ∈ r, u.oneCell' = true) (hl : rows.length ≤ 1000000) :
    Reads (fun _ => True) w (.slice (some ⟨b, 0, none⟩) rows.length rows.length) size rows := by
  refine ⟨hr, _, _, rfl, Nat.le_refl _, by unfold maxLen; omega, .inr ⟨b, 0, rfl, trivial, h.lt, fun k r hk j u hu => ?_⟩⟩
  rw [Nat.zero_add]
  exact h.cell _ _ (flatten_get (fun r hr' => (hr r hr').1) hk hu)

/-- Only the cache's block and that of its slice of codes may have turned. -/
inductive OwnTurn (b base : Nat) (w w' : World) : Prop
  | mk (v v' : Value) (h : w.cell? ⟨b, 2, none⟩ = some v) (h' : w'.cell? ⟨b, 2, none⟩ = some v') (hv : ∀ y, v'.ownBlock = some y → v.ownBlock = some y ∨ w.heap.size ≤ y) (hl : ∀ x, v.ownBlock = some x → base ≤ x ∧ x < w.heap.size) (hk : Kept (b :: v.ownBlock.toList) w w')

set_option maxRecDepth 100000 in
set_option maxHeartbeats 6400000 in
theorem cacheAddOwn {F : Nat → Prop} (d : Nat) {S : Nat → Prop} (b base : Nat) (cap last : Int) (mp : Value) (l : List Cp) (xi xm tk : Int) (tn : ByteArray) (ti xf xu : Int) (ta : List Ty) (xl : List Int) (a1 a2 : Option Addr) (c1 c2 : Nat) (w : World)
    (h : Cch F d w b base cap last mp l) (hm : 1 ≤ xm) (hf : 1 ≤ xf) (hu : xu = 0 ∨ xf < xu) (hcap : (l.length : Int) < cap) (h0 : 0 ≤ last) (h1 : last ≤ 1000000) (hll : l.length ≤ 100000)
    (ht : TR d S w (.slice a1 ta.length c1) ta) (hi : Reads S w (.slice a2 xl.length c2) 1 (irows xl)) (hl : xl.length ≤ 1000) (hSb : ¬ S b) :
    Calls Tryd.prog 9 #[.pointer (some ⟨b, 0, none⟩), .agg #[.int .i64 xi, .int .i64 xm, .int .i64 tk, .string tn, .int .i64 ti, .slice a1 ta.length c1, .int .i64 xf, .int .i64 xu, .int .i64 0, .int .i64 0, .slice none 0 0, .slice none 0 0, .slice none 0 0, .slice a2 xl.length c2]] w fun e w' => e = .returned (.tuple #[.int .i64 (last + 1), .int .i64 0]) ∧
      Cch F d w' b base cap (last + 1) mp (l ++ [⟨last + 1, xm, .mk tk tn ti ta, xf, xu, xl⟩]) ∧ OwnTurn b base w w' := by
  obtain ⟨a, c, g1, g2, g3, g4, g5, g6, e0, e1, e2, e3, hb, hg, h5⟩ := h.form
  have hbl := hb.lt
  have f1 := hb.frozen 1
  have hA := Lib.hid (show Blk (w.alloc (.cells #[.int .i64 xi, .int .i64 xm, .int .i64 tk, .string tn, .int .i64 ti, .slice a1 ta.length c1, .int .i64 xf, .int .i64 xu, .int .i64 0, .int .i64 0, .slice none 0 0, .slice none 0 0, .slice none 0 0, .slice a2 xl.length c2] 43)) w.heap.size [.int .i64 xi, .int .i64 xm, .int .i64 tk, .string tn, .int .i64 ti, .slice a1 ta.length c1, .int .i64 xf, .int .i64 xu, .int .i64 0, .int .i64 0, .slice none 0 0, .slice none 0 0, .slice none 0 0, .slice a2 xl.length c2] 43 from halloc_new _ _ _ rfl)
  have HGL := Lib.hid hg.lt
  have HE2 := Lib.hid e2
  have HB := Lib.hid hb
  have HG := Lib.hid (hg.mono (CR.good d) (S' := fun y => (base ≤ y ∧ F y) ∧ y < w.heap.size) (Nat.le_refl _) (fun b hb h => ⟨h, hb⟩))
  have HT := Lib.hid ht
  have HI := Lib.hid hi
  clear h hb hg ht hi h5
  have q1 : decide (xm < 1) = false := by simp; omega
  have q2 : decide (xf < 1) = false := by simp; omega
  have q3 : (xu = 0) ∨ ((xu != 0) = true ∧ decide (xu ≤ xf) = false) := by
    rcases hu with hu | hu
    · exact .inl hu
    · exact .inr ⟨by simp; omega, by simpa using hu⟩
  have q4 : decide ((l.length : Int) ≥ cap) = false := by simp; omega
  obtain ⟨i0, z0, hi, hz0, hz1, hz2, hz3⟩ := info_code'
  rcases q3 with rfl | ⟨q3, q5⟩
  all_goals
    go_enter Tryd.func9, Tryd.ntmps9
    go_wp2
    go_quiet (fail)
  all_goals go_wp2_with fail
  · have hk1 : Kept [] w ((w.alloc (.cells #[.int .i64 xi, .int .i64 xm, .int .i64 tk, .string tn, .int .i64 ti, .slice a1 ta.length c1, .int .i64 xf, .int .i64 0, .int .i64 0, .int .i64 0, .slice none 0 0, .slice none 0 0, .slice none 0 0, .slice a2 xl.length c2] 43)).drewN nq) := ((Kept.refl [] w).alloc _).drewN nq
    have hA1 := hA.out.kept (Kept.drewN (Kept.refl [] _) nq) (by simp)
    have sz1 : ((w.alloc (.cells #[.int .i64 xi, .int .i64 xm, .int .i64 tk, .string tn, .int .i64 ti, .slice a1 ta.length c1, .int .i64 xf, .int .i64 0, .int .i64 0, .int .i64 0, .slice none 0 0, .slice none 0 0, .slice none 0 0, .slice a2 xl.length c2] 43)).drewN nq).heap.size = w.heap.size + 1 := by simp
    obtain ⟨w1, hw1⟩ : ∃ w1 : World, w1 = ((w.alloc (.cells #[.int .i64 xi, .int .i64 xm, .int .i64 tk, .string tn, .int .i64 ti, .slice a1 ta.length c1, .int .i64 xf, .int .i64 0, .int .i64 0, .int .i64 0, .slice none 0 0, .slice none 0 0, .slice none 0 0, .slice a2 xl.length c2] 43)).drewN nq) := ⟨_, rfl⟩
    rw [← hw1] at hk1 hA1 sz1 ⊢
    have hkb : Kept [b] w1 (w1.setCell ⟨b, 1, none⟩ (.int .i64 (last + 1))) := (Kept.refl _ _).setCell (by simp) _
    have hB2 := Lib.hid ((HB.out.kept hk1 (by simp)).set 1 (.int .i64 (last + 1)))
    have hA2 := Lib.hid (hA1.kept hkb (by simp; omega))
    have hG2 := Lib.hid ((HG.out.kept (CR.good d) hk1 (by simp) (by simp)).kept (CR.good d) hkb (by intro x hx e; simp at hx; subst hx; have := (HG.out.lt _ e).1; omega) (by intro x hx; simp at hx; subst hx; intro h; omega))
    have hT1 := (TR.good d).kept HT.out hk1 (by simp)
    have hI1 := HI.out.kept hk1 (by simp)
    have hT2 := Lib.hid ((TR.good d).kept hT1 hkb (by simpa using hSb))
    have hI2 := Lib.hid (hI1.kept hkb (by simpa using hSb))
    clear hT1 hI1 hA1 hA HB HG HT HI
    refine Calls.mono (ownCompiled d (S := S) xi xm tk tn ti xf 0 ta xl (.slice a1 ta.length c1) (.slice a2 xl.length c2) _ (by exact hT2.out) (by exact hI2.out) hl) ?_
    rintro e w2 ⟨qa, qb, rfl, hv3, hv4, hk2⟩
    obtain ⟨q1, p1, rfl, _⟩ := hv3.form
    obtain ⟨q2, p2, rfl, _⟩ := hv4.ints
    have sz2 := hk2.size
    simp only [World.size_setCell] at sz2
    have hB3 := hB2.out.kept hk2 (by simp)
    have hA3 := hA2.out.kept hk2 (by simp)
    have hG3 := Lib.hid (hG2.out.kept (CR.good d) hk2 (by simp) (by simp))
    have e1 := hB3.cell 1 _ rfl
    have e2 := hB3.cell 2 _ rfl
    obtain ⟨r0, r1, r2, r3, r4, r5, r6, r7, r8, r9, r10, r11, r12, r13⟩ := hA3.fourteen
    have t0 := hA3.frozen 0
    have t1 := hA3.frozen 1
    have t2 := hA3.frozen 2
    have t3 := hA3.frozen 3
    have t4 := hA3.frozen 4
    have t5 := hA3.frozen 5
    have t6 := hA3.frozen 6
    have t7 := hA3.frozen 7
    have t8 := hA3.frozen 8
    have t9 := hA3.frozen 9
    have t10 := hA3.frozen 10
    have t11 := hA3.frozen 11
    have t12 := hA3.frozen 12
    have t13 := hA3.frozen 13
    have HB3 := Lib.hid hB3
    have HA3 := Lib.hid hA3
    have HV3 := Lib.hid hv3
    have HV4 := Lib.hid hv4
    have hbl2 : b < w2.heap.size := by omega
    have hal2 : w.heap.size < w2.heap.size := by omega
    clear hB3 hA3 hv3 hv4 hB2 hA2 hG2 hT2 hI2
    go_wp2
    obtain ⟨w3, hw3⟩ : ∃ w3 : World, w3 = ((((((((((((((w2.setCell ⟨w.heap.size, 0, none⟩ (.int .i64 xi)).setCell ⟨w.heap.size, 1, none⟩ (.int .i64 xm)).setCell ⟨w.heap.size, 2, none⟩ (.int .i64 tk)).setCell ⟨w.heap.size, 3, none⟩ (.string tn)).setCell ⟨w.heap.size, 4, none⟩ (.int .i64 ti)).setCell ⟨w.heap.size, 5, none⟩ (.slice q1 ta.length p1)).setCell ⟨w.heap.size, 6, none⟩ (.int .i64 xf)).setCell ⟨w.heap.size, 7, none⟩ (.int .i64 0)).setCell ⟨w.heap.size, 8, none⟩ (.int .i64 0)).setCell ⟨w.heap.size, 9, none⟩ (.int .i64 0)).setCell ⟨w.heap.size, 10, none⟩ (.slice none 0 0)).setCell ⟨w.heap.size, 11, none⟩ (.slice none 0 0)).setCell ⟨w.heap.size, 12, none⟩ (.slice none 0 0)).setCell ⟨w.heap.size, 13, none⟩ (.slice q2 xl.length p2)).setCell ⟨w.heap.size, 0, none⟩ (.int .i64 (last + 1)) := ⟨_, rfl⟩
    rw [← hw3]
    have hkA : Kept [w.heap.size] w2 w3 := by rw [hw3]; exact (Kept.set14 _ _ _ _ _ _ _ _ _ _ _ _ _ _ _ _).trans ((Kept.refl _ _).setCell (by simp) _)
    have hA4 : Blk w3 w.heap.size [.int .i64 (last + 1), .int .i64 xm, .int .i64 tk, .string tn, .int .i64 ti, .slice q1 ta.length p1, .int .i64 xf, .int .i64 0, .int .i64 0, .int .i64 0, .slice none 0 0, .slice none 0 0, .slice none 0 0, .slice q2 xl.length p2] 43 := by rw [hw3]; exact (Blk.set14 HA3.out _ _ _ _ _ _ _ _ _ _ _ _ _ _).set 0 _
    have hB4 := HB3.out.kept hkA (by simp; omega)
    obtain ⟨es, n1, n2, n3⟩ := hG3.out
    have hlen : (List.zipWith Cp.row l es).length = l.length := zip_len n1
    have N2 := Lib.hid (n2.kept hkA (by intro x hx e; simp at e; have := (HGL.out _ hx).2; omega))
    have N3 := Lib.hid n3
    clear n2 n3
    have sz3 : w2.heap.size ≤ w3.heap.size := by rw [hw3]; simp
    clear e1 e2 r0 r1 r2 r3 r4 r5 r6 r7 r8 r9 r10 r11 r12 r13 t0 t1 t2 t3 t4 t5 t6 t7 t8 t9 t10 t11 t12 t13 hw3
    have e2 := hB4.cell 2 _ rfl
    obtain ⟨r0, r1, r2, r3, r4, r5, r6, r7, r8, r9, r10, r11, r12, r13⟩ := hA4.fourteen
    have HB4 := Lib.hid hB4
    have HA4 := Lib.hid hA4
    have hbl3 : b < w3.heap.size := by omega
    have hal3 : w.heap.size < w3.heap.size := by omega
    clear hB4 hA4 HB3 HA3 hG3
    go_region_law ((first
      | (refine step_append_rows rfl (.tmp 54) (.tmp 56) 48 43 rfl i0 z0 14 200 Tryd.underlying48 hi hz0 hz1 hz2 hz3 (by decide) base (.slice a l.length c) (List.zipWith Cp.row l es) [[.int .i64 (last + 1), .int .i64 xm, .int .i64 tk, .string tn, .int .i64 ti, .slice q1 ta.length p1, .int .i64 xf, .int .i64 0, .int .i64 0, .int .i64 0, .slice none 0 0, .slice none 0 0, .slice none 0 0, .slice q2 xl.length p2]] rfl (N2.out.kept (((Kept.refl [] w3).drew).alloc _) (by simp)) (fun _ => True) (.slice (some ⟨w3.heap.size, 0, none⟩) 1 1) rfl (rows_lit [[.int .i64 (last + 1), .int .i64 xm, .int .i64 tk, .string tn, .int .i64 ti, .slice q1 ta.length p1, .int .i64 xf, .int .i64 0, .int .i64 0, .int .i64 0, .slice none 0 0, .slice none 0 0, .slice none 0 0, .slice q2 xl.length p2]] (halloc_new _ _ _ rfl) (by simp [Value.oneCell']) (by simp)) (by rw [hlen]; simp; omega) (by rw [hlen]; simp; omega) (by simp; omega) ?_; intro v3 w4 ho3 hk3 hl3; have hk3' := hk3 (Value.slice a l.length c).ownBlock.toList (by intro y hy; simp [hy]); have HO3 := Lib.hid ho3; have HK3 := Lib.hid hk3; have HL3 := Lib.hid hl3; have HB5 := Lib.hid ((HB4.out.kept (((Kept.refl [] w3).drew).alloc _) (by simp)).kept hk3' (by intro hy; have := (HGL.out b (by simpa using hy)).1; omega)); have HA5 := Lib.hid ((HA4.out.kept (((Kept.refl [] w3).drew).alloc _) (by simp)).kept hk3' (by intro hy; have := (HGL.out _ (by simpa using hy)).2; omega)); have e2 := HB5.out.cell 2 _ rfl; have f2 := HB5.out.frozen 2; have x0 := HA5.out.cell 0 _ rfl; obtain ⟨a3, c3', e3, _⟩ := ho3.shape; rw [List.length_append, hlen, List.length_singleton] at e3; subst e3; clear ho3 hk3 hl3)))
    all_goals go_wp2
    all_goals
      go_ret2
      have hlo := HGL.out
      have hk3 := HK3.out (Value.slice a l.length c).ownBlock.toList (by intro y hy; simp [hy])
      have hkl := (((Kept.refl [] w3).drew).alloc (.cells (List.toArray [.int .i64 (last + 1), .int .i64 xm, .int .i64 tk, .string tn, .int .i64 ti, .slice q1 ta.length p1, .int .i64 xf, .int .i64 0, .int .i64 0, .int .i64 0, .slice none 0 0, .slice none 0 0, .slice none 0 0, .slice q2 xl.length p2]) 43))
      have hgr : Gr (fun S w e (x : Cp) => CR d S w e x) Cp.row 14 43 (fun y => base ≤ y ∧ F y) base w4 _ (l ++ [⟨last + 1, xm, .mk tk tn ti ta, xf, 0, xl⟩]) :=
        Gr.snoc (e := .tuple #[.slice q1 ta.length p1, .slice q2 xl.length p2]) (CR.good d) n1
          (fun k y e hy he => (CR.good d).mono ((CR.good d).kept ((CR.good d).kept (N3.out k y e hy he) hkA (by intro x hx; simp at hx; subst hx; intro h; omega)) hkl (by simp)) (fun _ _ h => ⟨h.1.1, h.2⟩))
          ⟨_, _, rfl, (TR.good d).mono ((TR.good d).kept ((TR.good d).kept HV3.out hkA (by simp; omega)) hkl (by simp)) (fun y _ hy => ⟨⟨by simp at hy; omega, g5.out y (by simp at hy; omega)⟩, fun e => by have := (hlo y e).2; simp at hy; omega⟩),
            ((HV4.out.kept hkA (by simp; omega)).kept hkl (by simp)).mono (fun y _ hy => ⟨⟨by simp at hy; omega, g5.out y (by simp at hy; omega)⟩, fun e => by have := (hlo y e).2; simp at hy; omega⟩), hl⟩
          HO3.out HK3.out HL3.out
      have hkF : Kept (b :: (Value.slice a l.length c).ownBlock.toList) w _ := ((((((hk1.nil (M := b :: (Value.slice a l.length c).ownBlock.toList)).trans' hkb (by simp)).trans' hk2 (by simp)).trans' hkA (by simp)).trans' hkl (by simp)).trans' hk3 (fun x hx => .inl (by simp at hx ⊢; exact .inr hx))).setCell (p := ⟨b, 2, none⟩) (by simp) (.slice a3 (l.length + 1) c3')
      refine ⟨rfl, ⟨g3, Nat.le_trans g4 hkF.size, fun y hy => g5.out y (Nat.le_trans hkF.size hy), _, HB5.out.set 2 _, (fun y hy => by rcases HL3.out with q | ⟨q1, q, q2⟩; exact g6.out y (q ▸ hy); exact g5.out y (by rw [q] at hy; cases hy; simp at q2; omega)), hgr.kept (CR.good d) ((Kept.refl [b] w4).setCell (p := ⟨b, 2, none⟩) (by simp) _) (by intro y hy e; simp at hy; subst hy; have := (hgr.lt _ e).1; omega) (by intro y hy; simp at hy; subst hy; intro h; omega)⟩, .mk _ _ HE2.out ((HB5.out.set 2 _).cell 2 _ rfl) (fun y hy => by rcases HL3.out with q | ⟨q1, q, q2⟩; exact .inl (q ▸ hy); exact .inr (by rw [q] at hy; cases hy; simp at q2; omega)) hlo hkF⟩
  · have hk1 : Kept [] w ((w.alloc (.cells #[.int .i64 xi, .int .i64 xm, .int .i64 tk, .string tn, .int .i64 ti, .slice a1 ta.length c1, .int .i64 xf, .int .i64 xu, .int .i64 0, .int .i64 0, .slice none 0 0, .slice none 0 0, .slice none 0 0, .slice a2 xl.length c2] 43)).drewN nq) := ((Kept.refl [] w).alloc _).drewN nq
    have hA1 := hA.out.kept (Kept.drewN (Kept.refl [] _) nq) (by simp)
    have sz1 : ((w.alloc (.cells #[.int .i64 xi, .int .i64 xm, .int .i64 tk, .string tn, .int .i64 ti, .slice a1 ta.length c1, .int .i64 xf, .int .i64 xu, .int .i64 0, .int .i64 0, .slice none 0 0, .slice none 0 0, .slice none 0 0, .slice a2 xl.length c2] 43)).drewN nq).heap.size = w.heap.size + 1 := by simp
    obtain ⟨w1, hw1⟩ : ∃ w1 : World, w1 = ((w.alloc (.cells #[.int .i64 xi, .int .i64 xm, .int .i64 tk, .string tn, .int .i64 ti, .slice a1 ta.length c1, .int .i64 xf, .int .i64 xu, .int .i64 0, .int .i64 0, .slice none 0 0, .slice none 0 0, .slice none 0 0, .slice a2 xl.length c2] 43)).drewN nq) := ⟨_, rfl⟩
    rw [← hw1] at hk1 hA1 sz1 ⊢
    have hkb : Kept [b] w1 (w1.setCell ⟨b, 1, none⟩ (.int .i64 (last + 1))) := (Kept.refl _ _).setCell (by simp) _
    have hB2 := Lib.hid ((HB.out.kept hk1 (by simp)).set 1 (.int .i64 (last + 1)))
    have hA2 := Lib.hid (hA1.kept hkb (by simp; omega))
    have hG2 := Lib.hid ((HG.out.kept (CR.good d) hk1 (by simp) (by simp)).kept (CR.good d) hkb (by intro x hx e; simp at hx; subst hx; have := (HG.out.lt _ e).1; omega) (by intro x hx; simp at hx; subst hx; intro h; omega))
    have hT1 := (TR.good d).kept HT.out hk1 (by simp)
    have hI1 := HI.out.kept hk1 (by simp)
    have hT2 := Lib.hid ((TR.good d).kept hT1 hkb (by simpa using hSb))
    have hI2 := Lib.hid (hI1.kept hkb (by simpa using hSb))
    clear hT1 hI1 hA1 hA HB HG HT HI
    refine Calls.mono (ownCompiled d (S := S) xi xm tk tn ti xf xu ta xl (.slice a1 ta.length c1) (.slice a2 xl.length c2) _ (by exact hT2.out) (by exact hI2.out) hl) ?_
    rintro e w2 ⟨qa, qb, rfl, hv3, hv4, hk2⟩
    obtain ⟨q1, p1, rfl, _⟩ := hv3.form
    obtain ⟨q2, p2, rfl, _⟩ := hv4.ints
    have sz2 := hk2.size
    simp only [World.size_setCell] at sz2
    have hB3 := hB2.out.kept hk2 (by simp)
    have hA3 := hA2.out.kept hk2 (by simp)
    have hG3 := Lib.hid (hG2.out.kept (CR.good d) hk2 (by simp) (by simp))
    have e1 := hB3.cell 1 _ rfl
    have e2 := hB3.cell 2 _ rfl
    obtain ⟨r0, r1, r2, r3, r4, r5, r6, r7, r8, r9, r10, r11, r12, r13⟩ := hA3.fourteen
    have t0 := hA3.frozen 0
    have t1 := hA3.frozen 1
    have t2 := hA3.frozen 2
    have t3 := hA3.frozen 3
    have t4 := hA3.frozen 4
    have t5 := hA3.frozen 5
    have t6 := hA3.frozen 6
    have t7 := hA3.frozen 7
    have t8 := hA3.frozen 8
    have t9 := hA3.frozen 9
    have t10 := hA3.frozen 10
    have t11 := hA3.frozen 11
    have t12 := hA3.frozen 12
    have t13 := hA3.frozen 13
    have HB3 := Lib.hid hB3
    have HA3 := Lib.hid hA3
    have HV3 := Lib.hid hv3
    have HV4 := Lib.hid hv4
    have hbl2 : b < w2.heap.size := by omega
    have hal2 : w.heap.size < w2.heap.size := by omega
    clear hB3 hA3 hv3 hv4 hB2 hA2 hG2 hT2 hI2
    go_wp2
    obtain ⟨w3, hw3⟩ : ∃ w3 : World, w3 = ((((((((((((((w2.setCell ⟨w.heap.size, 0, none⟩ (.int .i64 xi)).setCell ⟨w.heap.size, 1, none⟩ (.int .i64 xm)).setCell ⟨w.heap.size, 2, none⟩ (.int .i64 tk)).setCell ⟨w.heap.size, 3, none⟩ (.string tn)).setCell ⟨w.heap.size, 4, none⟩ (.int .i64 ti)).setCell ⟨w.heap.size, 5, none⟩ (.slice q1 ta.length p1)).setCell ⟨w.heap.size, 6, none⟩ (.int .i64 xf)).setCell ⟨w.heap.size, 7, none⟩ (.int .i64 xu)).setCell ⟨w.heap.size, 8, none⟩ (.int .i64 0)).setCell ⟨w.heap.size, 9, none⟩ (.int .i64 0)).setCell ⟨w.heap.size, 10, none⟩ (.slice none 0 0)).setCell ⟨w.heap.size, 11, none⟩ (.slice none 0 0)).setCell ⟨w.heap.size, 12, none⟩ (.slice none 0 0)).setCell ⟨w.heap.size, 13, none⟩ (.slice q2 xl.length p2)).setCell ⟨w.heap.size, 0, none⟩ (.int .i64 (last + 1)) := ⟨_, rfl⟩
    rw [← hw3]
    have hkA : Kept [w.heap.size] w2 w3 := by rw [hw3]; exact (Kept.set14 _ _ _ _ _ _ _ _ _ _ _ _ _ _ _ _).trans ((Kept.refl _ _).setCell (by simp) _)
    have hA4 : Blk w3 w.heap.size [.int .i64 (last + 1), .int .i64 xm, .int .i64 tk, .string tn, .int .i64 ti, .slice q1 ta.length p1, .int .i64 xf, .int .i64 xu, .int .i64 0, .int .i64 0, .slice none 0 0, .slice none 0 0, .slice none 0 0, .slice q2 xl.length p2] 43 := by rw [hw3]; exact (Blk.set14 HA3.out _ _ _ _ _ _ _ _ _ _ _ _ _ _).set 0 _
    have hB4 := HB3.out.kept hkA (by simp; omega)
    obtain ⟨es, n1, n2, n3⟩ := hG3.out
    have hlen : (List.zipWith Cp.row l es).length = l.length := zip_len n1
    have N2 := Lib.hid (n2.kept hkA (by intro x hx e; simp at e; have := (HGL.out _ hx).2; omega))
    have N3 := Lib.hid n3
    clear n2 n3
    have sz3 : w2.heap.size ≤ w3.heap.size := by rw [hw3]; simp
    clear e1 e2 r0 r1 r2 r3 r4 r5 r6 r7 r8 r9 r10 r11 r12 r13 t0 t1 t2 t3 t4 t5 t6 t7 t8 t9 t10 t11 t12 t13 hw3
    have e2 := hB4.cell 2 _ rfl
    obtain ⟨r0, r1, r2, r3, r4, r5, r6, r7, r8, r9, r10, r11, r12, r13⟩ := hA4.fourteen
    have HB4 := Lib.hid hB4
    have HA4 := Lib.hid hA4
    have hbl3 : b < w3.heap.size := by omega
    have hal3 : w.heap.size < w3.heap.size := by omega
    clear hB4 hA4 HB3 HA3 hG3
    go_region_law ((first
      | (refine step_append_rows rfl (.tmp 54) (.tmp 56) 48 43 rfl i0 z0 14 200 Tryd.underlying48 hi hz0 hz1 hz2 hz3 (by decide) base (.slice a l.length c) (List.zipWith Cp.row l es) [[.int .i64 (last + 1), .int .i64 xm, .int .i64 tk, .string tn, .int .i64 ti, .slice q1 ta.length p1, .int .i64 xf, .int .i64 xu, .int .i64 0, .int .i64 0, .slice none 0 0, .slice none 0 0, .slice none 0 0, .slice q2 xl.length p2]] rfl (N2.out.kept (((Kept.refl [] w3).drew).alloc _) (by simp)) (fun _ => True) (.slice (some ⟨w3.heap.size, 0, none⟩) 1 1) rfl (rows_lit [[.int .i64 (last + 1), .int .i64 xm, .int .i64 tk, .string tn, .int .i64 ti, .slice q1 ta.length p1, .int .i64 xf, .int .i64 xu, .int .i64 0, .int .i64 0, .slice none 0 0, .slice none 0 0, .slice none 0 0, .slice q2 xl.length p2]] (halloc_new _ _ _ rfl) (by simp [Value.oneCell']) (by simp)) (by rw [hlen]; simp; omega) (by rw [hlen]; simp; omega) (by simp; omega) ?_; intro v3 w4 ho3 hk3 hl3; have hk3' := hk3 (Value.slice a l.length c).ownBlock.toList (by intro y hy; simp [hy]); have HO3 := Lib.hid ho3; have HK3 := Lib.hid hk3; have HL3 := Lib.hid hl3; have HB5 := Lib.hid ((HB4.out.kept (((Kept.refl [] w3).drew).alloc _) (by simp)).kept hk3' (by intro hy; have := (HGL.out b (by simpa using hy)).1; omega)); have HA5 := Lib.hid ((HA4.out.kept (((Kept.refl [] w3).drew).alloc _) (by simp)).kept hk3' (by intro hy; have := (HGL.out _ (by simpa using hy)).2; omega)); have e2 := HB5.out.cell 2 _ rfl; have f2 := HB5.out.frozen 2; have x0 := HA5.out.cell 0 _ rfl; obtain ⟨a3, c3', e3, _⟩ := ho3.shape; rw [List.length_append, hlen, List.length_singleton] at e3; subst e3; clear ho3 hk3 hl3)))
    all_goals go_wp2
    all_goals
      go_ret2
      have hlo := HGL.out
      have hk3 := HK3.out (Value.slice a l.length c).ownBlock.toList (by intro y hy; simp [hy])
      have hkl := (((Kept.refl [] w3).drew).alloc (.cells (List.toArray [.int .i64 (last + 1), .int .i64 xm, .int .i64 tk, .string tn, .int .i64 ti, .slice q1 ta.length p1, .int .i64 xf, .int .i64 xu, .int .i64 0, .int .i64 0, .slice none 0 0, .slice none 0 0, .slice none 0 0, .slice q2 xl.length p2]) 43))
      have hgr : Gr (fun S w e (x : Cp) => CR d S w e x) Cp.row 14 43 (fun y => base ≤ y ∧ F y) base w4 _ (l ++ [⟨last + 1, xm, .mk tk tn ti ta, xf, xu, xl⟩]) :=
        Gr.snoc (e := .tuple #[.slice q1 ta.length p1, .slice q2 xl.length p2]) (CR.good d) n1
          (fun k y e hy he => (CR.good d).mono ((CR.good d).kept ((CR.good d).kept (N3.out k y e hy he) hkA (by intro x hx; simp at hx; subst hx; intro h; omega)) hkl (by simp)) (fun _ _ h => ⟨h.1.1, h.2⟩))
          ⟨_, _, rfl, (TR.good d).mono ((TR.good d).kept ((TR.good d).kept HV3.out hkA (by simp; omega)) hkl (by simp)) (fun y _ hy => ⟨⟨by simp at hy; omega, g5.out y (by simp at hy; omega)⟩, fun e => by have := (hlo y e).2; simp at hy; omega⟩),
            ((HV4.out.kept hkA (by simp; omega)).kept hkl (by simp)).mono (fun y _ hy => ⟨⟨by simp at hy; omega, g5.out y (by simp at hy; omega)⟩, fun e => by have := (hlo y e).2; simp at hy; omega⟩), hl⟩
          HO3.out HK3.out HL3.out
      have hkF : Kept (b :: (Value.slice a l.length c).ownBlock.toList) w _ := ((((((hk1.nil (M := b :: (Value.slice a l.length c).ownBlock.toList)).trans' hkb (by simp)).trans' hk2 (by simp)).trans' hkA (by simp)).trans' hkl (by simp)).trans' hk3 (fun x hx => .inl (by simp at hx ⊢; exact .inr hx))).setCell (p := ⟨b, 2, none⟩) (by simp) (.slice a3 (l.length + 1) c3')
      refine ⟨rfl, ⟨g3, Nat.le_trans g4 hkF.size, fun y hy => g5.out y (Nat.le_trans hkF.size hy), _, HB5.out.set 2 _, (fun y hy => by rcases HL3.out with q | ⟨q1, q, q2⟩; exact g6.out y (q ▸ hy); exact g5.out y (by rw [q] at hy; cases hy; simp at q2; omega)), hgr.kept (CR.good d) ((Kept.refl [b] w4).setCell (p := ⟨b, 2, none⟩) (by simp) _) (by intro y hy e; simp at hy; subst hy; have := (hgr.lt _ e).1; omega) (by intro y hy; simp at hy; subst hy; intro h; omega)⟩, .mk _ _ HE2.out ((HB5.out.set 2 _).cell 2 _ rfl) (fun y hy => by rcases HL3.out with q | ⟨q1, q, q2⟩; exact .inl (q ▸ hy); exact .inr (by rw [q] at hy; cases hy; simp at q2; omega)) hlo hkF⟩
theorem cacheAdd {F : Nat → Prop} (d : Nat) {S : Nat → Prop} (b base : Nat) (cap last : Int) (mp : Value) (l : List Cp) (xi xm tk : Int) (tn : ByteArray) (ti xf xu : Int) (ta : List Ty) (xl : List Int) (a1 a2 : Option Addr) (c1 c2 : Nat) (w : World)
    (h : Cch F d w b base cap last mp l) (hm : 1 ≤ xm) (hf : 1 ≤ xf) (hu : xu = 0 ∨ xf < xu) (hcap : (l.length : Int) < cap) (h0 : 0 ≤ last) (h1 : last ≤ 1000000) (hll : l.length ≤ 100000)
    (ht : TR d S w (.slice a1 ta.length c1) ta) (hi : Reads S w (.slice a2 xl.length c2) 1 (irows xl)) (hl : xl.length ≤ 1000) (hSb : ¬ S b) :
    Calls Tryd.prog 9 #[.pointer (some ⟨b, 0, none⟩), .agg #[.int .i64 xi, .int .i64 xm, .int .i64 tk, .string tn, .int .i64 ti, .slice a1 ta.length c1, .int .i64 xf, .int .i64 xu, .int .i64 0, .int .i64 0, .slice none 0 0, .slice none 0 0, .slice none 0 0, .slice a2 xl.length c2]] w fun e w' => e = .returned (.tuple #[.int .i64 (last + 1), .int .i64 0]) ∧
      Cch F d w' b base cap (last + 1) mp (l ++ [⟨last + 1, xm, .mk tk tn ti ta, xf, xu, xl⟩]) ∧ ∃ M, (∀ y ∈ M, y = b ∨ base ≤ y) ∧ Kept M w w' := by
  refine (cacheAddOwn d b base cap last mp l xi xm tk tn ti xf xu ta xl a1 a2 c1 c2 w h hm hf hu hcap h0 h1 hll ht hi hl hSb).mono ?_
  rintro e w' ⟨he, hc, ⟨v, _, _, _, _, hv, hk⟩⟩
  refine ⟨he, hc, _, fun y hy => ?_, hk⟩
  rcases List.mem_cons.1 hy with rfl | hy
  · exact .inl rfl
  · exact .inr (hv y (by simpa using hy)).1
end Go.Proofs.YtkldomkooleecaaDoor
