/- Walks over the reference cache: Get, ValidIn, Lookup. -/
import Derived.Test.YtkldomkooleecaaDoorRCache
import Derived.Test.YtkldomkooleecaaDoorCacheE
import Derived.Test.YtkldomkooleecaaDoorRefCmp
namespace Go.Proofs.YtkldomkooleecaaDoor
open Go.RowKit

/-- What Get and Lookup return. -/
inductive RGot (G : Nat → Prop) (d : Nat) (w w' : World) (x : Cp) : Ending → Prop
  | mk (a1 : Option Addr) (c1 : Nat) (a2 : Option Addr) (c2 : Nat) (h1 : TR d G w' (.slice a1 x.ty.args.length c1) x.ty.args) (h2 : Reads G w' (.slice a2 x.inl.length c2) 1 (irows x.inl)) (h3 : x.inl.length ≤ 1000) :
      RGot G d w w' x (.returned (.tuple #[.agg (x.row (.tuple #[.slice a1 x.ty.args.length c1, .slice a2 x.inl.length c2])).toArray, .bool true]))

set_option maxRecDepth 100000 in
set_option maxHeartbeats 6400000 in
theorem refGet {G : Nat → Prop} (d : Nat) (R base : Nat) (cap next : Int) (l : List Cp) (cs : List Cn) (i : Int) (w : World) (h : RCch G d w R base cap next l cs) :
    Calls Tryd.prog 31 #[.pointer (some ⟨R, 0, none⟩), .int .i64 i] w fun e w' => Kept [] w w' ∧
      ((∃ (k : Nat) (x : Cp), Finds l i k x ∧ RGot G d w w' x e) ∨ (e = .returned (.tuple #[.agg zeroCode.toArray, .bool false]) ∧ Lacks l i l.length)) := by
  have H := Lib.hid h
  have hbs := h.lt
  obtain ⟨a, c, a', c', g1, g2, g3, g4, g5, g6, e0, e1, e2, e3, HB, H5, HCS, HX⟩ := h.form
  clear h e1 e2 e3 HB HCS HX g3 g4
  go_enter Tryd.func31, Tryd.ntmps31
  go_wp2_with fail
  have HR0 := Lib.hid (Blk.new w zeroCode 43)
  refine Calls.mono (refIndex d R base cap next l cs i _ (by exact H.out.kept0 ((Kept.refl [] w).alloc _))) ?_
  rintro e w1 ⟨hw1, hc⟩
  have HR1 : Hid (Blk w1 w.heap.size zeroCode 43) := by rw [hw1]; exact HR0.out
  have hk1' : Kept [] w w1 := by rw [hw1]; exact (Kept.refl [] w).alloc _
  clear hw1
  rcases hc with ⟨k, rfl, x, hfind⟩ | ⟨rfl, hno⟩
  · obtain ⟨hx, hid, hmin⟩ := hfind
    subst hid
    have hlt : k < l.length := (List.getElem?_eq_some_iff.1 hx).1
    have hne : l ≠ [] := by rintro rfl; simp at hlt
    obtain ⟨b1, o1, rfl, hSb, hb1, hc1⟩ := H5.out.code hne
    obtain ⟨a1, c1, a2, c2, hrx, ht, hi, hl⟩ := hc1 k x hx
    have HRG := Lib.hid (hk1'.range hrx (by simp))
    have HT := Lib.hid ((TR.good d).kept ((TR.good d).mono ht (S' := fun y => G y ∧ y < w.heap.size) (fun y hy h => ⟨h, hy⟩)) hk1' (by simp))
    have HI := Lib.hid ((hi.mono (S' := fun y => G y ∧ y < w.heap.size) (fun y hy h => ⟨h, hy⟩)).kept hk1' (by simp))
    have HX := Lib.hid hx
    have HM := Lib.hid hmin
    have e0' := hk1'.cell' e0 (by simp)
    have hs1 := hk1'.size
    obtain ⟨r0, r1, r2, r3, r4, r5, r6, r7, r8, r9, r10, r11, r12, r13⟩ := (show Blk w1 w.heap.size [.int .i64 0, .int .i64 0, .int .i64 0, .string ⟨#[]⟩, .int .i64 0, .slice none 0 0, .int .i64 0, .int .i64 0, .int .i64 0, .int .i64 0, .slice none 0 0, .slice none 0 0, .slice none 0 0, .slice none 0 0] 43 from HR1.out).fourteen
    obtain ⟨t0, t1, t2, t3, t4, t5, t6, t7, t8, t9, t10, t11, t12, t13⟩ := HR1.out.free14
    obtain ⟨xi, xm, ⟨tk, tn, ti, ta⟩, xf, xu, xl⟩ := x
    simp only [Cp.row, vfst_pair, vsnd_pair, Ty.kind, Ty.name, Ty.index, Ty.args] at HRG HT HI hl ⊢
    clear hrx ht hi hx hmin hc1 hne H5 e0 H
    go_wp2_with (first
      | (refine wpList_load_mid rfl 43 (.tmp 18) rfl b1 (o1 + k * 14) rfl [.int .i64 xi, .int .i64 xm, .int .i64 tk, .string tn, .int .i64 ti, .slice a1 ta.length c1, .int .i64 xf, .int .i64 xu, .int .i64 0, .int .i64 0, .slice none 0 0, .slice none 0 0, .slice none 0 0, .slice a2 xl.length c2] _ HRG.out Tryd.underlying43 rfl (by kernel_rfl) ?_))
    have hkF := Kept.set14 w1 w.heap.size (.int .i64 xi) (.int .i64 xm) (.int .i64 tk) (.string tn) (.int .i64 ti) (.slice a1 ta.length c1) (.int .i64 xf) (.int .i64 xu) (.int .i64 0) (.int .i64 0) (.slice none 0 0) (.slice none 0 0) (.slice none 0 0) (.slice a2 xl.length c2)
    refine bodyPost_ret (results_two rfl _ _ w.heap.size 43 [.int .i64 xi, .int .i64 xm, .int .i64 tk, .string tn, .int .i64 ti, .slice a1 ta.length c1, .int .i64 xf, .int .i64 xu, .int .i64 0, .int .i64 0, .slice none 0 0, .slice none 0 0, .slice none 0 0, .slice a2 xl.length c2] _ (.bool true) rfl rfl (Blk.set14 HR1.out _ _ _ _ _ _ _ _ _ _ _ _ _ _) Tryd.underlying43 rfl (by kernel_rfl)) rfl ?_
    exact ⟨hk1'.trans' hkF (by simp), .inl ⟨k, ⟨xi, xm, .mk tk tn ti ta, xf, xu, xl⟩, ⟨HX.out, rfl, HM.out⟩, .mk a1 c1 a2 c2 ((TR.good d).mono ((TR.good d).kept HT.out hkF (by simp)) (fun _ _ h => h.1)) ((HI.out.kept hkF (by simp)).mono (fun _ _ h => h.1)) hl⟩⟩
  · have HNO := Lib.hid hno
    obtain ⟨r0, r1, r2, r3, r4, r5, r6, r7, r8, r9, r10, r11, r12, r13⟩ := (show Blk w1 w.heap.size [.int .i64 0, .int .i64 0, .int .i64 0, .string ⟨#[]⟩, .int .i64 0, .slice none 0 0, .int .i64 0, .int .i64 0, .int .i64 0, .int .i64 0, .slice none 0 0, .slice none 0 0, .slice none 0 0, .slice none 0 0] 43 from HR1.out).fourteen
    obtain ⟨t0, t1, t2, t3, t4, t5, t6, t7, t8, t9, t10, t11, t12, t13⟩ := HR1.out.free14
    clear hno H5
    go_wp2
    have hkF := Kept.set14 w1 w.heap.size (.int .i64 0) (.int .i64 0) (.int .i64 0) (.string ⟨#[]⟩) (.int .i64 0) (.slice none 0 0) (.int .i64 0) (.int .i64 0) (.int .i64 0) (.int .i64 0) (.slice none 0 0) (.slice none 0 0) (.slice none 0 0) (.slice none 0 0)
    refine bodyPost_ret (results_two rfl _ _ w.heap.size 43 zeroCode _ (.bool false) rfl rfl (Blk.set14 HR1.out _ _ _ _ _ _ _ _ _ _ _ _ _ _) Tryd.underlying43 rfl (by kernel_rfl)) rfl ?_
    exact ⟨hk1'.trans' hkF (by simp), .inr ⟨rfl, HNO.out⟩⟩

/-- Valid in a world. -/
def validB (xf xu wd : Int) : Bool := decide (xf ≤ wd) && (xu == 0 || decide (wd < xu))
set_option maxRecDepth 100000 in
set_option maxHeartbeats 1600000 in
theorem refValid (xi xm tk : Int) (tn : ByteArray) (ti xf xu wd : Int) (a1 a2 : Option Addr) (n1 n2 c1 c2 : Nat) (w : World) :
    Calls Tryd.prog 51 #[.agg #[.int .i64 xi, .int .i64 xm, .int .i64 tk, .string tn, .int .i64 ti, .slice a1 n1 c1, .int .i64 xf, .int .i64 xu, .int .i64 0, .int .i64 0, .slice none 0 0, .slice none 0 0, .slice none 0 0, .slice a2 n2 c2], .int .i64 wd] w fun e w' => e = .returned (.bool (validB xf xu wd)) ∧ Kept [] w w' := by
  have hcase : (decide (xf ≤ wd) = false) ∨ (decide (xf ≤ wd) = true ∧ (xu == 0) = true) ∨ (decide (xf ≤ wd) = true ∧ (xu == 0) = false ∧ decide (wd < xu) = true) ∨ (decide (xf ≤ wd) = true ∧ (xu == 0) = false ∧ decide (wd < xu) = false) := by
    cases decide (xf ≤ wd) <;> cases (xu == 0) <;> cases decide (wd < xu) <;> simp
  unfold validB
  rcases hcase with q1 | ⟨q1, q2⟩ | ⟨q1, q2, q3⟩ | ⟨q1, q2, q3⟩
  all_goals
    go_enter Tryd.func51, Tryd.ntmps51
    go_wp2
    go_ret
    refine ⟨?_, (Kept.refl [] w).alloc _⟩
    simp [*]
theorem fit_valid {x : Cp} {m wd : Int} {t : Ty} (h : fits m t wd x) : validB x.frm x.unt wd = true := by
  unfold validB
  obtain ⟨_, h1, h2, _⟩ := h
  simpa using ⟨h1, h2⟩
theorem valid_fit {xi xm tk : Int} {tn : ByteArray} {ti : Int} {ta : List Ty} {xf xu : Int} {xl : List Int} {m wd gk : Int} {gn : ByteArray} {gi : Int} {ga : List Ty} {r : Bool} (hr : r = true ↔ Ty.mk tk tn ti ta = Ty.mk gk gn gi ga) :
    fits m (.mk gk gn gi ga) wd ⟨xi, xm, .mk tk tn ti ta, xf, xu, xl⟩ ↔ (xm == m) = true ∧ validB xf xu wd = true ∧ r = true := by
  unfold fits validB
  rw [hr]
  simp [and_assoc]

set_option maxRecDepth 100000 in
set_option maxHeartbeats 6400000 in
theorem refLookup {G : Nat → Prop} (d : Nat) {S : Nat → Prop} (R base : Nat) (cap next : Int) (l : List Cp) (cs : List Cn) (m : Int) (gk : Int) (gn : ByteArray) (gi : Int) (ga : List Ty) (a0 : Option Addr) (c0 : Nat) (wd : Int) (w : World) (h : RCch G d w R base cap next l cs) (hg : TR d S w (.slice a0 ga.length c0) ga) :
    Calls Tryd.prog 33 #[.pointer (some ⟨R, 0, none⟩), .int .i64 m, .agg #[.int .i64 gk, .string gn, .int .i64 gi, .slice a0 ga.length c0], .int .i64 wd] w fun e w' => Kept [] w w' ∧
      ((∃ (k : Nat) (x : Cp), FindsFit l m (.mk gk gn gi ga) wd k x ∧ RGot G d w w' x e) ∨ (e = .returned (.tuple #[.agg zeroCode.toArray, .bool false]) ∧ LacksFit l m (.mk gk gn gi ga) wd l.length)) := by
  have hbs := h.lt
  obtain ⟨a, c, a', c', g1, g2, g3, g4, g5, g6, e0, e1, e2, e3, HB, H5, HCS, HX⟩ := h.form
  have HG := Lib.hid hg
  clear h e1 e2 e3 HB HCS HX g3 g4 hg
  go_enter Tryd.func33, Tryd.ntmps33
  go_wp2
  obtain ⟨W0, hW0⟩ : ∃ W0 : World, W0 = (w.alloc (.cells #[.int .i64 gk, .string gn, .int .i64 gi, .slice a0 ga.length c0] 31)).alloc (.cells #[.int .i64 0, .int .i64 0, .int .i64 0, .string ⟨#[]⟩, .int .i64 0, .slice none 0 0, .int .i64 0, .int .i64 0, .int .i64 0, .int .i64 0, .slice none 0 0, .slice none 0 0, .slice none 0 0, .slice none 0 0] 43) := ⟨_, rfl⟩
  have HK0 : Kept [] w W0 := by rw [hW0]; exact ((Kept.refl [] w).alloc _).alloc _
  have HR0 : Hid (Blk W0 (w.heap.size + 1) [.int .i64 0, .int .i64 0, .int .i64 0, .string ⟨#[]⟩, .int .i64 0, .slice none 0 0, .int .i64 0, .int .i64 0, .int .i64 0, .int .i64 0, .slice none 0 0, .slice none 0 0, .slice none 0 0, .slice none 0 0] 43) := by rw [hW0]; exact halloc_new _ _ _ (by simp)
  have HY0 : Hid (Blk W0 w.heap.size [.int .i64 gk, .string gn, .int .i64 gi, .slice a0 ga.length c0] 31) := by rw [hW0]; exact Blk.old w _ _ _
  have sz0 : w.heap.size + 2 ≤ W0.heap.size := by rw [hW0]; simp
  rw [← hW0]
  clear hW0
  go_loopw [10] (fun q wr => ∃ k : Nat, k ≤ l.length ∧ q = .int .i64 k ∧ Kept [] W0 wr ∧ Hid (LacksFit l m (.mk gk gn gi ga) wd k)) (fun q _ => l.length - (intOf q).toNat)
  case atStart => exact ⟨0, Nat.zero_le _, rfl, Kept.refl _ _, fun j y hj => by omega⟩
  case round =>
    obtain ⟨k, hk, rfl, hkr, hno⟩ := hrel
    have hkw := HK0.trans hkr
    have HR1 := Lib.hid (HR0.out.kept hkr (by simp))
    have HY1 := Lib.hid (HY0.out.kept hkr (by simp))
    have szr := hkr.size
    have sl0 : w.heap.size < wr.heap.size := by omega
    have sl1 : w.heap.size + 1 < wr.heap.size := by omega
    have e0' := hkw.cell' e0 (by simp)
    have hRr : R < wr.heap.size := by omega
    obtain ⟨wo, hwo⟩ : ∃ wo : World, wo = wr := ⟨_, rfl⟩
    subst hwo
    clear e0
    by_cases hlt : k < l.length
    · have hne : l ≠ [] := by rintro rfl; simp at hlt
      obtain ⟨b1, o1, rfl, hSb, hb1, hc1⟩ := H5.out.code hne
      obtain ⟨x, hx⟩ := getp l k hlt
      obtain ⟨a1, c1, a2, c2, hrx, ht, hi, hxl⟩ := hc1 k x hx
      have HX := Lib.hid hx
      have HRG := Lib.hid (hkw.range hrx (by simp))
      have HT := Lib.hid ((TR.good d).kept ((TR.good d).mono ht (S' := fun y => G y ∧ y < w.heap.size) (fun y hy h => ⟨h, hy⟩)) hkw (by simp))
      have HI := Lib.hid ((hi.mono (S' := fun y => G y ∧ y < w.heap.size) (fun y hy h => ⟨h, hy⟩)).kept hkw (by simp))
      obtain ⟨xi, xm, ⟨tk, tn, ti, ta⟩, xf, xu, xl⟩ := x
      simp only [Cp.row, vfst_pair, vsnd_pair, Ty.kind, Ty.name, Ty.index, Ty.args] at HRG HT HI hxl ⊢
      have hkc : k < c := by omega
      clear hrx hx hc1 hne H5 ht hi
      go_upto_region 5 with (first
        | (refine wpList_load_mid rfl 43 (.tmp 26) rfl b1 (o1 + k * 14) rfl [.int .i64 xi, .int .i64 xm, .int .i64 tk, .string tn, .int .i64 ti, .slice a1 ta.length c1, .int .i64 xf, .int .i64 xu, .int .i64 0, .int .i64 0, .slice none 0 0, .slice none 0 0, .slice none 0 0, .slice a2 xl.length c2] _ HRG.out Tryd.underlying43 rfl (by kernel_rfl) ?_)
        | (refine wpList_allocStore (.tmp 27) 43 rfl rfl rfl rfl rfl rfl _ [.int .i64 xi, .int .i64 xm, .int .i64 tk, .string tn, .int .i64 ti, .slice a1 ta.length c1, .int .i64 xf, .int .i64 xu, .int .i64 0, .int .i64 0, .slice none 0 0, .slice none 0 0, .slice none 0 0, .slice a2 xl.length c2] info_code rfl (fun _ => rfl) (fun _ => rfl) (by simp [Value.oneCell']) ?_))
      obtain ⟨Wx, hWx⟩ : ∃ Wx : World, Wx = wo.alloc (.cells (List.toArray [.int .i64 xi, .int .i64 xm, .int .i64 tk, .string tn, .int .i64 ti, .slice a1 ta.length c1, .int .i64 xf, .int .i64 xu, .int .i64 0, .int .i64 0, .slice none 0 0, .slice none 0 0, .slice none 0 0, .slice a2 xl.length c2]) 43) := ⟨_, rfl⟩
      obtain ⟨X, hX⟩ : ∃ X, X = wo.heap.size := ⟨_, rfl⟩
      have HX1 : Hid (Blk Wx X [.int .i64 xi, .int .i64 xm, .int .i64 tk, .string tn, .int .i64 ti, .slice a1 ta.length c1, .int .i64 xf, .int .i64 xu, .int .i64 0, .int .i64 0, .slice none 0 0, .slice none 0 0, .slice none 0 0, .slice a2 xl.length c2] 43) := by rw [hWx, hX]; exact Blk.new wo _ _
      have hka : Kept [] wo Wx := by rw [hWx]; exact (Kept.refl [] wo).alloc _
      rw [← hWx, ← hX]
      clear hWx hX HRG
      have HKW := Lib.hid (hkr.trans hka)
      have HT1 := Lib.hid ((TR.good d).kept HT.out hka (by simp))
      have HI1 := Lib.hid (HI.out.kept hka (by simp))
      have HR2 := Lib.hid (HR1.out.kept hka (by simp))
      have HG1 := Lib.hid ((TR.good d).kept HG.out (hkw.trans hka) (by simp))
      have hy1 := HY1.out.kept hka (by simp)
      obtain ⟨⟨y0, y1, y2, y3⟩, _⟩ := hy1.four
      obtain ⟨x0, x1, x2, x3, x4, x5, x6, x7, x8, x9, x10, x11, x12, x13⟩ := HX1.out.fourteen
      have hXW : X < Wx.heap.size := HX1.out.lt
      have s0 : w.heap.size < Wx.heap.size := by have := hka.size; omega
      have s1 : w.heap.size + 1 < Wx.heap.size := by have := hka.size; omega
      clear HT HI HR1 HY1 hka hy1 e0'
      by_cases q1 : (xm == m) = true
      · by_cases q2 : validB xf xu wd = true
        · go_wp2_with (first
            | (go_at_call 51; refine Calls.mono (refValid xi xm tk tn ti xf xu wd a1 a2 ta.length xl.length c1 c2 _) ?_; rintro e w2 ⟨rfl, hk2⟩; have HK2 := Lib.hid hk2; have HX2 := Lib.hid (HX1.out.kept hk2 (by simp)); obtain ⟨z0, z1, z2, z3, z4, z5, z6, z7, z8, z9, z10, z11, z12, z13⟩ := HX2.out.fourteen; have m0 := hk2.cell' y0 (by simp); have m1 := hk2.cell' y1 (by simp); have m2 := hk2.cell' y2 (by simp); have m3 := hk2.cell' y3 (by simp); have hXW2 : X < w2.heap.size := HX2.out.lt; have s02 : w.heap.size < w2.heap.size := Nat.lt_of_lt_of_le s0 hk2.size; have s12 : w.heap.size + 1 < w2.heap.size := Nat.lt_of_lt_of_le s1 hk2.size; clear hk2)
            | (go_at_call 14; refine Calls.mono (termEqual d (S := fun y => G y ∧ y < w.heap.size) (S' := S) tk gk tn gn ti gi ta ga (.slice a1 ta.length c1) (.slice a0 ga.length c0) _ (by exact (TR.good d).kept HT1.out HK2.out (by simp)) (by exact (TR.good d).kept HG1.out HK2.out (by simp))) ?_; rintro e w3 ⟨r, rfl, hr, hk3⟩; have HRR := Lib.hid hr; have HK3 := Lib.hid (HK2.out.trans hk3); have HX3 := Lib.hid (HX2.out.kept hk3 (by simp)); have HR3 := Lib.hid (HR2.out.kept HK3.out (by simp)); clear hr hk3; obtain ⟨v0, v1, v2, v3, v4, v5, v6, v7, v8, v9, v10, v11, v12, v13⟩ := HX3.out.fourteen; obtain ⟨t0, t1, t2, t3, t4, t5, t6, t7, t8, t9, t10, t11, t12, t13⟩ := HR3.out.free14; obtain ⟨r0, r1, r2, r3, r4, r5, r6, r7, r8, r9, r10, r11, r12, r13⟩ := HR3.out.fourteen; cases r))
          · go_roundw
            case rel => exact ⟨k + 1, by omega, by go_num, HKW.out.trans HK3.out, hno.out.next HX.out (fun h => absurd (HRR.out.2 h.2.2.2) (by simp))⟩
            case measure => simp [intOf]; omega
          · have hkF := Kept.set14 w3 (w.heap.size + 1) (.int .i64 xi) (.int .i64 xm) (.int .i64 tk) (.string tn) (.int .i64 ti) (.slice a1 ta.length c1) (.int .i64 xf) (.int .i64 xu) (.int .i64 0) (.int .i64 0) (.slice none 0 0) (.slice none 0 0) (.slice none 0 0) (.slice a2 xl.length c2)
            refine bodyPost_ret (results_two rfl _ _ (w.heap.size + 1) 43 [.int .i64 xi, .int .i64 xm, .int .i64 tk, .string tn, .int .i64 ti, .slice a1 ta.length c1, .int .i64 xf, .int .i64 xu, .int .i64 0, .int .i64 0, .slice none 0 0, .slice none 0 0, .slice none 0 0, .slice a2 xl.length c2] _ (.bool true) rfl rfl (Blk.set14 HR3.out _ _ _ _ _ _ _ _ _ _ _ _ _ _) Tryd.underlying43 rfl (by kernel_rfl)) rfl ?_
            exact ⟨((HK0.trans HKW.out).trans HK3.out).trans' hkF (by simp), .inl ⟨k, ⟨xi, xm, .mk tk tn ti ta, xf, xu, xl⟩, ⟨HX.out, (valid_fit (r := true) (by simpa using HRR.out)).2 ⟨q1, q2, rfl⟩, hno.out⟩, .mk a1 c1 a2 c2 ((TR.good d).mono ((TR.good d).kept ((TR.good d).kept HT1.out HK3.out (by simp)) hkF (by simp)) (fun _ _ h => h.1)) (((HI1.out.kept HK3.out (by simp)).kept hkF (by simp)).mono (fun _ _ h => h.1)) hxl⟩⟩
        · have q2' : validB xf xu wd = false := by simpa using q2
          go_wp2_with (go_at_call 51; refine Calls.mono (refValid xi xm tk tn ti xf xu wd a1 a2 ta.length xl.length c1 c2 _) ?_; rintro e w2 ⟨rfl, hk2⟩; have HK2 := Lib.hid hk2; clear hk2)
          go_roundw
          case rel => exact ⟨k + 1, by omega, by go_num, HKW.out.trans HK2.out, hno.out.next HX.out (fun h => q2 (fit_valid h))⟩
          case measure => simp [intOf]; omega
      · have q1' : (xm == m) = false := by simpa using q1
        go_wp2
        go_roundw
        case rel => exact ⟨k + 1, by omega, by go_num, HKW.out, hno.out.next HX.out (fun h => q1 (by simpa using h.1))⟩
        case measure => simp [intOf]; omega
    · clear H5
      obtain ⟨r0, r1, r2, r3, r4, r5, r6, r7, r8, r9, r10, r11, r12, r13⟩ := HR1.out.fourteen
      obtain ⟨t0, t1, t2, t3, t4, t5, t6, t7, t8, t9, t10, t11, t12, t13⟩ := HR1.out.free14
      go_wp2
      have hkF := Kept.set14 wo (w.heap.size + 1) (.int .i64 0) (.int .i64 0) (.int .i64 0) (.string ⟨#[]⟩) (.int .i64 0) (.slice none 0 0) (.int .i64 0) (.int .i64 0) (.int .i64 0) (.int .i64 0) (.slice none 0 0) (.slice none 0 0) (.slice none 0 0) (.slice none 0 0)
      refine bodyPost_ret (results_two rfl _ _ (w.heap.size + 1) 43 zeroCode _ (.bool false) rfl rfl (Blk.set14 HR1.out _ _ _ _ _ _ _ _ _ _ _ _ _ _) Tryd.underlying43 rfl (by kernel_rfl)) rfl ?_
      refine ⟨hkw.trans' hkF (by simp), .inr ⟨rfl, ?_⟩⟩
      have := hno.out
      rw [show k = l.length by omega] at this
      exact this
end Go.Proofs.YtkldomkooleecaaDoor
