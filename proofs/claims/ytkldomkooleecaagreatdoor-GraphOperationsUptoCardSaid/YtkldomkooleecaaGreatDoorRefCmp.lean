/- Walks: comparison of type terms by the reference. -/
import Derived.Test.YtkldomkooleecaaGreatDoorTyCmp
namespace Go.Proofs.YtkldomkooleecaaGreatDoor
open Go.RowKit

def IsOrd (r : Int) (b : Bool) : Prop := r = if b then -1 else 1
set_option maxRecDepth 100000 in
theorem orderX (b : Bool) (w : World) : Calls Tryz.prog 69 #[.bool b] w fun e w' => ∃ r : Int, e = .returned (.int .i64 r) ∧ IsOrd r b ∧ w' = w := by
  cases b
  · go_enter Tryz.func69, Tryz.ntmps69
    go_wp2
    go_ret
    exact ⟨_, rfl, rfl, rfl⟩
  · go_enter Tryz.func69, Tryz.ntmps69
    go_wp2
    go_ret
    exact ⟨_, rfl, rfl, rfl⟩
theorem ord_int {r a b : Int} (h : IsOrd r (decide (a < b))) (hne : a ≠ b) : r = cmpI a b ∧ cmpI a b ≠ 0 := by
  unfold IsOrd at h
  unfold cmpI
  by_cases hl : a < b
  · simp [hl] at h ⊢; exact h
  · have : b < a := by omega
    simp [hl, this] at h ⊢; exact h
theorem ord_nat {r : Int} {a b : Nat} (h : IsOrd r (decide (a < b))) (hne : a ≠ b) : r = cmpI a b ∧ cmpI a b ≠ 0 := by
  refine ord_int ?_ (by omega)
  have e : decide ((a : Int) < b) = decide (a < b) := by simp
  rw [e]; exact h
theorem ord_str {r : Int} {a b : ByteArray} (h : IsOrd r (Op.bytesLess a.toList b.toList)) (hne : a ≠ b) : r = cmpS a b ∧ cmpS a b ≠ 0 := by
  unfold IsOrd at h
  unfold cmpS cmpB
  cases h1 : Op.bytesLess a.toList b.toList
  · have h2 : Op.bytesLess b.toList a.toList = true := by
      cases h2 : Op.bytesLess b.toList a.toList
      · exact absurd (bytes_inj' (less_total _ _ h1 h2)) hne
      · rfl
    simp [h1, h2] at h ⊢; exact h
  · simp [h1] at h ⊢; exact h
theorem IsCmp.k {r xk yk : Int} {xn yn : ByteArray} {xi yi : Int} {xa ya : List Ty} (h : r = cmpI xk yk ∧ cmpI xk yk ≠ 0) : IsCmp r (.mk xk xn xi xa) (.mk yk yn yi ya) := by
  unfold IsCmp
  rw [tyCmp, fst0_ne (by rw [fst0_ne h.2]; exact h.2), fst0_ne h.2]; exact h.1
theorem IsCmp.n {r xk : Int} {xn yn : ByteArray} {xi yi : Int} {xa ya : List Ty} (h : r = cmpS xn yn ∧ cmpS xn yn ≠ 0) : IsCmp r (.mk xk xn xi xa) (.mk xk yn yi ya) := by
  unfold IsCmp
  rw [tyCmp, (cmpI_ord.zero xk xk).2 rfl, fst0_zero, fst0_ne (by rw [fst0_ne h.2]; exact h.2), fst0_ne h.2]; exact h.1
theorem IsCmp.i {r xk : Int} {xn : ByteArray} {xi yi : Int} {xa ya : List Ty} (h : r = cmpI xi yi ∧ cmpI xi yi ≠ 0) : IsCmp r (.mk xk xn xi xa) (.mk xk xn yi ya) := by
  unfold IsCmp
  rw [tyCmp, (cmpI_ord.zero xk xk).2 rfl, fst0_zero, (cmpS_ord.zero xn xn).2 rfl, fst0_zero, fst0_ne (by rw [fst0_ne h.2]; exact h.2), fst0_ne h.2]; exact h.1
theorem IsCmp.l {r xk : Int} {xn : ByteArray} {xi : Int} {xa ya : List Ty} (h : r = cmpI xa.length ya.length ∧ cmpI xa.length ya.length ≠ 0) : IsCmp r (.mk xk xn xi xa) (.mk xk xn xi ya) := by
  unfold IsCmp
  rw [tyCmp, (cmpI_ord.zero xk xk).2 rfl, fst0_zero, (cmpS_ord.zero xn xn).2 rfl, fst0_zero, (cmpI_ord.zero xi xi).2 rfl, fst0_zero, fst0_ne h.2]; exact h.1
theorem CmpAt.start0 {xk : Int} {xn : ByteArray} {xi : Int} {xa ya : List Ty} (h : xa.length = ya.length) : CmpAt (.mk xk xn xi xa) (.mk xk xn xi ya) 0 0 := by
  refine .inr ⟨rfl, h, ?_⟩
  rw [tyCmp, (cmpI_ord.zero xk xk).2 rfl, fst0_zero, (cmpS_ord.zero xn xn).2 rfl, fst0_zero, (cmpI_ord.zero xi xi).2 rfl, fst0_zero, (cmpI_ord.zero _ _).2 (by omega), fst0_zero]
  rfl

set_option maxRecDepth 100000 in
set_option maxHeartbeats 6400000 in
theorem refCompareAt (d : Nat) (IH : ∀ d', d = d' + 1 → ∀ (S S' : Nat → Prop) (w : World) (x y : Ty) (e e' : Value), TR d' S w e x.args → TR d' S' w e' y.args → Calls Tryz.prog 56 #[.agg #[.int .i64 x.kind, .string x.name, .int .i64 x.index, e], .agg #[.int .i64 y.kind, .string y.name, .int .i64 y.index, e']] w fun q w' => ∃ r : Int, q = .returned (.int .i64 r) ∧ IsCmp r x y ∧ Kept [] w w') :
    ∀ (S S' : Nat → Prop) (w : World) (x y : Ty) (e e' : Value), TR d S w e x.args → TR d S' w e' y.args → Calls Tryz.prog 56 #[.agg #[.int .i64 x.kind, .string x.name, .int .i64 x.index, e], .agg #[.int .i64 y.kind, .string y.name, .int .i64 y.index, e']] w fun q w' => ∃ r : Int, q = .returned (.int .i64 r) ∧ IsCmp r x y ∧ Kept [] w w' := by
  intro S S' w x y e e' h h'
  have HIH := Lib.hid IH
  obtain ⟨xk, xn, xi, xa⟩ := x
  obtain ⟨yk, yn, yi, ya⟩ := y
  simp only [Ty.kind, Ty.name, Ty.index, Ty.args] at h h' ⊢
  obtain ⟨a1, c1, rfl, h1, h2, h3⟩ := h.form
  obtain ⟨a2, c2, rfl, g1, g2, g3⟩ := h'.form
  have H := Lib.hid h
  have H' := Lib.hid h'
  clear h h' IH
  have hkA : Kept [] w ((w.alloc (.cells #[.int .i64 xk, .string xn, .int .i64 xi, .slice a1 xa.length c1] 39)).alloc (.cells #[.int .i64 yk, .string yn, .int .i64 yi, .slice a2 ya.length c2] 39)) := ((Kept.refl [] w).alloc _).alloc _
  by_cases e1 : xk = yk
  case neg =>
    have b1 : (xk != yk) = true := by simpa using e1
    have HE := Lib.hid e1
    clear e1
    go_enter Tryz.func56, Tryz.ntmps56
    go_wp2_with (go_at_call 69; refine Calls.mono (orderX _ _) ?_; rintro e w1 ⟨r, rfl, hr, rfl⟩; have HR := Lib.hid hr; clear hr)
    go_ret
    exact ⟨_, rfl, IsCmp.k (ord_int HR.out HE.out), hkA⟩
  subst e1
  by_cases e2 : xn = yn
  case neg =>
    have b2 : (xn.toList == yn.toList) = false := by
      rw [beq_eq_false_iff_ne]
      exact fun e => e2 (str_inj e)
    have HE := Lib.hid e2
    clear e2
    go_enter Tryz.func56, Tryz.ntmps56
    go_wp2_with (go_at_call 69; refine Calls.mono (orderX _ _) ?_; rintro e w1 ⟨r, rfl, hr, rfl⟩; have HR := Lib.hid hr; clear hr)
    go_ret
    exact ⟨_, rfl, IsCmp.n (ord_str HR.out HE.out), hkA⟩
  subst e2
  by_cases e3 : xi = yi
  case neg =>
    have b3 : (xi != yi) = true := by simpa using e3
    have HE := Lib.hid e3
    clear e3
    go_enter Tryz.func56, Tryz.ntmps56
    go_wp2_with (go_at_call 69; refine Calls.mono (orderX _ _) ?_; rintro e w1 ⟨r, rfl, hr, rfl⟩; have HR := Lib.hid hr; clear hr)
    go_ret
    exact ⟨_, rfl, IsCmp.i (ord_int HR.out HE.out), hkA⟩
  subst e3
  by_cases e4 : xa.length = ya.length
  case neg =>
    have b4 : ((xa.length : Int) != ya.length) = true := by simp; omega
    have HE := Lib.hid e4
    clear e4
    go_enter Tryz.func56, Tryz.ntmps56
    go_wp2_with (go_at_call 69; refine Calls.mono (orderX _ _) ?_; rintro e w1 ⟨r, rfl, hr, rfl⟩; have HR := Lib.hid hr; clear hr)
    go_ret
    exact ⟨_, rfl, IsCmp.l (ord_nat HR.out HE.out), hkA⟩
  have b4 : ((xa.length : Int) != ya.length) = false := by simp; omega
  have HE4 := Lib.hid e4
  clear e4
  go_enter Tryz.func56, Tryz.ntmps56
  go_wp2
  obtain ⟨W1, hW1⟩ : ∃ W1 : World, W1 = ((w.alloc (.cells #[.int .i64 xk, .string xn, .int .i64 xi, .slice a1 xa.length c1] 39)).alloc (.cells #[.int .i64 xk, .string xn, .int .i64 xi, .slice a2 ya.length c2] 39)) := ⟨_, rfl⟩
  have hkW : Kept [] w W1 := by rw [hW1]; exact ((Kept.refl [] w).alloc _).alloc _
  have z3 : W1.cell? ⟨w.heap.size, 3, none⟩ = some (.slice a1 xa.length c1) := by rw [hW1]; exact (Blk.old w _ _ _).cell 3 _ rfl
  have y3 : W1.cell? ⟨w.heap.size + 1, 3, none⟩ = some (.slice a2 ya.length c2) := by rw [hW1]; exact (show Blk _ (w.heap.size + 1) [.int .i64 xk, .string xn, .int .i64 xi, .slice a2 ya.length c2] 39 from halloc_new _ _ _ (by simp)).cell 3 _ rfl
  rw [← hW1]
  clear hW1 hkA b4
  go_loopw [5] (fun i wr => ∃ k : Nat, i = .int .i64 k ∧ k ≤ xa.length ∧ Kept [] W1 wr ∧ Hid (CmpAt (.mk xk xn xi xa) (.mk xk xn xi ya) k 0)) (fun i _ => xa.length - (intOf i).toNat)
  case atStart => exact ⟨0, rfl, Nat.zero_le _, Kept.refl _ _, CmpAt.start0 HE4.out⟩
  case round =>
    obtain ⟨k, rfl, hk, hkr, hat⟩ := hrel
    have x3 := hkr.cell' z3 (by simp)
    have v3 := hkr.cell' y3 (by simp)
    by_cases hlt : k < xa.length
    · have hlt2 : k < ya.length := by have := HE4.out; omega
      rcases d with _ | d
      · obtain ⟨h0, _⟩ := H.out
        rw [h0] at hlt
        simp at hlt
      · obtain ⟨_, hrd⟩ := H.out
        obtain ⟨_, hrd'⟩ := H'.out
        obtain ⟨_, _, he1, _, _, h5⟩ := hrd.form
        obtain ⟨_, _, he2, _, _, g5⟩ := hrd'.form
        have hne : xa ≠ [] := by rintro rfl; simp at hlt
        have hne' : ya ≠ [] := by rintro rfl; simp at hlt2
        obtain ⟨b1, o1, rfl, _, hb1, hc1⟩ := h5.resolve_left hne
        obtain ⟨b2, o2, rfl, _, hb2, hc2⟩ := g5.resolve_left hne'
        simp only [Value.slice.injEq] at he1 he2
        obtain ⟨rfl, _, rfl⟩ := he1
        obtain ⟨rfl, _, rfl⟩ := he2
        obtain ⟨x, hx⟩ : ∃ x, xa[k]? = some x := ⟨xa[k], by simp⟩
        obtain ⟨y, hy⟩ : ∃ y, ya[k]? = some y := ⟨ya[k], by simp⟩
        obtain ⟨q, hq1, hq2, hq3⟩ := hc1 k x hx
        obtain ⟨q', hq4, hq5, hq6⟩ := hc2 k y hy
        obtain ⟨qa, qc, rfl, _⟩ := hq3.form
        obtain ⟨qa', qc', rfl, _⟩ := hq6.form
        have hkk := hkW.trans hkr
        have m1 := hkk.range hq1 (by simp)
        have m2 := hkk.range hq4 (by simp)
        have HQ3 := Lib.hid ((TR.good d).kept hq3 hkk (by simp))
        have HQ6 := Lib.hid ((TR.good d).kept hq6 hkk (by simp))
        have HX := Lib.hid hx
        have HY := Lib.hid hy
        obtain ⟨tk, tn, ti, ta⟩ := x
        obtain ⟨sk, sn, si, sa⟩ := y
        simp only [Ty.row, Ty.kind, Ty.name, Ty.index, Ty.args] at m1 m2 HQ3 HQ6 ⊢
        have e0 : wr.cell? ⟨b1, o1 + k * 4, none⟩ = some (.int .i64 tk) := m1 0 _ rfl
        have e1 : wr.cell? ⟨b1, o1 + k * 4 + 1, none⟩ = some (.string tn) := m1 1 _ rfl
        have e2 : wr.cell? ⟨b1, o1 + k * 4 + 2, none⟩ = some (.int .i64 ti) := m1 2 _ rfl
        have e3 : wr.cell? ⟨b1, o1 + k * 4 + 3, none⟩ = some (.slice qa ta.length qc) := m1 3 _ rfl
        have f0 : wr.cell? ⟨b2, o2 + k * 4, none⟩ = some (.int .i64 sk) := m2 0 _ rfl
        have f1 : wr.cell? ⟨b2, o2 + k * 4 + 1, none⟩ = some (.string sn) := m2 1 _ rfl
        have f2 : wr.cell? ⟨b2, o2 + k * 4 + 2, none⟩ = some (.int .i64 si) := m2 2 _ rfl
        have f3 : wr.cell? ⟨b2, o2 + k * 4 + 3, none⟩ = some (.slice qa' sa.length qc') := m2 3 _ rfl
        clear m1 m2 hq1 hq2 hq3 hq4 hq5 hq6 hx hy hc1 hc2 hne hne' h5 g5 hrd hrd' H H' z3 y3
        have hlt' : (k : Int) < xa.length := by omega
        have hlt2' : (k : Int) < ya.length := by omega
        have hb1' : b1 < wr.heap.size := Nat.lt_of_lt_of_le hb1 hkk.size
        have hb2' : b2 < wr.heap.size := Nat.lt_of_lt_of_le hb2 hkk.size
        obtain ⟨wo, hwo⟩ : ∃ wo : World, wo = wr := ⟨_, rfl⟩
        subst hwo
        have HKF : Hid (∀ w', Kept [] wo w' → w'.cell? ⟨w.heap.size, 3, none⟩ = some (.slice (some ⟨b1, o1, none⟩) xa.length c1) ∧ w'.cell? ⟨w.heap.size + 1, 3, none⟩ = some (.slice (some ⟨b2, o2, none⟩) ya.length c2) ∧ w'.cell? ⟨b1, o1 + k * 4, none⟩ = some (.int .i64 tk) ∧ w'.cell? ⟨b1, o1 + k * 4 + 1, none⟩ = some (.string tn) ∧ w'.cell? ⟨b1, o1 + k * 4 + 2, none⟩ = some (.int .i64 ti) ∧ w'.cell? ⟨b1, o1 + k * 4 + 3, none⟩ = some (.slice qa ta.length qc) ∧ w'.cell? ⟨b2, o2 + k * 4, none⟩ = some (.int .i64 sk) ∧ w'.cell? ⟨b2, o2 + k * 4 + 1, none⟩ = some (.string sn) ∧ w'.cell? ⟨b2, o2 + k * 4 + 2, none⟩ = some (.int .i64 si) ∧ w'.cell? ⟨b2, o2 + k * 4 + 3, none⟩ = some (.slice qa' sa.length qc')) := Lib.hid (fun w' k => ⟨k.cell' x3 (by simp), k.cell' v3 (by simp), k.cell' e0 (by simp), k.cell' e1 (by simp), k.cell' e2 (by simp), k.cell' e3 (by simp), k.cell' f0 (by simp), k.cell' f1 (by simp), k.cell' f2 (by simp), k.cell' f3 (by simp)⟩)
        clear e0 e1 e2 e3 f0 f1 f2 f3
        go_wp2
        clear x3 v3
        go_region_held3 (fun w' => w'.cell? ⟨w.heap.size, 3, none⟩ = some (.slice (some ⟨b1, o1, none⟩) xa.length c1) ∧ w'.cell? ⟨w.heap.size + 1, 3, none⟩ = some (.slice (some ⟨b2, o2, none⟩) ya.length c2) ∧ w'.cell? ⟨b1, o1 + k * 4, none⟩ = some (.int .i64 tk) ∧ w'.cell? ⟨b1, o1 + k * 4 + 1, none⟩ = some (.string tn) ∧ w'.cell? ⟨b1, o1 + k * 4 + 2, none⟩ = some (.int .i64 ti) ∧ w'.cell? ⟨b1, o1 + k * 4 + 3, none⟩ = some (.slice qa ta.length qc) ∧ w'.cell? ⟨b2, o2 + k * 4, none⟩ = some (.int .i64 sk) ∧ w'.cell? ⟨b2, o2 + k * 4 + 1, none⟩ = some (.string sn) ∧ w'.cell? ⟨b2, o2 + k * 4 + 2, none⟩ = some (.int .i64 si) ∧ w'.cell? ⟨b2, o2 + k * 4 + 3, none⟩ = some (.slice qa' sa.length qc')) (first | exact HKF.out _ hk9 | exact HKF.out _ (by repeat (first | exact Kept.refl _ _ | refine Kept.drew ?_ | refine Kept.alloc ?_ _)))
          (first
            | (go_at_call 56; (refine Calls.mono (HIH.out d rfl S S' _ (.mk tk tn ti ta) (.mk sk sn si sa) (.slice qa ta.length qc) (.slice qa' sa.length qc') (by exact (TR.good d).kept HQ3.out ((Kept.refl [] wo).drew) (by simp)) (by exact (TR.good d).kept HQ6.out ((Kept.refl [] wo).drew) (by simp))) ?_; rintro e w2 ⟨r2, rfl, hr2, hk2⟩; have hk9 := Kept.trans (a := wo) ((Kept.refl [] wo).drew) hk2)))
        by_cases hr0 : r2 = 0
        · have hrb : (r2 != 0) = false := by simpa using hr0
          have HR0 := Lib.hid hr0
          clear hr0
          go_wp2
          go_roundw
          case rel =>
            have h0 := hat.out.next rfl HX.out HY.out hr2
            rw [HR0.out] at h0
            exact ⟨k + 1, by go_num, by omega, hkr.trans hk9, h0⟩
          case measure => simp [intOf]; omega
        · have hrb : (r2 != 0) = true := by simpa using hr0
          have hne2 := Lib.hid (hat.out.next rfl HX.out HY.out hr2)
          have HR0 := Lib.hid hr0
          clear hr0
          go_wp2
          go_ret
          exact ⟨_, rfl, hne2.out.done (.inl HR0.out), (hkW.trans hkr).trans hk9⟩
    · have hfin := Lib.hid (hat.out.done (.inr hlt))
      go_wp2
      go_ret
      exact ⟨_, rfl, hfin.out, hkW.trans hkr⟩

theorem refCompare : ∀ (d : Nat) (S S' : Nat → Prop) (w : World) (x y : Ty) (e e' : Value), TR d S w e x.args → TR d S' w e' y.args → Calls Tryz.prog 56 #[.agg #[.int .i64 x.kind, .string x.name, .int .i64 x.index, e], .agg #[.int .i64 y.kind, .string y.name, .int .i64 y.index, e']] w fun q w' => ∃ r : Int, q = .returned (.int .i64 r) ∧ IsCmp r x y ∧ Kept [] w w'
  | 0 => refCompareAt 0 (fun d' h => by omega)
  | d + 1 => refCompareAt (d + 1) (fun d' h => by obtain rfl : d = d' := by omega
                                                  exact refCompare d)

set_option maxRecDepth 100000 in
set_option maxHeartbeats 1600000 in
theorem termEqual (d : Nat) {S S' : Nat → Prop} (xk yk : Int) (xn yn : ByteArray) (xi yi : Int) (xa ya : List Ty) (e e' : Value) (w : World) (h : TR d S w e xa) (h' : TR d S' w e' ya) :
    Calls Tryz.prog 37 #[.agg #[.int .i64 xk, .string xn, .int .i64 xi, e], .agg #[.int .i64 yk, .string yn, .int .i64 yi, e']] w fun q w' => ∃ r : Bool, q = .returned (.bool r) ∧ (r = true ↔ Ty.mk xk xn xi xa = Ty.mk yk yn yi ya) ∧ Kept [] w w' := by
  obtain ⟨a1, c1, rfl, h1, h2, h3⟩ := h.form
  obtain ⟨a2, c2, rfl, g1, g2, g3⟩ := h'.form
  have H := Lib.hid h
  have H' := Lib.hid h'
  clear h h'
  go_enter Tryz.func37, Tryz.ntmps37
  go_wp2_with fail
  refine Calls.mono (refCompare d S S' _ (.mk xk xn xi xa) (.mk yk yn yi ya) (.slice a1 xa.length c1) (.slice a2 ya.length c2) (by exact (TR.good d).kept H.out (((Kept.refl [] w).alloc _).alloc _) (by simp)) (by exact (TR.good d).kept H'.out (((Kept.refl [] w).alloc _).alloc _) (by simp))) ?_
  rintro q w1 ⟨r, rfl, hr, hk⟩
  have HR := Lib.hid hr
  clear hr
  go_wp2
  go_ret
  exact ⟨_, rfl, by have h := ty_zero (.mk xk xn xi xa) (.mk yk yn yi ya); rw [← show r = _ from HR.out] at h; rw [← h]; simp, (((Kept.refl [] w).alloc _).alloc _).trans hk⟩
end Go.Proofs.YtkldomkooleecaaGreatDoor
