/- Walks over the cache: Lookup. -/
import Derived.Test.YtkldomkooleecaaDoorCacheC
import Derived.Test.YtkldomkooleecaaDoorTyCmp
namespace Go.Proofs.YtkldomkooleecaaDoor
open Go.RowKit

/-- The code answers a call. -/
def fits (m : Int) (t : Ty) (wd : Int) (x : Cp) : Prop := x.method = m ∧ x.frm ≤ wd ∧ (x.unt = 0 ∨ wd < x.unt) ∧ x.ty = t

def LacksFit (l : List Cp) (m : Int) (t : Ty) (wd : Int) (n : Nat) : Prop := ∀ (j : Nat) (y : Cp), j < n → l[j]? = some y → ¬ fits m t wd y
def FindsFit (l : List Cp) (m : Int) (t : Ty) (wd : Int) (k : Nat) (x : Cp) : Prop := l[k]? = some x ∧ fits m t wd x ∧ LacksFit l m t wd k
theorem LacksFit.next {l : List Cp} {m : Int} {t : Ty} {wd : Int} {n : Nat} {x : Cp} (h : LacksFit l m t wd n) (hx : l[n]? = some x) (hi : ¬ fits m t wd x) : LacksFit l m t wd (n + 1) := by
  intro j y hj hy
  rcases Nat.lt_or_eq_of_le (Nat.le_of_lt_succ hj) with h1 | rfl
  · exact h j y h1 hy
  · rw [hx] at hy; cases hy; exact hi
theorem noFit {m wd : Int} {t : Ty} {y : Cp} (h : ((y.method == m) = false ∨ ((y.method == m) = true ∧ decide (y.frm ≤ wd) = false) ∨ ((y.method == m) = true ∧ decide (y.frm ≤ wd) = true ∧ (y.unt == 0) = false ∧ decide (wd < y.unt) = false))) : ¬ fits m t wd y := by
  rintro ⟨h1, h2, h3, h4⟩
  rcases h with h | ⟨_, h⟩ | ⟨_, _, h, h'⟩
  · simp at h; exact h h1
  · simp at h; omega
  · simp at h h'; omega
theorem isFit {m wd : Int} {gk : Int} {gn : ByteArray} {gi : Int} {ga : List Ty} {xi xm tk : Int} {tn : ByteArray} {ti : Int} {ta : List Ty} {xf xu : Int} {xl : List Int} (h : (((xm == m) = true ∧ decide (xf ≤ wd) = true ∧ (xu == 0) = true) ∨ ((xm == m) = true ∧ decide (xf ≤ wd) = true ∧ (xu == 0) = false ∧ decide (wd < xu) = true))) :
    fits m (.mk gk gn gi ga) wd ⟨xi, xm, .mk tk tn ti ta, xf, xu, xl⟩ ↔ Ty.mk tk tn ti ta = Ty.mk gk gn gi ga := by
  constructor
  · exact fun h => h.2.2.2
  · intro e
    rcases h with ⟨h1, h2, h3⟩ | ⟨h1, h2, h3, h4⟩
    · exact ⟨by simpa using h1, by simpa using h2, .inl (by simpa using h3), e⟩
    · exact ⟨by simpa using h1, by simpa using h2, .inr (by simpa using h4), e⟩

set_option maxRecDepth 100000 in
set_option maxHeartbeats 6400000 in
theorem cacheLookup {F : Nat → Prop} (d : Nat) {S : Nat → Prop} (b base : Nat) (cap last : Int) (mp : Value) (l : List Cp) (m : Int) (gk : Int) (gn : ByteArray) (gi : Int) (ga : List Ty) (a0 : Option Addr) (c0 : Nat) (wd : Int) (w : World) (h : Cch F d w b base cap last mp l) (hg : TR d S w (.slice a0 ga.length c0) ga) :
    Calls Tryd.prog 12 #[.pointer (some ⟨b, 0, none⟩), .int .i64 m, .agg #[.int .i64 gk, .string gn, .int .i64 gi, .slice a0 ga.length c0], .int .i64 wd] w fun e w' => Kept [] w w' ∧
      ((∃ (k : Nat) (x : Cp) (a1 : Option Addr) (c1 : Nat) (a2 : Option Addr) (c2 : Nat), e = .returned (.tuple #[.agg (x.row (.tuple #[.slice a1 x.ty.args.length c1, .slice a2 x.inl.length c2])).toArray, .bool true]) ∧ FindsFit l m (.mk gk gn gi ga) wd k x ∧
          TR d (w.heap.size ≤ ·) w' (.slice a1 x.ty.args.length c1) x.ty.args ∧ Reads (w.heap.size ≤ ·) w' (.slice a2 x.inl.length c2) 1 (irows x.inl)) ∨
       (e = .returned (.tuple #[.agg zeroCode.toArray, .bool false]) ∧ LacksFit l m (.mk gk gn gi ga) wd l.length)) := by
  have hbs := h.lt
  obtain ⟨a, c, g1, g2, g3, g4, g5, g6, e0, e1, e2, e3, hb, hcg, h5⟩ := h.form
  have H5 := Lib.hid h5
  have HG := Lib.hid hg
  clear h hb hcg h5 e0 e1 e3 hg
  go_enter Tryd.func12, Tryd.ntmps12
  go_wp2
  obtain ⟨W0, hW0⟩ : ∃ W0 : World, W0 = (w.alloc (.cells #[.int .i64 gk, .string gn, .int .i64 gi, .slice a0 ga.length c0] 31)).alloc (.cells #[.int .i64 0, .int .i64 0, .int .i64 0, .string ⟨#[]⟩, .int .i64 0, .slice none 0 0, .int .i64 0, .int .i64 0, .int .i64 0, .int .i64 0, .slice none 0 0, .slice none 0 0, .slice none 0 0, .slice none 0 0] 43) := ⟨_, rfl⟩
  have HK0 : Kept [] w W0 := by rw [hW0]; exact ((Kept.refl [] w).alloc _).alloc _
  have HR0 : Hid (Blk W0 (w.heap.size + 1) [.int .i64 0, .int .i64 0, .int .i64 0, .string ⟨#[]⟩, .int .i64 0, .slice none 0 0, .int .i64 0, .int .i64 0, .int .i64 0, .int .i64 0, .slice none 0 0, .slice none 0 0, .slice none 0 0, .slice none 0 0] 43) := by rw [hW0]; exact halloc_new _ _ _ (by simp)
  have HY0 : Hid (Blk W0 w.heap.size [.int .i64 gk, .string gn, .int .i64 gi, .slice a0 ga.length c0] 31) := by rw [hW0]; exact Blk.old w _ _ _
  have sz0 : w.heap.size + 2 ≤ W0.heap.size := by rw [hW0]; simp
  rw [← hW0]
  clear hW0
  go_loopw [17] (fun q wr => ∃ k : Nat, k ≤ l.length ∧ q = .int .i64 k ∧ Kept [] W0 wr ∧ Hid (LacksFit l m (.mk gk gn gi ga) wd k)) (fun q _ => l.length - (intOf q).toNat)
  case atStart => exact ⟨0, Nat.zero_le _, rfl, Kept.refl _ _, fun j y hj => by omega⟩
  case round =>
    obtain ⟨k, hk, rfl, hkr, hno⟩ := hrel
    have hkw := HK0.trans hkr
    have HR1 := Lib.hid (HR0.out.kept hkr (by simp))
    have hy1 := HY0.out.kept hkr (by simp)
    have szr := hkr.size
    have sl0 : w.heap.size < wr.heap.size := by omega
    have sl1 : w.heap.size + 1 < wr.heap.size := by omega
    by_cases hlt : k < l.length
    · have hne : l ≠ [] := by rintro rfl; simp at hlt
      obtain ⟨b1, o1, rfl, hSb, hb1, hc1⟩ := H5.out.resolve_left hne
      obtain ⟨x, hx⟩ := getp l k hlt
      obtain ⟨a1, c1, a2, c2, hrx, ht, hi, hxl⟩ := hc1 k x hx
      have HX := Lib.hid hx
      have HRG := Lib.hid (hkw.range hrx (by simp))
      have HT := Lib.hid ((TR.good d).kept ht hkw (by simp))
      have HI := Lib.hid (hi.kept hkw (by simp))
      obtain ⟨⟨y0, y1, y2, y3⟩, _⟩ := hy1.four
      obtain ⟨xi, xm, ⟨tk, tn, ti, ta⟩, xf, xu, xl⟩ := x
      simp only [Cp.row, vfst_pair, vsnd_pair, Ty.kind, Ty.name, Ty.index, Ty.args] at HRG HT HI hxl ⊢
      obtain ⟨wo, hwo⟩ : ∃ wo : World, wo = wr := ⟨_, rfl⟩
      subst hwo
      have hcase : ((xm == m) = false ∨ ((xm == m) = true ∧ decide (xf ≤ wd) = false) ∨ ((xm == m) = true ∧ decide (xf ≤ wd) = true ∧ (xu == 0) = false ∧ decide (wd < xu) = false)) ∨ (((xm == m) = true ∧ decide (xf ≤ wd) = true ∧ (xu == 0) = true) ∨ ((xm == m) = true ∧ decide (xf ≤ wd) = true ∧ (xu == 0) = false ∧ decide (wd < xu) = true)) := by
        cases (xm == m) <;> cases decide (xf ≤ wd) <;> cases (xu == 0) <;> cases decide (wd < xu) <;> simp
      clear hrx hx hc1 hne H5 ht hi hy1
      rcases hcase with hcase | hcase
      · have HNF := Lib.hid (noFit (t := .mk gk gn gi ga) (y := ⟨xi, xm, .mk tk tn ti ta, xf, xu, xl⟩) hcase)
        rcases hcase with n1 | ⟨n1, n2⟩ | ⟨n1, n2, n3, n4⟩
        all_goals go_upto_region 4 with (first
          | (refine wpList_load_mid rfl 43 (.tmp 19) rfl b1 (o1 + k * 14) rfl [.int .i64 xi, .int .i64 xm, .int .i64 tk, .string tn, .int .i64 ti, .slice a1 ta.length c1, .int .i64 xf, .int .i64 xu, .int .i64 0, .int .i64 0, .slice none 0 0, .slice none 0 0, .slice none 0 0, .slice a2 xl.length c2] _ HRG.out Tryd.underlying43 rfl (by kernel_rfl) ?_)
          | (refine wpList_allocStore (.tmp 20) 43 rfl rfl rfl rfl rfl rfl _ [.int .i64 xi, .int .i64 xm, .int .i64 tk, .string tn, .int .i64 ti, .slice a1 ta.length c1, .int .i64 xf, .int .i64 xu, .int .i64 0, .int .i64 0, .slice none 0 0, .slice none 0 0, .slice none 0 0, .slice a2 xl.length c2] info_code rfl (fun _ => rfl) (fun _ => rfl) (by simp [Value.oneCell']) ?_))
        all_goals clear HR1 HT HI HRG
        all_goals go_wp2
        all_goals
          go_roundw
          case rel => exact ⟨k + 1, by omega, by go_num, hkr.alloc _, hno.out.next HX.out HNF.out⟩
          case measure => simp [intOf]; omega
      · have HFT := Lib.hid (isFit (gk := gk) (gn := gn) (gi := gi) (ga := ga) (xi := xi) (tk := tk) (tn := tn) (ti := ti) (ta := ta) (xl := xl) hcase)
        rcases hcase with ⟨n1, n2, n3⟩ | ⟨n1, n2, n3, n4⟩
        all_goals go_upto_region 4 with (first
          | (refine wpList_load_mid rfl 43 (.tmp 19) rfl b1 (o1 + k * 14) rfl [.int .i64 xi, .int .i64 xm, .int .i64 tk, .string tn, .int .i64 ti, .slice a1 ta.length c1, .int .i64 xf, .int .i64 xu, .int .i64 0, .int .i64 0, .slice none 0 0, .slice none 0 0, .slice none 0 0, .slice a2 xl.length c2] _ HRG.out Tryd.underlying43 rfl (by kernel_rfl) ?_)
          | (refine wpList_allocStore (.tmp 20) 43 rfl rfl rfl rfl rfl rfl _ [.int .i64 xi, .int .i64 xm, .int .i64 tk, .string tn, .int .i64 ti, .slice a1 ta.length c1, .int .i64 xf, .int .i64 xu, .int .i64 0, .int .i64 0, .slice none 0 0, .slice none 0 0, .slice none 0 0, .slice a2 xl.length c2] info_code rfl (fun _ => rfl) (fun _ => rfl) (by simp [Value.oneCell']) ?_))
        all_goals
          have HX1 := Lib.hid (Blk.new wo [.int .i64 xi, .int .i64 xm, .int .i64 tk, .string tn, .int .i64 ti, .slice a1 ta.length c1, .int .i64 xf, .int .i64 xu, .int .i64 0, .int .i64 0, .slice none 0 0, .slice none 0 0, .slice none 0 0, .slice a2 xl.length c2] 43)
          have hka : Kept [] wo (wo.alloc (.cells #[.int .i64 xi, .int .i64 xm, .int .i64 tk, .string tn, .int .i64 ti, .slice a1 ta.length c1, .int .i64 xf, .int .i64 xu, .int .i64 0, .int .i64 0, .slice none 0 0, .slice none 0 0, .slice none 0 0, .slice a2 xl.length c2] 43)) := (Kept.refl [] wo).alloc _
          have hkW := hkw.trans hka
          clear HRG
        all_goals go_wp2_with fail
        all_goals
          refine Calls.mono (tyEqual d (S := fun y => base ≤ y ∧ F y) (S' := S) tk gk tn gn ti gi ta ga (.slice a1 ta.length c1) (.slice a0 ga.length c0) _ (by exact (TR.good d).kept HT.out hka (by simp)) (by exact (TR.good d).kept HG.out hkW (by simp))) ?_
          rintro e w2 ⟨r, rfl, hr, hk2⟩
          have HX2 := Lib.hid (HX1.out.kept hk2 (by simp))
          have HR2 := Lib.hid ((HR1.out.kept hka (by simp)).kept hk2 (by simp))
          have HT2 := Lib.hid ((TR.good d).kept ((TR.good d).kept HT.out hka (by simp)) hk2 (by simp))
          have HI2 := Lib.hid ((HI.out.kept hka (by simp)).kept hk2 (by simp))
          have HRR := Lib.hid (hr.trans HFT.out.symm)
          have hk3 := hka.trans hk2
          clear hr HX1 HR1 HT HI HFT y0 y1 y2 y3
          cases r
          · go_wp2
            go_roundw
            case rel => exact ⟨k + 1, by omega, by go_num, hkr.trans hk3, hno.out.next HX.out (fun h => by have := HRR.out.2 h; cases this)⟩
            case measure => simp [intOf]; omega
          · obtain ⟨x0, x1, x2, x3, x4, x5, x6, x7, x8, x9, x10, x11, x12, x13⟩ := HX2.out.fourteen
            go_wp2_with fail
            refine Calls.mono (ownCompiled d (S := fun y => base ≤ y ∧ F y) xi xm tk tn ti xf xu ta xl (.slice a1 ta.length c1) (.slice a2 xl.length c2) _ (by exact HT2.out) (by exact HI2.out) hxl) ?_
            rintro e w4 ⟨qa, qb, rfl, hv3, hv4, hk4⟩
            obtain ⟨q1, p1, rfl, _⟩ := hv3.form
            obtain ⟨q2, p2, rfl, _⟩ := hv4.ints
            have hR4 := HR2.out.kept hk4 (by simp)
            clear x0 x1 x2 x3 x4 x5 x6 x7 x8 x9 x10 x11 x12 x13
            obtain ⟨r0, r1, r2, r3, r4, r5, r6, r7, r8, r9, r10, r11, r12, r13⟩ := hR4.fourteen
            obtain ⟨t0, t1, t2, t3, t4, t5, t6, t7, t8, t9, t10, t11, t12, t13⟩ := hR4.free14
            have HR4 := Lib.hid hR4
            have HV3 := Lib.hid hv3
            have HV4 := Lib.hid hv4
            have sz2 := hk3.size
            have sz4 := hk4.size
            clear hR4 hv3 hv4 HR2 HX2 HT2 HI2
            go_wp2
            have hkF := Kept.set14 w4 (w.heap.size + 1) (.int .i64 xi) (.int .i64 xm) (.int .i64 tk) (.string tn) (.int .i64 ti) (.slice q1 ta.length p1) (.int .i64 xf) (.int .i64 xu) (.int .i64 0) (.int .i64 0) (.slice none 0 0) (.slice none 0 0) (.slice none 0 0) (.slice q2 xl.length p2)
            refine bodyPost_ret (results_two rfl _ _ (w.heap.size + 1) 43 [.int .i64 xi, .int .i64 xm, .int .i64 tk, .string tn, .int .i64 ti, .slice q1 ta.length p1, .int .i64 xf, .int .i64 xu, .int .i64 0, .int .i64 0, .slice none 0 0, .slice none 0 0, .slice none 0 0, .slice q2 xl.length p2] _ (.bool true) rfl rfl (Blk.set14 HR4.out _ _ _ _ _ _ _ _ _ _ _ _ _ _) Tryd.underlying43 rfl (by kernel_rfl)) rfl ?_
            exact ⟨((hkw.trans hk3).trans hk4).trans' hkF (by simp), .inl ⟨k, ⟨xi, xm, .mk tk tn ti ta, xf, xu, xl⟩, q1, p1, q2, p2, rfl, ⟨HX.out, (by have := HRR.out; simpa using this), hno.out⟩, (TR.good d).mono ((TR.good d).kept HV3.out hkF (by simp; omega)) (fun b _ hb => by omega), (HV4.out.kept hkF (by simp; omega)).mono (fun b _ hb => by omega)⟩⟩
    · clear H5
      obtain ⟨r0, r1, r2, r3, r4, r5, r6, r7, r8, r9, r10, r11, r12, r13⟩ := HR1.out.fourteen
      obtain ⟨t0, t1, t2, t3, t4, t5, t6, t7, t8, t9, t10, t11, t12, t13⟩ := HR1.out.free14
      go_wp2
      have hkF := Kept.set14 wr (w.heap.size + 1) (.int .i64 0) (.int .i64 0) (.int .i64 0) (.string ⟨#[]⟩) (.int .i64 0) (.slice none 0 0) (.int .i64 0) (.int .i64 0) (.int .i64 0) (.int .i64 0) (.slice none 0 0) (.slice none 0 0) (.slice none 0 0) (.slice none 0 0)
      refine bodyPost_ret (results_two rfl _ _ (w.heap.size + 1) 43 zeroCode _ (.bool false) rfl rfl (Blk.set14 HR1.out _ _ _ _ _ _ _ _ _ _ _ _ _ _) Tryd.underlying43 rfl (by kernel_rfl)) rfl ?_
      refine ⟨hkw.trans' hkF (by simp), .inr ⟨rfl, ?_⟩⟩
      have := hno.out
      rw [show k = l.length by omega] at this
      exact this
end Go.Proofs.YtkldomkooleecaaDoor
