/- Walks: deep copies of dependencies. -/
import Derived.Test.YtkldomkooleecaaGreatDoorDep
namespace Go.Proofs.YtkldomkooleecaaGreatDoor
open Go.RowKit

theorem Blk.five {w : World} {b : Nat} {t : TypeId} {x0 x1 x2 x3 x4 : Value} (h : Blk w b [x0, x1, x2, x3, x4] t) :
    (w.cell? ⟨b, 0, none⟩ = some x0 ∧ w.cell? ⟨b, 1, none⟩ = some x1 ∧ w.cell? ⟨b, 2, none⟩ = some x2 ∧ w.cell? ⟨b, 3, none⟩ = some x3 ∧ w.cell? ⟨b, 4, none⟩ = some x4) ∧
    w.frozen? ⟨b, 0, none⟩ = false ∧ w.frozen? ⟨b, 1, none⟩ = false ∧ w.frozen? ⟨b, 2, none⟩ = false ∧ w.frozen? ⟨b, 3, none⟩ = false ∧ w.frozen? ⟨b, 4, none⟩ = false :=
  ⟨⟨h.cell 0 _ rfl, h.cell 1 _ rfl, h.cell 2 _ rfl, h.cell 3 _ rfl, h.cell 4 _ rfl⟩, h.frozen 0, h.frozen 1, h.frozen 2, h.frozen 3, h.frozen 4⟩
theorem Blk.two {w : World} {b : Nat} {t : TypeId} {x0 x1 : Value} (h : Blk w b [x0, x1] t) :
    (w.cell? ⟨b, 0, none⟩ = some x0 ∧ w.cell? ⟨b, 1, none⟩ = some x1) ∧ w.frozen? ⟨b, 0, none⟩ = false ∧ w.frozen? ⟨b, 1, none⟩ = false :=
  ⟨⟨h.cell 0 _ rfl, h.cell 1 _ rfl⟩, h.frozen 0, h.frozen 1⟩
theorem Blk.seven {w : World} {b : Nat} {t : TypeId} {x0 x1 x2 x3 x4 x5 x6 : Value} (h : Blk w b [x0, x1, x2, x3, x4, x5, x6] t) :
    w.cell? ⟨b, 0, none⟩ = some x0 ∧ w.cell? ⟨b, 1, none⟩ = some x1 ∧ w.cell? ⟨b, 2, none⟩ = some x2 ∧ w.cell? ⟨b, 3, none⟩ = some x3 ∧ w.cell? ⟨b, 4, none⟩ = some x4 ∧ w.cell? ⟨b, 5, none⟩ = some x5 ∧ w.cell? ⟨b, 6, none⟩ = some x6 :=
  ⟨h.cell 0 _ rfl, h.cell 1 _ rfl, h.cell 2 _ rfl, h.cell 3 _ rfl, h.cell 4 _ rfl, h.cell 5 _ rfl, h.cell 6 _ rfl⟩

set_option maxRecDepth 100000 in
set_option maxHeartbeats 1600000 in
theorem ownQuery (d : Nat) {S : Nat → Prop} (fn : ByteArray) (xk : Int) (xn : ByteArray) (xi : Int) (xa : List Ty) (e : Value) (w : World) (h : TR d S w e xa) :
    Calls Tryz.prog 41 #[.agg #[.string fn, .int .i64 xk, .string xn, .int .i64 xi, e]] w fun q w' => ∃ e', q = .returned (.agg #[.string fn, .int .i64 xk, .string xn, .int .i64 xi, e']) ∧ TR d (w.heap.size ≤ ·) w' e' xa ∧ Kept [] w w' := by
  obtain ⟨a1, c1, rfl, h1, h2, h3⟩ := h.form
  have H := Lib.hid h
  clear h
  go_enter Tryz.func41, Tryz.ntmps41
  go_wp2_with (first
    | (go_at_call 58; refine Calls.mono (ownType d (ownTypes d) (.mk xk xn xi xa) (.slice a1 xa.length c1) _ (by exact (TR.good d).kept H.out (((Kept.refl [] w).alloc _).alloc _) (by simp))) ?_; rintro q w1 ⟨v1, rfl, hv1, hk1⟩; simp only [Ty.kind, Ty.name, Ty.index, Ty.args] at hv1 ⊢; obtain ⟨a2, c2, rfl, _, _, _⟩ := hv1.form; obtain ⟨⟨e0, e1, e2, e3, e4⟩, f0, f1, f2, f3, f4⟩ := ((Blk.old w [.string fn, .int .i64 xk, .string xn, .int .i64 xi, .slice a1 xa.length c1] 41 _).kept hk1 (by simp)).five; obtain ⟨⟨i0, i1, i2, i3, i4⟩, j0, j1, j2, j3, j4⟩ := ((Blk.new (w.alloc (.cells #[.string fn, .int .i64 xk, .string xn, .int .i64 xi, .slice a1 xa.length c1] 41)) [.string ⟨#[]⟩, .int .i64 0, .string ⟨#[]⟩, .int .i64 0, .slice none 0 0] 41).kept hk1 (by simp)).five; have hb2 := (Blk.new (w.alloc (.cells #[.string fn, .int .i64 xk, .string xn, .int .i64 xi, .slice a1 xa.length c1] 41)) [.string ⟨#[]⟩, .int .i64 0, .string ⟨#[]⟩, .int .i64 0, .slice none 0 0] 41).kept hk1 (by simp); have HB2 := Lib.hid hb2; clear hb2; simp only [World.size_alloc] at i0 i1 i2 i3 i4 j0 j1 j2 j3 j4; have HV1 := Lib.hid hv1; clear hv1))
  have hb2 := HB2.out
  simp only [World.size_alloc] at hb2
  have hs := hk1.size
  simp only [World.size_alloc] at hs
  have hkA : Kept [w.heap.size] w1 ((((w1.setCell ⟨w.heap.size, 1, none⟩ (.int .i64 xk)).setCell ⟨w.heap.size, 2, none⟩ (.string xn)).setCell ⟨w.heap.size, 3, none⟩ (.int .i64 xi)).setCell ⟨w.heap.size, 4, none⟩ (.slice a2 xa.length c2)) :=
    ((((Kept.refl _ w1).setCell (by simp) _).setCell (by simp) _).setCell (by simp) _).setCell (by simp) _
  have hb3 := hb2.kept hkA (by simp)
  refine bodyPost_ret (results_blk rfl _ _ (w.heap.size + 1) 41 [.string fn, .int .i64 xk, .string xn, .int .i64 xi, .slice a2 xa.length c2] _ rfl (((((hb3.set 0 (.string fn)).set 1 (.int .i64 xk)).set 2 (.string xn)).set 3 (.int .i64 xi)).set 4 (.slice a2 xa.length c2)) Tryz.underlying41 rfl (by kernel_rfl)) rfl ?_
  have hkF : Kept [w.heap.size, w.heap.size + 1] w1 ((((((((((w1.setCell ⟨w.heap.size, 1, none⟩ (.int .i64 xk)).setCell ⟨w.heap.size, 2, none⟩ (.string xn)).setCell ⟨w.heap.size, 3, none⟩ (.int .i64 xi)).setCell ⟨w.heap.size, 4, none⟩ (.slice a2 xa.length c2))).setCell ⟨w.heap.size + 1, 0, none⟩ (.string fn)).setCell ⟨w.heap.size + 1, 1, none⟩ (.int .i64 xk)).setCell ⟨w.heap.size + 1, 2, none⟩ (.string xn)).setCell ⟨w.heap.size + 1, 3, none⟩ (.int .i64 xi)).setCell ⟨w.heap.size + 1, 4, none⟩ (.slice a2 xa.length c2)) :=
    (((((hkA.mono (by simp)).setCell (by simp) _).setCell (by simp) _).setCell (by simp) _).setCell (by simp) _).setCell (by simp) _
  exact ⟨_, rfl, (TR.good d).mono ((TR.good d).kept HV1.out hkF (by simp; omega)) (fun b _ hb => by simp at hb; omega), ((((Kept.refl [] w).alloc _).alloc _).trans hk1).trans' hkF (by simp)⟩

set_option maxRecDepth 100000 in
set_option maxHeartbeats 1600000 in
theorem ownResolution {S : Nat → Prop} (k : Int) (l : List Int) (e : Value) (w : World) (h : Reads S w e 1 (irows l)) (hl : l.length ≤ 1000) :
    Calls Tryz.prog 42 #[.agg #[.int .i64 k, e]] w fun q w' => ∃ e', q = .returned (.agg #[.int .i64 k, e']) ∧ Reads (w.heap.size ≤ ·) w' e' 1 (irows l) ∧ Kept [] w w' := by
  have H := Lib.hid h
  obtain ⟨a1, c1, rfl, h1, h2, _⟩ := h.ints
  clear h
  go_enter Tryz.func42, Tryz.ntmps42
  go_wp2_with (first
    | (go_at_call 23; refine Calls.mono (ownInts _ l _ (by exact H.out.kept (((Kept.refl [] w).alloc _).alloc _) (by simp)) (by omega)) ?_; rintro q w1 ⟨v1, rfl, ho1, hk1⟩; have hv1 := ho1.rows'; obtain ⟨a2, c2, rfl, _, _, _⟩ := hv1.ints; obtain ⟨⟨e0, e1⟩, f0, f1⟩ := ((Blk.old w [.int .i64 k, .slice a1 l.length c1] 43 _).kept hk1 (by simp)).two; obtain ⟨⟨i0, i1⟩, j0, j1⟩ := ((Blk.new (w.alloc (.cells #[.int .i64 k, .slice a1 l.length c1] 43)) [.int .i64 0, .slice none 0 0] 43).kept hk1 (by simp)).two; have hb2 := (Blk.new (w.alloc (.cells #[.int .i64 k, .slice a1 l.length c1] 43)) [.int .i64 0, .slice none 0 0] 43).kept hk1 (by simp); have HB2 := Lib.hid hb2; clear hb2; simp only [World.size_alloc] at i0 i1 j0 j1; have HV1 := Lib.hid hv1; clear hv1 ho1))
  have hb2 := HB2.out
  simp only [World.size_alloc] at hb2
  have hs := hk1.size
  simp only [World.size_alloc] at hs
  refine bodyPost_ret (results_blk rfl _ _ (w.heap.size + 1) 43 [.int .i64 k, .slice a2 l.length c2] _ rfl (((hb2.far (p := ⟨w.heap.size, 1, none⟩) (by simp) (.slice a2 l.length c2)).set 0 (.int .i64 k)).set 1 (.slice a2 l.length c2)) Tryz.underlying43 rfl (by kernel_rfl)) rfl ?_
  have hkF : Kept [w.heap.size, w.heap.size + 1] w1 (((w1.setCell ⟨w.heap.size, 1, none⟩ (.slice a2 l.length c2)).setCell ⟨w.heap.size + 1, 0, none⟩ (.int .i64 k)).setCell ⟨w.heap.size + 1, 1, none⟩ (.slice a2 l.length c2)) :=
    (((Kept.refl _ w1).setCell (by simp) _).setCell (by simp) _).setCell (by simp) _
  exact ⟨_, rfl, (HV1.out.kept hkF (by simp; omega)).mono (fun b _ hb => by simp at hb; omega), ((((Kept.refl [] w).alloc _).alloc _).trans hk1).trans' hkF (by simp)⟩

theorem rows_lit {w : World} {b size : Nat} {t : TypeId} (rows : List (List Value)) (h : Blk w b rows.flatten t) (hr : ∀ r ∈ rows, r.length = size ∧ ∀ u ∈ r, u.oneCell' = true) (hl : rows.length ≤ 1000000) :
    Reads (fun _ => True) w (.slice (some ⟨b, 0, none⟩) rows.length rows.length) size rows := by
  refine ⟨hr, _, _, rfl, Nat.le_refl _, by unfold maxLen; omega, .inr ⟨b, 0, rfl, trivial, h.lt, fun k r hk j u hu => ?_⟩⟩
  rw [Nat.zero_add]
  exact h.cell _ _ (flatten_get (fun r hr' => (hr r hr').1) hk hu)

set_option maxRecDepth 100000 in
set_option maxHeartbeats 6400000 in
theorem ownDeps (d : Nat) {S : Nat → Prop} (v : Value) (l : List Dp) (w : World) (h : DL d S w v l) (hl : l.length ≤ 100000) :
    Calls Tryz.prog 36 #[v] w fun e w' => ∃ v', e = .returned v' ∧ Gr (fun S w e (x : Dp) => DR d S w e x) Dp.row 7 45 (w.heap.size ≤ ·) w.heap.size w' v' l ∧ Kept [] w w' := by
  obtain ⟨a, c, rfl, g1, g2, h5⟩ := h.form
  have H5 := Lib.hid h5
  clear h h5
  obtain ⟨i0, z0, hi, hz0, hz1, hz2, hz3⟩ := info_dep
  go_enter Tryz.func36, Tryz.ntmps36
  go_wp2
  go_loopw [3, 8] (fun v q wr => ∃ k : Nat, k ≤ l.length ∧ q = .int .i64 k ∧ Kept [] w wr ∧ Hid (Gr (fun S w e (x : Dp) => DR d S w e x) Dp.row 7 45 (w.heap.size ≤ ·) w.heap.size wr v (l.take k))) (fun _ q _ => l.length - (intOf q).toNat)
  case atStart => exact ⟨0, Nat.zero_le _, rfl, Kept.refl _ _, Gr.nil _ _ _⟩
  case round =>
    obtain ⟨k, hk, rfl, hkr, hgr⟩ := hrel
    by_cases hlt : k < l.length
    · have hne : l ≠ [] := by rintro rfl; simp at hlt
      obtain ⟨b1, o1, rfl, hSb, hb1, hc1⟩ := H5.out.resolve_left hne
      obtain ⟨x, hx⟩ := getp l k hlt
      obtain ⟨a1, c1, a2, c2, hrx, ht, hI, hxl⟩ := hc1 k x hx
      have HX := Lib.hid hx
      have HRG := Lib.hid (hkr.range hrx (by simp))
      have HT := Lib.hid ((TR.good d).kept ht hkr (by simp))
      have HI := Lib.hid (hI.kept hkr (by simp))
      obtain ⟨es, n1, n2, n3⟩ := hgr.out
      have N3 := Lib.hid n3
      obtain ⟨xf, ⟨tk, tn, ti, ta⟩, xk, xl⟩ := x
      simp only [Dp.row, vfst_pair, vsnd_pair, Ty.kind, Ty.name, Ty.index, Ty.args] at HRG HT HI hxl ⊢
      obtain ⟨wo, hwo⟩ : ∃ wo : World, wo = wr := ⟨_, rfl⟩
      subst hwo
      have hlen : (List.zipWith Dp.row (l.take k) es).length = k := by rw [zip_len n1]; simp; omega
      have n2lt := Lib.hid n2.lt
      have N2 := Lib.hid n2
      have N1 := Lib.hid n1
      clear hrx hx hc1 hne H5 n1 n2 n3 ht hI
      go_upto_region 5 with (first
        | (refine wpList_load_mid rfl 45 (.tmp 10) rfl b1 (o1 + k * 7) rfl [.string xf, .int .i64 tk, .string tn, .int .i64 ti, .slice a1 ta.length c1, .int .i64 xk, .slice a2 xl.length c2] _ HRG.out Tryz.underlying45 rfl (by kernel_rfl) ?_)
        | (refine wpList_allocStore (.tmp 11) 45 rfl rfl rfl rfl rfl rfl _ [.string xf, .int .i64 tk, .string tn, .int .i64 ti, .slice a1 ta.length c1, .int .i64 xk, .slice a2 xl.length c2] info_dep2 rfl (fun _ => rfl) (fun _ => rfl) (by simp [Value.oneCell']) ?_))
      obtain ⟨A, hA⟩ : ∃ A, A = wo.heap.size := ⟨_, rfl⟩
      obtain ⟨wb, hwb⟩ : ∃ wb : World, wb = wo.alloc (.cells (List.toArray [.string xf, .int .i64 tk, .string tn, .int .i64 ti, .slice a1 ta.length c1, .int .i64 xk, .slice a2 xl.length c2]) 45) := ⟨_, rfl⟩
      have hkb : Kept [] wo wb := by rw [hwb]; exact (Kept.refl [] wo).alloc _
      have HB : Hid (Blk wb A [.string xf, .int .i64 tk, .string tn, .int .i64 ti, .slice a1 ta.length c1, .int .i64 xk, .slice a2 xl.length c2] 45) := by rw [hwb, hA]; exact Blk.new wo _ _
      have HT1 := Lib.hid ((TR.good d).kept HT.out hkb (by simp))
      have HI1 := Lib.hid (HI.out.kept hkb (by simp))
      have HAW : Hid (w.heap.size ≤ A) := by rw [hA]; exact hkr.size
      have HN2 := Lib.hid (N2.out.kept hkb (by simp))
      have HLA : Hid (∀ x, u3.ownBlock = some x → w.heap.size ≤ x ∧ x < A) := by rw [hA]; exact n2lt.out
      rw [← hA, ← hwb]
      have hAwb : A < wb.heap.size := HB.out.lt
      clear hwb HRG HT HI n2lt hA
      have HKF : Hid (∀ M w', Kept M wb w' → A ∉ M → w'.cell? ⟨A, 0, none⟩ = some (.string xf) ∧ w'.cell? ⟨A, 1, none⟩ = some (.int .i64 tk) ∧ w'.cell? ⟨A, 2, none⟩ = some (.string tn) ∧ w'.cell? ⟨A, 3, none⟩ = some (.int .i64 ti) ∧ w'.cell? ⟨A, 4, none⟩ = some (.slice a1 ta.length c1) ∧ w'.cell? ⟨A, 5, none⟩ = some (.int .i64 xk) ∧ w'.cell? ⟨A, 6, none⟩ = some (.slice a2 xl.length c2)) := Lib.hid (fun M w' hk hn => (HB.out.kept hk hn).seven)
      have HQ : Hid (∀ W, Kept [] wb W → Calls Tryz.prog 41 #[.agg #[.string xf, .int .i64 tk, .string tn, .int .i64 ti, .slice a1 ta.length c1]] W fun q w' => ∃ (qa : Option Addr) (qc : Nat), q = .returned (.agg #[.string xf, .int .i64 tk, .string tn, .int .i64 ti, .slice qa ta.length qc]) ∧ TR d (A < ·) w' (.slice qa ta.length qc) ta ∧ Kept [] W w' ∧ Kept [] wb w') := Lib.hid (fun W hW => by
        refine (ownQuery d xf tk tn ti ta (.slice a1 ta.length c1) W ((TR.good d).kept HT1.out hW (by simp))).mono ?_
        rintro q w' ⟨e', rfl, ht, hk⟩
        obtain ⟨qa, qc, rfl, _⟩ := ht.form
        exact ⟨qa, qc, rfl, (TR.good d).mono ht (fun y _ hy => by have := hW.size; omega), hk, hW.trans hk⟩)
      have HR : Hid (∀ W, Kept [] wb W → Calls Tryz.prog 42 #[.agg #[.int .i64 xk, .slice a2 xl.length c2]] W fun q w' => ∃ (qa : Option Addr) (qc : Nat), q = .returned (.agg #[.int .i64 xk, .slice qa xl.length qc]) ∧ Reads (A < ·) w' (.slice qa xl.length qc) 1 (irows xl) ∧ Kept [] W w' ∧ Kept [] wb w') := Lib.hid (fun W hW => by
        refine (ownResolution xk xl (.slice a2 xl.length c2) W (HI1.out.kept hW (by simp)) hxl).mono ?_
        rintro q w' ⟨e', rfl, ht, hk⟩
        obtain ⟨qa, qc, rfl, _⟩ := ht.ints
        exact ⟨qa, qc, rfl, ht.mono (fun y _ hy => by have := hW.size; omega), hk, hW.trans hk⟩)
      go_region_held3 (fun w' => w'.cell? ⟨A, 0, none⟩ = some (.string xf) ∧ w'.cell? ⟨A, 1, none⟩ = some (.int .i64 tk) ∧ w'.cell? ⟨A, 2, none⟩ = some (.string tn) ∧ w'.cell? ⟨A, 3, none⟩ = some (.int .i64 ti) ∧ w'.cell? ⟨A, 4, none⟩ = some (.slice a1 ta.length c1) ∧ w'.cell? ⟨A, 5, none⟩ = some (.int .i64 xk) ∧ w'.cell? ⟨A, 6, none⟩ = some (.slice a2 xl.length c2))
        (first | with_reducible exact HKF.out _ _ hk10 hn10 | with_reducible exact HKF.out _ _ hk9 List.not_mem_nil | with_reducible exact HKF.out _ _ (hk9.alloc _) List.not_mem_nil | with_reducible exact HKF.out _ _ ((Kept.refl [] wb).drew) List.not_mem_nil)
        (first
          | (go_at_call 41; (refine Calls.mono (HQ.out _ (by first | exact hk9 | exact (Kept.refl [] wb).drew)) ?_; rintro q w3 ⟨qa, qc, rfl, hqt, hqk, hk9⟩; have HQT := Lib.hid hqt; (try (have HRS := Lib.hid (HRS.out.kept hqk (by simp)))); clear hqt))
          | (go_at_call 42; (refine Calls.mono (HR.out _ (by first | exact hk9 | exact (Kept.refl [] wb).drew)) ?_; rintro q w3 ⟨ra, rc, rfl, hqt, hqk, hk9⟩; have HRS := Lib.hid hqt; (try (have HQT := Lib.hid ((TR.good d).kept HQT.out hqk (by simp)))); clear hqt))
          | (refine step_append_rows rfl (.tmp 12) (.tmp 20) 33 45 rfl i0 z0 7 104 Tryz.underlying33 hi hz0 hz1 hz2 hz3 (by decide) w.heap.size u3 (List.zipWith Dp.row (l.take k) es) [[.string xf, .int .i64 tk, .string tn, .int .i64 ti, .slice qa ta.length qc, .int .i64 xk, .slice ra xl.length rc]] rfl (HN2.out.kept (hk9.alloc _) (by simp)) (fun _ => True) (.slice (some ⟨w3.heap.size, 0, none⟩) 1 1) rfl (rows_lit [[.string xf, .int .i64 tk, .string tn, .int .i64 ti, .slice qa ta.length qc, .int .i64 xk, .slice ra xl.length rc]] (halloc_new _ _ _ rfl) (by simp [Value.oneCell']) (by simp)) (by rw [hlen]; simp; omega) (by rw [hlen]; simp; omega) (by have := hk9.size; have := HAW.out; simp; omega) ?_; intro v5 w5 ho5 hk5 hl5; have hk10 := (hk9.nil.alloc _).trans (hk5 u3.ownBlock.toList (by intro y hy; simp [hy])); have hn10 : A ∉ u3.ownBlock.toList := (fun hy => by have := (HLA.out A (by simpa using hy)).2; omega); have HO5 := Lib.hid ho5; have HK5 := Lib.hid hk5; have HL5 := Lib.hid hl5; clear ho5 hk5 hl5))
      all_goals
        go_wp2
        go_roundw
        case rel =>
          have hkx := hkb.trans (hk9.alloc (.cells (List.toArray [.string xf, .int .i64 tk, .string tn, .int .i64 ti, .slice qa ta.length qc, .int .i64 xk, .slice ra xl.length rc]) 45))
          have hka : Kept [] w3 (w3.alloc (.cells (List.toArray [.string xf, .int .i64 tk, .string tn, .int .i64 ti, .slice qa ta.length qc, .int .i64 xk, .slice ra xl.length rc]) 45)) := (Kept.refl [] _).alloc _
          have hla := HLA.out
          have haw := HAW.out
          refine ⟨k + 1, by omega, by go_num, (hkr.trans hkb).trans' hk10 (fun x hx => .inr (hla x (by simpa using hx)).1), ?_⟩
          rw [Hid, List.take_add_one, HX.out]
          exact Gr.snoc (x := ⟨xf, .mk tk tn ti ta, xk, xl⟩) (e := .tuple #[.slice qa ta.length qc, .slice ra xl.length rc]) (DR.good d) N1.out (fun i x e hx he => (DR.good d).kept (N3.out i x e hx he) hkx (by simp))
            ⟨_, _, rfl, (TR.good d).mono ((TR.good d).kept HQT.out hka (by simp)) (fun b _ hb => ⟨by omega, fun e => by have := (hla b e).2; omega⟩), (HRS.out.kept hka (by simp)).mono (fun b _ hb => ⟨by omega, fun e => by have := (hla b e).2; omega⟩), hxl⟩ HO5.out HK5.out HL5.out
        case measure => simp [intOf]; omega
    · go_wp2
      go_ret
      have hfin := hgr.out
      rw [show k = l.length by omega, List.take_length] at hfin
      exact ⟨_, rfl, hfin, hkr⟩
end Go.Proofs.YtkldomkooleecaaGreatDoor
