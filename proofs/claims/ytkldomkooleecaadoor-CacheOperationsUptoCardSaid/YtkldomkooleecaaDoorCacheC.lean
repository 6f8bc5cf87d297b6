/- Walks over the cache: Get, All. -/
import Derived.Test.YtkldomkooleecaaDoorCacheB
import Derived.Laws.ResultCell
namespace Go.Proofs.YtkldomkooleecaaDoor
open Go.RowKit

/-- Two results, the first a struct's variable. -/
theorem results_two {P : Program} {fn : Func} {p u : Tmp} {ty : TypeId} (h : fn.results = #[.cell p ty, .tmp u]) (tmps : Array Value) (w : World) (g : Nat) (t : TypeId) (cs : List Value) (d : TypeDesc) (z : Value)
    (hp : tmps.getD p undef = .pointer (some ⟨g, 0, none⟩)) (hz : tmps.getD u undef = z) (hb : Blk w g cs t) (hu : P.underlying ty = some d) (hd : (match d with | .struct _ | .array _ _ => true | _ => false) = true) (hi : (P.info? ty).map (·.size) = some cs.length) :
    (results fn tmps).run P w = .ok (.tuple #[.agg cs.toArray, z]) w := by
  rw [results_cell_tmp h, hp, hz]
  simp [asAddr, run_loadVar_row w g t ty cs.toArray (0, 0) d hb hu hd (by simpa using hi), Result.andThen]

theorem Blk.free14 {w : World} {b : Nat} {t : TypeId} {l : List Value} (h : Blk w b l t) :
    (w.frozen? ⟨b, 0, none⟩ = false ∧ w.frozen? ⟨b, 1, none⟩ = false ∧ w.frozen? ⟨b, 2, none⟩ = false ∧ w.frozen? ⟨b, 3, none⟩ = false ∧ w.frozen? ⟨b, 4, none⟩ = false ∧ w.frozen? ⟨b, 5, none⟩ = false ∧ w.frozen? ⟨b, 6, none⟩ = false ∧ w.frozen? ⟨b, 7, none⟩ = false ∧ w.frozen? ⟨b, 8, none⟩ = false ∧ w.frozen? ⟨b, 9, none⟩ = false ∧ w.frozen? ⟨b, 10, none⟩ = false ∧ w.frozen? ⟨b, 11, none⟩ = false ∧ w.frozen? ⟨b, 12, none⟩ = false ∧ w.frozen? ⟨b, 13, none⟩ = false) :=
  ⟨h.frozen 0, h.frozen 1, h.frozen 2, h.frozen 3, h.frozen 4, h.frozen 5, h.frozen 6, h.frozen 7, h.frozen 8, h.frozen 9, h.frozen 10, h.frozen 11, h.frozen 12, h.frozen 13⟩

def zeroCode : List Value := [.int .i64 0, .int .i64 0, .int .i64 0, .string ⟨#[]⟩, .int .i64 0, .slice none 0 0, .int .i64 0, .int .i64 0, .int .i64 0, .int .i64 0, .slice none 0 0, .slice none 0 0, .slice none 0 0, .slice none 0 0]

set_option maxRecDepth 100000 in
set_option maxHeartbeats 6400000 in
theorem cacheGet {F : Nat → Prop} (d : Nat) (b base : Nat) (cap last : Int) (mp : Value) (l : List Cp) (i : Int) (w : World) (h : Cch F d w b base cap last mp l) :
    Calls Tryd.prog 30 #[.pointer (some ⟨b, 0, none⟩), .int .i64 i] w fun e w' => Kept [] w w' ∧
      ((∃ (k : Nat) (x : Cp) (a1 : Option Addr) (c1 : Nat) (a2 : Option Addr) (c2 : Nat), e = .returned (.tuple #[.agg (x.row (.tuple #[.slice a1 x.ty.args.length c1, .slice a2 x.inl.length c2])).toArray, .bool true]) ∧ Finds l i k x ∧
          TR d (w.heap.size ≤ ·) w' (.slice a1 x.ty.args.length c1) x.ty.args ∧ Reads (w.heap.size ≤ ·) w' (.slice a2 x.inl.length c2) 1 (irows x.inl)) ∨
       (e = .returned (.tuple #[.agg zeroCode.toArray, .bool false]) ∧ Lacks l i l.length)) := by
  have H := Lib.hid h
  have hbs := h.lt
  obtain ⟨a, c, g1, g2, g3, g4, g5, g6, e0, e1, e2, e3, hb, hg, h5⟩ := h.form
  have H5 := Lib.hid h5
  clear h hb hg h5 e0 e1 e3
  go_enter Tryd.func30, Tryd.ntmps30
  go_wp2_with fail
  have HR0 := Lib.hid (Blk.new w zeroCode 43)
  refine Calls.mono (cacheIndex d b base cap last mp l i _ (by exact H.out.kept ((Kept.refl [] w).alloc _) (by simp))) ?_
  rintro e w1 ⟨hk1, hc⟩
  have HR1 := Lib.hid (HR0.out.kept hk1 (by simp))
  have hk1' : Kept [] w w1 := ((Kept.refl [] w).alloc _).trans hk1
  rcases hc with ⟨k, rfl, x, hfind⟩ | ⟨rfl, hno⟩
  · obtain ⟨hx, hid, hmin⟩ := hfind
    subst hid
    have hlt : k < l.length := (List.getElem?_eq_some_iff.1 hx).1
    have hne : l ≠ [] := by rintro rfl; simp at hlt
    obtain ⟨b1, o1, rfl, hSb, hb1, hc1⟩ := H5.out.resolve_left hne
    obtain ⟨a1, c1, a2, c2, hrx, ht, hi, hl⟩ := hc1 k x hx
    have HRG := Lib.hid (hk1'.range hrx (by simp))
    have HT := Lib.hid ((TR.good d).kept ht hk1' (by simp))
    have HI := Lib.hid (hi.kept hk1' (by simp))
    have HX := Lib.hid hx
    have HM := Lib.hid hmin
    have e2' := hk1'.cell' e2 (by simp)
    have hs1 := hk1'.size
    obtain ⟨xi, xm, ⟨tk, tn, ti, ta⟩, xf, xu, xl⟩ := x
    simp only [Cp.row, vfst_pair, vsnd_pair, Ty.kind, Ty.name, Ty.index, Ty.args] at HRG HT HI hl ⊢
    clear hrx ht hi hx hmin hc1 hne H5 e2 H
    obtain ⟨wo, hwo⟩ : ∃ wo : World, wo = w1 := ⟨_, rfl⟩
    subst hwo
    go_wp2_with (first
      | (refine wpList_load_mid rfl 43 (.tmp 18) rfl b1 (o1 + k * 14) rfl [.int .i64 xi, .int .i64 xm, .int .i64 tk, .string tn, .int .i64 ti, .slice a1 ta.length c1, .int .i64 xf, .int .i64 xu, .int .i64 0, .int .i64 0, .slice none 0 0, .slice none 0 0, .slice none 0 0, .slice a2 xl.length c2] _ HRG.out Tryd.underlying43 rfl (by kernel_rfl) ?_))
    refine Calls.mono (ownCompiled d (S := fun y => base ≤ y ∧ F y) xi xm tk tn ti xf xu ta xl (.slice a1 ta.length c1) (.slice a2 xl.length c2) _ (by exact HT.out) (by exact HI.out) hl) ?_
    rintro e w2 ⟨qa, qb, rfl, hv3, hv4, hk2⟩
    obtain ⟨q1, p1, rfl, _⟩ := hv3.form
    obtain ⟨q2, p2, rfl, _⟩ := hv4.ints
    have hR2 := HR1.out.kept hk2 (by simp)
    obtain ⟨r0, r1, r2, r3, r4, r5, r6, r7, r8, r9, r10, r11, r12, r13⟩ := hR2.fourteen
    obtain ⟨t0, t1, t2, t3, t4, t5, t6, t7, t8, t9, t10, t11, t12, t13⟩ := hR2.free14
    have HR2 := Lib.hid hR2
    have HV3 := Lib.hid hv3
    have HV4 := Lib.hid hv4
    have hs2 := hk2.size
    clear hR2 hv3 hv4
    go_wp2
    have hkF := Kept.set14 w2 w.heap.size (.int .i64 xi) (.int .i64 xm) (.int .i64 tk) (.string tn) (.int .i64 ti) (.slice q1 ta.length p1) (.int .i64 xf) (.int .i64 xu) (.int .i64 0) (.int .i64 0) (.slice none 0 0) (.slice none 0 0) (.slice none 0 0) (.slice q2 xl.length p2)
    have hs0 : w.heap.size < wo.heap.size := HR1.out.lt
    refine bodyPost_ret (results_two rfl _ _ w.heap.size 43 [.int .i64 xi, .int .i64 xm, .int .i64 tk, .string tn, .int .i64 ti, .slice q1 ta.length p1, .int .i64 xf, .int .i64 xu, .int .i64 0, .int .i64 0, .slice none 0 0, .slice none 0 0, .slice none 0 0, .slice q2 xl.length p2] _ (.bool true) rfl rfl (Blk.set14 HR2.out _ _ _ _ _ _ _ _ _ _ _ _ _ _) Tryd.underlying43 rfl (by kernel_rfl)) rfl ?_
    exact ⟨(hk1'.trans hk2).trans' hkF (by simp), .inl ⟨k, ⟨xi, xm, .mk tk tn ti ta, xf, xu, xl⟩, q1, p1, q2, p2, rfl, ⟨HX.out, rfl, HM.out⟩, (TR.good d).mono ((TR.good d).kept HV3.out hkF (by simp; omega)) (fun b _ hb => by omega), (HV4.out.kept hkF (by simp; omega)).mono (fun b _ hb => by omega)⟩⟩
  · have HNO := Lib.hid hno
    obtain ⟨r0, r1, r2, r3, r4, r5, r6, r7, r8, r9, r10, r11, r12, r13⟩ := (show Blk w1 w.heap.size [.int .i64 0, .int .i64 0, .int .i64 0, .string ⟨#[]⟩, .int .i64 0, .slice none 0 0, .int .i64 0, .int .i64 0, .int .i64 0, .int .i64 0, .slice none 0 0, .slice none 0 0, .slice none 0 0, .slice none 0 0] 43 from HR1.out).fourteen
    obtain ⟨t0, t1, t2, t3, t4, t5, t6, t7, t8, t9, t10, t11, t12, t13⟩ := HR1.out.free14
    clear hno H5
    go_wp2
    have hkF := Kept.set14 w1 w.heap.size (.int .i64 0) (.int .i64 0) (.int .i64 0) (.string ⟨#[]⟩) (.int .i64 0) (.slice none 0 0) (.int .i64 0) (.int .i64 0) (.int .i64 0) (.int .i64 0) (.slice none 0 0) (.slice none 0 0) (.slice none 0 0) (.slice none 0 0)
    refine bodyPost_ret (results_two rfl _ _ w.heap.size 43 zeroCode _ (.bool false) rfl rfl (Blk.set14 HR1.out _ _ _ _ _ _ _ _ _ _ _ _ _ _) Tryd.underlying43 rfl (by kernel_rfl)) rfl ?_
    exact ⟨hk1'.trans' hkF (by simp), .inr ⟨rfl, HNO.out⟩⟩
end Go.Proofs.YtkldomkooleecaaDoor
