/- Compiled codes as data, and their deep copies. -/
import Derived.Test.YtkldomkooleecaaDoorOwnC
namespace Go.Proofs.YtkldomkooleecaaDoor
open Go.RowKit

/-- A compiled code without instructions. -/
structure Cp where
  id : Int
  method : Int
  ty : Ty
  frm : Int
  unt : Int
  inl : List Int
def vfst : Value → Value | .tuple xs => xs.getD 0 undef | v => v
def vsnd : Value → Value | .tuple xs => xs.getD 1 undef | v => v
def Cp.row (x : Cp) (e : Value) : List Value := [.int .i64 x.id, .int .i64 x.method, .int .i64 x.ty.kind, .string x.ty.name, .int .i64 x.ty.index, vfst e, .int .i64 x.frm, .int .i64 x.unt, .int .i64 0, .int .i64 0, .slice none 0 0, .slice none 0 0, .slice none 0 0, vsnd e]
/-- What its two slices lead to. -/
def CR (d : Nat) (S : Nat → Prop) (w : World) (e : Value) (x : Cp) : Prop := ∃ a b, e = .tuple #[a, b] ∧ TR d S w a x.ty.args ∧ Reads S w b 1 (irows x.inl) ∧ x.inl.length ≤ 1000
theorem CR.good (d : Nat) : Good (fun S w e (x : Cp) => CR d S w e x) :=
  ⟨fun ⟨a, b, e, h1, h2, h3⟩ k hn => ⟨a, b, e, (TR.good d).kept h1 k hn, h2.kept k hn, h3⟩, fun ⟨a, b, e, h1, h2, h3⟩ hs => ⟨a, b, e, (TR.good d).mono h1 hs, h2.mono hs, h3⟩⟩

theorem Blk.fourteen {w : World} {b : Nat} {t : TypeId} {x0 x1 x2 x3 x4 x5 x6 x7 x8 x9 x10 x11 x12 x13 : Value} (h : Blk w b [x0, x1, x2, x3, x4, x5, x6, x7, x8, x9, x10, x11, x12, x13] t) :
    (w.cell? ⟨b, 0, none⟩ = some x0 ∧ w.cell? ⟨b, 1, none⟩ = some x1 ∧ w.cell? ⟨b, 2, none⟩ = some x2 ∧ w.cell? ⟨b, 3, none⟩ = some x3 ∧ w.cell? ⟨b, 4, none⟩ = some x4 ∧ w.cell? ⟨b, 5, none⟩ = some x5 ∧ w.cell? ⟨b, 6, none⟩ = some x6 ∧ w.cell? ⟨b, 7, none⟩ = some x7 ∧ w.cell? ⟨b, 8, none⟩ = some x8 ∧ w.cell? ⟨b, 9, none⟩ = some x9 ∧ w.cell? ⟨b, 10, none⟩ = some x10 ∧ w.cell? ⟨b, 11, none⟩ = some x11 ∧ w.cell? ⟨b, 12, none⟩ = some x12 ∧ w.cell? ⟨b, 13, none⟩ = some x13) :=
  ⟨h.cell 0 _ rfl, h.cell 1 _ rfl, h.cell 2 _ rfl, h.cell 3 _ rfl, h.cell 4 _ rfl, h.cell 5 _ rfl, h.cell 6 _ rfl, h.cell 7 _ rfl, h.cell 8 _ rfl, h.cell 9 _ rfl, h.cell 10 _ rfl, h.cell 11 _ rfl, h.cell 12 _ rfl, h.cell 13 _ rfl⟩

set_option maxRecDepth 100000 in
set_option maxHeartbeats 3200000 in
theorem ownCompiled (d : Nat) {S : Nat → Prop} (xi xm tk : Int) (tn : ByteArray) (ti xf xu : Int) (ta : List Ty) (xl : List Int) (a b : Value) (w : World) (h1 : TR d S w a ta) (h2 : Reads S w b 1 (irows xl)) (h3 : xl.length ≤ 1000) :
    Calls Tryd.prog 22 #[.agg #[.int .i64 xi, .int .i64 xm, .int .i64 tk, .string tn, .int .i64 ti, a, .int .i64 xf, .int .i64 xu, .int .i64 0, .int .i64 0, .slice none 0 0, .slice none 0 0, .slice none 0 0, b]] w fun q w' => ∃ a' b', q = .returned (.agg #[.int .i64 xi, .int .i64 xm, .int .i64 tk, .string tn, .int .i64 ti, a', .int .i64 xf, .int .i64 xu, .int .i64 0, .int .i64 0, .slice none 0 0, .slice none 0 0, .slice none 0 0, b']) ∧
      TR d (w.heap.size ≤ ·) w' a' ta ∧ Reads (w.heap.size ≤ ·) w' b' 1 (irows xl) ∧ Kept [] w w' := by
  obtain ⟨a1, c1, rfl, _, _, _⟩ := h1.form
  obtain ⟨a2, c2, rfl, _, _, _⟩ := h2.ints
  have H1 := Lib.hid h1
  have H2 := Lib.hid h2
  clear h1 h2
  go_enter Tryd.func22, Tryd.ntmps22
  go_wp2_with fail
  refine Calls.mono (ownType d (ownTypes d) (.mk tk tn ti ta) (.slice a1 ta.length c1) _ (by exact (TR.good d).kept H1.out (((Kept.refl [] w).alloc _).alloc _) (by simp))) ?_
  rintro q w1 ⟨e1, rfl, ht1, hk1⟩
  simp only [Ty.kind, Ty.name, Ty.index, Ty.args] at ht1 ⊢
  obtain ⟨b1, k1, rfl, _⟩ := ht1.form
  have hB := (Blk.old w [.int .i64 xi, .int .i64 xm, .int .i64 tk, .string tn, .int .i64 ti, .slice a1 ta.length c1, .int .i64 xf, .int .i64 xu, .int .i64 0, .int .i64 0, .slice none 0 0, .slice none 0 0, .slice none 0 0, .slice a2 xl.length c2] 43 _).kept hk1 (by simp)
  have hC0 : Blk ((w.alloc (.cells #[.int .i64 xi, .int .i64 xm, .int .i64 tk, .string tn, .int .i64 ti, .slice a1 ta.length c1, .int .i64 xf, .int .i64 xu, .int .i64 0, .int .i64 0, .slice none 0 0, .slice none 0 0, .slice none 0 0, .slice a2 xl.length c2] 43)).alloc (.cells #[.int .i64 0, .int .i64 0, .int .i64 0, .string ⟨#[]⟩, .int .i64 0, .slice none 0 0, .int .i64 0, .int .i64 0, .int .i64 0, .int .i64 0, .slice none 0 0, .slice none 0 0, .slice none 0 0, .slice none 0 0] 43)) (w.heap.size + 1) [.int .i64 0, .int .i64 0, .int .i64 0, .string ⟨#[]⟩, .int .i64 0, .slice none 0 0, .int .i64 0, .int .i64 0, .int .i64 0, .int .i64 0, .slice none 0 0, .slice none 0 0, .slice none 0 0, .slice none 0 0] 43 := halloc_new _ _ _ (by simp)
  have hC := hC0.kept hk1 (by simp)
  have hs1 := hk1.size
  simp only [World.size_alloc] at hs1
  obtain ⟨p0, p1, p2, p3, p4, p5, p6, p7, p8, p9, p10, p11, p12, p13⟩ := hB.fourteen
  have f2 := hB.frozen 2
  have f3 := hB.frozen 3
  have f4 := hB.frozen 4
  have f5 := hB.frozen 5
  have HB := Lib.hid hB
  have HC := Lib.hid hC
  have HT := Lib.hid ht1
  clear hB hC hC0 ht1
  go_wp2_with fail
  have hB1 := (((HB.out.set 2 (.int .i64 tk)).set 3 (.string tn)).set 4 (.int .i64 ti)).set 5 (.slice b1 ta.length k1)
  have hkB1 : Kept [w.heap.size] w1 ((((w1.setCell ⟨w.heap.size, 2, none⟩ (.int .i64 tk)).setCell ⟨w.heap.size, 3, none⟩ (.string tn)).setCell ⟨w.heap.size, 4, none⟩ (.int .i64 ti)).setCell ⟨w.heap.size, 5, none⟩ (.slice b1 ta.length k1)) :=
    ((((Kept.refl _ w1).setCell (by simp) _).setCell (by simp) _).setCell (by simp) _).setCell (by simp) _
  have hC1 := HC.out.kept hkB1 (by simp)
  have hT1 := (TR.good d).kept HT.out hkB1 (by simp; omega)
  have HB1 := Lib.hid hB1
  have HC1 := Lib.hid hC1
  have HT1 := Lib.hid hT1
  have hkw1 : Kept [] w _ := (((((Kept.refl [] w).alloc _).alloc _).trans hk1).trans' hkB1 (by simp))
  clear hB1 hC1 hT1 p0 p1 p2 p3 p4 p5 p6 p7 p8 p9 p10 p11 p12 p13 f2 f3 f4 f5 HB HC HT
  refine Calls.mono (ownCode_nil 0 0 _) ?_
  rintro q w2 ⟨rfl, hk2⟩
  have hB2 := HB1.out.kept hk2 (by simp)
  have hC2 := HC1.out.kept hk2 (by simp)
  have hT2 := (TR.good d).kept HT1.out hk2 (by simp)
  have hs2 := hk2.size
  simp only [World.size_setCell] at hs2
  obtain ⟨p0, p1, p2, p3, p4, p5, p6, p7, p8, p9, p10, p11, p12, p13⟩ := hB2.fourteen
  have f8 := hB2.frozen 8
  have f9 := hB2.frozen 9
  have f10 := hB2.frozen 10
  have f11 := hB2.frozen 11
  have HB2 := Lib.hid hB2
  have HC2 := Lib.hid hC2
  have HT2 := Lib.hid hT2
  have hkw2 := hkw1.trans hk2
  clear hB2 hC2 hT2 HB1 HC1 HT1
  go_wp2_with fail
  have hB3 := (((HB2.out.set 8 (.int .i64 0)).set 9 (.int .i64 0)).set 10 (.slice none 0 0)).set 11 (.slice none 0 0)
  have hkB3 : Kept [w.heap.size] w2 ((((w2.setCell ⟨w.heap.size, 8, none⟩ (.int .i64 0)).setCell ⟨w.heap.size, 9, none⟩ (.int .i64 0)).setCell ⟨w.heap.size, 10, none⟩ (.slice none 0 0)).setCell ⟨w.heap.size, 11, none⟩ (.slice none 0 0)) :=
    ((((Kept.refl _ w2).setCell (by simp) _).setCell (by simp) _).setCell (by simp) _).setCell (by simp) _
  have hC3 := HC2.out.kept hkB3 (by simp)
  have hT3 := (TR.good d).kept HT2.out hkB3 (by simp; omega)
  have hkw3 := hkw2.trans' hkB3 (by simp)
  refine Calls.mono (ownDeps_nil none 0 _) ?_
  rintro q w3 ⟨rfl, hw3⟩
  have hB4 := hB3.set 12 (.slice none 0 0)
  subst hw3
  clear p0 p1 p2 p3 p4 p5 p6 p7 p8 p9 p10 p11 p12 p13 f8 f9 f10 f11
  obtain ⟨p0, p1, p2, p3, p4, p5, p6, p7, p8, p9, p10, p11, p12, p13⟩ := hB3.fourteen
  have f12 := hB3.frozen 12
  obtain ⟨w3, hw3⟩ : ∃ w3 : World, w3 = ((((w2.setCell ⟨w.heap.size, 8, none⟩ (.int .i64 0)).setCell ⟨w.heap.size, 9, none⟩ (.int .i64 0)).setCell ⟨w.heap.size, 10, none⟩ (.slice none 0 0)).setCell ⟨w.heap.size, 11, none⟩ (.slice none 0 0)) := ⟨_, rfl⟩
  have hs3 : w3.heap.size = w2.heap.size := by rw [hw3]; simp
  have hs3' : w.heap.size + 1 < w3.heap.size := by omega
  rw [← hw3] at p0 p1 p2 p3 p4 p5 p6 p7 p8 p9 p10 p11 p12 p13 f12 hB3 hB4 hC3 hT3 hkw3 ⊢
  have HB3 := Lib.hid hB3
  have HC3 := Lib.hid hC3
  have HT3 := Lib.hid hT3
  clear hB3 hC3 hT3 hB4 hkB3 hw3 hs3 hkw2 hkw1
  go_wp2_with fail
  have hkB4 : Kept [w.heap.size] w3 (w3.setCell ⟨w.heap.size, 12, none⟩ (.slice none 0 0)) := (Kept.refl _ w3).setCell (by simp) _
  have hB4 := HB3.out.set 12 (.slice none 0 0)
  have hC4 := HC3.out.kept hkB4 (by simp)
  have hT4 := (TR.good d).kept HT3.out hkB4 (by simp; omega)
  have hkw4 := hkw3.trans' hkB4 (by simp)
  refine Calls.mono (ownInts (S := S) (.slice a2 xl.length c2) xl _ ((H2.out.kept hkw4 (by simp))) (by omega)) ?_
  rintro q w5 ⟨v5, rfl, ho5, hk5⟩
  obtain ⟨v4, k4, rfl, _⟩ := ho5.rows'.ints
  have hB5 := hB4.kept hk5 (by simp)
  have hC5 := hC4.kept hk5 (by simp)
  have hT5 := (TR.good d).kept hT4 hk5 (by simp)
  have hkw5 := hkw4.trans hk5
  have hs5 := hk5.size
  simp only [World.size_setCell] at hs5
  have hs5' : w.heap.size + 1 < w5.heap.size := by omega
  clear p0 p1 p2 p3 p4 p5 p6 p7 p8 p9 p10 p11 p12 p13 f12
  obtain ⟨p0, p1, p2, p3, p4, p5, p6, p7, p8, p9, p10, p11, p12, p13⟩ := hB5.fourteen
  have f13 := hB5.frozen 13
  obtain ⟨r0, r1, r2, r3, r4, r5, r6, r7, r8, r9, r10, r11, r12, r13⟩ := hC5.fourteen
  have g0 := hC5.frozen 0
  have g1 := hC5.frozen 1
  have g2 := hC5.frozen 2
  have g3 := hC5.frozen 3
  have g4 := hC5.frozen 4
  have g5 := hC5.frozen 5
  have g6 := hC5.frozen 6
  have g7 := hC5.frozen 7
  have g8 := hC5.frozen 8
  have g9 := hC5.frozen 9
  have g10 := hC5.frozen 10
  have g11 := hC5.frozen 11
  have g12 := hC5.frozen 12
  have g13 := hC5.frozen 13
  have HC5 := Lib.hid hC5
  have HT5 := Lib.hid hT5
  have HO5 := Lib.hid ho5
  clear hB4 hC4 hT4 hB5 hC5 hT5 ho5 HB3 HC3 HT3
  go_wp2
  refine bodyPost_ret (results_blk rfl _ _ (w.heap.size + 1) 43 [.int .i64 xi, .int .i64 xm, .int .i64 tk, .string tn, .int .i64 ti, .slice b1 ta.length k1, .int .i64 xf, .int .i64 xu, .int .i64 0, .int .i64 0, .slice none 0 0, .slice none 0 0, .slice none 0 0, .slice v4 xl.length k4] _ rfl (((((((((((((((HC5.out.far (p := ⟨w.heap.size, 13, none⟩) (by simp) (.slice v4 xl.length k4)).set 0 (.int .i64 xi)).set 1 (.int .i64 xm)).set 2 (.int .i64 tk)).set 3 (.string tn)).set 4 (.int .i64 ti)).set 5 (.slice b1 ta.length k1)).set 6 (.int .i64 xf)).set 7 (.int .i64 xu)).set 8 (.int .i64 0)).set 9 (.int .i64 0)).set 10 (.slice none 0 0)).set 11 (.slice none 0 0)).set 12 (.slice none 0 0)).set 13 (.slice v4 xl.length k4)) Tryd.underlying43 rfl (by kernel_rfl)) rfl ?_
  have hkF : Kept [w.heap.size, w.heap.size + 1] w5 (((((((((((((((w5.setCell ⟨w.heap.size, 13, none⟩ (.slice v4 xl.length k4)).setCell ⟨w.heap.size + 1, 0, none⟩ (.int .i64 xi)).setCell ⟨w.heap.size + 1, 1, none⟩ (.int .i64 xm)).setCell ⟨w.heap.size + 1, 2, none⟩ (.int .i64 tk)).setCell ⟨w.heap.size + 1, 3, none⟩ (.string tn)).setCell ⟨w.heap.size + 1, 4, none⟩ (.int .i64 ti)).setCell ⟨w.heap.size + 1, 5, none⟩ (.slice b1 ta.length k1)).setCell ⟨w.heap.size + 1, 6, none⟩ (.int .i64 xf)).setCell ⟨w.heap.size + 1, 7, none⟩ (.int .i64 xu)).setCell ⟨w.heap.size + 1, 8, none⟩ (.int .i64 0)).setCell ⟨w.heap.size + 1, 9, none⟩ (.int .i64 0)).setCell ⟨w.heap.size + 1, 10, none⟩ (.slice none 0 0)).setCell ⟨w.heap.size + 1, 11, none⟩ (.slice none 0 0)).setCell ⟨w.heap.size + 1, 12, none⟩ (.slice none 0 0)).setCell ⟨w.heap.size + 1, 13, none⟩ (.slice v4 xl.length k4)) := (((((((((((((((Kept.refl _ w5).setCell (by simp) _).setCell (by simp) _).setCell (by simp) _).setCell (by simp) _).setCell (by simp) _).setCell (by simp) _).setCell (by simp) _).setCell (by simp) _).setCell (by simp) _).setCell (by simp) _).setCell (by simp) _).setCell (by simp) _).setCell (by simp) _).setCell (by simp) _).setCell (by simp) _
  exact ⟨_, _, rfl, (TR.good d).mono ((TR.good d).kept HT5.out hkF (by simp; omega)) (fun b _ hb => by simp at hb; omega), (HO5.out.kept hkF (fun z hz => by have := (HO5.out.lt z hz).1; simp at this; simp; omega)).rows'.mono (fun b _ hb => by simp at hb; omega), hkw5.trans' hkF (by simp)⟩
end Go.Proofs.YtkldomkooleecaaDoor
