/- Walks: the sanity check of the laws of stacks. -/
import Derived.Test.YtkldomkooleecaaEqVals
import Derived.Deep.RegionHeld3
namespace Go.Proofs.Ytkldomkooleecaa
open Go.RowKit

def sObj (n : Int) : Vl := .mk 5 n ⟨#[]⟩ []
def sTup : Vl := .mk 4 0 ⟨#[]⟩ [sObj 7, sObj 2, sObj 7]
def sFrm : Frm := ⟨4, 1, 3, 0, [sTup]⟩
def sCells : List Value := [.int .i64 5, .int .i64 7, .string ⟨#[]⟩, .slice none 0 0, .int .i64 5, .int .i64 2, .string ⟨#[]⟩, .slice none 0 0, .int .i64 5, .int .i64 7, .string ⟨#[]⟩, .slice none 0 0]
theorem sObjs : (fobjs 1 [sFrm]).foldl ins [] = [2, 7] := by decide

theorem saneVR {w : World} {c k : Nat} (hc : Blk w c sCells 50) (hk : Blk w k [.int .i64 4, .int .i64 0, .string ⟨#[]⟩, .slice (some ⟨c, 0, none⟩) 3 3] 50) : VR 2 (fun _ => True) w (.slice (some ⟨k, 0, none⟩) 1 1) [sTup] := by
  refine ⟨by simp, [.slice (some ⟨c, 0, none⟩) 3 3], rfl, ?_, fun i x e hx he => ?_⟩
  · exact lit_rows (size := 4) [[.int .i64 4, .int .i64 0, .string ⟨#[]⟩, .slice (some ⟨c, 0, none⟩) 3 3]] hk (by simp [Value.oneCell']) (by simp)
  · match i, hx, he with
    | 0, hx, he =>
      simp at hx he
      subst hx he
      refine ⟨by simp [sTup, Vl.elems], [.slice none 0 0, .slice none 0 0, .slice none 0 0], rfl, ?_, fun i x e hx he => ?_⟩
      · exact lit_rows (size := 4) [rroot 7, rroot 2, rroot 7] hc (by simp [rroot, Value.oneCell']) (by simp)
      · have : e = .slice none 0 0 ∧ x.elems = [] := by
          match i, hx, he with
          | 0, hx, he => simp [sTup, Vl.elems] at hx he; subst hx he; exact ⟨rfl, rfl⟩
          | 1, hx, he => simp [sTup, Vl.elems] at hx he; subst hx he; exact ⟨rfl, rfl⟩
          | 2, hx, he => simp [sTup, Vl.elems] at hx he; subst hx he; exact ⟨rfl, rfl⟩
          | i + 3, hx, he => simp at he
        show VR 0 _ w e x.elems
        rw [this.1, this.2]
        exact VR.nil 0 _ _
    | i + 1, hx, he => simp at hx

/-- What the check looks at. -/
def SF (w : World) (b o p : Nat) : Prop := (∃ g, Sk 2 (fun _ => True) w b g [sFrm]) ∧ Blk w o (rroot 7) 50 ∧ Blk w p (rroot 2) 50
theorem SF.kept {w w' : World} {b o p : Nat} (h : SF w b o p) (k : Kept [] w w') : SF w' b o p := by
  obtain ⟨⟨g, h1⟩, h2, h3⟩ := h
  exact ⟨⟨g, h1.kept k (by simp) (by simp) (by simp)⟩, h2.kept k (by simp), h3.kept k (by simp)⟩

/-- 'step_call', and a guard that is met. -/
theorem step_callg {P : Program} {ops : Array Oper} {o : Oper} {a : Act} {w : World} {K : Act → World → Prop} {Q : Exit → Act → World → Prop} {E : Prop} {R : Ending → World → Prop}
    (hw : Region.wanted o (yielded ops a.tmps) = true) (f : FuncId) (fn : Func) (hf : P.funcs[f]? = some fn) (hn : (fn.name == "runtime.NumGoroutine") = false) (hb : fn.body.isNone = false) (args : List Operand) (ts : Array TypeId) (ho : o.op = .call { callee := .value (.func f), args := args.toArray, argTypes := ts })
    (vals : List Value) (hv : args.map a.eval = vals) (h : Calls P f vals.toArray w R) (hR : ∀ e w', R e w' → ∃ v, e = .returned v) (hK : ∀ v w', R (.returned v) w' → K (a.put o.dst v) w') :
    if Region.wanted o (yielded ops a.tmps) = true then Oper.wp P o a w K Q else E := by
  rw [if_pos hw]
  have he : (execOp a.eval o).run P w = .ok (.enter f vals.toArray) w := by
    subst hv
    simp [execOp, ho, resolve, Deferred.ofValue, invoke, Act.eval]
    simp [callFunc, hf, program, Sem.run, Result.andThen, beq_eq_false_iff_ne.1 hn]
    intro h0; simp [h0] at hb
  unfold Oper.wp
  rw [he, Oper.upon_enter]
  refine h.mono fun e w' hr => ?_
  obtain ⟨v, rfl⟩ := hR e w' hr
  exact hK v w' hr
theorem SF.cells {w : World} {b o p : Nat} (h : SF w b o p) : w.cell? ⟨o, 0, none⟩ = some (.int .i64 5) ∧ w.cell? ⟨o, 1, none⟩ = some (.int .i64 7) ∧ w.cell? ⟨o, 2, none⟩ = some (.string ⟨#[]⟩) ∧ w.cell? ⟨o, 3, none⟩ = some (.slice none 0 0) ∧
    w.cell? ⟨p, 0, none⟩ = some (.int .i64 5) ∧ w.cell? ⟨p, 1, none⟩ = some (.int .i64 2) ∧ w.cell? ⟨p, 2, none⟩ = some (.string ⟨#[]⟩) ∧ w.cell? ⟨p, 3, none⟩ = some (.slice none 0 0) :=
  ⟨h.2.1.cell 0 _ rfl, h.2.1.cell 1 _ rfl, h.2.1.cell 2 _ rfl, h.2.1.cell 3 _ rfl, h.2.2.cell 0 _ rfl, h.2.2.cell 1 _ rfl, h.2.2.cell 2 _ rfl, h.2.2.cell 3 _ rfl⟩
def SG (w : World) (b o p q : Nat) : Prop := SF w b o p ∧ w.cell? ⟨q, 0, none⟩ = some (.int .i64 4)
theorem SG.kept {w w' : World} {b o p q : Nat} (h : SG w b o p q) (k : Kept [] w w') : SG w' b o p q := ⟨h.1.kept k, k.cell' h.2 (by simp)⟩
theorem SG.sf {w : World} {b o p q : Nat} (h : SG w b o p q) : SF w b o p := h.1
theorem SG.cells {w : World} {b o p q : Nat} (h : SG w b o p q) : w.cell? ⟨o, 0, none⟩ = some (.int .i64 5) ∧ w.cell? ⟨o, 1, none⟩ = some (.int .i64 7) ∧ w.cell? ⟨o, 2, none⟩ = some (.string ⟨#[]⟩) ∧ w.cell? ⟨o, 3, none⟩ = some (.slice none 0 0) ∧
    w.cell? ⟨p, 0, none⟩ = some (.int .i64 5) ∧ w.cell? ⟨p, 1, none⟩ = some (.int .i64 2) ∧ w.cell? ⟨p, 2, none⟩ = some (.string ⟨#[]⟩) ∧ w.cell? ⟨p, 3, none⟩ = some (.slice none 0 0) ∧ w.cell? ⟨q, 0, none⟩ = some (.int .i64 4) := by
  obtain ⟨h1, h2, h3, h4, h5, h6, h7, h8⟩ := h.1.cells
  exact ⟨h1, h2, h3, h4, h5, h6, h7, h8, h.2⟩
theorem topSF (w : World) (b o p : Nat) (h : SF w b o p) : Calls Try.prog 49 #[.pointer (some ⟨b, 0, none⟩)] w fun e w' => ∃ a c, e = .returned (.tuple #[.agg #[.int .i64 4, .int .i64 1, .int .i64 3, .int .i64 0, .slice a 1 c], .bool true]) ∧ Kept [] w w' := by
  obtain ⟨⟨g, h1⟩, _⟩ := h
  refine (stackTop 2 b [] sFrm w h1).mono ?_
  rintro e w' ⟨q, rfl, hv, hk⟩
  obtain ⟨a, c, rfl, _⟩ := hv.form
  exact ⟨a, c, rfl, hk⟩
theorem lenSF (w : World) (b o p : Nat) (h : SF w b o p) : Calls Try.prog 31 #[.pointer (some ⟨b, 0, none⟩)] w fun e w' => e = .returned (.int .i64 1) ∧ Kept [] w w' := by
  obtain ⟨⟨g, h1⟩, _⟩ := h
  exact stackLen 2 b [sFrm] w h1
theorem rootsSF (w : World) (b o p : Nat) (h : SF w b o p) : Calls Try.prog 23 #[.pointer (some ⟨b, 0, none⟩)] w fun e w' => ∃ v, e = .returned v ∧ Reads (fun _ => True) w' v 4 (rroots [2, 7]) ∧ Kept [] w w' := by
  obtain ⟨⟨g, h1⟩, _⟩ := h
  refine (stackRoots 1 b [sFrm] w h1 (by decide) (by decide)).mono ?_
  rintro e w' ⟨q, rfl, hv, hk⟩
  rw [sObjs] at hv
  exact ⟨q, rfl, hv.rows.mono (fun _ _ _ => trivial), hk⟩
theorem worldsSF (w : World) (b o p : Nat) (h : SF w b o p) : Calls Try.prog 28 #[.pointer (some ⟨b, 0, none⟩)] w fun e w' => ∃ v, e = .returned v ∧ Reads (fun _ => True) w' v 1 (irows [3]) ∧ Kept [] w w' := by
  obtain ⟨⟨g, h1⟩, _⟩ := h
  refine (stackWorlds 2 b [sFrm] w h1 (by decide)).mono ?_
  rintro e w' ⟨q, rfl, hv, hk⟩
  exact ⟨q, rfl, hv.rows.mono (fun _ _ _ => trivial), hk⟩
theorem codesSF (w : World) (b o p : Nat) (h : SF w b o p) : Calls Try.prog 27 #[.pointer (some ⟨b, 0, none⟩)] w fun e w' => ∃ v, e = .returned v ∧ Reads (fun _ => True) w' v 1 (irows [4]) ∧ Kept [] w w' := by
  obtain ⟨⟨g, h1⟩, _⟩ := h
  refine (stackCodes 2 b [sFrm] w h1 (by decide)).mono ?_
  rintro e w' ⟨q, rfl, hv, hk⟩
  exact ⟨q, rfl, hv.rows.mono (fun _ _ _ => trivial), hk⟩

set_option maxRecDepth 100000 in
set_option maxHeartbeats 6400000 in
theorem sane34 (w : World) : Calls Try.prog 25 #[] w fun e w' => e = .returned (.bool true) ∧ Kept [] w w' := by
  go_enter Try.func25, Try.ntmps25
  go_wp2_with fail
  refine Calls.mono (newStack 2 _) ?_
  rintro e w1 ⟨rfl, hsk, hk1⟩
  have HSK := Lib.hid hsk
  have hb1 := hsk.lt
  have hsz1 := hk1.size
  clear hsk
  go_wp2_with fail
  refine Calls.mono (push 2 w.heap.size [] sFrm (.slice (some ⟨w1.heap.size + 3, 0, none⟩) 1 1) _ (by exact HSK.out.kept (M := []) ((((Kept.refl [] w1).alloc _).alloc _).alloc _ |>.alloc _) (by simp) (by simp) (by simp)) (by exact ⟨by decide, by decide, by decide, by decide, by decide⟩) (by exact saneVR (c := w1.heap.size + 2) ((halloc_old _ _ _ (by simp)).trans (halloc_new _ _ _ (by simp))) (halloc_new _ _ _ (by simp))) (by simp) (by simp)) ?_
  rintro e w2 ⟨g2, rfl, hsk2, hk2, hg2⟩
  have hsz2 := hk2.size
  simp only [World.size_alloc] at hsz2
  have hO := ((Blk.new w1 (rroot 7) 50).kept ((((Kept.refl [] _).alloc _).alloc _).alloc _) (by simp)).kept hk2 (by simp; omega)
  have hP0 : Blk ((w1.alloc (.cells (rroot 7).toArray 50)).alloc (.cells (rroot 2).toArray 50)) (w1.heap.size + 1) (rroot 2) 50 := halloc_new _ _ _ (by simp)
  have hP := (hP0.kept (((Kept.refl [] _).alloc _).alloc _) (by simp)).kept hk2 (by simp; omega)
  have hF : SF w2 w.heap.size w1.heap.size (w1.heap.size + 1) := ⟨⟨g2, hsk2.mono (fun _ _ _ => trivial)⟩, hO, hP⟩
  have hk : Kept [] w w2 := (((((hk1.alloc _).alloc _).alloc _).alloc _)).trans' hk2 (by simp)
  clear hO hP hP0 hsk2 hk2 hg2 HSK
  have HF := Lib.hid hF
  clear hF
  go_wp2_with fail
  refine Calls.mono (topSF _ _ _ _ (by exact HF.out)) ?_
  rintro e w3 ⟨q3a, q3c, rfl, hk3⟩
  have HF3 := Lib.hid (HF.out.kept hk3)
  have hk3' := hk.trans hk3
  have hsz3 := hk3.size
  clear HF hk3 hk
  go_wp2_with fail
  have l1 : w1.heap.size < w3.heap.size := by omega
  have l2 : w1.heap.size + 1 < w3.heap.size := by omega
  have HG3 : Hid (SG (w3.alloc (.cells #[.int .i64 4, .int .i64 1, .int .i64 3, .int .i64 0, .slice q3a 1 q3c] 43)) w.heap.size w1.heap.size (w1.heap.size + 1) w3.heap.size) := Lib.hid ⟨HF3.out.kept ((Kept.refl [] _).alloc _), (Blk.new w3 [.int .i64 4, .int .i64 1, .int .i64 3, .int .i64 0, .slice q3a 1 q3c] 43).cell 0 _ rfl⟩
  go_region_held3 (fun w' => w'.cell? ⟨w1.heap.size, 0, none⟩ = some (.int .i64 5) ∧ w'.cell? ⟨w1.heap.size, 1, none⟩ = some (.int .i64 7) ∧ w'.cell? ⟨w1.heap.size, 2, none⟩ = some (.string ⟨#[]⟩) ∧ w'.cell? ⟨w1.heap.size, 3, none⟩ = some (.slice none 0 0) ∧ w'.cell? ⟨w1.heap.size + 1, 0, none⟩ = some (.int .i64 5) ∧ w'.cell? ⟨w1.heap.size + 1, 1, none⟩ = some (.int .i64 2) ∧ w'.cell? ⟨w1.heap.size + 1, 2, none⟩ = some (.string ⟨#[]⟩) ∧ w'.cell? ⟨w1.heap.size + 1, 3, none⟩ = some (.slice none 0 0) ∧ w'.cell? ⟨w3.heap.size, 0, none⟩ = some (.int .i64 4)) (first
      | exact SG.cells (SG.kept HG11.out (by repeat (first | exact Kept.refl _ _ | refine Kept.drew ?_ | refine Kept.alloc ?_ _)))
      | exact SG.cells (SG.kept HG10.out (by repeat (first | exact Kept.refl _ _ | refine Kept.drew ?_ | refine Kept.alloc ?_ _)))
      | exact SG.cells (SG.kept HG9.out (by repeat (first | exact Kept.refl _ _ | refine Kept.drew ?_ | refine Kept.alloc ?_ _)))
      | exact SG.cells (SG.kept HG8.out (by repeat (first | exact Kept.refl _ _ | refine Kept.drew ?_ | refine Kept.alloc ?_ _)))
      | exact SG.cells (SG.kept HG7.out (by repeat (first | exact Kept.refl _ _ | refine Kept.drew ?_ | refine Kept.alloc ?_ _)))
      | exact SG.cells (SG.kept HG6.out (by repeat (first | exact Kept.refl _ _ | refine Kept.drew ?_ | refine Kept.alloc ?_ _)))
      | exact SG.cells (SG.kept HG5.out (by repeat (first | exact Kept.refl _ _ | refine Kept.drew ?_ | refine Kept.alloc ?_ _)))
      | exact SG.cells (SG.kept HG4.out (by repeat (first | exact Kept.refl _ _ | refine Kept.drew ?_ | refine Kept.alloc ?_ _)))
      | exact SG.cells (SG.kept HG3.out (by repeat (first | exact Kept.refl _ _ | refine Kept.drew ?_ | refine Kept.alloc ?_ _))))
    (first
    | (go_at_call 31; ((with_reducible refine Calls.mono (lenSF _ _ w1.heap.size (w1.heap.size + 1) (by exact SG.sf (HG3.out.kept (by repeat (first | exact Kept.refl _ _ | refine Kept.drew ?_ | refine Kept.alloc ?_ _))))) ?_); rintro e w4 ⟨rfl, hk4⟩; have hk4 := Kept.trans (a := (w3.alloc (.cells #[.int .i64 4, .int .i64 1, .int .i64 3, .int .i64 0, .slice q3a 1 q3c] 43))) (by repeat (first | exact Kept.refl _ _ | refine Kept.drew ?_ | refine Kept.alloc ?_ _)) hk4; have HG4 := Lib.hid (HG3.out.kept hk4)))
    | (go_at_call 23; ((with_reducible refine Calls.mono (rootsSF _ _ w1.heap.size (w1.heap.size + 1) (by exact SG.sf (HG4.out.kept (by repeat (first | exact Kept.refl _ _ | refine Kept.drew ?_ | refine Kept.alloc ?_ _))))) ?_); rintro e w5 ⟨v5, rfl, hr5, hk5⟩; have hk5' := Kept.trans (a := w4) (by repeat (first | exact Kept.refl _ _ | refine Kept.drew ?_ | refine Kept.alloc ?_ _)) hk5; have HG5 := Lib.hid (HG4.out.kept hk5'); have HR5 := Lib.hid hr5; clear hr5))
    | (go_at_call 50; ((with_reducible refine Calls.mono (eqRoots (S' := fun _ => True) v5 _ [2, 7] _ (by exact HR5.out.kept (M := []) (by repeat (first | exact Kept.refl _ _ | refine Kept.drew ?_ | refine Kept.alloc ?_ _)) (by simp)) ?_ (by decide)) ?_); (exact lit_rows (rroots [2, 7]) (by exact halloc_new _ _ _ rfl) (by simp [rroots, rroot, Value.oneCell']) (by simp)); rintro e w6 ⟨rfl, hk6⟩; have hk6 := Kept.trans (a := w5) (by repeat (first | exact Kept.refl _ _ | refine Kept.drew ?_ | refine Kept.alloc ?_ _)) hk6; have HG6 := Lib.hid (HG5.out.kept hk6)))
    | (go_at_call 50; ((with_reducible refine Calls.mono (eqRoots (S' := fun _ => True) v5 _ [2, 7] _ (by exact HR5.out.kept (M := []) (by repeat (first | exact Kept.refl _ _ | refine Kept.drew ?_ | refine Kept.alloc ?_ _)) (by simp)) ?_ (by decide)) ?_); (exact lit_rows (rroots [2, 7]) (by exact hk5.get (halloc_new _ _ _ rfl) (by simp)) (by simp [rroots, rroot, Value.oneCell']) (by simp)); rintro e w6 ⟨rfl, hk6⟩; have hk6 := Kept.trans (a := w5) (by repeat (first | exact Kept.refl _ _ | refine Kept.drew ?_ | refine Kept.alloc ?_ _)) hk6; have HG6 := Lib.hid (HG5.out.kept hk6)))
    | (go_at_call 28; ((with_reducible refine Calls.mono (worldsSF _ _ w1.heap.size (w1.heap.size + 1) (by exact SG.sf (HG6.out.kept (by repeat (first | exact Kept.refl _ _ | refine Kept.drew ?_ | refine Kept.alloc ?_ _))))) ?_); rintro e w7 ⟨v7, rfl, hr7, hk7⟩; have hk7' := Kept.trans (a := w6) (by repeat (first | exact Kept.refl _ _ | refine Kept.drew ?_ | refine Kept.alloc ?_ _)) hk7; have HG7 := Lib.hid (HG6.out.kept hk7'); have HR7 := Lib.hid hr7; clear hr7))
    | (go_at_call_of 13 v7; ((with_reducible refine Calls.mono (eqInts (S' := fun _ => True) _ _ [3] _ (by exact HR7.out.kept (M := []) (by repeat (first | exact Kept.refl _ _ | refine Kept.drew ?_ | refine Kept.alloc ?_ _)) (by simp)) ?_) ?_); (exact lit_ints [3] (by exact halloc_new _ _ _ rfl) (by decide)); rintro e w8 ⟨rfl, hk8⟩; have hk8 := Kept.trans (a := w7) (by repeat (first | exact Kept.refl _ _ | refine Kept.drew ?_ | refine Kept.alloc ?_ _)) hk8; have HG8 := Lib.hid (HG7.out.kept hk8)))
    | (go_at_call_of 13 v7; ((with_reducible refine Calls.mono (eqInts (S' := fun _ => True) _ _ [3] _ (by exact HR7.out.kept (M := []) (by repeat (first | exact Kept.refl _ _ | refine Kept.drew ?_ | refine Kept.alloc ?_ _)) (by simp)) ?_) ?_); (exact lit_ints [3] (by exact hk7.get (halloc_new _ _ _ rfl) (by simp)) (by decide)); rintro e w8 ⟨rfl, hk8⟩; have hk8 := Kept.trans (a := w7) (by repeat (first | exact Kept.refl _ _ | refine Kept.drew ?_ | refine Kept.alloc ?_ _)) hk8; have HG8 := Lib.hid (HG7.out.kept hk8)))
    | (go_at_call 27; ((with_reducible refine Calls.mono (codesSF _ _ w1.heap.size (w1.heap.size + 1) (by exact SG.sf (HG8.out.kept (by repeat (first | exact Kept.refl _ _ | refine Kept.drew ?_ | refine Kept.alloc ?_ _))))) ?_); rintro e w9 ⟨v9, rfl, hr9, hk9⟩; have hk9' := Kept.trans (a := w8) (by repeat (first | exact Kept.refl _ _ | refine Kept.drew ?_ | refine Kept.alloc ?_ _)) hk9; have HG9 := Lib.hid (HG8.out.kept hk9'); have HR9 := Lib.hid hr9; clear hr9))
    | (go_at_call_of 13 v9; ((with_reducible refine Calls.mono (eqInts (S' := fun _ => True) _ _ [4] _ (by exact HR9.out.kept (M := []) (by repeat (first | exact Kept.refl _ _ | refine Kept.drew ?_ | refine Kept.alloc ?_ _)) (by simp)) ?_) ?_); (exact lit_ints [4] (by exact halloc_new _ _ _ rfl) (by decide)); rintro e w10 ⟨rfl, hk10⟩; have hk10 := Kept.trans (a := w9) (by repeat (first | exact Kept.refl _ _ | refine Kept.drew ?_ | refine Kept.alloc ?_ _)) hk10; have HG10 := Lib.hid (HG9.out.kept hk10)))
    | (go_at_call_of 13 v9; ((with_reducible refine Calls.mono (eqInts (S' := fun _ => True) _ _ [4] _ (by exact HR9.out.kept (M := []) (by repeat (first | exact Kept.refl _ _ | refine Kept.drew ?_ | refine Kept.alloc ?_ _)) (by simp)) ?_) ?_); (exact lit_ints [4] (by exact hk9.get (halloc_new _ _ _ rfl) (by simp)) (by decide)); rintro e w10 ⟨rfl, hk10⟩; have hk10 := Kept.trans (a := w9) (by repeat (first | exact Kept.refl _ _ | refine Kept.drew ?_ | refine Kept.alloc ?_ _)) hk10; have HG10 := Lib.hid (HG9.out.kept hk10)))
    | (go_at_call 21; ((refine Calls.mono (push_bad _ ⟨0, 0, 0, 0, []⟩ none 0 _ (by decide) (by decide) (by decide) (by decide)) ?_); rintro e w11 ⟨rfl, hk11⟩; have HG11 := Lib.hid (HG10.out.kept hk11))))
  all_goals go_wp2
  all_goals
    go_ret
    exact ⟨rfl, (((((((((hk3'.alloc _).trans hk4).trans hk5').trans hk6).trans hk7').trans hk8).trans hk9').trans hk10).trans hk11)⟩
end Go.Proofs.Ytkldomkooleecaa
