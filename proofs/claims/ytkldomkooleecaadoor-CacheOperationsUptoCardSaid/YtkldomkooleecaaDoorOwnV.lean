/- Walks: deep copies of values and frames. -/
import Derived.Test.YtkldomkooleecaaDoorDeep
import Derived.Test.YtkldomkooleecaaDoorBase
namespace Go.Proofs.YtkldomkooleecaaDoor
open Go.RowKit

theorem info_value : ∃ i z, Tryd.prog.info? 111 = some i ∧ i.zero = some z ∧ i.size = 4 ∧ i.bytes = 56 ∧ z.cells.size = 4 := by
  have h : (Tryd.prog.info? 111).map (fun i => (i.zero, i.size, i.bytes)) = some (some (.agg #[.int .i64 0, .int .i64 0, .string ⟨#[]⟩, .slice none 0 0]), 4, 56) := by kernel_rfl
  cases hi : Tryd.prog.info? 111 with
  | none => simp [hi] at h
  | some i => simp [hi] at h; exact ⟨i, _, rfl, h.1, h.2.1, h.2.2, rfl⟩

/-- A result that is a struct's variable. -/
theorem results_blk {P : Program} {fn : Func} {p : Tmp} {ty : TypeId} (h : fn.results = #[.cell p ty]) (tmps : Array Value) (w : World) (g : Nat) (t : TypeId) (cs : List Value) (d : TypeDesc)
    (hp : tmps.getD p undef = .pointer (some ⟨g, 0, none⟩)) (hb : Blk w g cs t) (hu : P.underlying ty = some d) (hd : (match d with | .struct _ | .array _ _ => true | _ => false) = true) (hi : (P.info? ty).map (·.size) = some cs.length) :
    (results fn tmps).run P w = .ok (.agg cs.toArray) w := results_cell_row h tmps w g t cs.toArray (0, 0) d hp hb hu hd (by simpa using hi)
theorem Blk.far {w : World} {b : Nat} {cs : List Value} {t : TypeId} {p : Addr} (h : Blk w b cs t) (hp : p.block ≠ b) (v : Value) : Blk (w.setCell p v) b cs t := h.kept (M := [p.block]) ((Kept.refl [p.block] w).setCell (by simp) v) (by simpa using Ne.symm hp)
theorem Blk.four {w : World} {b : Nat} {t : TypeId} {x0 x1 x2 x3 : Value} (h : Blk w b [x0, x1, x2, x3] t) : (w.cell? ⟨b, 0, none⟩ = some x0 ∧ w.cell? ⟨b, 1, none⟩ = some x1 ∧ w.cell? ⟨b, 2, none⟩ = some x2 ∧ w.cell? ⟨b, 3, none⟩ = some x3) ∧ w.frozen? ⟨b, 0, none⟩ = false ∧ w.frozen? ⟨b, 1, none⟩ = false ∧ w.frozen? ⟨b, 2, none⟩ = false ∧ w.frozen? ⟨b, 3, none⟩ = false :=
  ⟨⟨h.cell 0 _ rfl, h.cell 1 _ rfl, h.cell 2 _ rfl, h.cell 3 _ rfl⟩, h.frozen 0, h.frozen 1, h.frozen 2, h.frozen 3⟩
theorem Blk.old (w : World) (cs : List Value) (t : TypeId) (o : Obj) : Blk ((w.alloc (.cells cs.toArray t)).alloc o) w.heap.size cs t := (Blk.new w cs t).kept ((Kept.refl [] _).alloc _) (by simp)

set_option maxRecDepth 100000 in
set_option maxHeartbeats 1600000 in
theorem ownValue (d : Nat) (hV : ∀ (S : Nat → Prop) (w : World) (v : Value) (l : List Vl), VR d S w v l → Calls Tryd.prog 77 #[v] w fun e w' => ∃ v', e = .returned v' ∧ VR d (w.heap.size ≤ ·) w' v' l ∧ Kept [] w w')
    {S : Nat → Prop} (x : Vl) (e : Value) (w : World) (h : VR d S w e x.elems) :
    Calls Tryd.prog 72 #[.agg #[.int .i64 x.kind, .int .i64 x.n, .string x.s, e]] w fun q w' => ∃ e', q = .returned (.agg #[.int .i64 x.kind, .int .i64 x.n, .string x.s, e']) ∧ VR d (w.heap.size ≤ ·) w' e' x.elems ∧ Kept [] w w' := by
  obtain ⟨xk, xn, xs, xe⟩ := x
  simp only [Vl.kind, Vl.n, Vl.s, Vl.elems] at h ⊢
  obtain ⟨a1, c1, rfl, h1, h2, h3⟩ := h.form
  have H := Lib.hid h
  have HV := Lib.hid hV
  clear h hV
  go_enter Tryd.func72, Tryd.ntmps72
  go_wp2_with (first
    | (go_at_call 77; refine Calls.mono (HV.out S _ _ xe (by exact (VR.good d).kept H.out (((Kept.refl [] w).alloc _).alloc _) (by simp))) ?_; rintro q w1 ⟨v1, rfl, hv1, hk1⟩; obtain ⟨a2, c2, rfl, _, _, _⟩ := hv1.form; obtain ⟨⟨e0, e1, e2, e3⟩, f0, f1, f2, f3⟩ := ((Blk.old w [.int .i64 xk, .int .i64 xn, .string xs, .slice a1 xe.length c1] 111 _).kept hk1 (by simp)).four; obtain ⟨⟨i0, i1, i2, i3⟩, j0, j1, j2, j3⟩ := ((Blk.new (w.alloc (.cells #[.int .i64 xk, .int .i64 xn, .string xs, .slice a1 xe.length c1] 111)) [.int .i64 0, .int .i64 0, .string ⟨#[]⟩, .slice none 0 0] 111).kept hk1 (by simp)).four; have hb2 := (Blk.new (w.alloc (.cells #[.int .i64 xk, .int .i64 xn, .string xs, .slice a1 xe.length c1] 111)) [.int .i64 0, .int .i64 0, .string ⟨#[]⟩, .slice none 0 0] 111).kept hk1 (by simp); have HB2 := Lib.hid hb2; clear hb2; simp only [World.size_alloc] at i0 i1 i2 i3 j0 j1 j2 j3; have HV1 := Lib.hid hv1; clear hv1))
  have hb2 := HB2.out
  simp only [World.size_alloc] at hb2
  refine bodyPost_ret (results_blk rfl _ _ (w.heap.size + 1) 111 [.int .i64 xk, .int .i64 xn, .string xs, .slice a2 xe.length c2] _ rfl (((((hb2.far (p := ⟨w.heap.size, 3, none⟩) (by simp) (.slice a2 xe.length c2)).set 0 (.int .i64 xk)).set 1 (.int .i64 xn)).set 2 (.string xs)).set 3 (.slice a2 xe.length c2)) Tryd.underlying111 rfl (by kernel_rfl)) rfl ?_
  have hkF : Kept [w.heap.size, w.heap.size + 1] w1 (((((w1.setCell ⟨w.heap.size, 3, none⟩ (.slice a2 xe.length c2)).setCell ⟨w.heap.size + 1, 0, none⟩ (.int .i64 xk)).setCell ⟨w.heap.size + 1, 1, none⟩ (.int .i64 xn)).setCell ⟨w.heap.size + 1, 2, none⟩ (.string xs)).setCell ⟨w.heap.size + 1, 3, none⟩ (.slice a2 xe.length c2)) :=
    (((((Kept.refl _ w1).setCell (by simp) _).setCell (by simp) _).setCell (by simp) _).setCell (by simp) _).setCell (by simp) _
  exact ⟨_, rfl, (VR.good d).mono ((VR.good d).kept HV1.out hkF (by simp; omega)) (fun b _ hb => by simp at hb; omega), ((((Kept.refl [] w).alloc _).alloc _).trans hk1).trans' hkF (by simp)⟩

set_option maxRecDepth 100000 in
set_option maxHeartbeats 1600000 in
theorem ownValues : ∀ (d : Nat) (S : Nat → Prop) (w : World) (v : Value) (l : List Vl), VR d S w v l → Calls Tryd.prog 77 #[v] w fun e w' => ∃ v', e = .returned v' ∧ VR d (w.heap.size ≤ ·) w' v' l ∧ Kept [] w w'
  | 0, S, w, v, l, h => by
    obtain ⟨a1, c1, rfl, h1, h2, h3⟩ := h.form
    obtain ⟨rfl, _⟩ := h
    go_enter Tryd.func77, Tryd.ntmps77
    go_wp2
    go_loop [3, 8] (fun v i => v = .slice none 0 0 ∧ i = .int .i64 0) (fun _ _ => 0)
    case atStart => exact ⟨rfl, rfl⟩
    case round =>
      obtain ⟨rfl, rfl⟩ := hrel
      go_wp2
      go_ret
      exact ⟨_, rfl, VR.nil 0 _ _, Kept.refl _ _⟩
  | d + 1, S, w, v, l, h => by
    have hown := fun (x : Vl) (e : Value) (w : World) (S : Nat → Prop) => ownValue d (ownValues d) (S := S) x e w
    have HOWN := Lib.hid hown
    clear hown
    obtain ⟨hl, h⟩ := h
    obtain ⟨a1, c1, rfl, h1, h2, h3⟩ := h.form
    have H3 := Lib.hid h3
    clear h h3
    obtain ⟨i0, z0, hi, hz0, hz1, hz2, hz3⟩ := info_value
    go_enter Tryd.func77, Tryd.ntmps77
    go_wp2
    go_loopw [3, 8] (fun v i wr => ∃ k : Nat, k ≤ l.length ∧ i = .int .i64 k ∧ Kept [] w wr ∧ Hid (Gr (fun S w e (x : Vl) => VR d S w e x.elems) Vl.row 4 111 (w.heap.size ≤ ·) w.heap.size wr v (l.take k))) (fun _ i _ => l.length - (intOf i).toNat)
    case atStart => exact ⟨0, Nat.zero_le _, rfl, Kept.refl _ _, Gr.nil _ _ _⟩
    case round =>
      obtain ⟨k, hk, rfl, hkr, hgr⟩ := hrel
      by_cases hlt : k < l.length
      · have hne : l ≠ [] := by rintro rfl; simp at hlt
        obtain ⟨b1, o1, rfl, hSb, hb1, hc1⟩ := H3.out.resolve_left hne
        obtain ⟨x, hx⟩ : ∃ x, l[k]? = some x := ⟨l[k], by simp⟩
        obtain ⟨q, hrq, hoq, hvq⟩ := hc1 k x hx
        obtain ⟨qa, qc, rfl, _, _, _⟩ := hvq.form
        have hrg := Lib.hid (hkr.range hrq (by simp))
        have HVQ := Lib.hid ((VR.good d).kept hvq hkr (by simp))
        have HX := Lib.hid hx
        obtain ⟨es, n1, n2, n3⟩ := hgr.out
        have N3 := Lib.hid n3
        obtain ⟨xk, xn, xs, xe⟩ := x
        simp only [Vl.row, Vl.kind, Vl.n, Vl.s, Vl.elems] at hrg hoq HVQ ⊢
        have HOQ := Lib.hid hoq
        obtain ⟨wo, hwo⟩ : ∃ wo : World, wo = wr := ⟨_, rfl⟩
        subst hwo
        have hlen : (List.zipWith Vl.row (l.take k) es).length = k := by rw [zip_len n1]; simp; omega
        have N2 := Lib.hid n2
        clear hrq hvq hx hc1 hne H3 hoq n2 n3
        go_wp2_with (first
          | (refine wpList_load_mid rfl 111 (.tmp 10) rfl b1 (o1 + k * 4) rfl [.int .i64 xk, .int .i64 xn, .string xs, .slice qa xe.length qc] _ hrg.out Tryd.underlying111 rfl (by kernel_rfl) ?_)
          | (go_at_call 72; (refine Calls.mono (HOWN.out ⟨xk, xn, xs, xe⟩ (.slice qa xe.length qc) _ S (by exact (VR.good d).kept HVQ.out ((Kept.refl [] _).alloc _) (by simp))) ?_; rintro e w3 ⟨q', rfl, hv3, hk3⟩; have hk3 := ((Kept.refl [] wo).alloc (.cells #[.int .i64 xk, .int .i64 xn, .string xs, .slice qa xe.length qc] 111)).trans hk3; have hq' : q'.oneCell' = true := (by obtain ⟨a, c, rfl, _⟩ := hv3.form; rfl); have HV3 := Lib.hid hv3; have NN2 := Lib.hid (N2.out.kept hk3 (by simp)); clear hv3))
          | (refine wpList_append1 (.tmp 12) (.tmp 14) 109 111 rfl rfl rfl rfl rfl i0 z0 4 56 Tryd.underlying109 hi hz0 hz1 hz2 hz3 (by decide) (by decide) w.heap.size _ _ (fun _ => rfl) (fun _ => rfl) [.int .i64 xk, .int .i64 xn, .string xs, q'] rfl rfl (by simp [Value.oneCell']; exact hq') NN2.out (by rw [hlen]; omega) (by rw [hlen]; omega) (by have := hkr.size; have := hk3.size; omega) ?_; intro v5 w5 ho5 hk5 hl5; have HO5 := Lib.hid ho5; have HK5 := Lib.hid hk5; have HL5 := Lib.hid hl5; clear ho5 hk5 hl5))
        go_roundw
        case rel =>
          have hk5 := HK5.out (u3.ownBlock.toList) (by intro y hy; simp [hy])
          have hlo := N2.out.lt
          refine ⟨k + 1, by omega, by go_num, (hkr.trans hk3).trans' hk5 (fun x hx => .inr (hlo x (by simpa using hx)).1), ?_⟩
          rw [Hid, List.take_add_one, HX.out]
          exact Gr.snoc (VR.goodAt d Vl.elems) n1 (fun i x e hx he => (VR.good d).kept (N3.out i x e hx he) hk3 (by simp)) ((VR.good d).mono HV3.out (fun b _ hb => by have := hkr.size; simp at hb; exact ⟨by omega, fun e => by have := (hlo b e).2; omega⟩)) HO5.out HK5.out HL5.out
        case measure => simp [intOf]; omega
      · go_wp2
        go_ret
        have hfin := hgr.out
        rw [show k = l.length by omega, List.take_length] at hfin
        exact ⟨_, rfl, ⟨hl, hfin.rd (VR.goodAt d Vl.elems) (fun _ h => h)⟩, hkr⟩
end Go.Proofs.YtkldomkooleecaaDoor
