/- Type terms as data, and their deep copies. -/
import Derived.Test.YtkldomkooleecaaGreatDoorBlk
namespace Go.Proofs.YtkldomkooleecaaGreatDoor
open Go.RowKit

/-- A type term: kind, name, index, arguments. -/
inductive Ty where
  | mk (kind : Int) (name : ByteArray) (index : Int) (args : List Ty)
def Ty.kind : Ty → Int | .mk k _ _ _ => k
def Ty.name : Ty → ByteArray | .mk _ n _ _ => n
def Ty.index : Ty → Int | .mk _ _ i _ => i
def Ty.args : Ty → List Ty | .mk _ _ _ l => l
def Ty.row (x : Ty) (e : Value) : List Value := [.int .i64 x.kind, .string x.name, .int .i64 x.index, e]

/-- Slices of type terms, down to a depth. -/
def TR : Nat → (Nat → Prop) → World → Value → List Ty → Prop
  | 0, S, w, v, l => l = [] ∧ Reads S w v 4 []
  | d + 1, S, w, v, l => l.length ≤ 1000 ∧ Rd (fun S w e (x : Ty) => TR d S w e x.args) Ty.row 4 S w v l

theorem TR.good : ∀ d, Good (fun S w v (l : List Ty) => TR d S w v l)
  | 0 => ⟨fun h k hn => ⟨h.1, h.2.kept k hn⟩, fun h hs => ⟨h.1, h.2.mono hs⟩⟩
  | d + 1 => ⟨fun h k hn => ⟨h.1, Rd.kept ⟨fun h k hn => (TR.good d).kept h k hn, fun h hs => (TR.good d).mono h hs⟩ h.2 k hn⟩, fun h hs => ⟨h.1, Rd.mono ⟨fun h k hn => (TR.good d).kept h k hn, fun h hs => (TR.good d).mono h hs⟩ h.2 hs⟩⟩
theorem TR.goodAt {γ : Type} (d : Nat) (f : γ → List Ty) : Good (fun S w v (x : γ) => TR d S w v (f x)) := ⟨fun h k hn => (TR.good d).kept h k hn, fun h hs => (TR.good d).mono h hs⟩
theorem TR.nil (d : Nat) (S : Nat → Prop) (w : World) : TR d S w (.slice none 0 0) [] := by
  cases d with
  | zero => exact ⟨rfl, Reads.nil _ _ _⟩
  | succ d => exact ⟨by simp, Rd.nil⟩
theorem TR.form {d : Nat} {S : Nat → Prop} {w : World} {v : Value} {l : List Ty} (h : TR d S w v l) : ∃ a cap, v = .slice a l.length cap ∧ l.length ≤ cap ∧ cap ≤ 9223372036854775807 ∧ l.length ≤ 1000 := by
  cases d with
  | zero =>
    obtain ⟨rfl, h0, a, cap, rfl, h2, h3, h4⟩ := h
    exact ⟨a, cap, rfl, h2, by simpa [maxLen] using h3, by simp⟩
  | succ d =>
    obtain ⟨h1, h2⟩ := h
    obtain ⟨a, cap, rfl, h3, h4, _⟩ := h2.form
    exact ⟨a, cap, rfl, h3, h4, h1⟩

theorem info_type : ∃ i z, Tryz.prog.info? 39 = some i ∧ i.zero = some z ∧ i.size = 4 ∧ i.bytes = 56 ∧ z.cells.size = 4 := by
  have h : (Tryz.prog.info? 39).map (fun i => (i.zero, i.size, i.bytes)) = some (some (.agg #[.int .i64 0, .string ⟨#[]⟩, .int .i64 0, .slice none 0 0]), 4, 56) := by kernel_rfl
  cases hi : Tryz.prog.info? 39 with
  | none => simp [hi] at h
  | some i => simp [hi] at h; exact ⟨i, _, rfl, h.1, h.2.1, h.2.2, rfl⟩

set_option maxRecDepth 100000 in
set_option maxHeartbeats 1600000 in
theorem ownType (d : Nat) (hV : ∀ (S : Nat → Prop) (w : World) (v : Value) (l : List Ty), TR d S w v l → Calls Tryz.prog 72 #[v] w fun e w' => ∃ v', e = .returned v' ∧ TR d (w.heap.size ≤ ·) w' v' l ∧ Kept [] w w')
    {S : Nat → Prop} (x : Ty) (e : Value) (w : World) (h : TR d S w e x.args) :
    Calls Tryz.prog 58 #[.agg #[.int .i64 x.kind, .string x.name, .int .i64 x.index, e]] w fun q w' => ∃ e', q = .returned (.agg #[.int .i64 x.kind, .string x.name, .int .i64 x.index, e']) ∧ TR d (w.heap.size ≤ ·) w' e' x.args ∧ Kept [] w w' := by
  obtain ⟨xk, xn, xs, xe⟩ := x
  simp only [Ty.kind, Ty.name, Ty.index, Ty.args] at h ⊢
  obtain ⟨a1, c1, rfl, h1, h2, h3⟩ := h.form
  have H := Lib.hid h
  have HV := Lib.hid hV
  clear h hV
  go_enter Tryz.func58, Tryz.ntmps58
  go_wp2_with (first
    | (go_at_call 72; refine Calls.mono (HV.out S _ _ xe (by exact (TR.good d).kept H.out (((Kept.refl [] w).alloc _).alloc _) (by simp))) ?_; rintro q w1 ⟨v1, rfl, hv1, hk1⟩; obtain ⟨a2, c2, rfl, _, _, _⟩ := hv1.form; obtain ⟨⟨e0, e1, e2, e3⟩, f0, f1, f2, f3⟩ := ((Blk.old w [.int .i64 xk, .string xn, .int .i64 xs, .slice a1 xe.length c1] 39 _).kept hk1 (by simp)).four; obtain ⟨⟨i0, i1, i2, i3⟩, j0, j1, j2, j3⟩ := ((Blk.new (w.alloc (.cells #[.int .i64 xk, .string xn, .int .i64 xs, .slice a1 xe.length c1] 39)) [.int .i64 0, .string ⟨#[]⟩, .int .i64 0, .slice none 0 0] 39).kept hk1 (by simp)).four; have hb2 := (Blk.new (w.alloc (.cells #[.int .i64 xk, .string xn, .int .i64 xs, .slice a1 xe.length c1] 39)) [.int .i64 0, .string ⟨#[]⟩, .int .i64 0, .slice none 0 0] 39).kept hk1 (by simp); have HB2 := Lib.hid hb2; clear hb2; simp only [World.size_alloc] at i0 i1 i2 i3 j0 j1 j2 j3; have HV1 := Lib.hid hv1; clear hv1))
  have hb2 := HB2.out
  simp only [World.size_alloc] at hb2
  refine bodyPost_ret (results_blk rfl _ _ (w.heap.size + 1) 39 [.int .i64 xk, .string xn, .int .i64 xs, .slice a2 xe.length c2] _ rfl (((((hb2.far (p := ⟨w.heap.size, 3, none⟩) (by simp) (.slice a2 xe.length c2)).set 0 (.int .i64 xk)).set 1 (.string xn)).set 2 (.int .i64 xs)).set 3 (.slice a2 xe.length c2)) Tryz.underlying39 rfl (by kernel_rfl)) rfl ?_
  have hkF : Kept [w.heap.size, w.heap.size + 1] w1 (((((w1.setCell ⟨w.heap.size, 3, none⟩ (.slice a2 xe.length c2)).setCell ⟨w.heap.size + 1, 0, none⟩ (.int .i64 xk)).setCell ⟨w.heap.size + 1, 1, none⟩ (.string xn)).setCell ⟨w.heap.size + 1, 2, none⟩ (.int .i64 xs)).setCell ⟨w.heap.size + 1, 3, none⟩ (.slice a2 xe.length c2)) :=
    (((((Kept.refl _ w1).setCell (by simp) _).setCell (by simp) _).setCell (by simp) _).setCell (by simp) _).setCell (by simp) _
  exact ⟨_, rfl, (TR.good d).mono ((TR.good d).kept HV1.out hkF (by simp; omega)) (fun b _ hb => by simp at hb; omega), ((((Kept.refl [] w).alloc _).alloc _).trans hk1).trans' hkF (by simp)⟩

set_option maxRecDepth 100000 in
set_option maxHeartbeats 1600000 in
theorem ownTypes : ∀ (d : Nat) (S : Nat → Prop) (w : World) (v : Value) (l : List Ty), TR d S w v l → Calls Tryz.prog 72 #[v] w fun e w' => ∃ v', e = .returned v' ∧ TR d (w.heap.size ≤ ·) w' v' l ∧ Kept [] w w'
  | 0, S, w, v, l, h => by
    obtain ⟨a1, c1, rfl, h1, h2, h3⟩ := h.form
    obtain ⟨rfl, _⟩ := h
    go_enter Tryz.func72, Tryz.ntmps72
    go_wp2
    go_loop [3, 8] (fun v i => v = .slice none 0 0 ∧ i = .int .i64 0) (fun _ _ => 0)
    case atStart => exact ⟨rfl, rfl⟩
    case round =>
      obtain ⟨rfl, rfl⟩ := hrel
      go_wp2
      go_ret
      exact ⟨_, rfl, TR.nil 0 _ _, Kept.refl _ _⟩
  | d + 1, S, w, v, l, h => by
    have hown := fun (x : Ty) (e : Value) (w : World) (S : Nat → Prop) => ownType d (ownTypes d) (S := S) x e w
    have HOWN := Lib.hid hown
    clear hown
    obtain ⟨hl, h⟩ := h
    obtain ⟨a1, c1, rfl, h1, h2, h3⟩ := h.form
    have H3 := Lib.hid h3
    clear h h3
    obtain ⟨i0, z0, hi, hz0, hz1, hz2, hz3⟩ := info_type
    go_enter Tryz.func72, Tryz.ntmps72
    go_wp2
    go_loopw [3, 8] (fun v i wr => ∃ k : Nat, k ≤ l.length ∧ i = .int .i64 k ∧ Kept [] w wr ∧ Hid (Gr (fun S w e (x : Ty) => TR d S w e x.args) Ty.row 4 39 (w.heap.size ≤ ·) w.heap.size wr v (l.take k))) (fun _ i _ => l.length - (intOf i).toNat)
    case atStart => exact ⟨0, Nat.zero_le _, rfl, Kept.refl _ _, Gr.nil _ _ _⟩
    case round =>
      obtain ⟨k, hk, rfl, hkr, hgr⟩ := hrel
      by_cases hlt : k < l.length
      · have hne : l ≠ [] := by rintro rfl; simp at hlt
        obtain ⟨b1, o1, rfl, hSb, hb1, hc1⟩ := H3.out.resolve_left hne
        obtain ⟨x, hx⟩ : ∃ x, l[k]? = some x := ⟨l[k], by simp⟩
        obtain ⟨q, hrq, hoq, hvq⟩ := hc1 k x hx
        obtain ⟨qa, qc, rfl, _, _, _⟩ := hvq.form
        have hrg := Lib.hid (hkr.range hrq (by simp))
        have HVQ := Lib.hid ((TR.good d).kept hvq hkr (by simp))
        have HX := Lib.hid hx
        obtain ⟨es, n1, n2, n3⟩ := hgr.out
        have N3 := Lib.hid n3
        obtain ⟨xk, xn, xs, xe⟩ := x
        simp only [Ty.row, Ty.kind, Ty.name, Ty.index, Ty.args] at hrg hoq HVQ ⊢
        have HOQ := Lib.hid hoq
        obtain ⟨wo, hwo⟩ : ∃ wo : World, wo = wr := ⟨_, rfl⟩
        subst hwo
        have hlen : (List.zipWith Ty.row (l.take k) es).length = k := by rw [zip_len n1]; simp; omega
        have N2 := Lib.hid n2
        clear hrq hvq hx hc1 hne H3 hoq n2 n3
        go_wp2_with (first
          | (refine wpList_load_mid rfl 39 (.tmp 10) rfl b1 (o1 + k * 4) rfl [.int .i64 xk, .string xn, .int .i64 xs, .slice qa xe.length qc] _ hrg.out Tryz.underlying39 rfl (by kernel_rfl) ?_)
          | (go_at_call 58; (refine Calls.mono (HOWN.out ⟨xk, xn, xs, xe⟩ (.slice qa xe.length qc) _ S (by exact (TR.good d).kept HVQ.out ((Kept.refl [] _).alloc _) (by simp))) ?_; rintro e w3 ⟨q', rfl, hv3, hk3⟩; have hk3 := ((Kept.refl [] wo).alloc (.cells #[.int .i64 xk, .string xn, .int .i64 xs, .slice qa xe.length qc] 39)).trans hk3; have hq' : q'.oneCell' = true := (by obtain ⟨a, c, rfl, _⟩ := hv3.form; rfl); have HV3 := Lib.hid hv3; have NN2 := Lib.hid (N2.out.kept hk3 (by simp)); clear hv3))
          | (refine wpList_append1 (.tmp 12) (.tmp 14) 37 39 rfl rfl rfl rfl rfl i0 z0 4 56 Tryz.underlying37 hi hz0 hz1 hz2 hz3 (by decide) (by decide) w.heap.size _ _ (fun _ => rfl) (fun _ => rfl) [.int .i64 xk, .string xn, .int .i64 xs, q'] rfl rfl (by simp [Value.oneCell']; exact hq') NN2.out (by rw [hlen]; omega) (by rw [hlen]; omega) (by have := hkr.size; have := hk3.size; omega) ?_; intro v5 w5 ho5 hk5 hl5; have HO5 := Lib.hid ho5; have HK5 := Lib.hid hk5; have HL5 := Lib.hid hl5; clear ho5 hk5 hl5))
        go_roundw
        case rel =>
          have hk5 := HK5.out (u3.ownBlock.toList) (by intro y hy; simp [hy])
          have hlo := N2.out.lt
          refine ⟨k + 1, by omega, by go_num, (hkr.trans hk3).trans' hk5 (fun x hx => .inr (hlo x (by simpa using hx)).1), ?_⟩
          rw [Hid, List.take_add_one, HX.out]
          exact Gr.snoc (TR.goodAt d Ty.args) n1 (fun i x e hx he => (TR.good d).kept (N3.out i x e hx he) hk3 (by simp)) ((TR.good d).mono HV3.out (fun b _ hb => by have := hkr.size; simp at hb; exact ⟨by omega, fun e => by have := (hlo b e).2; omega⟩)) HO5.out HK5.out HL5.out
        case measure => simp [intOf]; omega
      · go_wp2
        go_ret
        have hfin := hgr.out
        rw [show k = l.length by omega, List.take_length] at hfin
        exact ⟨_, rfl, ⟨hl, hfin.rd (TR.goodAt d Ty.args) (fun _ h => h)⟩, hkr⟩
end Go.Proofs.YtkldomkooleecaaGreatDoor
