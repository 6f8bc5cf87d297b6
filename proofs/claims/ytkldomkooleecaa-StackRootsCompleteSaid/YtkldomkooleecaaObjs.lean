/- Walks: the objects in a value (objects, collect). -/
import Derived.Test.YtkldomkooleecaaStackG
import Derived.Test.YtkldomkooleecaaSortG
namespace Go.Proofs.Ytkldomkooleecaa
open Go.RowKit

/-- The objects in a value, down to a depth. -/
def objs : Nat → Vl → List Int
  | 0, x => if x.kind = 5 then [x.n] else []
  | d + 1, x => if x.kind = 5 then [x.n] else if x.kind = 4 then x.elems.flatMap (objs d) else []
theorem objs_five (d : Nat) (x : Vl) (h : x.kind = 5) : objs d x = [x.n] := by cases d <;> simp [objs, h]
theorem objs_none (d : Nat) (x : Vl) (h : x.kind ≠ 5) (h4 : x.kind ≠ 4) : objs d x = [] := by cases d <;> simp [objs, h, h4]
theorem objs_zero (x : Vl) (h : x.kind ≠ 5) : objs 0 x = [] := by simp [objs, h]
theorem objs_four (d : Nat) (x : Vl) (h4 : x.kind = 4) : objs (d + 1) x = x.elems.flatMap (objs d) := by simp [objs, h4]
theorem flat_snoc {β : Type} (f : β → List Int) (l : List β) (k : Nat) (x : β) (h : l[k]? = some x) : (l.take (k + 1)).flatMap f = (l.take k).flatMap f ++ f x := by
  rw [List.take_add_one, h]; simp

set_option maxRecDepth 100000 in
set_option maxHeartbeats 1600000 in
theorem objects : ∀ (d : Nat) (S : Nat → Prop) (w : World) (m : Nat) (s : List Int) (x : Vl) (e : Value), VR d S w e x.elems → IsSet w m s → ¬ S m →
    Calls Try.prog 47 #[.map (some m), .agg #[.int .i64 x.kind, .int .i64 x.n, .string x.s, e]] w fun q w' => q = .returned (.tuple #[]) ∧ IsSet w' m ((objs d x).foldl put s) ∧ Kept [m] w w' := by
  intro d
  induction d with
  | zero =>
    intro S w m s x e h hs hS
    obtain ⟨a1, c1, rfl, h1, h2, h3⟩ := h.form
    have hml := hs.lt
    have HSET := Lib.hid hs
    have hel : x.elems = [] := h.1
    clear h hs
    by_cases h5 : x.kind = 5
    · have h5' : (x.kind == 5) = true := by simpa using h5
      have HO := Lib.hid (objs_five 0 x h5)
      clear h5
      go_enter Try.func47, Try.ntmps47
      go_wp2_with (refine wpList_set_put rfl (.tmp 10) (.tmp 12) (.const (.bool true)) 93 (.inl rfl) 2 4 Try.underlying93 Try.underlying2 m s x.n rfl rfl rfl (HSET.out.kept ((Kept.refl [] w).alloc _) (by simp)) ?_; intro w3 hs3 hk3 hz3; have HS3 := Lib.hid hs3; clear hs3 hz3)
      go_end0
      exact ⟨rfl, by rw [HO.out]; exact HS3.out, ((Kept.refl _ w).alloc _).trans hk3⟩
    · have h5' : (x.kind == 5) = false := by simpa using h5
      have HO := Lib.hid (objs_zero x h5)
      rw [hel] at h1 h3 ⊢
      clear hel
      by_cases h4 : x.kind = 4
      · have h4' : (x.kind == 4) = true := by simpa using h4
        clear h4 h5
        go_enter Try.func47, Try.ntmps47
        go_wp2
        go_loop [18] (fun i => i = .int .i64 0) (fun _ => 0)
        case atStart => exact rfl
        case round =>
          obtain rfl := hrel
          go_wp2
          go_end0
          exact ⟨rfl, by rw [HO.out]; exact HSET.out.kept ((Kept.refl [] w).alloc _) (by simp), (Kept.refl _ w).alloc _⟩
      · have h4' : (x.kind == 4) = false := by simpa using h4
        clear h4 h5
        go_enter Try.func47, Try.ntmps47
        go_wp2
        go_end0
        exact ⟨rfl, by rw [HO.out]; exact HSET.out.kept ((Kept.refl [] w).alloc _) (by simp), (Kept.refl _ w).alloc _⟩
  | succ d ih =>
    intro S w m s x e h hs hS
    have IH := Lib.hid ih
    clear ih
    have hml := hs.lt
    have HSET := Lib.hid hs
    clear hs
    obtain ⟨hl, h⟩ := h
    obtain ⟨a1, c1, rfl, h1, h2, h3⟩ := h.form
    have H3 := Lib.hid h3
    clear h h3
    by_cases h5 : x.kind = 5
    · have h5' : (x.kind == 5) = true := by simpa using h5
      have HO := Lib.hid (objs_five (d + 1) x h5)
      clear h5
      go_enter Try.func47, Try.ntmps47
      go_wp2_with (refine wpList_set_put rfl (.tmp 10) (.tmp 12) (.const (.bool true)) 93 (.inl rfl) 2 4 Try.underlying93 Try.underlying2 m s x.n rfl rfl rfl (HSET.out.kept ((Kept.refl [] w).alloc _) (by simp)) ?_; intro w3 hs3 hk3 hz3; have HS3 := Lib.hid hs3; clear hs3 hz3)
      go_end0
      exact ⟨rfl, by rw [HO.out]; exact HS3.out, ((Kept.refl _ w).alloc _).trans hk3⟩
    · have h5' : (x.kind == 5) = false := by simpa using h5
      by_cases h4 : x.kind = 4
      · have h4' : (x.kind == 4) = true := by simpa using h4
        have HO := Lib.hid (objs_four d x h4)
        obtain ⟨xk, xn, xs, xe⟩ := x
        simp only [Vl.kind, Vl.n, Vl.s, Vl.elems] at h4' h5' H3 hl h1 HO ⊢
        clear h4 h5
        go_enter Try.func47, Try.ntmps47
        go_wp2
        go_loopw [18] (fun i wr => ∃ k : Nat, k ≤ xe.length ∧ i = .int .i64 k ∧ Kept [m] w wr ∧ w.heap.size + 1 ≤ wr.heap.size ∧ Hid (IsSet wr m (((xe.take k).flatMap (objs d)).foldl put s))) (fun i _ => xe.length - (intOf i).toNat)
        case atStart => exact ⟨0, Nat.zero_le _, rfl, (Kept.refl _ w).alloc _, by simp, HSET.out.kept ((Kept.refl [] w).alloc _) (by simp)⟩
        case round =>
          obtain ⟨k, hk, rfl, hkr, hsz, hsr⟩ := hrel
          by_cases hlt : k < xe.length
          · have hne : xe ≠ [] := by rintro rfl; simp at hlt
            obtain ⟨b1, o1, rfl, hSb, hb1, hc1⟩ := H3.out.resolve_left hne
            obtain ⟨y, hy⟩ : ∃ y, xe[k]? = some y := ⟨xe[k], by simp⟩
            obtain ⟨q, hrq, hoq, hvq⟩ := hc1 k y hy
            obtain ⟨qa, qc, rfl, _, _, _⟩ := hvq.form
            have hnm : ∀ z ∈ [m], ¬ S z := by intro z hz; simp at hz; subst hz; exact hS
            have hrg := Lib.hid (hkr.range hrq (fun hx => hnm _ hx hSb))
            have HVQ := Lib.hid ((VR.good d).kept hvq hkr hnm)
            have HFS := Lib.hid (flat_snoc (objs d) xe k y hy)
            obtain ⟨yk, yn, ys, ye⟩ := y
            simp only [Vl.row, Vl.kind, Vl.n, Vl.s] at hrg hoq HVQ ⊢
            clear hrq hvq hy hc1 hne H3 hoq hnm
            go_wp2_with (first
              | (refine wpList_load_mid rfl 50 (.tmp 20) rfl b1 (o1 + k * 4) rfl [.int .i64 yk, .int .i64 yn, .string ys, .slice qa ye.length qc] _ hrg.out Try.underlying50 rfl (by kernel_rfl) ?_)
              | (go_at_call 47; refine Calls.mono (IH.out S _ m _ ⟨yk, yn, ys, ye⟩ (.slice qa ye.length qc) (by exact (VR.good d).kept HVQ.out ((Kept.refl [] _).alloc _) (by simp)) (by exact hsr.out.kept ((Kept.refl [] _).alloc _) (by simp)) hS) ?_; rintro e w3 ⟨rfl, hs3, hk3⟩; have HS3 := Lib.hid hs3; have hsz3 := hk3.size; simp at hsz3; clear hs3))
            go_roundw
            case rel =>
              refine ⟨k + 1, by omega, by go_num, (hkr.alloc _).trans hk3, by omega, ?_⟩
              rw [Hid, HFS.out, List.foldl_append]
              exact HS3.out
            case measure => simp [intOf]; omega
          · go_wp2
            go_end0
            have hfin := hsr.out
            rw [show k = xe.length by omega, List.take_length] at hfin
            exact ⟨rfl, by rw [HO.out]; exact hfin, hkr⟩
      · have h4' : (x.kind == 4) = false := by simpa using h4
        have HO := Lib.hid (objs_none (d + 1) x h5 h4)
        clear h4 h5
        go_enter Try.func47, Try.ntmps47
        go_wp2
        go_end0
        exact ⟨rfl, by rw [HO.out]; exact HSET.out.kept ((Kept.refl [] w).alloc _) (by simp), (Kept.refl _ w).alloc _⟩

set_option maxRecDepth 100000 in
set_option maxHeartbeats 1600000 in
/-- A value that is no tuple. -/
theorem collect_flat (d : Nat) (S : Nat → Prop) (w : World) (m : Nat) (s : List Int) (x : Vl) (e : Value) (h : VR d S w e x.elems) (hs : IsSet w m s) (h4 : x.kind ≠ 4 ∨ x.elems = []) :
    Calls Try.prog 22 #[.agg #[.int .i64 x.kind, .int .i64 x.n, .string x.s, e], .map (some m)] w fun q w' => q = .returned (.tuple #[]) ∧ IsSet w' m ((objs d x).foldl put s) ∧ Kept [m] w w' := by
  obtain ⟨a1, c1, rfl, h1, h2, h3⟩ := h.form
  have hml := hs.lt
  have HSET := Lib.hid hs
  clear h hs
  by_cases h5 : x.kind = 5
  · have h5' : (x.kind == 5) = true := by simpa using h5
    have h4' : (x.kind == 4) = false := by simp [h5]
    have HO := Lib.hid (objs_five d x h5)
    clear h5 h4
    by_cases h0 : 0 < x.elems.length
    all_goals
      go_enter Try.func22, Try.ntmps22
      go_wp2_with (refine wpList_set_put rfl (.tmp 8) (.tmp 10) (.const (.bool true)) 40 (.inl rfl) 2 4 Try.underlying40 Try.underlying2 m s x.n rfl rfl rfl (HSET.out.kept ((Kept.refl [] w).alloc _) (by simp)) ?_; intro w3 hs3 hk3 hz3; have HS3 := Lib.hid hs3; have hb3 := (Blk.new w [.int .i64 x.kind, .int .i64 x.n, .string x.s, .slice a1 x.elems.length c1] 50).kept hk3 (by simp; omega); obtain ⟨⟨i0, i1, i2, i3⟩, _⟩ := hb3.four; clear hs3 hz3 hb3)
      go_loop [4] (fun i => i = .int .i64 0) (fun _ => 0)
      case atStart => exact rfl
      case round =>
        obtain rfl := hrel
        go_wp2
        go_end0
        exact ⟨rfl, by rw [HO.out]; exact HS3.out, ((Kept.refl _ w).alloc _).trans hk3⟩
  · have h5' : (x.kind == 5) = false := by simpa using h5
    have HO : Hid (objs d x = []) := by
      rcases h4 with h4 | h4
      · exact Lib.hid (objs_none d x h5 h4)
      · cases d <;> simp [Hid, objs, h5, h4]
    clear h5
    by_cases h0 : 0 < x.elems.length
    · have h4' : (x.kind == 4) = false := by
        rcases h4 with h4 | h4
        · simpa using h4
        · rw [h4] at h0; simp at h0
      clear h4
      go_enter Try.func22, Try.ntmps22
      go_wp2
      go_loop [4] (fun i => i = .int .i64 0) (fun _ => 0)
      case atStart => exact rfl
      case round =>
        obtain rfl := hrel
        go_wp2
        go_end0
        exact ⟨rfl, by rw [HO.out]; exact HSET.out.kept ((Kept.refl [] w).alloc _) (by simp), (Kept.refl _ w).alloc _⟩
    · clear h4
      go_enter Try.func22, Try.ntmps22
      go_wp2
      go_loop [4] (fun i => i = .int .i64 0) (fun _ => 0)
      case atStart => exact rfl
      case round =>
        obtain rfl := hrel
        go_wp2
        go_end0
        exact ⟨rfl, by rw [HO.out]; exact HSET.out.kept ((Kept.refl [] w).alloc _) (by simp), (Kept.refl _ w).alloc _⟩

set_option maxRecDepth 100000 in
set_option maxHeartbeats 1600000 in
theorem collect : ∀ (d : Nat) (S : Nat → Prop) (w : World) (m : Nat) (s : List Int) (x : Vl) (e : Value), VR d S w e x.elems → IsSet w m s → ¬ S m →
    Calls Try.prog 22 #[.agg #[.int .i64 x.kind, .int .i64 x.n, .string x.s, e], .map (some m)] w fun q w' => q = .returned (.tuple #[]) ∧ IsSet w' m ((objs d x).foldl put s) ∧ Kept [m] w w' := by
  intro d
  induction d with
  | zero => exact fun S w m s x e h hs hS => collect_flat 0 S w m s x e h hs (.inr h.1)
  | succ d ih =>
    intro S w m s x e h hs hS
    by_cases h4 : x.kind = 4
    · have IH := Lib.hid ih
      clear ih
      have hml := hs.lt
      have HSET := Lib.hid hs
      clear hs
      obtain ⟨hl, h⟩ := h
      obtain ⟨a1, c1, rfl, h1, h2, h3⟩ := h.form
      have H3 := Lib.hid h3
      clear h h3
      have h5' : (x.kind == 5) = false := by simp [h4]
      have h4' : (x.kind == 4) = true := by simpa using h4
      have HO := Lib.hid (objs_four d x h4)
      obtain ⟨xk, xn, xs, xe⟩ := x
      simp only [Vl.kind, Vl.n, Vl.s, Vl.elems] at h4' h5' H3 hl h1 HO ⊢
      clear h4
      go_enter Try.func22, Try.ntmps22
      go_wp2
      have HBX := Lib.hid (Blk.new w [.int .i64 xk, .int .i64 xn, .string xs, .slice a1 xe.length c1] 50)
      go_loopw [4] (fun i wr => ∃ k : Nat, k ≤ xe.length ∧ i = .int .i64 k ∧ Kept [m] w wr ∧ w.heap.size + 1 ≤ wr.heap.size ∧ Hid (IsSet wr m (((xe.take k).flatMap (objs d)).foldl put s)) ∧ Hid (Blk wr w.heap.size [.int .i64 xk, .int .i64 xn, .string xs, .slice a1 xe.length c1] 50)) (fun i _ => xe.length - (intOf i).toNat)
      case atStart => exact ⟨0, Nat.zero_le _, rfl, (Kept.refl _ w).alloc _, by simp, HSET.out.kept ((Kept.refl [] w).alloc _) (by simp), HBX.out⟩
      case round =>
        obtain ⟨k, hk, rfl, hkr, hsz, hsr, hbx⟩ := hrel
        obtain ⟨⟨i0, i1, i2, i3⟩, _⟩ := hbx.out.four
        by_cases hlt : k < xe.length
        · have hne : xe ≠ [] := by rintro rfl; simp at hlt
          obtain ⟨b1, o1, rfl, hSb, hb1, hc1⟩ := H3.out.resolve_left hne
          obtain ⟨y, hy⟩ : ∃ y, xe[k]? = some y := ⟨xe[k], by simp⟩
          obtain ⟨q, hrq, hoq, hvq⟩ := hc1 k y hy
          obtain ⟨qa, qc, rfl, _, _, _⟩ := hvq.form
          have hnm : ∀ z ∈ [m], ¬ S z := by intro z hz; simp at hz; subst hz; exact hS
          have hrg := Lib.hid (hkr.range hrq (fun hx => hnm _ hx hSb))
          have HVQ := Lib.hid ((VR.good d).kept hvq hkr hnm)
          have HFS := Lib.hid (flat_snoc (objs d) xe k y hy)
          obtain ⟨yk, yn, ys, ye⟩ := y
          simp only [Vl.row, Vl.kind, Vl.n, Vl.s] at hrg hoq HVQ ⊢
          clear hrq hvq hy hc1 hne H3 hoq hnm
          go_wp2_with (first
            | (refine wpList_load_mid rfl 50 (.tmp 26) rfl b1 (o1 + k * 4) rfl [.int .i64 yk, .int .i64 yn, .string ys, .slice qa ye.length qc] _ hrg.out Try.underlying50 rfl (by kernel_rfl) ?_)
            | (go_at_call 22; refine Calls.mono (IH.out S _ m _ ⟨yk, yn, ys, ye⟩ (.slice qa ye.length qc) (by exact HVQ.out) (by exact hsr.out) hS) ?_; rintro e w3 ⟨rfl, hs3, hk3⟩; have HS3 := Lib.hid hs3; have hsz3 := hk3.size; have hbx3 := Lib.hid (hbx.out.kept hk3 (by simp; omega)); clear hs3))
          go_roundw
          case rel =>
            refine ⟨k + 1, by omega, by go_num, hkr.trans hk3, by omega, ?_, hbx3⟩
            rw [Hid, HFS.out, List.foldl_append]
            exact HS3.out
          case measure => simp [intOf]; omega
        · go_wp2
          go_end0
          have hfin := hsr.out
          rw [show k = xe.length by omega, List.take_length] at hfin
          exact ⟨rfl, by rw [HO.out]; exact hfin, hkr⟩
    · exact collect_flat (d + 1) S w m s x e h hs (.inl h4)
end Go.Proofs.Ytkldomkooleecaa
