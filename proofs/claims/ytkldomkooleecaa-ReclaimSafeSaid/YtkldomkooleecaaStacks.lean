/- Generated stacks of frames. -/
import Derived.Test.YtkldomkooleecaaGen
namespace Go.Proofs.Ytkldomkooleecaa
open Go.RowKit

def mkf (c m w : Int) : Fr := ⟨c, m, w, 0, .slice none 0 0⟩
/-- Generated frames. -/
def GenF (f : List Fr) : Prop := ∀ x ∈ f, ∃ c m w, x = mkf c m w ∧ 0 ≤ c ∧ c ≤ 7 ∧ 0 ≤ m ∧ m ≤ 3 ∧ 1 ≤ w ∧ w ≤ 9
theorem GenF.snoc {f : List Fr} (h : GenF f) {c m w : Int} (h1 : 0 ≤ c) (h2 : c ≤ 7) (h3 : 0 ≤ m) (h4 : m ≤ 3) (h5 : 1 ≤ w) (h6 : w ≤ 9) : GenF (f ++ [mkf c m w]) := by
  intro x hx
  rcases List.mem_append.1 hx with hx | hx
  · exact h x hx
  · simp at hx
    exact ⟨c, m, w, hx, h1, h2, h3, h4, h5, h6⟩

/-- Slices of frames that are being gathered: v can be appended to, and what its elements lead to lies elsewhere. -/
def Grow (w : World) (base : Nat) (v : Value) (fs : List (List Fr)) : Prop :=
  ∃ us : List Value, us.length = fs.length ∧ Own w base 25 1 v (us.map fun u => [u]) ∧ ∀ (k : Nat) (u : Value) (f : List Fr), us[k]? = some u → fs[k]? = some f → Reads (fun x => base ≤ x ∧ v.ownBlock ≠ some x) w u 5 (frows f)
theorem Grow.stk {w : World} {base : Nat} {v : Value} {fs : List (List Fr)} (h : Grow w base v fs) : Stk (base ≤ ·) w v fs := by
  obtain ⟨us, h1, h2, h3⟩ := h
  exact ⟨us, h1, h2.rows', fun k u f hu hf => (h3 k u f hu hf).mono fun _ _ h => h.1⟩
theorem Grow.snoc {w w2 : World} {base : Nat} {v v' u : Value} {fs : List (List Fr)} {f : List Fr} {us : List Value} (h1 : us.length = fs.length)
    (h3 : ∀ (k : Nat) (u : Value) (f : List Fr), us[k]? = some u → fs[k]? = some f → Reads (fun x => base ≤ x ∧ v.ownBlock ≠ some x) w u 5 (frows f))
    (hu : Reads (fun x => base ≤ x ∧ v.ownBlock ≠ some x) w u 5 (frows f))
    (ho : Own w2 base 25 1 v' ((us.map fun u => [u]) ++ [[u]])) (hk : ∀ M, (∀ x, v.ownBlock = some x → x ∈ M) → Kept M w w2) (hl : v'.ownBlock = v.ownBlock ∨ ∃ g, v'.ownBlock = some g ∧ w.heap.size ≤ g) : Grow w2 base v' (fs ++ [f]) := by
  have key : ∀ u f, Reads (fun x => base ≤ x ∧ v.ownBlock ≠ some x) w u 5 (frows f) → Reads (fun x => base ≤ x ∧ v'.ownBlock ≠ some x) w2 u 5 (frows f) := by
    intro u f h
    have h' : Reads (fun x => base ≤ x ∧ v.ownBlock ≠ some x ∧ v'.ownBlock ≠ some x) w u 5 (frows f) := h.mono fun x hx hq => ⟨hq.1, hq.2, by
      rcases hl with hl | ⟨g, hg, hge⟩
      · rw [hl]; exact hq.2
      · rw [hg]; intro e; cases e; omega⟩
    exact (h'.kept (hk v.ownBlock.toList (fun x hx => by simp [hx])) (fun x hx hq => hq.2.1 (by simpa using hx))).mono fun x _ hq => ⟨hq.1, hq.2.2⟩
  refine ⟨us ++ [u], by simp [h1], by simpa using ho, fun k u' f' hu' hf' => ?_⟩
  rcases Nat.lt_or_ge k us.length with hlt | hge
  · rw [List.getElem?_append_left hlt] at hu'
    rw [List.getElem?_append_left (by omega)] at hf'
    exact key _ _ (h3 k u' f' hu' hf')
  · rw [List.getElem?_append_right hge] at hu'
    rw [List.getElem?_append_right (by omega)] at hf'
    rw [← h1] at hf'
    rcases Nat.eq_or_lt_of_le hge with e | e
    · rw [← e, Nat.sub_self] at hu' hf'
      simp at hu' hf'
      subst hu' hf'
      exact key _ _ hu
    · rw [List.getElem?_eq_none (by simp; omega)] at hu'
      cases hu'
theorem Grow.kept {w w2 : World} {base : Nat} {v : Value} {fs : List (List Fr)} {M : List Nat} (h : Grow w base v fs) (k : Kept M w w2) (hm : ∀ x ∈ M, x < base) : Grow w2 base v fs := by
  obtain ⟨us, h1, h2, h3⟩ := h
  exact ⟨us, h1, h2.kept k (fun x hx hm' => by have := (h2.lt x hx).1; have := hm x hm'; omega), fun i u f hu hf => (h3 i u f hu hf).kept k (fun x hx hq => by have := hm x hx; omega)⟩

set_option maxRecDepth 100000 in
set_option maxHeartbeats 3200000 in
theorem stacks (b m : Nat) (w : World) (hT : Tp w b m) (hm : m ≤ 100000) :
    Calls Try.prog 10 #[.pointer (some ⟨b, 0, none⟩)] w fun e w' => ∃ v' fs, e = .returned v' ∧ fs.length ≤ 3 ∧ (∀ f ∈ fs, f.length ≤ 4 ∧ GenF f) ∧ Stk (w.heap.size ≤ ·) w' v' fs ∧ Tp w' b (m + 40) ∧ Kept [b] w w' := by
  have hbl := hT.lt
  obtain ⟨i0, z0, hi, hz0, hz1, hz2, hz3⟩ := info_frame'
  obtain ⟨j0, y0, hj, hy0, hy1, hy2, hy3⟩ := info_slice
  go_enter Try.func10, Try.ntmps10
  go_wp2_with (go_at_call_of 26 (Value.int IntKind.i64 4); refine Calls.mono (tapeNext b _ _ _ (by exact hT) (by omega) (by omega)) ?_; rintro e w1 ⟨n, rfl, hn, _, hn', hT, hk⟩; have hn' := hn' (by omega))
  go_loopw [3, 4] (fun v i wr => ∃ (n : Int) (fs : List (List Fr)), i = .int .i64 n ∧ 0 ≤ n ∧ n + fs.length ≤ 3 ∧ (∀ f ∈ fs, f.length ≤ 4 ∧ GenF f) ∧ Hid (Grow wr w.heap.size v fs) ∧ Tp wr b (m + 1 + 13 * fs.length) ∧ Kept [b] w wr) (fun _ i _ => (intOf i).toNat)
  case atStart => exact ⟨n, [], rfl, hn, by simp; omega, by simp, ⟨[], rfl, Own.nil _ _ _ _, fun k u f hu => by simp at hu⟩, hT, hk⟩
  case round =>
    obtain ⟨n, fs, rfl, hn, hnl, hfs, hgr, hT, hk⟩ := hrel
    by_cases hlt : 0 < n
    · obtain ⟨wo, hwo⟩ : ∃ wo : World, wo = wr := ⟨_, rfl⟩
      subst hwo
      go_wp2_with (go_at_call_of 26 (Value.int IntKind.i64 5); refine Calls.mono (tapeNext b _ _ _ (by exact hT) (by omega) (by omega)) ?_; rintro e w1 ⟨q, rfl, hq, _, hq', hT, hk1⟩; have hq' := hq' (by omega))
      go_loopw [5, 6] (fun v i wr => ∃ (q : Int) (f : List Fr), i = .int .i64 q ∧ 0 ≤ q ∧ q + f.length ≤ 4 ∧ GenF f ∧ Hid (Own wr wo.heap.size 43 5 v (frows f)) ∧ Tp wr b (m + 1 + 13 * fs.length + 1 + 3 * f.length) ∧ Kept [b] wo wr) (fun _ i _ => (intOf i).toNat)
      case atStart => exact ⟨q, [], rfl, hq, by simp; omega, fun x hx => by simp at hx, Own.nil _ _ _ _, hT, hk1⟩
      case round =>
        obtain ⟨q, f, rfl, hq, hql, hgf, hown, hT, hk1⟩ := hrel
        by_cases hlq : 0 < q
        · have hk1' := Kept.refl [b] wr
          have hs1 := hk.size
          have hs2 := hk1.size
          have HOWN := Lib.hid hown.out
          go_wp2_with (first
            | (go_at_call_of 26 (Value.int IntKind.i64 8); refine Calls.mono (tapeNext b _ _ _ (by exact hT) (by omega) (by omega)) ?_; rintro e w3 ⟨p8, rfl, hp8, _, hp8', hT, hk3⟩; have hp8' := hp8' (by omega); have hk1' := hk1'.trans hk3)
            | (go_at_call_of 26 (Value.int IntKind.i64 4); refine Calls.mono (tapeNext b _ _ _ (by exact hT) (by omega) (by omega)) ?_; rintro e w3 ⟨p4, rfl, hp4, _, hp4', hT, hk3⟩; have hp4' := hp4' (by omega); have hk1' := hk1'.trans hk3)
            | (go_at_call_of 26 (Value.int IntKind.i64 9); refine Calls.mono (tapeNext b _ _ _ (by exact hT) (by omega) (by omega)) ?_; rintro e w3 ⟨p9, rfl, hp9, _, hp9', hT, hk3⟩; have hp9' := hp9' (by omega); have hk1' := hk1'.trans hk3; have hs3 := hk1'.size; have HOWN := Lib.hid (hown.out.kept hk1' (fun x hx => by have := (hown.out.lt x hx).1; simp; omega)))
            | (refine wpList_append1 (.tmp 19) (.tmp 27) 25 43 rfl rfl rfl rfl rfl i0 z0 5 56 Try.underlying25 hi hz0 hz1 hz2 hz3 (by decide) (by decide) wo.heap.size _ _ (fun _ => rfl) (fun _ => rfl) (mkf p8 p4 (1 + p9)).cells rfl rfl (by simp [mkf, Fr.cells, Value.oneCell']) HOWN.out (by simp; omega) (by simp; omega) (by omega) ?_; intro v5 w5 ho5 hk5 hl5; clear hl5; have HO5 := Lib.hid ho5; have HK5 := Lib.hid hk5; clear ho5 hk5))
          go_roundw
          case rel =>
            have hlo := HOWN.out.lt
            have hkk := HK5.out (u5.ownBlock.toList) (by intro y hy; simp [hy])
            refine ⟨q - 1, f ++ [mkf p8 p4 (1 + p9)], by go_num, by omega, by simp; omega, hgf.snoc (by omega) (by omega) (by omega) (by omega) (by omega) (by omega), ?_, ?_, ?_⟩
            · rw [Hid, frows, List.map_append]
              exact HO5.out
            · exact (hT.kept hkk (fun x hx => by have := (hlo x (by simpa using hx)).1; omega)).more (by simp; omega)
            · exact (hk1.trans hk1').trans' hkk (fun x hx => .inr (hlo x (by simpa using hx)).1)
          case measure => simp [intOf]; omega
        · obtain ⟨us, g1, g2, g3⟩ := hgr.out
          obtain ⟨a5, c5, rfl, _, _⟩ := hown.out.shape
          have hs1 := hk.size
          have hs2 := hk1.size
          have G2 := Lib.hid (g2.kept hk1 (fun x hx => by have := (g2.lt x hx).1; simp; omega))
          have G3 := Lib.hid (fun (k : Nat) (u : Value) (f : List Fr) (hu : us[k]? = some u) (hf : fs[k]? = some f) => (g3 k u f hu hf).kept hk1 (fun x hx hq => by simp at hx; omega))
          have GU := Lib.hid (hown.out.rows'.mono (S' := fun x => w.heap.size ≤ x ∧ u3.ownBlock ≠ some x) (fun x _ hx => ⟨by omega, fun e => by have := (g2.lt x e).2; omega⟩))
          clear g2 g3
          go_wp2_with (refine wpList_append1 (.tmp 30) (.tmp 31) 23 25 rfl rfl rfl rfl rfl j0 y0 1 24 Try.underlying23 hj hy0 hy1 hy2 hy3 (by decide) (by decide) w.heap.size _ _ (fun _ => rfl) (fun _ => rfl) [.slice a5 (frows f).length c5] rfl rfl (by simp [Value.oneCell']) G2.out (by simp; omega) (by simp; omega) (by omega) ?_; intro v5 w5 ho5 hk5 hl5; have HO5 := Lib.hid ho5; have HK5 := Lib.hid hk5; have HL5 := Lib.hid hl5; clear ho5 hk5 hl5)
          go_roundw
          case rel =>
            have hlo := G2.out.lt
            have hkk := HK5.out (u3.ownBlock.toList) (by intro y hy; simp [hy])
            refine ⟨n - 1, fs ++ [f], by go_num, by omega, by simp; omega, ?_, ?_, ?_, ?_⟩
            · intro g hg
              rcases List.mem_append.1 hg with hg | hg
              · exact hfs g hg
              · simp at hg
                subst hg
                exact ⟨by omega, hgf⟩
            · exact Grow.snoc g1 G3.out GU.out HO5.out HK5.out HL5.out
            · exact (hT.kept hkk (fun x hx => by have := (hlo x (by simpa using hx)).1; omega)).more (by simp; omega)
            · exact (hk.trans hk1).trans' hkk (fun x hx => .inr (hlo x (by simpa using hx)).1)
          case measure => simp [intOf]; omega
    · go_wp2
      go_ret
      exact ⟨_, rfl, fs, by omega, hfs, hgr.out.stk, hT.more (by omega), hk⟩
end Go.Proofs.Ytkldomkooleecaa
