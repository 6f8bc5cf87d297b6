/- Walks: Roots of a stack of frames. -/
import Derived.Test.YtkldomkooleecaaObjs
namespace Go.Proofs.Ytkldomkooleecaa
open Go.RowKit

/-- The objects in the slots of frames. -/
def sobjs (d : Nat) (l : List Vl) : List Int := l.flatMap (objs d)
def fobjs (d : Nat) (l : List Frm) : List Int := l.flatMap fun x => sobjs d x.slots
/-- Objects as values. -/
def rroot (n : Int) : List Value := [.int .i64 5, .int .i64 n, .string ⟨#[]⟩, .slice none 0 0]
def rroots (l : List Int) : List (List Value) := l.map rroot
@[simp] theorem rroots_length (l : List Int) : (rroots l).length = l.length := by simp [rroots]

set_option maxRecDepth 100000 in
set_option maxHeartbeats 3200000 in
theorem stackRoots (d : Nat) {S : Nat → Prop} {g : Option Nat} (b : Nat) (l : List Frm) (w : World) (h : Sk (d + 1) S w b g l) (hl : l.length ≤ 1000) (ho : (fobjs d l).length ≤ 1000000) :
    Calls Try.prog 23 #[.pointer (some ⟨b, 0, none⟩)] w fun e w' => ∃ v', e = .returned v' ∧ Own w' w.heap.size 50 4 v' (rroots ((fobjs d l).foldl ins [])) ∧ Kept [] w w' := by
  have h := h.mono (S' := fun y => S y ∧ y < w.heap.size) (fun _ hx hs => ⟨hs, hx⟩)
  have hbl := h.lt
  obtain ⟨a1, c1, e0, _, h1, h2, h3⟩ := h.form
  have H3 := Lib.hid h3
  have HO := Lib.hid ho
  clear h3 h ho
  obtain ⟨i0, z0, hi, hz0, hz1, hz2, hz3⟩ := info_value
  have hmm := @run_makeMap Try.prog
  have hnS : ¬ (S w.heap.size ∧ w.heap.size < w.heap.size) := by omega
  go_enter Try.func23, Try.ntmps23
  go_wp2
  have HS1 := Lib.hid (IsSet.made w)
  go_loopw [17] (fun i wr => ∃ k : Nat, k ≤ l.length ∧ i = .int .i64 k ∧ Kept [] w wr ∧ w.heap.size + 1 ≤ wr.heap.size ∧ Hid (IsSet wr w.heap.size ((fobjs d (l.take k)).foldl put []))) (fun i _ => l.length - (intOf i).toNat)
  case atStart => exact ⟨0, Nat.zero_le _, rfl, (Kept.refl [] w).alloc _, by simp, HS1.out⟩
  case round =>
    obtain ⟨k, hk, rfl, hkr, hsz, hsr⟩ := hrel
    by_cases hlt : k < l.length
    · have hne : l ≠ [] := by rintro rfl; simp at hlt
      obtain ⟨b2, o2, rfl, hb2, hc2⟩ := H3.out.resolve_left hne
      obtain ⟨x, hx⟩ : ∃ x, l[k]? = some x := ⟨l[k], by simp⟩
      obtain ⟨q, hrx, hox, hvq⟩ := hc2 k x hx
      have hvq' := (VR.good (d + 1)).kept hvq hkr (by simp)
      obtain ⟨hql, hvq'⟩ := hvq'
      obtain ⟨qa, qc, rfl, g1, g2, g3⟩ := hvq'.form
      have hrg := Lib.hid (hkr.range hrx (by simp))
      have HX := Lib.hid (show fobjs d (l.take (k + 1)) = fobjs d (l.take k) ++ sobjs d x.slots from flat_snoc _ l k x hx)
      have G3 := Lib.hid g3
      obtain ⟨xc, xm, xw, xp, xs⟩ := x
      simp only [Frm.row] at hrg G3 HX g1 hql
      obtain ⟨wo, hwo⟩ : ∃ wo : World, wo = wr := ⟨_, rfl⟩
      subst hwo
      clear hrx hx hc2 hne H3 hox hvq hvq' g3
      go_wp2_with (refine wpList_load_mid rfl 43 (.tmp 19) rfl b2 (o2 + k * 5) rfl [.int .i64 xc, .int .i64 xm, .int .i64 xw, .int .i64 xp, .slice qa xs.length qc] _ hrg.out Try.underlying43 rfl (by kernel_rfl) ?_)
      go_loopw [24] (fun i wr => ∃ j : Nat, j ≤ xs.length ∧ i = .int .i64 j ∧ Kept [w.heap.size] wo wr ∧ Hid (IsSet wr w.heap.size ((fobjs d (l.take k) ++ sobjs d (xs.take j)).foldl put []))) (fun i _ => xs.length - (intOf i).toNat)
      case atStart => exact ⟨0, Nat.zero_le _, rfl, (Kept.refl _ wo).alloc _, by rw [Hid]; simpa [sobjs] using hsr.out.kept ((Kept.refl [] _).alloc _) (by simp)⟩
      case round =>
        obtain ⟨j, hj, rfl, hkj, hsj⟩ := hrel
        have hszj := hkj.size
        by_cases hjt : j < xs.length
        · have hnx : xs ≠ [] := by rintro rfl; simp at hjt
          obtain ⟨b3, o3, rfl, hSb3, hb3, hc3⟩ := G3.out.resolve_left hnx
          obtain ⟨y, hy⟩ : ∃ y, xs[j]? = some y := ⟨xs[j], by simp⟩
          obtain ⟨u, hru, hou, hvu⟩ := hc3 j y hy
          obtain ⟨ua, uc, rfl, _, _, _⟩ := hvu.form
          have hrg2 := Lib.hid (hkj.range hru (by simp; omega))
          have HVU := Lib.hid ((VR.good d).kept hvu hkj (by simp))
          have HY := Lib.hid (show sobjs d (xs.take (j + 1)) = sobjs d (xs.take j) ++ objs d y from flat_snoc _ xs j y hy)
          obtain ⟨yk, yn, ys, ye⟩ := y
          simp only [Vl.row, Vl.kind, Vl.n, Vl.s] at hrg2 hou HVU
          clear hru hvu hy hc3 hnx G3 hou
          go_wp2_with (first
            | (refine wpList_load_mid rfl 50 (.tmp 26) rfl b3 (o3 + j * 4) rfl [.int .i64 yk, .int .i64 yn, .string ys, .slice ua ye.length uc] _ hrg2.out Try.underlying50 rfl (by kernel_rfl) ?_)
            | (go_at_call 47; refine Calls.mono (objects d _ _ w.heap.size _ ⟨yk, yn, ys, ye⟩ (.slice ua ye.length uc) (by exact (VR.good d).kept HVU.out ((Kept.refl [] _).alloc _) (by simp)) (by exact hsj.out.kept ((Kept.refl [] _).alloc _) (by simp)) (by exact hnS)) ?_; rintro e w3 ⟨rfl, hs3, hk3⟩; have HS3 := Lib.hid hs3; clear hs3))
          go_roundw
          case rel =>
            refine ⟨j + 1, by omega, by go_num, (hkj.alloc _).trans hk3, ?_⟩
            rw [Hid, HY.out, ← List.append_assoc, List.foldl_append]
            exact HS3.out
          case measure => simp [intOf]; omega
        · go_wp2
          go_roundw
          case rel =>
            refine ⟨k + 1, by omega, by go_num, hkr.trans' hkj (by simp), by omega, ?_⟩
            have h := hsj.out
            rw [show j = xs.length by omega, List.take_length] at h
            rw [Hid, HX.out]
            exact h
          case measure => simp [intOf]; omega
    · have hfin := hsr.out
      rw [show k = l.length by omega, List.take_length] at hfin
      have hlen : ((fobjs d l).foldl put []).length ≤ 1000000 := by
        have h1 := puts_length (fobjs d l) []
        have := HO.out
        simp at h1
        omega
      have HFIN := Lib.hid hfin
      have HLEN := Lib.hid hlen
      have e1 := sorted_set (fobjs d l) [] [] ((fobjs d l).foldl put []) (by simp) (by simp [Asc]) (by simp) (List.Perm.refl _)
      have hrl : ((fobjs d l).foldl ins []).length ≤ 1000000 := by rw [← e1, List.length_mergeSort]; exact hlen
      have HE1 := Lib.hid e1
      clear hsr hfin hlen e1
      obtain ⟨rr, hrr⟩ : ∃ rr, rr = (fobjs d l).foldl ins [] := ⟨_, rfl⟩
      have HRR := Lib.hid hrr
      rw [← hrr] at hrl
      clear hrr
      obtain ⟨wo, hwo⟩ : ∃ wo : World, wo = wr := ⟨_, rfl⟩
      subst hwo
      go_wp2_with (go_at_call 48; refine (sorted_any64 w.heap.size _ _ HFIN.out HLEN.out).mono ?_; rintro e w2 ⟨v2, rfl, ho2, hk2⟩; rw [HE1.out, ← HRR.out] at ho2; obtain ⟨a2, c2, rfl, g1, g2, g3⟩ := ho2.rows'.ints; have G3 := Lib.hid g3; have hsk2 := hk2.size; clear ho2 g3)
      obtain ⟨wp, hwp⟩ : ∃ wp : World, wp = w2 := ⟨_, rfl⟩
      subst hwp
      go_loopw [8, 36] (fun v i wr => ∃ j : Nat, j ≤ rr.length ∧ i = .int .i64 j ∧ Kept [] wp wr ∧ Hid (Own wr wp.heap.size 50 4 v (rroots (rr.take j)))) (fun _ i _ => rr.length - (intOf i).toNat)
      case atStart => exact ⟨0, Nat.zero_le _, rfl, Kept.refl _ _, Own.nil _ _ _ _⟩
      case round =>
        obtain ⟨j, hj, rfl, hkj, hoj⟩ := hrel
        by_cases hjt : j < rr.length
        · have hnx : rr ≠ [] := by rintro rfl; simp at hjt
          obtain ⟨b3, o3, rfl, hSb3, hb3, hc3⟩ := G3.out.resolve_left hnx
          obtain ⟨y, hy⟩ := getx rr j hjt
          have cy := hkj.cell' (hc3 j y hy) (by simp)
          have HY := Lib.hid (show rroots (rr.take (j + 1)) = rroots (rr.take j) ++ [rroot y] by rw [List.take_add_one, hy]; simp [rroots])
          have hsj := hkj.size
          clear hc3 hnx G3 hy
          go_wp2_with (refine wpList_append1 (.tmp 40) (.tmp 42) 41 50 rfl rfl rfl rfl rfl i0 z0 4 56 Try.underlying41 hi hz0 hz1 hz2 hz3 (by decide) (by decide) wp.heap.size _ _ (fun _ => rfl) (fun _ => rfl) (rroot y) rfl rfl (by simp [rroot, Value.oneCell']) hoj.out (by simp; omega) (by simp; omega) hsj ?_; intro v5 w5 ho5 hk5 hl5; have HO5 := Lib.hid ho5; have HK5 := Lib.hid hk5; clear ho5 hk5 hl5)
          go_roundw
          case rel =>
            have hk5 := HK5.out (u8.ownBlock.toList) (by intro y hy; simp [hy])
            have hlo := hoj.out.lt
            refine ⟨j + 1, by omega, by go_num, hkj.trans' hk5 (fun x hx => .inr (hlo x (by simpa using hx)).1), ?_⟩
            rw [Hid, HY.out]
            exact HO5.out
          case measure => simp [intOf]; omega
        · go_wp2
          go_ret
          have hfin := hoj.out
          rw [show j = rr.length by omega, List.take_length, HRR.out] at hfin
          exact ⟨_, rfl, hfin.mono (by have := hkr.size; omega), (hkr.trans hk2).trans hkj⟩
end Go.Proofs.Ytkldomkooleecaa
