/- Walks: Frames of a stack of frames. -/
import Derived.Test.YtkldomkooleecaaStackB
namespace Go.Proofs.Ytkldomkooleecaa
open Go.RowKit

set_option maxRecDepth 100000 in
set_option maxHeartbeats 1600000 in
theorem stackFrames (d : Nat) {S : Nat → Prop} {g : Option Nat} (b : Nat) (l : List Frm) (w : World) (h : Sk d S w b g l) (hl : l.length ≤ 1000) :
    Calls Try.prog 29 #[.pointer (some ⟨b, 0, none⟩)] w fun e w' => ∃ v', e = .returned v' ∧ Rd (fun S w e (x : Frm) => VR d S w e x.slots) Frm.row 5 (w.heap.size ≤ ·) w' v' l ∧ Kept [] w w' := by
  have hbl := h.lt
  obtain ⟨a1, c1, e0, _, h1, h2, h3⟩ := h.form
  have H3 := Lib.hid h3
  clear h3 h
  obtain ⟨i0, z0, hi, hz0, hz1, hz2, hz3⟩ := info_frame'
  go_enter Try.func29, Try.ntmps29
  go_wp2
  go_loopw [3, 11] (fun v i wr => ∃ k : Nat, k ≤ l.length ∧ i = .int .i64 k ∧ Kept [] w wr ∧ Hid (Gr (fun S w e (x : Frm) => VR d S w e x.slots) Frm.row 5 43 (w.heap.size ≤ ·) w.heap.size wr v (l.take k))) (fun _ i _ => l.length - (intOf i).toNat)
  case atStart => exact ⟨0, Nat.zero_le _, rfl, Kept.refl _ _, Gr.nil _ _ _⟩
  case round =>
    obtain ⟨k, hk, rfl, hkr, hgr⟩ := hrel
    by_cases hlt : k < l.length
    · have hne : l ≠ [] := by rintro rfl; simp at hlt
      obtain ⟨b1, o1, rfl, hb1, hc1⟩ := H3.out.resolve_left hne
      obtain ⟨x, hx⟩ : ∃ x, l[k]? = some x := ⟨l[k], by simp⟩
      obtain ⟨q, hrq, hoq, hvq⟩ := hc1 k x hx
      obtain ⟨qa, qc, rfl, _, _, _⟩ := hvq.form
      have hrg := Lib.hid (hkr.range hrq (by simp))
      have HVQ := Lib.hid ((VR.good d).kept hvq hkr (by simp))
      have HX := Lib.hid hx
      obtain ⟨es, n1, n2, n3⟩ := hgr.out
      have N3 := Lib.hid n3
      obtain ⟨xc, xm, xw, xp, xs⟩ := x
      simp only [Frm.row] at hrg hoq HVQ ⊢
      obtain ⟨wo, hwo⟩ : ∃ wo : World, wo = wr := ⟨_, rfl⟩
      subst hwo
      have hlen : (List.zipWith Frm.row (l.take k) es).length = k := by rw [zip_len n1]; simp; omega
      have N2 := Lib.hid n2
      clear hrq hvq hx hc1 hne H3 hoq n2 n3
      go_wp2_with (first
        | (refine wpList_load_mid rfl 43 (.tmp 13) rfl b1 (o1 + k * 5) rfl [.int .i64 xc, .int .i64 xm, .int .i64 xw, .int .i64 xp, .slice qa xs.length qc] _ hrg.out Try.underlying43 rfl (by kernel_rfl) ?_)
        | (go_at_call 46; refine Calls.mono (ownFrame d ⟨xc, xm, xw, xp, xs⟩ (.slice qa xs.length qc) _ (by exact (VR.good d).kept HVQ.out ((Kept.refl [] _).alloc _) (by simp))) ?_; rintro e w3 ⟨q', rfl, hv3, hk3⟩; have hk3 := ((Kept.refl [] wo).alloc (.cells #[.int .i64 xc, .int .i64 xm, .int .i64 xw, .int .i64 xp, .slice qa xs.length qc] 43)).trans hk3; have hq' : q'.oneCell' = true := (by obtain ⟨a, c, rfl, _⟩ := hv3.form; rfl); have HV3 := Lib.hid hv3; have NN2 := Lib.hid (N2.out.kept hk3 (by simp)); clear hv3)
        | (refine wpList_append1 (.tmp 15) (.tmp 17) 25 43 rfl rfl rfl rfl rfl i0 z0 5 56 Try.underlying25 hi hz0 hz1 hz2 hz3 (by decide) (by decide) w.heap.size _ _ (fun _ => rfl) (fun _ => rfl) [.int .i64 xc, .int .i64 xm, .int .i64 xw, .int .i64 xp, q'] rfl rfl (by simp [Value.oneCell']; exact hq') NN2.out (by rw [hlen]; omega) (by rw [hlen]; omega) (by have := hkr.size; have := hk3.size; omega) ?_; intro v5 w5 ho5 hk5 hl5; have HO5 := Lib.hid ho5; have HK5 := Lib.hid hk5; have HL5 := Lib.hid hl5; clear ho5 hk5 hl5))
      go_roundw
      case rel =>
        have hk5 := HK5.out (u3.ownBlock.toList) (by intro y hy; simp [hy])
        have hlo := N2.out.lt
        refine ⟨k + 1, by omega, by go_num, (hkr.trans hk3).trans' hk5 (fun x hx => .inr (hlo x (by simpa using hx)).1), ?_⟩
        rw [Hid, List.take_add_one, HX.out]
        exact Gr.snoc (VR.goodAt d Frm.slots) n1 (fun i x e hx he => (VR.good d).kept (N3.out i x e hx he) hk3 (by simp)) ((VR.good d).mono HV3.out (fun b _ hb => by have := hkr.size; simp at hb; exact ⟨by omega, fun e => by have := (hlo b e).2; omega⟩)) HO5.out HK5.out HL5.out
      case measure => simp [intOf]; omega
    · go_wp2
      go_ret
      have hfin := hgr.out
      rw [show k = l.length by omega, List.take_length] at hfin
      exact ⟨_, rfl, hfin.rd (VR.goodAt d Frm.slots) (fun _ h => h), hkr⟩
end Go.Proofs.Ytkldomkooleecaa
