/- Walks over the cache: All. -/
import Derived.Test.YtkldomkooleecaaDoorCacheC
namespace Go.Proofs.YtkldomkooleecaaDoor
open Go.RowKit

set_option maxRecDepth 100000 in
set_option maxHeartbeats 6400000 in
theorem cacheAll {F : Nat → Prop} (d : Nat) (b base : Nat) (cap last : Int) (mp : Value) (l : List Cp) (w : World) (h : Cch F d w b base cap last mp l) (hl : l.length ≤ 100000) :
    Calls Tryd.prog 13 #[.pointer (some ⟨b, 0, none⟩)] w fun e w' => ∃ v', e = .returned v' ∧ Gr (fun S w e (x : Cp) => CR d S w e x) Cp.row 14 43 (w.heap.size ≤ ·) w.heap.size w' v' l ∧ Kept [] w w' := by
  obtain ⟨a, c, g1, g2, g3, g4, g5, g6, e0, e1, e2, e3, hb, hg, h5⟩ := h.form
  have H5 := Lib.hid h5
  clear h hb hg h5 e0 e1 e3
  obtain ⟨i0, z0, hi, hz0, hz1, hz2, hz3⟩ := info_code'
  go_enter Tryd.func13, Tryd.ntmps13
  go_wp2
  go_loopw [3, 11] (fun v q wr => ∃ k : Nat, k ≤ l.length ∧ q = .int .i64 k ∧ Kept [] w wr ∧ Hid (Gr (fun S w e (x : Cp) => CR d S w e x) Cp.row 14 43 (w.heap.size ≤ ·) w.heap.size wr v (l.take k))) (fun _ q _ => l.length - (intOf q).toNat)
  case atStart => exact ⟨0, Nat.zero_le _, rfl, Kept.refl _ _, Gr.nil _ _ _⟩
  case round =>
    obtain ⟨k, hk, rfl, hkr, hgr⟩ := hrel
    by_cases hlt : k < l.length
    · have hne : l ≠ [] := by rintro rfl; simp at hlt
      obtain ⟨b1, o1, rfl, hSb, hb1, hc1⟩ := H5.out.resolve_left hne
      obtain ⟨x, hx⟩ := getp l k hlt
      obtain ⟨a1, c1, a2, c2, hrx, ht, hI, hxl⟩ := hc1 k x hx
      have HX := Lib.hid hx
      have HRG := Lib.hid (hkr.range hrx (by simp))
      have HT := Lib.hid ((TR.good d).kept ht hkr (by simp))
      have HI := Lib.hid (hI.kept hkr (by simp))
      obtain ⟨es, n1, n2, n3⟩ := hgr.out
      have N3 := Lib.hid n3
      obtain ⟨xi, xm, ⟨tk, tn, ti, ta⟩, xf, xu, xl⟩ := x
      simp only [Cp.row, vfst_pair, vsnd_pair, Ty.kind, Ty.name, Ty.index, Ty.args] at HRG HT HI hxl ⊢
      obtain ⟨wo, hwo⟩ : ∃ wo : World, wo = wr := ⟨_, rfl⟩
      subst hwo
      have hlen : (List.zipWith Cp.row (l.take k) es).length = k := by rw [zip_len n1]; simp; omega
      have N2 := Lib.hid n2
      clear hrx hx hc1 hne H5 n2 n3 ht hI
      go_wp2_with (first
        | (refine wpList_load_mid rfl 43 (.tmp 13) rfl b1 (o1 + k * 14) rfl [.int .i64 xi, .int .i64 xm, .int .i64 tk, .string tn, .int .i64 ti, .slice a1 ta.length c1, .int .i64 xf, .int .i64 xu, .int .i64 0, .int .i64 0, .slice none 0 0, .slice none 0 0, .slice none 0 0, .slice a2 xl.length c2] _ HRG.out Tryd.underlying43 rfl (by kernel_rfl) ?_)
        | (refine wpList_allocStore (.tmp 14) 43 rfl rfl rfl rfl rfl rfl _ [.int .i64 xi, .int .i64 xm, .int .i64 tk, .string tn, .int .i64 ti, .slice a1 ta.length c1, .int .i64 xf, .int .i64 xu, .int .i64 0, .int .i64 0, .slice none 0 0, .slice none 0 0, .slice none 0 0, .slice a2 xl.length c2] info_code rfl (fun _ => rfl) (fun _ => rfl) (by simp [Value.oneCell']) ?_)
        | (refine wpList_load_mid rfl 43 (.tmp 5) rfl wo.heap.size 0 rfl [.int .i64 xi, .int .i64 xm, .int .i64 tk, .string tn, .int .i64 ti, .slice a1 ta.length c1, .int .i64 xf, .int .i64 xu, .int .i64 0, .int .i64 0, .slice none 0 0, .slice none 0 0, .slice none 0 0, .slice a2 xl.length c2] _ (Blk.range (Blk.new wo _ _)) Tryd.underlying43 rfl (by kernel_rfl) ?_)
        | (go_at_call 22; (refine Calls.mono (ownCompiled d (S := fun y => base ≤ y ∧ F y) xi xm tk tn ti xf xu ta xl (.slice a1 ta.length c1) (.slice a2 xl.length c2) _ (by exact (TR.good d).kept HT.out ((Kept.refl [] _).alloc _) (by simp)) (by exact HI.out.kept ((Kept.refl [] _).alloc _) (by simp)) hxl) ?_; rintro e w3 ⟨qa, qb, rfl, hv3, hv4, hk3⟩; have hk3 := ((Kept.refl [] wo).alloc (.cells #[.int .i64 xi, .int .i64 xm, .int .i64 tk, .string tn, .int .i64 ti, .slice a1 ta.length c1, .int .i64 xf, .int .i64 xu, .int .i64 0, .int .i64 0, .slice none 0 0, .slice none 0 0, .slice none 0 0, .slice a2 xl.length c2] 43)).trans hk3; obtain ⟨q1, p1, rfl, _⟩ := hv3.form; obtain ⟨q2, p2, rfl, _⟩ := hv4.ints; have HV3 := Lib.hid hv3; have HV4 := Lib.hid hv4; have NN2 := Lib.hid (N2.out.kept hk3 (by simp)); clear hv3 hv4))
        | (refine wpList_append1 (.tmp 15) (.tmp 17) 48 43 rfl rfl rfl rfl rfl i0 z0 14 200 Tryd.underlying48 hi hz0 hz1 hz2 hz3 (by decide) (by decide) w.heap.size _ _ (fun _ => rfl) (fun _ => rfl) [.int .i64 xi, .int .i64 xm, .int .i64 tk, .string tn, .int .i64 ti, .slice q1 ta.length p1, .int .i64 xf, .int .i64 xu, .int .i64 0, .int .i64 0, .slice none 0 0, .slice none 0 0, .slice none 0 0, .slice q2 xl.length p2] rfl rfl (by simp [Value.oneCell']) NN2.out (by rw [hlen]; omega) (by rw [hlen]; omega) (by have := hkr.size; have := hk3.size; omega) ?_; intro v5 w5 ho5 hk5 hl5; have HO5 := Lib.hid ho5; have HK5 := Lib.hid hk5; have HL5 := Lib.hid hl5; clear ho5 hk5 hl5))
      go_roundw
      case rel =>
        have hk5 := HK5.out (u3.ownBlock.toList) (by intro y hy; simp [hy])
        have hlo := N2.out.lt
        have hz := hkr.size
        refine ⟨k + 1, by omega, by go_num, (hkr.trans hk3).trans' hk5 (fun x hx => .inr (hlo x (by simpa using hx)).1), ?_⟩
        rw [Hid, List.take_add_one, HX.out]
        exact Gr.snoc (e := .tuple #[.slice q1 ta.length p1, .slice q2 xl.length p2]) (CR.good d) n1 (fun i x e hx he => (CR.good d).kept (N3.out i x e hx he) hk3 (by simp))
          ⟨_, _, rfl, (TR.good d).mono HV3.out (fun b _ hb => by simp at hb; exact ⟨by omega, fun e => by have := (hlo b e).2; omega⟩), HV4.out.mono (fun b _ hb => by simp at hb; exact ⟨by omega, fun e => by have := (hlo b e).2; omega⟩), hxl⟩ HO5.out HK5.out HL5.out
      case measure => simp [intOf]; omega
    · go_wp2
      go_ret
      have hfin := hgr.out
      rw [show k = l.length by omega, List.take_length] at hfin
      exact ⟨_, rfl, hfin, hkr⟩
end Go.Proofs.YtkldomkooleecaaDoor
