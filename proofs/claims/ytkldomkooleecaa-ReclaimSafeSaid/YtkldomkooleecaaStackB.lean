/- Walks: Worlds and Codes of a stack of frames. -/
import Derived.Test.YtkldomkooleecaaStack
namespace Go.Proofs.Ytkldomkooleecaa
open Go.RowKit

def fworlds (l : List Frm) : List Int := l.map Frm.world
def fcodes (l : List Frm) : List Int := (l.map Frm.code).filter fun c => decide (0 < c)
theorem fcodes_length (l : List Frm) : (fcodes l).length ≤ l.length := by unfold fcodes; exact Nat.le_trans (List.length_filter_le _ _) (by simp)
theorem fcodes_append (l m : List Frm) : fcodes (l ++ m) = fcodes l ++ fcodes m := by simp [fcodes]

/-- What the walks need of a stack. -/
theorem Sk.form {d : Nat} {S : Nat → Prop} {w : World} {b : Nat} {g : Option Nat} {l : List Frm} (h : Sk d S w b g l) : ∃ a cap, w.cell? ⟨b, 0, none⟩ = some (.slice a l.length cap) ∧ (Value.slice a l.length cap).ownBlock = g ∧ l.length ≤ cap ∧ cap ≤ 9223372036854775807 ∧
    (l = [] ∨ ∃ b off, a = some ⟨b, off, none⟩ ∧ b < w.heap.size ∧ ∀ (k : Nat) (x : Frm), l[k]? = some x → ∃ e, w.rangeAt b (off + k * 5) (x.row e) ∧ (∀ u ∈ x.row e, u.oneCell' = true) ∧ VR d S w e x.slots) := by
  obtain ⟨v, rfl, hb, hg⟩ := h
  have hr := (hg.mono (VR.goodAt d Frm.slots) (base' := 0) (Nat.zero_le _) (fun _ _ h => h))
  obtain ⟨es, h1, h2, h3⟩ := hr
  have hr : Rd (fun S w e (x : Frm) => VR d S w e x.slots) Frm.row 5 (fun _ => True) w v l := ⟨es, h1, h2.rows.mono fun _ _ _ => trivial, fun k x e hx he => (VR.good d).mono (h3 k x e hx he) fun _ _ _ => trivial⟩
  obtain ⟨a, cap, rfl, g1, g2, _⟩ := hr.form
  refine ⟨a, cap, hb.cell 0 _ rfl, rfl, g1, g2, ?_⟩
  obtain ⟨_, a', cap', e, _, _, h4⟩ := h2.rows
  rcases h4 with h4 | ⟨b', off, rfl, _, hb', hrr⟩
  · left
    have := congrArg List.length h4
    rw [zip_len h1] at this
    exact List.eq_nil_of_length_eq_zero this
  · obtain rfl := (Value.slice.inj e).1
    refine .inr ⟨b', off, rfl, hb', fun k x hx => ?_⟩
    obtain ⟨q, hq, hz⟩ := zip_get (r := Frm.row) h1 hx
    exact ⟨q, hrr k _ hz, (h2.each _ (List.mem_of_getElem? hz)).2, (VR.good d).mono (h3 k x q hx hq) fun _ _ h => h.1⟩

set_option maxRecDepth 100000 in
set_option maxHeartbeats 1600000 in
theorem stackWorlds (d : Nat) {S : Nat → Prop} {g : Option Nat} (b : Nat) (l : List Frm) (w : World) (h : Sk d S w b g l) (hl : l.length ≤ 100000) :
    Calls Try.prog 28 #[.pointer (some ⟨b, 0, none⟩)] w fun e w' => ∃ v', e = .returned v' ∧ Own w' w.heap.size 3 1 v' (irows ((fworlds l).foldl ins [])) ∧ Kept [] w w' := by
  have hbl := h.lt
  obtain ⟨a1, c1, e0, _, h1, h2, h3⟩ := h.form
  have H3 := Lib.hid h3
  clear h3 h
  have hmm := @run_makeMap Try.prog
  go_enter Try.func28, Try.ntmps28
  go_wp2
  have HS1 := Lib.hid (IsSet.made w)
  go_loopw [12] (fun i wr => ∃ k : Nat, k ≤ l.length ∧ i = .int .i64 k ∧ Kept [] w wr ∧ w.heap.size + 1 ≤ wr.heap.size ∧ Hid (IsSet wr w.heap.size ((fworlds (l.take k)).foldl put []))) (fun i _ => l.length - (intOf i).toNat)
  case atStart => exact ⟨0, Nat.zero_le _, rfl, (Kept.refl [] w).alloc _, by simp, HS1.out⟩
  case round =>
    obtain ⟨k, hk, rfl, hkr, hsz, hsr⟩ := hrel
    by_cases hlt : k < l.length
    · have hne : l ≠ [] := by rintro rfl; simp at hlt
      obtain ⟨b2, o2, rfl, hb2, hc2⟩ := H3.out.resolve_left hne
      obtain ⟨x, hx⟩ : ∃ x, l[k]? = some x := ⟨l[k], by simp⟩
      obtain ⟨q, hrx, hox, hvq⟩ := hc2 k x hx
      obtain ⟨qa, qc, rfl, _, _, _⟩ := hvq.form
      have hrg := Lib.hid (hkr.range hrx (by simp))
      have HX := Lib.hid hx
      obtain ⟨xc, xm, xw, xp, xs⟩ := x
      simp only [Frm.row] at hrg
      clear hrx hx hc2 hne H3 hox hvq
      go_wp2_with (first
        | (refine wpList_load_mid rfl 43 (.tmp 14) rfl b2 (o2 + k * 5) rfl [.int .i64 xc, .int .i64 xm, .int .i64 xw, .int .i64 xp, .slice qa xs.length qc] _ hrg.out Try.underlying43 rfl (by kernel_rfl) ?_)
        | (refine wpList_set_put rfl (.tmp 16) (.tmp 18) (.const (.bool true)) 85 (.inl rfl) 3 4 Try.underlying85 Try.underlying3 w.heap.size _ xw rfl rfl rfl (hsr.out.kept ((Kept.refl [] wr).alloc _) (by simp)) ?_; intro w3 hs3 hk3 hz3; have HS3 := Lib.hid hs3; have HZ3 := Lib.hid hz3; clear hs3 hz3))
      go_roundw
      case rel =>
        have hk3' : Kept [] w w3 := (hkr.alloc _).trans' hk3 (by simp)
        refine ⟨k + 1, by omega, by go_num, hk3', by have := HZ3.out; simp at this; omega, ?_⟩
        have e1 : fworlds (l.take (k + 1)) = fworlds (l.take k) ++ [xw] := by rw [List.take_add_one, HX.out]; simp [fworlds]
        rw [Hid, e1, foldl_snoc]
        exact HS3.out
      case measure => simp [intOf]; omega
    · have hfin := hsr.out
      rw [show k = l.length by omega, List.take_length] at hfin
      have hlen : ((fworlds l).foldl put []).length ≤ 1000000 := by
        have h1 := puts_length (fworlds l) []
        have h3 : (fworlds l).length = l.length := by simp [fworlds]
        simp at h1
        omega
      have HFIN := Lib.hid hfin
      have HLEN := Lib.hid hlen
      clear hsr hfin hlen
      go_wp2_with (go_at_call 41; refine (sorted_any w.heap.size _ _ HFIN.out HLEN.out).mono ?_; rintro e w2 ⟨v2, rfl, ho2, hk2⟩; have HO2 := Lib.hid ho2; clear ho2)
      go_ret
      refine ⟨v2, rfl, ?_, hkr.trans hk2⟩
      have e1 := sorted_set (fworlds l) [] [] ((fworlds l).foldl put []) (by simp) (by simp [Asc]) (by simp) (List.Perm.refl _)
      rw [← e1]
      exact HO2.out.mono (by have := hkr.size; omega)

set_option maxRecDepth 100000 in
set_option maxHeartbeats 1600000 in
theorem stackCodes (d : Nat) {S : Nat → Prop} {g : Option Nat} (b : Nat) (l : List Frm) (w : World) (h : Sk d S w b g l) (hl : l.length ≤ 100000) :
    Calls Try.prog 27 #[.pointer (some ⟨b, 0, none⟩)] w fun e w' => ∃ v', e = .returned v' ∧ Own w' w.heap.size 3 1 v' (irows ((fcodes l).foldl ins [])) ∧ Kept [] w w' := by
  have hbl := h.lt
  obtain ⟨a1, c1, e0, _, h1, h2, h3⟩ := h.form
  have H3 := Lib.hid h3
  clear h3 h
  have hmm := @run_makeMap Try.prog
  go_enter Try.func27, Try.ntmps27
  go_wp2
  have HS1 := Lib.hid (IsSet.made w)
  go_loopw [12] (fun i wr => ∃ k : Nat, k ≤ l.length ∧ i = .int .i64 k ∧ Kept [] w wr ∧ w.heap.size + 1 ≤ wr.heap.size ∧ Hid (IsSet wr w.heap.size ((fcodes (l.take k)).foldl put []))) (fun i _ => l.length - (intOf i).toNat)
  case atStart => exact ⟨0, Nat.zero_le _, rfl, (Kept.refl [] w).alloc _, by simp, HS1.out⟩
  case round =>
    obtain ⟨k, hk, rfl, hkr, hsz, hsr⟩ := hrel
    by_cases hlt : k < l.length
    · have hne : l ≠ [] := by rintro rfl; simp at hlt
      obtain ⟨b2, o2, rfl, hb2, hc2⟩ := H3.out.resolve_left hne
      obtain ⟨x, hx⟩ : ∃ x, l[k]? = some x := ⟨l[k], by simp⟩
      obtain ⟨q, hrx, hox, hvq⟩ := hc2 k x hx
      obtain ⟨qa, qc, rfl, _, _, _⟩ := hvq.form
      have hrg := Lib.hid (hkr.range hrx (by simp))
      have HX := Lib.hid hx
      obtain ⟨xc, xm, xw, xp, xs⟩ := x
      simp only [Frm.row] at hrg
      clear hrx hx hc2 hne H3 hox hvq
      by_cases hpos : 0 < xc
      · go_wp2_with (first
          | (refine wpList_load_mid rfl 43 (.tmp 14) rfl b2 (o2 + k * 5) rfl [.int .i64 xc, .int .i64 xm, .int .i64 xw, .int .i64 xp, .slice qa xs.length qc] _ hrg.out Try.underlying43 rfl (by kernel_rfl) ?_)
          | (refine wpList_set_put rfl (.tmp 19) (.tmp 21) (.const (.bool true)) 85 (.inl rfl) 3 4 Try.underlying85 Try.underlying3 w.heap.size _ xc rfl rfl rfl (hsr.out.kept ((Kept.refl [] wr).alloc _) (by simp)) ?_; intro w3 hs3 hk3 hz3; have HS3 := Lib.hid hs3; have HZ3 := Lib.hid hz3; clear hs3 hz3))
        go_roundw
        case rel =>
          have hk3' : Kept [] w w3 := (hkr.alloc _).trans' hk3 (by simp)
          refine ⟨k + 1, by omega, by go_num, hk3', by have := HZ3.out; simp at this; omega, ?_⟩
          have e1 : fcodes (l.take (k + 1)) = fcodes (l.take k) ++ [xc] := by rw [List.take_add_one, HX.out, fcodes_append]; simp [fcodes, hpos]
          rw [Hid, e1, foldl_snoc]
          exact HS3.out
        case measure => simp [intOf]; omega
      · go_wp2_with (refine wpList_load_mid rfl 43 (.tmp 14) rfl b2 (o2 + k * 5) rfl [.int .i64 xc, .int .i64 xm, .int .i64 xw, .int .i64 xp, .slice qa xs.length qc] _ hrg.out Try.underlying43 rfl (by kernel_rfl) ?_)
        go_roundw
        case rel =>
          refine ⟨k + 1, by omega, by go_num, hkr.alloc _, by simp; omega, ?_⟩
          have e1 : fcodes (l.take (k + 1)) = fcodes (l.take k) := by rw [List.take_add_one, HX.out, fcodes_append]; simp [fcodes]; omega
          rw [Hid, e1]
          exact hsr.out.kept ((Kept.refl [] wr).alloc _) (by simp)
        case measure => simp [intOf]; omega
    · have hfin := hsr.out
      rw [show k = l.length by omega, List.take_length] at hfin
      have hlen : ((fcodes l).foldl put []).length ≤ 1000000 := by
        have h1 := puts_length (fcodes l) []
        have h3 := fcodes_length l
        simp at h1
        omega
      have HFIN := Lib.hid hfin
      have HLEN := Lib.hid hlen
      clear hsr hfin hlen
      go_wp2_with (go_at_call 41; refine (sorted_any w.heap.size _ _ HFIN.out HLEN.out).mono ?_; rintro e w2 ⟨v2, rfl, ho2, hk2⟩; have HO2 := Lib.hid ho2; clear ho2)
      go_ret
      refine ⟨v2, rfl, ?_, hkr.trans hk2⟩
      have e1 := sorted_set (fcodes l) [] [] ((fcodes l).foldl put []) (by simp) (by simp [Asc]) (by simp) (List.Perm.refl _)
      rw [← e1]
      exact HO2.out.mono (by have := hkr.size; omega)
end Go.Proofs.Ytkldomkooleecaa
