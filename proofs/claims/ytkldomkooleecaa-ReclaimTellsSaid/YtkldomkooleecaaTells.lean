/- The walk of the law ReclaimTells. -/
import Derived.Test.YtkldomkooleecaaSane
namespace Go.Proofs.Ytkldomkooleecaa
open Go.RowKit

/-- What the law looks at. -/
def St (w : World) (s both l all act ws : Value) (fs gs : List (List Fr)) (cs cr : List Cc) (la lw : List Int) : Prop :=
  Stk (fun _ => True) w s fs ∧ Stk (fun _ => True) w both gs ∧ Reads (fun _ => True) w l 14 (crows cs) ∧ Reads (fun _ => True) w all 14 (crows cr) ∧ Reads (fun _ => True) w act 1 (irows la) ∧ Reads (fun _ => True) w ws 1 (irows lw)
theorem St.kept {w w' : World} {s both l all act ws : Value} {fs gs : List (List Fr)} {cs cr : List Cc} {la lw : List Int} (h : St w s both l all act ws fs gs cs cr la lw) (k : Kept [] w w') : St w' s both l all act ws fs gs cs cr la lw := by
  obtain ⟨h1, h2, h3, h4, h5, h6⟩ := h
  exact ⟨h1.kept k (by simp), h2.kept k (by simp), h3.kept k (by simp), h4.kept k (by simp), h5.kept k (by simp), h6.kept k (by simp)⟩

/-- The slices of two slices one after the other. -/
theorem Stk.both {w : World} {v : Value} {us us' : List Value} {fs gs : List (List Fr)} {base : Nat} {e : TypeId} (h1 : us.length = fs.length) (h1' : us'.length = gs.length)
    (h : Own w base e 1 v ((us.map fun u => [u]) ++ us'.map fun u => [u]))
    (h2 : ∀ (k : Nat) (u : Value) (f : List Fr), us[k]? = some u → fs[k]? = some f → Reads (fun _ => True) w u 5 (frows f))
    (h3 : ∀ (k : Nat) (u : Value) (f : List Fr), us'[k]? = some u → gs[k]? = some f → Reads (fun _ => True) w u 5 (frows f)) : Stk (fun _ => True) w v (fs ++ gs) := by
  refine ⟨us ++ us', by simp [h1, h1'], ?_, fun k u f hu hf => ?_⟩
  · rw [List.map_append]
    exact h.rows.mono fun _ _ _ => trivial
  · rcases Nat.lt_or_ge k us.length with hlt | hge
    · rw [List.getElem?_append_left hlt] at hu
      rw [List.getElem?_append_left (by omega)] at hf
      exact h2 k u f hu hf
    · rw [List.getElem?_append_right hge] at hu
      rw [List.getElem?_append_right (by omega), ← h1] at hf
      exact h3 _ u f hu hf

set_option maxRecDepth 100000 in
set_option maxHeartbeats 6400000 in
theorem reclaimTells {S : Nat → Prop} (t raw all act ws : Value) (n : Int) (lt : List Int) (gs : List (List Fr)) (cr : List Cc) (la lw : List Int) (w : World)
    (ht : Reads S w t 1 (irows lt)) (hS : ∀ b, S b → b < w.heap.size) (hr : Stk (fun _ => True) w raw gs) (ha : Reads (fun _ => True) w all 14 (crows cr)) (hc : Reads (fun _ => True) w act 1 (irows la)) (hw : Reads (fun _ => True) w ws 1 (irows lw)) :
    Calls Try.prog 3 #[t, .int .i64 n, raw, all, act, ws] w fun e w' => e = .returned (.bool true) ∧ Kept [] w w' := by
  have HT := Lib.hid ht
  have HRAW := Lib.hid hr
  have HALL := Lib.hid ha
  have HACT := Lib.hid hc
  have HWS := Lib.hid hw
  obtain ⟨a2, c2, rfl, g1, g2, g3⟩ := hr.form
  obtain ⟨a3, c3, rfl, f1, f2, _⟩ := codes_form ha
  obtain ⟨a4, c4, rfl, e1, e2, _⟩ := hc.ints
  obtain ⟨a5, c5, rfl, d1, d2, _⟩ := hw.ints
  obtain ⟨a1, c1, rfl, b1, b2, _⟩ := ht.ints
  have G3 := Lib.hid g3
  have HS := Lib.hid hS
  clear ht hr ha hc hw g3 hS
  by_cases l2 : 20 < gs.length
  · go_enter Try.func3, Try.ntmps3
    go_wp2
    go_ret
    exact ⟨rfl, Kept.refl _ _⟩
  by_cases l3 : 40 < cr.length
  · go_enter Try.func3, Try.ntmps3
    go_wp2
    go_ret
    exact ⟨rfl, Kept.refl _ _⟩
  by_cases l4 : 40 < la.length
  · go_enter Try.func3, Try.ntmps3
    go_wp2
    go_ret
    exact ⟨rfl, Kept.refl _ _⟩
  by_cases l5 : 40 < lw.length
  · go_enter Try.func3, Try.ntmps3
    go_wp2
    go_ret
    exact ⟨rfl, Kept.refl _ _⟩
  go_enter Try.func3, Try.ntmps3
  go_wp2
  go_loop [13] (fun i => ∃ k : Nat, k ≤ gs.length ∧ i = .int .i64 k ∧ Hid (∀ f ∈ gs.take k, f.length ≤ 20)) (fun i => gs.length - (intOf i).toNat)
  case atStart => exact ⟨0, Nat.zero_le _, rfl, by simp [Hid]⟩
  case round =>
    obtain ⟨k, hk, rfl, hf⟩ := hrel
    by_cases hlt : k < gs.length
    · have hne : gs ≠ [] := by rintro rfl; simp at hlt
      obtain ⟨b1, o1, rfl, _, hb1, hc1⟩ := G3.out.resolve_left hne
      obtain ⟨f, hf'⟩ : ∃ f, gs[k]? = some f := ⟨gs[k], by simp⟩
      obtain ⟨u, hu, hru⟩ := hc1 k f hf'
      obtain ⟨au, cu, rfl, k1, k2, _⟩ := frames_form hru
      have HFK := Lib.hid hf'
      clear hc1 hne G3 hru hf'
      by_cases hbig : 20 < f.length
      · go_wp2
        go_ret
        exact ⟨rfl, Kept.refl _ _⟩
      · go_wp2
        go_round
        case rel =>
          refine ⟨k + 1, by omega, by go_num, ?_⟩
          rw [Hid, List.take_add_one, HFK.out]
          intro g hg
          rcases List.mem_append.1 hg with hg | hg
          · exact hf.out g hg
          · simp at hg
            subst hg
            omega
        case measure => simp [intOf]; omega
    · have HGS : Hid (∀ f ∈ gs, f.length ≤ 20) := by
        have := hf.out
        rw [show k = gs.length by omega, List.take_length] at this
        exact this
      clear hf G3
      obtain ⟨us', m1, m2, m3⟩ := HRAW.out
      have M2 := Lib.hid m2
      have M3 := Lib.hid m3
      clear m2 m3 HRAW
      obtain ⟨j0, y0, hj, hy0, hy1, hy2, hy3⟩ := info_slice
      go_wp2_with (first
        | (go_at_call 8; refine Calls.mono (newTape _ lt _ (by exact HT.out) (by exact HS.out)) ?_; rintro e w1 ⟨rfl, hT, hk1⟩; have hbl := hT.lt)
        | (go_at_call 9; have hc10 : Calls Try.prog 9 #[.pointer (some ⟨w.heap.size, 0, none⟩), .int .i64 10] w1 _ := codes _ 0 10 _ hT (by omega); refine Calls.mono hc10 ?_; clear hc10; rintro e w2 ⟨lV, cs, rfl, hcl, _, hco, hT, hk2⟩; have hk2 : Kept [] w w2 := hk1.trans' hk2 (by simp); have HL1 := Lib.hid (show Reads (fun b => w1.heap.size ≤ b) w2 lV 14 (crows cs) from hco.rows'); clear hco)
        | (go_at_call 10; refine Calls.mono (stacks _ _ _ (by exact hT) (by omega)) ?_; rintro e w3 ⟨sV, fs, rfl, hfl, hff, hst, _, hk3⟩; have hs1 := hk1.size; have hs2 := hk2.size; have hk3' : Kept [] w w3 := hk2.trans' hk3 (by simp); have HL1 := Lib.hid ((HL1.out.kept hk3 (by simp; omega)).mono (S' := fun _ => True) (fun _ _ _ => trivial)); have HF := Lib.hid (fun f (hf : f ∈ fs) => show f.length ≤ 1000 by have := (hff f hf).1; omega); have HL := Lib.hid (show (fs ++ gs).length ≤ 900 by rw [List.length_append]; omega); have HG := Lib.hid (fun f (hf : f ∈ fs ++ gs) => show f.length ≤ 1000 by rcases List.mem_append.1 hf with hf | hf; exact HF.out f hf; have := HGS.out f hf; omega); obtain ⟨us, n1, n2, n3⟩ := hst.mono (S' := fun _ => True) (fun _ _ _ => trivial); have N2 := Lib.hid n2; have N3 := Lib.hid n3; clear n2 n3 hst hff)
        | (refine wpList_append_rows rfl (.tmp 56) (.tmp 57) 23 25 rfl j0 y0 1 24 Try.underlying23 hj hy0 hy1 hy2 hy3 (by decide) w3.heap.size (.slice (some ⟨w3.heap.size, 0, none⟩) 0 0) [] (us.map fun u => [u]) rfl (own_zero (halloc_new _ _ _ rfl) (by simp)) (fun _ => True) _ rfl (N2.out.kept ((Kept.refl [] _).alloc _) (by simp)) (by simp; omega) (by simp; omega) (by simp) ?_; intro v4 w4 ho4 hk4 _; have HO4 := Lib.hid ho4; have hk4 : Kept [] w3 w4 := Kept.trans' ((Kept.refl [] w3).alloc _) (hk4 [w3.heap.size] (by simp [Value.ownBlock])) (by simp); clear ho4)
        | (refine wpList_append_rows rfl (.tmp 58) (.tmp 59) 23 25 rfl j0 y0 1 24 Try.underlying23 hj hy0 hy1 hy2 hy3 (by decide) w3.heap.size v4 _ (us'.map fun u => [u]) rfl HO4.out (fun _ => True) _ rfl (M2.out.kept (hk3'.trans hk4) (by simp)) (by simp; omega) (by simp; omega) hk4.size ?_; intro bV w5 ho5 hk5 _; have hk5 : Kept [] w3 w5 := Kept.trans' hk4 (hk5 v4.ownBlock.toList (by intro x hx; simp [hx])) (fun x hx => .inr (HO4.out.lt x (by simpa using hx)).1); have HK := Lib.hid (hk3'.trans hk5); have HST := Lib.hid (show St w5 sV bV lV _ _ _ fs (fs ++ gs) cs cr la lw from ⟨⟨us, n1, N2.out.kept hk5 (by simp), fun k u f hu hf => (N3.out k u f hu hf).kept hk5 (by simp)⟩, Stk.both n1 m1 (by simpa using ho5) (fun k u f hu hf => (N3.out k u f hu hf).kept hk5 (by simp)) (fun k u f hu hf => (M3.out k u f hu hf).kept HK.out (by simp)), HL1.out.kept hk5 (by simp), HALL.out.kept HK.out (by simp), HACT.out.kept HK.out (by simp), HWS.out.kept HK.out (by simp)⟩); clear ho5 hk5 hk4 HO4 N2 N3 M2 M3 HL1 HALL HACT HWS hk3' hk2 hk3)
        | (go_at_call_of 11 sV; refine Calls.mono (refLiveWorlds 9 _ fs _ (by exact HST.out.1) (by omega) (by exact HF.out)) ?_; rintro e w6 ⟨r18, rfl, hox, hkx⟩; have HST := Lib.hid (HST.out.kept hkx); have HK := Lib.hid (HK.out.trans hkx); have HW := Lib.hid (show Reads (fun _ => True) w6 r18 1 (irows ((worldsOf fs.flatten).foldl ins [9])) from hox.mono (fun _ _ _ => trivial)); clear hkx hox)
        | (go_at_call_of 12 sV; refine Calls.mono (refActiveCodes _ fs _ (by exact HST.out.1) (by omega) (by exact HF.out)) ?_; rintro e w6 ⟨r19, rfl, hox, hkx⟩; have HST := Lib.hid (HST.out.kept hkx); have HK := Lib.hid (HK.out.trans hkx); have HW := Lib.hid (HW.out.kept hkx (by simp)); have HA := Lib.hid (show Reads (fun _ => True) w6 r19 1 (irows ((codesOf fs.flatten).foldl ins [])) from hox.mono (fun _ _ _ => trivial)); clear hkx hox)
        | (go_at_call_of 14 sV; refine Calls.mono (liveWorlds 9 _ fs _ (by exact HST.out.1) (by omega) (by exact HF.out)) ?_; rintro e x1 ⟨q1, rfl, hox, hkx⟩; have HQ := Lib.hid (show Reads (fun _ => True) x1 q1 1 (irows ((worldsOf fs.flatten).foldl ins [9])) from hox.rows.mono (fun _ _ _ => trivial)); have HST := Lib.hid (HST.out.kept hkx); have HW := Lib.hid (HW.out.kept hkx (by simp)); have HA := Lib.hid (HA.out.kept hkx (by simp)); have HK := Lib.hid (HK.out.trans hkx); clear hkx hox)
        | (go_at_call_of 13 q1; refine Calls.mono (eqInts _ _ ((worldsOf fs.flatten).foldl ins [9]) _ (by exact HQ.out) (by exact HW.out)) ?_; rintro e x2 ⟨rfl, hkx⟩; have HST := Lib.hid (HST.out.kept hkx); have HW := Lib.hid (HW.out.kept hkx (by simp)); have HA := Lib.hid (HA.out.kept hkx (by simp)); have HK := Lib.hid (HK.out.trans hkx); clear hkx)
        | (go_at_call_of 15 sV; refine Calls.mono (activeCodes _ fs _ (by exact HST.out.1) (by omega) (by exact HF.out)) ?_; rintro e x3 ⟨q2, rfl, hox, hkx⟩; have HQ := Lib.hid (show Reads (fun _ => True) x3 q2 1 (irows ((codesOf fs.flatten).foldl ins [])) from hox.rows.mono (fun _ _ _ => trivial)); have HST := Lib.hid (HST.out.kept hkx); have HW := Lib.hid (HW.out.kept hkx (by simp)); have HA := Lib.hid (HA.out.kept hkx (by simp)); have HK := Lib.hid (HK.out.trans hkx); clear hkx hox)
        | (go_at_call_of 13 q2; refine Calls.mono (eqInts _ _ ((codesOf fs.flatten).foldl ins []) _ (by exact HQ.out) (by exact HA.out)) ?_; rintro e x4 ⟨rfl, hkx⟩; have HST := Lib.hid (HST.out.kept hkx); have HW := Lib.hid (HW.out.kept hkx (by simp)); have HA := Lib.hid (HA.out.kept hkx (by simp)); have HK := Lib.hid (HK.out.trans hkx); clear hkx)
        | (go_at_call_of 14 bV; refine Calls.mono (liveWorlds n _ (fs ++ gs) _ (by exact HST.out.2.1) (by exact HL.out) (by exact HG.out)) ?_; rintro e x5 ⟨q3, rfl, hox, hkx⟩; have HQ := Lib.hid (show Reads (fun _ => True) x5 q3 1 (irows ((worldsOf (fs ++ gs).flatten).foldl ins [n])) from hox.rows.mono (fun _ _ _ => trivial)); have HST := Lib.hid (HST.out.kept hkx); have HW := Lib.hid (HW.out.kept hkx (by simp)); have HA := Lib.hid (HA.out.kept hkx (by simp)); have HK := Lib.hid (HK.out.trans hkx); clear hkx hox)
        | (go_at_call_of 11 bV; refine Calls.mono (refLiveWorlds n _ (fs ++ gs) _ (by exact HST.out.2.1) (by exact HL.out) (by exact HG.out)) ?_; rintro e x6 ⟨q4, rfl, hox, hkx⟩; have HQ := Lib.hid (HQ.out.kept hkx (by simp)); have HR := Lib.hid (show Reads (fun _ => True) x6 q4 1 (irows ((worldsOf (fs ++ gs).flatten).foldl ins [n])) from hox.mono (fun _ _ _ => trivial)); have HST := Lib.hid (HST.out.kept hkx); have HW := Lib.hid (HW.out.kept hkx (by simp)); have HA := Lib.hid (HA.out.kept hkx (by simp)); have HK := Lib.hid (HK.out.trans hkx); clear hkx hox)
        | (go_at_call_of 13 q3; refine Calls.mono (eqInts _ _ ((worldsOf (fs ++ gs).flatten).foldl ins [n]) _ (by exact HQ.out) (by exact HR.out)) ?_; rintro e x7 ⟨rfl, hkx⟩; have HST := Lib.hid (HST.out.kept hkx); have HW := Lib.hid (HW.out.kept hkx (by simp)); have HA := Lib.hid (HA.out.kept hkx (by simp)); have HK := Lib.hid (HK.out.trans hkx); clear hkx)
        | (go_at_call_of 15 bV; refine Calls.mono (activeCodes _ (fs ++ gs) _ (by exact HST.out.2.1) (by exact HL.out) (by exact HG.out)) ?_; rintro e x8 ⟨q5, rfl, hox, hkx⟩; have HQ := Lib.hid (show Reads (fun _ => True) x8 q5 1 (irows ((codesOf (fs ++ gs).flatten).foldl ins [])) from hox.rows.mono (fun _ _ _ => trivial)); have HST := Lib.hid (HST.out.kept hkx); have HW := Lib.hid (HW.out.kept hkx (by simp)); have HA := Lib.hid (HA.out.kept hkx (by simp)); have HK := Lib.hid (HK.out.trans hkx); clear hkx hox)
        | (go_at_call_of 12 bV; refine Calls.mono (refActiveCodes _ (fs ++ gs) _ (by exact HST.out.2.1) (by exact HL.out) (by exact HG.out)) ?_; rintro e x9 ⟨q6, rfl, hox, hkx⟩; have HQ := Lib.hid (HQ.out.kept hkx (by simp)); have HR := Lib.hid (show Reads (fun _ => True) x9 q6 1 (irows ((codesOf (fs ++ gs).flatten).foldl ins [])) from hox.mono (fun _ _ _ => trivial)); have HST := Lib.hid (HST.out.kept hkx); have HW := Lib.hid (HW.out.kept hkx (by simp)); have HA := Lib.hid (HA.out.kept hkx (by simp)); have HK := Lib.hid (HK.out.trans hkx); clear hkx hox)
        | (go_at_call_of 13 q5; refine Calls.mono (eqInts _ _ ((codesOf (fs ++ gs).flatten).foldl ins []) _ (by exact HQ.out) (by exact HR.out)) ?_; rintro e x10 ⟨rfl, hkx⟩; have HST := Lib.hid (HST.out.kept hkx); have HW := Lib.hid (HW.out.kept hkx (by simp)); have HA := Lib.hid (HA.out.kept hkx (by simp)); have HK := Lib.hid (HK.out.trans hkx); clear hkx)
        | (go_at_call_of 16 lV; refine Calls.mono (unreachable _ _ _ cs ((codesOf fs.flatten).foldl ins []) ((worldsOf fs.flatten).foldl ins [9]) _ (by exact HST.out.2.2.1) (by exact HA.out) (by exact HW.out) (by omega)) ?_; rintro e x11 ⟨q7, rfl, hox, hkx⟩; have HQ := Lib.hid (show Reads (fun _ => True) x11 q7 1 (irows ((freed ((codesOf fs.flatten).foldl ins []) ((worldsOf fs.flatten).foldl ins [9]) cs).foldl ins [])) from hox.rows.mono (fun _ _ _ => trivial)); have HST := Lib.hid (HST.out.kept hkx); have HW := Lib.hid (HW.out.kept hkx (by simp)); have HA := Lib.hid (HA.out.kept hkx (by simp)); have HK := Lib.hid (HK.out.trans hkx); clear hkx hox)
        | (go_at_call_of 17 lV; refine Calls.mono (refUnreachable _ _ _ cs ((codesOf fs.flatten).foldl ins []) ((worldsOf fs.flatten).foldl ins [9]) _ (by exact HST.out.2.2.1) (by exact HA.out) (by exact HW.out) (by omega)) ?_; rintro e x12 ⟨q8, rfl, hox, hkx⟩; have HQ := Lib.hid (HQ.out.kept hkx (by simp)); have HR := Lib.hid (show Reads (fun _ => True) x12 q8 1 (irows ((freed ((codesOf fs.flatten).foldl ins []) ((worldsOf fs.flatten).foldl ins [9]) cs).foldl ins [])) from hox.mono (fun _ _ _ => trivial)); have HST := Lib.hid (HST.out.kept hkx); have HW := Lib.hid (HW.out.kept hkx (by simp)); have HA := Lib.hid (HA.out.kept hkx (by simp)); have HK := Lib.hid (HK.out.trans hkx); clear hkx hox)
        | (go_at_call_of 13 q7; refine Calls.mono (eqInts _ _ ((freed ((codesOf fs.flatten).foldl ins []) ((worldsOf fs.flatten).foldl ins [9]) cs).foldl ins []) _ (by exact HQ.out) (by exact HR.out)) ?_; rintro e x13 ⟨rfl, hkx⟩; have HST := Lib.hid (HST.out.kept hkx); have HW := Lib.hid (HW.out.kept hkx (by simp)); have HA := Lib.hid (HA.out.kept hkx (by simp)); have HK := Lib.hid (HK.out.trans hkx); clear hkx)
        | (go_at_call_of 16 (Value.slice a3 cr.length c3); refine Calls.mono (unreachable _ _ _ cr la lw _ (by exact HST.out.2.2.2.1) (by exact HST.out.2.2.2.2.1) (by exact HST.out.2.2.2.2.2) (by omega)) ?_; rintro e x14 ⟨q9, rfl, hox, hkx⟩; have HQ := Lib.hid (show Reads (fun _ => True) x14 q9 1 (irows ((freed (la) (lw) cr).foldl ins [])) from hox.rows.mono (fun _ _ _ => trivial)); have HST := Lib.hid (HST.out.kept hkx); have HW := Lib.hid (HW.out.kept hkx (by simp)); have HA := Lib.hid (HA.out.kept hkx (by simp)); have HK := Lib.hid (HK.out.trans hkx); clear hkx hox)
        | (go_at_call_of 17 (Value.slice a3 cr.length c3); refine Calls.mono (refUnreachable _ _ _ cr la lw _ (by exact HST.out.2.2.2.1) (by exact HST.out.2.2.2.2.1) (by exact HST.out.2.2.2.2.2) (by omega)) ?_; rintro e x15 ⟨q10, rfl, hox, hkx⟩; have HQ := Lib.hid (HQ.out.kept hkx (by simp)); have HR := Lib.hid (show Reads (fun _ => True) x15 q10 1 (irows ((freed (la) (lw) cr).foldl ins [])) from hox.mono (fun _ _ _ => trivial)); have HST := Lib.hid (HST.out.kept hkx); have HW := Lib.hid (HW.out.kept hkx (by simp)); have HA := Lib.hid (HA.out.kept hkx (by simp)); have HK := Lib.hid (HK.out.trans hkx); clear hkx hox)
        | (go_at_call_of 13 q9; refine Calls.mono (eqInts _ _ ((freed (la) (lw) cr).foldl ins []) _ (by exact HQ.out) (by exact HR.out)) ?_; rintro e x16 ⟨rfl, hkx⟩; have HST := Lib.hid (HST.out.kept hkx); have HW := Lib.hid (HW.out.kept hkx (by simp)); have HA := Lib.hid (HA.out.kept hkx (by simp)); have HK := Lib.hid (HK.out.trans hkx); clear hkx)
        | (go_at_call 18; refine Calls.mono (sane _) ?_; rintro e x17 ⟨rfl, hkx⟩; have HK := Lib.hid (HK.out.trans hkx); clear hkx))
      go_ret
      exact ⟨rfl, HK.out⟩
end Go.Proofs.Ytkldomkooleecaa
