/- Walks over the reference cache: CountCall. -/
import Derived.Test.YtkldomkooleecaaDoorRCacheD
import Derived.Test.YtkldomkooleecaaDoorRefCmp
import Derived.Deep.RegionHeld3
namespace Go.Proofs.YtkldomkooleecaaDoor
open Go.RowKit

/-- A counter of these calls. -/
def hits (m : Int) (t : Ty) (x : Cn) : Prop := x.method = m ∧ x.ty = t
def NoHit (cs : List Cn) (m : Int) (t : Ty) (n : Nat) : Prop := ∀ (j : Nat) (y : Cn), j < n → cs[j]? = some y → ¬ hits m t y
theorem NoHit.next {cs : List Cn} {m : Int} {t : Ty} {n : Nat} {x : Cn} (h : NoHit cs m t n) (hx : cs[n]? = some x) (hi : ¬ hits m t x) : NoHit cs m t (n + 1) := by
  intro j y hj hy
  rcases Nat.lt_or_eq_of_le (Nat.le_of_lt_succ hj) with h1 | rfl
  · exact h j y h1 hy
  · rw [hx] at hy; cases hy; exact hi
theorem info_count : ∃ i z, Tryd.prog.info? 91 = some i ∧ i.zero = some z ∧ i.size = 6 ∧ i.bytes = 72 ∧ z.cells.size = 6 := by
  have h : (Tryd.prog.info? 91).map (fun i => (i.zero, i.size, i.bytes)) = some (some (.agg #[.int .i64 0, .int .i64 0, .int .i64 0, .string ⟨#[]⟩, .int .i64 0, .slice none 0 0]), 6, 72) := by kernel_rfl
  cases hi : Tryd.prog.info? 91 with
  | none => simp [hi] at h
  | some i => simp [hi] at h; exact ⟨i, _, rfl, h.1, h.2.1, h.2.2, rfl⟩

set_option maxRecDepth 100000 in
set_option maxHeartbeats 6400000 in
theorem refCount {G : Nat → Prop} (d : Nat) {S : Nat → Prop} (R base : Nat) (cap next : Int) (l : List Cp) (cs : List Cn) (m : Int) (gk : Int) (gn : ByteArray) (gi : Int) (ga : List Ty) (a0 : Option Addr) (c0 : Nat) (w : World)
    (h : RCch G d w R base cap next l cs) (hg : TR d S w (.slice a0 ga.length c0) ga) (hS : Apart G w R S) (hll : cs.length ≤ 100000) (hcn : ∀ x ∈ cs, 0 ≤ x.n ∧ x.n ≤ 100000) :
    Calls Tryd.prog 36 #[.pointer (some ⟨R, 0, none⟩), .int .i64 m, .agg #[.int .i64 gk, .string gn, .int .i64 gi, .slice a0 ga.length c0]] w fun e w' =>
      (∃ k x, cs[k]? = some x ∧ hits m (.mk gk gn gi ga) x ∧ NoHit cs m (.mk gk gn gi ga) k ∧ e = .returned (.int .i64 (x.n + 1)) ∧ RCch G d w' R base cap next l (cs.set k { x with n := x.n + 1 }) ∧ RTurn R w w') ∨
      (NoHit cs m (.mk gk gn gi ga) cs.length ∧ e = .returned (.int .i64 1) ∧ RCch G d w' R base cap next l (cs ++ [⟨m, 1, .mk gk gn gi ga⟩]) ∧ RTurn R w w') := by
  have hbs := h.lt
  obtain ⟨a, c, a', c', g1, g2, g3, g4, g5, g6, e0, e1, e2, e3, HB, H5, HCS, HX⟩ := h.form
  have HE := Lib.hid (⟨e0, e3⟩ : _ ∧ _)
  obtain ⟨hG, hv, hvn, gr, gn'⟩ := HX.out
  have HV := Lib.hid hv
  have HVN := Lib.hid hvn
  have HG0 := Lib.hid hG
  have HGL := Lib.hid gr.lt
  have HNL := Lib.hid gn'.lt
  have HGR := Lib.hid (gr.mono (CR.good d) (S' := fun y => (G y ∧ y ≠ R ∧ (Value.slice a' cs.length c').ownBlock ≠ some y) ∧ y < w.heap.size) (Nat.le_refl _) (fun b hb h => ⟨h, hb⟩))
  have HGN := Lib.hid (gn'.mono (cn_good d) (S' := fun y => (G y ∧ y ≠ R ∧ (Value.slice a l.length c).ownBlock ≠ some y) ∧ y < w.heap.size) (Nat.le_refl _) (fun b hb h => ⟨h, hb⟩))
  have HT := Lib.hid ((TR.good d).mono hg (S' := fun y => (G y ∧ y ≠ R ∧ (Value.slice a l.length c).ownBlock ≠ some y ∧ (Value.slice a' cs.length c').ownBlock ≠ some y) ∧ y < w.heap.size) (fun y hy hs => by
    obtain ⟨q1, q2, q3, q4⟩ := hS y hy hs
    exact ⟨⟨q1, q2, fun e => q3 ((OwnAt.of e0 y).2 e), fun e => q4 ((OwnAt.of e3 y).2 e)⟩, hy⟩))
  have HCN := Lib.hid hcn
  obtain ⟨i0, z0, hi0, hz0, hz1, hz2, hz3⟩ := info_count
  clear h hv hvn gr gn' hG hg HX hS e0 e1 e2 H5 hcn g1 g2
  go_enter Tryd.func36, Tryd.ntmps36
  go_wp2
  have hkB : Kept [] w (w.alloc (.cells #[.int .i64 gk, .string gn, .int .i64 gi, .slice a0 ga.length c0] 31)) := (Kept.refl [] w).alloc _
  have HY := Lib.hid (Blk.new w [.int .i64 gk, .string gn, .int .i64 gi, .slice a0 ga.length c0] 31)
  obtain ⟨W0, hW0⟩ : ∃ W0 : World, W0 = w.alloc (.cells #[.int .i64 gk, .string gn, .int .i64 gi, .slice a0 ga.length c0] 31) := ⟨_, rfl⟩
  have HY0 : Hid (Blk W0 w.heap.size [.int .i64 gk, .string gn, .int .i64 gi, .slice a0 ga.length c0] 31) := by rw [hW0]; exact HY.out
  have HK0 : Hid (Kept [] w W0) := by rw [hW0]; exact hkB
  obtain ⟨Y, hY⟩ : ∃ Y, Y = w.heap.size := ⟨_, rfl⟩
  rw [← hW0, ← hY]
  rw [← hY] at HY0
  have hYR : R < Y := by omega
  have HYW := Lib.hid hY
  clear hW0 HY hkB hY
  go_loopw [7] (fun q wr => ∃ k : Nat, k ≤ cs.length ∧ q = .int .i64 k ∧ Kept [] W0 wr ∧ Hid (NoHit cs m (.mk gk gn gi ga) k)) (fun q _ => cs.length - (intOf q).toNat)
  case atStart => exact ⟨0, Nat.zero_le _, rfl, Kept.refl _ _, fun j y hj => by omega⟩
  case round =>
    obtain ⟨k, hk, rfl, hkr, hno⟩ := hrel
    obtain ⟨wo, hwo⟩ : ∃ wo : World, wo = wr := ⟨_, rfl⟩
    subst hwo
    have hkw := HK0.out.trans hkr
    have e3' := hkw.cell' e3 (by simp)
    have hRr : R < wo.heap.size := Nat.lt_of_lt_of_le hbs hkw.size
    have HKW := Lib.hid hkw
    have HY1 := Lib.hid (HY0.out.kept hkr (by simp))
    have hYr : Y < wo.heap.size := HY1.out.lt
    obtain ⟨⟨y0, y1, y2, y3⟩, _⟩ := HY1.out.four
    clear e3 hkw
    by_cases hlt : k < cs.length
    · have hne : cs ≠ [] := by rintro rfl; simp at hlt
      obtain ⟨g, cap', hsl, hgb, hgl, hfr⟩ := HGN.out.blockG hne
      obtain ⟨hag, _, hcc⟩ := Value.slice.inj hsl
      subst hag hcc
      obtain ⟨b1, o1, hab, hSb, hb1, hc1⟩ := HCS.out.count hne
      cases hab
      obtain ⟨x, hx⟩ : ∃ x, cs[k]? = some x := ⟨cs[k], by simp⟩
      obtain ⟨a1, c1, hrx, ht⟩ := hc1 k x hx
      have HX := Lib.hid hx
      have HRG := Lib.hid (HKW.out.range hrx (by simp))
      have HTX := Lib.hid ((TR.good d).kept ht HKW.out (by simp))
      have HTG := Lib.hid ((TR.good d).kept HT.out HKW.out (by simp))
      obtain ⟨hn0, hn1⟩ := HCN.out x (List.mem_of_getElem? hx)
      have f1 : wo.frozen? ⟨g, k * 6 + 1, none⟩ = false := (World.frozen?_of_block (a := ⟨g, k * 6 + 1, none⟩) (HKW.out.block g hgl (by simp))).trans (hfr _)
      obtain ⟨xm, xn, ⟨tk, tn, ti, ta⟩⟩ := x
      simp only [Cn.row, Ty.kind, Ty.name, Ty.index, Ty.args, Nat.zero_add] at HRG HTX hn0 hn1
      have hgw : g < wo.heap.size := Nat.lt_of_lt_of_le hgl HKW.out.size
      have hkc : k < c' := by omega
      have hlt' : (k : Int) < cs.length := by omega
      have HGG := Lib.hid (⟨hgb, hgl⟩ : _ ∧ _)
      clear hsl hSb hb1 hc1 hrx ht hx hne hfr HCS
      have HKF : Hid (∀ w', Kept [] wo w' → w'.cell? ⟨R, 3, none⟩ = some (.slice (some ⟨g, 0, none⟩) cs.length c') ∧ w'.cell? ⟨g, k * 6, none⟩ = some (.int .i64 xm) ∧ w'.cell? ⟨g, k * 6 + 1, none⟩ = some (.int .i64 xn) ∧ w'.cell? ⟨g, k * 6 + 2, none⟩ = some (.int .i64 tk) ∧ w'.cell? ⟨g, k * 6 + 3, none⟩ = some (.string tn) ∧ w'.cell? ⟨g, k * 6 + 4, none⟩ = some (.int .i64 ti) ∧ w'.cell? ⟨g, k * 6 + 5, none⟩ = some (.slice a1 ta.length c1) ∧
          w'.cell? ⟨Y, 0, none⟩ = some (.int .i64 gk) ∧ w'.cell? ⟨Y, 1, none⟩ = some (.string gn) ∧ w'.cell? ⟨Y, 2, none⟩ = some (.int .i64 gi) ∧ w'.cell? ⟨Y, 3, none⟩ = some (.slice a0 ga.length c0)) := Lib.hid (fun w' hk =>
        have p1 := hk.range HRG.out (by simp)
        have p2 := HY1.out.kept hk (by simp)
        ⟨hk.cell' e3' (by simp), p1 0 _ rfl, p1 1 _ rfl, p1 2 _ rfl, p1 3 _ rfl, p1 4 _ rfl, p1 5 _ rfl, p2.cell 0 _ rfl, p2.cell 1 _ rfl, p2.cell 2 _ rfl, p2.cell 3 _ rfl⟩)
      by_cases q1 : (xm == m) = true
      · by_cases q2 : Ty.mk tk tn ti ta = Ty.mk gk gn gi ga
        · have HTE : Hid (∀ W, Kept [] wo W → Calls Tryd.prog 14 #[.agg #[.int .i64 tk, .string tn, .int .i64 ti, .slice a1 ta.length c1], .agg #[.int .i64 gk, .string gn, .int .i64 gi, .slice a0 ga.length c0]] W fun q w' => q = .returned (.bool true) ∧ Kept [] wo w') := Lib.hid (fun W hW => by
            refine (termEqual d tk gk tn gn ti gi ta ga _ _ W ((TR.good d).kept HTX.out hW (by simp)) ((TR.good d).kept HTG.out hW (by simp))).mono ?_
            rintro q w' ⟨r, rfl, hr, hk⟩
            exact ⟨by rw [hr.2 q2], hW.trans hk⟩)
          have HQ2 := Lib.hid q2
          clear q2
          go_upto_region 4 with (fail)
          go_region_held3 (fun w' => w'.cell? ⟨R, 3, none⟩ = some (.slice (some ⟨g, 0, none⟩) cs.length c') ∧ w'.cell? ⟨g, k * 6, none⟩ = some (.int .i64 xm) ∧ w'.cell? ⟨g, k * 6 + 1, none⟩ = some (.int .i64 xn) ∧ w'.cell? ⟨g, k * 6 + 2, none⟩ = some (.int .i64 tk) ∧ w'.cell? ⟨g, k * 6 + 3, none⟩ = some (.string tn) ∧ w'.cell? ⟨g, k * 6 + 4, none⟩ = some (.int .i64 ti) ∧ w'.cell? ⟨g, k * 6 + 5, none⟩ = some (.slice a1 ta.length c1) ∧
              w'.cell? ⟨Y, 0, none⟩ = some (.int .i64 gk) ∧ w'.cell? ⟨Y, 1, none⟩ = some (.string gn) ∧ w'.cell? ⟨Y, 2, none⟩ = some (.int .i64 gi) ∧ w'.cell? ⟨Y, 3, none⟩ = some (.slice a0 ga.length c0))
            (first | with_reducible exact HKF.out _ hk9 | with_reducible exact HKF.out _ ((Kept.refl [] wo).drew))
            (first | (go_at_call 14; (refine Calls.mono (HTE.out _ (by first | exact hk9 | exact (Kept.refl [] wo).drew)) ?_; rintro q w3 ⟨rfl, hk9⟩)))
          all_goals
            obtain ⟨wq, hwq⟩ : ∃ wq : World, wq = w3 := ⟨_, rfl⟩
            subst hwq
            obtain ⟨z0, z1, z2, z3, z4, z5, z6, z7, z8, z9, z10⟩ := HKF.out _ hk9
            have f2 : wq.frozen? ⟨g, k * 6 + 1, none⟩ = false := (World.frozen?_of_block (a := ⟨g, k * 6 + 1, none⟩) (hk9.block g hgw (by simp))).trans f1
            have hR9 : R < wq.heap.size := Nat.lt_of_lt_of_le hRr hk9.size
            have hg9 : g < wq.heap.size := Nat.lt_of_lt_of_le hgw hk9.size
            have hgR : R ≠ g := by have := HGG.out; omega
            have HK9 := Lib.hid (HKW.out.trans hk9)
            clear hk9 y0 y1 y2 y3
          all_goals go_wp2
          all_goals
            go_ret
            have hkS : Kept [g] w (wq.setCell ⟨g, k * 6 + 1, none⟩ (.int .i64 (xn + 1))) := HK9.out.nil.setCell (by simp) _
            have hkg : Kept [g] wq (wq.setCell ⟨g, k * 6 + 1, none⟩ (.int .i64 (xn + 1))) := (Kept.refl _ _).setCell (by simp) _
            have hgg := HVN.out g rfl
            have hgv : ∀ y, (Value.slice a l.length c).ownBlock = some y → y ≠ g := fun y hy e => (HV.out y hy).2 (by rw [e]; rfl)
            have hbl := HB.out.kept hkS (by simpa using hgR)
            have hsz := hkS.size
            refine .inl ⟨k, _, HX.out, ⟨by simpa using q1, HQ2.out⟩, hno.out, rfl, ⟨g5, by omega, fun y hy => HG0.out y (by omega), _, _, ?_, HV.out, HVN.out, ?_, ?_⟩, ?_⟩
            · exact hbl
            · exact (HGR.out.kept (CR.good d) hkS (by intro y hy e; simp at hy; subst hy; exact hgv _ e rfl) (by intro y hy hs; simp at hy; subst hy; exact hs.1.2.2 rfl)).mono (CR.good d) (Nat.le_refl _) (fun _ _ h => h.1)
            · have h1 := (HGN.out.kept (cn_good d) HK9.out (by simp) (by simp))
              have h2 := Gr.put (j := 1) (v := .int .i64 (xn + 1)) (x' := ⟨xm, xn + 1, .mk tk tn ti ta⟩) (cn_good d) h1 HX.out (by decide) rfl (fun _ => rfl) (fun _ _ _ h => h)
              exact h2.mono (cn_good d) (Nat.le_refl _) (fun _ _ h => h.1)
            · refine .mk [g] (fun y hy => .inr (.inr ?_)) hkS (fun y hy => .inl ?_) (fun y hy => .inl ?_)
              · simp at hy
                subst hy
                exact ⟨_, HE.out.2, rfl⟩
              · exact (OwnAt.kept HE.out.1 hkS (by simpa using hgR) y).1 hy
              · exact (OwnAt.kept HE.out.2 hkS (by simpa using hgR) y).1 hy
        · have HTE : Hid (∀ W, Kept [] wo W → Calls Tryd.prog 14 #[.agg #[.int .i64 tk, .string tn, .int .i64 ti, .slice a1 ta.length c1], .agg #[.int .i64 gk, .string gn, .int .i64 gi, .slice a0 ga.length c0]] W fun q w' => q = .returned (.bool false) ∧ Kept [] wo w') := Lib.hid (fun W hW => by
            refine (termEqual d tk gk tn gn ti gi ta ga _ _ W ((TR.good d).kept HTX.out hW (by simp)) ((TR.good d).kept HTG.out hW (by simp))).mono ?_
            rintro q w' ⟨r, rfl, hr, hk⟩
            have : r = false := by
              cases r
              · rfl
              · exact absurd (hr.1 rfl) q2
            exact ⟨by rw [this], hW.trans hk⟩)
          have HQ2 := Lib.hid q2
          clear q2
          go_upto_region 4 with (fail)
          go_region_held3 (fun w' => w'.cell? ⟨R, 3, none⟩ = some (.slice (some ⟨g, 0, none⟩) cs.length c') ∧ w'.cell? ⟨g, k * 6, none⟩ = some (.int .i64 xm) ∧ w'.cell? ⟨g, k * 6 + 1, none⟩ = some (.int .i64 xn) ∧ w'.cell? ⟨g, k * 6 + 2, none⟩ = some (.int .i64 tk) ∧ w'.cell? ⟨g, k * 6 + 3, none⟩ = some (.string tn) ∧ w'.cell? ⟨g, k * 6 + 4, none⟩ = some (.int .i64 ti) ∧ w'.cell? ⟨g, k * 6 + 5, none⟩ = some (.slice a1 ta.length c1) ∧
              w'.cell? ⟨Y, 0, none⟩ = some (.int .i64 gk) ∧ w'.cell? ⟨Y, 1, none⟩ = some (.string gn) ∧ w'.cell? ⟨Y, 2, none⟩ = some (.int .i64 gi) ∧ w'.cell? ⟨Y, 3, none⟩ = some (.slice a0 ga.length c0))
            (first | with_reducible exact HKF.out _ hk9 | with_reducible exact HKF.out _ ((Kept.refl [] wo).drew))
            (first | (go_at_call 14; (refine Calls.mono (HTE.out _ (by first | exact hk9 | exact (Kept.refl [] wo).drew)) ?_; rintro q w3 ⟨rfl, hk9⟩)))
          all_goals go_wp2
          all_goals
            go_roundw
            case rel => exact ⟨k + 1, by omega, by go_num, hkr.trans hk9, hno.out.next HX.out (fun h => HQ2.out h.2)⟩
            case measure => simp [intOf]; omega
      · have q1' : (xm == m) = false := by simpa using q1
        obtain ⟨z0, z1, z2, z3, z4, z5, z6, z7, z8, z9, z10⟩ := HKF.out wo (Kept.refl _ _)
        clear f1
        go_wp2
        go_quiet (fail)
        all_goals go_wp2
        all_goals
          go_roundw
          case rel => exact ⟨k + 1, by omega, by go_num, hkr.drewN _, hno.out.next HX.out (fun h => q1 (by simpa using h.1))⟩
          case measure => simp [intOf]; omega
    · obtain ⟨es, n1, n2, n3⟩ := HGN.out.kept (cn_good d) HKW.out (by simp) (by simp)
      have hlen : (List.zipWith Cn.row cs es).length = cs.length := zip_len n1
      have N2 := Lib.hid n2
      have N3 := Lib.hid n3
      have HHL := Lib.hid hlen
      have HB3 := Lib.hid (HB.out.kept HKW.out (by simp))
      have hlw : w.heap.size ≤ wo.heap.size := HKW.out.size
      clear n2 n3 hlen HCS
      go_upto_region 7 with fail
      go_region_law ((first
        | (refine step_append_rows rfl (.tmp 62) (.tmp 66) 83 91 rfl i0 z0 6 72 Tryd.underlying83 hi0 hz0 hz1 hz2 hz3 (by decide) base (.slice a' cs.length c') (List.zipWith Cn.row cs es) [[.int .i64 m, .int .i64 1, .int .i64 gk, .string gn, .int .i64 gi, .slice a0 ga.length c0]] rfl (N2.out.kept (((Kept.refl [] wo).drew).alloc _) (by simp)) (fun _ => True) (.slice (some ⟨wo.heap.size, 0, none⟩) 1 1) rfl (rows_lit [[.int .i64 m, .int .i64 1, .int .i64 gk, .string gn, .int .i64 gi, .slice a0 ga.length c0]] (halloc_new _ _ _ rfl) (by simp [Value.oneCell']) (by simp)) (by rw [HHL.out]; simp; omega) (by rw [HHL.out]; simp; omega) (by simp; omega) ?_; intro v3 w4 ho3 hk3 hl3; have hk3' := hk3 (Value.slice a' cs.length c').ownBlock.toList (by intro y hy; simp [hy]); have HO3 := Lib.hid ho3; have HK3 := Lib.hid hk3; have HL3 := Lib.hid hl3; have HB5 := Lib.hid ((HB3.out.kept (((Kept.refl [] wo).drew).alloc _) (by simp)).kept hk3' (by intro hy; have := (HNL.out R (by simpa using hy)).1; omega)); have e3 := HB5.out.cell 3 _ rfl; have f3 := HB5.out.frozen 3; obtain ⟨a3, c3', e3', _⟩ := ho3.shape; rw [List.length_append, HHL.out, List.length_singleton] at e3'; subst e3'; clear ho3 hk3 hl3)))
      all_goals go_wp2
      all_goals
        go_ret
        have hk3 := HK3.out (Value.slice a' cs.length c').ownBlock.toList (by intro y hy; simp [hy])
        have hkl := (((Kept.refl [] wo).drew).alloc (.cells (List.toArray [.int .i64 m, .int .i64 1, .int .i64 gk, .string gn, .int .i64 gi, .slice a0 ga.length c0]) 91))
        have hgn : Gr (fun S w e (x : Cn) => TR d S w e x.ty.args) Cn.row 6 91 (fun y => (G y ∧ y ≠ R ∧ (Value.slice a l.length c).ownBlock ≠ some y) ∧ y < w.heap.size) base w4 _ (cs ++ [⟨m, 1, .mk gk gn gi ga⟩]) :=
          Gr.snoc (e := .slice a0 ga.length c0) (cn_good d) n1 (fun k y e hy he => (cn_good d).kept (N3.out k y e hy he) hkl (by simp))
            ((TR.good d).mono ((TR.good d).kept ((TR.good d).kept HT.out HKW.out (by simp)) hkl (by simp)) (fun y _ h => ⟨⟨⟨h.1.1, h.1.2.1, h.1.2.2.1⟩, h.2⟩, h.1.2.2.2⟩))
            HO3.out HK3.out HL3.out
        have hkS : Kept [R] w4 (w4.setCell ⟨R, 3, none⟩ (.slice a3 (cs.length + 1) c3')) := (Kept.refl _ _).setCell (by simp) _
        have hk34 : Kept (R :: (Value.slice a' cs.length c').ownBlock.toList) w w4 := ((HKW.out.nil (M := R :: (Value.slice a' cs.length c').ownBlock.toList)).trans' hkl (by simp)).trans' hk3 (fun x hx => .inl (by simp at hx ⊢; exact .inr hx))
        have hkF : Kept (R :: (Value.slice a' cs.length c').ownBlock.toList) w (w4.setCell ⟨R, 3, none⟩ (.slice a3 (cs.length + 1) c3')) := hk34.setCell (p := ⟨R, 3, none⟩) (by simp) _
        have hBF := HB5.out.set 3 (.slice a3 (cs.length + 1) c3')
        have hown : ∀ y, (Value.slice a3 (cs.length + 1) c3').ownBlock = some y → (Value.slice a' cs.length c').ownBlock = some y ∨ w.heap.size ≤ y := fun y hy => by
          rcases HL3.out with q | ⟨q1, q, q2⟩
          · exact .inl (q ▸ hy)
          · exact .inr (by rw [q] at hy; cases hy; simp at q2; omega)
        have hgr := HGR.out.kept (CR.good d) hkF (by intro y hy e; simp only [List.mem_cons, Option.mem_toList] at hy; rcases hy with rfl | hy; (have := (HGL.out _ e).1; omega); exact (HV.out y e).2 hy) (by intro y hy h; simp only [List.mem_cons, Option.mem_toList] at hy; rcases hy with rfl | hy; exact h.1.2.1 rfl; exact h.1.2.2 hy)
        have hfin := hno.out
        rw [show k = cs.length by omega] at hfin
        have hsz := hkF.size
        refine .inr ⟨hfin, rfl, ⟨g5, by omega, fun y hy => HG0.out y (by omega), _, _, hBF, fun y hy => ⟨(HV.out y hy).1, fun e => ?_⟩, fun y hy => ?_, hgr.mono (CR.good d) (Nat.le_refl _) (fun y _ h => ⟨h.1.1, h.1.2.1, fun e => ?_⟩), (hgn.kept (cn_good d) hkS (by intro y hy e; simp at hy; subst hy; have := (hgn.lt _ e).1; omega) (by intro y hy h; simp at hy; subst hy; exact h.1.2.1 rfl)).mono (cn_good d) (Nat.le_refl _) (fun _ _ h => h.1)⟩, ?_⟩
        · rcases hown y e with q | q
          · exact (HV.out y hy).2 q
          · have := (HGL.out y hy).2; omega
        · rcases hown y hy with q | q
          · exact HVN.out y q
          · exact HG0.out y q
        · rcases hown y e with q | q
          · exact h.1.2.2 q
          · have := h.2; omega
        · refine .mk _ (fun y hy => ?_) hkF (fun y hy => .inl ?_) (fun y hy => ?_)
          · simp only [List.mem_cons, Option.mem_toList] at hy
            rcases hy with rfl | hy
            · exact .inl rfl
            · exact .inr (.inr ((OwnAt.of HE.out.2 y).2 hy))
          · exact (OwnAt.of HE.out.1 y).2 ((OwnAt.of (hBF.cell 0 _ rfl) y).1 hy)
          · rcases hown y ((OwnAt.of (hBF.cell 3 _ rfl) y).1 hy) with q | q
            · exact .inl ((OwnAt.of HE.out.2 y).2 q)
            · exact .inr q
end Go.Proofs.YtkldomkooleecaaDoor
