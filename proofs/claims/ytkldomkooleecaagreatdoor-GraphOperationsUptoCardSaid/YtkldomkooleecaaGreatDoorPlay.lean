/- The walk of play: both graphs, operation by operation. -/
import Derived.Test.YtkldomkooleecaaGreatDoorMPlay
import Derived.Test.YtkldomkooleecaaGreatDoorSane32
import Derived.Deep.CutRange
import Derived.Deep.CutBlock
import Derived.Deep.RegionHeld3
namespace Go.Proofs.YtkldomkooleecaaGreatDoor
open Go.RowKit Go.Maps Go.MapKept

theorem Blk.fourA {w : World} {b : Nat} {c0 c1 c2 c3 : Value} {t : TypeId} (h : Blk w b [c0, c1, c2, c3] t) : w.cell? ⟨b, 0, none⟩ = some c0 ∧ w.cell? ⟨b, 1, none⟩ = some c1 ∧ w.cell? ⟨b, 2, none⟩ = some c2 ∧ w.cell? ⟨b, 3, none⟩ = some c3 :=
  ⟨h.cell 0 _ rfl, h.cell 1 _ rfl, h.cell 2 _ rfl, h.cell 3 _ rfl⟩

set_option maxRecDepth 100000 in
set_option maxHeartbeats 25600000 in
theorem play (d tb : Nat) {S : Nat → Prop} (Q : List Dp) (v : Value) (l : List Op32) (w : World) (h : Rd (fun S w e (x : Op32) => AR d S w e x) Op32.row 4 S w v l) (hS : ∀ y, S y → y < w.heap.size) (hT : Tabs tb w) (htb : tb ≤ w.heap.size)
    (hQ : Q.length < 60) (hok : ∀ x ∈ l, ∀ y ∈ x.deps, Fit Q y) (hlen : ∀ x ∈ l, x.deps.length ≤ 1000 ∧ x.uses.length ≤ 1000) (hl : l.length ≤ 200) :
    Calls Tryz.prog 15 #[v] w fun e w' => e = .returned (.bool true) ∧ Kept [] w w' := by
  obtain ⟨va, vc, rfl, hv1, hv2, hv3⟩ := h.form
  have HV3 := Lib.hid hv3
  have HS := Lib.hid hS
  have HT := Lib.hid hT
  have HOK := Lib.hid hok
  have HLEN := Lib.hid hlen
  clear hv3 hS hT hok hlen h
  go_enter Tryz.func15, Tryz.ntmps15
  go_upto_region 2 with (first
    | (go_at_call 21; refine Calls.mono (newG d _) ?_; rintro e w1 ⟨b, nb, eb, bb, rfl, hg, hk1, hb1, hb2, hb3, hb4⟩; have HG := Lib.hid hg; have HK1 := Lib.hid hk1; have HB := Lib.hid (show w.heap.size ≤ b ∧ w.heap.size ≤ nb ∧ w.heap.size ≤ eb from ⟨hb1, hb2, hb3⟩); clear hg hk1 hb1 hb2 hb3 hb4)
    | (go_at_call 31; refine Calls.mono (rNew _) ?_; rintro e w2 ⟨rfl, hrb, hsz2, hk2⟩; have HRB := Lib.hid hrb; have HSZ2 := Lib.hid hsz2; have HK2 := Lib.hid hk2; clear hrb hsz2 hk2))
  obtain ⟨R, hR⟩ : ∃ R, R = w1.heap.size := ⟨_, rfl⟩
  obtain ⟨base, hbase⟩ : ∃ base, base = w2.heap.size := ⟨_, rfl⟩
  have HST : Hid (PSt b nb eb R base d w2 0 [] [] ∧ ∀ y, y < w.heap.size → Free w2 b nb eb R y) := Lib.hid (by
    have q := PSt.start (d := d) (w' := w2) HG.out HK2.out (R := R) (by rw [hR]; exact HRB.out) (by omega)
    rw [← hbase] at q
    have h1 := HB.out
    have h2 := HK1.out.size
    have h3 := HK2.out.size
    exact ⟨q.1, fun y hy => q.2 y (by omega) (by omega) (by omega) (by omega) (by omega)⟩)
  have HKW : Hid (Kept [] w w2) := Lib.hid (HK1.out.trans HK2.out)
  have HV2 := Lib.hid (show l = [] ∨ ∃ b off, va = some ⟨b, off, none⟩ ∧ S b ∧ b < w2.heap.size ∧ ∀ (k : Nat) (x : Op32), l[k]? = some x → ∃ e, w2.rangeAt b (off + k * 4) (x.row e) ∧ AR d S w2 e x from by
    rcases HV3.out with q | ⟨b, off, q1, q2, q3, q4⟩
    · exact .inl q
    · refine .inr ⟨b, off, q1, q2, Nat.lt_of_lt_of_le q3 HKW.out.size, fun k x hx => ?_⟩
      obtain ⟨e, r1, _, r2⟩ := q4 k x hx
      exact ⟨e, HKW.out.range r1 (by simp), (AR.good d).kept r2 HKW.out (by simp)⟩)
  have HSF : Hid (∀ y, S y → Free w2 b nb eb R y) := Lib.hid (fun y hy => HST.out.2 y (HS.out y hy))
  have HTF : Hid (Tabs tb w2 ∧ ∀ y, y < tb → Free w2 b nb eb R y) := Lib.hid ⟨HT.out.kept0 HKW.out, fun y hy => HST.out.2 y (by omega)⟩
  have htb2 : tb ≤ base := by have := HKW.out.size; omega
  have hbw : b < w2.heap.size := by have := HST.out.1.gat.lt1; omega
  have hRw : R < w2.heap.size := by have := HST.out.1.rg.lt; omega
  rw [← hR]
  clear HV3 HS HT HG HK1 HB HRB HSZ2 HK2 hR hbase
  go_wp2_with fail
  go_loopg [5] l.length (fun kk i wr => ∃ n : Nat, kk = l.length - n ∧ n ≤ l.length ∧ i = .int .i64 n ∧ Hid (PHas Q b nb eb R base d w2 wr n))
  case atStart => exact ⟨0, rfl, Nat.zero_le _, rfl, 0, [], [], HST.out.1, Sim.start, by simp, by simp, Step.refl _ _ _ _ _, Nat.le_refl _, by simp⟩
  case round =>
    obtain ⟨n, rfl, hn, rfl, hph⟩ := hrel
    obtain ⟨wo, hwo⟩ : ∃ wo : World, wo = wr := ⟨_, rfl⟩
    subst hwo
    by_cases hlt : n < l.length
    · have hne : l ≠ [] := by rintro rfl; simp at hlt
      obtain ⟨rb, ro, rfl, hSb, hb5, hc5⟩ := HV2.out.resolve_left hne
      obtain ⟨x, hx⟩ := getp l n hlt
      obtain ⟨te, tr, tv⟩ := hc5 n x hx
      obtain ⟨last, ns, rs, hpi⟩ := hph.out
      have hok := HOK.out x (List.mem_of_getElem? hx)
      obtain ⟨hl1, hl2⟩ := HLEN.out x (List.mem_of_getElem? hx)
      have hst := hpi.st
      obtain ⟨op, idn, ds, us⟩ := x
      obtain ⟨da, ua, rfl, hd, hu⟩ := tv
      obtain ⟨qa, qc, rfl, -⟩ := hd.form
      obtain ⟨ra, rc, rfl, -⟩ := hu.ints
      simp only [Op32.row, vfst_pair, vsnd_pair] at tr hd hu hok hl1 hl2
      have HRG := Lib.hid (hst.range (HSF.out rb hSb) tr)
      have HD := Lib.hid (hst.rd (DL.good d) hd HSF.out)
      have HU := Lib.hid (hst.reads hu HSF.out)
      have HT1 := Lib.hid (hst.tabs HTF.out.2 HTF.out.1)
      have HOK1 := Lib.hid hok
      have HPI := Lib.hid hpi
      have szr := hst.size
      have hbr : rb < wo.heap.size := by omega
      have hnc : n < vc := by omega
      clear hx hc5 hne tr hd hu hok hst hpi hph HV2 hb5 hSb
      go_upto_region 8 with (first
        | (refine wpList_load_mid rfl 35 (.tmp 24) rfl rb (ro + n * 4) rfl [.int .i64 op, .int .i64 idn, .slice qa ds.length qc, .slice ra us.length rc] _ HRG.out Tryz.underlying35 rfl (by kernel_rfl) ?_)
        | (refine wpList_allocStore (.tmp 25) 35 rfl rfl rfl rfl rfl rfl _ [.int .i64 op, .int .i64 idn, .slice qa ds.length qc, .slice ra us.length rc] info_act2 rfl (fun _ => rfl) (fun _ => rfl) (by simp [Value.oneCell']) ?_))
      obtain ⟨A, hA⟩ : ∃ A, A = wo.heap.size := ⟨_, rfl⟩
      obtain ⟨W1, hW1⟩ : ∃ W1 : World, W1 = wo.alloc (.cells (List.toArray [.int .i64 op, .int .i64 idn, .slice qa ds.length qc, .slice ra us.length rc]) 35) := ⟨_, rfl⟩
      have hkW : Kept [] wo W1 := by rw [hW1]; exact (Kept.refl [] wo).alloc _
      have HA : Hid (Blk W1 A [.int .i64 op, .int .i64 idn, .slice qa ds.length qc, .slice ra us.length rc] 35) := by rw [hW1, hA]; exact Blk.new wo _ _
      have HAF : Hid (Free W1 b nb eb R A) := Lib.hid (HPI.out.ps.fresh hkW (by omega) HA.out.lt)
      have HP1 := Lib.hid (HPI.out.kept0 hkW)
      have HS1 : Hid (∀ y, S y → Free W1 b nb eb R y) := Lib.hid (fun y hy => HP1.out.st.free (HSF.out y hy))
      have HD1 := Lib.hid ((DL.good d).kept HD.out hkW (by simp))
      have HU1 := Lib.hid (HU.out.kept hkW (by simp))
      have HTB1 := Lib.hid (HT1.out.kept0 hkW)
      have HTA : Hid (∀ (x : World), Step b nb eb R W1 x → Tabs tb x) := Lib.hid (fun x hx => hx.tabs (fun y hy => HP1.out.st.free (HTF.out.2 y hy)) HTB1.out)
      have hAW : A < W1.heap.size := HA.out.lt
      rw [← hA, ← hW1]
      clear hW1 hkW hA HRG HD HU HT1 HPI hbr szr
      obtain ⟨i0, i1, i2, i3⟩ := HA.out.fourA
      have hn900 : n ≤ 900 := by omega
      by_cases hop : 0 ≤ op ∧ op < 4
      · have d1 : decide (op ≥ 0) = true := by simpa using hop.1
        have d2 : decide (op < 4) = true := by simpa using hop.2
        have hrr1 : ((addI ns last us) != (addI ns last us)) = false := by simp
        have hrr2 : ((addE ns us) != (addE ns us)) = false := by simp
        obtain ⟨ri, hri⟩ : ∃ ri, ri = addI ns last us := ⟨_, rfl⟩
        obtain ⟨re, hre⟩ : ∃ re, re = addE ns us := ⟨_, rfl⟩
        have HRI := Lib.hid hri
        have HRE := Lib.hid hre
        rw [← hri] at hrr1
        rw [← hre] at hrr2
        clear hri hre
        go_wp2_with (first
          | (go_at_call 22; refine Calls.mono (psAdd (S := S) (S' := S) _ _ ds us _ (by exact HP1.out) (by exact HD1.out) (by exact HU1.out) HS1.out HS1.out hn900 hl1 hl2) ?_; rintro e w3 ⟨rfl, hm⟩; rw [← HRI.out, ← HRE.out]; have HM := Lib.hid hm; have HA3 := Lib.hid (hm.step.blk HAF.out HA.out); obtain ⟨i0, i1, i2, i3⟩ := HA3.out.fourA; have hA3 : A < w3.heap.size := HA3.out.lt; clear hm)
          | (go_at_call 32; refine Calls.mono (psRAdd (S := S) (S' := S) _ _ ds us W1 _ (by exact HP1.out) (by exact HM.out) (by exact HM.out.step.rd (DL.good d) HD1.out HS1.out) (by exact HM.out.step.reads HU1.out HS1.out) (by intro y hy; exact HM.out.step.free (HS1.out y hy)) hn900 hl1 hl2 HOK1.out) ?_; rintro e w4 ⟨rfl, ⟨last', ns', rs', hpi'⟩, hs4⟩; rw [← HRI.out, ← HRE.out]; have HPI' := Lib.hid hpi'; have HS4 := Lib.hid (HM.out.step.trans hs4); have HA4 := Lib.hid (hs4.blk (HM.out.step.free HAF.out) HA3.out); obtain ⟨i0, i1, i2, i3⟩ := HA4.out.fourA; have hA4 : A < w4.heap.size := HA4.out.lt; clear hpi' hs4)
          | (go_at_call 34; refine Calls.mono (agree tb idn _ (by exact HPI'.out) (by exact HTA.out _ HS4.out) htb2 hQ (by omega)) ?_; rintro e w5 ⟨rfl, hk5⟩; have HK5 := Lib.hid hk5; clear hk5))
        go_roundg (l.length - (n + 1))
        case rel => exact ⟨n + 1, rfl, by omega, by go_num, last', ns', rs', HPI'.out.kept0 HK5.out⟩
        case measure => omega
      · have HKF : Hid (∀ w' : World, Blk w' A [.int .i64 op, .int .i64 idn, .slice qa ds.length qc, .slice ra us.length rc] 35 → w'.cell? ⟨A, 1, none⟩ = some (.int .i64 idn)) := Lib.hid (fun w' hb => hb.cell 1 _ rfl)
        have HAD := Lib.hid (HA.out.kept ((Kept.refl [] W1).drew) (by simp))
        have hkd : Kept [] W1 W1.drew := (Kept.refl [] W1).drew
        have HPD := Lib.hid (HP1.out.kept0 hkd)
        have HSD := Lib.hid (HP1.out.ps.kept0 hkd).2
        have HC1 : Hid (Calls Tryz.prog 27 #[.pointer (some ⟨b, 0, none⟩), .int .i64 idn] W1.drew fun q w' => q = .returned (.int .i64 (remE ns idn)) ∧ Blk w' A [.int .i64 op, .int .i64 idn, .slice qa ds.length qc, .slice ra us.length rc] 35 ∧ Hid (MidR b nb eb R base d W1.drew w' last ns rs idn)) := Lib.hid (by
          refine (psRem idn W1.drew HPD.out hn900).mono ?_
          rintro q w' ⟨rfl, hm⟩
          exact ⟨rfl, hm.2.blk (HSD.out.free HAF.out) HAD.out, hm⟩)
        have HC2 : Hid (∀ W : World, Hid (MidR b nb eb R base d W1.drew W last ns rs idn) → Blk W A [.int .i64 op, .int .i64 idn, .slice qa ds.length qc, .slice ra us.length rc] 35 → Calls Tryz.prog 33 #[.pointer (some ⟨R, 0, none⟩), .int .i64 idn] W fun q w' => q = .returned (.int .i64 (remE ns idn)) ∧ Blk w' A [.int .i64 op, .int .i64 idn, .slice qa ds.length qc, .slice ra us.length rc] 35 ∧ Hid (PHas Q b nb eb R base d w2 w' (n + 1) ∧ Step b nb eb R W1 w')) := Lib.hid (fun W hW hb => by
          refine (psRRem idn W1.drew W HPD.out hW.out).mono ?_
          rintro q w' ⟨rfl, hp, hs⟩
          have hs0 := HSD.out.trans hW.out.2
          exact ⟨rfl, hs.blk (hs0.free HAF.out) hb, hp, hs0.trans hs⟩)
        have hrr : ((remE ns idn) != (remE ns idn)) = false := by simp
        have hcase : decide (op ≥ 0) = false ∨ (decide (op ≥ 0) = true ∧ decide (op < 4) = false) := by
          by_cases h0 : 0 ≤ op
          · exact .inr ⟨by simpa using h0, by simp; omega⟩
          · exact .inl (by simp; omega)
        clear hop i0 i2 i3
        rcases hcase with d1 | ⟨d1, d2⟩
        all_goals
          have i0 := HA.out.cell 0 _ rfl
          go_upto_region 13 with fail
          clear i0 i1
          go_region_held3 (fun w' => w'.cell? ⟨A, 1, none⟩ = some (.int .i64 idn))
            (first | with_reducible exact HKF.out _ hb9 | with_reducible exact HKF.out _ HAD.out)
            (first
              | (go_at_call 27; (refine Calls.mono HC1.out ?_; rintro q w3 ⟨rfl, hb9, hs9⟩))
              | (go_at_call 33; (refine Calls.mono (HC2.out _ hs9 hb9) ?_; rintro q w5 ⟨rfl, hb9, ht9⟩)))
        all_goals
          obtain ⟨⟨last', ns', rs', hpi'⟩, hs5⟩ := ht9.out
          have HPI' := Lib.hid hpi'
          have HS5 := Lib.hid hs5
          have i1 := hb9.cell 1 _ rfl
          have hA5 := hb9.lt
          clear hpi' hs5 ht9 hs9 HC1 HC2 HKF
          go_wp2_with (go_at_call 34; refine Calls.mono (agree tb idn _ (by exact HPI'.out) (by exact HTA.out _ HS5.out) htb2 hQ (by omega)) ?_; rintro e w7 ⟨rfl, hk7⟩; have HK7 := Lib.hid hk7; clear hk7)
          go_roundg (l.length - (n + 1))
          case rel => exact ⟨n + 1, rfl, by omega, by go_num, last', ns', rs', HPI'.out.kept0 HK7.out⟩
          case measure => omega
    · have hne : n = l.length := by omega
      subst hne
      obtain ⟨last, ns, rs, hpi⟩ := hph.out
      have HPI := Lib.hid hpi
      have HTW := Lib.hid (hpi.st.tabs HTF.out.2 HTF.out.1)
      have HWH := Lib.hid (hpi.st.whole HKW.out HST.out.2)
      have HBF := Lib.hid (fun f => hpi.sim.byFn hpi.ps.gat.nums f)
      have hlen : ns.length ≤ 1000000 := by have := hpi.a2; omega
      clear hpi hph HV2
      go_wp2_with fail
      go_loopw [11] (fun iv wr => ∃ z : Int, -1 ≤ z ∧ z ≤ (l.length : Int) + 2 ∧ iv = .int .i64 z ∧ Kept [] wo wr) (fun iv _ => ((l.length : Int) + 2 - intOf iv).toNat)
      case atStart => exact ⟨-1, by omega, by omega, rfl, Kept.refl _ _⟩
      case round =>
        obtain ⟨z, hz1, hz2, rfl, hkz⟩ := hrel
        obtain ⟨wz, hwz⟩ : ∃ wz : World, wz = wr := ⟨_, rfl⟩
        subst hwz
        have HPZ := Lib.hid (HPI.out.kept0 hkz)
        have HTZ := Lib.hid (HTW.out.kept0 hkz)
        by_cases hlz : z ≤ (l.length : Int) + 1
        · go_wp2_with (go_at_call 34; refine Calls.mono (agree tb z _ (by exact HPZ.out) (by exact HTZ.out) htb2 hQ (by omega)) ?_; rintro e w7 ⟨rfl, hk7⟩; have HK7 := Lib.hid hk7; clear hk7)
          go_roundw
          case rel => exact ⟨z + 1, by omega, by omega, by go_num, hkz.trans HK7.out⟩
          case measure => simp [intOf]; omega
        · have HG := Lib.hid HPZ.out.ps.gat
          have HR := Lib.hid HPZ.out.ps.rg
          have HK := Lib.hid hkz
          go_wp2_with (first
            | (go_at_call 20; refine Calls.mono (gByFunction d b nb eb base last ns _ _ (by exact HG.out) hlen) ?_; rintro e w3 ⟨v3, rfl, ho, hk⟩; rw [HBF.out] at ho; have ho' := ho.rows'.mono (S' := fun _ => True) (fun _ _ _ => trivial); obtain ⟨a3, c3, rfl, _⟩ := ho'.ints; have HO3 := Lib.hid ho'; have HG := Lib.hid (HG.out.kept0 hk); have HR := Lib.hid (HR.out.kept0 hk); have HK := Lib.hid (HK.out.trans hk); clear ho ho' hk)
            | (go_at_call 35; refine Calls.mono (rByFunction d R base rs _ _ (by exact HR.out)) ?_; rintro e w4 ⟨v4, rfl, ho, hk⟩; obtain ⟨a4, c4, rfl, _⟩ := ho.ints; have HO3 := Lib.hid (HO3.out.kept hk (by simp)); have HO4 := Lib.hid ho; have HG := Lib.hid (HG.out.kept0 hk); have HR := Lib.hid (HR.out.kept0 hk); have HK := Lib.hid (HK.out.trans hk); clear ho hk)
            | (go_at_call 26; refine Calls.mono (eqInts _ _ _ _ (by exact HO3.out) (by exact HO4.out)) ?_; rintro e w5 ⟨rfl, hk⟩; have HG := Lib.hid (HG.out.kept0 hk); have HR := Lib.hid (HR.out.kept0 hk); have HK := Lib.hid (HK.out.trans hk); clear hk))
          go_ret
          exact ⟨rfl, HWH.out.trans HK.out⟩
end Go.Proofs.YtkldomkooleecaaGreatDoor
