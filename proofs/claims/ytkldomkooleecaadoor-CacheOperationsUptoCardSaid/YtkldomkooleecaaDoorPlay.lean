/- The walk of play: both caches, operation by operation. -/
import Derived.Test.YtkldomkooleecaaDoorPlayD
import Derived.Test.YtkldomkooleecaaDoorEqC
import Derived.Test.YtkldomkooleecaaDoorGen31B
import Derived.Deep.CutRange
import Derived.Deep.CutBlock
import Derived.Deep.RegionHeld3
namespace Go.Proofs.YtkldomkooleecaaDoor
open Go.RowKit Go.Maps Go.MapKept

theorem gen_exit {P : Program} {c : Code} {K : Act → World → Prop} {Q : Exit → Act → World → Prop} {a : Act} {w : World} (h : ∀ Q2, Code.wp P c (Exit.then K Q2) a w) : Code.wp P c (Exit.then K Q) a w := h Q
theorem PSt.start {B mb R d : Nat} {w : World} {cap : Int} (hB : Blk w B [.int .i64 cap, .int .i64 0, .slice none 0 0, .map (some mb)] 64) (hR : Blk w R [.slice none 0 0, .int .i64 cap, .int .i64 1, .slice none 0 0] 85) (hm : w.heap[mb]? = some (.map #[] 0)) (h1 : mb ≠ B) (h2 : R ≠ B) (h3 : R ≠ mb) :
    PSt B mb R w.heap.size d w cap 0 [] [] 1 [] [] ∧ ∀ y, y < w.heap.size → y ≠ B → y ≠ mb → y ≠ R → Free w B mb R y := by
  have n1 : ∀ y, ¬ OwnAt w ⟨B, 2, none⟩ y := fun y e => by simpa [Value.ownBlock] using (OwnAt.of (hB.cell 2 _ rfl) y).1 e
  have n2 : ∀ y, ¬ OwnAt w ⟨R, 0, none⟩ y := fun y e => by simpa [Value.ownBlock] using (OwnAt.of (hR.cell 0 _ rfl) y).1 e
  have n3 : ∀ y, ¬ OwnAt w ⟨R, 3, none⟩ y := fun y e => by simpa [Value.ownBlock] using (OwnAt.of (hR.cell 3 _ rfl) y).1 e
  have hBl := hB.lt
  have hml : mb < w.heap.size := (Array.getElem?_eq_some_iff.1 hm).1
  refine ⟨⟨Cch.fresh hB hB.lt (Nat.le_refl _) (fun y _ => ⟨n2 y, n3 y⟩), RCch.fresh hR hR.lt (Nat.le_refl _) (fun y hy => ⟨by omega, by omega, n1 y⟩), ⟨[], 0, .empty hm, .nil⟩, h1, h2, h3, hml⟩, fun y q1 q2 q3 q4 => ⟨q1, q2, q3, q4, n1 y, n2 y, n3 y⟩⟩
theorem PSt.fresh {B mb R base d : Nat} {w w' : World} {cap last next : Int} {l l2 : List Cp} {cm cs : List Cn} (h : PSt B mb R base d w cap last l cm next l2 cs) (k : Kept [] w w') {y : Nat} (h1 : w.heap.size ≤ y) (h2 : y < w'.heap.size) : Free w' B mb R y := by
  obtain ⟨vb, vr, vn, c1, c2, c3, o1, o2, o3⟩ := h.cells
  have hR := h.rch.lt
  have hB := h.cch.lt
  have hm := h.low
  have hb := h.cch.2.1
  refine ⟨h2, by omega, by omega, by omega, fun e => ?_, fun e => ?_, fun e => ?_⟩
  · have := (o1 y ((OwnAt.of c1 y).1 ((OwnAt.kept c1 k (by simp) y).1 e))).2; omega
  · have := (o2 y ((OwnAt.of c2 y).1 ((OwnAt.kept c2 k (by simp) y).1 e))).2; omega
  · have := (o3 y ((OwnAt.of c3 y).1 ((OwnAt.kept c3 k (by simp) y).1 e))).2; omega

/-- What stands after n operations. -/
structure PInv (B mb R base d : Nat) (w0 w : World) (cap : Int) (n : Nat) (last : Int) (l : List Cp) (cs : List Cn) : Prop where
  ps : PSt B mb R base d w cap last l cs (last + 1) l cs
  st : Step B mb R w0 w
  a0 : 0 ≤ last
  a1 : last ≤ n
  a2 : l.length ≤ n
  a3 : cs.length ≤ n
  a4 : ∀ x ∈ cs, 0 ≤ x.n ∧ x.n ≤ (n : Int)
def PHas (B mb R base d : Nat) (w0 w : World) (cap : Int) (n : Nat) : Prop := ∃ last l cs, PInv B mb R base d w0 w cap n last l cs

section
variable {B mb R base d n : Nat} {w0 w w' : World} {cap last : Int} {l : List Cp} {cs : List Cn}
theorem PInv.kept0 (h : PInv B mb R base d w0 w cap n last l cs) (k : Kept [] w w') : PInv B mb R base d w0 w' cap n last l cs :=
  ⟨(h.ps.kept0 k).1, h.st.trans (h.ps.kept0 k).2, h.a0, h.a1, h.a2, h.a3, h.a4⟩
theorem PInv.same (h : PInv B mb R base d w0 w cap n last l cs) (hp : PSt B mb R base d w' cap last l cs (last + 1) l cs) (hs : Step B mb R w w') : PHas B mb R base d w0 w' cap (n + 1) :=
  ⟨last, l, cs, hp, h.st.trans hs, h.a0, by have := h.a1; omega, by have := h.a2; omega, by have := h.a3; omega, fun x hx => by have := h.a4 x hx; omega⟩
theorem addN_succ (cap : Int) (l : List Cp) (m f u last : Int) : addN cap l m f u (last + 1) = addN cap l m f u last + 1 := by
  unfold addN
  split <;> rfl
theorem PInv.add {m f u : Int} {t : Ty} {xl : List Int} (h : PInv B mb R base d w0 w cap n last l cs)
    (hp : PSt B mb R base d w' cap (addN cap l m f u last) (addL cap l m f u (last + 1) t xl) cs (addN cap l m f u (last + 1)) (addL cap l m f u (last + 1) t xl) cs) (hs : Step B mb R w w') : PHas B mb R base d w0 w' cap (n + 1) := by
  rw [addN_succ] at hp
  refine ⟨_, _, cs, hp, h.st.trans hs, ?_, ?_, ?_, by have := h.a3; omega, fun x hx => by have := h.a4 x hx; omega⟩
  · have := h.a0; unfold addN; split <;> omega
  · have := h.a1; unfold addN; split <;> omega
  · have := addL_len cap l m f u (last + 1) t xl; have := h.a2; omega
theorem PInv.inv {i wd : Int} (h : PInv B mb R base d w0 w cap n last l cs) (hp : PSt B mb R base d w' cap last (invL l i wd) cs (last + 1) (invL l i wd) cs) (hs : Step B mb R w w') : PHas B mb R base d w0 w' cap (n + 1) :=
  ⟨last, _, cs, hp, h.st.trans hs, h.a0, by have := h.a1; omega, by have := invL_len l i wd; have := h.a2; omega, by have := h.a3; omega, fun x hx => by have := h.a4 x hx; omega⟩
theorem PInv.rem {i : Int} (h : PInv B mb R base d w0 w cap n last l cs) (hp : PSt B mb R base d w' cap last (remL l i) cs (last + 1) (remL l i) cs) (hs : Step B mb R w w') : PHas B mb R base d w0 w' cap (n + 1) :=
  ⟨last, _, cs, hp, h.st.trans hs, h.a0, by have := h.a1; omega, by have := remL_len l i; have := h.a2; omega, by have := h.a3; omega, fun x hx => by have := h.a4 x hx; omega⟩
theorem PInv.cnt {m : Int} {t : Ty} (h : PInv B mb R base d w0 w cap n last l cs) (hp : PSt B mb R base d w' cap last l (cntL cs m t) (last + 1) l (cntL cs m t)) (hs : Step B mb R w w') : PHas B mb R base d w0 w' cap (n + 1) :=
  ⟨last, l, _, hp, h.st.trans hs, h.a0, by have := h.a1; omega, by have := h.a2; omega, by have := cntL_len cs m t; have := h.a3; omega, fun x hx => by have := cntL_le (by omega) h.a4 x hx; omega⟩
end

set_option maxRecDepth 100000 in
set_option maxHeartbeats 25600000 in
theorem play (d tb : Nat) {S : Nat → Prop} (cap0 : Int) (v : Value) (l : List Op31) (w : World) (h : Rd (fun S w e (x : Op31) => TR d S w e x.ty.args) Op31.row 10 S w v l) (hS : ∀ y, S y → y < w.heap.size) (hT : Tabs tb w) (htb : tb ≤ w.heap.size)
    (hok : ∀ x ∈ l, tyOk x.ty ∧ tyW x.ty ≤ 140737488355328) (hl : l.length ≤ 200) :
    Calls Tryd.prog 19 #[.int .i64 cap0, v] w fun e w' => e = .returned (.bool true) ∧ Kept [] w w' := by
  obtain ⟨va, vc, rfl, hv1, hv2, hv3⟩ := h.form
  have HV3 := Lib.hid hv3
  have HS := Lib.hid hS
  have HT := Lib.hid hT
  have HOK := Lib.hid hok
  clear hv3 hS hT hok h
  go_enter Tryd.func19, Tryd.ntmps19
  go_upto_region 2 with (first
    | (go_at_call 7; refine Calls.mono (cacheNewAny cap0 _) ?_; rintro e w1 ⟨rfl, hcb, hmp, hsz1, hk1⟩; have HCB := Lib.hid hcb; have HMP := Lib.hid hmp; have hs1 : w1.heap.size = w.heap.size + 2 := hsz1; have HK1 := Lib.hid hk1; clear hcb hmp hsz1 hk1)
    | (go_at_call 28; refine Calls.mono (refNew cap0 _) ?_; rintro e w2 ⟨rfl, hrb, hsz2, hk2⟩; have HRB := Lib.hid hrb; have hs2 : w2.heap.size = w1.heap.size + 1 := hsz2; have HK2 := Lib.hid hk2; clear hrb hsz2 hk2))
  obtain ⟨B, hB⟩ : ∃ B, B = w.heap.size + 1 := ⟨_, rfl⟩
  obtain ⟨mb, hmb⟩ : ∃ mb, mb = w.heap.size := ⟨_, rfl⟩
  obtain ⟨R, hR⟩ : ∃ R, R = w.heap.size + 2 := ⟨_, rfl⟩
  obtain ⟨base, hbase⟩ : ∃ base, base = w2.heap.size := ⟨_, rfl⟩
  obtain ⟨cap, hcap⟩ : ∃ cap, cap = min (max cap0 0) 200 := ⟨_, rfl⟩
  have hcap0 : 0 ≤ cap := by omega
  have hcap1 : cap ≤ 200 := by omega
  have HST : Hid (PSt B mb R base d w2 cap 0 [] [] 1 [] [] ∧ ∀ y, y < w.heap.size → Free w2 B mb R y) := Lib.hid (by
    have q := PSt.start (d := d) (w := w2) (B := B) (mb := mb) (R := R) (cap := cap) (by rw [hB, hmb, hcap]; exact HCB.out.kept HK2.out (by simp)) (by rw [hR, hcap, ← hs1]; exact HRB.out) (by rw [hmb]; exact HK2.out.get HMP.out (by simp)) (by omega) (by omega) (by omega)
    rw [← hbase] at q
    exact ⟨q.1, fun y hy => q.2 y (by omega) (by omega) (by omega) (by omega)⟩)
  have HKW : Hid (Kept [] w w2) := Lib.hid (HK1.out.trans HK2.out)
  have HV2 := Lib.hid (show l = [] ∨ ∃ b off, va = some ⟨b, off, none⟩ ∧ S b ∧ b < w2.heap.size ∧ ∀ (k : Nat) (x : Op31), l[k]? = some x → ∃ e, w2.rangeAt b (off + k * 10) (x.row e) ∧ TR d S w2 e x.ty.args from by
    rcases HV3.out with q | ⟨b, off, q1, q2, q3, q4⟩
    · exact .inl q
    · refine .inr ⟨b, off, q1, q2, by omega, fun k x hx => ?_⟩
      obtain ⟨e, r1, _, r2⟩ := q4 k x hx
      exact ⟨e, HKW.out.range r1 (by simp), (TR.good d).kept r2 HKW.out (by simp)⟩)
  have HSF : Hid (∀ y, S y → Free w2 B mb R y) := Lib.hid (fun y hy => HST.out.2 y (HS.out y hy))
  have HTF : Hid (Tabs tb w2 ∧ ∀ y, y < tb → Free w2 B mb R y) := Lib.hid ⟨HT.out.kept0 HKW.out, fun y hy => HST.out.2 y (by omega)⟩
  have hBw : B < w2.heap.size := by omega
  have hRw : R < w2.heap.size := by omega
  rw [← hB, ← hR]
  clear HV3 HS HT HCB HMP HK1 HRB HK2 hB hmb hR hbase hcap hs1 hs2
  go_wp2_with fail
  go_loopg [7] l.length (fun kk i wr => ∃ n : Nat, kk = l.length - n ∧ n ≤ l.length ∧ i = .int .i64 n ∧ Hid (PHas B mb R base d w2 wr cap n))
  case atStart => exact ⟨0, rfl, Nat.zero_le _, rfl, 0, [], [], HST.out.1, Step.refl _ _ _ _, by decide, by decide, by simp, by simp, by simp⟩
  case round =>
    obtain ⟨n, rfl, hn, rfl, hph⟩ := hrel
    obtain ⟨wo, hwo⟩ : ∃ wo : World, wo = wr := ⟨_, rfl⟩
    subst hwo
    by_cases hlt : n < l.length
    · have hne : l ≠ [] := by rintro rfl; simp at hlt
      obtain ⟨rb, ro, rfl, hSb, hb5, hc5⟩ := HV2.out.resolve_left hne
      obtain ⟨x, hx⟩ := getp l n hlt
      obtain ⟨te, tr, tv⟩ := hc5 n x hx
      obtain ⟨last, cl, cs, hpi⟩ := hph.out
      obtain ⟨hok1, hok2⟩ := HOK.out x (List.mem_of_getElem? hx)
      have hst := hpi.st
      obtain ⟨op, idn, me, fr, un, wd, ⟨tk, tn, ti, ta⟩⟩ := x
      obtain ⟨qa, qc, rfl, -⟩ := tv.form
      simp only [Op31.row, Ty.kind, Ty.name, Ty.index, Ty.args] at tr tv hok1 hok2
      have HRG := Lib.hid (hst.range (HSF.out rb hSb) tr)
      have HTV := Lib.hid (hst.rd (TR.good d) tv HSF.out)
      have HT1 := Lib.hid (hst.tabs HTF.out.2 HTF.out.1)
      have HOK1 := Lib.hid (⟨hok1, hok2⟩ : _ ∧ _)
      have HPI := Lib.hid hpi
      have szr := hst.size
      have hbr : rb < wo.heap.size := by omega
      have hnc : n < vc := by omega
      clear hx hc5 hne tr tv hok1 hok2 hst hpi hph HV2 hb5 hSb
      go_upto_region 9 with (first
        | (refine wpList_load_mid rfl 33 (.tmp 37) rfl rb (ro + n * 10) rfl [.int .i64 op, .int .i64 idn, .int .i64 me, .int .i64 fr, .int .i64 un, .int .i64 wd, .int .i64 tk, .string tn, .int .i64 ti, .slice qa ta.length qc] _ HRG.out Tryd.underlying33 rfl (by kernel_rfl) ?_)
        | (refine wpList_allocStore (.tmp 38) 33 rfl rfl rfl rfl rfl rfl _ [.int .i64 op, .int .i64 idn, .int .i64 me, .int .i64 fr, .int .i64 un, .int .i64 wd, .int .i64 tk, .string tn, .int .i64 ti, .slice qa ta.length qc] info_act2 rfl (fun _ => rfl) (fun _ => rfl) (by simp [Value.oneCell']) ?_))
      obtain ⟨A, hA⟩ : ∃ A, A = wo.heap.size := ⟨_, rfl⟩
      obtain ⟨W1, hW1⟩ : ∃ W1 : World, W1 = wo.alloc (.cells (List.toArray [.int .i64 op, .int .i64 idn, .int .i64 me, .int .i64 fr, .int .i64 un, .int .i64 wd, .int .i64 tk, .string tn, .int .i64 ti, .slice qa ta.length qc]) 33) := ⟨_, rfl⟩
      have hkW : Kept [] wo W1 := by rw [hW1]; exact (Kept.refl [] wo).alloc _
      have HA : Hid (Blk W1 A [.int .i64 op, .int .i64 idn, .int .i64 me, .int .i64 fr, .int .i64 un, .int .i64 wd, .int .i64 tk, .string tn, .int .i64 ti, .slice qa ta.length qc] 33) := by rw [hW1, hA]; exact Blk.new wo _ _
      have HAF : Hid (Free W1 B mb R A) := Lib.hid (HPI.out.ps.fresh hkW (by omega) HA.out.lt)
      have HP1 := Lib.hid (HPI.out.kept0 hkW)
      have HS1 : Hid (∀ y, S y → Free W1 B mb R y) := Lib.hid (fun y hy => HP1.out.st.free (HSF.out y hy))
      have HTV1 := Lib.hid ((TR.good d).kept HTV.out hkW (by simp))
      have HTB1 := Lib.hid (HT1.out.kept0 hkW)
      have hAW : A < W1.heap.size := HA.out.lt
      have hBW : B < W1.heap.size := by have := hkW.size; omega
      have hRW : R < W1.heap.size := by have := hkW.size; omega
      rw [← hA, ← hW1]
      clear hW1 hkW hA HRG HTV HT1 HPI hbr szr
      obtain ⟨i0, i1, i2, i3, i4, i5, i6, i7, i8, i9⟩ := HA.out.ten
      have hn200 : n ≤ 200 := by omega
      go_upto_block 2 with fail
      go_cut [9, 10, 11, 12, 13, 14, 15, 16, 17, 18, 19, 20, 21, 22] from 29 to 171 (fun s9 _ _ _ _ _ _ _ _ _ _ _ _ _ wx => s9 = .bool true ∧ Hid (PHas B mb R base d w2 wx cap (n + 1)))
      case first =>
        rename_i Q9 K3 h6 J1 K2 h5 h4 K1 h3 K0 h2 J K' hJ hK
        refine gen_exit ?_
        intro Q2
        clear h6 h5 h4 h3 h2 HST HKW HSF HTF HOK hBw hRw
        clear K0 K1 K2 K3 J1 Q9
        by_cases e0 : op = 0
        · subst e0
          go_upto_region 13 with fail
          have hk3 : Kept [] W1 ((W1.alloc (.cells #[.int .i64 wd] 3)).alloc (.cells #[.int .i64 idn, .int .i64 me, .int .i64 tk, .string tn, .int .i64 ti, .slice qa ta.length qc, .int .i64 fr, .int .i64 un, .int .i64 0, .int .i64 0, .slice none 0 0, .slice none 0 0, .slice none 0 0, .slice (some ⟨W1.heap.size, 0, none⟩) 1 1] 43)) := ((Kept.refl [] W1).alloc _).alloc _
          obtain ⟨W3, hW3⟩ : ∃ W3 : World, W3 = (W1.alloc (.cells #[.int .i64 wd] 3)).alloc (.cells #[.int .i64 idn, .int .i64 me, .int .i64 tk, .string tn, .int .i64 ti, .slice qa ta.length qc, .int .i64 fr, .int .i64 un, .int .i64 0, .int .i64 0, .slice none 0 0, .slice none 0 0, .slice none 0 0, .slice (some ⟨W1.heap.size, 0, none⟩) 1 1] 43) := ⟨_, rfl⟩
          obtain ⟨X1, hX1⟩ : ∃ X1, X1 = W1.heap.size := ⟨_, rfl⟩
          obtain ⟨X2, hX2⟩ : ∃ X2, X2 = W1.heap.size + 1 := ⟨_, rfl⟩
          have HX2 : Hid (Blk W3 X2 [.int .i64 idn, .int .i64 me, .int .i64 tk, .string tn, .int .i64 ti, .slice qa ta.length qc, .int .i64 fr, .int .i64 un, .int .i64 0, .int .i64 0, .slice none 0 0, .slice none 0 0, .slice none 0 0, .slice (some ⟨X1, 0, none⟩) 1 1] 43) := by rw [hW3, hX1, hX2]; exact halloc_new _ _ _ (by simp)
          have HI3 : Hid (Reads (fun y => y = X1) W3 (.slice (some ⟨X1, 0, none⟩) 1 1) 1 (irows [wd])) := by rw [hW3, hX1]; exact reads_int1 ((Blk.old W1 [.int .i64 wd] _ _).cell 0 _ rfl)
          rw [← hW3] at hk3
          have HP3 := Lib.hid (HP1.out.kept0 hk3)
          have hX2l : X2 < W3.heap.size := HX2.out.lt
          have HF1 : Hid (Free W3 B mb R X1) := Lib.hid (HP1.out.ps.fresh hk3 (by omega) (by omega))
          have HF2 : Hid (Free W3 B mb R X2) := Lib.hid (HP1.out.ps.fresh hk3 (by omega) hX2l)
          have HS3 : Hid (∀ y, (S y ∨ y = X1) → Free W3 B mb R y) := Lib.hid (fun y hy => by
            rcases hy with hy | rfl
            · exact (HP1.out.ps.kept0 hk3).2.free (HS1.out y hy)
            · exact HF1.out)
          have HTV3 := Lib.hid ((TR.good d).mono ((TR.good d).kept HTV1.out hk3 (by simp)) (S' := fun y => S y ∨ y = X1) (fun y _ h => .inl h))
          have HI3' := Lib.hid (HI3.out.mono (S' := fun y => S y ∨ y = X1) (fun y _ h => .inr h))
          obtain ⟨p0, p1, p2, p3, p4, p5, p6, p7, p8, p9, p10, p11, p12, p13⟩ := HX2.out.fourteen
          have HLA := Lib.hid (⟨HP1.out.a0, HP1.out.a1, HP1.out.a2⟩ : _ ∧ _ ∧ _)
          rw [← hW3, ← hX2, ← hX1]
          clear hW3 hX1 hX2 hk3 HI3 i0 i1 i2 i3 i4 i5 i6 i7 i8 i9
          go_upto_region 14 with (go_at_call 9; refine Calls.mono (psAdd (S := fun y => S y ∨ y = X1) idn me tk tn ti fr un ta [wd] qa (some ⟨X1, 0, none⟩) qc 1 _ (by exact HP3.out.ps) (by have := HLA.out; omega) (by have := HLA.out; omega) (by have := HLA.out; omega) (by exact HTV3.out) (by exact HI3'.out) (by simp) (by exact HS3.out)) ?_; rintro e w5 ⟨rfl, hp5, hs5⟩; have HP5 := Lib.hid hp5; have HS5 := Lib.hid hs5; have HX5 := Lib.hid (hs5.blk HF2.out HX2.out); clear hp5 hs5)
          obtain ⟨q0, q1, q2, q3, q4, q5, q6, q7, q8, q9, q10, q11, q12, q13⟩ := HX5.out.fourteen
          have hX2l5 : X2 < w5.heap.size := HX5.out.lt
          clear p0 p1 p2 p3 p4 p5 p6 p7 p8 p9 p10 p11 p12 p13
          go_upto_region 15 with (go_at_call 29; refine Calls.mono (psRAdd (S := fun y => S y ∨ y = X1) idn me tk tn ti fr un ta [wd] qa (some ⟨X1, 0, none⟩) qc 1 _ (by exact HP5.out) (by have := HLA.out; omega) (by have := HLA.out; omega) (by have := HLA.out; omega) (by exact HS5.out.rd (TR.good d) HTV3.out HS3.out) (by exact HS5.out.reads HI3'.out HS3.out) (by simp) (by exact fun y hy => HS5.out.free (HS3.out y hy))) ?_; rintro e w6 ⟨rfl, hp6, hs6⟩; have HP6 := Lib.hid hp6; have HS6 := Lib.hid (HS5.out.trans hs6); clear hp6 hs6)
          have r1 : (addI cap cl me fr un (last + 1) == addI cap cl me fr un (last + 1)) = true := by simp
          have r2 : (addE cap cl me fr un == addE cap cl me fr un) = true := by simp
          go_wp2_with fail
          go_meet
          exact ⟨rfl, HP3.out.add HP6.out HS6.out⟩
        have n0 : (op == 0) = false := by simpa using e0
        by_cases e1 : op = 1
        · subst e1
          as_aux_lemma =>
            obtain ⟨xi, xm, yk, yn, yi, ya, xf, xu, xl, fl, hg1, hg2⟩ := getBoth B mb R base d cap cl idn
            have HG1 := Lib.hid hg1
            have HG2 := Lib.hid hg2
            have hfl : (fl == fl) = true := by simp
            clear hg1 hg2
            go_upto_region 18 with (go_at_call 30; refine Calls.mono (HG1.out _ last (last + 1) cs cs (by exact HP1.out.ps)) ?_; rintro e w5 ⟨hk5, a1, c1, a2, c2, rfl, h1, h2⟩; have HH1 := Lib.hid h1; have HH2 := Lib.hid h2; have HK5 := Lib.hid hk5; clear h1 h2 hk5)
            obtain ⟨W5, hW5⟩ : ∃ W5 : World, W5 = w5.alloc (.cells #[.int .i64 xi, .int .i64 xm, .int .i64 yk, .string yn, .int .i64 yi, .slice a1 ya.length c1, .int .i64 xf, .int .i64 xu, .int .i64 0, .int .i64 0, .slice none 0 0, .slice none 0 0, .slice none 0 0, .slice a2 xl.length c2] 43) := ⟨_, rfl⟩
            obtain ⟨Y1, hY1⟩ : ∃ Y1, Y1 = w5.heap.size := ⟨_, rfl⟩
            have HY1 : Hid (Blk W5 Y1 [.int .i64 xi, .int .i64 xm, .int .i64 yk, .string yn, .int .i64 yi, .slice a1 ya.length c1, .int .i64 xf, .int .i64 xu, .int .i64 0, .int .i64 0, .slice none 0 0, .slice none 0 0, .slice none 0 0, .slice a2 xl.length c2] 43) := by rw [hW5, hY1]; exact Blk.new w5 _ _
            have HK5' : Hid (Kept [] W1 W5) := by rw [hW5]; exact HK5.out.alloc _
            have HH1' : Hid (TR d (fun _ => True) W5 (.slice a1 ya.length c1) ya) := by rw [hW5]; exact (TR.good d).kept HH1.out ((Kept.refl [] _).alloc _) (by simp)
            have HH2' : Hid (Reads (fun _ => True) W5 (.slice a2 xl.length c2) 1 (irows xl)) := by rw [hW5]; exact HH2.out.kept ((Kept.refl [] _).alloc _) (by simp)
            have HA5 := Lib.hid (HA.out.kept HK5'.out (by simp))
            obtain ⟨j0, j1, j2, j3, j4, j5, j6, j7, j8, j9⟩ := HA5.out.ten
            have hAW5 : A < W5.heap.size := HA5.out.lt
            rw [← hW5, ← hY1]
            clear hW5 hY1 HK5 HH1 HH2 i0 i1 i2 i3 i4 i5 i6 i7 i8 i9
            go_upto_region 19 with (go_at_call 31; refine Calls.mono (HG2.out _ last (last + 1) cs cs (by exact (HP1.out.kept0 HK5'.out).ps)) ?_; rintro e w6 ⟨hk6, b1, k1, b2, k2, rfl, h1, h2⟩; have HB1 := Lib.hid h1; have HB2 := Lib.hid h2; have HK6 := Lib.hid hk6; clear h1 h2 hk6)
            obtain ⟨W6, hW6⟩ : ∃ W6 : World, W6 = w6.alloc (.cells #[.int .i64 xi, .int .i64 xm, .int .i64 yk, .string yn, .int .i64 yi, .slice b1 ya.length k1, .int .i64 xf, .int .i64 xu, .int .i64 0, .int .i64 0, .slice none 0 0, .slice none 0 0, .slice none 0 0, .slice b2 xl.length k2] 43) := ⟨_, rfl⟩
            obtain ⟨Y2, hY2⟩ : ∃ Y2, Y2 = w6.heap.size := ⟨_, rfl⟩
            have HY2 : Hid (Blk W6 Y2 [.int .i64 xi, .int .i64 xm, .int .i64 yk, .string yn, .int .i64 yi, .slice b1 ya.length k1, .int .i64 xf, .int .i64 xu, .int .i64 0, .int .i64 0, .slice none 0 0, .slice none 0 0, .slice none 0 0, .slice b2 xl.length k2] 43) := by rw [hW6, hY2]; exact Blk.new w6 _ _
            have HK56 : Hid (Kept [] W5 W6) := by rw [hW6]; exact HK6.out.alloc _
            have HB1' : Hid (TR d (fun _ => True) W6 (.slice b1 ya.length k1) ya) := by rw [hW6]; exact (TR.good d).kept HB1.out ((Kept.refl [] _).alloc _) (by simp)
            have HB2' : Hid (Reads (fun _ => True) W6 (.slice b2 xl.length k2) 1 (irows xl)) := by rw [hW6]; exact HB2.out.kept ((Kept.refl [] _).alloc _) (by simp)
            have HY1' := Lib.hid (HY1.out.kept HK56.out (by simp))
            obtain ⟨p0, p1, p2, p3, p4, p5, p6, p7, p8, p9, p10, p11, p12, p13⟩ := HY1'.out.fourteen
            obtain ⟨q0, q1, q2, q3, q4, q5, q6, q7, q8, q9, q10, q11, q12, q13⟩ := HY2.out.fourteen
            have hY1W : Y1 < W6.heap.size := HY1'.out.lt
            have hY2W : Y2 < W6.heap.size := HY2.out.lt
            rw [← hW6, ← hY2]
            clear hW6 hY2 HK6 HB1 HB2 j0 j1 j2 j3 j4 j5 j6 j7 j8 j9
            go_wp2_with (go_at_call 32; refine Calls.mono (eqCompiled d xi xm yk yn yi xf xu ya xl a1 a2 b1 b2 c1 c2 k1 k2 _ (by exact (TR.good d).kept HH1'.out HK56.out (by simp)) (by exact HH2'.out.kept HK56.out (by simp)) (by exact HB1'.out) (by exact HB2'.out)) ?_; rintro e w7 ⟨rfl, hk7⟩; have HK7 := Lib.hid ((HK5'.out.trans HK56.out).trans hk7); clear hk7)
            go_meet
            exact ⟨rfl, HP1.out.same (HP1.out.ps.kept0 HK7.out).1 (HP1.out.ps.kept0 HK7.out).2⟩
        have n1 : (op == 1) = false := by simpa using e1
        by_cases e2 : op = 2
        · subst e2
          as_aux_lemma =>
            obtain ⟨xi, xm, yk, yn, yi, ya, xf, xu, xl, fl, hg1, hg2⟩ := lookBoth B mb R base d cap cl (S := S) me tk tn ti ta qa qc wd
            have HG1 := Lib.hid hg1
            have HG2 := Lib.hid hg2
            have hfl : (fl == fl) = true := by simp
            clear hg1 hg2
            go_upto_region 22 with (go_at_call 12; refine Calls.mono (HG1.out _ last (last + 1) cs cs (by exact HP1.out.ps) (by exact HTV1.out)) ?_; rintro e w5 ⟨hk5, a1, c1, a2, c2, rfl, h1, h2⟩; have HH1 := Lib.hid h1; have HH2 := Lib.hid h2; have HK5 := Lib.hid hk5; clear h1 h2 hk5)
            obtain ⟨W5, hW5⟩ : ∃ W5 : World, W5 = w5.alloc (.cells #[.int .i64 xi, .int .i64 xm, .int .i64 yk, .string yn, .int .i64 yi, .slice a1 ya.length c1, .int .i64 xf, .int .i64 xu, .int .i64 0, .int .i64 0, .slice none 0 0, .slice none 0 0, .slice none 0 0, .slice a2 xl.length c2] 43) := ⟨_, rfl⟩
            obtain ⟨Y1, hY1⟩ : ∃ Y1, Y1 = w5.heap.size := ⟨_, rfl⟩
            have HY1 : Hid (Blk W5 Y1 [.int .i64 xi, .int .i64 xm, .int .i64 yk, .string yn, .int .i64 yi, .slice a1 ya.length c1, .int .i64 xf, .int .i64 xu, .int .i64 0, .int .i64 0, .slice none 0 0, .slice none 0 0, .slice none 0 0, .slice a2 xl.length c2] 43) := by rw [hW5, hY1]; exact Blk.new w5 _ _
            have HK5' : Hid (Kept [] W1 W5) := by rw [hW5]; exact HK5.out.alloc _
            have HH1' : Hid (TR d (fun _ => True) W5 (.slice a1 ya.length c1) ya) := by rw [hW5]; exact (TR.good d).kept HH1.out ((Kept.refl [] _).alloc _) (by simp)
            have HH2' : Hid (Reads (fun _ => True) W5 (.slice a2 xl.length c2) 1 (irows xl)) := by rw [hW5]; exact HH2.out.kept ((Kept.refl [] _).alloc _) (by simp)
            have HA5 := Lib.hid (HA.out.kept HK5'.out (by simp))
            obtain ⟨j0, j1, j2, j3, j4, j5, j6, j7, j8, j9⟩ := HA5.out.ten
            have hAW5 : A < W5.heap.size := HA5.out.lt
            rw [← hW5, ← hY1]
            clear hW5 hY1 HK5 HH1 HH2 i0 i1 i2 i3 i4 i5 i6 i7 i8 i9
            go_upto_region 23 with (go_at_call 33; refine Calls.mono (HG2.out _ last (last + 1) cs cs (by exact (HP1.out.kept0 HK5'.out).ps) (by exact (TR.good d).kept HTV1.out HK5'.out (by simp))) ?_; rintro e w6 ⟨hk6, b1, k1, b2, k2, rfl, h1, h2⟩; have HB1 := Lib.hid h1; have HB2 := Lib.hid h2; have HK6 := Lib.hid hk6; clear h1 h2 hk6)
            obtain ⟨W6, hW6⟩ : ∃ W6 : World, W6 = w6.alloc (.cells #[.int .i64 xi, .int .i64 xm, .int .i64 yk, .string yn, .int .i64 yi, .slice b1 ya.length k1, .int .i64 xf, .int .i64 xu, .int .i64 0, .int .i64 0, .slice none 0 0, .slice none 0 0, .slice none 0 0, .slice b2 xl.length k2] 43) := ⟨_, rfl⟩
            obtain ⟨Y2, hY2⟩ : ∃ Y2, Y2 = w6.heap.size := ⟨_, rfl⟩
            have HY2 : Hid (Blk W6 Y2 [.int .i64 xi, .int .i64 xm, .int .i64 yk, .string yn, .int .i64 yi, .slice b1 ya.length k1, .int .i64 xf, .int .i64 xu, .int .i64 0, .int .i64 0, .slice none 0 0, .slice none 0 0, .slice none 0 0, .slice b2 xl.length k2] 43) := by rw [hW6, hY2]; exact Blk.new w6 _ _
            have HK56 : Hid (Kept [] W5 W6) := by rw [hW6]; exact HK6.out.alloc _
            have HB1' : Hid (TR d (fun _ => True) W6 (.slice b1 ya.length k1) ya) := by rw [hW6]; exact (TR.good d).kept HB1.out ((Kept.refl [] _).alloc _) (by simp)
            have HB2' : Hid (Reads (fun _ => True) W6 (.slice b2 xl.length k2) 1 (irows xl)) := by rw [hW6]; exact HB2.out.kept ((Kept.refl [] _).alloc _) (by simp)
            have HY1' := Lib.hid (HY1.out.kept HK56.out (by simp))
            obtain ⟨p0, p1, p2, p3, p4, p5, p6, p7, p8, p9, p10, p11, p12, p13⟩ := HY1'.out.fourteen
            obtain ⟨q0, q1, q2, q3, q4, q5, q6, q7, q8, q9, q10, q11, q12, q13⟩ := HY2.out.fourteen
            have hY1W : Y1 < W6.heap.size := HY1'.out.lt
            have hY2W : Y2 < W6.heap.size := HY2.out.lt
            rw [← hW6, ← hY2]
            clear hW6 hY2 HK6 HB1 HB2 j0 j1 j2 j3 j4 j5 j6 j7 j8 j9
            go_wp2_with (go_at_call 32; refine Calls.mono (eqCompiled d xi xm yk yn yi xf xu ya xl a1 a2 b1 b2 c1 c2 k1 k2 _ (by exact (TR.good d).kept HH1'.out HK56.out (by simp)) (by exact HH2'.out.kept HK56.out (by simp)) (by exact HB1'.out) (by exact HB2'.out)) ?_; rintro e w7 ⟨rfl, hk7⟩; have HK7 := Lib.hid ((HK5'.out.trans HK56.out).trans hk7); clear hk7)
            go_meet
            exact ⟨rfl, HP1.out.same (HP1.out.ps.kept0 HK7.out).1 (HP1.out.ps.kept0 HK7.out).2⟩
        have n2 : (op == 2) = false := by simpa using e2
        by_cases e3 : op = 3
        · subst e3
          as_aux_lemma =>
            have HKF : Hid (∀ w' : World, Blk w' A [.int .i64 3, .int .i64 idn, .int .i64 me, .int .i64 fr, .int .i64 un, .int .i64 wd, .int .i64 tk, .string tn, .int .i64 ti, .slice qa ta.length qc] 33 → w'.cell? ⟨A, 0, none⟩ = some (.int .i64 3) ∧ w'.cell? ⟨A, 1, none⟩ = some (.int .i64 idn) ∧ w'.cell? ⟨A, 2, none⟩ = some (.int .i64 me) ∧ w'.cell? ⟨A, 3, none⟩ = some (.int .i64 fr) ∧ w'.cell? ⟨A, 4, none⟩ = some (.int .i64 un) ∧ w'.cell? ⟨A, 5, none⟩ = some (.int .i64 wd) ∧ w'.cell? ⟨A, 6, none⟩ = some (.int .i64 tk) ∧ w'.cell? ⟨A, 7, none⟩ = some (.string tn) ∧ w'.cell? ⟨A, 8, none⟩ = some (.int .i64 ti) ∧ w'.cell? ⟨A, 9, none⟩ = some (.slice qa ta.length qc)) := Lib.hid (fun w' hb => hb.ten)
            have HAD := Lib.hid (HA.out.kept ((Kept.refl [] W1).drew) (by simp))
            have hkd : Kept [] W1 W1.drew := (Kept.refl [] W1).drew
            have hpd := HP1.out.ps.kept0 hkd
            have HC1 : Hid (Calls Tryd.prog 10 #[.pointer (some ⟨B, 0, none⟩), .int .i64 idn, .int .i64 wd] W1.drew fun q w' => q = .returned (.int .i64 (invE cl idn wd)) ∧ Blk w' A [.int .i64 3, .int .i64 idn, .int .i64 me, .int .i64 fr, .int .i64 un, .int .i64 wd, .int .i64 tk, .string tn, .int .i64 ti, .slice qa ta.length qc] 33 ∧ Hid ((PSt B mb R base d w' cap last (invL cl idn wd) cs (last + 1) cl cs) ∧ Step B mb R W1 w')) := Lib.hid (by
              refine (psInv idn wd W1.drew hpd.1 (by have := HP1.out.a2; omega)).mono ?_
              rintro q w' ⟨rfl, hp, hs⟩
              exact ⟨rfl, hs.blk (hpd.2.free HAF.out) HAD.out, hp, hpd.2.trans hs⟩)
            have HC2 : Hid (∀ W : World, Hid ((PSt B mb R base d W cap last (invL cl idn wd) cs (last + 1) cl cs) ∧ Step B mb R W1 W) → Blk W A [.int .i64 3, .int .i64 idn, .int .i64 me, .int .i64 fr, .int .i64 un, .int .i64 wd, .int .i64 tk, .string tn, .int .i64 ti, .slice qa ta.length qc] 33 → Calls Tryd.prog 34 #[.pointer (some ⟨R, 0, none⟩), .int .i64 idn, .int .i64 wd] W fun q w' => q = .returned (.int .i64 (invE cl idn wd)) ∧ Blk w' A [.int .i64 3, .int .i64 idn, .int .i64 me, .int .i64 fr, .int .i64 un, .int .i64 wd, .int .i64 tk, .string tn, .int .i64 ti, .slice qa ta.length qc] 33 ∧ Hid ((PSt B mb R base d w' cap last (invL cl idn wd) cs (last + 1) (invL cl idn wd) cs) ∧ Step B mb R W1 w')) := Lib.hid (fun W hW hb => by
              obtain ⟨hp0, hs0⟩ := hW.out
              refine (psRInv idn wd W hp0).mono ?_
              rintro q w' ⟨rfl, hp, hs⟩
              exact ⟨rfl, hs.blk (hs0.free HAF.out) hb, hp, hs0.trans hs⟩)
            have hrr : ((invE cl idn wd) == (invE cl idn wd)) = true := by simp
            go_upto_region 25 with fail
            go_region_held3 (fun w' => w'.cell? ⟨A, 0, none⟩ = some (.int .i64 3) ∧ w'.cell? ⟨A, 1, none⟩ = some (.int .i64 idn) ∧ w'.cell? ⟨A, 2, none⟩ = some (.int .i64 me) ∧ w'.cell? ⟨A, 3, none⟩ = some (.int .i64 fr) ∧ w'.cell? ⟨A, 4, none⟩ = some (.int .i64 un) ∧ w'.cell? ⟨A, 5, none⟩ = some (.int .i64 wd) ∧ w'.cell? ⟨A, 6, none⟩ = some (.int .i64 tk) ∧ w'.cell? ⟨A, 7, none⟩ = some (.string tn) ∧ w'.cell? ⟨A, 8, none⟩ = some (.int .i64 ti) ∧ w'.cell? ⟨A, 9, none⟩ = some (.slice qa ta.length qc))
              (first | with_reducible exact HKF.out _ hb9 | with_reducible exact HKF.out _ HAD.out)
              (first
                | (go_at_call 10; (refine Calls.mono HC1.out ?_; rintro q w3 ⟨rfl, hb9, hs9⟩))
                | (go_at_call 34; (refine Calls.mono (HC2.out _ hs9 hb9) ?_; rintro q w5 ⟨rfl, hb9, ht9⟩)))
            all_goals go_wp2
            all_goals
              go_meet
              exact ⟨rfl, HP1.out.inv ht9.out.1 ht9.out.2⟩
        have n3 : (op == 3) = false := by simpa using e3
        by_cases e4 : op = 4
        · subst e4
          as_aux_lemma =>
            have HKF : Hid (∀ w' : World, Blk w' A [.int .i64 4, .int .i64 idn, .int .i64 me, .int .i64 fr, .int .i64 un, .int .i64 wd, .int .i64 tk, .string tn, .int .i64 ti, .slice qa ta.length qc] 33 → w'.cell? ⟨A, 0, none⟩ = some (.int .i64 4) ∧ w'.cell? ⟨A, 1, none⟩ = some (.int .i64 idn) ∧ w'.cell? ⟨A, 2, none⟩ = some (.int .i64 me) ∧ w'.cell? ⟨A, 3, none⟩ = some (.int .i64 fr) ∧ w'.cell? ⟨A, 4, none⟩ = some (.int .i64 un) ∧ w'.cell? ⟨A, 5, none⟩ = some (.int .i64 wd) ∧ w'.cell? ⟨A, 6, none⟩ = some (.int .i64 tk) ∧ w'.cell? ⟨A, 7, none⟩ = some (.string tn) ∧ w'.cell? ⟨A, 8, none⟩ = some (.int .i64 ti) ∧ w'.cell? ⟨A, 9, none⟩ = some (.slice qa ta.length qc)) := Lib.hid (fun w' hb => hb.ten)
            have HAD := Lib.hid (HA.out.kept ((Kept.refl [] W1).drew) (by simp))
            have hkd : Kept [] W1 W1.drew := (Kept.refl [] W1).drew
            have hpd := HP1.out.ps.kept0 hkd
            have HC1 : Hid (Calls Tryd.prog 11 #[.pointer (some ⟨B, 0, none⟩), .int .i64 idn] W1.drew fun q w' => q = .returned (.int .i64 (remE cl idn)) ∧ Blk w' A [.int .i64 4, .int .i64 idn, .int .i64 me, .int .i64 fr, .int .i64 un, .int .i64 wd, .int .i64 tk, .string tn, .int .i64 ti, .slice qa ta.length qc] 33 ∧ Hid ((PSt B mb R base d w' cap last (remL cl idn) cs (last + 1) cl cs) ∧ Step B mb R W1 w')) := Lib.hid (by
              refine (psRem idn W1.drew hpd.1 (by have := HP1.out.a2; omega)).mono ?_
              rintro q w' ⟨rfl, hp, hs⟩
              exact ⟨rfl, hs.blk (hpd.2.free HAF.out) HAD.out, hp, hpd.2.trans hs⟩)
            have HC2 : Hid (∀ W : World, Hid ((PSt B mb R base d W cap last (remL cl idn) cs (last + 1) cl cs) ∧ Step B mb R W1 W) → Blk W A [.int .i64 4, .int .i64 idn, .int .i64 me, .int .i64 fr, .int .i64 un, .int .i64 wd, .int .i64 tk, .string tn, .int .i64 ti, .slice qa ta.length qc] 33 → Calls Tryd.prog 35 #[.pointer (some ⟨R, 0, none⟩), .int .i64 idn] W fun q w' => q = .returned (.int .i64 (remE cl idn)) ∧ Blk w' A [.int .i64 4, .int .i64 idn, .int .i64 me, .int .i64 fr, .int .i64 un, .int .i64 wd, .int .i64 tk, .string tn, .int .i64 ti, .slice qa ta.length qc] 33 ∧ Hid ((PSt B mb R base d w' cap last (remL cl idn) cs (last + 1) (remL cl idn) cs) ∧ Step B mb R W1 w')) := Lib.hid (fun W hW hb => by
              obtain ⟨hp0, hs0⟩ := hW.out
              refine (psRRem idn W hp0 (by have := HP1.out.a2; omega)).mono ?_
              rintro q w' ⟨rfl, hp, hs⟩
              exact ⟨rfl, hs.blk (hs0.free HAF.out) hb, hp, hs0.trans hs⟩)
            have hrr : ((remE cl idn) == (remE cl idn)) = true := by simp
            go_upto_region 27 with fail
            go_region_held3 (fun w' => w'.cell? ⟨A, 0, none⟩ = some (.int .i64 4) ∧ w'.cell? ⟨A, 1, none⟩ = some (.int .i64 idn) ∧ w'.cell? ⟨A, 2, none⟩ = some (.int .i64 me) ∧ w'.cell? ⟨A, 3, none⟩ = some (.int .i64 fr) ∧ w'.cell? ⟨A, 4, none⟩ = some (.int .i64 un) ∧ w'.cell? ⟨A, 5, none⟩ = some (.int .i64 wd) ∧ w'.cell? ⟨A, 6, none⟩ = some (.int .i64 tk) ∧ w'.cell? ⟨A, 7, none⟩ = some (.string tn) ∧ w'.cell? ⟨A, 8, none⟩ = some (.int .i64 ti) ∧ w'.cell? ⟨A, 9, none⟩ = some (.slice qa ta.length qc))
              (first | with_reducible exact HKF.out _ hb9 | with_reducible exact HKF.out _ HAD.out)
              (first
                | (go_at_call 11; (refine Calls.mono HC1.out ?_; rintro q w3 ⟨rfl, hb9, hs9⟩))
                | (go_at_call 35; (refine Calls.mono (HC2.out _ hs9 hb9) ?_; rintro q w5 ⟨rfl, hb9, ht9⟩)))
            all_goals go_wp2
            all_goals
              go_meet
              exact ⟨rfl, HP1.out.rem ht9.out.1 ht9.out.2⟩
        have n4 : (op == 4) = false := by simpa using e4
        as_aux_lemma =>
          have HKF : Hid (∀ w' : World, Blk w' A [.int .i64 op, .int .i64 idn, .int .i64 me, .int .i64 fr, .int .i64 un, .int .i64 wd, .int .i64 tk, .string tn, .int .i64 ti, .slice qa ta.length qc] 33 → w'.cell? ⟨A, 0, none⟩ = some (.int .i64 op) ∧ w'.cell? ⟨A, 1, none⟩ = some (.int .i64 idn) ∧ w'.cell? ⟨A, 2, none⟩ = some (.int .i64 me) ∧ w'.cell? ⟨A, 3, none⟩ = some (.int .i64 fr) ∧ w'.cell? ⟨A, 4, none⟩ = some (.int .i64 un) ∧ w'.cell? ⟨A, 5, none⟩ = some (.int .i64 wd) ∧ w'.cell? ⟨A, 6, none⟩ = some (.int .i64 tk) ∧ w'.cell? ⟨A, 7, none⟩ = some (.string tn) ∧ w'.cell? ⟨A, 8, none⟩ = some (.int .i64 ti) ∧ w'.cell? ⟨A, 9, none⟩ = some (.slice qa ta.length qc)) := Lib.hid (fun w' hb => hb.ten)
          have HAD := Lib.hid (HA.out.kept ((Kept.refl [] W1).drew) (by simp))
          have hkd : Kept [] W1 W1.drew := (Kept.refl [] W1).drew
          have hpd := HP1.out.ps.kept0 hkd
          have HC1 : Hid (Calls Tryd.prog 26 #[.pointer (some ⟨B, 0, none⟩), .int .i64 me, .agg #[.int .i64 tk, .string tn, .int .i64 ti, .slice qa ta.length qc]] W1.drew fun q w' => q = .returned (.int .i64 (cntI cs me (.mk tk tn ti ta))) ∧ Blk w' A [.int .i64 op, .int .i64 idn, .int .i64 me, .int .i64 fr, .int .i64 un, .int .i64 wd, .int .i64 tk, .string tn, .int .i64 ti, .slice qa ta.length qc] 33 ∧ Hid ((PSt B mb R base d w' cap last cl (cntL cs me (.mk tk tn ti ta)) (last + 1) cl cs) ∧ Step B mb R W1 w')) := Lib.hid (by
            refine (psCnt tb me tk tn ti ta qa qc W1.drew hpd.1 (HTB1.out.kept0 hkd) ((TR.good d).kept HTV1.out hkd (by simp)) HOK1.out.1 HOK1.out.2 (fun x hx => by have := HP1.out.a4 x hx; omega)).mono ?_
            rintro q w' ⟨rfl, hp, hs⟩
            exact ⟨rfl, hs.blk (hpd.2.free HAF.out) HAD.out, hp, hpd.2.trans hs⟩)
          have HC2 : Hid (∀ W : World, Hid ((PSt B mb R base d W cap last cl (cntL cs me (.mk tk tn ti ta)) (last + 1) cl cs) ∧ Step B mb R W1 W) → Blk W A [.int .i64 op, .int .i64 idn, .int .i64 me, .int .i64 fr, .int .i64 un, .int .i64 wd, .int .i64 tk, .string tn, .int .i64 ti, .slice qa ta.length qc] 33 → Calls Tryd.prog 36 #[.pointer (some ⟨R, 0, none⟩), .int .i64 me, .agg #[.int .i64 tk, .string tn, .int .i64 ti, .slice qa ta.length qc]] W fun q w' => q = .returned (.int .i64 (cntI cs me (.mk tk tn ti ta))) ∧ Blk w' A [.int .i64 op, .int .i64 idn, .int .i64 me, .int .i64 fr, .int .i64 un, .int .i64 wd, .int .i64 tk, .string tn, .int .i64 ti, .slice qa ta.length qc] 33 ∧ Hid ((PSt B mb R base d w' cap last cl (cntL cs me (.mk tk tn ti ta)) (last + 1) cl (cntL cs me (.mk tk tn ti ta))) ∧ Step B mb R W1 w')) := Lib.hid (fun W hW hb => by
            obtain ⟨hp0, hs0⟩ := hW.out
            refine (psRCnt (S := S) me tk tn ti ta qa qc W hp0 (hs0.rd (TR.good d) HTV1.out HS1.out) (fun y hy => hs0.free (HS1.out y hy)) (by have := HP1.out.a3; omega) (fun x hx => by have := HP1.out.a4 x hx; omega)).mono ?_
            rintro q w' ⟨rfl, hp, hs⟩
            exact ⟨rfl, hs.blk (hs0.free HAF.out) hb, hp, hs0.trans hs⟩)
          have hrr : ((cntI cs me (.mk tk tn ti ta)) == (cntI cs me (.mk tk tn ti ta))) = true := by simp
          go_upto_region 10 with fail
          go_region_held3 (fun w' => w'.cell? ⟨A, 0, none⟩ = some (.int .i64 op) ∧ w'.cell? ⟨A, 1, none⟩ = some (.int .i64 idn) ∧ w'.cell? ⟨A, 2, none⟩ = some (.int .i64 me) ∧ w'.cell? ⟨A, 3, none⟩ = some (.int .i64 fr) ∧ w'.cell? ⟨A, 4, none⟩ = some (.int .i64 un) ∧ w'.cell? ⟨A, 5, none⟩ = some (.int .i64 wd) ∧ w'.cell? ⟨A, 6, none⟩ = some (.int .i64 tk) ∧ w'.cell? ⟨A, 7, none⟩ = some (.string tn) ∧ w'.cell? ⟨A, 8, none⟩ = some (.int .i64 ti) ∧ w'.cell? ⟨A, 9, none⟩ = some (.slice qa ta.length qc))
            (first | with_reducible exact HKF.out _ hb9 | with_reducible exact HKF.out _ HAD.out)
            (first
              | (go_at_call 26; (refine Calls.mono HC1.out ?_; rintro q w3 ⟨rfl, hb9, hs9⟩))
              | (go_at_call 36; (refine Calls.mono (HC2.out _ hs9 hb9) ?_; rintro q w5 ⟨rfl, hb9, ht9⟩)))
          all_goals go_wp2
          all_goals
            go_meet
            exact ⟨rfl, HP1.out.cnt ht9.out.1 ht9.out.2⟩
      case rest =>
        as_aux_lemma =>
          obtain ⟨rfl, hph'⟩ := hcut
          obtain ⟨wc, hwc⟩ : ∃ wx : World, wx = wc := ⟨_, rfl⟩
          subst hwc
          obtain ⟨last', cl', cs', hpi'⟩ := hph'.out
          have HC := Lib.hid hpi'.ps.cch
          have HR := Lib.hid hpi'.ps.rch
          have HPI' := Lib.hid hpi'
          have hl2 := hpi'.a2
          have hne0 : ((cap - (cl'.length : Int)) != (cap - (cl'.length : Int))) = false := by simp
          clear hpi' HA HAF HP1 HS1 HTV1 HTB1 hAW hBW hRW i0 i1 i2 i3 i4 i5 i6 i7 i8 i9
          go_wp2_with (first
            | (go_at_call 17; refine Calls.mono (cacheAvailable d B base cap last' _ cl' _ (by exact HC.out) hcap0 (by omega) (by omega)) ?_; rintro e x1 ⟨rfl, hk1⟩; have HK1 := Lib.hid hk1; clear hk1)
            | (go_at_call 37; refine Calls.mono (refAvailable d R base cap (last' + 1) cl' cs' _ (by exact HR.out.kept0 HK1.out) hcap0 (by omega) (by omega)) ?_; rintro e x2 ⟨rfl, hk2⟩; have HK2 := Lib.hid (HK1.out.trans hk2); clear hk2)
            | (go_at_call 13; refine Calls.mono (cacheAll d B base cap last' _ cl' _ (by exact HC.out.kept HK2.out (by simp)) (by omega)) ?_; rintro e x3 ⟨v3, rfl, hgr3, hk3⟩; have HD3 := Lib.hid (hgr3.rd (CR.good d) (fun _ h => h)); have HK3 := Lib.hid (HK2.out.trans hk3); clear hgr3 hk3)
            | (go_at_call 39; refine Calls.mono (refAll d R base cap (last' + 1) cl' cs' _ (by exact HR.out.kept0 HK3.out) (by omega)) ?_; rintro e x4 ⟨v4, rfl, hrd4, hk4⟩; have HD4 := Lib.hid hrd4; have HD3' := Lib.hid (HD3.out.kept (CR.good d) hk4 (by simp)); have HK4 := Lib.hid (HK3.out.trans hk4); clear hrd4 hk4)
            | (go_at_call 38; refine Calls.mono (eqCompiledList d v3 v4 cl' _ (by exact HD3'.out) (by exact HD4.out)) ?_; rintro e x5 ⟨rfl, hk5⟩; have HK5 := Lib.hid (HK4.out.trans hk5); clear hk5))
          go_roundg (l.length - (n + 1))
          case rel => exact ⟨n + 1, rfl, by omega, by go_num, last', cl', cs', HPI'.out.kept0 HK5.out⟩
          case measure => omega
    · go_wp2
      go_ret
      obtain ⟨_, _, _, hpi⟩ := hph.out
      exact ⟨rfl, hpi.st.whole HKW.out HST.out.2⟩
end Go.Proofs.YtkldomkooleecaaDoor
