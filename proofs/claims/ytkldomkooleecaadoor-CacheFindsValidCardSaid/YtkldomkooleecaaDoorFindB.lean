/- The walk of the law CacheFindsValid. -/
import Derived.Test.YtkldomkooleecaaDoorFindA
import Derived.Test.YtkldomkooleecaaDoorGen31B
import Derived.Deep.CutRange
import Derived.Deep.CutBlock
namespace Go.Proofs.YtkldomkooleecaaDoor
open Go.RowKit

/-- What Lookup returns. -/
inductive Looks (l : List Cp) (m : Int) (t : Ty) (wd : Int) (w w' : World) : Ending → Prop
  | mk (yi ym yk : Int) (yn : ByteArray) (yx : Int) (p1 : Option Addr) (m1 k1 : Nat) (yf yu : Int) (p2 : Option Addr) (m2 k2 : Nat) (fl : Bool) (hk : Kept [] w w')
      (h : (fl = true ∧ ∃ k x, FindsFit l m t wd k x ∧ yi = x.id) ∨ (fl = false ∧ LacksFit l m t wd l.length)) :
      Looks l m t wd w w' (.returned (.tuple #[.agg #[.int .i64 yi, .int .i64 ym, .int .i64 yk, .string yn, .int .i64 yx, .slice p1 m1 k1, .int .i64 yf, .int .i64 yu, .int .i64 0, .int .i64 0, .slice none 0 0, .slice none 0 0, .slice none 0 0, .slice p2 m2 k2], .bool fl]))

theorem lookLooks (d : Nat) {S : Nat → Prop} (b base : Nat) (cap last : Int) (mp : Value) (l : List Cp) (m : Int) (gk : Int) (gn : ByteArray) (gi : Int) (ga : List Ty) (a0 : Option Addr) (c0 : Nat) (wd : Int) (w : World) (h : Cch d w b base cap last mp l) (hg : TR d S w (.slice a0 ga.length c0) ga) :
    Calls Tryd.prog 12 #[.pointer (some ⟨b, 0, none⟩), .int .i64 m, .agg #[.int .i64 gk, .string gn, .int .i64 gi, .slice a0 ga.length c0], .int .i64 wd] w fun e w' => Looks l m (.mk gk gn gi ga) wd w w' e := by
  refine (cacheLookup d b base cap last mp l m gk gn gi ga a0 c0 wd w h hg).mono ?_
  rintro e w' ⟨hk, ⟨k, x, a1, c1, a2, c2, rfl, hf, _, _⟩ | ⟨rfl, hno⟩⟩
  · exact .mk x.id x.method x.ty.kind x.ty.name x.ty.index a1 x.ty.args.length c1 x.frm x.unt a2 x.inl.length c2 true hk (.inl ⟨rfl, k, x, hf, rfl⟩)
  · exact .mk 0 0 0 ⟨#[]⟩ 0 none 0 0 0 0 none 0 0 false hk (.inr ⟨rfl, hno⟩)

/-- The test at the end of a round holds. -/
theorem find_ok {l : List Cp} {m wd r yi : Int} {t : Ty} {fl : Bool} (hid : ∀ x ∈ l, 1 ≤ x.id) (hb : Best l m t wd 0 r)
    (h : (fl = true ∧ ∃ k x, FindsFit l m t wd k x ∧ yi = x.id) ∨ (fl = false ∧ LacksFit l m t wd l.length)) : (fl = true ∧ 0 < r ∧ yi = r) ∨ (fl = false ∧ r = 0) := by
  rcases h with ⟨h1, k, x, hf, rfl⟩ | ⟨h1, hf⟩
  · have := hb.found hf
    subst this
    have := hid x (List.mem_of_getElem? hf.1)
    exact .inl ⟨h1, by omega, rfl⟩
  · exact .inr ⟨h1, hb.lacks hf⟩

set_option maxRecDepth 100000 in
set_option maxHeartbeats 12800000 in
theorem findsValid {S : Nat → Prop} (t : Value) (lt : List Int) (w : World) (ht : Reads S w t 1 (irows lt)) (hS : ∀ b, S b → b < w.heap.size) :
    Calls Tryd.prog 3 #[t] w fun e w' => e = .returned (.bool true) ∧ Kept [] w w' := by
  have HT := Lib.hid ht
  have HS := Lib.hid hS
  obtain ⟨a1, c1, rfl, b1, b2, -⟩ := ht.ints
  clear ht hS
  go_enter Tryd.func3, Tryd.ntmps3
  go_wp2_with (first
    | (go_at_call 6; refine Calls.mono (newTape _ lt _ (by exact HT.out) (by exact HS.out)) ?_; rintro e w1 ⟨rfl, hT, hk1⟩; have hbl := hT.lt; have hs1 := hk1.size)
    | (go_at_call 7; refine Calls.mono (cacheNew 30 _ (by decide) (by decide)) ?_; rintro e w2 ⟨rfl, hcb, -, hsz, hk2⟩; have hT := hT.kept hk2 (by simp); have HCB := Lib.hid hcb; have hs2 : w1.heap.size + 2 ≤ w2.heap.size := Nat.le_of_eq hsz.symm; have hk2' := hk1.trans hk2; clear hcb hsz)
    | (go_at_call 8; have hg60 : Calls Tryd.prog 8 #[.pointer (some ⟨w.heap.size, 0, none⟩), .int .i64 60] w2 _ := generated _ 0 60 _ hT (by omega); refine Calls.mono hg60 ?_; clear hg60; rintro e w3 ⟨lV, l, rfl, hll, hgen, hgr, -, hk3⟩; have hs3 := hk3.size; have HCB := Lib.hid (HCB.out.kept hk3 (by simp; omega)); have hk3' := hk2'.trans' hk3 (by simp); have HRD := Lib.hid (hgr.rd (TR.goodAt 1 (fun x : Op31 => x.ty.args)) (fun _ h => h)); have HLL := Lib.hid hll; have HGEN := Lib.hid hgen; clear hgr hll hgen))
  have hbs : w1.heap.size + 2 ≤ w3.heap.size := by omega
  have HR1 := Lib.hid (HRD.out.mono (TR.goodAt 1 (fun x : Op31 => x.ty.args)) (S' := fun y => y ≠ w1.heap.size + 1 ∧ y < w3.heap.size) (fun b hb h => ⟨by omega, hb⟩))
  clear HRD
  obtain ⟨B, hB⟩ : ∃ B, B = w1.heap.size + 1 := ⟨_, rfl⟩
  obtain ⟨mb, hmb⟩ : ∃ mb, mb = w1.heap.size := ⟨_, rfl⟩
  obtain ⟨bs, hbs'⟩ : ∃ bs, bs = w3.heap.size := ⟨_, rfl⟩
  have hBb : B < bs := by omega
  have hwB : w.heap.size ≤ B := by omega
  have hbs3 : bs ≤ w3.heap.size := by omega
  rw [← hB] at HCB HR1 ⊢
  rw [← hmb] at HCB
  rw [← hbs'] at HR1
  have HFV : Hid (FV w3 B bs (.map (some mb)) 0) := Lib.hid ⟨0, [], by decide, by decide, by decide, by simp, Cch.fresh (d := 1) HCB.out hBb hbs3⟩
  clear hB hmb hbs' hbs hs1 hs2 hs3 HCB hk1 hk2 hk2' hk3 hbl hT
  obtain ⟨sa, sc, rfl, s1, s2, s3⟩ := HR1.out.form
  have S3 := Lib.hid s3
  clear s3 HR1
  have hl60 : l.length ≤ 60 := Nat.le_of_eq HLL.out
  obtain ⟨wo, hwo⟩ : ∃ wo : World, wo = w3 := ⟨_, rfl⟩
  subst hwo
  go_loopg [6] l.length (fun kk i wr => ∃ n : Nat, kk = l.length - n ∧ n ≤ l.length ∧ i = .int .i64 n ∧ Hid (FV wr B bs (.map (some mb)) n) ∧ Hid (KB B bs wo wr))
  case atStart => exact ⟨0, rfl, Nat.zero_le _, rfl, HFV.out, KB.refl _ _ _⟩
  case round =>
    clear HFV
    obtain ⟨n, rfl, hn, rfl, hfv, hkb⟩ := hrel
    have szr := hkb.out.size
    by_cases hlt : n < l.length
    · have hne : l ≠ [] := by rintro rfl; simp at hlt
      obtain ⟨rb, ro, rfl, hSb, hb5, hc5⟩ := S3.out.resolve_left hne
      obtain ⟨x, hx⟩ := getp l n hlt
      obtain ⟨te, tr, -, tv⟩ := hc5 n x hx
      obtain ⟨M, hM1, hM2⟩ := hkb.out
      have hMS : ∀ y ∈ M, ¬ (y ≠ B ∧ y < bs) := fun y hy hq => by rcases hM1 y hy with h | h; exact hq.1 h; omega
      have hg := HGEN.out x (List.mem_of_getElem? hx)
      obtain ⟨op, idn, me, fr, un, wd, ⟨tk, tn, ti, ta⟩⟩ := x
      obtain ⟨qa, qc, rfl, -⟩ := tv.form
      simp only [Op31.row, Ty.kind, Ty.name, Ty.index, Ty.args] at tr tv hg
      obtain ⟨ho1, ho2, -, -, hm1, -, hf1, -, -, -, -, -⟩ := hg
      have HRG := Lib.hid (hM2.range tr (fun hm => hMS _ hm hSb))
      have HTV := Lib.hid ((TR.good 1).kept tv hM2 hMS)
      clear hx hc5 hne S3 tr tv hM1 hM2 hMS
      obtain ⟨wp, hwp⟩ : ∃ wp : World, wp = wr := ⟨_, rfl⟩
      subst hwp
      go_upto_region 10 with (first
        | (refine wpList_load_mid rfl 33 (.tmp 29) rfl rb (ro + n * 10) rfl [.int .i64 op, .int .i64 idn, .int .i64 me, .int .i64 fr, .int .i64 un, .int .i64 wd, .int .i64 tk, .string tn, .int .i64 ti, .slice qa ta.length qc] _ HRG.out Tryd.underlying33 rfl (by kernel_rfl) ?_)
        | (refine wpList_allocStore (.tmp 30) 33 rfl rfl rfl rfl rfl rfl _ [.int .i64 op, .int .i64 idn, .int .i64 me, .int .i64 fr, .int .i64 un, .int .i64 wd, .int .i64 tk, .string tn, .int .i64 ti, .slice qa ta.length qc] info_act2 rfl (fun _ => rfl) (fun _ => rfl) (by simp [Value.oneCell']) ?_))
      obtain ⟨A, hA⟩ : ∃ A, A = wp.heap.size := ⟨_, rfl⟩
      obtain ⟨W1, hW1⟩ : ∃ W1 : World, W1 = wp.alloc (.cells (List.toArray [.int .i64 op, .int .i64 idn, .int .i64 me, .int .i64 fr, .int .i64 un, .int .i64 wd, .int .i64 tk, .string tn, .int .i64 ti, .slice qa ta.length qc]) 33) := ⟨_, rfl⟩
      have hkW : Kept [] wp W1 := by rw [hW1]; exact (Kept.refl [] wp).alloc _
      have HA : Hid (Blk W1 A [.int .i64 op, .int .i64 idn, .int .i64 me, .int .i64 fr, .int .i64 un, .int .i64 wd, .int .i64 tk, .string tn, .int .i64 ti, .slice qa ta.length qc] 33) := by rw [hW1, hA]; exact Blk.new wp _ _
      have HT1 := Lib.hid ((TR.good 1).kept HTV.out hkW (by simp))
      have HLM : Hid (Lim W1 B A) := by rw [hA]; exact hfv.out.lim hkW
      have HFV : Hid (FV W1 B bs (.map (some mb)) n) := by obtain ⟨z1, z2, z3⟩ := hfv.out; exact ⟨z1, z2, z3.kept hkW⟩
      have hAB : A ≠ B := by have h1 := hfv.out; obtain ⟨_, _, h2⟩ := h1; have := h2.cch.lt; omega
      have hAb : bs ≤ A := by omega
      have hkb1 := Lib.hid (hkb.out.trans (.of hkW))
      have hAW : A < W1.heap.size := HA.out.lt
      rw [← hA, ← hW1]
      clear hW1 hkW hfv hkb HRG HTV hA
      obtain ⟨i0, i1, i2, i3, i4, i5, i6, i7, i8, i9⟩ := HA.out.ten
      go_upto_block 2 with fail
      go_cut [7] from 21 to 130 (fun s7 wx => s7 = .pointer (some ⟨A, 0, none⟩) ∧ Hid (Blk wx A [.int .i64 op, .int .i64 idn, .int .i64 me, .int .i64 fr, .int .i64 un, .int .i64 wd, .int .i64 tk, .string tn, .int .i64 ti, .slice qa ta.length qc] 33) ∧ Hid (TR 1 (fun y => y ≠ B ∧ y < bs) wx (.slice qa ta.length qc) ta) ∧ Hid (FV wx B bs (.map (some mb)) (n + 1)) ∧ Hid (KB B bs wo wx))
      case first =>
        have hop : op = 0 ∨ op = 1 ∨ op = 2 ∨ op = 3 ∨ op = 4 ∨ op = 5 := by omega
        clear ho1 ho2
        rcases hop with rfl | rfl | rfl | rfl | rfl | rfl
        all_goals go_wp2_with (first
          | (go_at_call 9; refine Calls.mono (fvAdd B bs (.map (some mb)) n 0 me tk tn ti fr un ta qa qc _ (by exact HFV.out) (by exact HLM.out) (by omega) (by omega) (by omega) (by exact HT1.out) (by simp)) ?_; rintro e w5 ⟨⟨ea, eb, rfl⟩, hf5, M5, hM5, hk5⟩; have HF5 := Lib.hid hf5; have HK5 : Hid (KB B bs wo w5) := Lib.hid (hkb1.out.trans ⟨M5, fun y hy => (hM5 y hy).imp (fun h => h) (fun h => h.1), hk5⟩); have HA5 := Lib.hid (HA.out.kept hk5 (fun hy => by rcases hM5 _ hy with h | h <;> omega)); have HT5 := Lib.hid ((TR.good 1).kept HT1.out hk5 (fun y hy hq => by rcases hM5 y hy with h | h <;> omega)); clear hf5 hM5 hk5)
          | (go_at_call 10; refine Calls.mono (fvInval B bs (.map (some mb)) n idn wd _ (by exact HFV.out) (by exact HLM.out)) ?_; rintro e w5 ⟨⟨ea, rfl⟩, hf5, M5, hM5, hk5⟩; have HF5 := Lib.hid (FV.more hf5 (Nat.le_succ n)); have HK5 : Hid (KB B bs wo w5) := Lib.hid (hkb1.out.trans ⟨M5, fun y hy => (hM5 y hy).imp (fun h => h) (fun h => h.1), hk5⟩); have HA5 := Lib.hid (HA.out.kept hk5 (fun hy => by rcases hM5 _ hy with h | h <;> omega)); have HT5 := Lib.hid ((TR.good 1).kept HT1.out hk5 (fun y hy hq => by rcases hM5 y hy with h | h <;> omega)); clear hf5 hM5 hk5)
          | (go_at_call 11; refine Calls.mono (fvRemove B bs A (.map (some mb)) n idn _ (by exact HFV.out)) ?_; rintro e w5 ⟨⟨ea, rfl⟩, hf5, M5, hM5, hk5⟩; have HF5 := Lib.hid (FV.more hf5 (Nat.le_succ n)); have HK5 : Hid (KB B bs wo w5) := Lib.hid (hkb1.out.trans ⟨M5, fun y hy => (hM5 y hy).imp (fun h => h) (fun h => h.1), hk5⟩); have HA5 := Lib.hid (HA.out.kept hk5 (fun hy => by rcases hM5 _ hy with h | h <;> omega)); have HT5 := Lib.hid ((TR.good 1).kept HT1.out hk5 (fun y hy hq => by rcases hM5 y hy with h | h <;> omega)); clear hf5 hM5 hk5))
        all_goals go_meet
        · exact ⟨rfl, HA5.out, HT5.out, HF5.out, HK5.out⟩
        · exact ⟨rfl, HA.out, HT1.out, FV.more HFV.out (Nat.le_succ n), hkb1.out⟩
        · exact ⟨rfl, HA.out, HT1.out, FV.more HFV.out (Nat.le_succ n), hkb1.out⟩
        · exact ⟨rfl, HA5.out, HT5.out, HF5.out, HK5.out⟩
        · exact ⟨rfl, HA5.out, HT5.out, HF5.out, HK5.out⟩
        · exact ⟨rfl, HA5.out, HT5.out, HF5.out, HK5.out⟩
      case rest =>
        obtain ⟨rfl, HAc, HTc, HFc, HKc⟩ := hcut
        clear HA HT1 HLM HFV hkb1 i0 i1 i2 i3 i4 i5 i6 i7 i8 i9 ho1 ho2
        obtain ⟨last, cl, q1, q2, hc30, hids, hcch⟩ := HFc.out
        have HIDS := Lib.hid hids
        have HC := Lib.hid hcch
        have hBx := hcch.lt
        have hAx := HAc.out.lt
        clear hids hcch
        obtain ⟨i0, i1, i2, i3, i4, i5, i6, i7, i8, i9⟩ := HAc.out.ten
        obtain ⟨wc, hwc⟩ : ∃ wx : World, wx = wc := ⟨_, rfl⟩
        subst hwc
        go_wp2_with (first
          | (go_at_call 12; refine Calls.mono (lookLooks 1 (S := fun y => y ≠ B ∧ y < bs) B bs 30 last (.map (some mb)) cl me tk tn ti ta qa qc wd _ (by exact HC.out) (by exact HTc.out)) ?_; intro e x1 hlk; rcases hlk with ⟨yi, ym, yk, yn, yx, p1, m1, k1, yf, yu, p2, m2, k2, fl, hk1, hfl⟩; have HFL := Lib.hid hfl; have HC1 := Lib.hid ((HC.out.kept hk1 (by simp)).kept ((Kept.refl [] x1).alloc (.cells (List.toArray [.int .i64 yi, .int .i64 ym, .int .i64 yk, .string yn, .int .i64 yx, .slice p1 m1 k1, .int .i64 yf, .int .i64 yu, .int .i64 0, .int .i64 0, .slice none 0 0, .slice none 0 0, .slice none 0 0, .slice p2 m2 k2]) 43)) (by simp)); have HK1 := Lib.hid (hk1.alloc (.cells (List.toArray [.int .i64 yi, .int .i64 ym, .int .i64 yk, .string yn, .int .i64 yx, .slice p1 m1 k1, .int .i64 yf, .int .i64 yu, .int .i64 0, .int .i64 0, .slice none 0 0, .slice none 0 0, .slice none 0 0, .slice p2 m2 k2]) 43)); have HY1 := Lib.hid (Blk.new x1 [.int .i64 yi, .int .i64 ym, .int .i64 yk, .string yn, .int .i64 yx, .slice p1 m1 k1, .int .i64 yf, .int .i64 yu, .int .i64 0, .int .i64 0, .slice none 0 0, .slice none 0 0, .slice none 0 0, .slice p2 m2 k2] 43); clear hfl hk1)
          | (go_at_call 13; refine Calls.mono (cacheAll 1 B bs 30 last (.map (some mb)) cl _ (by exact HC1.out) (by omega)) ?_; rintro e x2 ⟨v2, rfl, hgr2, hk2⟩; have hrd2 := hgr2.rd (CR.good 1) (fun _ h => h); obtain ⟨ga, gc, rfl, hg1, hg2, hg3⟩ := hrd2.form; have HG3 := Lib.hid hg3; have HY2 := Lib.hid (HY1.out.kept hk2 (by simp)); have HK2 := Lib.hid (HK1.out.trans hk2); have HS2 := Lib.hid hk2.size; clear hg3 hgr2 hrd2 hk2))
        have HBS2 := Lib.hid (Best.start cl me (.mk tk tn ti ta) wd)
        clear HC1 HY1 HC hAx hBx
        go_loopg [10, 12] cl.length (fun kk b j wr => ∃ (k : Nat) (r jj : Int), k = kk ∧ b = .int .i64 r ∧ j = .int .i64 jj ∧ jj = (k : Int) - 1 ∧ k ≤ cl.length ∧ Hid (Best cl me (.mk tk tn ti ta) wd k r) ∧ Hid (Kept [] x2 wr))
        case atStart => exact ⟨cl.length, 0, (cl.length : Int) - 1, rfl, rfl, rfl, rfl, Nat.le_refl _, HBS2.out, Kept.refl _ _⟩
        case round =>
          obtain ⟨k, r, jj, rfl, rfl, rfl, hjj, hkl, hbest, hki⟩ := hrel
          clear HBS2
          have HKW := Lib.hid (HK2.out.trans hki.out)
          have HAi := HAc.out.kept HKW.out (by simp)
          obtain ⟨_, _, i2, _, _, i5, i6, i7, i8, i9⟩ := HAi.ten
          have hAi := HAi.lt
          clear HAi
          rcases k with _ | k
          · obtain rfl : jj = -1 := by omega
            clear hjj
            have hfo := find_ok HIDS.out hbest.out HFL.out
            have HY3 := HY2.out.kept hki.out (by simp)
            have y0 := HY3.cell 0 _ rfl
            have hy3 := HY3.lt
            have HFX : Hid (FV wr B bs (.map (some mb)) (n + 1)) := Lib.hid (by obtain ⟨z1, z2, z3⟩ := HFc.out; exact ⟨z1, z2, z3.kept HKW.out⟩)
            have HKX := Lib.hid (HKc.out.trans (.of HKW.out))
            clear HY3 hbest
            rcases hfo with ⟨rfl, hr0, rfl⟩ | ⟨rfl, rfl⟩
            all_goals go_wp2
            all_goals
              go_roundg (l.length - (n + 1))
              case rel => exact ⟨n + 1, rfl, by omega, by go_num, HFX.out, HKX.out⟩
              case measure => omega
          · obtain rfl : jj = (k : Int) := by omega
            clear hjj
            have hkc : k < cl.length := by omega
            have hne : cl ≠ [] := by rintro rfl; simp at hkc
            obtain ⟨gb, goff, rfl, -, hgb, hgc⟩ := HG3.out.resolve_left hne
            obtain ⟨c, hc⟩ := getp cl k hkc
            obtain ⟨ce, cr, -, cv⟩ := hgc k c hc
            obtain ⟨xa, xc, xb, xd, rfl, ct, -, -⟩ := CR.pair cv
            have HRG := Lib.hid (hki.out.range cr (by simp))
            have HCT := Lib.hid ((TR.good 1).kept ct hki.out (by simp))
            have HX := Lib.hid hc
            obtain ⟨xi, xm, ⟨xk, xn, xx, xt⟩, xf, xu, xl⟩ := c
            simp only [Cp.row, vfst_pair, vsnd_pair, Ty.kind, Ty.name, Ty.index, Ty.args] at HRG HCT
            have hcase : ((xm == me) = false ∨ ((xm == me) = true ∧ decide (xf ≤ wd) = false) ∨ ((xm == me) = true ∧ decide (xf ≤ wd) = true ∧ (xu == 0) = false ∧ decide (wd < xu) = false)) ∨ (((xm == me) = true ∧ decide (xf ≤ wd) = true ∧ (xu == 0) = true) ∨ ((xm == me) = true ∧ decide (xf ≤ wd) = true ∧ (xu == 0) = false ∧ decide (wd < xu) = true)) := by
              cases (xm == me) <;> cases decide (xf ≤ wd) <;> cases (xu == 0) <;> cases decide (wd < xu) <;> simp
            clear hc hgc hne HG3 cr cv ct
            obtain ⟨wi, hwi⟩ : ∃ wx : World, wx = wr := ⟨_, rfl⟩
            subst hwi
            have hka : Kept [] wi (wi.alloc (.cells (List.toArray [.int .i64 xi, .int .i64 xm, .int .i64 xk, .string xn, .int .i64 xx, .slice xa xt.length xc, .int .i64 xf, .int .i64 xu, .int .i64 0, .int .i64 0, .slice none 0 0, .slice none 0 0, .slice none 0 0, .slice xb xl.length xd]) 43)) := (Kept.refl [] wi).alloc _
            rcases hcase with hcase | hcase
            · have HNF := Lib.hid (noFit (t := .mk tk tn ti ta) (y := ⟨xi, xm, .mk xk xn xx xt, xf, xu, xl⟩) hcase)
              rcases hcase with n1 | ⟨n1, n2⟩ | ⟨n1, n2, n3, n4⟩
              all_goals go_upto_region 25 with (first
                | (refine wpList_load_mid rfl 43 (.tmp 83) rfl gb (goff + k * 14) rfl [.int .i64 xi, .int .i64 xm, .int .i64 xk, .string xn, .int .i64 xx, .slice xa xt.length xc, .int .i64 xf, .int .i64 xu, .int .i64 0, .int .i64 0, .slice none 0 0, .slice none 0 0, .slice none 0 0, .slice xb xl.length xd] _ HRG.out Tryd.underlying43 rfl (by kernel_rfl) ?_)
                | (refine wpList_allocStore (.tmp 84) 43 rfl rfl rfl rfl rfl rfl _ [.int .i64 xi, .int .i64 xm, .int .i64 xk, .string xn, .int .i64 xx, .slice xa xt.length xc, .int .i64 xf, .int .i64 xu, .int .i64 0, .int .i64 0, .slice none 0 0, .slice none 0 0, .slice none 0 0, .slice xb xl.length xd] info_code rfl (fun _ => rfl) (fun _ => rfl) (by simp [Value.oneCell']) ?_))
              all_goals clear HRG HCT
              all_goals go_wp2
              all_goals
                go_roundg k
                case rel => exact ⟨k, r, (k : Int) - 1, rfl, rfl, rfl, rfl, by omega, hbest.out.miss HX.out HNF.out, hki.out.trans hka⟩
                case measure => omega
            · have HFT := Lib.hid (isFit (gk := tk) (gn := tn) (gi := ti) (ga := ta) (xi := xi) (tk := xk) (tn := xn) (ti := xx) (ta := xt) (xl := xl) hcase)
              rcases hcase with ⟨n1, n2, n3⟩ | ⟨n1, n2, n3, n4⟩
              all_goals go_upto_region 25 with (first
                | (refine wpList_load_mid rfl 43 (.tmp 83) rfl gb (goff + k * 14) rfl [.int .i64 xi, .int .i64 xm, .int .i64 xk, .string xn, .int .i64 xx, .slice xa xt.length xc, .int .i64 xf, .int .i64 xu, .int .i64 0, .int .i64 0, .slice none 0 0, .slice none 0 0, .slice none 0 0, .slice xb xl.length xd] _ HRG.out Tryd.underlying43 rfl (by kernel_rfl) ?_)
                | (refine wpList_allocStore (.tmp 84) 43 rfl rfl rfl rfl rfl rfl _ [.int .i64 xi, .int .i64 xm, .int .i64 xk, .string xn, .int .i64 xx, .slice xa xt.length xc, .int .i64 xf, .int .i64 xu, .int .i64 0, .int .i64 0, .slice none 0 0, .slice none 0 0, .slice none 0 0, .slice xb xl.length xd] info_code rfl (fun _ => rfl) (fun _ => rfl) (by simp [Value.oneCell']) ?_))
              all_goals
                have HX1 := Lib.hid (Blk.new wi [.int .i64 xi, .int .i64 xm, .int .i64 xk, .string xn, .int .i64 xx, .slice xa xt.length xc, .int .i64 xf, .int .i64 xu, .int .i64 0, .int .i64 0, .slice none 0 0, .slice none 0 0, .slice none 0 0, .slice xb xl.length xd] 43)
                clear HRG
              all_goals go_wp2_with fail
              all_goals
                refine Calls.mono (termEqual 1 (S := (x1.heap.size + 1 ≤ ·)) (S' := fun y => y ≠ B ∧ y < bs) xk tk xn tn xx ti xt ta (.slice xa xt.length xc) (.slice qa ta.length qc) _ (by exact (TR.good 1).kept ((TR.good 1).mono HCT.out (fun _ _ h => by simpa using h)) hka (by simp)) (by exact (TR.good 1).kept HTc.out (HKW.out.trans hka) (by simp))) ?_
                rintro e w2 ⟨rb', rfl, hr, hk2⟩
                have HX2 := Lib.hid (HX1.out.kept hk2 (by simp))
                have x0 := HX2.out.cell 0 _ rfl
                have hx2 := HX2.out.lt
                have HRR := Lib.hid (hr.trans HFT.out.symm)
                have hk3 := Lib.hid (hka.trans hk2)
                clear hr HX1 HCT HFT i2 i5 i6 i7 i8 i9
                cases rb'
                · go_wp2
                  go_roundg k
                  case rel => exact ⟨k, r, (k : Int) - 1, rfl, rfl, rfl, rfl, by omega, hbest.out.miss HX.out (fun h => by have := HRR.out.2 h; cases this), hki.out.trans hk3.out⟩
                  case measure => omega
                · go_wp2
                  go_roundg k
                  case rel => exact ⟨k, xi, (k : Int) - 1, rfl, rfl, rfl, rfl, by omega, Best.hit HX.out (HRR.out.1 trivial), hki.out.trans hk3.out⟩
                  case measure => omega
    · have HK9 := Lib.hid (hkb.out.kept hk3' hwB (by omega))
      clear S3
      go_wp2_with (go_at_call 15; refine Calls.mono (sane _) ?_; rintro e x17 ⟨rfl, hkx⟩)
      go_ret
      exact ⟨rfl, HK9.out.trans hkx⟩
end Go.Proofs.YtkldomkooleecaaDoor
