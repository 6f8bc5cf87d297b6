/- The walk of the law CacheOperations. -/
import Derived.Test.YtkldomkooleecaaDoorPlay
import Derived.Test.YtkldomkooleecaaDoorTSize
import Derived.Test.YtkldomkooleecaaDoorSane31
namespace Go.Proofs.YtkldomkooleecaaDoor
open Go.RowKit Go.Maps Go.MapKept

section
variable {P : Program} {w : World} {ops : Array Oper} {rest : List Oper} {a : Act} {Q : Exit → Act → World → Prop}
/-- An append that is guarded, and wanted. -/
theorem wpList_append_rows_g {o : Oper} (hw : Region.wanted o (yielded ops a.tmps) = true) (s x : Operand) (t e : TypeId) (ho : o.op = .call { callee := .builtin .append, args := #[s, x], argTypes := #[t, t] })
    (i : TypeInfo) (z : Value) (size bytes : Nat) (ht : P.underlying t = some (.slice e)) (hi : P.info? e = some i) (hz : i.zero = some z)
    (hsize : i.size = size) (hby : i.bytes = bytes) (hzs : z.cells.size = size) (hsz : 0 < size)
    (base : Nat) (v : Value) (rs qs : List (List Value)) (hs : a.eval s = v) (hown : Own w base e size v rs) (S : Nat → Prop) (u : Value) (hx : a.eval x = u) (hu : Reads S w u size qs)
    (h63 : rs.length + qs.length ≤ 9223372036854775807) (hbytes : (rs.length + qs.length) * bytes ≤ 140737488355328) (hbase : base ≤ w.heap.size)
    (h : ∀ v' w', Own w' base e size v' (rs ++ qs) → (∀ M, (∀ x, v.ownBlock = some x → x ∈ M) → Kept M w w') → (v'.ownBlock = v.ownBlock ∨ ∃ g, v'.ownBlock = some g ∧ w.heap.size ≤ g) → wpList P ops Q rest (a.put o.dst v') w') :
    wpList P ops Q (o :: rest) a w :=
  wpList_step fun K hK => by
    rw [if_pos hw]
    exact wp_append_rows s x t e ho i z size bytes ht hi hz hsize hby hzs hsz base v rs qs hs hown S u hx hu h63 hbytes hbase fun v' w' h2 h3 h4 => hK _ _ (h v' w' h2 h3 h4)
end
theorem genO_ok {l : List Op31} (h : GenO l) : ∀ x ∈ l, tyOk x.ty ∧ tyW x.ty ≤ 140737488355328 := by
  intro x hx
  have ht : x.ty ∈ tys := (h x hx).2.2.2.2.2.2.2.2.2.2.2
  simp only [tys, List.mem_cons, List.not_mem_nil, or_false] at ht
  rcases ht with ht | ht | ht
  all_goals
    rw [ht]
    simp only [tyOk, tysOk, tyW, tysW, tyOf, named, sInt, sBool]
    decide
theorem tr_ups {d : Nat} (n : Nat) {S : Nat → Prop} {w : World} {v : Value} {l : List Op31} (h : Rd (fun S w e (x : Op31) => TR d S w e x.ty.args) Op31.row 10 S w v l) : Rd (fun S w e (x : Op31) => TR (d + n) S w e x.ty.args) Op31.row 10 S w v l := by
  obtain ⟨es, h1, h2, h3⟩ := h
  exact ⟨es, h1, h2, fun k x e hx he => (h3 k x e hx he).ups n⟩
theorem op_good (d : Nat) : Good (fun S w e (x : Op31) => TR d S w e x.ty.args) := TR.goodAt d (fun x : Op31 => x.ty.args)
/-- Two lists, one behind the other, laid anew. -/
theorem rd_append {d : Nat} {S S' : Nat → Prop} {w w2 : World} {v' : Value} {l m : List Op31} {es fs : List Value} {base : Nat} {t : TypeId} (h1 : es.length = l.length) (h2 : fs.length = m.length)
    (h3 : ∀ (k : Nat) (x : Op31) (e : Value), l[k]? = some x → es[k]? = some e → TR d S w e x.ty.args) (h4 : ∀ (k : Nat) (x : Op31) (e : Value), m[k]? = some x → fs[k]? = some e → TR d S' w e x.ty.args)
    (ho : Own w2 base t 10 v' (List.zipWith Op31.row l es ++ List.zipWith Op31.row m fs)) (hk : Kept [] w w2) : Rd (fun S w e (x : Op31) => TR d S w e x.ty.args) Op31.row 10 (fun y => y < w2.heap.size) w2 v' (l ++ m) := by
  refine ⟨es ++ fs, by simp [h1, h2], by rw [List.zipWith_append h1.symm]; exact ho.rows.mono (fun b hb _ => hb), fun k x e hx he => ?_⟩
  rcases Nat.lt_or_ge k es.length with hlt | hge
  · rw [List.getElem?_append_left hlt] at he
    rw [List.getElem?_append_left (by omega)] at hx
    exact (TR.good d).mono ((TR.good d).kept (h3 k x e hx he) hk (by simp)) (fun b hb _ => hb)
  · rw [List.getElem?_append_right hge] at he
    rw [List.getElem?_append_right (by omega), ← h1] at hx
    exact (TR.good d).mono ((TR.good d).kept (h4 _ x e hx he) hk (by simp)) (fun b hb _ => hb)

set_option maxRecDepth 100000 in
set_option maxHeartbeats 12800000 in
theorem cacheOps (F tb : Nat) {S0 S : Nat → Prop} (tv rv : Value) (lt : List Int) (raw : List Op31) (c : Int) (w : World) (ht : Reads S0 w tv 1 (irows lt)) (hS0 : ∀ y, S0 y → y < w.heap.size)
    (hr : Rd (fun S w e (x : Op31) => TU F S w e x.ty.args) Op31.row 10 S w rv raw) (hS : ∀ y, S y → y < w.heap.size) (hok : ∀ x ∈ raw, tyOk x.ty ∧ tyNm 1048576 x.ty) (hT : Tabs tb w) (htb : tb ≤ w.heap.size) :
    Calls Tryd.prog 5 #[tv, rv, .int .i64 c] w fun e w' => e = .returned (.bool true) ∧ Kept [] w w' := by
  obtain ⟨ra, rc, rfl, hr1, hr2, hr3⟩ := hr.form
  obtain ⟨ta, tc, rfl, _, _, _⟩ := ht.ints
  have HR := Lib.hid hr
  have HR3 := Lib.hid hr3
  have HTV := Lib.hid ht
  have HS0 := Lib.hid hS0
  have HS := Lib.hid hS
  have HOK := Lib.hid hok
  have HTB := Lib.hid hT
  obtain ⟨ia, za, hia, hza0, hza1, hza2, hza3⟩ := info_act
  clear hr hr3 ht hS0 hS hok hT
  go_enter Tryd.func5, Tryd.ntmps5
  by_cases h60 : 60 < raw.length
  · have d0 : decide ((raw.length : Int) > 60) = true := by simp; omega
    go_wp2
    go_ret
    exact ⟨rfl, Kept.refl _ _⟩
  have d0 : decide ((raw.length : Int) > 60) = false := by simp; omega
  go_wp2
  go_loopw [7] (fun q wr => ∃ k : Nat, k ≤ raw.length ∧ q = .int .i64 k ∧ Kept [] w wr ∧ Hid (∀ (j : Nat) (x : Op31), j < k → raw[j]? = some x → nodes x.ty ≤ 60)) (fun q _ => raw.length - (intOf q).toNat)
  case atStart => exact ⟨0, Nat.zero_le _, rfl, Kept.refl _ _, fun j x hj => by omega⟩
  case round =>
    obtain ⟨k, hk, rfl, hkr, hno⟩ := hrel
    obtain ⟨wo, hwo⟩ : ∃ wo : World, wo = wr := ⟨_, rfl⟩
    subst hwo
    by_cases hlt : k < raw.length
    · have hne : raw ≠ [] := by rintro rfl; simp at hlt
      obtain ⟨b1, o1, rfl, hSb, hb1, hc1⟩ := HR3.out.resolve_left hne
      obtain ⟨x, hx⟩ := getp raw k hlt
      obtain ⟨e, hrx, _, hu⟩ := hc1 k x hx
      have HX := Lib.hid hx
      obtain ⟨op, idn, me, fr, un, wd, ⟨tk, tn, ti, xa⟩⟩ := x
      obtain ⟨qa, qc, rfl, _⟩ := hu.form
      have hrg := hkr.range hrx (by simp)
      simp only [Op31.row, Ty.kind, Ty.name, Ty.index, Ty.args] at hrg hu
      have u6 : wo.cell? ⟨b1, o1 + k * 10 + 6, none⟩ = some (.int .i64 tk) := hrg 6 _ rfl
      have u7 : wo.cell? ⟨b1, o1 + k * 10 + 7, none⟩ = some (.string tn) := hrg 7 _ rfl
      have u8 : wo.cell? ⟨b1, o1 + k * 10 + 8, none⟩ = some (.int .i64 ti) := hrg 8 _ rfl
      have u9 : wo.cell? ⟨b1, o1 + k * 10 + 9, none⟩ = some (.slice qa xa.length qc) := hrg 9 _ rfl
      have HU := Lib.hid ((TU.good F).kept hu hkr (by simp))
      have hkc : k < rc := by omega
      have hbw : b1 < wo.heap.size := Nat.lt_of_lt_of_le hb1 hkr.size
      have HRG : Hid (wo.rangeAt b1 (o1 + k * 10 + 6) [.int .i64 tk, .string tn, .int .i64 ti, .slice qa xa.length qc]) := Lib.hid (fun j v hj => by
        match j, hj with
        | 0, hj => simp at hj; subst hj; exact u6
        | 1, hj => simp at hj; subst hj; exact u7
        | 2, hj => simp at hj; subst hj; exact u8
        | 3, hj => simp at hj; subst hj; exact u9
        | j + 4, hj => simp at hj)
      clear hrx hu hx hc1 hne hrg HR3 hSb hb1
      go_wp2_with (first
        | (refine wpList_load_mid rfl 31 (.tmp 22) rfl b1 (o1 + k * 10 + 6) rfl [.int .i64 tk, .string tn, .int .i64 ti, .slice qa xa.length qc] _ HRG.out Tryd.underlying31 rfl (by kernel_rfl) ?_)
        | (go_at_call 18; refine Calls.mono (typeSize F (S := S) tk tn ti xa qa qc _ (by exact HU.out)) ?_; rintro e w2 ⟨r, rfl, hn, hk2⟩; have HN := Lib.hid hn; have HK2 := Lib.hid (hkr.trans hk2); clear hn hk2))
      · go_ret
        exact ⟨rfl, HK2.out⟩
      · have hr60 : r ≤ 60 := by omega
        have hn60 := HN.out hr60
        go_roundw
        case rel =>
          refine ⟨k + 1, by omega, by go_num, HK2.out, fun j y hj hy => ?_⟩
          rcases Nat.lt_or_eq_of_le (Nat.le_of_lt_succ hj) with h1 | rfl
          · exact hno.out j y h1 hy
          · rw [HX.out] at hy
            cases hy
            exact hn60
        case measure => simp [intOf]; omega
    · have hkl : k = raw.length := by omega
      subst hkl
      have hnodes : ∀ x ∈ raw, nodes x.ty ≤ 60 := fun x hx => by
        obtain ⟨j, hj⟩ := List.mem_iff_getElem?.1 hx
        exact hno.out j x (List.getElem?_eq_some_iff.1 hj).1 hj
      have hsz := hkr.size
      have HRW : Hid (Rd (fun S w e (x : Op31) => TR (F + 1) S w e x.ty.args) Op31.row 10 S wo (.slice ra raw.length rc) raw) := Lib.hid (by
        have h1 : Rd (fun S w e (x : Op31) => TR F S w e x.ty.args) Op31.row 10 S w (.slice ra raw.length rc) raw := by
          obtain ⟨es, e1, e2, e3⟩ := HR.out
          refine ⟨es, e1, e2, fun k x e hx he => (e3 k x e hx he).tr ?_⟩
          have := hnodes x (List.mem_of_getElem? hx)
          rw [nodes_args] at this
          omega
        exact tr_ups 1 (Rd.kept (op_good F) h1 hkr (by simp)))
      have HOKW : Hid (∀ x ∈ raw, tyOk x.ty ∧ tyW x.ty ≤ 140737488355328) := Lib.hid (fun x hx => by
        obtain ⟨h1, h2⟩ := HOK.out x hx
        have h3 := tyW_le 1048576 x.ty h2
        have h4 := hnodes x hx
        have h5 : nodes x.ty * (80 + 10 * 1048576) ≤ 60 * (80 + 10 * 1048576) := Nat.mul_le_mul_right _ h4
        exact ⟨h1, by omega⟩)
      have HTW := Lib.hid (HTV.out.kept hkr (by simp))
      have HK0 := Lib.hid hkr
      clear hno hnodes hkr HR3 HR HTV HOK
      obtain ⟨es, n1, n2, n3⟩ := HRW.out
      have hlen : (List.zipWith Op31.row raw es).length = raw.length := zip_len n1
      have N1 := Lib.hid n1
      have N2 := Lib.hid n2
      have N3 := Lib.hid n3
      have HLN := Lib.hid hlen
      clear n1 n2 n3 hlen
      go_upto_region 10 with (first
        | (go_at_call 6; refine Calls.mono (newTape _ lt _ (by exact HTW.out) (by intro y hy; have := HS0.out y hy; omega)) ?_; rintro e w1 ⟨rfl, hT, hk1⟩; have HTP := Lib.hid hT; have HK1 := Lib.hid hk1; have hs1 := hk1.size; have ht1 := hT.lt; clear hT hk1)
        | (go_at_call 8; have hg40 : Calls Tryd.prog 8 #[.pointer (some ⟨wo.heap.size, 0, none⟩), .int .i64 40] w1 _ := generated _ 0 40 _ HTP.out (by omega); refine Calls.mono hg40 ?_; clear hg40; rintro e w2 ⟨lV, gl, rfl, hgl, hgen, hgr, hT2, hk2⟩; have HTP2 := Lib.hid hT2; have HGL := Lib.hid hgl; have HGEN := Lib.hid hgen; have HGR := Lib.hid (hgr.rd (op_good 1) (S := fun y => w1.heap.size ≤ y) (fun _ h => h)); have HK2 := Lib.hid (HK1.out.trans' hk2 (by simp)); have hs2 := hk2.size; clear hT2 hgl hgen hgr hk2))
      obtain ⟨ga, gc, hgv, _⟩ := HGR.out.form
      subst hgv
      have HGD : Hid (Rd (fun S w e (x : Op31) => TR (F + 1) S w e x.ty.args) Op31.row 10 (fun y => w1.heap.size ≤ y ∧ y < w2.heap.size) w2 (.slice ga gl.length gc) gl) := Lib.hid (by
        have := tr_ups F (Rd.mono (op_good 1) HGR.out (S' := fun y => w1.heap.size ≤ y ∧ y < w2.heap.size) (fun y hy h => ⟨h, hy⟩))
        rw [Nat.add_comm] at this
        exact this)
      have HGOK := Lib.hid (genO_ok HGEN.out)
      obtain ⟨gs, y1, y2, y3⟩ := HGD.out
      have HGLN : Hid ((List.zipWith Op31.row gl gs).length = 40) := Lib.hid (by rw [zip_len y1]; exact HGL.out)
      have Y1 := Lib.hid y1
      have Y2 := Lib.hid y2
      have Y3 := Lib.hid y3
      have HS' : Hid (∀ y, S y → y < w.heap.size) := HS
      have hgl200 : gl.length ≤ 200 := by have := HGL.out; omega
      have hraw200 : raw.length ≤ 200 := by omega
      clear y1 y2 y3 HGR HGEN HTW HK1 HTP
      go_wp2_with (first
        | (go_at_call 20; refine Calls.mono (tapeNext wo.heap.size _ 8 _ (by exact HTP2.out) (by omega) (by omega)) ?_; rintro e w3 ⟨r, rfl, hr0, -, hr1, hT3, hk3⟩; have hr8 := hr1 (by omega); have HK3 := Lib.hid (HK2.out.trans' hk3 (by simp)); have HG3 := Lib.hid (Rd.kept (op_good (F + 1)) HGD.out hk3 (by simp; omega)); have Y23 := Lib.hid (Y2.out.kept hk3 (by simp; omega)); have hk3' := Lib.hid hk3; have hs3 := hk3.size; clear hr1 hT3 hk3)
        | (have _h := HAP; go_at_call 19; refine Calls.mono (play (F + 1) tb (S := fun y => y < w7.heap.size) _ _ (gl ++ raw) _ (by exact HAP.out) (by intro y hy; exact hy) (by exact HTB.out.kept0 (HK0.out.trans HK7.out)) (by have := (HK0.out.trans HK7.out).size; omega) (by intro x hx; rcases List.mem_append.1 hx with hx | hx; exact HGOK.out x hx; exact HOKW.out x hx) (by rw [List.length_append]; have := HGL.out; omega)) ?_; rintro e w8 ⟨rfl, hk8⟩; have HK8 := Lib.hid (HK7.out.trans hk8); clear hk8)
        | (have _h := HK4; go_at_call 19; refine Calls.mono (play (F + 1) tb (S := S) _ _ raw _ (by exact Rd.kept (op_good (F + 1)) HRW.out HK4.out (by simp)) (by intro y hy; have := HS.out y hy; have := HK4.out.size; omega) (by exact HTB.out.kept0 (HK0.out.trans HK4.out)) (by have := (HK0.out.trans HK4.out).size; omega) (by exact HOKW.out) hraw200) ?_; rintro e w5 ⟨rfl, hk5⟩; have HK5 := Lib.hid (HK4.out.trans hk5); have HK35 := Lib.hid (HK34.out.trans hk5); have HG5 := Lib.hid (Y4.out.kept hk5 (by simp)); clear hk5)
        | (go_at_call 19; refine Calls.mono (play (F + 1) tb (S := fun y => w1.heap.size ≤ y ∧ y < w2.heap.size) _ _ gl _ (by exact HG3.out) (by intro y hy; omega) (by exact HTB.out.kept0 (HK0.out.trans HK3.out)) (by have := (HK0.out.trans HK3.out).size; omega) (by exact HGOK.out) hgl200) ?_; rintro e w4 ⟨rfl, hk4⟩; have HK4 := Lib.hid (HK3.out.trans hk4); have HK34 := Lib.hid hk4; have Y4 := Lib.hid (Y23.out.kept hk4 (by simp)); clear hk4)
        | (have _h := HO6; refine wpList_append_rows_g rfl (.tmp 43) (.tmp 44) 27 33 rfl ia za 10 104 Tryd.underlying27 hia hza0 hza1 hza2 hza3 (by decide) w5.heap.size v6 (List.zipWith Op31.row gl gs) (List.zipWith Op31.row raw es) rfl HO6.out S (.slice ra raw.length rc) rfl (N2.out.kept (HK5.out.trans HK56.out) (by simp)) (by have := HGLN.out; have := HLN.out; omega) (by have := HGLN.out; have := HLN.out; omega) (by exact HK56.out.size) ?_; intro v7 w7 ho7 hk7 _; have hl6 := HO6.out.lt; have HK57 : Hid (Kept [] w5 w7) := Lib.hid (HK56.out.trans' (hk7 v6.ownBlock.toList (by intro x hx; simp [hx])) (fun x hx => .inr (hl6 x (by simpa using hx)).1)); have HK7 := Lib.hid (HK5.out.trans HK57.out); have HAP := Lib.hid (rd_append (d := F + 1) (S := fun y => w1.heap.size ≤ y ∧ y < w2.heap.size) (S' := S) Y1.out N1.out (fun k x e hx he => (TR.good (F + 1)).kept ((TR.good (F + 1)).kept ((TR.good (F + 1)).kept (Y3.out k x e hx he) hk3'.out (by simp; omega)) HK35.out (by simp)) (Kept.refl [] w5) (by simp)) (fun k x e hx he => (TR.good (F + 1)).kept (N3.out k x e hx he) HK5.out (by simp)) ho7 HK57.out); clear ho7 hk7 hl6)
        | (refine wpList_append_rows_g rfl (.tmp 41) (.tmp 42) 27 33 rfl ia za 10 104 Tryd.underlying27 hia hza0 hza1 hza2 hza3 (by decide) w5.heap.size (.slice (some ⟨w5.heap.size, 0, none⟩) 0 0) [] (List.zipWith Op31.row gl gs) rfl (own_zeroN (halloc_new _ _ _ rfl) (Nat.le_refl _)) (fun y => w1.heap.size ≤ y ∧ y < w2.heap.size) (.slice ga gl.length gc) rfl (HG5.out.kept (M := []) ((Kept.refl [] w5).alloc _) (by simp)) (by have := HGLN.out; simp only [List.length_nil]; omega) (by have := HGLN.out; simp only [List.length_nil]; omega) (by simp) ?_; intro v6 w6 ho6 hk6 _; have HO6 : Hid (Own w6 w5.heap.size 33 10 v6 (List.zipWith Op31.row gl gs)) := Lib.hid ho6; have HK56 : Hid (Kept [] w5 w6) := Lib.hid (((Kept.refl [] w5).alloc _).trans' (hk6 [w5.heap.size] (by intro x hx; simp [Value.ownBlock] at hx; simp [hx.symm])) (by simp)); clear ho6 hk6)
        | (go_at_call 15; refine Calls.mono (sane tb _ (by exact HTB.out.kept0 (HK0.out.trans HK8.out))) ?_; rintro e w9 ⟨rfl, hk9⟩; have HK9 := Lib.hid (HK8.out.trans hk9); clear hk9))
      go_ret
      exact ⟨rfl, HK0.out.trans HK9.out⟩
end Go.Proofs.YtkldomkooleecaaDoor
