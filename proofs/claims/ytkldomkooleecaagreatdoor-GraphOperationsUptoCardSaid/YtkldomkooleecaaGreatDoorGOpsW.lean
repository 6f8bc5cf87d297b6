/- The walk of the law GraphOperations. -/
import Derived.Test.YtkldomkooleecaaGreatDoorPlay
import Derived.Test.YtkldomkooleecaaGreatDoorTSize
import Derived.Test.YtkldomkooleecaaGreatDoorSane32
import Derived.Test.YtkldomkooleecaaGreatDoorGen32B
namespace Go.Proofs.YtkldomkooleecaaGreatDoor
open Go.RowKit Go.Maps Go.MapKept

section
variable {P : Program} {w : World} {ops : Array Oper} {rest : List Oper} {a : Act} {Q : Exit → Act → World → Prop}
/-- An append that is guarded, and wanted. -/
theorem wpList_append_rows_g {o : Oper} (hw : Region.wanted o (yielded ops a.tmps) = true) (s x : Operand) (t e : TypeId) (ho : o.op = .call { callee := .builtin .append, args := #[s, x], argTypes := #[t, t] })
    (i : TypeInfo) (z : Value) (size bytes : Nat) (ht : P.underlying t = some (.slice e)) (hi : P.info? e = some i) (hz : i.zero = some z)
    (hsize : i.size = size) (hby : i.bytes = bytes) (hzs : z.cells.size = size) (hsz : 0 < size)
    (base : Nat) (v : Value) (rs qs : List (List Value)) (hs : a.eval s = v) (hown : Own w base e size v rs) (S : Nat → Prop) (u : Value) (hx : a.eval x = u) (hu : Reads S w u size qs)
    (h63 : rs.length + qs.length ≤ 9223372036854775807) (hbytes : (rs.length + qs.length) * bytes ≤ 140737488355328) (hbase : base ≤ w.heap.size)
    (h : ∀ v' w', Own w' base e size v' (rs ++ qs) → (∀ M, (∀ x, v.ownBlock = some x → x ∈ M) → Kept M w w') → (v'.ownBlock = v.ownBlock ∨ ∃ g, v'.ownBlock = some g ∧ w.heap.size ≤ g) → wpList P ops Q rest (a.put o.dst v') w') :
    wpList P ops Q (o :: rest) a w :=
  wpList_step fun K hK => by
    rw [if_pos hw]
    exact wp_append_rows s x t e ho i z size bytes ht hi hz hsize hby hzs hsz base v rs qs hs hown S u hx hu h63 hbytes hbase fun v' w' h2 h3 h4 => hK _ _ (h v' w' h2 h3 h4)
end
/-- Few and small. -/
def Small (x : Op32) : Prop := x.deps.length ≤ 4 ∧ x.uses.length ≤ 6 ∧ ∀ y ∈ x.deps, nodes y.ty ≤ 60 ∧ y.ids.length ≤ 20
theorem AU.small {F : Nat} {S : Nat → Prop} {w : World} {e : Value} {x : Op32} (h : AU F S w e x) (hs : Small x) : AR (F + 1) S w e x := by
  obtain ⟨a, b, he, h1, h2⟩ := h
  refine ⟨a, b, he, Rd.imp h1 fun y hy e hd => ?_, h2⟩
  obtain ⟨a, b, he, q1, q2⟩ := hd
  obtain ⟨s1, s2⟩ := hs.2.2 y hy
  exact ⟨a, b, he, (q1.tr (by have := nodes_args y.ty; omega)).up, q2, by omega⟩
theorem DR.ups {d : Nat} (n : Nat) {S : Nat → Prop} {w : World} {e : Value} {x : Dp} (h : DR d S w e x) : DR (d + n) S w e x := by
  obtain ⟨a, b, he, q1, q2⟩ := h
  exact ⟨a, b, he, q1.ups n, q2⟩
theorem AR.ups {d : Nat} (n : Nat) {S : Nat → Prop} {w : World} {e : Value} {x : Op32} (h : AR d S w e x) : AR (d + n) S w e x := by
  obtain ⟨a, b, he, h1, h2⟩ := h
  exact ⟨a, b, he, Rd.imp h1 fun _ _ _ q => q.ups n, h2⟩
/-- The queries of the operations handed in. -/
def rawQ (raw : List Op32) : List Dp := raw.flatMap Op32.deps
theorem rawQ_len : ∀ (raw : List Op32), (∀ x ∈ raw, Small x) → (rawQ raw).length ≤ 4 * raw.length
  | [], _ => by simp [rawQ]
  | x :: raw, h => by
    have h1 := (h x (by simp)).1
    have h2 := rawQ_len raw (fun y hy => h y (by simp [hy]))
    unfold rawQ at h2 ⊢
    rw [List.flatMap_cons, List.length_append, List.length_cons]
    omega
theorem fit_raw {raw : List Op32} (hs : ∀ x ∈ raw, Small x) (hok : ∀ x ∈ raw, ∀ y ∈ x.deps, DOk 1048576 y) : ∀ x ∈ raw, ∀ y ∈ x.deps, Fit (nine ++ rawQ raw) y := by
  intro x hx y hy
  obtain ⟨h1, h2⟩ := hok x hx y hy
  have h3 := tyW_le 1048576 y.ty h2
  have h4 := ((hs x hx).2.2 y hy).1
  have h5 : nodes y.ty * (80 + 10 * 1048576) ≤ 60 * (80 + 10 * 1048576) := Nat.mul_le_mul_right _ h4
  exact ⟨h1, by omega, y, List.mem_append_right _ (List.mem_flatMap.2 ⟨x, hx, hy⟩), rfl, rfl⟩
theorem fit_nine {raw l : List Op32} (hg : ∀ x ∈ l, GenA x) : ∀ x ∈ l, ∀ y ∈ x.deps, Fit (nine ++ rawQ raw) y := by
  intro x hx y hy
  obtain ⟨h1, h2, q, hq, e⟩ := nine_fit y ((hg x hx).1 y hy)
  exact ⟨h1, h2, q, List.mem_append_left _ hq, e⟩
/-- What an operation may be: at most so many dependencies and uses. -/
def Lens (x : Op32) : Prop := x.deps.length ≤ 1000 ∧ x.uses.length ≤ 1000
theorem Small.lens {x : Op32} (h : Small x) : Lens x := ⟨by have := h.1; omega, by have := h.2.1; omega⟩
theorem GenA.lens {x : Op32} (h : GenA x) : Lens x := ⟨by have := h.2.1; omega, by have := h.2.2.1; omega⟩
/-- Two lists, one behind the other, laid anew. -/
theorem rd_append {d : Nat} {S S' : Nat → Prop} {w w2 : World} {v' : Value} {l m : List Op32} {es fs : List Value} {base : Nat} {t : TypeId} {M : List Nat} (h1 : es.length = l.length) (h2 : fs.length = m.length)
    (h3 : ∀ (k : Nat) (x : Op32) (e : Value), l[k]? = some x → es[k]? = some e → AR d S w e x) (h4 : ∀ (k : Nat) (x : Op32) (e : Value), m[k]? = some x → fs[k]? = some e → AR d S' w e x)
    (ho : Own w2 base t 4 v' (List.zipWith Op32.row l es ++ List.zipWith Op32.row m fs)) (hk : Kept M w w2) (hn : ∀ y ∈ M, ¬ S y) (hn' : ∀ y ∈ M, ¬ S' y) : Rd (fun S w e (x : Op32) => AR d S w e x) Op32.row 4 (fun y => y < w2.heap.size) w2 v' (l ++ m) := by
  refine ⟨es ++ fs, by simp [h1, h2], by rw [List.zipWith_append h1.symm]; exact ho.rows.mono (fun b hb _ => hb), fun k x e hx he => ?_⟩
  rcases Nat.lt_or_ge k es.length with hlt | hge
  · rw [List.getElem?_append_left hlt] at he
    rw [List.getElem?_append_left (by omega)] at hx
    exact (AR.good d).mono ((AR.good d).kept (h3 k x e hx he) hk hn) (fun b hb _ => hb)
  · rw [List.getElem?_append_right hge] at he
    rw [List.getElem?_append_right (by omega), ← h1] at hx
    exact (AR.good d).mono ((AR.good d).kept (h4 _ x e hx he) hk hn') (fun b hb _ => hb)
theorem size_or (r : Int) : decide (r > 60) = true ∨ (decide (r > 60) = false ∧ r ≤ 60) := by
  by_cases h : r ≤ 60
  · exact .inr ⟨by simp; omega, h⟩
  · exact .inl (by simp; omega)
theorem gen20 (b m : Nat) (w : World) (hT : Tp w b m) (hm : m ≤ 50000) :
    Calls Tryz.prog 14 #[.pointer (some ⟨b, 0, none⟩), .int .i64 20] w fun e w' => ∃ v' l, e = .returned v' ∧ l.length = 20 ∧ (∀ x ∈ l, GenA x) ∧ Gr (fun S w e (x : Op32) => AR 1 S w e x) Op32.row 4 35 (w.heap.size ≤ ·) w.heap.size w' v' l ∧ Kept [b] w w' := by
  refine (generated b m 20 w hT (by omega) (by omega)).mono ?_
  rintro e w' ⟨v, l, rfl, h1, h2, h3, _, h5⟩
  exact ⟨v, l, rfl, h1, h2, h3, h5⟩

set_option maxRecDepth 100000 in
set_option maxHeartbeats 12800000 in
theorem graphOps (F tb : Nat) {S0 S : Nat → Prop} (tv rv : Value) (lt : List Int) (raw : List Op32) (w : World) (ht : Reads S0 w tv 1 (irows lt)) (hS0 : ∀ y, S0 y → y < w.heap.size)
    (hr : Rd (fun S w e (x : Op32) => AU F S w e x) Op32.row 4 S w rv raw) (hS : ∀ y, S y → y < w.heap.size) (hok : ∀ x ∈ raw, ∀ y ∈ x.deps, DOk 1048576 y) (hT : Tabs tb w) (htb : tb ≤ w.heap.size) :
    Calls Tryz.prog 4 #[tv, rv] w fun e w' => e = .returned (.bool true) ∧ Kept [] w w' := by
  obtain ⟨ra, rc, rfl, hr1, hr2, hr3⟩ := hr.form
  obtain ⟨ta, tc, rfl, _, _, _⟩ := ht.ints
  have HR := Lib.hid hr
  have HR3 := Lib.hid hr3
  have HTV := Lib.hid ht
  have HS0 := Lib.hid hS0
  have HS := Lib.hid hS
  have HOK := Lib.hid hok
  have HTB := Lib.hid hT
  obtain ⟨ia, za, hia, hza0, hza1, hza2, hza3⟩ := info_act
  clear hr hr3 ht hS0 hS hok hT
  go_enter Tryz.func4, Tryz.ntmps4
  by_cases h10 : 10 < raw.length
  · have d0 : decide ((raw.length : Int) > 10) = true := by simp; omega
    go_wp2
    go_ret
    exact ⟨rfl, Kept.refl _ _⟩
  have d0 : decide ((raw.length : Int) > 10) = false := by simp; omega
  go_wp2
  go_loopw [5] (fun q wr => ∃ k : Nat, k ≤ raw.length ∧ q = .int .i64 k ∧ Kept [] w wr ∧ Hid (∀ (j : Nat) (x : Op32), j < k → raw[j]? = some x → Small x)) (fun q _ => raw.length - (intOf q).toNat)
  case atStart => exact ⟨0, Nat.zero_le _, rfl, Kept.refl _ _, fun j x hj => by omega⟩
  case round =>
    obtain ⟨k, hk, rfl, hkr, hno⟩ := hrel
    obtain ⟨wo, hwo⟩ : ∃ wo : World, wo = wr := ⟨_, rfl⟩
    subst hwo
    by_cases hlt : k < raw.length
    · have hne : raw ≠ [] := by rintro rfl; simp at hlt
      obtain ⟨b1, o1, rfl, hSb, hb1, hc1⟩ := HR3.out.resolve_left hne
      obtain ⟨x, hx⟩ := getp raw k hlt
      obtain ⟨e, hrx, _, hu⟩ := hc1 k x hx
      have HX := Lib.hid hx
      obtain ⟨op, idn, ds, us⟩ := x
      obtain ⟨dv, uv, rfl, hdu, huu⟩ := hu
      obtain ⟨da, dc, rfl, hd1, hd2, hd3⟩ := Rd.form (Q := fun S w e (x : Dp) => DU F S w e x) hdu
      obtain ⟨ua, uc, rfl, _⟩ := huu.ints
      have hrg := hkr.range hrx (by simp)
      simp only [Op32.row, vfst_pair, vsnd_pair] at hrg hdu huu hd1 hd2 hd3
      have HRG := Lib.hid hrg
      have u2 : wo.cell? ⟨b1, o1 + k * 4 + 2, none⟩ = some (.slice da ds.length dc) := hrg 2 _ rfl
      have u3 : wo.cell? ⟨b1, o1 + k * 4 + 3, none⟩ = some (.slice ua us.length uc) := hrg 3 _ rfl
      have HD3 := Lib.hid hd3
      have hkc : k < rc := by omega
      have hbw : b1 < wo.heap.size := Nat.lt_of_lt_of_le hb1 hkr.size
      have HBW := Lib.hid hbw
      clear hrx hx hc1 hne hrg HR3 hSb hb1 hdu huu hd3
      by_cases hbig : 4 < ds.length ∨ 6 < us.length
      · have hcase : decide ((ds.length : Int) > 4) = true ∨ (decide ((ds.length : Int) > 4) = false ∧ decide ((us.length : Int) > 6) = true) := by
          by_cases h4 : 4 < ds.length
          · exact .inl (by simp; omega)
          · exact .inr ⟨by simp; omega, by simp; omega⟩
        clear hbig HD3
        rcases hcase with d1 | ⟨d1, d2⟩
        all_goals
          go_wp2
          go_ret
          exact ⟨rfl, hkr⟩
      · have hs4 : ds.length ≤ 4 := by omega
        have hs6 : us.length ≤ 6 := by omega
        have d1 : decide ((ds.length : Int) > 4) = false := by simp; omega
        have d2 : decide ((us.length : Int) > 6) = false := by simp; omega
        clear hbig
        go_wp2
        go_loopw [6] (fun q wr => ∃ m : Nat, m ≤ ds.length ∧ q = .int .i64 m ∧ Kept [] wo wr ∧ Hid (∀ (j : Nat) (y : Dp), j < m → ds[j]? = some y → nodes y.ty ≤ 60 ∧ y.ids.length ≤ 20)) (fun q _ => ds.length - (intOf q).toNat)
        case atStart => exact ⟨0, Nat.zero_le _, rfl, Kept.refl _ _, fun j x hj => by omega⟩
        case round =>
          obtain ⟨m, hm, rfl, hki, hnoi⟩ := hrel
          obtain ⟨wi, hwi⟩ : ∃ wi : World, wi = wr := ⟨_, rfl⟩
          subst hwi
          have hrgi := hki.range HRG.out (by simp)
          have u2 : wi.cell? ⟨b1, o1 + k * 4 + 2, none⟩ = some (.slice da ds.length dc) := hrgi 2 _ rfl
          have hbw : b1 < wi.heap.size := Nat.lt_of_lt_of_le HBW.out hki.size
          clear hrgi
          by_cases hltm : m < ds.length
          · have hne : ds ≠ [] := by rintro rfl; simp at hltm
            obtain ⟨b2, o2, rfl, hSb, hb2, hc2⟩ := HD3.out.resolve_left hne
            obtain ⟨y, hy⟩ := getp ds m hltm
            obtain ⟨e, hry, _, hyu⟩ := hc2 m y hy
            have HY := Lib.hid hy
            obtain ⟨yf, ⟨tk, tn, ti, xa⟩, yk, yl⟩ := y
            obtain ⟨av, iv, rfl, htu, hid⟩ := hyu
            obtain ⟨qa, qc, rfl, _⟩ := htu.form
            obtain ⟨pa, pc, rfl, _⟩ := hid.ints
            have hrg := (hkr.trans hki).range hry (by simp)
            simp only [Dp.row, vfst_pair, vsnd_pair, Ty.kind, Ty.name, Ty.index, Ty.args] at hrg htu hid
            have v1 : wi.cell? ⟨b2, o2 + m * 7 + 1, none⟩ = some (.int .i64 tk) := hrg 1 _ rfl
            have v2 : wi.cell? ⟨b2, o2 + m * 7 + 2, none⟩ = some (.string tn) := hrg 2 _ rfl
            have v3 : wi.cell? ⟨b2, o2 + m * 7 + 3, none⟩ = some (.int .i64 ti) := hrg 3 _ rfl
            have v4 : wi.cell? ⟨b2, o2 + m * 7 + 4, none⟩ = some (.slice qa xa.length qc) := hrg 4 _ rfl
            have v6 : wi.cell? ⟨b2, o2 + m * 7 + 6, none⟩ = some (.slice pa yl.length pc) := hrg 6 _ rfl
            have HU := Lib.hid ((TU.good F).kept htu (hkr.trans hki) (by simp))
            have hmc : m < dc := by omega
            have hbw2 : b2 < wi.heap.size := Nat.lt_of_lt_of_le hb2 (hkr.trans hki).size
            have HRG2 : Hid (wi.rangeAt b2 (o2 + m * 7 + 1) [.int .i64 tk, .string tn, .int .i64 ti, .slice qa xa.length qc]) := Lib.hid (fun j v hj => by
              match j, hj with
              | 0, hj => simp at hj; subst hj; exact v1
              | 1, hj => simp at hj; subst hj; exact v2
              | 2, hj => simp at hj; subst hj; exact v3
              | 3, hj => simp at hj; subst hj; exact v4
              | j + 4, hj => simp at hj)
            clear hry htu hid hy hc2 hne hrg HD3 hSb hb2
            have hcy : decide ((yl.length : Int) > 20) = true ∨ (decide ((yl.length : Int) > 20) = false ∧ yl.length ≤ 20) := by
              by_cases h20 : yl.length ≤ 20
              · exact .inr ⟨by simp; omega, h20⟩
              · exact .inl (by simp; omega)
            rcases hcy with dy | ⟨dy, hy20⟩
            · go_wp2_with (first
                | (refine wpList_load_mid rfl 39 (.tmp 51) rfl b2 (o2 + m * 7 + 1) rfl [.int .i64 tk, .string tn, .int .i64 ti, .slice qa xa.length qc] _ HRG2.out Tryz.underlying39 rfl (by kernel_rfl) ?_)
                | (go_at_call 13; refine Calls.mono (typeSize F (S := S) tk tn ti xa qa qc _ (by exact HU.out)) ?_; rintro e w4 ⟨r, rfl, hn, hk4⟩; have HN := Lib.hid hn; have HK4 := Lib.hid hk4; have u2 := hk4.cell' u2 (by simp); have v6 := hk4.cell' v6 (by simp); clear hn hk4; rcases size_or r with dr | ⟨dr, hr60⟩))
              all_goals
                go_ret
                exact ⟨rfl, (hkr.trans hki).trans HK4.out⟩
            · go_wp2_with (first
                | (refine wpList_load_mid rfl 39 (.tmp 51) rfl b2 (o2 + m * 7 + 1) rfl [.int .i64 tk, .string tn, .int .i64 ti, .slice qa xa.length qc] _ HRG2.out Tryz.underlying39 rfl (by kernel_rfl) ?_)
                | (go_at_call 13; refine Calls.mono (typeSize F (S := S) tk tn ti xa qa qc _ (by exact HU.out)) ?_; rintro e w4 ⟨r, rfl, hn, hk4⟩; have HN := Lib.hid hn; have HK4 := Lib.hid hk4; have u2 := hk4.cell' u2 (by simp); have v6 := hk4.cell' v6 (by simp); clear hn hk4; rcases size_or r with dr | ⟨dr, hr60⟩))
              · go_ret
                exact ⟨rfl, (hkr.trans hki).trans HK4.out⟩
              · have hn60 := HN.out hr60
                go_roundw
                case rel =>
                  refine ⟨m + 1, by omega, by go_num, hki.trans HK4.out, fun j y hj hy => ?_⟩
                  rcases Nat.lt_or_eq_of_le (Nat.le_of_lt_succ hj) with h1 | rfl
                  · exact hnoi.out j y h1 hy
                  · rw [HY.out] at hy
                    cases hy
                    exact ⟨hn60, hy20⟩
                case measure => simp [intOf]; omega
          · go_wp2_with fail
            go_roundw
            case rel =>
              refine ⟨k + 1, by omega, by go_num, hkr.trans hki, fun j y hj hy => ?_⟩
              rcases Nat.lt_or_eq_of_le (Nat.le_of_lt_succ hj) with h1 | rfl
              · exact hno.out j y h1 hy
              · rw [HX.out] at hy
                cases hy
                refine ⟨hs4, hs6, fun z hz => ?_⟩
                obtain ⟨i, hi⟩ := List.mem_iff_getElem?.1 hz
                exact hnoi.out i z (by have : i < ds.length := (List.getElem?_eq_some_iff.1 hi).1; omega) hi
            case measure => simp [intOf]; omega
    · have hkl : k = raw.length := by omega
      subst hkl
      have hsm : ∀ x ∈ raw, Small x := fun x hx => by
        obtain ⟨j, hj⟩ := List.mem_iff_getElem?.1 hx
        exact hno.out j x (List.getElem?_eq_some_iff.1 hj).1 hj
      have hsz := hkr.size
      have HRW : Hid (Rd (fun S w e (x : Op32) => AR (F + 1) S w e x) Op32.row 4 S wo (.slice ra raw.length rc) raw) := Lib.hid (Rd.kept (AR.good (F + 1)) (Rd.imp HR.out fun x hx e h => h.small (hsm x hx)) hkr (by simp))
      have HFIT := Lib.hid (fit_raw hsm HOK.out)
      have HQL : Hid ((nine ++ rawQ raw).length < 60) := Lib.hid (by have := rawQ_len raw hsm; rw [List.length_append, nine_len]; omega)
      have HLE := Lib.hid (show ∀ x ∈ raw, Lens x from fun x hx => (hsm x hx).lens)
      have HTW := Lib.hid (HTV.out.kept hkr (by simp))
      have HK0 := Lib.hid hkr
      clear hno hsm hkr HR3 HR HTV HOK
      obtain ⟨es, n1, n2, n3⟩ := HRW.out
      have hlen : (List.zipWith Op32.row raw es).length = raw.length := zip_len n1
      have N1 := Lib.hid n1
      have N2 := Lib.hid n2
      have N3 := Lib.hid n3
      have HLN := Lib.hid hlen
      clear n1 n2 n3 hlen
      go_upto_region 14 with (first
        | (go_at_call 8; refine Calls.mono (newTape _ lt _ (by exact HTW.out) (by intro y hy; have := HS0.out y hy; omega)) ?_; rintro e w1 ⟨rfl, hT, hk1⟩; have HTP := Lib.hid hT; have HK1 := Lib.hid hk1; have hs1 := hk1.size; have ht1 := hT.lt; clear hT hk1)
        | (go_at_call 14; refine Calls.mono (gen20 _ 0 _ (by exact HTP.out) (by omega)) ?_; rintro e w2 ⟨lV, gl, rfl, hgl, hgen, hgr, hk2⟩; have HGL := Lib.hid hgl; have HGEN := Lib.hid hgen; have HGR := Lib.hid hgr; have HK2 := Lib.hid (HK1.out.trans' hk2 (by simp)); have hs2 := hk2.size; clear hgl hgen hgr hk2))
      obtain ⟨ga, gn, gc, rfl⟩ : ∃ a n c, lV = .slice a n c := by obtain ⟨a, c, h, _⟩ := HGR.out.shape; exact ⟨a, _, c, h⟩
      obtain ⟨gs, y1, y2, y3⟩ := HGR.out
      have Y1 := Lib.hid y1
      have Y2 := Lib.hid y2
      have Y3 : Hid (∀ (k : Nat) (x : Op32) (e : Value), gl[k]? = some x → gs[k]? = some e → AR (F + 1) (fun y => w1.heap.size ≤ y ∧ (Value.slice ga gn gc).ownBlock ≠ some y) w2 e x) := Lib.hid (fun k x e hx he => by
        have := AR.ups F (y3 k x e hx he)
        rwa [Nat.add_comm] at this)
      have HGD : Hid (Rd (fun S w e (x : Op32) => AR (F + 1) S w e x) Op32.row 4 (fun y => w1.heap.size ≤ y ∧ y < w2.heap.size) w2 (.slice ga gn gc) gl) := Lib.hid (by
        refine ⟨gs, y1, y2.rows'.mono (fun y hy h => ⟨h, hy⟩), fun k x e hx he => (AR.good (F + 1)).mono (Y3.out k x e hx he) (fun y hy h => ⟨h.1, hy⟩)⟩)
      have HGLN : Hid ((List.zipWith Op32.row gl gs).length = 20) := Lib.hid (by rw [zip_len y1]; exact HGL.out)
      have HOB : Hid (∀ y, (Value.slice ga gn gc).ownBlock = some y → w1.heap.size ≤ y) := Lib.hid (fun y hy => (y2.lt y hy).1)
      have HFG := Lib.hid (fit_nine (raw := raw) HGEN.out)
      have HLG := Lib.hid (show ∀ x ∈ gl, Lens x from fun x hx => (HGEN.out x hx).lens)
      have hgl200 : gl.length ≤ 200 := by have := HGL.out; omega
      have hraw200 : raw.length ≤ 200 := by omega
      clear y1 y2 y3 HGR HGEN HTW HK1 HTP
      go_wp2_with (first
        | (have _h := HAP; go_at_call 15; refine Calls.mono (play (F + 1) tb (S := fun y => y < w7.heap.size) (nine ++ rawQ raw) _ (gl ++ raw) _ (by exact HAP.out) (by intro y hy; exact hy) (by exact HTB.out.kept0 (HK0.out.trans HK7.out)) (by have := (HK0.out.trans HK7.out).size; omega) HQL.out (by intro x hx; rcases List.mem_append.1 hx with hx | hx; exact HFG.out x hx; exact HFIT.out x hx) (by intro x hx; rcases List.mem_append.1 hx with hx | hx; exact HLG.out x hx; exact HLE.out x hx) (by rw [List.length_append]; have := HGL.out; omega)) ?_; rintro e w8 ⟨rfl, hk8⟩; have HK8 := Lib.hid (HK7.out.trans hk8); clear hk8)
        | (have _h := HK3; go_at_call 15; refine Calls.mono (play (F + 1) tb (S := S) (nine ++ rawQ raw) _ raw _ (by exact Rd.kept (AR.good (F + 1)) HRW.out HK3.out (by simp)) (by intro y hy; have := HS.out y hy; have := HK3.out.size; omega) (by exact HTB.out.kept0 (HK0.out.trans HK3.out)) (by have := (HK0.out.trans HK3.out).size; omega) HQL.out HFIT.out HLE.out hraw200) ?_; rintro e w5 ⟨rfl, hk5⟩; have HK5 := Lib.hid (HK3.out.trans hk5); have HK25 := Lib.hid (HK23.out.trans hk5); clear hk5)
        | (go_at_call 15; refine Calls.mono (play (F + 1) tb (S := fun y => w1.heap.size ≤ y ∧ y < w2.heap.size) (nine ++ rawQ raw) _ gl _ (by exact HGD.out) (by intro y hy; exact hy.2) (by exact HTB.out.kept0 (HK0.out.trans HK2.out)) (by have := (HK0.out.trans HK2.out).size; omega) HQL.out HFG.out HLG.out hgl200) ?_; rintro e w3 ⟨rfl, hk3⟩; have HK3 := Lib.hid (HK2.out.trans hk3); have HK23 := Lib.hid hk3; clear hk3)
        | (refine wpList_append_rows_g rfl (.tmp 79) (.tmp 80) 32 35 rfl ia za 4 64 Tryz.underlying32 hia hza0 hza1 hza2 hza3 (by decide) w1.heap.size (.slice ga gn gc) (List.zipWith Op32.row gl gs) (List.zipWith Op32.row raw es) rfl (Y2.out.kept HK25.out (by simp)) S (.slice ra raw.length rc) rfl (N2.out.kept HK5.out (by simp)) (by have := HGLN.out; have := HLN.out; omega) (by have := HGLN.out; have := HLN.out; omega) (by have := HK25.out.size; omega) ?_; intro v7 w7 ho7 hk7 _; have hk7' := hk7 (Value.slice ga gn gc).ownBlock.toList (by intro x hx; simp [hx]); have HK7 := Lib.hid (HK5.out.trans' hk7' (fun x hx => .inr (Nat.le_trans hs1 (HOB.out x (by simpa using hx))))); have HAP := Lib.hid (rd_append (d := F + 1) (S := fun y => w1.heap.size ≤ y ∧ (Value.slice ga gn gc).ownBlock ≠ some y) (S' := S) Y1.out N1.out (fun k x e hx he => (AR.good (F + 1)).kept (Y3.out k x e hx he) HK25.out (by simp)) (fun k x e hx he => (AR.good (F + 1)).kept (N3.out k x e hx he) HK5.out (by simp)) ho7 hk7' (fun y hy h => h.2 (by simpa using hy)) (fun y hy h => by have h1 := HOB.out y (by simpa using hy); have h2 := HS.out y h; omega)); clear ho7 hk7 hk7')
        | (go_at_call 12; refine Calls.mono (sane tb _ (by exact HTB.out.kept0 (HK0.out.trans HK8.out)) (by have := (HK0.out.trans HK8.out).size; omega)) ?_; rintro e w9 ⟨rfl, hk9⟩; have HK9 := Lib.hid (HK8.out.trans hk9); clear hk9))
      go_ret
      exact ⟨rfl, HK0.out.trans HK9.out⟩
end Go.Proofs.YtkldomkooleecaaGreatDoor
