/- Walks over the reference graph: AllDeps. -/
import Derived.Test.YtkldomkooleecaaGreatDoorRMrg
import Derived.Test.YtkldomkooleecaaGreatDoorMCol
import Derived.Laws.MakeOwn
namespace Go.Proofs.YtkldomkooleecaaGreatDoor
open Go.RowKit

/-- All dependencies of the first k nodes. -/
def tableR (rs : List RN) : Nat → List (List Dp)
  | 0 => []
  | k + 1 => tableR rs k ++ [match rs[k]? with | some x => if x.there then mergeR (x.deps ++ (x.uses.map fun u => (tableR rs k).getD (u - 1).toNat []).flatten) else [] | none => []]
theorem tableR_len (rs : List RN) : ∀ k, (tableR rs k).length = k
  | 0 => rfl
  | k + 1 => by rw [tableR, List.length_append, tableR_len rs k]; rfl
def rowR (rs : List RN) (k : Nat) (x : RN) : List Dp := mergeR (x.deps ++ (x.uses.map fun u => (tableR rs k).getD (u - 1).toNat []).flatten)
theorem tableR_at {rs : List RN} {k : Nat} {x : RN} (h : rs[k]? = some x) (ht : x.there = true) : tableR rs (k + 1) = tableR rs k ++ [rowR rs k x] := by rw [tableR, h, rowR]; simp [ht]
theorem tableR_out {rs : List RN} {k : Nat} {x : RN} (h : rs[k]? = some x) (ht : x.there = false) : tableR rs (k + 1) = tableR rs k ++ [[]] := by rw [tableR, h]; simp [ht]
theorem getD_snoc_lt {l : List (List Dp)} {x : List Dp} {j : Nat} (h : j < l.length) : (l ++ [x]).getD j [] = l.getD j [] := by
  simp [List.getD, List.getElem?_append_left h]
theorem getD_snoc_at {l : List (List Dp)} {x : List Dp} : (l ++ [x]).getD l.length [] = x := by simp [List.getD]
theorem getD_snoc_gt {l : List (List Dp)} {x : List Dp} {j : Nat} (h : l.length < j) : (l ++ [x]).getD j [] = l.getD j [] := by
  simp only [List.getD, List.getElem?_append_right (Nat.le_of_lt h)]
  rw [List.getElem?_eq_none (by simp; omega), List.getElem?_eq_none (by omega)]
/-- All dependencies, as the reference has them. -/
def rAll (rs : List RN) (n : Int) : List Dp := match rAt rs n with | some _ => (tableR rs n.toNat).getD (n - 1).toNat [] | none => []
/-- Few different queries everywhere. -/
theorem tableR_cov {Q : List Dp} {rs : List RN} (h : ∀ x ∈ rs, ∀ y ∈ x.deps, Cov Q y) : ∀ (k : Nat), ∀ l ∈ tableR rs k, (∀ y ∈ l, Cov Q y) ∧ l.length ≤ Q.length
  | 0, l, hl => by simp [tableR] at hl
  | k + 1, l, hl => by
    have ih := tableR_cov h k
    rw [tableR] at hl
    rcases List.mem_append.1 hl with hl | hl
    · exact ih l hl
    · rw [List.mem_singleton] at hl
      cases hx : rs[k]? with
      | none => rw [hx] at hl; simp only at hl; subst hl; simp
      | some x =>
        rw [hx] at hl
        simp only at hl
        split at hl
        · have hc : ∀ y ∈ x.deps ++ (x.uses.map fun u => (tableR rs k).getD (u - 1).toNat []).flatten, Cov Q y := by
            intro y hy
            rcases List.mem_append.1 hy with hy | hy
            · exact h x (List.mem_of_getElem? hx) y hy
            · obtain ⟨m, hm, hy⟩ := List.mem_flatten.1 hy
              obtain ⟨u, _, rfl⟩ := List.mem_map.1 hm
              unfold List.getD at hy
              cases hg : (tableR rs k)[(u - 1).toNat]? with
              | none => rw [hg] at hy; simp at hy
              | some q => rw [hg] at hy; exact (ih q (List.mem_of_getElem? hg)).1 y hy
          rw [mergeR_is] at hl
          subst hl
          exact ⟨fun y hy => hc y (mergeD_sub _ y hy), by rw [mergeD_len]; exact uq_few hc⟩
        · subst hl; simp
theorem getD_len {Q : List Dp} {rs : List RN} (h : ∀ x ∈ rs, ∀ y ∈ x.deps, Cov Q y) (k j : Nat) : ((tableR rs k).getD j []).length ≤ Q.length := by
  unfold List.getD
  cases hg : (tableR rs k)[j]? with
  | none => simp
  | some q => exact (tableR_cov h k q (List.mem_of_getElem? hg)).2
theorem flat_len {rs : List RN} {Q : List Dp} (h : ∀ x ∈ rs, ∀ y ∈ x.deps, Cov Q y) (k : Nat) : ∀ (us : List Int), ((us.map fun u => (tableR rs k).getD (u - 1).toNat []).flatten).length ≤ us.length * Q.length
  | [] => by simp
  | u :: us => by
    have h1 := getD_len h k (u - 1).toNat
    have h2 := flat_len h k us
    simp only [List.map_cons, List.flatten_cons, List.length_append, List.length_cons, Nat.add_mul, Nat.one_mul]
    omega
theorem flat_snoc {β : Type} (f : Int → List β) (us : List Int) (k : Nat) (u : Int) (h : us[k]? = some u) : ((us.take (k + 1)).map f).flatten = ((us.take k).map f).flatten ++ f u := by
  rw [List.take_add_one, h]; simp
/-- Uses lead to smaller nodes. -/
def Low (rs : List RN) : Prop := ∀ (k : Nat) (x : RN), rs[k]? = some x → ∀ u ∈ x.uses, 1 ≤ u ∧ u ≤ k

/-- More at the end. -/
theorem Gr.append {β : Type} {Q : (Nat → Prop) → World → Value → β → Prop} {r : β → Value → List Value} {size : Nat} {t : TypeId} {S : Nat → Prop} {base : Nat} {w w2 : World} {v v' : Value} {l m : List β} {es fs : List Value} (hQ : Good Q) (h1 : es.length = l.length) (g1 : fs.length = m.length)
    (h3 : ∀ (k : Nat) (x : β) (e : Value), l[k]? = some x → es[k]? = some e → Q (fun y => S y ∧ v.ownBlock ≠ some y) w e x)
    (g3 : ∀ (k : Nat) (x : β) (e : Value), m[k]? = some x → fs[k]? = some e → Q (fun y => S y ∧ v.ownBlock ≠ some y) w e x)
    (ho : Own w2 base t size v' (List.zipWith r l es ++ List.zipWith r m fs)) (hk : ∀ M, (∀ x, v.ownBlock = some x → x ∈ M) → Kept M w w2) (hl : v'.ownBlock = v.ownBlock ∨ ∃ g, v'.ownBlock = some g ∧ w.heap.size ≤ g) : Gr Q r size t S base w2 v' (l ++ m) := by
  have key : ∀ e x, Q (fun y => S y ∧ v.ownBlock ≠ some y) w e x → Q (fun y => S y ∧ v'.ownBlock ≠ some y) w2 e x := by
    intro e x h
    have h' : Q (fun y => S y ∧ v.ownBlock ≠ some y ∧ v'.ownBlock ≠ some y) w e x := hQ.mono h fun y hy hq => ⟨hq.1, hq.2, by
      rcases hl with hl | ⟨g, hg, hge⟩
      · rw [hl]; exact hq.2
      · rw [hg]; intro e; cases e; omega⟩
    exact hQ.mono (hQ.kept h' (hk v.ownBlock.toList (fun x hx => by simp [hx])) (fun x hx hq => hq.2.1 (by simpa using hx))) fun x _ hq => ⟨hq.1, hq.2.2⟩
  refine ⟨es ++ fs, by simp [h1, g1], by rw [List.zipWith_append h1.symm]; exact ho, fun k x' e' hx' he' => ?_⟩
  rcases Nat.lt_or_ge k es.length with hlt | hge
  · rw [List.getElem?_append_left hlt] at he'
    rw [List.getElem?_append_left (by omega)] at hx'
    exact key _ _ (h3 k x' e' hx' he')
  · rw [List.getElem?_append_right hge] at he'
    rw [List.getElem?_append_right (by omega), ← h1] at hx'
    exact key _ _ (g3 _ x' e' hx' he')

set_option maxRecDepth 100000 in
theorem mk_all (m : Nat) (hm : m < 1000) (w : World) : (Instr.makeSlice 84 (.int .i64 ((m : Int) + 1)) (.int .i64 ((m : Int) + 1))).run Tryz.prog w = .ok (.slice (some ⟨w.heap.size, 0, none⟩) (m + 1) (m + 1)) (w.alloc (.cells (Array.replicate (m + 1) (Value.slice none 0 0)) 33)) := by
  obtain ⟨i, hi, hz, h1, h2⟩ := info_parts info_deps
  rw [run_makeSlice w 84 33 i (.slice none 0 0) Tryz.underlying84 hi hz .i64 .i64 ((m : Int) + 1) ((m : Int) + 1) (by omega) (Int.le_refl _) (by rw [h1]; omega) (by rw [h2]; omega) (by omega)]
  rw [h1, show ((m : Int) + 1).toNat = m + 1 by omega]
  congr 3
  apply Array.ext
  · simp [madeCells]
  · intro j q1 q2
    simp [madeCells, Value.cells, Nat.mod_one]

set_option maxRecDepth 100000 in
set_option maxHeartbeats 12800000 in
theorem rAllDeps {G : Nat → Prop} (d : Nat) (R base : Nat) (rs : List RN) (Q : List Dp) (n : Int) (w : World) (h : RG G d w R base rs) (hQ : Q.length < 60) (hcov : ∀ x ∈ rs, ∀ y ∈ x.deps, Cov Q y) (hlow : Low rs) :
    Calls Tryz.prog 55 #[.pointer (some ⟨R, 0, none⟩), .int .i64 n] w fun e w' => ∃ v', e = .returned v' ∧ DL d G w' v' (rAll rs n) ∧ Kept [] w w' := by
  have HG := Lib.hid h
  have HH := Lib.hid (rHas d R base rs n w h)
  have hfew := h.few
  have HCOV := Lib.hid hcov
  have HLOW := Lib.hid hlow
  clear h hcov hlow
  obtain ⟨i0, z0, hi, hz0, hz1, hz2, hz3⟩ := info_dep
  cases hat : rAt rs n with
  | none =>
    have HAT := Lib.hid hat
    clear hat
    go_enter Tryz.func55, Tryz.ntmps55
    go_wp2_with (go_at_call 50; refine HH.out.mono ?_; rintro e w1 ⟨rfl, rfl⟩; rw [HAT.out])
    go_ret
    exact ⟨_, rfl, by unfold rAll; rw [HAT.out]; exact DL.nil _ _ _, Kept.refl _ _⟩
  | some y =>
    obtain ⟨m, rfl, hmlt, _, _⟩ := rAt_some hat
    have HAT := Lib.hid hat
    have hmk := mk_all m (by omega)
    clear hat
    go_enter Tryz.func55, Tryz.ntmps55
    go_upto_region 4 with (go_at_call 50; refine HH.out.mono ?_; rintro e w1 ⟨rfl, rfl⟩; rw [HAT.out])
    obtain ⟨A, hA⟩ : ∃ A, A = w.heap.size := ⟨_, rfl⟩
    obtain ⟨wA, hwA⟩ : ∃ wA : World, wA = w.alloc (.cells (Array.replicate (m + 1) (Value.slice none 0 0)) 33) := ⟨_, rfl⟩
    have hkA : Kept [] w wA := by rw [hwA]; exact (Kept.refl [] w).alloc _
    have HBA : Hid (Blk wA A (List.replicate (m + 1) (Value.slice none 0 0)) 33) := by rw [hwA, hA]; have hq := Blk.new w (List.replicate (m + 1) (Value.slice none 0 0)) 33; rwa [List.toArray_replicate] at hq
    have hzA : A < wA.heap.size := HBA.out.lt
    rw [← hA, ← hwA]
    have HA := Lib.hid hA
    clear hA hwA hmk
    have HGA := Lib.hid (HG.out.kept0 hkA)
    have HNEW : Hid (∀ y, A ≤ y → G y) := Lib.hid fun y hy => HG.out.new y (by rw [← HA.out]; exact hy)
    have HRA : Hid (R < A) := Lib.hid (by have h1 := HG.out.lt; have h2 := HG.out.le; rw [HA.out]; omega)
    -- the graph, read outside of block A
    have HGX : Hid (∀ W, Kept [A] wA W → ∃ a c, rs.length ≤ c ∧ c ≤ 9223372036854775807 ∧ W.cell? ⟨R, 0, none⟩ = some (.slice a rs.length c) ∧ ∃ b1 o1, a = some ⟨b1, o1, none⟩ ∧ b1 < A ∧ ∀ (k : Nat) (x : RN), rs[k]? = some x → ∃ a1 c1 a2 c2, W.rangeAt b1 (o1 + k * 3) [.bool x.there, .slice a1 x.deps.length c1, .slice a2 x.uses.length c2] ∧ DL d (fun y => G y ∧ y < A) W (.slice a1 x.deps.length c1) x.deps ∧ Reads (fun y => G y ∧ y < A) W (.slice a2 x.uses.length c2) 1 (irows x.uses) ∧ x.deps.length ≤ 1000 ∧ x.uses.length ≤ 1000) := Lib.hid fun W hW => by
      have hWk : Kept [A] w W := hkA.nil.trans hW
      obtain ⟨a, c, g1, g2, e0, _, HR, _⟩ := HG.out.form
      have hne : rs ≠ [] := by rintro rfl; simp at hmlt
      obtain ⟨b1, o1, rfl, _, hb1, hc1⟩ := HR.out.node hne
      rw [← HA.out] at hb1
      refine ⟨_, c, g1, g2, hWk.cell' e0 (by have := HRA.out; simp; omega), b1, o1, rfl, hb1, fun k x hx => ?_⟩
      obtain ⟨a1, c1, a2, c2, hr, hd, hu, h1, h2⟩ := hc1 k x hx
      refine ⟨a1, c1, a2, c2, hWk.range hr (by simp; omega), (DL.good d).kept ((DL.good d).mono hd (fun b hb hg => ⟨hg, by rw [HA.out]; exact hb⟩)) hWk (by simp), (hu.mono (fun b hb hg => (⟨hg, by rw [HA.out]; exact hb⟩ : G b ∧ b < A))).kept hWk (by simp), h1, h2⟩
    clear HGA
    go_wp2
    go_loopw [6] (fun iv wr => ∃ (i : Nat) (vs : List Value), iv = .int .i64 i ∧ i ≤ m + 1 ∧ vs.length = m + 1 ∧ Hid (Blk wr A vs 33) ∧ Hid (∀ (j : Nat) (v : Value), vs[j]? = some v → DL d (fun y => G y ∧ y ≠ A) wr v ((tableR rs i).getD j [])) ∧ Kept [A] wA wr) (fun iv _ => m + 1 - (intOf iv).toNat)
    case atStart =>
      refine ⟨0, List.replicate (m + 1) (.slice none 0 0), by go_num, Nat.zero_le _, by simp, HBA, fun j v hv => ?_, Kept.refl _ _⟩
      obtain rfl : v = .slice none 0 0 := by
        rw [List.getElem?_replicate] at hv
        split at hv
        · exact (Option.some.inj hv).symm
        · cases hv
      exact DL.nil _ _ _
    case round =>
      obtain ⟨i, vs, rfl, him, hvl, HB, HE, hkr⟩ := hrel
      obtain ⟨wo, hwo⟩ : ∃ wo : World, wo = wr := ⟨_, rfl⟩
      subst hwo
      by_cases hlt : i < m + 1
      · have hil : i < rs.length := by omega
        obtain ⟨a, c, g1, g2, e0, b1, o1, rfl, hb1, hc1⟩ := HGX.out wo hkr
        obtain ⟨x, hx⟩ := getp rs i hil
        obtain ⟨a1, c1, a2, c2, hr, hd, hu, hl1, hl2⟩ := hc1 i x hx
        have u0 := hr 0 _ rfl
        rw [Nat.add_zero] at u0
        have HX := Lib.hid hx
        have hic : i < c := by omega
        have hzr := hkr.size
        have HD := Lib.hid hd
        have HR3 := Lib.hid hr
        have HU := Lib.hid hu
        clear hc1 hx hr hd hu
        cases hth : x.there with
        | false =>
          rw [hth] at u0
          have HT := Lib.hid (tableR_out HX.out hth)
          go_wp2
          go_roundw
          case rel =>
            refine ⟨i + 1, vs, by go_num, by omega, hvl, HB, fun j v hv => ?_, hkr⟩
            have h1 := HE.out j v hv
            rw [HT.out]
            have htl := tableR_len rs i
            rcases Nat.lt_trichotomy j i with q | q | q
            · rwa [getD_snoc_lt (by omega)]
            · have e1 : (tableR rs i).getD j [] = [] := by simp [List.getD, List.getElem?_eq_none (show (tableR rs i).length ≤ j by omega)]
              rw [e1] at h1
              rw [show j = (tableR rs i).length by omega, getD_snoc_at]
              exact h1
            · rwa [getD_snoc_gt (by omega)]
          case measure => simp [intOf]; omega
        | true =>
          rw [hth] at u0
          have u1 := HR3.out 1 _ rfl
          have u2 := HR3.out 2 _ rfl
          have HT := Lib.hid (tableR_at HX.out hth)
          obtain ⟨es, n1, n2, n3⟩ := HD.out
          have hlen : (List.zipWith Dp.row x.deps es).length = x.deps.length := zip_len n1
          have N1 := Lib.hid n1
          have N2 := Lib.hid n2
          have N3 := Lib.hid n3
          have HLN := Lib.hid hlen
          have hxm := List.mem_of_getElem? HX.out
          have HFL := Lib.hid (fun us => flat_len HCOV.out i us)
          have HUL : Hid (∀ (k : Nat) (u : Int), x.uses[k]? = some u → 1 ≤ u ∧ u ≤ i) := Lib.hid fun k u hu => HLOW.out i x HX.out u (List.mem_of_getElem? hu)
          have HTG := Lib.hid (show ∀ (k j : Nat), ((tableR rs k).getD j []).length ≤ Q.length from fun k j => getD_len HCOV.out k j)
          have hRw : R < wo.heap.size := by have := HRA.out; omega
          have hbw : b1 < wo.heap.size := by omega
          clear n1 n2 n3 hlen hxm
          go_upto_region 9 with (refine wpList_append_rows rfl (.tmp 29) (.tmp 37) 33 45 rfl i0 z0 7 104 Tryz.underlying33 hi hz0 hz1 hz2 hz3 (by decide) wo.heap.size (.slice (some ⟨wo.heap.size, 0, none⟩) 0 0) [] (List.zipWith Dp.row x.deps es) rfl (own_zeroN (halloc_new _ _ _ rfl) (Nat.le_refl _)) (fun y => G y ∧ y < A) (.slice a1 x.deps.length c1) rfl (by exact N2.out.kept (M := []) ((Kept.refl [] wo).alloc _) (by simp)) (by have := HLN.out; simp only [List.length_nil]; omega) (by have := HLN.out; simp only [List.length_nil]; omega) (by simp) ?_; intro v1 w1 ho1 hka _; have K1 : Kept [] wo w1 := ((Kept.refl [] wo).alloc _).trans' (hka [wo.heap.size] (by intro x hx; simp [Value.ownBlock] at hx; simp [hx.symm])) (by simp); have HO1 : Hid (Own w1 wo.heap.size 45 7 v1 (List.zipWith Dp.row x.deps es)) := Lib.hid ho1; have HK1 := Lib.hid K1; clear ho1 hka K1)
          obtain ⟨ova, ovn, ovc, rfl⟩ : ∃ a n c, v1 = .slice a n c := by obtain ⟨a, c, h, _⟩ := HO1.out.shape; exact ⟨a, _, c, h⟩
          obtain ⟨f, hf⟩ : ∃ f : Int → List Dp, f = fun u => (tableR rs i).getD (u - 1).toNat [] := ⟨_, rfl⟩
          have HFD := Lib.hid hf
          have HFN : Hid (∀ us : List Int, ((us.map f).flatten).length ≤ us.length * Q.length) := Lib.hid (by rw [hf]; exact HFL.out)
          have HFT : Hid (∀ (j : Nat), f ((j : Int) + 1) = (tableR rs i).getD j []) := Lib.hid (fun j => by rw [hf]; show (tableR rs i).getD ((j : Int) + 1 - 1).toNat [] = _; rw [show ((j : Int) + 1 - 1).toNat = j by omega])
          clear hf
          go_wp2_with fail
          go_loopw [7, 8] (fun ov qv wr => ∃ q : Nat, q ≤ x.uses.length ∧ qv = .int .i64 q ∧ Kept [] wo wr ∧ Hid (∃ es, es.length = (x.deps ++ ((x.uses.take q).map f).flatten).length ∧ Own wr wo.heap.size 45 7 ov (List.zipWith Dp.row (x.deps ++ ((x.uses.take q).map f).flatten) es) ∧ ∀ (j : Nat) (y : Dp) (e : Value), (x.deps ++ ((x.uses.take q).map f).flatten)[j]? = some y → es[j]? = some e → DR d (fun y => (G y ∧ y ≠ A) ∧ y < wo.heap.size) wo e y)) (fun _ qv _ => x.uses.length - (intOf qv).toNat)
          case atStart =>
            refine ⟨0, Nat.zero_le _, by go_num, HK1.out, es, by simpa using N1.out, by simpa using HO1.out, fun j y e hy he => ?_⟩
            rw [List.take_zero, List.map_nil, List.flatten_nil, List.append_nil] at hy
            exact (DR.good d).mono (N3.out j y e hy he) (fun z hz hq => ⟨⟨hq.1, by have := hq.2; omega⟩, hz⟩)
          case round =>
            obtain ⟨q, hq, rfl, hki, hes⟩ := hrel
            obtain ⟨wi, hwi⟩ : ∃ wi : World, wi = wr := ⟨_, rfl⟩
            subst hwi
            have hkA : Kept [A] wA wi := hkr.trans hki.nil
            obtain ⟨ga, gc, g1', g2', e0', b1', o1', hga, hb1', hc1'⟩ := HGX.out wi hkA
            obtain ⟨a1', c1', a2', c2', hr', _, hu', _, _⟩ := hc1' i x HX.out
            subst hga
            have u2' := hr' 2 _ rfl
            have hszi := hki.size
            have hic' : i < gc := by omega
            obtain ⟨ob, on, oc, rfl⟩ : ∃ a n c, u7 = .slice a n c := by
              obtain ⟨es', _, ho, _⟩ := hes.out
              obtain ⟨a, c, h, _⟩ := ho.shape
              exact ⟨a, _, c, h⟩
            by_cases hqx : q < x.uses.length
            · obtain ⟨a2q, c2q, hv2, hl2', _, hur⟩ := hu'.ints
              cases hv2
              obtain ⟨ub, uo, rfl, _, hub, hurow⟩ := hur.resolve_left (by intro h; rw [h] at hqx; simp at hqx)
              obtain ⟨u, hu⟩ : ∃ u, x.uses[q]? = some u := ⟨x.uses[q], by simp⟩
              have hcu := hurow q u hu
              obtain ⟨hu1, hu2⟩ := HUL.out q u hu
              obtain ⟨j, rfl⟩ : ∃ j : Nat, u = (j : Int) + 1 := ⟨(u - 1).toNat, by omega⟩
              have hjm : j < m + 1 := by omega
              obtain ⟨vj, hvj⟩ : ∃ vj, vs[j]? = some vj := ⟨vs[j]'(by omega), by simp⟩
              have hdj := HE.out j vj hvj
              have cA := (HB.out.kept hki (by simp)).cell j vj hvj
              have hAi : A < wi.heap.size := (HB.out.kept hki (by simp)).lt
              obtain ⟨fs, k1, k2, k3⟩ := hdj
              obtain ⟨ja, jc, rfl, _⟩ : ∃ a c, vj = .slice a ((tableR rs i).getD j []).length c ∧ True := by
                obtain ⟨a, c, h, _⟩ := DL.form (d := d) (S := fun y => G y ∧ y ≠ A) (w := wo) ⟨fs, k1, k2, k3⟩
                exact ⟨a, c, h, trivial⟩
              have hwj : IntKind.i64.wrap ((j : Int) + 1 - 1) = (j : Int) := by rw [show (j : Int) + 1 - 1 = (j : Int) by omega]; exact IntWalk.i64_in _ (by omega)
              have hlj := HTG.out i j
              obtain ⟨es2, l1, l2, l3⟩ := hes.out
              have hL1 : (List.zipWith Dp.row (x.deps ++ ((x.uses.take q).map f).flatten) es2).length ≤ 61000 := by
                rw [zip_len l1, List.length_append]
                have h1 := HFN.out (x.uses.take q)
                have h2 : (x.uses.take q).length * Q.length ≤ 1000 * 60 := Nat.mul_le_mul (by simp; omega) (by omega)
                omega
              have hL2 : (List.zipWith Dp.row ((tableR rs i).getD j []) fs).length ≤ 60 := by rw [zip_len k1]; omega
              have HST := Lib.hid (show ((x.uses.take (q + 1)).map f).flatten = ((x.uses.take q).map f).flatten ++ (tableR rs i).getD j [] by rw [flat_snoc f x.uses q _ hu, HFT.out j])
              have L1 := Lib.hid l1
              have L2 := Lib.hid l2
              have L3 := Lib.hid l3
              have K1' := Lib.hid k1
              have K2' := Lib.hid (k2.kept hki (by simp))
              have K3' := Lib.hid k3
              have HL1 := Lib.hid hL1
              have HL2 := Lib.hid hL2
              clear hc1' hr' hu' hurow hur hvj hu k1 k2 k3 l1 l2 l3 hL1 hL2 hes hu1 hu2 hlj
              have hS2 : (List.zipWith Dp.row (x.deps ++ ((x.uses.take q).map f).flatten) es2).length + (List.zipWith Dp.row ((tableR rs i).getD j []) fs).length ≤ 61060 := by have := HL1.out; have := HL2.out; omega
              have HS2 := Lib.hid hS2
              clear hS2
              go_wp2_with (refine wpList_append_rows rfl (.tmp 52) (.tmp 67) 33 45 rfl i0 z0 7 104 Tryz.underlying33 hi hz0 hz1 hz2 hz3 (by decide) wo.heap.size (.slice ob on oc) (List.zipWith Dp.row (x.deps ++ ((x.uses.take q).map f).flatten) es2) (List.zipWith Dp.row ((tableR rs i).getD j []) fs) rfl L2.out (fun y => G y ∧ y ≠ A) (.slice ja ((tableR rs i).getD j []).length jc) rfl (by exact K2'.out) (by have := HS2.out; omega) (by have := HS2.out; omega) (by exact hszi) ?_; intro v5 w5 ho5 hk5 hl5; have HO5 := Lib.hid ho5; have HK5 := Lib.hid hk5; clear ho5 hk5 hl5)
              go_roundw
              case rel =>
                have hlt := L2.out.lt
                have hk6 : Kept [] wo w5 := hki.trans' (HK5.out (Value.slice ob on oc).ownBlock.toList (by intro y hy; simp [hy])) (fun y hy => .inr (hlt y (by simpa using hy)).1)
                refine ⟨q + 1, by omega, by go_num, hk6, es2 ++ fs, ?_, ?_, fun jj y e hy he => ?_⟩
                · rw [HST.out, ← List.append_assoc, List.length_append, List.length_append, L1.out, K1'.out]
                · rw [HST.out, ← List.append_assoc, List.zipWith_append L1.out.symm]
                  exact HO5.out
                · rw [HST.out, ← List.append_assoc] at hy
                  rcases Nat.lt_or_ge jj es2.length with hlt' | hge'
                  · rw [List.getElem?_append_left hlt'] at he
                    rw [List.getElem?_append_left (by have := L1.out; omega)] at hy
                    exact L3.out jj y e hy he
                  · rw [List.getElem?_append_right hge'] at he
                    rw [List.getElem?_append_right (by have := L1.out; omega), ← L1.out] at hy
                    exact (DR.good d).mono (K3'.out _ y e hy he) (fun z hz hq => ⟨hq, hz⟩)
              case measure => simp [intOf]; omega
            · have hfin := hes.out
              rw [show q = x.uses.length by omega, List.take_length] at hfin
              obtain ⟨es2, l1, l2, l3⟩ := hfin
              have hAwo : A < wo.heap.size := by have := HB.out.lt; omega
              have hDL : DL d (fun y => G y ∧ y ≠ A) wi (.slice ob on oc) (x.deps ++ (x.uses.map f).flatten) := by
                refine ⟨es2, l1, l2.rows'.mono (fun y _ hy => ⟨HNEW.out y (by omega), by omega⟩), fun jj y e hy he => ?_⟩
                exact (DR.good d).mono ((DR.good d).kept (l3 jj y e hy he) hki (by simp)) (fun z _ hq => hq.1)
              have hLL : (x.deps ++ (x.uses.map f).flatten).length ≤ 100000 := by
                rw [List.length_append]
                have h1 := HFN.out x.uses
                have h2 : x.uses.length * Q.length ≤ 1000 * 60 := Nat.mul_le_mul (by omega) (by omega)
                omega
              have HMG := Lib.hid (refMerge d _ _ wi hDL hLL)
              have HRW : Hid (tableR rs (i + 1) = tableR rs i ++ [mergeR (x.deps ++ (x.uses.map f).flatten)]) := Lib.hid (by rw [HT.out, HFD.out]; rfl)
              have hBi := HB.out.kept hki (by simp)
              have HBI := Lib.hid hBi
              have hAi : A < wi.heap.size := hBi.lt
              have him1 : i < m + 1 := hlt
              clear hes l1 l2 l3 hDL hLL hc1' hr' hu' hBi
              go_wp2_with (go_at_call 68; refine Calls.mono HMG.out ?_; rintro e w3 ⟨v3, rfl, hd3, hk3⟩; obtain ⟨va, vc, rfl, _⟩ := hd3.form; have HD3 := Lib.hid hd3; have HK3 := Lib.hid hk3; have HB3 := Lib.hid (HBI.out.kept hk3 (by simp)); have f3 := HB3.out.frozen i; have c3 := HB3.out.cell i (vs[i]'(by omega)) (by simp); have hA3 : A < w3.heap.size := HB3.out.lt; clear hd3 hk3)
              go_roundw
              case rel =>
                have hk3 := HK3.out
                have hkS : Kept [A] w3 (w3.setCell ⟨A, i, none⟩ (.slice va (mergeR (x.deps ++ (x.uses.map f).flatten)).length vc)) := (Kept.refl [A] w3).setCell (by simp) _
                have htl := tableR_len rs i
                refine ⟨i + 1, vs.set i (.slice va (mergeR (x.deps ++ (x.uses.map f).flatten)).length vc), by go_num, by omega, by rw [List.length_set]; exact hvl, HB3.out.set i _, fun jj v hv => ?_, ((hkr.trans hki.nil).trans hk3.nil).trans hkS⟩
                rw [HRW.out]
                rw [List.getElem?_set] at hv
                by_cases hij : i = jj
                · rw [if_pos hij, if_pos (by omega)] at hv
                  cases hv
                  subst hij
                  have := getD_snoc_at (l := tableR rs i) (x := mergeR (x.deps ++ (x.uses.map f).flatten))
                  rw [htl] at this
                  rw [this]
                  exact (DL.good d).kept ((DL.good d).mono HD3.out (fun y hy hq => hq.elim id fun hq => ⟨HNEW.out y (by omega), by omega⟩)) hkS (by simp)
                · rw [if_neg hij] at hv
                  have h1 := (DL.good d).kept ((DL.good d).kept ((DL.good d).kept (HE.out jj v hv) hki (by simp)) hk3 (by simp)) hkS (by simp)
                  rcases Nat.lt_trichotomy jj i with q' | q' | q'
                  · rwa [getD_snoc_lt (by omega)]
                  · exact absurd q'.symm hij
                  · rwa [getD_snoc_gt (by omega)]
              case measure => simp [intOf]; omega
      · have hie : i = m + 1 := by omega
        subst hie
        obtain ⟨vm, hvm⟩ : ∃ vm, vs[m]? = some vm := ⟨vs[m]'(by omega), by simp⟩
        have cm := HB.out.cell m vm hvm
        have hdm := HE.out m vm hvm
        obtain ⟨ma, mc, rfl, _⟩ := hdm.form
        have HDM := Lib.hid hdm
        have hwm : IntKind.i64.wrap ((m : Int) + 1 - 1) = (m : Int) := by rw [show (m : Int) + 1 - 1 = (m : Int) by omega]; exact IntWalk.i64_in _ (by omega)
        clear hdm hvm
        go_wp2
        go_ret
        refine ⟨_, rfl, ?_, hkA.trans' hkr (fun y hy => .inr (by simp at hy; rw [hy, HA.out]; exact Nat.le_refl _))⟩
        unfold rAll
        rw [HAT.out]
        simp only
        rw [show ((m : Int) + 1).toNat = m + 1 by omega, show ((m : Int) + 1 - 1).toNat = m by omega]
        exact (DL.good d).mono HDM.out (fun y _ hq => hq.1)
end Go.Proofs.YtkldomkooleecaaGreatDoor
