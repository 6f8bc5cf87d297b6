/- A graph that is built up (tellaw32.built), and has. -/
import Derived.Test.YtkldomkooleecaaGreatDoorGen32B
namespace Go.Proofs.YtkldomkooleecaaGreatDoor
open Go.RowKit Go.Maps Go.MapKept

theorem gNewN (w : World) : Calls Tryz.prog 21 #[] w fun e w' => ∃ b nb eb : Nat, e = .returned (.pointer (some ⟨b, 0, none⟩)) ∧ GAt 1 w' b nb eb w'.heap.size 0 [] ∧ Kept [] w w' ∧ w.heap.size ≤ b ∧ w.heap.size ≤ nb ∧ w.heap.size ≤ eb := by
  refine (gNew 1 w).mono ?_
  rintro e w' ⟨rfl, h1, h2, h3⟩
  exact ⟨_, _, _, rfl, h1, h2, by omega, by omega, by omega⟩
theorem gen16 (b m : Nat) (w : World) (hT : Tp w b m) (hm : m ≤ 50000) :
    Calls Tryz.prog 14 #[.pointer (some ⟨b, 0, none⟩), .int .i64 16] w fun e w' => ∃ v' l, e = .returned v' ∧ l.length = 16 ∧ (∀ x ∈ l, GenA x) ∧ Rd (fun S w e (x : Op32) => AR 1 S w e x) Op32.row 4 (w.heap.size ≤ ·) w' v' l ∧ Kept [b] w w' := by
  refine (generated b m 16 w hT (by omega) (by omega)).mono ?_
  rintro e w' ⟨v, l, rfl, h1, h2, h3, _, h5⟩
  exact ⟨v, l, rfl, h1, h2, Gr.rd (AR.good 1) h3 (fun _ h => h), h5⟩

/-- What a graph that was built is. -/
structure Bt (w : World) (b nb eb base k : Nat) (ns : List Nd) : Prop where
  gat : GAt 1 w b nb eb base k ns
  closed : Closed ns
  nine : ∀ x ∈ ns, ∀ y ∈ x.deps, y ∈ nine
  full : ∀ i : Int, 1 ≤ i → i ≤ k → nodeOf ns i ≠ none
  len : ns.length = k
theorem nodeOf_app {ns : List Nd} (n : Int) (x : Nd) (h : nodeOf ns n ≠ none) : nodeOf (ns ++ [x]) n ≠ none := by
  unfold nodeOf at *
  rw [List.find?_append]
  cases hf : ns.find? (fun x => x.num == n) with
  | none => exact absurd hf h
  | some y => simp
theorem Bt.add {w w' : World} {b nb eb base k : Nat} {ns : List Nd} {x : Op32} {us : List Int} {dv uv : Value} {born : Nat} (h : Bt w b nb eb base k ns) (hx : GenA x) (hus : ∀ u ∈ us, 1 ≤ u ∧ u ≤ k)
    (hg : GAt 1 w' b nb eb base (k + 1) (ns ++ [⟨((k + 1 : Nat) : Int), x.deps, asc us, dv, uv, born⟩])) : Bt w' b nb eb base (k + 1) (ns ++ [⟨((k + 1 : Nat) : Int), x.deps, asc us, dv, uv, born⟩]) := by
  refine ⟨hg, fun y hy u hu => ?_, fun y hy => ?_, fun i h1 h2 => ?_, by simp [h.len]⟩
  · rcases List.mem_append.1 hy with hy | hy
    · exact ⟨(h.closed y hy u hu).1, nodeOf_app u _ (h.closed y hy u hu).2⟩
    · simp only [List.mem_singleton] at hy
      subst hy
      simp only at hu ⊢
      have hm := hus u ((asc_mem us u).1 hu)
      exact ⟨by omega, nodeOf_app u _ (h.full u hm.1 hm.2)⟩
  · rcases List.mem_append.1 hy with hy | hy
    · exact h.nine y hy
    · simp only [List.mem_singleton] at hy
      subst hy
      exact hx.1
  · by_cases hi : i ≤ k
    · exact nodeOf_app i _ (h.full i h1 hi)
    · unfold nodeOf
      intro e
      have := List.find?_eq_none.1 e ⟨((k + 1 : Nat) : Int), x.deps, asc us, dv, uv, born⟩ (by simp)
      simp at this
      omega
theorem addB {S S' : Nat → Prop} (b nb eb base k : Nat) (ns : List Nd) (vd vu : Value) (x : Op32) (us : List Int) (w : World) (h : Bt w b nb eb base k ns) (hd : DL 1 S w vd x.deps) (hu : Reads S' w vu 1 (irows us)) (hx : GenA x)
    (hS : ∀ x, S x → x ≠ b ∧ x ≠ nb ∧ x ≠ eb) (hS' : ∀ x, S' x → x ≠ b ∧ x ≠ nb ∧ x ≠ eb) (hk : k < 1000) (hul : us.length ≤ 1000) (hus : ∀ u ∈ us, 1 ≤ u ∧ u ≤ k) :
    Calls Tryz.prog 22 #[.pointer (some ⟨b, 0, none⟩), vd, vu] w fun e w' => e = .returned (.tuple #[.int .i64 ((k : Int) + 1), .int .i64 0]) ∧ (∃ ns', Bt w' b nb eb base (k + 1) ns') ∧ Kept [b, nb, eb] w w' := by
  refine (gAdd 1 b nb eb base k ns vd vu x.deps us w h.gat hd hu hS hS' (by omega) (by have := hx.2.1; omega) hul).mono ?_
  intro e w' ht
  cases ht with
  | no u hu hx k => exact absurd hx (h.full u (hus u hu).1 (hus u hu).2)
  | yes hu dv uv born hg hk => exact ⟨by simp, ⟨_, h.add hx hus hg⟩, hk⟩

set_option maxRecDepth 100000 in
set_option maxHeartbeats 1600000 in
theorem built (tb m : Nat) (w : World) (hT : Tp w tb m) (hm : m ≤ 50000) :
    Calls Tryz.prog 7 #[.pointer (some ⟨tb, 0, none⟩)] w fun e w' => ∃ b nb eb base ns, e = .returned (.tuple #[.pointer (some ⟨b, 0, none⟩), .int .i64 16]) ∧ Bt w' b nb eb base 16 ns ∧ Kept [tb] w w' ∧ w.heap.size ≤ base := by
  obtain ⟨ii, hii0, hii1, hii2, hii3⟩ := info_parts info_int'
  have htw := hT.lt
  have HT := Lib.hid hT
  clear hT
  go_enter Tryz.func7, Tryz.ntmps7
  go_upto_block 0 with (first
    | (go_at_call 21; refine Calls.mono (gNewN _) ?_; rintro e w1 ⟨b, nb, eb, rfl, hg, hk1, hb1, hb2, hb3⟩; have HG := Lib.hid hg; have HK1 := Lib.hid hk1; clear hg hk1)
    | (go_at_call 14; refine Calls.mono (gen16 tb m _ (HT.out.kept HK1.out (by simp)) (by exact hm)) ?_; rintro e w2 ⟨v2, l, rfl, hl, hga, hrd, hk2⟩; have HGA := Lib.hid hga; have HRD := Lib.hid hrd; have HK2 := Lib.hid hk2; have HL := Lib.hid hl; clear hga hrd hk2 hl))
  obtain ⟨a2, c2, rfl, g1, g2, H5⟩ := HRD.out.form
  obtain ⟨bl, off, rfl, hbl1, hbl2, hrow⟩ := H5.resolve_left (by intro h; have := HL.out; rw [h] at this; simp at this)
  have hl16 := HL.out
  rw [hl16] at g1 ⊢
  have HROW := Lib.hid hrow
  have hs1 := HK1.out.size
  have hs2 := HK2.out.size
  have hgl := HG.out.lt1
  have hgl2 := HG.out.lt2
  have hgl3 := HG.out.lt3
  have HBT : Hid (Bt w2 b nb eb w1.heap.size 0 []) := Lib.hid ⟨HG.out.kept HK2.out (by simp; omega), (by intro x hx; simp at hx), (by intro x hx; simp at hx), (by intro i h1 h2; simp at h2; omega), rfl⟩
  clear H5 hrow hl16 HRD
  go_wp2_with fail
  go_loopw [6, 7] (fun s i wr => ∃ (k : Nat) (ns : List Nd), k ≤ 16 ∧ s = .int .i64 k ∧ i = .int .i64 k ∧ Hid (Bt wr b nb eb w1.heap.size k ns) ∧ Kept [b, nb, eb] w2 wr) (fun _ i _ => 16 - (intOf i).toNat)
  case atStart => exact ⟨0, [], by omega, rfl, rfl, HBT, Kept.refl _ _⟩
  case round =>
    obtain ⟨k, ns, hk, rfl, rfl, hbt, hkw⟩ := hrel
    obtain ⟨wo, hwo⟩ : ∃ wo : World, wo = wr := ⟨_, rfl⟩
    subst hwo
    by_cases hlt : k < 16
    · have hlt' : (k : Int) < 16 := by omega
      obtain ⟨x, hx⟩ : ∃ x, l[k]? = some x := ⟨l[k]'(by rw [HL.out]; exact hlt), by simp⟩
      obtain ⟨e, hre, _, dv, uv, rfl, hdl, hul⟩ := HROW.out k x hx
      have hxg := HGA.out x (List.mem_of_getElem? hx)
      have hbn : bl ∉ [b, nb, eb] := by simp; omega
      have hre' := hkw.range hre hbn
      have HDL := Lib.hid ((DL.good 1).kept hdl hkw (by simp; omega))
      have HUL := Lib.hid (hul.kept hkw (by simp; omega))
      obtain ⟨da, dc, rfl, _⟩ := hdl.form
      obtain ⟨ua, uc, rfl, u1, u2, uor⟩ := HUL.out.ints
      have cd := hre' 2 _ rfl
      have cu := hre' 3 _ rfl
      simp only [vfst_pair, vsnd_pair] at cd cu
      have hxu := hxg.2.2.1
      have HXG := Lib.hid hxg
      have HBT := hbt
      have HKW := Lib.hid hkw
      have UOR := Lib.hid uor
      have hwsz := hkw.size
      clear hx hre hre' hdl hul hxg hbt hkw uor
      go_wp2_with fail
      go_loopw [8, 9] (fun v i wr => ∃ (q : Nat), q ≤ x.uses.length ∧ i = .int .i64 q ∧ Hid (Own wr wo.heap.size 3 1 v (irows ((x.uses.take q).filter fun u => decide (u ≤ (k : Int))))) ∧ Kept [] wo wr) (fun _ i _ => x.uses.length - (intOf i).toNat)
      case atStart => exact ⟨0, Nat.zero_le _, rfl, Own.nil _ _ _ _, Kept.refl _ _⟩
      case round =>
        obtain ⟨q, hq, rfl, ho, hkr⟩ := hrel
        obtain ⟨wi, hwi⟩ : ∃ wi : World, wi = wr := ⟨_, rfl⟩
        subst hwi
        have cu' := hkr.cell' cu List.not_mem_nil
        by_cases hqx : q < x.uses.length
        · obtain ⟨ub, uo, rfl, hub1, hub2, hur⟩ := UOR.out.resolve_left (by intro h; rw [h] at hqx; simp at hqx)
          obtain ⟨u, hu⟩ : ∃ u, x.uses[q]? = some u := ⟨x.uses[q], by simp⟩
          have cq := hkr.cell' (hur q u hu) List.not_mem_nil
          have hlen : (irows ((x.uses.take q).filter fun u => decide (u ≤ (k : Int)))).length ≤ q := by
            rw [irows_length]
            exact Nat.le_trans (List.length_filter_le _ _) (by simp; omega)
          have HF := Lib.hid (filter_snoc (fun u => decide (u ≤ (k : Int))) x.uses q u hu)
          have hrs := hkr.size
          by_cases huk : u ≤ k
          · obtain ⟨oa, on, oc, rfl⟩ : ∃ a n c, u8 = .slice a n c := (by obtain ⟨a, c, h, _⟩ := ho.out.shape; exact ⟨a, _, c, h⟩)
            have HO := ho
            clear ho hu hur
            go_wp2_with (first
              | (refine wpList_append1 (.tmp 43) (.tmp 51) 22 3 rfl rfl rfl rfl rfl ii (.int .i64 0) 1 8 Tryz.underlying22 hii0 hii1 hii2 hii3 rfl (by decide) (by decide) wo.heap.size _ _ (fun _ => rfl) (fun _ => rfl) [.int .i64 u] rfl rfl (by simp [Value.oneCell']) HO.out (by omega) (by omega) (by omega) ?_; intro v5 w10 ho5 hk5 hl5; have HO5 := Lib.hid ho5; have HK5 := Lib.hid hk5; clear ho5 hk5 hl5))
            go_roundw
            case rel =>
              refine ⟨q + 1, by omega, by go_num, ?_, ?_⟩
              · rw [HF.out, if_pos (by simpa using huk), irows_append]
                exact HO5.out
              · have := HO.out.lt
                exact hkr.trans' (HK5.out (Value.slice oa on oc).ownBlock.toList (fun y hy => by rw [hy]; simp)) (fun y hy => .inr (this y (by simpa using hy)).1)
            case measure => simp [intOf]; omega
          · have HO := ho
            clear ho hu hur
            go_wp2_with fail
            go_roundw
            case rel =>
              refine ⟨q + 1, by omega, by go_num, ?_, hkr⟩
              rw [HF.out, if_neg (by simpa using huk), List.append_nil]
              exact HO.out
            case measure => simp [intOf]; omega
        · have hqe : q = x.uses.length := by omega
          have hfin := ho.out
          rw [hqe, List.take_length] at hfin
          have cd' := hkr.cell' cd List.not_mem_nil
          have HFIN := Lib.hid hfin
          have HBT2 : Hid (Bt wi b nb eb w1.heap.size k ns) := Lib.hid { HBT.out with gat := HBT.out.gat.kept0 hkr }
          have HDL2 := Lib.hid ((DL.good 1).kept HDL.out hkr (by simp))
          have hrs := hkr.size
          clear hfin ho hqe
          go_upto_region 16 with (go_at_call 22; refine Calls.mono (addB b nb eb w1.heap.size k ns _ _ x (x.uses.filter fun u => decide (u ≤ (k : Int))) _ (by exact HBT2.out) (by exact HDL2.out) (by exact HFIN.out.rows') (by exact HXG.out) (by intro y hy; have hy : w1.heap.size ≤ y := hy; omega) (by intro y hy; have hy : wo.heap.size ≤ y := hy; omega) (by omega) (by have := List.length_filter_le (fun u => decide (u ≤ (k : Int))) x.uses; omega) (by intro u hu; rw [List.mem_filter] at hu; exact ⟨(HXG.out.2.2.2 u hu.1).1, by simpa using hu.2⟩)) ?_; rintro e w5 ⟨rfl, hns, hk5⟩; have HNS := Lib.hid hns; have HK5 := Lib.hid hk5; clear hns hk5)
          go_wp2_with fail
          go_roundw
          case rel =>
            obtain ⟨ns', hns'⟩ := HNS.out
            exact ⟨k + 1, ns', by omega, by go_num, by go_num, hns', (HKW.out.trans hkr.nil).trans HK5.out⟩
          case measure => simp [intOf]; omega
    · have hk16 : k = 16 := by omega
      subst hk16
      go_wp2
      go_ret2
      exact ⟨b, nb, eb, w1.heap.size, ns, rfl, hbt.out, (HK1.out.nil.trans HK2.out).trans' hkw (by simp; omega), hs1⟩
end Go.Proofs.YtkldomkooleecaaGreatDoor
