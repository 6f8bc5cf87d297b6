/- The law GraphByFunction: the walk. -/
import Derived.Test.YtkldomkooleecaaGreatDoorInv
namespace Go.Proofs.YtkldomkooleecaaGreatDoor
open Go.RowKit Go.Maps Go.MapKept

theorem byFn_law {d : Nat} {w : World} {b nb eb base last : Nat} {ns : List Nd} (_h : GAt d w b nb eb base last ns) (f : ByteArray) (α : Int) : decide (α ∈ byFn ns f) = (depsOf ns α).any (onFn f) := by
  have key : α ∈ byFn ns f ↔ (depsOf ns α).any (onFn f) = true := by
    unfold byFn
    rw [List.mem_filter]
    refine ⟨fun h => h.2, fun h => ⟨?_, h⟩⟩
    cases hx : nodeOf ns α with
    | none => simp [depsOf, hx] at h
    | some x =>
      obtain ⟨h1, h2⟩ := nodeOf_some hx
      exact List.mem_map.2 ⟨x, h1, h2⟩
  cases hb : (depsOf ns α).any (onFn f) with
  | true => simpa using key.2 hb
  | false =>
    have : ¬ α ∈ byFn ns f := fun h => by rw [key.1 h] at hb; cases hb
    simpa using this
theorem depsOf_lenG {d : Nat} {w : World} {b nb eb base last : Nat} {ns : List Nd} (h : GAt d w b nb eb base last ns) (α : Int) : (depsOf ns α).length ≤ 1000 := by
  unfold depsOf
  cases hx : nodeOf ns α with
  | none => simp
  | some x => exact (h.data x (nodeOf_some hx).1).2.2.1
def fl4 : List ByteArray := [⟨#[102]⟩, ⟨#[103]⟩, ⟨#[104]⟩, ⟨#[107]⟩]

set_option maxRecDepth 100000 in
set_option maxHeartbeats 1600000 in
theorem graphByFunction {S : Nat → Prop} (v : Value) (l : List Int) (w : World) (h : Reads S w v 1 (irows l)) (hS : ∀ b, S b → b < w.heap.size) (hT : Tabs w.heap.size w) :
    Calls Tryz.prog 6 #[v] w fun e w' => e = .returned (.bool true) ∧ Kept [] w w' := by
  have HR := Lib.hid h
  have HTB := Lib.hid hT
  clear h hT
  go_enter Tryz.func6, Tryz.ntmps6
  go_upto_block 0 with (first
    | (go_at_call 8; refine Calls.mono (newTape _ l _ (by exact HR.out) (by exact hS)) ?_; rintro e w1 ⟨rfl, htp, hk1⟩; have HTP := Lib.hid htp; have HK1 := Lib.hid hk1; clear htp hk1)
    | (go_at_call 7; refine Calls.mono (built w.heap.size 0 _ (by exact HTP.out) (by decide)) ?_; rintro e w2 ⟨b, nb, eb, base, ns, rfl, hbt, hk2, _⟩; have HBT := Lib.hid hbt; have HK2 := Lib.hid hk2; clear hbt hk2))
  obtain ⟨w3, hw3⟩ : ∃ w3 : World, w3 = w2.alloc (.cells #[.string ⟨#[102]⟩, .string ⟨#[103]⟩, .string ⟨#[104]⟩, .string ⟨#[107]⟩] 9) := ⟨_, rfl⟩
  obtain ⟨F, hF⟩ : ∃ F, F = w2.heap.size := ⟨_, rfl⟩
  have HF : Hid (Blk w3 F (fl4.map .string) 9) := Lib.hid (by rw [hw3, hF]; exact Blk.new w2 [.string ⟨#[102]⟩, .string ⟨#[103]⟩, .string ⟨#[104]⟩, .string ⟨#[107]⟩] _)
  have hk23 : Kept [] w2 w3 := by rw [hw3]; exact (Kept.refl [] w2).alloc _
  have HBT3 : Hid (Bt w3 b nb eb base 16 ns) := Lib.hid { HBT.out with gat := HBT.out.gat.kept0 hk23 }
  have HK : Hid (Kept [] w w3) := Lib.hid ((HK1.out.trans' HK2.out (by simp)).trans hk23)
  rw [← hw3, ← hF]
  clear hw3 hF hk23 HK1 HK2 HBT
  go_wp2_with fail
  go_loopw [6] (fun i wr => ∃ k : Nat, k ≤ 4 ∧ i = .int .i64 k ∧ Kept [] w3 wr) (fun i _ => 4 - (intOf i).toNat)
  case atStart => exact ⟨0, by omega, rfl, Kept.refl _ _⟩
  case round =>
    obtain ⟨k, hk4, rfl, hkw⟩ := hrel
    obtain ⟨wo, hwo⟩ : ∃ wo : World, wo = wr := ⟨_, rfl⟩
    subst hwo
    by_cases hlt : k < 4
    · have hlt' : (k : Int) < 4 := by omega
      obtain ⟨f, hf⟩ : ∃ f, fl4[k]? = some f := ⟨fl4[k]'(by simpa [fl4] using hlt), by simp⟩
      have HFC : Hid (∀ W, Kept [] w3 W → W.cell? ⟨F, k, none⟩ = some (.string f)) := Lib.hid (fun W hW => (HF.out.kept hW (by simp)).cell k _ (by simp [hf]))
      have cf := HFC.out wo hkw
      have HG := Lib.hid (HBT3.out.gat.kept0 hkw)
      clear hf
      go_upto_region 9 with (go_at_call 20; refine Calls.mono (gByFunction 1 b nb eb base 16 ns f _ (by exact HG.out) (by have := HBT3.out.len; omega)) ?_; rintro e w4 ⟨v4, rfl, ho4, hk4⟩; have HO4 := Lib.hid ho4; have HK4 := Lib.hid hk4; clear ho4 hk4)
      have hk34 : Kept [] w3 w4 := hkw.trans HK4.out
      go_wp2_with fail
      go_loopw [8] (fun i wr => ∃ α : Int, 1 ≤ α ∧ α ≤ 17 ∧ i = .int .i64 α ∧ Kept [] w4 wr) (fun i _ => (17 - intOf i).toNat)
      case atStart => exact ⟨1, by omega, by omega, rfl, Kept.refl _ _⟩
      case round =>
        obtain ⟨α, ha1, ha2, rfl, hkr⟩ := hrel
        obtain ⟨wi, hwi⟩ : ∃ wi : World, wi = wr := ⟨_, rfl⟩
        subst hwi
        by_cases hlta : α ≤ 16
        · have HGI := Lib.hid (HBT3.out.gat.kept0 (hk34.trans hkr))
          go_upto_region 14 with (go_at_call 16; refine Calls.mono (gOwnDeps 1 b nb eb base 16 ns α _ (by exact HGI.out)) ?_; rintro e w5 ⟨v5, rfl, ho5, hk5⟩; have HO5 := Lib.hid ho5; have HK5 := Lib.hid hk5; clear ho5 hk5)
          have hlaw := byFn_law HBT3.out.gat f α
          have hdl := depsOf_lenG HBT3.out.gat α
          have hrd : DL 1 (wi.heap.size ≤ ·) w5 v5 (depsOf ns α) := Gr.rd (DR.good 1) HO5.out (fun _ h => h)
          generalize depsOf ns α = ds at hlaw hdl hrd
          obtain ⟨a5, c5, rfl, q1, q2, q3⟩ := hrd.form
          have Q3 := Lib.hid q3
          have HLAW := Lib.hid hlaw
          have hk35 : Kept [] w3 w5 := (hk34.trans hkr).trans HK5.out
          clear hlaw hrd q3 HO5
          go_wp2_with fail
          go_loopw [9, 11] (fun x i wr => ∃ (q : Nat) (bb : Bool), q ≤ ds.length ∧ i = .int .i64 q ∧ x = .bool bb ∧ Hid ((ds.take q).any (onFn f) = bb) ∧ Kept [] w5 wr) (fun _ i _ => ds.length - (intOf i).toNat)
          case atStart => exact ⟨0, false, Nat.zero_le _, rfl, rfl, by simp [Hid], Kept.refl _ _⟩
          case round =>
            obtain ⟨q, bb, hq, rfl, rfl, hbb, hkq⟩ := hrel
            obtain ⟨wj, hwj⟩ : ∃ wj : World, wj = wr := ⟨_, rfl⟩
            subst hwj
            by_cases hlq : q < ds.length
            · have hnd : ds ≠ [] := by rintro rfl; simp at hlq
              obtain ⟨b2, o2, rfl, _, hb2, hc2⟩ := Q3.out.resolve_left hnd
              obtain ⟨y, hy⟩ := getp ds q hlq
              obtain ⟨qa, qc, ra, rc, hr, _, _, _⟩ := hc2 q y hy
              have c0 := (hkq.range hr (by simp)) 0 _ rfl
              have cf2 := HFC.out wj (hk35.trans hkq)
              have HS := Lib.hid (any_take_snoc (onFn f) ds q y hy)
              obtain ⟨xf, ⟨tk, tn, ti, ta⟩, xk, xl⟩ := y
              simp only [Nat.add_zero] at c0
              obtain ⟨eg, heg⟩ : ∃ eg, eg = (xf.toList == f.toList) := ⟨_, rfl⟩
              have hbe := heg.symm
              have HBE := Lib.hid hbe
              have HBB := hbb
              clear heg hc2 hr hnd Q3 hy cf hbb
              cases bb with
              | true =>
                go_wp2
                go_quiet (fail)
                go_wp2
                go_roundw
                case rel => exact ⟨q + 1, true, by omega, by go_num, rfl, by rw [Hid, HS.out, HBB.out]; rfl, hkq.drewN _⟩
                case measure => simp [intOf]; omega
              | false =>
                cases eg
                all_goals
                  go_wp2
                  go_quiet (fail)
                  go_wp2
                  go_roundw
                  case rel => exact ⟨q + 1, _, by omega, by go_num, rfl, by rw [Hid, HS.out, HBB.out]; exact HBE.out, hkq.drewN _⟩
                  case measure => simp [intOf]; omega
            · have hqe : q = ds.length := by omega
              have hfin := hbb.out
              rw [hqe, List.take_length] at hfin
              have HD : Hid (decide (α ∈ byFn ns f) = bb) := Lib.hid (HLAW.out.trans hfin)
              have HO := Lib.hid (((HO4.out.kept hkr (by simp)).kept HK5.out (by simp)).kept hkq (by simp)).rows
              have hkf : Kept [] w4 wj := (hkr.trans HK5.out).trans hkq
              clear hfin hqe hbb Q3
              go_upto_region 18 with fail
              go_wp2_with (go_at_call 9; refine Calls.mono (has_any _ (byFn ns f) α _ (by exact HO.out)) ?_; rintro e w6 ⟨rfl, rfl⟩; rw [HD.out]; cases bb)
              all_goals
                go_wp2_with fail
                go_roundw
                case rel => exact ⟨α + 1, by omega, by omega, by go_num, hkf⟩
                case measure => simp [intOf]; omega
        · go_wp2_with fail
          go_roundw
          case rel => exact ⟨k + 1, by omega, by go_num, hk34.trans hkr⟩
          case measure => simp [intOf]; omega
    · have HKE := Lib.hid (HK.out.trans hkw)
      have hTE : Hid (Tabs w.heap.size wo) := Lib.hid (HTB.out.kept0 HKE.out)
      have hsz := HKE.out.size
      have hk44 : k = 4 := by omega
      subst hk44
      go_wp2_with (go_at_call 12; refine Calls.mono (sane w.heap.size _ (by exact hTE.out) (by exact hsz)) ?_; rintro e w6 ⟨rfl, hk6⟩)
      go_ret
      exact ⟨rfl, HKE.out.trans hk6⟩
end Go.Proofs.YtkldomkooleecaaGreatDoor
