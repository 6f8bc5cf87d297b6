/- The laws GraphInverse and GraphByFunction: the walks. -/
import Derived.Test.YtkldomkooleecaaGreatDoorBuilt
import Derived.Test.YtkldomkooleecaaGreatDoorSane32
namespace Go.Proofs.YtkldomkooleecaaGreatDoor
open Go.RowKit Go.Maps Go.MapKept

set_option maxRecDepth 100000 in
/-- has: is it one of them? -/
theorem has_any {S : Nat → Prop} (v : Value) (l : List Int) (n : Int) (w : World) (h : Reads S w v 1 (irows l)) :
    Calls Tryz.prog 9 #[v, .int .i64 n] w fun e w' => e = .returned (.bool (decide (n ∈ l))) ∧ w = w' := by
  obtain ⟨a1, c1, rfl, h1, h2, h3⟩ := h.ints
  have H3 := Lib.hid h3
  clear h3 h
  go_enter Tryz.func9, Tryz.ntmps9
  go_wp2
  go_loop [5] (fun i => ∃ k : Nat, k ≤ l.length ∧ i = .int .i64 k ∧ Hid (n ∉ l.take k)) (fun i => l.length - (intOf i).toNat)
  case atStart => exact ⟨0, Nat.zero_le _, rfl, by simp [Hid]⟩
  case round =>
    obtain ⟨k, hk, rfl, hm⟩ := hrel
    by_cases hlt : k < l.length
    · have hne : l ≠ [] := by rintro rfl; simp at hlt
      obtain ⟨b1, o1, rfl, _, hb1, hc1⟩ := H3.out.resolve_left hne
      obtain ⟨x, hx⟩ := getx l k hlt
      have c1 := hc1 k x hx
      have HX := Lib.hid hx
      clear hc1 hx H3 hne
      go_wp2
      · go_ret
        have hxn : x = n := by have : (x == n) = true := by assumption
                               simpa using this
        refine ⟨congrArg (fun b => Ending.returned (Value.bool b)) ?_, rfl⟩
        subst hxn
        simp [List.mem_of_getElem? HX.out]
      · go_round
        case rel =>
          have hxn : x ≠ n := by have : (x == n) = false := by assumption
                                 simpa using this
          refine ⟨k + 1, by omega, by go_num, ?_⟩
          have := hm.out
          rw [Hid, List.take_add_one, HX.out]
          simp
          exact ⟨this, fun e => hxn e.symm⟩
        case measure => simp [intOf]; omega
    · go_wp2
      go_ret
      have hkl : k = l.length := by omega
      have hm' := hm.out
      rw [hkl, List.take_length] at hm'
      exact ⟨congrArg (fun b => Ending.returned (Value.bool b)) (by simp [hm']), rfl⟩

theorem inverse_law {d : Nat} {w : World} {b nb eb base last : Nat} {ns : List Nd} (h : GAt d w b nb eb base last ns) (hc : Closed ns) (α β : Int) : (β ∈ usesOf ns α ↔ α ∈ usedBy ns β) ∧ (β ∈ usesOf ns α → β < α) := by
  have key : ∀ {x : Nd}, nodeOf ns α = some x → (usesOf ns α = x.uses ∧ x ∈ ns ∧ x.num = α) := fun {x} hx => by
    obtain ⟨h1, h2⟩ := nodeOf_some hx
    exact ⟨by simp [usesOf, hx], h1, h2⟩
  refine ⟨⟨fun hu => ?_, fun hu => ?_⟩, fun hu => ?_⟩
  · cases hx : nodeOf ns α with
    | none => simp [usesOf, hx] at hu
    | some x =>
      obtain ⟨e1, h1, h2⟩ := key hx
      rw [e1] at hu
      refine List.mem_filter.2 ⟨List.mem_map.2 ⟨x, h1, h2⟩, ?_⟩
      unfold edgeB
      exact List.any_eq_true.2 ⟨x, h1, by simp [h2, hu]⟩
  · obtain ⟨_, he⟩ := List.mem_filter.1 hu
    unfold edgeB at he
    obtain ⟨x, h1, h2⟩ := List.any_eq_true.1 he
    simp at h2
    have := nodeOf_mem h.nums h1
    rw [h2.1] at this
    rw [(key this).1]
    exact h2.2
  · cases hx : nodeOf ns α with
    | none => simp [usesOf, hx] at hu
    | some x =>
      obtain ⟨e1, h1, h2⟩ := key hx
      rw [e1] at hu
      have := (hc x h1 β hu).1
      omega

set_option maxRecDepth 100000 in
set_option maxHeartbeats 1600000 in
theorem graphInverse {S : Nat → Prop} (v : Value) (l : List Int) (w : World) (h : Reads S w v 1 (irows l)) (hS : ∀ b, S b → b < w.heap.size) (hT : Tabs w.heap.size w) :
    Calls Tryz.prog 3 #[v] w fun e w' => e = .returned (.bool true) ∧ Kept [] w w' := by
  have HR := Lib.hid h
  have HTB := Lib.hid hT
  clear h hT
  go_enter Tryz.func3, Tryz.ntmps3
  go_upto_block 0 with (first
    | (go_at_call 8; refine Calls.mono (newTape _ l _ (by exact HR.out) (by exact hS)) ?_; rintro e w1 ⟨rfl, htp, hk1⟩; have HTP := Lib.hid htp; have HK1 := Lib.hid hk1; clear htp hk1)
    | (go_at_call 7; refine Calls.mono (built w.heap.size 0 _ (by exact HTP.out) (by decide)) ?_; rintro e w2 ⟨b, nb, eb, base, ns, rfl, hbt, hk2, _⟩; have HBT := Lib.hid hbt; have HK2 := Lib.hid hk2; clear hbt hk2))
  have HK : Hid (Kept [] w w2) := Lib.hid (HK1.out.trans' HK2.out (by simp))
  go_wp2_with fail
  go_loopw [5] (fun i wr => ∃ α : Int, 1 ≤ α ∧ α ≤ 17 ∧ i = .int .i64 α ∧ Kept [] w2 wr) (fun i _ => (17 - intOf i).toNat)
  case atStart => exact ⟨1, by omega, by omega, rfl, Kept.refl _ _⟩
  case round =>
    obtain ⟨α, ha1, ha2, rfl, hkw⟩ := hrel
    obtain ⟨wo, hwo⟩ : ∃ wo : World, wo = wr := ⟨_, rfl⟩
    subst hwo
    by_cases hlt : α ≤ 16
    · go_wp2_with fail
      go_loopw [6] (fun i wr => ∃ β : Int, 1 ≤ β ∧ β ≤ 17 ∧ i = .int .i64 β ∧ Kept [] w2 wr) (fun i _ => (17 - intOf i).toNat)
      case atStart => exact ⟨1, by omega, by omega, rfl, hkw⟩
      case round =>
        obtain ⟨β, hb1, hb2, rfl, hkr⟩ := hrel
        obtain ⟨wi, hwi⟩ : ∃ wi : World, wi = wr := ⟨_, rfl⟩
        subst hwi
        by_cases hltb : β ≤ 16
        · obtain ⟨xb, hx1, hx2, hx3⟩ : ∃ xb : Bool, decide (β ∈ usesOf ns α) = xb ∧ decide (α ∈ usedBy ns β) = xb ∧ (xb = true → β < α) := by
            have hl := inverse_law HBT.out.gat HBT.out.closed α β
            refine ⟨_, rfl, ?_, fun h => hl.2 (by simpa using h)⟩
            rw [decide_eq_decide]
            exact hl.1.symm
          have HG := Lib.hid (HBT.out.gat.kept0 hkr)
          have HX1 := Lib.hid hx1
          have HX2 := Lib.hid hx2
          have HX3 := Lib.hid hx3
          clear hx1 hx2 hx3
          go_upto_region 11 with (first
            | (go_at_call 10; refine Calls.mono (gUses 1 b nb eb base 16 ns α _ (by exact HG.out)) ?_; rintro e w3 ⟨v3, rfl, ho3, hk3⟩; have HO3 := Lib.hid ho3; have HG3 := Lib.hid (HG.out.kept0 hk3); have HK3 := Lib.hid hk3; clear ho3 hk3)
            | (go_at_call 11; refine Calls.mono (gDependents 1 b nb eb base 16 ns β _ (by exact HG3.out) (by have := HBT.out.len; omega)) ?_; rintro e w4 ⟨v4, rfl, ho4, hk4⟩; have HO4 := Lib.hid ho4; have HK4 := Lib.hid hk4; clear ho4 hk4)
            | (have _h := HO4; go_at_call 9; refine Calls.mono (has_any _ (usedBy ns β) α _ (by exact HO4.out.rows)) ?_; rintro e w5 ⟨rfl, rfl⟩; rw [HX2.out])
            | (go_at_call 9; refine Calls.mono (has_any _ (usesOf ns α) β _ (by exact HO3.out.rows)) ?_; rintro e w5 ⟨rfl, rfl⟩; rw [HX1.out]))
          have hkf : Kept [] w2 w4 := (hkr.trans HK3.out).trans HK4.out
          cases xb with
          | true =>
            have hba := HX3.out rfl
            go_wp2_with fail
            go_roundw
            case rel => exact ⟨β + 1, by omega, by omega, by go_num, hkf⟩
            case measure => simp [intOf]; omega
          | false =>
            go_wp2_with fail
            go_roundw
            case rel => exact ⟨β + 1, by omega, by omega, by go_num, hkf⟩
            case measure => simp [intOf]; omega
        · go_wp2_with fail
          go_roundw
          case rel => exact ⟨α + 1, by omega, by omega, by go_num, hkr⟩
          case measure => simp [intOf]; omega
    · have HKE := Lib.hid (HK.out.trans hkw)
      have hTE : Hid (Tabs w.heap.size wo) := Lib.hid (HTB.out.kept0 HKE.out)
      have hsz := HKE.out.size
      go_wp2_with (go_at_call 12; refine Calls.mono (sane w.heap.size _ (by exact hTE.out) (by exact hsz)) ?_; rintro e w6 ⟨rfl, hk6⟩)
      go_ret
      exact ⟨rfl, HKE.out.trans hk6⟩
end Go.Proofs.YtkldomkooleecaaGreatDoor
