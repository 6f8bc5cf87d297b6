/- The card of the law telpher/tellaw32.GraphOperations in its second form: it returns true for every list of numbers and every list of operations, and its arguments read afterwards as they read before. Conditions: the arguments are together of bulk at most 1048576; the ten listed variables of Go's library lie as the program's text lays them (the card ties them). -/
import Derived.Test.YtkldomkooleecaaGreatDoorGOpsW
import Derived.Test.YtkldomkooleecaaGreatDoorLaid
import Derived.Test.YtkldomkooleecaaGreatDoorTie
import Derived.Test.YtkldomkooleecaaGreatDoorCards
import Derived.ProofKit
import Derived.OpenShut
import Derived.ShutString
import Derived.ChangeOld
import Derived.LaidMore
import Derived.Lay
import Derived.SevenTiedAt
import Derived.Stop.Joined
import Derived.Below
import Derived.Deep.DeepHandedRow
namespace Go.Proofs.YtkldomkooleecaaGreatDoor.graphOperationsDone
open Go.ChangeShapes Go.WideShapes Go.ChangeAt Go.RowKit
set_option linter.unusedVariables false

theorem own : ownKnob Tryz.prog.godebug = none := by kernel_rfl
theorem laidOut : laidOutB Tryz.prog = true := by kernel_rfl

set_option maxRecDepth 100000 in
theorem lifted (os : Os) (started : os.Started) (H : Type) (enc : TypeId × Value → H) (F : Stop.Interp) :
    ReturnsInHanded {} Tryz.checked os 4 .any ((Rows.OpenSpec.upto Rows.graphOperationsSpec).preRow enc Tryz.prog Tryz.f4 Rows.graphOperationsUptoRow.domain false Rows.graphOperationsUptoRow.laid)
      (((Rows.OpenSpec.upto Rows.graphOperationsSpec).at F).post enc Tryz.prog Tryz.f4 false true false false) := by
  have hsh : ((World.laidAll Tryz.prog os Rows.graphOperationsUptoRow.laid).forCall (fun _ _ => 0) ⟨#[], #[.slice none 0 0, .slice none 0 0], []⟩).Shaped Tryz.prog := World.shaped_of_ZipB (by kernel_rfl) (by kernel_rfl)
  have hokB : Input.okWideB Tryz.prog ((World.laidAll Tryz.prog os Rows.graphOperationsUptoRow.laid).forCall (fun _ _ => 0) ⟨#[], #[.slice none 0 0, .slice none 0 0], []⟩) 4 ⟨#[], #[.slice none 0 0, .slice none 0 0], []⟩ = true := by kernel_rfl
  have hx : DataW.whole enc Tryz.prog ((World.laidAll Tryz.prog os Rows.graphOperationsUptoRow.laid).forCall (fun _ _ => 0) ⟨#[], #[.slice none 0 0, .slice none 0 0], []⟩).memory Tryz.f4.params.toList Rows.graphOperationsSpec.vars false #[Value.slice none 0 0, .slice none 0 0].toList 8 = some ([.nil, .nil], [], []) := by kernel_rfl
  have hlaid : laidMetH Tryz.prog Rows.graphOperationsUptoRow.laid ((World.laidAll Tryz.prog os Rows.graphOperationsUptoRow.laid).forCall (fun _ _ => 0) ⟨#[], #[.slice none 0 0, .slice none 0 0], []⟩).memory := by
    rw [MakeChecks.laidMetH_plain _ _ _ (by kernel_rfl)]
    exact laidMet_laidAll _ (by kernel_rfl) (by kernel_rfl)
  refine returnsInHanded_of_row (C := Tryz.checked) (s := Rows.OpenSpec.upto Rows.graphOperationsSpec) own started (by kernel_rfl) Tryz.func4
    ⟨World.laidAll Tryz.prog os Rows.graphOperationsUptoRow.laid, fun _ _ => 0, ⟨#[], #[.slice none 0 0, .slice none 0 0], []⟩, World.laidAll_os _ _ _, hsh, (Input.okWide_of_okWideB (base := 0) hokB).1, (Input.okWide_of_okWideB hokB).2,
      OpenSpec.preRow_of_cond 8 hx (by kernel_rfl) (fun k hk => by cases hk; kernel_rfl) (by kernel_rfl) hlaid, by
        simp only [Assume.holds]
        exact ⟨by simp, by simp, fun h => (by cases h), by simp, by simp⟩⟩ ?_
  intro W base args ds gs before hval0 hW hc hcond _ hL _ _
  have hbulk : Rows.uptoBulkAll (ds ++ gs) ≤ 1048576 := of_decide_eq_true (hcond _ rfl)
  have hval : ∀ (j : Nat) t v, Tryz.f4.params[j]? = some t → args[j]? = some v → Value.okWide Tryz.prog W .any base t v := hval0
  have hW' := hW
  obtain ⟨p, q, hA0, hV, rfl, hfz, hnd⟩ := hW
  have hA : DataW.TrodAll enc Tryz.prog W 0 (fun _ => true) true Tryz.f4.params.toList args.toList ds p := hA0
  rw [Tryz.params4] at hA hval
  obtain ⟨v0, vs0, d0, ds0, p0, q0, hargs, rfl, rfl, h0, r0⟩ := trodAll_cons hA
  obtain ⟨v1, vs1, d1, ds1, p1, q1, rfl, rfl, rfl, h1, r1⟩ := trodAll_cons r0
  obtain ⟨rfl, rfl, rfl⟩ := trodAll_nil r1
  obtain rfl : args = #[v0, v1] := by cases args; simp_all
  obtain ⟨rfl, rfl⟩ := trodVars_none hV
  obtain ⟨a0, len0, cap0, rfl⟩ := okWide_slice Tryz.underlying22 (hval 0 22 v0 rfl rfl)
  obtain ⟨a1, len1, cap1, rfl⟩ := okWide_slice Tryz.underlying32 (hval 1 32 v1 rfl rfl)
  have k0 := h0
  have k1 := h1
  have lt0 : ∀ x ∈ p0, x.block < W.heap.size := by obtain ⟨m, hm⟩ := k0; exact DataW.trod_lt m _ _ _ hm
  have lt1 : ∀ x ∈ p1, x.block < W.heap.size := by obtain ⟨m, hm⟩ := k1; exact DataW.trod_lt m _ _ _ hm
  obtain ⟨z0, w0⟩ : ∃ l, Reads (· < W.heap.size) W (.slice a0 len0 cap0) 1 (irows l) := by
    obtain ⟨fuel, hf⟩ := h0
    obtain ⟨v, l, e, _, hr⟩ := open_irows hf
    simp [Value.cells] at e
    subst e
    exact ⟨l, hr⟩
  have hb1 : Rows.uptoBulk d1 ≤ 1048576 := by
    simp only [List.append_nil, Rows.uptoBulkAll] at hbulk
    omega
  obtain ⟨z1, n1, w1, ok1⟩ : ∃ l n, Rd (fun S w e (x : Op32) => AU n S w e x) Op32.row 4 (· < W.heap.size) W (.slice a1 len1 cap1) l ∧ ∀ x ∈ l, ∀ y ∈ x.deps, DOk 1048576 y := by
    obtain ⟨fuel, hf⟩ := h1
    obtain ⟨v, l, e, _, n, hr, ho⟩ := open_acts (B := 1048576) hb1 hf
    simp [Value.cells] at e
    subst e
    exact ⟨l, n, hr, ho⟩
  clear hA0 hval0
  simp only [List.append_nil] at hW'
  have hT := tabs_of (show laidMet Tryz.prog Rows.graphOperationsUptoRow.laid W by rw [← MakeChecks.laidMetH_plain _ _ _ (by kernel_rfl)]; exact hL)
  refine (graphOps n1 W.heap.size _ _ z0 z1 W w0 (fun _ h => h) w1 (fun _ h => h) ok1 hT (Nat.le_refl _)).mono fun e W' ⟨he, hk⟩ => ?_
  subst he
  have bel : Below W.heap.size W W' := hk.below (Nat.le_refl _) (by simp)
  exact ⟨_, rfl, _, _, _, [], _, [], hW', trodAll_mk1 (shut_bool Tryz.underlying4 _), (trodAll_cons_mk (Below.trod laidOut (by kernel_rfl) (of_decide_eq_true (by kernel_rfl)) k0 bel lt0) (trodAll_cons_mk (Below.trod laidOut (by kernel_rfl) (of_decide_eq_true (by kernel_rfl)) k1 bel lt1) trodAll_mk0)), rfl, bel.frame _, fun h => by cases h⟩

theorem over : Rows.GraphOperationsUptoSaid :=
  OpenClaim.holds_of_cond 4 Tryz.f4 rfl rfl rfl rfl rfl rfl rfl ⟨rfl, rfl, rfl, rfl, rfl⟩ rfl rfl rfl rfl rfl (by kernel_rfl) Tryz.func4 (by kernel_rfl)
    (of_decide_eq_true (by kernel_rfl)) (by unfold Func.isWrapper; first | (rw [if_pos (by decide +kernel)]; kernel_rfl) | (rw [if_neg (by decide +kernel)]; exact ⟨rfl, rfl⟩))
    (fun os started H enc _ F => by rw [OpenClaim.pre_eq_preRow]; exact lifted os started H enc F)

theorem proved : Rows.GraphOperationsUptoCardSaid :=
  Claim7.holds_tied_plain_at .later [] [.data, .data, .data, .data, .pinned, .pinned, .pinned, .pinned, .pinned, .pinned] true (true, "59d51fcfc020d719ef1e0ef372ba8dd1786b11923f34005568a6b6b9657fb0cf") false over (fun _ h => by cases h) (by kernel_rfl) (fun _ h => by cases h) graphOperationsUpto_row_tie rfl ⟨rfl, rfl⟩ (by kernel_rfl) rfl
    (fun f fn hf hfn => by
      obtain rfl : f = 4 := Option.some.inj ((show Tryz.prog.funcNamed "telpher/tellaw32.GraphOperations" = some 4 by kernel_rfl).symm.trans hf) |>.symm
      obtain rfl : fn = Tryz.f4 := (Option.some.inj (Tryz.func4.symm.trans hfn)).symm
      exact ⟨by kernel_rfl, fun j t ht => by
        rw [Tryz.params4] at ht
        have hm : t ∈ [22, 32] := by simpa using Array.mem_of_getElem? ht
        have hall : ([22, 32].all fun u => !Tryz.prog.wantsStandIn u) = true := by kernel_rfl
        exact (show Tryz.prog.wantsStandIn t = false by simpa using List.all_eq_true.1 hall t hm)⟩)
    (by kernel_rfl)
#print axioms proved
end Go.Proofs.YtkldomkooleecaaGreatDoor.graphOperationsDone
