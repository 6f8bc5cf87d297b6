/- Walks: sort.SliceStable at a row of fewer than 20 dependencies. -/
import Derived.Test.YtkldomkooleecaaGreatDoorStable
namespace Go.Proofs.YtkldomkooleecaaGreatDoor
open Go.RowKit Go.Sort

noncomputable def svT : TypeInfo := (Tryz.prog.info? 33).get (by kernel_rfl)
noncomputable def svE : TypeInfo := (Tryz.prog.info? 45).get (by kernel_rfl)
theorem svT_info : Tryz.prog.info? 33 = some svT := by kernel_rfl
theorem svE_info : Tryz.prog.info? 45 = some svE := by kernel_rfl
theorem svK_many (n : Nat) (h2 : 2 ≤ n) : Lib.swapperK n svE 25 = 9 := by
  have a : (svE.hasPointers && svE.bytes == 8) = false := by kernel_rfl
  have b : svE.bytes = 104 := by kernel_rfl
  have a2 : svE.hasPointers = true := by kernel_rfl
  have c : (n == 0) = false := by simp; omega
  have d : (n == 1) = false := by simp; omega
  simp [Lib.swapperK, a2, b, c, d]

section
variable {dd : Nat} {S : Nat → Prop} {g cap ob : Nat}
set_option maxHeartbeats 3200000 in
set_option maxRecDepth 100000 in
theorem stableSmall (sf : Nat) (sb : Array Value) (d : Array El) (w : World) (h : SR dd S w g cap d) (hob : w.cell? ⟨ob, 0, none⟩ = some (.slice (some ⟨g, 0, none⟩) d.size cap)) (hne : ob ≠ g)
    (hswap : SwapSwapsK Tryz.prog sf sb El.enc 7 g 0 d.size) (hsz : d.size < 20) :
    Calls Tryz.prog 61 #[.agg #[.func (.func 44) #[] #[.pointer (some ⟨ob, 0, none⟩)], .func (.func sf) #[] sb], .int .i64 d.size] w fun e w' =>
      e = .returned (.tuple #[]) ∧ SR dd S w' g cap (Sort.insertionSort elLt d 0 d.size) ∧ Kept [g] w w' := by
  have hkA : Kept [] w (w.alloc (.cells #[.func (.func 44) #[] #[.pointer (some ⟨ob, 0, none⟩)], .func (.func sf) #[] sb] 117)) := (Kept.refl [] w).alloc _
  have hc := insSort (dd := dd) (S := S) (g := g) (cap := cap) (ob := ob) sf sb 0 d.size d _ (h.kept hkA (by simp) (by simp)) (hkA.cell' hob (by simp)) hne hswap (Nat.zero_le _) (Nat.le_refl _) (by omega)
  have HC := Lib.hid hc
  have hlt20 : ¬ ((20 : Int) ≤ (d.size : Int)) := by omega
  have hlt20' : ¬ ((20 : Int) < (d.size : Int)) := by omega
  clear h hob hswap hc
  go_enter Tryz.func61, Tryz.ntmps61
  go_wp2
  refine wp_loop_rounds 1 ?_
  rw [rounds_succ]
  go_wp2_with (go_at_call 82; refine Calls.mono HC.out ?_; rintro e w1 ⟨rfl, h1, h2⟩; have H1 := Lib.hid h1; have H2 := Lib.hid h2; clear h1 h2)
  refine wp_loop_rounds 1 ?_
  rw [rounds_succ]
  go_wp2
  go_end0
  exact ⟨rfl, H1.out, hkA.nil.trans H2.out⟩

set_option maxRecDepth 100000 in
set_option maxHeartbeats 1600000 in
theorem swapsRow (n : Nat) : SwapSwapsK Tryz.prog 81 #[.slice (some ⟨g, 0, none⟩) n cap, typeHandle Tryz.prog 45] El.enc 7 g 0 n :=
  swapSwapsK_of_literal false 81 (fun args W => run_callFunc_extern Tryz.func81 (by kernel_rfl) (by kernel_rfl) (by kernel_rfl) (e := Extern.ReflectliteSwapper.swap false) (by kernel_rfl) args W)
    45 svE svE_info El.enc 7 El.enc_len (by kernel_rfl) (fun _ => by kernel_rfl) El.enc_one g 0 n cap

set_option maxHeartbeats 1600000 in
set_option maxRecDepth 100000 in
/-- No more than one element: nothing turns. -/
theorem sliceStable_tiny (p : Option Addr) (n c : Nat) (hn : n ≤ 1) (lf : Fn) (la lb : Array Value) (w : World) :
    Calls Tryz.prog 43 #[.iface 33 (.slice p n c), .func lf la lb] w fun e w' => e = .returned (.tuple #[]) ∧ Kept [] w w' := by
  have hf : ∃ f, Tryz.prog.funcs.findIdx? (·.name == "internal/reflectlite" ++ ".Swapper$" ++ toString (Lib.swapperK n svE 25)) = some f := by
    match n, hn with
    | 0, _ => exact ⟨73, by kernel_rfl⟩
    | 1, _ => exact ⟨74, by kernel_rfl⟩
  obtain ⟨f, hf⟩ := hf
  have := Any.sort_SliceStable_tiny Tryz.laysGt8 33 45 svT svE svT_info (by kernel_rfl) (by kernel_rfl) svE_info 25 (fun _ => by kernel_rfl) p n c hn f hf lf la lb w
  refine Calls.mono this ?_
  rintro e w' ⟨rfl, os, rfl⟩
  exact ⟨rfl, rfl, rfl, rfl, by simp [grow], fun k hk _ => by simp [grow, Array.getElem?_append_left hk]⟩

set_option maxHeartbeats 1600000 in
set_option maxRecDepth 100000 in
theorem sliceStable (d : Array El) (w : World) (h : SR dd S w g cap d) (hob : w.cell? ⟨ob, 0, none⟩ = some (.slice (some ⟨g, 0, none⟩) d.size cap)) (hne : ob ≠ g) (hsz : d.size < 20) :
    Calls Tryz.prog 43 #[.iface 33 (.slice (some ⟨g, 0, none⟩) d.size cap), .func (.func 44) #[] #[.pointer (some ⟨ob, 0, none⟩)]] w fun e w' =>
      e = .returned (.tuple #[]) ∧ SR dd S w' g cap (Sort.insertionSort elLt d 0 d.size) ∧ Kept [g] w w' := by
  by_cases h1 : d.size ≤ 1
  · refine Calls.mono (sliceStable_tiny _ _ _ h1 _ _ _ w) ?_
    rintro e w' ⟨rfl, hk⟩
    refine ⟨rfl, ?_, hk.nil⟩
    have e1 : Sort.insertionSort elLt d 0 d.size = d := by
      unfold Sort.insertionSort
      rw [insOuter_stop _ _ _ _ _ (by omega)]
    rw [e1]
    exact h.kept hk (by simp) (by simp)
  · have h2 : 2 ≤ d.size := by omega
    have hB : sliceBound Tryz.prog 45 svE 25 (some ⟨g, 0, none⟩) d.size cap = #[.slice (some ⟨g, 0, none⟩) d.size cap, typeHandle Tryz.prog 45] := by
      unfold sliceBound; rw [if_neg (swapperK_gt _ _ _ h2)]
    refine Any.sort_SliceStable_of_stable Tryz.laysGt8 33 45 svT svE svT_info (by kernel_rfl) (by kernel_rfl) svE_info 25 (fun _ => by kernel_rfl) (some ⟨g, 0, none⟩) d.size cap (by omega) 81 (by rw [svK_many _ h2]; kernel_rfl) (.func 44) #[] #[.pointer (some ⟨ob, 0, none⟩)] w (fun w' => SR dd S w' g cap (Sort.insertionSort elLt d 0 d.size) ∧ Kept [g] w w') ?_
    rw [hB]
    have hk : Kept [] w (stableWorld Tryz.prog Tryz.laysGt8_ren 33 (some ⟨g, 0, none⟩) d.size cap w) := ((Kept.refl [] w).alloc _).alloc _
    refine Calls.mono (stableSmall (dd := dd) (S := S) (g := g) (cap := cap) (ob := ob) 81 _ d _ (h.kept hk (by simp) (by simp)) (hk.cell' hob (by simp)) hne (swapsRow d.size) hsz) ?_
    rintro e w' ⟨rfl, q1, q2⟩
    exact ⟨rfl, q1, hk.nil.trans q2⟩
end
end Go.Proofs.YtkldomkooleecaaGreatDoor
