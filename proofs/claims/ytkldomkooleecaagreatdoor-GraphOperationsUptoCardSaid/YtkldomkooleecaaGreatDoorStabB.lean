/- Walks: sort.SliceStable at a row of dependencies. -/
import Derived.Test.YtkldomkooleecaaGreatDoorMSym
namespace Go.Proofs.YtkldomkooleecaaGreatDoor
open Go.RowKit Go.Sort

noncomputable def svT : TypeInfo := (Tryz.prog.info? 33).get (by kernel_rfl)
noncomputable def svE : TypeInfo := (Tryz.prog.info? 45).get (by kernel_rfl)
theorem svT_info : Tryz.prog.info? 33 = some svT := by kernel_rfl
theorem svE_info : Tryz.prog.info? 45 = some svE := by kernel_rfl
theorem svK_many (n : Nat) (h2 : 2 ≤ n) : Lib.swapperK n svE 25 = 9 := by
  have a : (svE.hasPointers && svE.bytes == 8) = false := by kernel_rfl
  have b : svE.bytes = 104 := by kernel_rfl
  have a2 : svE.hasPointers = true := by kernel_rfl
  have c : (n == 0) = false := by simp; omega
  have d : (n == 1) = false := by simp; omega
  simp [Lib.swapperK, a2, b, c, d]

/-- From a on, runs of length s, each in order. -/
inductive Runs (s n : Nat) (d : Array El) : Nat → Prop
  | done {a : Nat} : n ≤ a → Runs s n d a
  | step {a : Nat} : SortedIn elLt a (min (a + s) n) d → Runs s n d (a + s) → Runs s n d a
/-- Below a, runs of length s, each in order. -/
inductive RunsTo (s : Nat) (d : Array El) : Nat → Prop
  | zero : RunsTo s d 0
  | step {a : Nat} : RunsTo s d a → SortedIn elLt a (a + s) d → RunsTo s d (a + s)
theorem Runs.all {s n : Nat} {d : Array El} {a : Nat} (h : RunsTo s d a) (ha : a ≤ n) (k : Runs s n d a) : Runs s n d 0 := by
  induction h with
  | zero => exact k
  | step h1 h2 ih => exact ih (by omega) (.step (by rw [Nat.min_eq_left ha]; exact h2) k)
theorem Runs.same {s n : Nat} {d e : Array El} {a : Nat} (h : Runs s n d a) (he : ∀ i, a ≤ i → e[i]! = d[i]!) : Runs s n e a := by
  induction h with
  | done h => exact .done h
  | step h1 h2 ih => exact .step (sorted_same h1 fun i i1 _ => he i i1) (ih fun i i1 => he i (by omega))
theorem RunsTo.same {s : Nat} {d e : Array El} {a : Nat} (h : RunsTo s d a) (he : ∀ i, i < a → e[i]! = d[i]!) : RunsTo s e a := by
  induction h with
  | zero => exact .zero
  | step h1 h2 ih => exact .step (ih fun i hi => he i (by omega)) (sorted_same h2 fun i _ hi => he i hi)
theorem Runs.inv {s n : Nat} {d : Array El} {a : Nat} (h : Runs s n d a) (ha : a < n) : SortedIn elLt a (min (a + s) n) d ∧ Runs s n d (a + s) := by
  cases h with
  | done h => omega
  | step h1 h2 => exact ⟨h1, h2⟩

section
variable {dd : Nat} {S : Nat → Prop} {g cap ob N : Nat}
theorem insSort' (sf : Nat) (sb : Array Value) (a b : Nat) (d : Array El) (w : World) (h : MAt dd S g cap ob N w d) (hne : ob ≠ g)
    (hswap : SwapSwapsK Tryz.prog sf sb El.enc 7 g 0 N) (hab : a ≤ b) (hb : b ≤ N) (hsz : N ≤ 100000) :
    Calls Tryz.prog 82 #[.agg #[.func (.func 44) #[] #[.pointer (some ⟨ob, 0, none⟩)], .func (.func sf) #[] sb], .int .i64 a, .int .i64 b] w fun e w' =>
      e = .returned (.tuple #[]) ∧ ∃ d', Mrgd dd S g cap ob N w w' a b d d' := by
  obtain ⟨h1, rfl, h3⟩ := h
  refine (insSort sf sb a b d w h1 h3 hne hswap hab hb hsz).mono ?_
  rintro e w' ⟨rfl, q1, q2⟩
  obtain ⟨p1, p2⟩ := insertionSort_holds elLt_swo d a b hab hb
  exact ⟨rfl, _, ⟨q1, p1.1, q2.cell' h3 (by simpa using hne)⟩, p1, p2, q2⟩

set_option maxHeartbeats 6400000 in
set_option maxRecDepth 100000 in
theorem stableAll (sf : Nat) (sb : Array Value) (d : Array El) (w : World) (h : MAt dd S g cap ob N w d) (hne : ob ≠ g) (hsw : SwapSwapsK Tryz.prog sf sb El.enc 7 g 0 N) (hN : N ≤ 100000) :
    Calls Tryz.prog 61 #[.agg #[.func (.func 44) #[] #[.pointer (some ⟨ob, 0, none⟩)], .func (.func sf) #[] sb], .int .i64 N] w fun e w' =>
      e = .returned (.tuple #[]) ∧ ∃ d', Mrgd dd S g cap ob N w w' 0 N d d' := by
  have HSW := Lib.hid hsw
  have HS0 := Lib.hid h
  have hlt := h.row.lt
  clear h hsw
  go_enter Tryz.func61, Tryz.ntmps61
  go_upto_region 1 with fail
  obtain ⟨wA, hwA⟩ : ∃ wA : World, wA = w.alloc (.cells #[.func (.func 44) #[] #[.pointer (some ⟨ob, 0, none⟩)], .func (.func sf) #[] sb] 117) := ⟨_, rfl⟩
  have hkA : Kept [] w wA := by rw [hwA]; exact (Kept.refl [] w).alloc _
  have HBA : Hid (Blk wA w.heap.size [.func (.func 44) #[] #[.pointer (some ⟨ob, 0, none⟩)], .func (.func sf) #[] sb] 117) := by rw [hwA]; exact Blk.new _ _ _
  rw [← hwA]
  clear hwA
  obtain ⟨A, hA⟩ : ∃ A, A = w.heap.size := ⟨_, rfl⟩
  rw [← hA] at HBA hlt ⊢
  clear hA
  have HSA := Lib.hid (HS0.out.kept hkA)
  clear HS0
  have hAg : A ∉ [g] := by simp; omega
  go_wp2
  go_loopw [5, 6] (fun va vb wr => ∃ (a : Nat) (dk : Array El), va = .int .i64 a ∧ vb = .int .i64 ((a : Int) + 20) ∧ a ≤ N ∧ Hid (MAt dd S g cap ob N wr dk) ∧ Hid (RunsTo 20 dk a) ∧ Hid (PermIn 0 N d dk) ∧ Kept [g] wA wr) (fun va _ _ => N - (intOf va).toNat)
  case atStart => exact ⟨0, d, by go_num, by go_num, Nat.zero_le _, HSA, .zero, permIn_refl _ _ _, Kept.refl _ _⟩
  case round =>
    obtain ⟨a, dk, rfl, rfl, haN, HM, HR, HP, hkr⟩ := hrel
    obtain ⟨wo, hwo⟩ : ∃ wo : World, wo = wr := ⟨_, rfl⟩
    subst hwo
    have hbA := HBA.out.kept hkr hAg
    have c0 := hbA.cell 0 _ rfl
    have c1 := hbA.cell 1 _ rfl
    clear hbA
    by_cases hle : a + 20 ≤ N
    · have hc := insSort' sf sb a (a + 20) dk wo HM.out hne HSW.out (by omega) hle hN
      rw [show ((a + 20 : Nat) : Int) = (a : Int) + 20 by omega] at hc
      have HC := Lib.hid hc
      clear hc
      have hle' : (a : Int) + 20 ≤ (N : Int) := by omega
      go_wp2_with (go_at_call 82; refine Calls.mono HC.out ?_; rintro e w' ⟨rfl, d', h1⟩; have H1 := Lib.hid h1; clear h1)
      go_roundw
      case rel =>
        refine ⟨a + 20, d', by go_num, by go_num, by omega, H1.out.at', .step (HR.out.same fun i hi => H1.out.perm.2.1 i (.inl hi)) H1.out.sorted, ?_, hkr.trans H1.out.kept⟩
        exact permIn_trans _ _ _ _ _ HP.out (permIn_mono _ _ a (a + 20) _ _ (Nat.zero_le _) hle (by rw [HM.out.size]; exact Nat.le_refl _) H1.out.perm)
      case measure => simp [intOf]; omega
    · have hc := insSort' sf sb a N dk wo HM.out hne HSW.out haN (Nat.le_refl _) hN
      have HC := Lib.hid hc
      clear hc
      have hle' : ¬ (a : Int) + 20 ≤ (N : Int) := by omega
      go_wp2_with (go_at_call 82; refine Calls.mono HC.out ?_; rintro e w' ⟨rfl, d', h1⟩; have H1 := Lib.hid h1; clear h1)
      have HR1 : Hid (Runs 20 N d' 0) := Lib.hid ((Runs.step (by rw [Nat.min_eq_right (by omega)]; exact H1.out.sorted) (.done (by omega))).all (HR.out.same fun i hi => H1.out.perm.2.1 i (.inl hi)) haN)
      have HP1 : Hid (PermIn 0 N d d') := Lib.hid (permIn_trans _ _ _ _ _ HP.out (permIn_mono _ _ a N _ _ (Nat.zero_le _) (Nat.le_refl _) (by rw [HM.out.size]; exact Nat.le_refl _) H1.out.perm))
      have HM1 := Lib.hid H1.out.at'
      have hk1 := hkr.trans H1.out.kept
      clear H1 HR HP HM HC c0 c1 hle hle' haN
      go_loopw [4] (fun vs wr => ∃ (s : Nat) (dk : Array El), vs = .int .i64 s ∧ 0 < s ∧ s ≤ 200000 ∧ Hid (MAt dd S g cap ob N wr dk) ∧ Hid (Runs s N dk 0) ∧ Hid (PermIn 0 N d dk) ∧ Kept [g] wA wr) (fun vs _ => N - (intOf vs).toNat)
      case atStart => exact ⟨20, d', by go_num, by omega, by omega, HM1, HR1, HP1, hk1⟩
      case round =>
        obtain ⟨s, ds, rfl, hs0, hsB, HMs, HRs, HPs, hks⟩ := hrel
        obtain ⟨w2, hw2⟩ : ∃ w2 : World, w2 = wr := ⟨_, rfl⟩
        subst hw2
        by_cases hsN : s < N
        · go_wp2
          go_loopw [5, 6] (fun va vb wr => ∃ (p : Nat) (dk : Array El), va = .int .i64 p ∧ vb = .int .i64 ((p : Int) + 2 * (s : Int)) ∧ p ≤ N ∧ Hid (MAt dd S g cap ob N wr dk) ∧ Hid (RunsTo (s + s) dk p) ∧ Hid (Runs s N dk p) ∧ Hid (PermIn 0 N d dk) ∧ Kept [g] wA wr) (fun va _ _ => N - (intOf va).toNat)
          case atStart => exact ⟨0, ds, by go_num, by go_num, Nat.zero_le _, HMs, .zero, HRs, HPs, hks⟩
          case round =>
            obtain ⟨p, dp, rfl, rfl, hpN, HMp, HTp, HRp, HPp, hkp⟩ := hrel
            obtain ⟨w3, hw3⟩ : ∃ w3 : World, w3 = wr := ⟨_, rfl⟩
            subst hw3
            have hbA := HBA.out.kept hkp hAg
            have c0 := hbA.cell 0 _ rfl
            have c1 := hbA.cell 1 _ rfl
            clear hbA
            by_cases hle : p + 2 * s ≤ N
            · have hle' : (p : Int) + 2 * (s : Int) ≤ (N : Int) := by omega
              obtain ⟨r1, r2⟩ := HRp.out.inv (by omega)
              obtain ⟨r3, r4⟩ := r2.inv (by omega)
              rw [Nat.min_eq_left (by omega)] at r1 r3
              have HR4 := Lib.hid r4
              have hc := symMerge sf sb hne HSW.out hN N p (p + s) (p + s + s) dp w3 (by omega) HMp.out (by omega) (by omega) (by omega) r1 r3
              rw [show ((p + s + s : Nat) : Int) = (p : Int) + 2 * (s : Int) by omega, show ((p + s : Nat) : Int) = (p : Int) + (s : Int) by omega] at hc
              have HC := Lib.hid hc
              clear hc r1 r2 r3 r4
              go_wp2_with (go_at_call 83; refine Calls.mono HC.out ?_; rintro e w' ⟨rfl, d9, h1⟩; have H1 := Lib.hid h1; clear h1)
              go_roundw
              case rel =>
                refine ⟨p + s + s, d9, by go_num, by go_num, by omega, H1.out.at', ?_, HR4.out.same fun i hi => H1.out.perm.2.1 i (.inr hi), ?_, hkp.trans H1.out.kept⟩
                · rw [show p + s + s = p + (s + s) by omega]
                  exact .step (HTp.out.same fun i hi => H1.out.perm.2.1 i (.inl hi)) (by rw [show p + (s + s) = p + s + s by omega]; exact H1.out.sorted)
                · exact permIn_trans _ _ _ _ _ HPp.out (permIn_mono _ _ p (p + s + s) _ _ (Nat.zero_le _) (by omega) (by rw [HMp.out.size]; exact Nat.le_refl _) H1.out.perm)
              case measure => simp [intOf]; omega
            · have hle' : ¬ (p : Int) + 2 * (s : Int) ≤ (N : Int) := by omega
              by_cases hm : p + s < N
              · have hm' : (p : Int) + (s : Int) < (N : Int) := by omega
                obtain ⟨r1, r2⟩ := HRp.out.inv (by omega)
                obtain ⟨r3, r4⟩ := r2.inv (by omega)
                rw [Nat.min_eq_left (by omega)] at r1
                rw [Nat.min_eq_right (by omega)] at r3
                have hc := symMerge sf sb hne HSW.out hN N p (p + s) N dp w3 (by omega) HMp.out (by omega) (by omega) (by omega) r1 r3
                rw [show ((p + s : Nat) : Int) = (p : Int) + (s : Int) by omega] at hc
                have HC := Lib.hid hc
                clear hc r1 r2 r3 r4
                go_wp2_with (go_at_call 83; refine Calls.mono HC.out ?_; rintro e w' ⟨rfl, d9, h1⟩; have H1 := Lib.hid h1; clear h1)
                go_roundw
                case rel =>
                  refine ⟨s + s, d9, by go_num, by omega, by omega, H1.out.at', ?_, ?_, hkp.trans H1.out.kept⟩
                  · exact (Runs.step (by rw [Nat.min_eq_right (by omega)]; exact H1.out.sorted) (.done (by omega))).all (HTp.out.same fun i hi => H1.out.perm.2.1 i (.inl hi)) hpN
                  · exact permIn_trans _ _ _ _ _ HPp.out (permIn_mono _ _ p N _ _ (Nat.zero_le _) (by omega) (by rw [HMp.out.size]; exact Nat.le_refl _) H1.out.perm)
                case measure => simp [intOf]; omega
              · have hm' : ¬ (p : Int) + (s : Int) < (N : Int) := by omega
                go_wp2
                go_roundw
                case rel =>
                  refine ⟨s + s, dp, by go_num, by omega, by omega, HMp, ?_, HPp, hkp⟩
                  refine Runs.all HTp.out hpN ?_
                  by_cases hpe : p = N
                  · exact .done (by omega)
                  · obtain ⟨r1, _⟩ := HRp.out.inv (by omega)
                    rw [Nat.min_eq_right (by omega)] at r1
                    exact .step (by rw [Nat.min_eq_right (by omega)]; exact r1) (.done (by omega))
                case measure => simp [intOf]; omega
        · go_wp2
          go_end0
          refine ⟨rfl, ds, HMs.out, HPs.out, ?_, hkA.nil.trans hks⟩
          by_cases h0 : N = 0
          · exact sorted_short (by omega)
          · obtain ⟨r1, _⟩ := HRs.out.inv (by omega)
            rw [Nat.min_eq_right (by omega)] at r1
            exact r1

set_option maxRecDepth 100000 in
set_option maxHeartbeats 1600000 in
theorem swapsRow (n : Nat) : SwapSwapsK Tryz.prog 81 #[.slice (some ⟨g, 0, none⟩) n cap, typeHandle Tryz.prog 45] El.enc 7 g 0 n :=
  swapSwapsK_of_literal false 81 (fun args W => run_callFunc_extern Tryz.func81 (by kernel_rfl) (by kernel_rfl) (by kernel_rfl) (e := Extern.ReflectliteSwapper.swap false) (by kernel_rfl) args W)
    45 svE svE_info El.enc 7 El.enc_len (by kernel_rfl) (fun _ => by kernel_rfl) El.enc_one g 0 n cap

set_option maxHeartbeats 1600000 in
set_option maxRecDepth 100000 in
/-- No more than one element: nothing turns. -/
theorem sliceStable_tiny (p : Option Addr) (n c : Nat) (hn : n ≤ 1) (lf : Fn) (la lb : Array Value) (w : World) :
    Calls Tryz.prog 43 #[.iface 33 (.slice p n c), .func lf la lb] w fun e w' => e = .returned (.tuple #[]) ∧ Kept [] w w' := by
  have hf : ∃ f, Tryz.prog.funcs.findIdx? (·.name == "internal/reflectlite" ++ ".Swapper$" ++ toString (Lib.swapperK n svE 25)) = some f := by
    match n, hn with
    | 0, _ => exact ⟨73, by kernel_rfl⟩
    | 1, _ => exact ⟨74, by kernel_rfl⟩
  obtain ⟨f, hf⟩ := hf
  have := Any.sort_SliceStable_tiny Tryz.laysGt8 33 45 svT svE svT_info (by kernel_rfl) (by kernel_rfl) svE_info 25 (fun _ => by kernel_rfl) p n c hn f hf lf la lb w
  refine Calls.mono this ?_
  rintro e w' ⟨rfl, os, rfl⟩
  exact ⟨rfl, rfl, rfl, rfl, by simp [grow], fun k hk _ => by simp [grow, Array.getElem?_append_left hk]⟩

set_option maxHeartbeats 1600000 in
set_option maxRecDepth 100000 in
theorem sliceStable (d : Array El) (w : World) (h : SR dd S w g cap d) (hob : w.cell? ⟨ob, 0, none⟩ = some (.slice (some ⟨g, 0, none⟩) d.size cap)) (hne : ob ≠ g) (hsz : d.size ≤ 100000) :
    Calls Tryz.prog 43 #[.iface 33 (.slice (some ⟨g, 0, none⟩) d.size cap), .func (.func 44) #[] #[.pointer (some ⟨ob, 0, none⟩)]] w fun e w' =>
      e = .returned (.tuple #[]) ∧ ∃ d', SR dd S w' g cap d' ∧ PermIn 0 d.size d d' ∧ SortedIn elLt 0 d.size d' ∧ Kept [g] w w' := by
  by_cases h1 : d.size ≤ 1
  · refine Calls.mono (sliceStable_tiny _ _ _ h1 _ _ _ w) ?_
    rintro e w' ⟨rfl, hk⟩
    exact ⟨rfl, d, h.kept hk (by simp) (by simp), permIn_refl _ _ _, sorted_short (by omega), hk.nil⟩
  · have h2 : 2 ≤ d.size := by omega
    have hB : sliceBound Tryz.prog 45 svE 25 (some ⟨g, 0, none⟩) d.size cap = #[.slice (some ⟨g, 0, none⟩) d.size cap, typeHandle Tryz.prog 45] := by
      unfold sliceBound; rw [if_neg (swapperK_gt _ _ _ h2)]
    refine Any.sort_SliceStable_of_stable Tryz.laysGt8 33 45 svT svE svT_info (by kernel_rfl) (by kernel_rfl) svE_info 25 (fun _ => by kernel_rfl) (some ⟨g, 0, none⟩) d.size cap (by omega) 81 (by rw [svK_many _ h2]; kernel_rfl) (.func 44) #[] #[.pointer (some ⟨ob, 0, none⟩)] w (fun w' => ∃ d', SR dd S w' g cap d' ∧ PermIn 0 d.size d d' ∧ SortedIn elLt 0 d.size d' ∧ Kept [g] w w') ?_
    rw [hB]
    have hk : Kept [] w (stableWorld Tryz.prog Tryz.laysGt8_ren 33 (some ⟨g, 0, none⟩) d.size cap w) := ((Kept.refl [] w).alloc _).alloc _
    refine Calls.mono (stableAll (dd := dd) (S := S) (g := g) (cap := cap) (ob := ob) 81 _ d _ ⟨h.kept hk (by simp) (by simp), rfl, hk.cell' hob (by simp)⟩ hne (swapsRow d.size) hsz) ?_
    rintro e w' ⟨rfl, d', q⟩
    exact ⟨rfl, d', q.at'.row, q.perm, q.sorted, hk.nil.trans q.kept⟩
end
end Go.Proofs.YtkldomkooleecaaGreatDoor
