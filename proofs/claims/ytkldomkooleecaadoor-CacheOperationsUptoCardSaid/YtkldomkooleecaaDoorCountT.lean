/- Walks over the cache: CountCall of any type. -/
import Derived.Test.YtkldomkooleecaaDoorMapE
import Derived.Test.YtkldomkooleecaaDoorCache
import Derived.Test.YtkldomkooleecaaDoorKeyInj
import Derived.Deep.RegionHeld3
namespace Go.Proofs.YtkldomkooleecaaDoor
open Go.RowKit Go.Maps Go.MapKept

/-- What CountCall leaves of the map. -/
inductive Counted (w w' : World) (mb : Nat) (es : List MapEntry) (n : Nat) (k : Value) : Ending → Prop
  | old (i : Nat) (y : MapEntry) (c : Int) (hi : es[i]? = some y) (hk : y.key = k) (hv : y.val = .int .i64 c) (hm : IsMap CallKey w' mb (es.set i { y with val := .int .i64 (c + 1) }) n) (kp : Kept [mb] w w') : Counted w w' mb es n k (.returned (.int .i64 (c + 1)))
  | new (hno : ∀ y ∈ es, y.key ≠ k) (hm : IsMap CallKey w' mb (es ++ [({ key := k, val := .int .i64 1, born := n } : MapEntry)]) (n + 1)) (kp : Kept [mb] w w') : Counted w w' mb es n k (.returned (.int .i64 1))

set_option maxRecDepth 100000 in
set_option maxHeartbeats 6400000 in
theorem cacheCount {F : Nat → Prop} {S : Nat → Prop} (d b base tb : Nat) (cap last : Int) (mb n : Nat) (l : List Cp) (es : List MapEntry) (m : Int) (gk : Int) (gn : ByteArray) (gi : Int) (ga : List Ty) (a0 : Option Addr) (c0 : Nat) (w : World)
    (h : Cch F d w b base cap last (.map (some mb)) l) (hm : IsMap CallKey w mb es n) (hmb : mb ≠ b) (hT : Tabs tb w) (hg : TR d S w (.slice a0 ga.length c0) ga) (hok : tyOk (.mk gk gn gi ga)) (hW : tyW (.mk gk gn gi ga) ≤ 140737488355328)
    (hv : ∀ y ∈ es, ∃ c : Int, y.val = .int .i64 c ∧ 0 ≤ c ∧ c ≤ 100000) :
    Calls Tryd.prog 26 #[.pointer (some ⟨b, 0, none⟩), .int .i64 m, .agg #[.int .i64 gk, .string gn, .int .i64 gi, .slice a0 ga.length c0]] w fun e w' => Counted w w' mb es n (callK m (keyOf (.mk gk gn gi ga))) e := by
  obtain ⟨va, vc, g1, g2, g3, g4, g5, g6, e0, e1, e2, e3, hb, hcg, h5⟩ := h.form
  have hbl := hb.lt
  have hmbl := hm.lt
  have HM := Lib.hid hm
  obtain ⟨ks, hks⟩ : ∃ ks, ks = keyOf (.mk gk gn gi ga) := ⟨_, rfl⟩
  rw [← hks]
  have HTK : Hid (∀ W, Kept [] w W → Calls Tryd.prog 46 #[.agg #[.int .i64 gk, .string gn, .int .i64 gi, .slice a0 ga.length c0]] W fun q w' => q = .returned (.string ks) ∧ Kept [] W w') := Lib.hid (fun W hk => by
    rw [hks]
    exact typeKey d tb (.mk gk gn gi ga) (.slice a0 ga.length c0) W (hT.kept0 hk) ((TR.good d).kept hg hk (by simp)) hok hW)
  have key : ∃ (es1 : List MapEntry) (n1 i1 : Nat) (e1 : MapEntry) (c : Int), es1[i1]? = some e1 ∧ e1.key = callK m ks ∧ e1.val = .int .i64 c ∧ 0 ≤ c ∧ c ≤ 100000 ∧
      (∀ X : World, IsMap CallKey X mb es n → (Instr.lookup 62 (.map (some mb)) (callK m ks) false).run Tryd.prog X = .ok (.int .i64 c) X ∧
        (Instr.mapEntry 62 (.map (some mb)) (callK m ks)).run Tryd.prog X = .ok (.tuple #[.int .i64 c, goInt e1.born]) (setO X mb (.map es1.toArray n1)) ∧ IsMap CallKey (setO X mb (.map es1.toArray n1)) mb es1 n1) ∧
      (∀ w' : World, IsMap CallKey w' mb (es1.set i1 { e1 with val := .int .i64 (c + 1) }) n1 → Kept [mb] w w' → Counted w w' mb es n (callK m ks) (.returned (.int .i64 (c + 1)))) := by
    by_cases hex : ∃ (i : Nat) (y : MapEntry), es[i]? = some y ∧ y.key = callK m ks
    · obtain ⟨i, y, hi, hk⟩ := hex
      obtain ⟨c, hvy, hc0, hc1⟩ := hv y (List.mem_of_getElem? hi)
      refine ⟨es, n, i, y, c, hi, hk, hvy, hc0, hc1, fun X hm => ⟨?_, ?_, hm.same⟩, fun w' hm' hkp => .old i y c hi hk hvy hm' hkp⟩
      · have := hm.lookup_some key_call Tryd.underlying62 (List.mem_of_getElem? hi) false
        rw [hk, hvy] at this
        simpa using this
      · have := hm.entry_old key_call Tryd.underlying62 hi
        rw [hk, hvy] at this
        exact this
    · have hno : ∀ y ∈ es, y.key ≠ callK m ks := fun y hy hk => by
        obtain ⟨i, hi⟩ := List.mem_iff_getElem?.1 hy
        exact hex ⟨i, y, hi, hk⟩
      refine ⟨es ++ [({ key := callK m ks, val := .int .i64 0, born := n } : MapEntry)], n + 1, es.length, { key := callK m ks, val := .int .i64 0, born := n }, 0, by simp, rfl, rfl, by decide, by decide, fun X hm => ⟨?_, ?_, hm.snoc ⟨m, ks, rfl⟩ hno⟩, fun w' hm' hkp => ?_⟩
      · have := hm.lookup_none key_call Tryd.underlying62 (zeroI X) (x := callK m ks) ⟨m, ks, rfl⟩ hno false
        simpa using this
      · exact hm.entry_new key_call Tryd.underlying62 zeroI ⟨m, ks, rfl⟩ hno
      · rw [List.set_append_right _ _ (Nat.le_refl _), Nat.sub_self] at hm'
        exact .new hno hm' hkp
  obtain ⟨es1, n1, i1, y1, c, hi1, hk1', hv1, hc0, hc1, hX0, hfin⟩ := key
  have HX0 := Lib.hid hX0
  have HFIN := Lib.hid hfin
  have HI1 := Lib.hid hi1
  have HK1' := Lib.hid hk1'
  have HV1 := Lib.hid hv1
  clear h hb hcg h5 e0 e1 e2 g5 g6 hm hT hg hv g1 g2 hks hX0 hfin hi1 hk1' hv1 hok hW
  go_enter Tryd.func26, Tryd.ntmps26
  go_upto_region 2 with (go_at_call 46; refine Calls.mono (HTK.out _ (by exact (Kept.refl [] w).alloc _)) ?_; rintro e w1 ⟨rfl, hk1⟩; have hk1 := ((Kept.refl [] w).alloc (.cells #[.int .i64 gk, .string gn, .int .i64 gi, .slice a0 ga.length c0] 31)).trans hk1; have e3 := hk1.cell' e3 (by simp); have HM1 := Lib.hid (HM.out.kept hk1 (by simp)); have hbl1 : b < w1.heap.size := Nat.lt_of_lt_of_le hbl hk1.size)
  obtain ⟨W2, hW2⟩ : ∃ W2 : World, W2 = w1.alloc (.cells (List.toArray [.int .i64 m, .string ks]) 82) := ⟨_, rfl⟩
  obtain ⟨A, hA⟩ : ∃ A, A = w1.heap.size := ⟨_, rfl⟩
  have HA2 : Hid (Blk W2 A [.int .i64 m, .string ks] 82) := by rw [hW2, hA]; exact Blk.new w1 _ _
  have hk2 : Kept [] w1 W2 := by rw [hW2]; exact (Kept.refl [] w1).alloc _
  rw [← hW2, ← hA]
  have e3 := hk2.cell' e3 (by simp)
  have HMW := Lib.hid (HM1.out.kept hk2 (by simp))
  have HK2 := Lib.hid (hk1.trans hk2)
  have hbA : b < A := by omega
  have hmA : mb < A := by have := hk1.size; omega
  have hAW : A < W2.heap.size := HA2.out.lt
  have k0 := HA2.out.cell 0 _ rfl
  have k1 := HA2.out.cell 1 _ rfl
  clear hW2 hA hk1 hk2 HM HM1 hbl1 HTK
  have hkX : Kept [] W2 W2.drew := (Kept.refl [] W2).drew
  obtain ⟨hlk, hen, hm1⟩ := HX0.out W2.drew (HMW.out.kept hkX (by simp))
  obtain ⟨O1, hO1⟩ : ∃ O1, O1 = Obj.map es1.toArray n1 := ⟨_, rfl⟩
  obtain ⟨O2, hO2⟩ : ∃ O2, O2 = Obj.map (es1.set i1 { y1 with val := .int .i64 (c + 1) }).toArray n1 := ⟨_, rfl⟩
  obtain ⟨bn, hbn⟩ : ∃ bn : Int, goInt y1.born = .int .i64 bn := ⟨_, rfl⟩
  rw [← hO1] at hen hm1
  rw [hbn] at hen
  have hlk3 : (Instr.lookup 62 (.map (some mb)) (callK m ks) false).run Tryd.prog (setO W2.drew mb O1) = .ok (.int .i64 c) (setO W2.drew mb O1) := by
    have := hm1.lookup_some key_call Tryd.underlying62 (List.mem_of_getElem? HI1.out) false
    rw [HK1'.out, HV1.out] at this
    simpa using this
  have hst : (Instr.entryStore 62 (.map (some mb)) (.int .i64 bn) (.int .i64 (c + 1))).run Tryd.prog (setO W2.drew mb O1) = .ok () (setO (setO W2.drew mb O1) mb O2) := by
    have := hm1.entry_store (t := 62) (P := Tryd.prog) HI1.out (.int .i64 (c + 1))
    rw [hbn, ← hO2] at this
    exact this
  have HM2 : Hid (IsMap CallKey (setO (setO W2.drew mb O1) mb O2) mb (es1.set i1 { y1 with val := .int .i64 (c + 1) }) n1) := by
    have := hm1.set HI1.out (.int .i64 (c + 1))
    rw [← hO2] at this
    exact this
  have HI2 : Hid ((es1.set i1 { y1 with val := .int .i64 (c + 1) })[i1]? = some { y1 with val := .int .i64 (c + 1) }) := by
    have := (List.getElem?_eq_some_iff.1 HI1.out).1
    simp [Hid, this]
  have hw : IntKind.i64.wrap (c + 1) = c + 1 := IntWalk.i64_in _ (by omega)
  unfold callK at hlk hen hlk3 hst
  clear hm1 hO1 hO2 hbn
  go_region_law (fail)
  all_goals
    obtain ⟨Y, hY⟩ : ∃ Y : World, Y = setO (setO W2.drew mb O1) mb O2 := ⟨_, rfl⟩
    rw [← hY]
    have hkY : Kept [mb] W2 Y := by rw [hY]; exact (((Kept.refl [mb] W2).drew).setO (by simp) _).setO (by simp) _
    have HMY : Hid (IsMap CallKey Y mb (es1.set i1 { y1 with val := .int .i64 (c + 1) }) n1) := by rw [hY]; exact HM2.out
    have e3 := hkY.cell' e3 (by simpa using Ne.symm hmb)
    have hKY := HA2.out.kept hkY (by simp; omega)
    have k0 := hKY.cell 0 _ rfl
    have k1 := hKY.cell 1 _ rfl
    have hbY : b < Y.heap.size := by have h2 := hkY.size; omega
    have hAY : A < Y.heap.size := hKY.lt
    have HKF := Lib.hid (HK2.out.nil.trans hkY)
    have hlk2 : (Instr.lookup 62 (.map (some mb)) (.agg #[.int .i64 m, .string ks]) false).run Tryd.prog Y.drew = .ok (.int .i64 (c + 1)) Y.drew := by
      have := (HMY.out.kept ((Kept.refl [] Y).drew) (by simp)).lookup_some key_call Tryd.underlying62 (List.mem_of_getElem? HI2.out) false
      have hkk : ({ y1 with val := .int .i64 (c + 1) } : MapEntry).key = .agg #[.int .i64 m, .string ks] := HK1'.out
      rw [hkk] at this
      simpa using this
    clear hY hlk hen hst hlk3 hkY hKY
  all_goals go_wp2
  all_goals go_region_law (fail)
  all_goals go_wp2
  all_goals
    go_ret
    exact HFIN.out _ (HMY.out.kept ((Kept.refl [] Y).drew) (by simp)) HKF.out.drew
end Go.Proofs.YtkldomkooleecaaDoor
