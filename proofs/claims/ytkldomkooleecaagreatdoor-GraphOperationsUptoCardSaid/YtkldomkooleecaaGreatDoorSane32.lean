/- The sanity check of tellaw32. -/
import Derived.Test.YtkldomkooleecaaGreatDoorGen32
import Derived.Test.YtkldomkooleecaaGreatDoorByFn
namespace Go.Proofs.YtkldomkooleecaaGreatDoor
open Go.RowKit

theorem newG (d : Nat) (w : World) : Calls Tryz.prog 21 #[] w fun e w' => ∃ b nb eb base : Nat, e = .returned (.pointer (some ⟨b, 0, none⟩)) ∧ GAt d w' b nb eb base 0 [] ∧ Kept [] w w' ∧ w.heap.size ≤ b ∧ w.heap.size ≤ nb ∧ w.heap.size ≤ eb ∧ w.heap.size ≤ base := by
  refine (gNew d w).mono ?_
  rintro e w' ⟨rfl, hg, hk, hs⟩
  exact ⟨_, _, _, _, rfl, hg, hk, by omega, by omega, by omega, by omega⟩
theorem dl_one {d : Nat} {S : Nat → Prop} {w : World} {g L c1 c2 : Nat} {f tn : ByteArray} {tk ti k : Int} {ta : List Ty} {ids : List Int} {a1 a2 : Option Addr} {t : TypeId} (h : Blk w g [.string f, .int .i64 tk, .string tn, .int .i64 ti, .slice a1 ta.length c1, .int .i64 k, .slice a2 ids.length c2] t) (hS : S g)
    (h1 : TR d S w (.slice a1 ta.length c1) ta) (h2 : Reads S w (.slice a2 ids.length c2) 1 (irows ids)) (hi : ids.length ≤ 1000) (_hL : L = 1) : DL d S w (.slice (some ⟨g, 0, none⟩) 1 1) [⟨f, .mk tk tn ti ta, k, ids⟩] := by
  refine ⟨[.tuple #[.slice a1 ta.length c1, .slice a2 ids.length c2]], rfl, ⟨by simp [Dp.row, vfst_pair, vsnd_pair, Value.oneCell'], _, _, rfl, by simp, by simp [maxLen], .inr ⟨g, 0, rfl, hS, h.lt, fun q r hq j u hu => ?_⟩⟩, fun q x e hx he => ?_⟩
  · match q, hq with
    | 0, hq =>
      simp at hq
      subst hq
      rw [Nat.zero_mul, Nat.add_zero, Nat.zero_add]
      exact h.cell j u hu
    | q + 1, hq => simp at hq
  · match q, hx, he with
    | 0, hx, he =>
      simp at hx he
      subst hx he
      exact ⟨_, _, rfl, h1, h2, hi⟩
    | q + 1, hx, _ => simp at hx

def sF : ByteArray := ⟨#[102]⟩
def sG : ByteArray := ⟨#[103]⟩
def sI : ByteArray := ⟨#[73, 110, 116]⟩
def nd1 (dv uv : Value) (bo : Nat) : Nd := ⟨1, [dpN sF sI], [], dv, uv, bo⟩
def nd2 (dv uv : Value) (bo : Nat) : Nd := ⟨2, [dpN sG sI], [1], dv, uv, bo⟩

section
variable {w w' : World} {b nb eb base : Nat} {e : Ending} {v1 u1 v2 u2 : Value} {b1 b2 : Nat}
theorem add1 (h : AddTurn 1 w b nb eb base 0 [] [dpN sF sI] [] e w') : ∃ dv uv bo, e = .returned (.tuple #[.int .i64 1, .int .i64 0]) ∧ GAt 1 w' b nb eb base 1 [nd1 dv uv bo] ∧ Kept [b, nb, eb] w w' := by
  cases h with
  | no u hu => simp at hu
  | yes hu dv uv bo h k =>
    refine ⟨dv, uv, bo, rfl, ?_, k⟩
    have e1 : asc [] = [] := by simp [asc, srt]
    rw [e1] at h
    exact h
theorem asc11 : asc [1, 1] = [1] := by
  simp [asc, srt, uq, List.mergeSort, List.MergeSort.Internal.splitInTwo]
theorem add2 (h : AddTurn 1 w b nb eb base 1 [nd1 v1 u1 b1] [dpN sG sI] [1, 1] e w') : ∃ dv uv bo, e = .returned (.tuple #[.int .i64 2, .int .i64 0]) ∧ GAt 1 w' b nb eb base 2 [nd1 v1 u1 b1, nd2 dv uv bo] ∧ Kept [b, nb, eb] w w' := by
  cases h with
  | no u hu hx =>
    simp at hu
    subst hu
    simp [nodeOf, nd1] at hx
  | yes hu dv uv bo h k =>
    refine ⟨dv, uv, bo, rfl, ?_, k⟩
    rw [asc11] at h
    exact h
theorem add3 (h : AddTurn 1 w b nb eb base 2 [nd1 v1 u1 b1, nd2 v2 u2 b2] [] [9] e w') : e = .returned (.tuple #[.int .i64 0, .int .i64 7]) ∧ Kept [] w w' := by
  cases h with
  | no u hu hx k => exact ⟨rfl, k⟩
  | yes hu dv uv bo h k => exact absurd (by simp [nodeOf, nd1, nd2]) (hu 9 (by simp))
theorem used1 : usedBy [nd1 v1 u1 b1, nd2 v2 u2 b2] 1 = [2] := by simp [usedBy, edgeB, nd1, nd2]
theorem uses2 : usesOf [nd1 v1 u1 b1, nd2 v2 u2 b2] 2 = [1] := by simp [usesOf, nodeOf, nd1, nd2]
theorem byf : byFn [nd1 v1 u1 b1, nd2 v2 u2 b2] sF = [1] := by
  have h1 : onFn sF (dpN sF sI) = true := (onFn_iff _ _).2 rfl
  have h2 : onFn sF (dpN sG sI) = false := by
    cases h : onFn sF (dpN sG sI)
    · rfl
    · exact absurd ((onFn_iff _ _).1 h) (by decide)
  simp [byFn, depsOf, nodeOf, nd1, nd2, h1, h2]
theorem rem1 (h : RemTurn 1 w b nb eb base 2 [nd1 v1 u1 b1, nd2 v2 u2 b2] 1 e w') : e = .returned (.int .i64 10) ∧ Kept [] w w' := by
  cases h with
  | no hx => simp [nodeOf, nd1] at hx
  | used x hx hu k => exact ⟨rfl, k⟩
  | gone x hx hu => rw [used1] at hu; cases hu
theorem rem2 (h : RemTurn 1 w b nb eb base 2 [nd1 v1 u1 b1, nd2 v2 u2 b2] 2 e w') : e = .returned (.int .i64 0) ∧ GAt 1 w' b nb eb base 2 [nd1 v1 u1 b1] ∧ Kept [nb, eb] w w' := by
  cases h with
  | no hx => simp [nodeOf, nd1, nd2] at hx
  | used x hx hu => exact absurd (by simp [usedBy, edgeB, nd1, nd2]) hu
  | gone x hx hu h k => exact ⟨rfl, by simpa [without, nd1, nd2] using h, k⟩
theorem rem3 (h : RemTurn 1 w b nb eb base 2 [nd1 v1 u1 b1] 1 e w') : e = .returned (.int .i64 0) ∧ Kept [nb, eb] w w' := by
  cases h with
  | no hx => simp [nodeOf, nd1] at hx
  | used x hx hu => exact absurd (by simp [usedBy, edgeB, nd1]) hu
  | gone x hx hu h k => exact ⟨rfl, k⟩
theorem has2 : nodeOf [nd1 v1 u1 b1] 2 = none := by simp [nodeOf, nd1]
theorem closed2 : Closed [nd1 v1 u1 b1, nd2 v2 u2 b2] := by
  intro x hx u hu
  simp at hx
  rcases hx with rfl | rfl
  · simp [nd1] at hu
  · simp [nd2] at hu
    subst hu
    exact ⟨by simp [nd2], by simp [nodeOf, nd1]⟩
def sQ : List Dp := [dpN sF sI, dpN sG sI]
theorem fit2 : ∀ x ∈ [nd1 v1 u1 b1, nd2 v2 u2 b2], ∀ y ∈ x.deps, Fit sQ y := by
  intro x hx y hy
  have h9 : y ∈ nine ∧ y ∈ sQ := by
    simp at hx
    rcases hx with rfl | rfl
    · simp [nd1] at hy
      subst hy
      exact ⟨nine_mem (by simp [fns, sF]) (by simp [tns, sI]), by simp [sQ]⟩
    · simp [nd2] at hy
      subst hy
      exact ⟨nine_mem (by simp [fns, sG]) (by simp [tns, sI]), by simp [sQ]⟩
  obtain ⟨q1, q2, _⟩ := nine_fit y h9.1
  exact ⟨q1, q2, ⟨y, h9.2, rfl, rfl⟩⟩
theorem merge_one (x : Dp) : mergeD [x] = [x] := by simp [mergeD, uqD, addQ]
theorem all2 (hr : ∀ x ∈ [nd1 v1 u1 b1, nd2 v2 u2 b2], 1 ≤ x.num ∧ x.num ≤ ((2 : Nat) : Int)) : (allDeps [nd1 v1 u1 b1, nd2 v2 u2 b2] 2).length = 2 := by
  have n1 : nodeOf [nd1 v1 u1 b1, nd2 v2 u2 b2] 1 = some (nd1 v1 u1 b1) := by simp [nodeOf, nd1]
  have n2 : nodeOf [nd1 v1 u1 b1, nd2 v2 u2 b2] 2 = some (nd2 v2 u2 b2) := by simp [nodeOf, nd1, nd2]
  unfold allDeps
  rw [n2]
  simp only
  rw [allD_eq closed2 hr n2]
  have e1 : allD [nd1 v1 u1 b1, nd2 v2 u2 b2] 1 = [dpN sF sI] := by
    rw [allD_eq closed2 hr n1]
    simp [nd1, merge_one]
  have e2 : (nd2 v2 u2 b2).deps ++ ((nd2 v2 u2 b2).uses.map (allD [nd1 v1 u1 b1, nd2 v2 u2 b2])).flatten = [dpN sG sI, dpN sF sI] := by
    show [dpN sG sI] ++ [allD [nd1 v1 u1 b1, nd2 v2 u2 b2] 1].flatten = _
    rw [e1]; rfl
  rw [e2, mergeD_len]
  have h1 : addQ [] (dpN sG sI) = [dpN sG sI] := by simp [addQ]
  have h2 : addQ [dpN sG sI] (dpN sF sI) = [dpN sG sI, dpN sF sI] := addQ_out (by
    rintro ⟨y, hy, q1, _⟩
    simp at hy
    subst hy
    exact absurd q1 (by decide))
  simp [uqD, h1, h2]
end
end Go.Proofs.YtkldomkooleecaaGreatDoor

/-  The sanity check of tellaw32: the walk. -/
namespace Go.Proofs.YtkldomkooleecaaGreatDoor
open Go.RowKit

theorem sep {b nb eb base : Nat} (h : b < base ∧ nb < base ∧ eb < base) : ∀ x, base ≤ x → x ≠ b ∧ x ≠ nb ∧ x ≠ eb := fun x hx => by omega
theorem ints_at {w : World} {g base : Nat} {t : TypeId} (l : List Int) (h : Blk w g (l.map (Value.int .i64)) t) (hb : base ≤ g) (hl : l.length ≤ 1000000) : Reads (base ≤ ·) w (.slice (some ⟨g, 0, none⟩) l.length l.length) 1 (irows l) := by
  refine ⟨irows_cell l, _, _, by rw [irows_length], by rw [irows_length]; exact Nat.le_refl _, by unfold maxLen; omega, .inr ⟨g, 0, rfl, hb, h.lt, fun k r hk j u hu => ?_⟩⟩
  rw [Nat.zero_add]
  refine h.cell _ _ ?_
  rw [← irows_flatten]
  exact flatten_get (fun r hr => (irows_cell l r hr).1) hk hu
theorem dlN {w : World} {L B base : Nat} {f s : ByteArray} (h : TR 1 (B ≤ ·) w (.slice (some ⟨L, 0, none⟩) 1 1) [named s]) (hB : base ≤ B) (hs : base ≤ w.heap.size) :
    DL 1 (base ≤ ·) (w.alloc (.cells #[.string f, .int .i64 3, .string ⟨#[]⟩, .int .i64 0, .slice (some ⟨L, 0, none⟩) 1 1, .int .i64 0, .slice none 0 0] 45)) (.slice (some ⟨w.heap.size, 0, none⟩) 1 1) [dpN f s] :=
  dl_one (L := 1) (Blk.new w [.string f, .int .i64 3, .string ⟨#[]⟩, .int .i64 0, .slice (some ⟨L, 0, none⟩) 1 1, .int .i64 0, .slice none 0 0] _) hs ((TR.good 1).mono ((TR.good 1).kept h ((Kept.refl [] w).alloc _) (by simp)) (fun y _ hy => by omega)) (Reads.nil _ _ _) (by simp) rfl

set_option maxRecDepth 100000 in
set_option maxHeartbeats 12800000 in
theorem sane (tb : Nat) (w : World) (hT : Tabs tb w) (htb : tb ≤ w.heap.size) : Calls Tryz.prog 12 #[] w fun e w' => e = .returned (.bool true) ∧ Kept [] w w' := by
  have HT := Lib.hid hT
  clear hT
  go_enter Tryz.func12, Tryz.ntmps12
  go_wp2_with (first
    | (go_at_call 21; refine Calls.mono (newG 1 _) ?_; rintro e w1 ⟨b, nb, eb, base, rfl, hg, hk, hb1, hb2, hb3, hb4⟩; have HG0 := Lib.hid hg; have HK := Lib.hid hk; have HBS : Hid (b < base ∧ nb < base ∧ eb < base) := ⟨hg.lt1, hg.lt2, hg.lt3⟩; have HLE : Hid (w.heap.size ≤ b ∧ w.heap.size ≤ nb ∧ w.heap.size ≤ eb ∧ w.heap.size ≤ base) := ⟨hb1, hb2, hb3, hb4⟩; have HSB : Hid (base ≤ w1.heap.size) := hg.lt4; clear hg hk hb1 hb2 hb3 hb4)
    | (have _h := HG2; go_at_call 22; refine Calls.mono (gAdd 1 (S := (base ≤ ·)) (S' := (base ≤ ·)) b nb eb base 2 _ _ _ [] [9] _ (by exact HG2.out.kept0 ((Kept.refl [] _).alloc _)) (DL.nil _ _ _) (by exact ints_at [9] (Blk.new w5 [.int .i64 9] 3) HG2.out.lt4 (by simp)) (sep HBS.out) (sep HBS.out) (by decide) (by simp) (by simp)) ?_; rintro e w6 h6; obtain ⟨rfl, hk6⟩ := add3 h6; have hk6 := ((Kept.refl [] w5).alloc (.cells #[.int .i64 9] 3)).trans hk6; have HG := Lib.hid (HG2.out.kept0 hk6); have HK := Lib.hid (HK.out.trans hk6); clear h6 hk6)
    | (have _h := HG1; go_at_call 22; refine Calls.mono (gAdd 1 (S := (base ≤ ·)) (S' := (base ≤ ·)) b nb eb base 1 _ _ _ [dpN sG sI] [1, 1] _ (by exact HG1.out.kept0 ((HKD.out.alloc _).alloc _)) (by exact (DL.good 1).kept (dlN (f := sG) HTD.out HSB.out HBD.out) ((Kept.refl [] _).alloc _) (by simp)) (by exact ints_at [1, 1] (g := w4.heap.size + 1) (t := 3) (halloc_new _ _ _ (by simp)) (by have := HBD.out; omega) (by simp)) (sep HBS.out) (sep HBS.out) (by decide) (by simp) (by simp)) ?_; rintro e w5 h5; obtain ⟨v2, u2, b2, rfl, hg2, hk5⟩ := add2 h5; have HG2 := Lib.hid hg2; have HK := Lib.hid ((HK.out.trans ((HKD.out.alloc _).alloc _)).trans' hk5 (by have := HLE.out; simp; omega)); clear h5 hg2 hk5)
    | (go_at_call 22; refine Calls.mono (gAdd 1 (S := (base ≤ ·)) (S' := (base ≤ ·)) b nb eb base 0 [] _ _ [dpN sF sI] [] _ (by exact HG0.out.kept0 (HKD.out.alloc _)) (by exact dlN (f := sF) HTD.out HSB.out HBD.out) (Reads.nil _ _ _) (sep HBS.out) (sep HBS.out) (by decide) (by simp) (by simp)) ?_; rintro e w3 h3; obtain ⟨v1, u1, b1, rfl, hg1, hk3⟩ := add1 h3; have HG1 := Lib.hid hg1; have HK := Lib.hid ((HK.out.trans (HKD.out.alloc _)).trans' hk3 (by have := HLE.out; simp; omega)); have HSB : Hid (base ≤ w3.heap.size) := hg1.lt4; clear h3 hg1 hk3)
    | (go_at_call_of 25 (Value.string { data := #[102] }); refine Calls.mono (depT sF sI _) ?_; rintro e w2 ⟨L, rfl, ht, hk⟩; have HTD := Lib.hid ht; have HKD := Lib.hid hk; have HBD : Hid (base ≤ w2.heap.size) := Nat.le_trans HSB.out hk.size; clear ht hk)
    | (go_at_call_of 25 (Value.string { data := #[103] }); refine Calls.mono (depT sG sI _) ?_; rintro e w4 ⟨L, rfl, ht, hk⟩; have HTD := Lib.hid ht; have HKD := Lib.hid hk; have HBD : Hid (base ≤ w4.heap.size) := Nat.le_trans HSB.out hk.size; clear ht hk)
    | (go_at_call 10; refine Calls.mono (gUses 1 b nb eb base 2 _ 2 _ (by exact HG.out)) ?_; rintro e w7 ⟨v7, rfl, ho, hk⟩; rw [uses2] at ho; obtain ⟨a7, c7, rfl, _⟩ := ho.rows'.ints; have HO7 := Lib.hid ho; have HG := Lib.hid (HG.out.kept0 hk); have HK := Lib.hid (HK.out.trans hk); clear ho hk)
    | (go_at_call 11; refine Calls.mono (gDependents 1 b nb eb base 2 _ 1 _ (by exact HG.out) (by simp)) ?_; rintro e w9 ⟨v9, rfl, ho, hk⟩; rw [used1] at ho; obtain ⟨a9, c9, rfl, _⟩ := ho.rows'.ints; have HO9 := Lib.hid ho; have HG := Lib.hid (HG.out.kept0 hk); have HK := Lib.hid (HK.out.trans hk); clear ho hk)
    | (go_at_call 20; refine Calls.mono (gByFunction 1 b nb eb base 2 _ sF _ (by exact HG.out) (by simp)) ?_; rintro e w11 ⟨v11, rfl, ho, hk⟩; rw [byf] at ho; obtain ⟨a11, c11, rfl, _⟩ := ho.rows'.ints; have HO11 := Lib.hid ho; have HG := Lib.hid (HG.out.kept0 hk); have HK := Lib.hid (HK.out.trans hk); clear ho hk)
    | (have _h := HO11; go_at_call 26; refine Calls.mono (eqInts _ _ [1] _ (by exact HO11.out.rows'.kept ((Kept.refl [] _).alloc _) (by simp)) (by exact ints_lit [1] (Blk.new w11 [.int .i64 1] 3) (by simp))) ?_; rintro e w12 ⟨rfl, hk⟩; have hk := ((Kept.refl [] w11).alloc (.cells #[.int .i64 1] 3)).trans hk; have HG := Lib.hid (HG.out.kept0 hk); have HK := Lib.hid (HK.out.trans hk); clear hk)
    | (have _h := HO9; go_at_call 26; refine Calls.mono (eqInts _ _ [2] _ (by exact HO9.out.rows'.kept ((Kept.refl [] _).alloc _) (by simp)) (by exact ints_lit [2] (Blk.new w9 [.int .i64 2] 3) (by simp))) ?_; rintro e w10 ⟨rfl, hk⟩; have hk := ((Kept.refl [] w9).alloc (.cells #[.int .i64 2] 3)).trans hk; have HG := Lib.hid (HG.out.kept0 hk); have HK := Lib.hid (HK.out.trans hk); clear hk)
    | (have _h := HO7; go_at_call 26; refine Calls.mono (eqInts _ _ [1] _ (by exact HO7.out.rows'.kept ((Kept.refl [] _).alloc _) (by simp)) (by exact ints_lit [1] (Blk.new w7 [.int .i64 1] 3) (by simp))) ?_; rintro e w8 ⟨rfl, hk⟩; have hk := ((Kept.refl [] w7).alloc (.cells #[.int .i64 1] 3)).trans hk; have HG := Lib.hid (HG.out.kept0 hk); have HK := Lib.hid (HK.out.trans hk); clear hk)
    | (go_at_call 18; refine Calls.mono (gAllDeps 1 tb b nb eb base 2 _ sQ (by decide) fit2 closed2 (by have := HLE.out; omega) 2 _ (by exact HG.out) (by exact HT.out.kept0 HK.out)) ?_; rintro e w13 ⟨v13, he, hd, hk⟩; obtain ⟨a13, c13, hv, _⟩ := hd.form; rw [all2 HG.out.rng] at hv; subst hv; subst he; have HG := Lib.hid (HG.out.kept0 hk); have HK := Lib.hid (HK.out.trans hk); clear hd hk)
    | (have _h := HGR; go_at_call_of 27 (Value.int IntKind.i64 1); refine Calls.mono (gRemove 1 b nb eb base 2 _ 1 _ (by exact HGR.out) (by simp)) ?_; rintro e w17 h17; obtain ⟨rfl, hk⟩ := rem3 h17; have HK := Lib.hid (HK.out.trans' hk (by have := HLE.out; simp; omega)); clear h17 hk)
    | (go_at_call_of 27 (Value.int IntKind.i64 1); refine Calls.mono (gRemove 1 b nb eb base 2 _ 1 _ (by exact HG.out) (by simp)) ?_; rintro e w14 h14; obtain ⟨rfl, hk⟩ := rem1 h14; have HG := Lib.hid (HG.out.kept0 hk); have HK := Lib.hid (HK.out.trans hk); clear h14 hk)
    | (go_at_call_of 27 (Value.int IntKind.i64 2); refine Calls.mono (gRemove 1 b nb eb base 2 _ 2 _ (by exact HG.out) (by simp)) ?_; rintro e w15 h15; obtain ⟨rfl, hg, hk⟩ := rem2 h15; have HGR := Lib.hid hg; have HK := Lib.hid (HK.out.trans' hk (by have := HLE.out; simp; omega)); clear h15 hg hk)
    | (go_at_call 28; refine Calls.mono (gHas 1 b nb eb base 2 _ 2 _ (by exact HGR.out)) ?_; rintro e w16 ⟨rfl, hk⟩; rw [has2]; have HGR := Lib.hid (HGR.out.kept0 hk); have HK := Lib.hid (HK.out.trans hk); clear hk))
  go_ret
  exact ⟨rfl, HK.out⟩
end Go.Proofs.YtkldomkooleecaaGreatDoor
