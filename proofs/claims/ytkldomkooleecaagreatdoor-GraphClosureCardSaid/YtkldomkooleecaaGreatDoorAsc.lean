/- Walks: the distinct numbers of a list in ascending order. -/
import Derived.Test.YtkldomkooleecaaGreatDoorNodes
namespace Go.Proofs.YtkldomkooleecaaGreatDoor
open Go.RowKit

def uq (acc : List Int) (n : Int) : List Int := if acc.getLast? = some n then acc else acc ++ [n]
def srt (l : List Int) : List Int := l.mergeSort fun x y => decide (x ≤ y)
def asc (l : List Int) : List Int := (srt l).foldl uq []
theorem uq_last (acc : List Int) (n : Int) : (uq acc n).getLast? = some n := by
  unfold uq; split <;> simp_all
theorem uq_len (s : List Int) : ∀ acc : List Int, (s.foldl uq acc).length ≤ acc.length + s.length := by
  induction s with
  | nil => simp
  | cons n s ih =>
    intro acc
    have h1 := ih (uq acc n)
    have h2 : (uq acc n).length ≤ acc.length + 1 := by unfold uq; split <;> simp
    simp only [List.foldl_cons, List.length_cons]; omega
theorem uqs_snoc (s : List Int) (k : Nat) (x : Int) (h : s[k]? = some x) : (s.take (k + 1)).foldl uq [] = uq ((s.take k).foldl uq []) x := by
  rw [List.take_add_one, h]; simp [List.foldl_append]
theorem uqs_last (s : List Int) (k : Nat) (x : Int) (h : s[k]? = some x) : ((s.take (k + 1)).foldl uq []).getLast? = some x := by
  rw [uqs_snoc s k x h, uq_last]
theorem uqs_mem (s : List Int) : ∀ (acc : List Int) (y : Int), y ∈ s.foldl uq acc ↔ y ∈ acc ∨ y ∈ s := by
  induction s with
  | nil => simp
  | cons n s ih =>
    intro acc y
    simp only [List.foldl_cons, ih, List.mem_cons]
    unfold uq
    split
    · rename_i h
      have : n ∈ acc := List.mem_of_getLast? h
      constructor
      · rintro (h | h) <;> simp [h]
      · rintro (h | rfl | h) <;> simp [*]
    · simp [or_assoc]
theorem asc_mem (l : List Int) (y : Int) : y ∈ asc l ↔ y ∈ l := by
  unfold asc srt
  rw [uqs_mem]
  simp [(List.mergeSort_perm l _).mem_iff]

set_option maxRecDepth 100000 in
set_option maxHeartbeats 1600000 in
theorem ascending {S : Nat → Prop} (v : Value) (l : List Int) (w : World) (h : Reads S w v 1 (irows l)) (hl : l.length ≤ 100000) :
    Calls Tryz.prog 46 #[v] w fun e w' => ∃ v', e = .returned v' ∧ Own w' w.heap.size 3 1 v' (irows (asc l)) ∧ Kept [] w w' := by
  obtain ⟨i0, hi, hz0, hz1, hz2⟩ := info_parts info_int'
  obtain ⟨a0, c0, rfl, _⟩ := h.ints
  have HR := Lib.hid h
  have hsl : (srt l).length ≤ 100000 := by simp [srt]; omega
  have hss : (srt l) = l.mergeSort fun x y => decide (x ≤ y) := rfl
  have HSS := Lib.hid hss
  clear h hss
  unfold asc
  go_enter Tryz.func46, Tryz.ntmps46
  go_wp2_with (first
    | (go_at_call 23; refine (ownInts _ l _ (by exact HR.out) hl).mono ?_; rintro e w1 ⟨v1, rfl, ho, hk1⟩; have HO := Lib.hid ho; have HK1 := Lib.hid hk1; clear ho hk1)
    | (go_at_call 47; refine (sortInts _ l _ (by exact HO.out) (by omega)).mono ?_; rintro e w2 ⟨rfl, ho, hk2⟩; rw [← HSS.out] at ho; have HO2 := Lib.hid ho; have HK2 := Lib.hid (HK1.out.trans' hk2 (fun x hx => .inr (HO.out.lt x (by simpa using hx)).1)); clear ho hk2; generalize hsq : srt l = s at HO2 hsl; have HSQ := Lib.hid hsq; clear hsq; have hrd := HO2.out.rows'; obtain ⟨a1, c1, rfl, p1, p2, p3⟩ := hrd.ints; have P3 := Lib.hid p3; clear p3 hrd HO HR HSS HK1))
  have hslen := hsl
  clear hsl
  go_loopw [4, 13] (fun v i wr => ∃ k : Nat, k ≤ s.length ∧ i = .int .i64 k ∧ Kept [] w2 wr ∧ Hid (Own wr w2.heap.size 3 1 v (irows ((s.take k).foldl uq [])))) (fun _ i _ => s.length - (intOf i).toNat)
  case atStart => exact ⟨0, Nat.zero_le _, rfl, Kept.refl _ _, Own.nil _ _ _ _⟩
  case round =>
    obtain ⟨k, hk, rfl, hkr, hv⟩ := hrel
    obtain ⟨wo, hwo⟩ : ∃ wo : World, wo = wr := ⟨_, rfl⟩
    subst hwo
    by_cases hlt : k < s.length
    · have hne : s ≠ [] := by rintro rfl; simp at hlt
      obtain ⟨b1, o1, rfl, hSb, hb1, hc1⟩ := P3.out.resolve_left hne
      obtain ⟨x, hx⟩ := getp s k hlt
      have cx := hkr.cell' (hc1 k x hx) (by simp)
      have HF := Lib.hid (uqs_snoc s k x hx)
      have hlen : ((s.take k).foldl uq []).length ≤ 100000 := by
        have h1 := uq_len (s.take k) []
        simp at h1; omega
      have hszr := hkr.size
      rcases Nat.eq_zero_or_pos k with h0 | h0
      · subst h0
        simp only [Nat.add_zero] at cx
        have hu : uq ((s.take 0).foldl uq []) x = (s.take 0).foldl uq [] ++ [x] := by simp [uq]
        have HU := Lib.hid hu
        generalize (s.take 0).foldl uq [] = acc at hv hlen HF HU
        clear hc1 hx hne P3 hu
        go_wp2_with (refine wpList_append1 (.tmp 29) (.tmp 30) 22 3 rfl rfl rfl rfl rfl i0 (.int .i64 0) 1 8 Tryz.underlying22 hi hz0 hz1 hz2 rfl (by decide) (by decide) w2.heap.size _ _ (fun _ => rfl) (fun _ => rfl) [.int .i64 x] rfl rfl (by simp [Value.oneCell']) hv.out (by simp; omega) (by simp; omega) (by omega) ?_; intro v2 w3 ho2 hk2 hl2; clear hl2; have HO3 := Lib.hid ho2; have HK3 := Lib.hid hk2; clear ho2 hk2)
        go_roundw
        case rel =>
          have hk2 := HK3.out u4.ownBlock.toList (by intro y hy; simp [hy])
          refine ⟨1, by omega, by go_num, hkr.trans' hk2 (fun y hy => .inr (hv.out.lt y (by simpa using hy)).1), ?_⟩
          rw [Hid, HF.out, HU.out, irows_append]
          exact HO3.out
        case measure => simp [intOf]; omega
      · obtain ⟨j, rfl⟩ : ∃ j, k = j + 1 := ⟨k - 1, by omega⟩
        obtain ⟨y, hy⟩ := getp s j (by omega)
        have cy := hkr.cell' (hc1 j y hy) (by simp)
        have hla := uqs_last s j y hy
        have hjc : ((j + 1 : Nat) : Int) = (j : Int) + 1 := by omega
        have hxy : x = y ∨ x ≠ y := by omega
        rcases hxy with hxy | hxy
        · subst hxy
          have hu : uq ((s.take (j + 1)).foldl uq []) x = (s.take (j + 1)).foldl uq [] := by simp [uq, hla]
          have HU := Lib.hid hu
          generalize (s.take (j + 1)).foldl uq [] = acc at hv hlen HF HU
          clear hc1 hx hne P3 hu hla hy
          go_wp2
          go_roundw
          case rel => exact ⟨j + 2, by omega, by go_num, hkr, by rw [Hid, HF.out, HU.out]; exact hv.out⟩
          case measure => simp [intOf]; omega
        · have hbn : (x != y) = true := bne_iff_ne.2 hxy
          have hu : uq ((s.take (j + 1)).foldl uq []) x = (s.take (j + 1)).foldl uq [] ++ [x] := by simp [uq, hla, Ne.symm hxy]
          have HU := Lib.hid hu
          generalize (s.take (j + 1)).foldl uq [] = acc at hv hlen HF HU
          clear hc1 hx hne P3 hu hla hy
          go_wp2_with (refine wpList_append1 (.tmp 29) (.tmp 30) 22 3 rfl rfl rfl rfl rfl i0 (.int .i64 0) 1 8 Tryz.underlying22 hi hz0 hz1 hz2 rfl (by decide) (by decide) w2.heap.size _ _ (fun _ => rfl) (fun _ => rfl) [.int .i64 x] rfl rfl (by simp [Value.oneCell']) hv.out (by simp; omega) (by simp; omega) (by omega) ?_; intro v2 w3 ho2 hk2 hl2; clear hl2; have HO3 := Lib.hid ho2; have HK3 := Lib.hid hk2; clear ho2 hk2)
          go_roundw
          case rel =>
            have hk2 := HK3.out u4.ownBlock.toList (by intro y hy; simp [hy])
            refine ⟨j + 2, by omega, by go_num, hkr.trans' hk2 (fun y hy => .inr (hv.out.lt y (by simpa using hy)).1), ?_⟩
            rw [Hid, HF.out, HU.out, irows_append]
            exact HO3.out
          case measure => simp [intOf]; omega
    · go_wp2
      go_ret
      have hfin := hv.out
      rw [show k = s.length by omega, List.take_length] at hfin
      exact ⟨_, rfl, by rw [HSQ.out]; exact hfin.mono HK2.out.size, HK2.out.trans hkr⟩
end Go.Proofs.YtkldomkooleecaaGreatDoor
