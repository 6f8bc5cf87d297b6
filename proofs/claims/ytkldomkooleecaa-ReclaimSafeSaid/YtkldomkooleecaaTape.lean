/- A tape of draws: New and Next. -/
import Derived.Test.YtkldomkooleecaaWalkF
namespace Go.Proofs.Ytkldomkooleecaa
open Go.RowKit

/-- A block of cells, whole. -/
def Blk (w : World) (b : Nat) (cs : List Value) (t : TypeId) : Prop := w.heap[b]? = some (.cells cs.toArray t)
namespace Blk
variable {w w' : World} {b : Nat} {cs : List Value} {t : TypeId}
theorem new (w : World) (cs : List Value) (t : TypeId) : Blk (w.alloc (.cells cs.toArray t)) w.heap.size cs t := halloc_new _ _ _ rfl
theorem kept {M : List Nat} (h : Blk w b cs t) (k : Kept M w w') (hn : b ∉ M) : Blk w' b cs t := k.get h hn
theorem lt (h : Blk w b cs t) : b < w.heap.size := (Array.getElem?_eq_some_iff.1 h).1
theorem frozen (h : Blk w b cs t) (k : Nat) : w.frozen? ⟨b, k, none⟩ = false := by unfold Blk at h; simp [World.frozen?, h]
theorem cell (h : Blk w b cs t) (k : Nat) (v : Value) (hk : cs[k]? = some v) : w.cell? ⟨b, k, none⟩ = some v := by unfold Blk at h; simp [World.cell?, h, hk]
theorem range (h : Blk w b cs t) : w.rangeAt b 0 cs := fun j v hj => by rw [Nat.zero_add]; exact h.cell j v hj
theorem set (h : Blk w b cs t) (k : Nat) (v : Value) : Blk (w.setCell ⟨b, k, none⟩ v) b (cs.set k v) t := by
  unfold Blk at h ⊢
  simp [World.setCell, Array.getElem?_modify, h]
end Blk

/-- A tape lies at a block: its text lies below; at most m draws have been made. -/
def Tp (w : World) (b m : Nat) : Prop := ∃ (v : Value) (l : List Int) (k : Nat), Reads (· < b) w v 1 (irows l) ∧ k ≤ m ∧ Blk w b [v, .int .i64 k] 82
theorem Tp.lt {w : World} {b m : Nat} (h : Tp w b m) : b < w.heap.size := by obtain ⟨v, l, k, _, _, h⟩ := h; exact h.lt
theorem Tp.kept {w w' : World} {b m : Nat} {M : List Nat} (h : Tp w b m) (k : Kept M w w') (hm : ∀ x ∈ M, b < x) : Tp w' b m := by
  obtain ⟨v, l, n, h1, h2, h3⟩ := h
  exact ⟨v, l, n, h1.kept k (fun x hx => by have := hm x hx; omega), h2, h3.kept k (fun hx => by have := hm b hx; omega)⟩

theorem Tp.more {w : World} {b m m' : Nat} (h : Tp w b m) (hm : m ≤ m') : Tp w b m' := by
  obtain ⟨v, l, n, h1, h2, h3⟩ := h
  exact ⟨v, l, n, h1, by omega, h3⟩

set_option maxRecDepth 100000 in
theorem newTape {S : Nat → Prop} (v : Value) (l : List Int) (w : World) (h : Reads S w v 1 (irows l)) (hS : ∀ b, S b → b < w.heap.size) :
    Calls Try.prog 8 #[v] w fun e w' => e = .returned (.pointer (some ⟨w.heap.size, 0, none⟩)) ∧ Tp w' w.heap.size 0 ∧ Kept [] w w' := by
  have H := Lib.hid h
  obtain ⟨a1, c1, rfl, h1, h2, h3⟩ := h.ints
  clear h h3
  go_enter Try.func8, Try.ntmps8
  go_wp2
  go_ret
  refine ⟨rfl, ⟨_, l, 0, (H.out.kept ((Kept.refl [] w).alloc _) (by simp)).mono (fun b _ hb => ?_), Nat.zero_le _, Blk.new w [_, _] _⟩, (Kept.refl [] w).alloc _⟩
  exact hS b hb

set_option maxRecDepth 100000 in
set_option maxHeartbeats 1600000 in
theorem tapeNext (b m : Nat) (n : Int) (w : World) (h : Tp w b m) (hm : m < 9223372036854775806) (hn : n < 9223372036854775808) :
    Calls Try.prog 26 #[.pointer (some ⟨b, 0, none⟩), .int .i64 n] w fun e w' => ∃ r : Int, e = .returned (.int .i64 r) ∧ 0 ≤ r ∧ (n ≤ 1 → r = 0) ∧ (1 < n → r < n) ∧ Tp w' b (m + 1) ∧ Kept [b] w w' := by
  obtain ⟨v, l, k, hr, hk, hb⟩ := h
  have HR := Lib.hid hr
  obtain ⟨a1, c1, rfl, h1, h2, h3⟩ := hr.ints
  have e0 := hb.cell 0 _ rfl
  have e1 := hb.cell 1 _ rfl
  have f1 := hb.frozen 1
  have HB := Lib.hid hb
  have H3 := Lib.hid h3
  clear h3 hr hb
  by_cases hlt : k < l.length
  · have hne : l ≠ [] := by rintro rfl; simp at hlt
    obtain ⟨b1, o1, rfl, hSb, hb1, hc1⟩ := H3.out.resolve_left hne
    obtain ⟨x, hx⟩ := getx l k hlt
    have cx := hc1 k x hx
    clear hc1 hx hne H3
    have hnz : 1 < n → n ≠ 0 := by omega
    have hm1 : 1 < n → x.tmod n < n := fun h => Int.tmod_lt_of_pos x (by omega)
    have hm2 : 1 < n → -n < x.tmod n := fun h => by
      have e : x.tmod n = -((-x).tmod n) := by rw [Int.neg_tmod]; omega
      have := Int.tmod_lt_of_pos (-x) (show 0 < n by omega)
      omega
    have HF : ∀ q, Tp ((w.drewN q).setCell ⟨b, 1, none⟩ (.int .i64 (k + 1))) b (m + 1) := fun q => ⟨_, l, k + 1, (HR.out.kept (((Kept.refl [b] w).drewN q).setCell (p := ⟨b, 1, none⟩) (by simp) _) (by simp)), by omega, (HB.out.kept ((Kept.refl [] w).drewN q) (by simp)).set 1 _⟩
    have HK : ∀ m, Kept [b] w ((w.drewN m).setCell ⟨b, 1, none⟩ (.int .i64 (k + 1))) := fun m => ((Kept.refl [b] w).drewN m).setCell (p := ⟨b, 1, none⟩) (by simp) _
    by_cases hn1 : n ≤ 1
    · go_enter Try.func26, Try.ntmps26
      go_wp2
      go_quiet (fail)
      go_wp2
      go_quiet (fail)
      go_wp2
      go_ret
      exact ⟨0, rfl, by omega, fun _ => rfl, by omega, HF _, HK _⟩
    · by_cases hneg : x.tmod n < 0
      · go_enter Try.func26, Try.ntmps26
        go_wp2
        go_quiet (fail)
        go_wp2
        go_quiet (fail)
        go_wp2
        go_ret
        exact ⟨x.tmod n + n, rfl, by omega, by omega, by omega, HF _, HK _⟩
      · go_enter Try.func26, Try.ntmps26
        go_wp2
        go_quiet (fail)
        go_wp2
        go_quiet (fail)
        go_wp2
        go_ret
        exact ⟨x.tmod n, rfl, by omega, by omega, by omega, HF _, HK _⟩
  · have HF : ∀ q, Tp ((w.drewN q).setCell ⟨b, 1, none⟩ (.int .i64 (k + 1))) b (m + 1) := fun q => ⟨_, l, k + 1, (HR.out.kept (((Kept.refl [b] w).drewN q).setCell (p := ⟨b, 1, none⟩) (by simp) _) (by simp)), by omega, (HB.out.kept ((Kept.refl [] w).drewN q) (by simp)).set 1 _⟩
    have HK : ∀ m, Kept [b] w ((w.drewN m).setCell ⟨b, 1, none⟩ (.int .i64 (k + 1))) := fun m => ((Kept.refl [b] w).drewN m).setCell (p := ⟨b, 1, none⟩) (by simp) _
    have hzz : (0 : Int).tmod n = 0 := Int.zero_tmod n
    by_cases hn1 : n ≤ 1
    · go_enter Try.func26, Try.ntmps26
      go_wp2
      go_quiet (fail)
      go_wp2
      go_ret
      exact ⟨0, rfl, by omega, fun _ => rfl, by omega, HF _, HK _⟩
    · go_enter Try.func26, Try.ntmps26
      go_wp2
      go_quiet (fail)
      go_wp2
      go_ret
      exact ⟨0, by simp, by omega, by omega, by omega, HF _, HK _⟩
end Go.Proofs.Ytkldomkooleecaa
