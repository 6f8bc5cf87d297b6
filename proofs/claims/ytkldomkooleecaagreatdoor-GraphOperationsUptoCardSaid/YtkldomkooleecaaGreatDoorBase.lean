/- What the walks of this seat stand on: numbers as rows, blocks of cells, a tape of draws. -/
import Derived.Test.YtkldomkooleecaaGreatDoorRows
import Derived.Test.YtkldomkooleecaaGreatDoorMem
import Derived.Deep.LoopGhost
import Derived.Deep.Cut
import Derived.Deep.CutRange
import Derived.Deep.CutBlock
import Derived.Deep.RegionLaw
import Derived.Deep.DeepMust
import Derived.Deep.RegionWith
import Derived.Deep.RegionHeld3
namespace Go.Proofs.YtkldomkooleecaaGreatDoor
open Go.RowKit

/-- A list of integers, as rows of one cell. -/
def irows (l : List Int) : List (List Value) := l.map fun x => [Value.int .i64 x]
theorem irows_get {l : List Int} {k : Nat} {x : Int} (h : l[k]? = some x) : (irows l)[k]? = some [Value.int .i64 x] := by simp [irows, h]
@[simp] theorem irows_length (l : List Int) : (irows l).length = l.length := by simp [irows]
theorem irows_append (l m : List Int) : irows (l ++ m) = irows l ++ irows m := by simp [irows]

theorem irows_flatten (l : List Int) : (irows l).flatten = l.map (Value.int .i64) := by
  induction l with
  | nil => rfl
  | cons x l ih => rw [show irows (x :: l) = [Value.int .i64 x] :: irows l from rfl, List.flatten_cons, ih]; rfl
theorem irows_cell (l : List Int) : ∀ r ∈ irows l, r.length = 1 ∧ ∀ u ∈ r, u.oneCell' = true := by
  intro r hr
  unfold irows at hr
  obtain ⟨x, _, rfl⟩ := List.mem_map.1 hr
  simp [Value.oneCell']

/-- What reads as a list of integers: nothing of it, or its cells. -/
theorem Reads.ints {S : Nat → Prop} {w : World} {v : Value} {l : List Int} (h : Reads S w v 1 (irows l)) : ∃ a cap, v = .slice a l.length cap ∧ l.length ≤ cap ∧ cap ≤ 9223372036854775807 ∧
    (l = [] ∨ ∃ b off, a = some ⟨b, off, none⟩ ∧ S b ∧ b < w.heap.size ∧ ∀ k x, l[k]? = some x → w.cell? ⟨b, off + k, none⟩ = some (.int .i64 x)) := by
  obtain ⟨_, a, cap, rfl, h2, h3, h4⟩ := h
  rw [irows_length] at h2 ⊢
  refine ⟨a, cap, rfl, h2, by simpa [maxLen] using h3, ?_⟩
  rcases h4 with h4 | ⟨b, off, rfl, hs, hb, hr⟩
  · left; simpa [irows] using h4
  · refine .inr ⟨b, off, rfl, hs, hb, fun k x hx => ?_⟩
    have := hr k _ (irows_get hx) 0 (.int .i64 x) rfl
    simpa using this

theorem getx (l : List Int) (k : Nat) (h : k < l.length) : ∃ x, l[k]? = some x := ⟨l[k], by simp⟩

/-- EqualInts of two slices that read alike: true. -/
theorem eqInts {S S' : Nat → Prop} (v v' : Value) (l : List Int) (w : World) (h : Reads S w v 1 (irows l)) (h' : Reads S' w v' 1 (irows l)) :
    Calls Tryz.prog 26 #[v, v'] w fun e w' => e = .returned (.bool true) ∧ Kept [] w w' := by
  obtain ⟨a1, c1, rfl, h1, h2, h3⟩ := h.ints
  obtain ⟨a2, c2, rfl, g1, g2, g3⟩ := h'.ints
  have hn : ((l.length : Int) != (l.length : Int)) = false := by simp
  have H3 := Lib.hid h3
  have G3 := Lib.hid g3
  clear h3 g3 h h'
  go_enter Tryz.func26, Tryz.ntmps26
  go_wp2
  go_loopw [5] (fun i wr => ∃ k : Nat, k ≤ l.length ∧ i = .int .i64 k ∧ Kept [] w wr) (fun i _ => l.length - (intOf i).toNat)
  case atStart => exact ⟨0, Nat.zero_le _, rfl, Kept.refl _ _⟩
  case round =>
    obtain ⟨k, hk, rfl, hb⟩ := hrel
    by_cases hlt : k < l.length
    · have hne : l ≠ [] := by rintro rfl; simp at hlt
      obtain ⟨b1, o1, rfl, _, hb1, hc1⟩ := H3.out.resolve_left hne
      obtain ⟨b2, o2, rfl, _, hb2, hc2⟩ := G3.out.resolve_left hne
      obtain ⟨x, hx⟩ := getx l k hlt
      have c1 := hb.cell' (hc1 k x hx) (by simp)
      have c2 := hb.cell' (hc2 k x hx) (by simp)
      have hxx : (x != x) = false := by simp
      clear hc1 hc2 hx H3 G3 hne
      go_wp2
      go_quiet (fail)
      go_wp2
      go_roundw
      case rel => exact ⟨k + 1, by omega, by go_num, hb.drewN _⟩
      case measure => simp [intOf]; omega
    · go_wp2
      go_ret
      exact ⟨rfl, hb⟩

theorem own_zero {W : World} {base g : Nat} {e : TypeId} (h : W.heap[g]? = some (.cells #[] e (0, 0))) (hb : base ≤ g) : Own W base e 1 (.slice (some ⟨g, 0, none⟩) 0 0) [] :=
  ⟨⟨by simp, .inr ⟨g, 0, #[], rfl, hb, h, Nat.le_refl _, by simp [maxLen], by simp, by simp⟩⟩, by simp⟩
theorem reads_one {W : World} {g : Nat} {x : Value} (h : W.cell? ⟨g, 0, none⟩ = some x) (h1 : x.oneCell' = true) : Reads (fun _ => True) W (.slice (some ⟨g, 0, none⟩) 1 1) 1 [[x]] := by
  refine ⟨by simp [h1], _, 1, rfl, by simp, by simp [maxLen], .inr ⟨g, 0, rfl, trivial, World.block_lt_of_cell? W _ h, fun k r hk => ?_⟩⟩
  match k, hk with
  | 0, hk =>
    simp at hk
    subst hk
    intro j v hj
    match j, hj with
    | 0, hj => simp at hj; subst hj; simpa using h
theorem kept_cell {W w1 : World} {V : Value} (hk : ∀ M, (∀ x, V.ownBlock = some x → x ∈ M) → Kept M W w1) {g : Nat} {x : Value} (h : W.cell? ⟨g, 0, none⟩ = some x) (hne : V.ownBlock ≠ some g) : w1.cell? ⟨g, 0, none⟩ = some x := by
  cases hv : V.ownBlock with
  | none => exact (hk [] (by simp [hv])).cell' h (by simp)
  | some b => exact (hk [b] (by simp [hv])).cell' h (by rw [hv] at hne; simp; exact fun e => hne (by rw [e]))
theorem irows_take (l : List Int) (k : Nat) : (irows l).take k = irows (l.take k) := by simp [irows, List.map_take]
theorem irows_drop (l : List Int) (k : Nat) : (irows l).drop k = irows (l.drop k) := by simp [irows, List.map_drop]

theorem info_int' : (Tryz.prog.info? 3).map (fun i => (i.zero, i.size, i.bytes)) = some (some (.int .i64 0), 1, 8) := by kernel_rfl

/-- A block of cells, whole. -/
def Blk (w : World) (b : Nat) (cs : List Value) (t : TypeId) : Prop := w.heap[b]? = some (.cells cs.toArray t)
namespace Blk
variable {w w' : World} {b : Nat} {cs : List Value} {t : TypeId}
theorem new (w : World) (cs : List Value) (t : TypeId) : Blk (w.alloc (.cells cs.toArray t)) w.heap.size cs t := halloc_new _ _ _ rfl
theorem kept {M : List Nat} (h : Blk w b cs t) (k : Kept M w w') (hn : b ∉ M) : Blk w' b cs t := k.get h hn
theorem lt (h : Blk w b cs t) : b < w.heap.size := (Array.getElem?_eq_some_iff.1 h).1
theorem frozen (h : Blk w b cs t) (k : Nat) : w.frozen? ⟨b, k, none⟩ = false := by unfold Blk at h; simp [World.frozen?, h]
theorem cell (h : Blk w b cs t) (k : Nat) (v : Value) (hk : cs[k]? = some v) : w.cell? ⟨b, k, none⟩ = some v := by unfold Blk at h; simp [World.cell?, h, hk]
theorem range (h : Blk w b cs t) : w.rangeAt b 0 cs := fun j v hj => by rw [Nat.zero_add]; exact h.cell j v hj
theorem set (h : Blk w b cs t) (k : Nat) (v : Value) : Blk (w.setCell ⟨b, k, none⟩ v) b (cs.set k v) t := by
  unfold Blk at h ⊢
  simp [World.setCell, Array.getElem?_modify, h]
end Blk

/-- A tape lies at a block: its text lies below; at most m draws have been made. -/
def Tp (w : World) (b m : Nat) : Prop := ∃ (v : Value) (l : List Int) (k : Nat), Reads (· < b) w v 1 (irows l) ∧ k ≤ m ∧ Blk w b [v, .int .i64 k] 60
theorem Tp.lt {w : World} {b m : Nat} (h : Tp w b m) : b < w.heap.size := by obtain ⟨v, l, k, _, _, h⟩ := h; exact h.lt
theorem Tp.kept {w w' : World} {b m : Nat} {M : List Nat} (h : Tp w b m) (k : Kept M w w') (hm : ∀ x ∈ M, b < x) : Tp w' b m := by
  obtain ⟨v, l, n, h1, h2, h3⟩ := h
  exact ⟨v, l, n, h1.kept k (fun x hx => by have := hm x hx; omega), h2, h3.kept k (fun hx => by have := hm b hx; omega)⟩

theorem Tp.more {w : World} {b m m' : Nat} (h : Tp w b m) (hm : m ≤ m') : Tp w b m' := by
  obtain ⟨v, l, n, h1, h2, h3⟩ := h
  exact ⟨v, l, n, h1, by omega, h3⟩

set_option maxRecDepth 100000 in
theorem newTape {S : Nat → Prop} (v : Value) (l : List Int) (w : World) (h : Reads S w v 1 (irows l)) (hS : ∀ b, S b → b < w.heap.size) :
    Calls Tryz.prog 8 #[v] w fun e w' => e = .returned (.pointer (some ⟨w.heap.size, 0, none⟩)) ∧ Tp w' w.heap.size 0 ∧ Kept [] w w' := by
  have H := Lib.hid h
  obtain ⟨a1, c1, rfl, h1, h2, h3⟩ := h.ints
  clear h h3
  go_enter Tryz.func8, Tryz.ntmps8
  go_wp2
  go_ret
  refine ⟨rfl, ⟨_, l, 0, (H.out.kept ((Kept.refl [] w).alloc _) (by simp)).mono (fun b _ hb => ?_), Nat.zero_le _, Blk.new w [_, _] _⟩, (Kept.refl [] w).alloc _⟩
  exact hS b hb

set_option maxRecDepth 100000 in
set_option maxHeartbeats 1600000 in
theorem tapeNext (b m : Nat) (n : Int) (w : World) (h : Tp w b m) (hm : m < 9223372036854775806) (hn : n < 9223372036854775808) :
    Calls Tryz.prog 30 #[.pointer (some ⟨b, 0, none⟩), .int .i64 n] w fun e w' => ∃ r : Int, e = .returned (.int .i64 r) ∧ 0 ≤ r ∧ (n ≤ 1 → r = 0) ∧ (1 < n → r < n) ∧ Tp w' b (m + 1) ∧ Kept [b] w w' := by
  obtain ⟨v, l, k, hr, hk, hb⟩ := h
  have HR := Lib.hid hr
  obtain ⟨a1, c1, rfl, h1, h2, h3⟩ := hr.ints
  have e0 := hb.cell 0 _ rfl
  have e1 := hb.cell 1 _ rfl
  have f1 := hb.frozen 1
  have HB := Lib.hid hb
  have H3 := Lib.hid h3
  clear h3 hr hb
  by_cases hlt : k < l.length
  · have hne : l ≠ [] := by rintro rfl; simp at hlt
    obtain ⟨b1, o1, rfl, hSb, hb1, hc1⟩ := H3.out.resolve_left hne
    obtain ⟨x, hx⟩ := getx l k hlt
    have cx := hc1 k x hx
    clear hc1 hx hne H3
    have hnz : 1 < n → n ≠ 0 := by omega
    have hm1 : 1 < n → x.tmod n < n := fun h => Int.tmod_lt_of_pos x (by omega)
    have hm2 : 1 < n → -n < x.tmod n := fun h => by
      have e : x.tmod n = -((-x).tmod n) := by rw [Int.neg_tmod]; omega
      have := Int.tmod_lt_of_pos (-x) (show 0 < n by omega)
      omega
    have HF : ∀ q, Tp ((w.drewN q).setCell ⟨b, 1, none⟩ (.int .i64 (k + 1))) b (m + 1) := fun q => ⟨_, l, k + 1, (HR.out.kept (((Kept.refl [b] w).drewN q).setCell (p := ⟨b, 1, none⟩) (by simp) _) (by simp)), by omega, (HB.out.kept ((Kept.refl [] w).drewN q) (by simp)).set 1 _⟩
    have HK : ∀ m, Kept [b] w ((w.drewN m).setCell ⟨b, 1, none⟩ (.int .i64 (k + 1))) := fun m => ((Kept.refl [b] w).drewN m).setCell (p := ⟨b, 1, none⟩) (by simp) _
    by_cases hn1 : n ≤ 1
    · go_enter Tryz.func30, Tryz.ntmps30
      go_wp2
      go_quiet (fail)
      go_wp2
      go_quiet (fail)
      go_wp2
      go_ret
      exact ⟨0, rfl, by omega, fun _ => rfl, by omega, HF _, HK _⟩
    · by_cases hneg : x.tmod n < 0
      · go_enter Tryz.func30, Tryz.ntmps30
        go_wp2
        go_quiet (fail)
        go_wp2
        go_quiet (fail)
        go_wp2
        go_ret
        exact ⟨x.tmod n + n, rfl, by omega, by omega, by omega, HF _, HK _⟩
      · go_enter Tryz.func30, Tryz.ntmps30
        go_wp2
        go_quiet (fail)
        go_wp2
        go_quiet (fail)
        go_wp2
        go_ret
        exact ⟨x.tmod n, rfl, by omega, by omega, by omega, HF _, HK _⟩
  · have HF : ∀ q, Tp ((w.drewN q).setCell ⟨b, 1, none⟩ (.int .i64 (k + 1))) b (m + 1) := fun q => ⟨_, l, k + 1, (HR.out.kept (((Kept.refl [b] w).drewN q).setCell (p := ⟨b, 1, none⟩) (by simp) _) (by simp)), by omega, (HB.out.kept ((Kept.refl [] w).drewN q) (by simp)).set 1 _⟩
    have HK : ∀ m, Kept [b] w ((w.drewN m).setCell ⟨b, 1, none⟩ (.int .i64 (k + 1))) := fun m => ((Kept.refl [b] w).drewN m).setCell (p := ⟨b, 1, none⟩) (by simp) _
    have hzz : (0 : Int).tmod n = 0 := Int.zero_tmod n
    by_cases hn1 : n ≤ 1
    · go_enter Tryz.func30, Tryz.ntmps30
      go_wp2
      go_quiet (fail)
      go_wp2
      go_ret
      exact ⟨0, rfl, by omega, fun _ => rfl, by omega, HF _, HK _⟩
    · go_enter Tryz.func30, Tryz.ntmps30
      go_wp2
      go_quiet (fail)
      go_wp2
      go_ret
      exact ⟨0, by simp, by omega, by omega, by omega, HF _, HK _⟩

end Go.Proofs.YtkldomkooleecaaGreatDoor
