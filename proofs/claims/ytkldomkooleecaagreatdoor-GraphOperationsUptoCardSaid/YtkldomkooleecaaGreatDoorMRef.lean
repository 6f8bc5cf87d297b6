/- Walks: the reference's lists of numbers (contains, Inserted); an ascending list is kept so. -/
import Derived.Test.YtkldomkooleecaaGreatDoorMAdd
import Derived.Deep.RegionLaw
import Derived.Deep.DeepMust
import Derived.Test.YtkldomkooleecaaGreatDoorGraph
import Derived.Test.YtkldomkooleecaaGreatDoorNodes
import Derived.Test.YtkldomkooleecaaGreatDoorByFn

namespace Go.Proofs.YtkldomkooleecaaGreatDoor
open Go.RowKit

/-- Insertion of a number into an ascending list, unless it is there. -/
def ins : List Int → Int → List Int
  | [], n => [n]
  | x :: l, n => if x < n then x :: ins l n else if x = n then x :: l else n :: x :: l

def Asc (l : List Int) : Prop := l.Pairwise (· < ·)

theorem ins_mem (l : List Int) (n : Int) : ∀ x, x ∈ ins l n ↔ x ∈ l ∨ x = n := by
  induction l with
  | nil => intro x; simp [ins]
  | cons y l ih =>
    intro x
    unfold ins
    split
    · simp [ih, or_assoc]
    · split
      · rename_i h; subst h; simp; intro h; exact .inl h
      · simp; grind

theorem ins_asc (l : List Int) (n : Int) (h : Asc l) : Asc (ins l n) := by
  unfold Asc at *
  induction l with
  | nil => simp [ins]
  | cons y l ih =>
    rw [List.pairwise_cons] at h
    unfold ins
    split
    · rename_i hlt
      rw [List.pairwise_cons]
      refine ⟨fun x hx => ?_, ih h.2⟩
      rcases (ins_mem l n x).1 hx with hx | rfl
      · exact h.1 x hx
      · exact hlt
    · split
      · exact List.pairwise_cons.2 h
      · rename_i h1 h2
        rw [List.pairwise_cons, List.pairwise_cons]
        refine ⟨fun x hx => ?_, h⟩
        rcases List.mem_cons.1 hx with rfl | hx
        · omega
        · have := h.1 x hx; omega

theorem asc_ext : ∀ (l l' : List Int), Asc l → Asc l' → (∀ x, x ∈ l ↔ x ∈ l') → l = l'
  | [], [], _, _, _ => rfl
  | [], y :: l', _, _, h => absurd ((h y).2 (by simp)) (by simp)
  | x :: l, [], _, _, h => absurd ((h x).1 (by simp)) (by simp)
  | x :: l, y :: l', h1, h2, h => by
    unfold Asc at h1 h2
    rw [List.pairwise_cons] at h1 h2
    have hxy : x = y := by
      have a := (h x).1 (by simp)
      have b := (h y).2 (by simp)
      rcases List.mem_cons.1 a with a | a
      · exact a
      · rcases List.mem_cons.1 b with b | b
        · exact b.symm
        · have := h2.1 x a; have := h1.1 y b; omega
    subst hxy
    rw [asc_ext l l' h1.2 h2.2 (fun z => by
      have := h z
      simp only [List.mem_cons] at this
      constructor
      · intro hz
        have hne := h1.1 z hz
        rcases this.1 (.inr hz) with e | e
        · omega
        · exact e
      · intro hz
        have hne := h2.1 z hz
        rcases this.2 (.inr hz) with e | e
        · omega
        · exact e)]

theorem inss_mem (ns : List Int) : ∀ (s : List Int) (x : Int), x ∈ ns.foldl ins s ↔ x ∈ s ∨ x ∈ ns := by
  induction ns with
  | nil => simp
  | cons n ns ih => intro s x; simp [ih, ins_mem, or_assoc]
theorem inss_asc (ns : List Int) : ∀ (s : List Int), Asc s → Asc (ns.foldl ins s) := by
  induction ns with
  | nil => exact fun _ h => h
  | cons n ns ih => exact fun s h => ih _ (ins_asc s n h)

theorem uqs_asc : ∀ (s acc : List Int), s.Pairwise (· ≤ ·) → Asc acc → (∀ x ∈ acc, ∀ y ∈ s, x ≤ y) → Asc (s.foldl uq acc)
  | [], acc, _, h, _ => h
  | n :: s, acc, hs, h, hx => by
    rw [List.pairwise_cons] at hs
    rw [List.foldl_cons]
    refine uqs_asc s (uq acc n) hs.2 ?_ ?_
    · unfold uq
      split
      · exact h
      · rename_i hl
        unfold Asc at h ⊢
        rw [List.pairwise_append]
        refine ⟨h, by simp, fun x hx' y hy => ?_⟩
        simp at hy
        subst hy
        have h1 := hx x hx' y (by simp)
        rcases Int.lt_or_eq_of_le h1 with h2 | h2
        · exact h2
        · exfalso
          subst h2
          -- x is the last of acc
          cases hacc : acc.getLast? with
          | none => rw [List.getLast?_eq_none_iff] at hacc; subst hacc; simp at hx'
          | some z =>
            have hz : z ∈ acc := List.mem_of_getLast? hacc
            have h3 := hx z hz x (by simp)
            have h4 : x ≤ z := by
              obtain ⟨ys, rfl⟩ := List.getLast?_eq_some_iff.1 hacc
              rcases List.mem_append.1 hx' with q | q
              · have := (List.pairwise_append.1 h).2.2 x q z (by simp); omega
              · simp at q; omega
            exact hl (by rw [hacc, show z = x by omega])
    · intro x hx' y hy
      unfold uq at hx'
      split at hx'
      · exact hx x hx' y (by simp [hy])
      · rcases List.mem_append.1 hx' with q | q
        · exact hx x q y (by simp [hy])
        · simp at q
          subst q
          exact hs.1 y hy
theorem asc_ins (l : List Int) : l.foldl ins [] = asc l := by
  refine asc_ext _ _ (inss_asc l [] (by simp [Asc])) ?_ (fun x => by rw [inss_mem, asc_mem]; simp)
  unfold asc
  refine uqs_asc _ _ ?_ (by simp [Asc]) (by simp)
  have := List.pairwise_mergeSort (le := fun x y : Int => decide (x ≤ y)) (fun a b c => by simp; omega) (fun a b => by simp; omega) l
  exact this.imp (fun h => by simpa using h)

theorem ins_eq (l : List Int) (n : Int) : ∀ k, k ≤ l.length → (∀ x ∈ l.take k, x < n) → (∀ x, l[k]? = some x → n < x) → ins l n = l.take k ++ [n] ++ l.drop k := by
  induction l with
  | nil => intro k hk _ _; simp [ins]
  | cons y l ih =>
    intro k hk h1 h2
    cases k with
    | zero =>
      have := h2 y rfl
      unfold ins
      rw [if_neg (by omega), if_neg (by omega)]
      simp
    | succ k =>
      have hy := h1 y (by simp)
      unfold ins
      rw [if_pos hy, ih k (by simpa using hk) (fun x hx => h1 x (by simp [hx])) (fun x hx => h2 x (by simpa using hx))]
      simp
theorem ins_eq_same (l : List Int) (n : Int) : ∀ k, (∀ x ∈ l.take k, x < n) → l[k]? = some n → ins l n = l := by
  induction l with
  | nil => intro k _ h; simp at h
  | cons y l ih =>
    intro k h1 h2
    cases k with
    | zero => simp at h2; subst h2; simp [ins]
    | succ k =>
      have hy := h1 y (by simp)
      unfold ins
      rw [if_pos hy, ih k (fun x hx => h1 x (by simp [hx])) (by simpa using h2)]

set_option maxRecDepth 100000 in
/-- contains: is it one of them? -/
theorem contains_any {S : Nat → Prop} (v : Value) (l : List Int) (n : Int) (w : World) (h : Reads S w v 1 (irows l)) :
    Calls Tryz.prog 67 #[v, .int .i64 n] w fun e w' => e = .returned (.bool (decide (n ∈ l))) ∧ w = w' := by
  obtain ⟨a1, c1, rfl, h1, h2, h3⟩ := h.ints
  have H3 := Lib.hid h3
  clear h3 h
  go_enter Tryz.func67, Tryz.ntmps67
  go_wp2
  go_loop [5] (fun i => ∃ k : Nat, k ≤ l.length ∧ i = .int .i64 k ∧ Hid (n ∉ l.take k)) (fun i => l.length - (intOf i).toNat)
  case atStart => exact ⟨0, Nat.zero_le _, rfl, by simp [Hid]⟩
  case round =>
    obtain ⟨k, hk, rfl, hm⟩ := hrel
    by_cases hlt : k < l.length
    · have hne : l ≠ [] := by rintro rfl; simp at hlt
      obtain ⟨b1, o1, rfl, _, hb1, hc1⟩ := H3.out.resolve_left hne
      obtain ⟨x, hx⟩ := getx l k hlt
      have c1 := hc1 k x hx
      have HX := Lib.hid hx
      clear hc1 hx H3 hne
      go_wp2
      · go_ret
        have hxn : x = n := by have : (x == n) = true := by assumption
                               simpa using this
        refine ⟨congrArg (fun b => Ending.returned (Value.bool b)) ?_, rfl⟩
        subst hxn
        simp [List.mem_of_getElem? HX.out]
      · go_round
        case rel =>
          have hxn : x ≠ n := by have : (x == n) = false := by assumption
                                 simpa using this
          refine ⟨k + 1, by omega, by go_num, ?_⟩
          have := hm.out
          rw [Hid, List.take_add_one, HX.out]
          simp
          exact ⟨this, fun e => hxn e.symm⟩
        case measure => simp [intOf]; omega
    · go_wp2
      go_ret
      refine ⟨congrArg (fun b => Ending.returned (Value.bool b)) ?_, rfl⟩
      have := hm.out
      rw [show k = l.length by omega, List.take_length] at this
      simp [this]


set_option maxRecDepth 100000 in
set_option maxHeartbeats 1600000 in
theorem inserted {S : Nat → Prop} (v : Value) (l : List Int) (n : Int) (w : World) (h : Reads S w v 1 (irows l)) (hl : l.length ≤ 1000000) :
    Calls Tryz.prog 51 #[v, .int .i64 n] w fun e w' => ∃ v', e = .returned v' ∧ Reads (fun b => S b ∨ w.heap.size ≤ b) w' v' 1 (irows (ins l n)) ∧ Kept [] w w' := by
  obtain ⟨i0, hi, hz0, hz1, hz2⟩ := info_parts info_int'
  obtain ⟨a1, cp, rfl, h1, h2, h3⟩ := h.ints
  have HR := Lib.hid h
  have H3 := Lib.hid h3
  clear h3 h
  go_enter Tryz.func51, Tryz.ntmps51
  go_wp2
  go_loop [5] (fun i => ∃ k : Nat, k ≤ l.length ∧ i = .int .i64 k ∧ Hid (∀ x ∈ l.take k, x < n)) (fun i => l.length - (intOf i).toNat)
  case atStart => exact ⟨0, Nat.zero_le _, rfl, by simp [Hid]⟩
  case round =>
    obtain ⟨k, hk, rfl, hm⟩ := hrel
    by_cases hlt : k < l.length
    · have hne : l ≠ [] := by rintro rfl; simp at hlt
      obtain ⟨b1, o1, rfl, _, hb1, hc1⟩ := H3.out.resolve_left hne
      obtain ⟨x, hx⟩ := getx l k hlt
      have c1 := hc1 k x hx
      have HX := Lib.hid hx
      clear hc1 hx H3 hne
      by_cases hxn : x < n
      · go_wp2
        go_round
        case rel =>
          refine ⟨k + 1, by omega, by go_num, ?_⟩
          have := hm.out
          rw [Hid, List.take_add_one, HX.out]
          intro y hy
          rcases List.mem_append.1 hy with hy | hy
          · exact this y hy
          · simp at hy; subst hy; exact hxn
        case measure => simp [intOf]; omega
      · by_cases hxe : x = n
        · have hb : (x == n) = true := by simpa using hxe
          go_wp2
          go_ret
          subst hxe
          rw [ins_eq_same l x k hm.out HX.out]
          exact ⟨_, rfl, HR.out.mono (fun b _ hb => .inl hb), Kept.refl _ _⟩
        · have hb : (x == n) = false := by simpa using hxe
          have HI := Lib.hid (ins_eq l n k hk hm.out (fun y hy => by have := HX.out.symm.trans hy; simp at this; omega))
          have hkc : k ≤ cp := by omega
          have hR1 := HR.out.sub 0 k (Nat.zero_le _) (by simpa using hk)
          have hR2 := HR.out.sub k l.length hk (by simp)
          rw [irows_take, List.drop_zero] at hR1
          rw [irows_take, List.take_length, irows_drop] at hR2
          have R1 : ∀ W, Kept [] w W → Reads S W _ 1 (irows (l.take k)) := fun W hW => hR1.kept hW (by simp)
          have R2 : ∀ W, Kept [] w W → Reads S W _ 1 (irows (l.drop k)) := fun W hW => hR2.kept hW (by simp)
          clear hR1 hR2
          simp only [sub, Nat.mul_one, Nat.sub_zero, Option.map_some, Addr.add_lit, Nat.add_zero, ite_self] at R1 R2
          go_wp2
          go_region_law ((first
            | (refine step_append_rows rfl (.tmp 33) (.tmp 36) 22 3 rfl i0 (.int .i64 0) 1 8 Tryz.underlying22 hi hz0 hz1 hz2 rfl (by decide) w.heap.size (.slice (some ⟨_, 0, none⟩) 0 0) [] (irows (l.take k)) rfl (own_zero (by first | exact halloc_new _ _ _ rfl | exact halloc_new (w.alloc _) _ _ (by simp) | exact (halloc_old _ _ _ (by simp)).trans (halloc_new _ _ _ rfl)) (by simp)) S _ rfl (R1 _ (by repeat (first | exact Kept.refl _ _ | refine Kept.drew ?_ | refine Kept.alloc ?_ _))) (by simp; omega) (by simp; omega) (by simp; try omega) ?_; intro v1 w1 ho1 hk1 hl1; clear hl1; have K1 : Kept [] w w1 := Kept.trans' (by repeat (first | exact Kept.refl _ _ | refine Kept.drew ?_ | refine Kept.alloc ?_ _)) (hk1 [w.heap.size, w.heap.size + 1] (by simp [Value.ownBlock])) (by simp))
            | (refine step_append_rows rfl (.tmp 37) (.tmp 39) 22 3 rfl i0 (.int .i64 0) 1 8 Tryz.underlying22 hi hz0 hz1 hz2 rfl (by decide) w.heap.size v1 _ [[.int .i64 n]] rfl (by first | exact ho1 | exact ho1.kept (M := []) ((Kept.refl _ _).alloc _) (by simp)) (fun _ => True) _ rfl (reads_one (by first | (exact (World.cell?_alloc_at _ _ _ _ rfl)) | (refine kept_cell hk1 ?_ ?_ <;> first | (go_simp; done) | (simp [Value.ownBlock]; done))) rfl) (by simp; omega) (by simp; omega) (by first | exact K1.size | (have := K1.size; simp; omega)) ?_; intro v2 w2 ho2 hk2 hl2; clear hl2; have K2 : Kept [] w w2 := Kept.trans' (by first | exact K1 | exact K1.alloc _) (hk2 v1.ownBlock.toList (by intro x hx; simp [hx])) (fun x hx => .inr (ho1.lt x (by simpa using hx)).1))
            | (refine step_append_rows rfl (.tmp 40) (.tmp 43) 22 3 rfl i0 (.int .i64 0) 1 8 Tryz.underlying22 hi hz0 hz1 hz2 rfl (by decide) w.heap.size v2 _ (irows (l.drop k)) rfl ho2 S _ rfl (R2 _ K2) (by simp; omega) (by simp; omega) K2.size ?_; intro v3 w3 ho3 hk3 hl3; clear hl3; have K3 : Kept [] w w3 := K2.trans' (hk3 v2.ownBlock.toList (by intro x hx; simp [hx])) (fun x hx => .inr (ho2.lt x (by simpa using hx)).1))))
          all_goals
            clear hk1 hk2 hk3 R1 R2 ho1 ho2 K1 K2
            have HO := Lib.hid ho3
            clear ho3
            go_wp2
            all_goals
              go_ret
              refine ⟨v3, rfl, ?_, K3⟩
              rw [HI.out, irows_append, irows_append]
              exact HO.out.rows'.mono (fun b _ hb => .inr hb)
    · have HI := Lib.hid (ins_eq l n k hk hm.out (fun y hy => by have := (List.getElem?_eq_some_iff.1 hy).1; omega))
      have hkc : k ≤ cp := by omega
      have hR1 := HR.out.sub 0 k (Nat.zero_le _) (by simpa using hk)
      have hR2 := HR.out.sub k l.length hk (by simp)
      rw [irows_take, List.drop_zero] at hR1
      rw [irows_take, List.take_length, irows_drop] at hR2
      have R1 : ∀ W, Kept [] w W → Reads S W _ 1 (irows (l.take k)) := fun W hW => hR1.kept hW (by simp)
      have R2 : ∀ W, Kept [] w W → Reads S W _ 1 (irows (l.drop k)) := fun W hW => hR2.kept hW (by simp)
      clear hR1 hR2
      simp only [sub, Nat.mul_one, Nat.sub_zero, ite_self, Addr.add_zero', Option.map_id'] at R1 R2
      go_wp2
      go_region_law ((first
        | (refine step_append_rows rfl (.tmp 33) (.tmp 36) 22 3 rfl i0 (.int .i64 0) 1 8 Tryz.underlying22 hi hz0 hz1 hz2 rfl (by decide) w.heap.size (.slice (some ⟨_, 0, none⟩) 0 0) [] (irows (l.take k)) rfl (own_zero (by first | exact halloc_new _ _ _ rfl | exact halloc_new (w.alloc _) _ _ (by simp) | exact (halloc_old _ _ _ (by simp)).trans (halloc_new _ _ _ rfl)) (by simp)) S _ rfl (R1 _ (by repeat (first | exact Kept.refl _ _ | refine Kept.drew ?_ | refine Kept.alloc ?_ _))) (by simp; omega) (by simp; omega) (by simp; try omega) ?_; intro v1 w1 ho1 hk1 hl1; clear hl1; have K1 : Kept [] w w1 := Kept.trans' (by repeat (first | exact Kept.refl _ _ | refine Kept.drew ?_ | refine Kept.alloc ?_ _)) (hk1 [w.heap.size, w.heap.size + 1] (by simp [Value.ownBlock])) (by simp))
        | (refine step_append_rows rfl (.tmp 37) (.tmp 39) 22 3 rfl i0 (.int .i64 0) 1 8 Tryz.underlying22 hi hz0 hz1 hz2 rfl (by decide) w.heap.size v1 _ [[.int .i64 n]] rfl (by first | exact ho1 | exact ho1.kept (M := []) ((Kept.refl _ _).alloc _) (by simp)) (fun _ => True) _ rfl (reads_one (by first | (exact (World.cell?_alloc_at _ _ _ _ rfl)) | (refine kept_cell hk1 ?_ ?_ <;> first | (go_simp; done) | (simp [Value.ownBlock]; done))) rfl) (by simp; omega) (by simp; omega) (by first | exact K1.size | (have := K1.size; simp; omega)) ?_; intro v2 w2 ho2 hk2 hl2; clear hl2; have K2 : Kept [] w w2 := Kept.trans' (by first | exact K1 | exact K1.alloc _) (hk2 v1.ownBlock.toList (by intro x hx; simp [hx])) (fun x hx => .inr (ho1.lt x (by simpa using hx)).1))
        | (refine step_append_rows rfl (.tmp 40) (.tmp 43) 22 3 rfl i0 (.int .i64 0) 1 8 Tryz.underlying22 hi hz0 hz1 hz2 rfl (by decide) w.heap.size v2 _ (irows (l.drop k)) rfl ho2 S _ rfl (R2 _ K2) (by simp; omega) (by simp; omega) K2.size ?_; intro v3 w3 ho3 hk3 hl3; clear hl3; have K3 : Kept [] w w3 := K2.trans' (hk3 v2.ownBlock.toList (by intro x hx; simp [hx])) (fun x hx => .inr (ho2.lt x (by simpa using hx)).1))))
      all_goals
        clear hk1 hk2 hk3 R1 R2 ho1 ho2 K1 K2
        have HO := Lib.hid ho3
        clear ho3
        go_wp2
        all_goals
          go_ret
          refine ⟨v3, rfl, ?_, K3⟩
          rw [HI.out, irows_append, irows_append]
          exact HO.out.rows'.mono (fun b _ hb => .inr hb)
end Go.Proofs.YtkldomkooleecaaGreatDoor

/- The reference graph in memory; walks: NewGraph, Has, OwnDeps, Uses. -/
namespace Go.Proofs.YtkldomkooleecaaGreatDoor
open Go.RowKit

/-- A node of the reference graph. -/
structure RN where
  there : Bool
  deps : List Dp
  uses : List Int
def RN.row (x : RN) (e : Value) : List Value := [.bool x.there, vfst e, vsnd e]
def NR (d : Nat) (S : Nat → Prop) (w : World) (e : Value) (x : RN) : Prop := ∃ a b, e = .tuple #[a, b] ∧ DL d S w a x.deps ∧ Reads S w b 1 (irows x.uses) ∧ x.deps.length ≤ 1000 ∧ x.uses.length ≤ 1000
theorem NR.good (d : Nat) : Good (fun S w e (x : RN) => NR d S w e x) :=
  ⟨fun ⟨a, b, e, h1, h2, h3⟩ k hn => ⟨a, b, e, (DL.good d).kept h1 k hn, h2.kept k hn, h3⟩, fun ⟨a, b, e, h1, h2, h3⟩ hs => ⟨a, b, e, (DL.good d).mono h1 hs, h2.mono hs, h3⟩⟩
theorem NR.pair {d : Nat} {S : Nat → Prop} {w : World} {e : Value} {x : RN} (h : NR d S w e x) : ∃ a1 c1 a2 c2, e = .tuple #[.slice a1 x.deps.length c1, .slice a2 x.uses.length c2] ∧ DL d S w (.slice a1 x.deps.length c1) x.deps ∧ Reads S w (.slice a2 x.uses.length c2) 1 (irows x.uses) ∧ x.deps.length ≤ 1000 ∧ x.uses.length ≤ 1000 := by
  obtain ⟨a, b, rfl, h1, h2, h3⟩ := h
  obtain ⟨a1, c1, rfl, _⟩ := h1.form
  obtain ⟨a2, c2, rfl, _⟩ := h2.ints
  exact ⟨a1, c1, a2, c2, rfl, h1, h2, h3⟩

/-- Read through a territory of more. -/
theorem Gr.rdT {β : Type} {Q : (Nat → Prop) → World → Value → β → Prop} {r : β → Value → List Value} {size : Nat} {t : TypeId} {S T : Nat → Prop} {base : Nat} {w : World} {v : Value} {l : List β} (hQ : Good Q) (h : Gr Q r size t S base w v l) (hs : ∀ y, S y → T y) (ho : ∀ y, v.ownBlock = some y → T y) : Rd Q r size T w v l := by
  obtain ⟨es, h1, h2, h3⟩ := h
  refine ⟨es, h1, ?_, fun k x e hx he => hQ.mono (h3 k x e hx he) fun _ _ h => hs _ h.1⟩
  obtain ⟨q1, a, cap, hv, q2, q3, q4⟩ := h2.rows'
  refine ⟨q1, a, cap, hv, q2, q3, ?_⟩
  rcases q4 with q4 | ⟨b, off, ha, hs, hb, hr⟩
  · exact .inl q4
  · refine .inr ⟨b, off, ha, ?_, hb, hr⟩
    rcases h2.row.2 with ⟨hv0, _⟩ | ⟨g, cap', cur, hv0, _⟩
    · have e := (Value.slice.inj (hv0.symm.trans hv)).1
      rw [← e] at ha
      cases ha
    · have e := (Value.slice.inj (hv0.symm.trans hv)).1
      rw [← e] at ha
      cases ha
      exact ho _ (by rw [hv0]; rfl)

/-- A reference graph lies at R; what it leads to lies where G allows. -/
structure RG (G : Nat → Prop) (d : Nat) (w : World) (R base : Nat) (rs : List RN) : Prop where
  lt : R < base
  le : base ≤ w.heap.size
  new : ∀ y, w.heap.size ≤ y → G y
  few : rs.length ≤ 1000
  data : ∃ v, Blk w R [v] 100 ∧ (∀ y, v.ownBlock = some y → G y) ∧ Gr (fun S w e (x : RN) => NR d S w e x) RN.row 3 103 (fun y => G y ∧ y ≠ R) base w v rs

section
variable {G : Nat → Prop} {d : Nat} {w w' : World} {R base : Nat} {rs : List RN}
theorem RG.kept {M : List Nat} (h : RG G d w R base rs) (k : Kept M w w') (hn : ∀ x ∈ M, x ≠ R ∧ ¬ G x) : RG G d w' R base rs := by
  obtain ⟨v, hb, hv, hg⟩ := h.data
  have hn' : ∀ x ∈ M, ¬ G x := fun x hx => (hn x hx).2
  exact ⟨h.lt, Nat.le_trans h.le k.size, fun y hy => h.new y (Nat.le_trans k.size hy), h.few, v, hb.kept k (fun hx => (hn R hx).1 rfl), hv,
    hg.kept (NR.good d) k (fun x hx e => hn' x hx (hv x e)) (fun x hx hs => hn' x hx hs.1)⟩
theorem RG.kept0 (h : RG G d w R base rs) (k : Kept [] w w') : RG G d w' R base rs := h.kept k (by simp)
theorem RG.form (h : RG G d w R base rs) : ∃ a c, rs.length ≤ c ∧ c ≤ 9223372036854775807 ∧ w.cell? ⟨R, 0, none⟩ = some (.slice a rs.length c) ∧ Hid (Blk w R [.slice a rs.length c] 100) ∧ Hid (Rd (fun S w e (x : RN) => NR d S w e x) RN.row 3 G w (.slice a rs.length c) rs) ∧
    Hid ((∀ y, (Value.slice a rs.length c).ownBlock = some y → G y) ∧ Gr (fun S w e (x : RN) => NR d S w e x) RN.row 3 103 (fun y => G y ∧ y ≠ R) base w (.slice a rs.length c) rs) := by
  obtain ⟨v, hb, hv, hg⟩ := h.data
  obtain ⟨a, c, rfl, q1, q2⟩ := hg.shape
  exact ⟨a, c, q1, q2, hb.cell 0 _ rfl, hb, Gr.rdT (NR.good d) hg (fun _ h => h.1) hv, hv, hg⟩
/-- The node with a number. -/
def rAt (rs : List RN) (n : Int) : Option RN := if 1 ≤ n then (match rs[(n - 1).toNat]? with | some x => if x.there then some x else none | none => none) else none
def rDeps (rs : List RN) (n : Int) : List Dp := match rAt rs n with | some x => x.deps | none => []
def rUses (rs : List RN) (n : Int) : List Int := match rAt rs n with | some x => x.uses | none => []
theorem rAt_small {n : Int} (h : ¬ 1 ≤ n) : rAt rs n = none := if_neg h
theorem rAt_big {n : Int} (h : (rs.length : Int) < n) : rAt rs n = none := by
  unfold rAt
  split
  · rw [List.getElem?_eq_none (by omega)]
  · rfl
theorem rAt_at {k : Nat} {x : RN} (h : rs[k]? = some x) : rAt rs ((k : Int) + 1) = if x.there then some x else none := by
  unfold rAt
  rw [if_pos (by omega), show ((k : Int) + 1 - 1).toNat = k by omega, h]
theorem rAt_some {n : Int} {x : RN} (h : rAt rs n = some x) : ∃ k : Nat, n = (k : Int) + 1 ∧ k < rs.length ∧ rs[k]? = some x ∧ x.there = true := by
  unfold rAt at h
  split at h
  · refine ⟨(n - 1).toNat, by omega, ?_⟩
    cases hk : rs[(n - 1).toNat]? with
    | none => rw [hk] at h; cases h
    | some y =>
      rw [hk] at h
      simp only at h
      split at h
      · cases h; exact ⟨(List.getElem?_eq_some_iff.1 hk).1, rfl, by assumption⟩
      · cases h
  · cases h
/-- Rows of nodes, one at a time. -/
theorem Rd.node {a : Option Addr} {n c : Nat} (h : Rd (fun S w e (x : RN) => NR d S w e x) RN.row 3 G w (.slice a n c) rs) (hne : rs ≠ []) :
    ∃ b off, a = some ⟨b, off, none⟩ ∧ G b ∧ b < w.heap.size ∧ ∀ (k : Nat) (x : RN), rs[k]? = some x → ∃ a1 c1 a2 c2, w.rangeAt b (off + k * 3) [.bool x.there, .slice a1 x.deps.length c1, .slice a2 x.uses.length c2] ∧ DL d G w (.slice a1 x.deps.length c1) x.deps ∧ Reads G w (.slice a2 x.uses.length c2) 1 (irows x.uses) ∧ x.deps.length ≤ 1000 ∧ x.uses.length ≤ 1000 := by
  obtain ⟨a', c', e, _, _, h3⟩ := h.form
  cases e
  obtain ⟨b, off, rfl, q1, q2, q3⟩ := h3.resolve_left hne
  refine ⟨b, off, rfl, q1, q2, fun k x hx => ?_⟩
  obtain ⟨e, hr, _, hc⟩ := q3 k x hx
  obtain ⟨a1, c1, a2, c2, rfl, z1, z2, z3⟩ := hc.pair
  exact ⟨a1, c1, a2, c2, hr, z1, z2, z3⟩
end

set_option maxRecDepth 100000 in
theorem rNew (w : World) : Calls Tryz.prog 31 #[] w fun e w' => e = .returned (.pointer (some ⟨w.heap.size, 0, none⟩)) ∧ Blk w' w.heap.size [.slice none 0 0] 100 ∧ w'.heap.size = w.heap.size + 1 ∧ Kept [] w w' := by
  go_enter Tryz.func31, Tryz.ntmps31
  go_wp2
  go_ret
  exact ⟨rfl, Blk.new _ _ _, by simp, (Kept.refl [] w).alloc _⟩

set_option maxRecDepth 100000 in
set_option maxHeartbeats 1600000 in
theorem rHas {G : Nat → Prop} (d : Nat) (R base : Nat) (rs : List RN) (n : Int) (w : World) (h : RG G d w R base rs) :
    Calls Tryz.prog 50 #[.pointer (some ⟨R, 0, none⟩), .int .i64 n] w fun e w' => e = .returned (.bool (rAt rs n).isSome) ∧ w = w' := by
  obtain ⟨a, c, g1, g2, e0, _, HR, _⟩ := h.form
  have hfew := h.few
  clear h
  by_cases hn : 1 ≤ n
  · by_cases hb : n ≤ rs.length
    · obtain ⟨k, rfl⟩ : ∃ k : Nat, n = (k : Int) + 1 := ⟨(n - 1).toNat, by omega⟩
      have hlt : k < rs.length := by omega
      have hne : rs ≠ [] := by rintro rfl; simp at hlt
      obtain ⟨b1, o1, rfl, _, hb1, hc1⟩ := HR.out.node hne
      obtain ⟨x, hx⟩ := getp rs k hlt
      obtain ⟨a1, c1, a2, c2, hr, _⟩ := hc1 k x hx
      have u0 := hr 0 _ rfl
      rw [Nat.add_zero] at u0
      have hat := rAt_at hx
      have HAT := Lib.hid hat
      have hkc : k < c := by omega
      have d1 : decide ((k : Int) + 1 ≥ 1) = true := by simp; omega
      have d2 : decide ((k : Int) + 1 ≤ (rs.length : Int)) = true := by simp; omega
      clear hc1 hr hx hat HR hne
      go_enter Tryz.func50, Tryz.ntmps50
      go_wp2
      go_ret
      refine ⟨?_, rfl⟩
      rw [HAT.out]
      cases x.there <;> rfl
    · have HAT := Lib.hid (rAt_big (rs := rs) (n := n) (by omega))
      have d1 : decide (n ≥ 1) = true := by simp; omega
      have d2 : decide (n ≤ (rs.length : Int)) = false := by simp; omega
      clear HR
      go_enter Tryz.func50, Tryz.ntmps50
      go_wp2
      go_ret
      refine ⟨?_, rfl⟩
      rw [HAT.out]
      rfl
  · have HAT := Lib.hid (rAt_small (rs := rs) hn)
    have d1 : decide (n ≥ 1) = false := by simp; omega
    clear HR
    go_enter Tryz.func50, Tryz.ntmps50
    go_wp2
    go_ret
    refine ⟨?_, rfl⟩
    rw [HAT.out]
    rfl

set_option maxRecDepth 100000 in
set_option maxHeartbeats 1600000 in
theorem rOwnDeps {G : Nat → Prop} (d : Nat) (R base : Nat) (rs : List RN) (n : Int) (w : World) (h : RG G d w R base rs) :
    Calls Tryz.prog 53 #[.pointer (some ⟨R, 0, none⟩), .int .i64 n] w fun e w' => ∃ v', e = .returned v' ∧ DL d G w' v' (rDeps rs n) ∧ w = w' := by
  obtain ⟨a, c, g1, g2, e0, _, HR, _⟩ := h.form
  have HH := Lib.hid (rHas d R base rs n w h)
  have hfew := h.few
  clear h
  cases hat : rAt rs n with
  | none =>
    have HAT := Lib.hid hat
    clear hat HR
    go_enter Tryz.func53, Tryz.ntmps53
    go_wp2_with (go_at_call 50; refine HH.out.mono ?_; rintro e w1 ⟨rfl, rfl⟩; rw [HAT.out])
    go_ret
    exact ⟨_, rfl, by unfold rDeps; rw [HAT.out]; exact DL.nil _ _ _, rfl⟩
  | some x =>
    obtain ⟨k, rfl, hlt, hx, _⟩ := rAt_some hat
    have HAT := Lib.hid hat
    have hne : rs ≠ [] := by rintro rfl; simp at hlt
    obtain ⟨b1, o1, rfl, _, hb1, hc1⟩ := HR.out.node hne
    obtain ⟨a1, c1, a2, c2, hr, hd1, _⟩ := hc1 k x hx
    have HD1 := Lib.hid hd1
    have u1 := hr 1 _ rfl
    have hkc : k < c := by omega
    clear hc1 hr hx hat HR hne hd1
    go_enter Tryz.func53, Tryz.ntmps53
    go_wp2_with (go_at_call 50; refine HH.out.mono ?_; rintro e w1 ⟨rfl, rfl⟩; rw [HAT.out])
    go_ret
    exact ⟨_, rfl, by unfold rDeps; rw [HAT.out]; exact HD1.out, rfl⟩

set_option maxRecDepth 100000 in
set_option maxHeartbeats 1600000 in
theorem rUsesOf {G : Nat → Prop} (d : Nat) (R base : Nat) (rs : List RN) (n : Int) (w : World) (h : RG G d w R base rs) :
    Calls Tryz.prog 54 #[.pointer (some ⟨R, 0, none⟩), .int .i64 n] w fun e w' => ∃ v', e = .returned v' ∧ Reads G w' v' 1 (irows (rUses rs n)) ∧ w = w' := by
  obtain ⟨a, c, g1, g2, e0, _, HR, _⟩ := h.form
  have HH := Lib.hid (rHas d R base rs n w h)
  have hfew := h.few
  clear h
  cases hat : rAt rs n with
  | none =>
    have HAT := Lib.hid hat
    clear hat HR
    go_enter Tryz.func54, Tryz.ntmps54
    go_wp2_with (go_at_call 50; refine HH.out.mono ?_; rintro e w1 ⟨rfl, rfl⟩; rw [HAT.out])
    go_ret
    exact ⟨_, rfl, by unfold rUses; rw [HAT.out]; exact Reads.nil _ _ _, rfl⟩
  | some x =>
    obtain ⟨k, rfl, hlt, hx, _⟩ := rAt_some hat
    have HAT := Lib.hid hat
    have hne : rs ≠ [] := by rintro rfl; simp at hlt
    obtain ⟨b1, o1, rfl, _, hb1, hc1⟩ := HR.out.node hne
    obtain ⟨a1, c1, a2, c2, hr, _, hd1, _⟩ := hc1 k x hx
    have HD1 := Lib.hid hd1
    have u1 := hr 2 _ rfl
    have hkc : k < c := by omega
    clear hc1 hr hx hat HR hne hd1
    go_enter Tryz.func54, Tryz.ntmps54
    go_wp2_with (go_at_call 50; refine HH.out.mono ?_; rintro e w1 ⟨rfl, rfl⟩; rw [HAT.out])
    go_ret
    exact ⟨_, rfl, by unfold rUses; rw [HAT.out]; exact HD1.out, rfl⟩
end Go.Proofs.YtkldomkooleecaaGreatDoor

/- Walks over the reference graph: Dependents, Remove. -/
namespace Go.Proofs.YtkldomkooleecaaGreatDoor
open Go.RowKit

def uses1 (rs : List RN) (n : Int) (k : Nat) : Bool := match rAt rs ((k : Int) + 1) with | some x => decide (n ∈ x.uses) | none => false
/-- The first k nodes that use n. -/
def usedR (rs : List RN) (n : Int) (k : Nat) : List Int := ((List.range k).filter (uses1 rs n)).map fun i : Nat => (i : Int) + 1
theorem usedR_succ (rs : List RN) (n : Int) (k : Nat) : usedR rs n (k + 1) = usedR rs n k ++ (if uses1 rs n k then [(k : Int) + 1] else []) := by
  unfold usedR
  rw [List.range_succ, List.filter_append, List.map_append]
  cases h : uses1 rs n k <;> simp [h]
theorem usedR_len (rs : List RN) (n : Int) (k : Nat) : (usedR rs n k).length ≤ k := by
  unfold usedR
  have := List.length_filter_le (uses1 rs n) (List.range k)
  simpa using this
def rDept (rs : List RN) (n : Int) : List Int := if (rAt rs n).isSome then usedR rs n rs.length else []

set_option maxRecDepth 100000 in
set_option maxHeartbeats 3200000 in
theorem rDependents {G : Nat → Prop} (d : Nat) (R base : Nat) (rs : List RN) (n : Int) (w : World) (h : RG G d w R base rs) :
    Calls Tryz.prog 52 #[.pointer (some ⟨R, 0, none⟩), .int .i64 n] w fun e w' => ∃ v', e = .returned v' ∧ Own w' w.heap.size 3 1 v' (irows (rDept rs n)) ∧ Kept [] w w' := by
  obtain ⟨i0, hi, hz0, hz1, hz2⟩ := info_parts info_int'
  have HG := Lib.hid h
  have hfew := h.few
  have HH := Lib.hid (fun m W (hk : Kept [] w W) => rHas d R base rs m W (h.kept0 hk))
  clear h
  unfold rDept
  cases hat : rAt rs n with
  | none =>
    have hn1 : (rAt rs n).isSome = false := by rw [hat]; rfl
    obtain ⟨a, c, g1, g2, e0, _⟩ := HG.out.form
    clear hat
    go_enter Tryz.func52, Tryz.ntmps52
    go_wp2
    refine wp_loop_rounds 1 ?_
    rw [rounds_succ]
    by_cases hl : rs = []
    · subst hl
      go_wp2
      go_ret
      exact ⟨_, rfl, Own.nil _ _ _ _, Kept.refl _ _⟩
    · have hl' : 1 ≤ rs.length := by cases rs with | nil => exact absurd rfl hl | cons _ _ => simp
      have hd : decide ((1 : Int) ≤ (rs.length : Int)) = true := by simp; omega
      go_wp2_with (go_at_call 50; refine (HH.out _ _ (Kept.refl _ _)).mono ?_; rintro e w1 ⟨rfl, rfl⟩; rw [hn1])
      go_ret
      exact ⟨_, rfl, Own.nil _ _ _ _, Kept.refl _ _⟩
  | some y =>
    have hn1 : (rAt rs n).isSome = true := by rw [hat]; rfl
    clear hat
    go_enter Tryz.func52, Tryz.ntmps52
    go_wp2
    go_loopw [5, 6] (fun v i wr => ∃ k : Nat, k ≤ rs.length ∧ i = .int .i64 ((k : Int) + 1) ∧ Kept [] w wr ∧ Hid (Own wr w.heap.size 3 1 v (irows (usedR rs n k)))) (fun _ i _ => rs.length + 1 - (intOf i).toNat)
    case atStart => exact ⟨0, Nat.zero_le _, by go_num, Kept.refl _ _, by rw [show usedR rs n 0 = [] from rfl]; exact Own.nil _ _ _ _⟩
    case round =>
      obtain ⟨k, hk, rfl, hkr, hv⟩ := hrel
      obtain ⟨wo, hwo⟩ : ∃ wo : World, wo = wr := ⟨_, rfl⟩
      subst hwo
      obtain ⟨a, c, g1, g2, e0, _, HR, _⟩ := (HG.out.kept0 hkr).form
      have hlen := usedR_len rs n k
      have HS := Lib.hid (usedR_succ rs n k)
      generalize hacc : usedR rs n k = acc at hv hlen HS
      have HACC := Lib.hid hacc
      clear hacc
      by_cases hlt : k < rs.length
      · have hne : rs ≠ [] := by rintro rfl; simp at hlt
        obtain ⟨b1, o1, rfl, _, hb1, hc1⟩ := HR.out.node hne
        obtain ⟨x, hx⟩ := getp rs k hlt
        obtain ⟨a1, c1, a2, c2, hr, _, hu1, _⟩ := hc1 k x hx
        have u2 := hr 2 _ rfl
        have hat := rAt_at hx
        have hi1 : (rAt rs ((k : Int) + 1)).isSome = x.there := by rw [hat]; cases x.there <;> rfl
        have HU1 : Hid (uses1 rs n k = (x.there && decide (n ∈ x.uses))) := by unfold uses1; rw [hat]; cases x.there <;> simp [Hid]
        have HUR := Lib.hid hu1
        have hkc : k < c := by omega
        have hd : decide ((k : Int) + 1 ≤ (rs.length : Int)) = true := by simp; omega
        have hwk : IntKind.i64.wrap ((k : Int) + 1 - 1) = (k : Int) := by rw [show (k : Int) + 1 - 1 = (k : Int) by omega]; exact IntWalk.i64_in _ (by omega)
        clear hc1 hr hx hat HR hne hu1
        cases hth : x.there with
        | false =>
          rw [hth] at hi1 HU1
          go_wp2_with (go_at_call 50; refine (HH.out _ _ hkr).mono ?_; rintro e w1 ⟨rfl, rfl⟩; first | rw [hn1] | rw [hi1])
          go_roundw
          case rel => exact ⟨k + 1, by omega, by go_num, hkr, by rw [Hid, HS.out, HU1.out]; simpa using hv.out⟩
          case measure => simp [intOf]; omega
        | true =>
          rw [hth] at hi1 HU1
          obtain ⟨cn, hcn⟩ : ∃ cn, cn = decide (n ∈ x.uses) := ⟨_, rfl⟩
          rw [← hcn] at HU1
          have HCN := Lib.hid hcn
          clear hcn
          have hszr := hkr.size
          cases cn
          · go_wp2_with (first
              | (go_at_call 50; refine (HH.out _ _ hkr).mono ?_; rintro e w1 ⟨rfl, rfl⟩; first | rw [hn1] | rw [hi1])
              | (go_at_call 67; refine (contains_any _ x.uses n _ (by exact HUR.out)).mono ?_; rintro e w1 ⟨rfl, rfl⟩; rw [← HCN.out]))
            go_roundw
            case rel => exact ⟨k + 1, by omega, by go_num, hkr, by rw [Hid, HS.out, HU1.out]; simpa using hv.out⟩
            case measure => simp [intOf]; omega
          · go_wp2_with (first
              | (go_at_call 50; refine (HH.out _ _ hkr).mono ?_; rintro e w1 ⟨rfl, rfl⟩; first | rw [hn1] | rw [hi1])
              | (go_at_call 67; refine (contains_any _ x.uses n _ (by exact HUR.out)).mono ?_; rintro e w1 ⟨rfl, rfl⟩; rw [← HCN.out])
              | (refine wpList_append1 (.tmp 37) (.tmp 38) 22 3 rfl rfl rfl rfl rfl i0 (.int .i64 0) 1 8 Tryz.underlying22 hi hz0 hz1 hz2 rfl (by decide) (by decide) w.heap.size _ _ (fun _ => rfl) (fun _ => rfl) [.int .i64 ((k : Int) + 1)] rfl rfl (by simp [Value.oneCell']) hv.out (by simp; omega) (by simp; omega) (by omega) ?_; intro v2 w2 ho2 hk2 hl2; clear hl2; have HO2 := Lib.hid ho2; have HK2 := Lib.hid hk2; clear ho2 hk2))
            go_roundw
            case rel =>
              have hk2 := HK2.out u5.ownBlock.toList (by intro y hy; simp [hy])
              refine ⟨k + 1, by omega, by go_num, hkr.trans' hk2 (fun y hy => .inr (hv.out.lt y (by simpa using hy)).1), ?_⟩
              rw [Hid, HS.out, HU1.out]
              simp only [Bool.and_self, if_true]
              rw [irows_append]
              exact HO2.out
            case measure => simp [intOf]; omega
      · have hd : decide ((k : Int) + 1 ≤ (rs.length : Int)) = false := by simp; omega
        have hd' : ¬ (k : Int) + 1 ≤ (rs.length : Int) := by omega
        go_wp2
        go_ret
        refine ⟨_, rfl, ?_, hkr⟩
        have hfin := hv.out
        rw [← HACC.out, show k = rs.length by omega] at hfin
        exact hfin

/-- Block y is the nodes' own. -/
def OwnAt (w : World) (p : Addr) (y : Nat) : Prop := ∃ v, w.cell? p = some v ∧ v.ownBlock = some y
theorem OwnAt.of {w : World} {p : Addr} {v : Value} (h : w.cell? p = some v) (y : Nat) : OwnAt w p y ↔ v.ownBlock = some y := by
  constructor
  · rintro ⟨v', h1, h2⟩
    rw [h] at h1
    cases h1
    exact h2
  · exact fun h2 => ⟨v, h, h2⟩
theorem OwnAt.kept {w w' : World} {M : List Nat} {p : Addr} {v : Value} (hp : w.cell? p = some v) (k : Kept M w w') (hn : p.block ∉ M) (y : Nat) : OwnAt w' p y ↔ OwnAt w p y := by
  rw [OwnAt.of (k.cell' hp hn), OwnAt.of hp]
/-- What an operation on the reference graph may turn. -/
inductive RTurn (R : Nat) (w w' : World) : Prop
  | mk (M : List Nat) (hM : ∀ y ∈ M, y = R ∨ OwnAt w ⟨R, 0, none⟩ y) (hk : Kept M w w') (h0 : ∀ y, OwnAt w' ⟨R, 0, none⟩ y → OwnAt w ⟨R, 0, none⟩ y ∨ w.heap.size ≤ y)

theorem flatten_set {size : Nat} : ∀ {rs : List (List Value)} {k j : Nat} {r : List Value} {u : Value}, (∀ q ∈ rs, q.length = size) → rs[k]? = some r → j < size → (rs.set k (r.set j u)).flatten = rs.flatten.set (k * size + j) u
  | [], k, j, r, u, _, hk, _ => by simp at hk
  | q :: rs, 0, j, r, u, hs, hk, hj => by
    simp only [List.getElem?_cons_zero, Option.some.injEq] at hk
    subst hk
    rw [List.set_cons_zero, List.flatten_cons, List.flatten_cons, Nat.zero_mul, Nat.zero_add, List.set_append_left _ _ (by rw [hs q (by simp)]; exact hj)]
  | q :: rs, k + 1, j, r, u, hs, hk, hj => by
    have hq := hs q (by simp)
    rw [List.set_cons_succ, List.flatten_cons, List.flatten_cons, flatten_set (fun p hp => hs p (by simp [hp])) (by simpa using hk) hj, List.set_append_right _ _ (by rw [hq, Nat.add_mul]; omega), hq, show (k + 1) * size + j - size = k * size + j by rw [Nat.add_mul]; omega]
theorem Own.set {w : World} {base e size g n c : Nat} {rs : List (List Value)} (h : Own w base e size (.slice (some ⟨g, 0, none⟩) n c) rs) {k j : Nat} {r : List Value} (hk : rs[k]? = some r) (hj : j < size) (u : Value) (hu : u.oneCell' = true) :
    Own (w.setCell ⟨g, k * size + j, none⟩ u) base e size (.slice (some ⟨g, 0, none⟩) n c) (rs.set k (r.set j u)) ∧ w.frozen? ⟨g, k * size + j, none⟩ = false ∧ base ≤ g ∧ ∃ v0, w.cell? ⟨g, k * size + j, none⟩ = some v0 := by
  have hs : ∀ q ∈ rs, q.length = size := fun q hq => (h.each q hq).1
  have hf := flatten_set (u := u) hs hk hj
  have hcell : ∃ v0, w.cell? ⟨g, k * size + j, none⟩ = some v0 := by
    obtain ⟨_, a, cap, hv, _, _, hx⟩ := h.rows'
    obtain ⟨rfl, _, rfl⟩ := Value.slice.inj hv
    rcases hx with hx | ⟨b, off, ha, _, _, hr⟩
    · rw [hx] at hk; simp at hk
    · cases ha
      have := hr k r hk j (r[j]'(by rw [(h.each r (List.mem_of_getElem? hk)).1]; exact hj)) (by simp)
      rw [show 0 + k * size + j = k * size + j by omega] at this
      exact ⟨_, this⟩
  rcases h.row.2 with ⟨hv, _⟩ | ⟨g', c', cur, hv, hb, hg, q3, q4, q5, q6⟩
  · cases hv
  · have hv' := hv
    simp only [Value.slice.injEq, Option.some.injEq, Addr.mk.injEq, and_true] at hv'
    obtain ⟨rfl, hn, rfl⟩ := hv'
    have hB : Blk w g cur.toList e := hg
    refine ⟨⟨⟨by rw [hf, List.length_set, List.length_set]; exact h.row.1, .inr ⟨g, c, (cur.toList.set (k * size + j) u).toArray, by rw [List.length_set]; exact hv, hb, hB.set _ u, by rw [List.length_set]; exact q3, q4, by simpa using q5, ?_⟩⟩, fun q hq => ?_⟩, hB.frozen _, hb, hcell⟩
    · show List.take _ (cur.toList.set (k * size + j) u) = _
      rw [List.length_set, List.take_set, q6, hf]
    · rcases List.mem_or_eq_of_mem_set hq with hq | rfl
      · exact h.each q hq
      · have hr := h.each r (List.mem_of_getElem? hk)
        refine ⟨by rw [List.length_set]; exact hr.1, fun v hv => ?_⟩
        rcases List.mem_or_eq_of_mem_set hv with hv | rfl
        · exact hr.2 v hv
        · exact hu
theorem zipWith_set {α β γ : Type} (f : α → β → γ) : ∀ (l : List α) (es : List β) (k : Nat) (x : α) (e : β), es[k]? = some e → List.zipWith f (l.set k x) es = (List.zipWith f l es).set k (f x e)
  | [], _, _, _, _, _ => by simp
  | _ :: _, [], _, _, _, h => by simp at h
  | y :: l, e' :: es, 0, x, e, h => by simp at h; subst h; simp
  | y :: l, e' :: es, k + 1, x, e, h => by simp [zipWith_set f l es k x e (by simpa using h)]
/-- A node is gone. -/
def outR (rs : List RN) (k : Nat) (x : RN) : List RN := rs.set k { x with there := false }
theorem RG.gone {G : Nat → Prop} {d : Nat} {w : World} {R base : Nat} {rs : List RN} (h : RG G d w R base rs) {k : Nat} {x : RN} (hx : rs[k]? = some x) : ∃ g c, w.cell? ⟨R, 0, none⟩ = some (.slice (some ⟨g, 0, none⟩) rs.length c) ∧ rs.length ≤ c ∧ c ≤ 9223372036854775807 ∧ g ≠ R ∧ w.frozen? ⟨g, k * 3, none⟩ = false ∧ g < w.heap.size ∧ (∃ v0, w.cell? ⟨g, k * 3, none⟩ = some v0) ∧
    RG G d (w.setCell ⟨g, k * 3, none⟩ (.bool false)) R base (outR rs k x) := by
  obtain ⟨v, hb, hv, es, n1, n2, n3⟩ := h.data
  have hlt := (List.getElem?_eq_some_iff.1 hx).1
  obtain ⟨e, he, hz⟩ := zip_get (r := RN.row) n1 hx
  obtain ⟨g, c, rfl⟩ : ∃ g c, v = .slice (some ⟨g, 0, none⟩) rs.length c := by
    rcases n2.row.2 with ⟨_, h0⟩ | ⟨g, c, cur, hv, _⟩
    · rw [zip_len n1] at h0; omega
    · rw [zip_len n1] at hv; exact ⟨g, c, hv⟩
  obtain ⟨o1, o2, o3, o4⟩ := n2.set hz (j := 0) (by omega) (.bool false) rfl
  obtain ⟨a', cap', hvv, q2, q3⟩ := n2.shape
  obtain ⟨rfl, _, rfl⟩ := Value.slice.inj hvv
  rw [zip_len n1] at q2
  have hgR : g ≠ R := by have := h.lt; omega
  have hk : Kept [g] w (w.setCell ⟨g, k * 3 + 0, none⟩ (.bool false)) := (Kept.refl [g] w).setCell (by simp) _
  refine ⟨g, c, hb.cell 0 _ rfl, q2, by simpa [maxLen] using q3, hgR, o2, (n2.lt g rfl).2, o4, h.lt, Nat.le_trans h.le hk.size, fun y hy => h.new y (Nat.le_trans hk.size hy), by unfold outR; rw [List.length_set]; exact h.few, _, hb.kept hk (by simpa using Ne.symm hgR), hv, es, by unfold outR; rw [List.length_set]; exact n1, ?_, fun i y e' hy he' => ?_⟩
  · have := zipWith_set RN.row rs es k { x with there := false } e he
    unfold outR
    rw [this]
    exact o1
  · have key : NR d (fun y => (G y ∧ y ≠ R) ∧ (Value.slice (some ⟨g, 0, none⟩) rs.length c).ownBlock ≠ some y) w e' y := by
      unfold outR at hy
      rw [List.getElem?_set] at hy
      split at hy
      · rename_i hki
        subst hki
        cases hy
        obtain ⟨a, b, z1, z2, z3, z4⟩ := n3 k x e' hx he'
        exact ⟨a, b, z1, z2, z3, z4⟩
      · exact n3 i y e' hy he'
    exact (NR.good d).kept key hk (fun y hy hq => hq.2 (by simp at hy; rw [hy]; rfl))

/-- A removal's turn. -/
inductive RRem (G : Nat → Prop) (d : Nat) (w : World) (R base : Nat) (rs : List RN) (n : Int) : Ending → World → Prop
  | no {w' : World} (hx : rAt rs n = none) (k : Kept [] w w') : RRem G d w R base rs n (.returned (.int .i64 7)) w'
  | used {w' : World} (hx : (rAt rs n).isSome = true) (hu : rDept rs n ≠ []) (k : Kept [] w w') : RRem G d w R base rs n (.returned (.int .i64 10)) w'
  | gone {w' : World} (k : Nat) (x : RN) (hn : n = (k : Int) + 1) (hx : rs[k]? = some x) (ht : x.there = true) (hu : rDept rs n = []) (h : RG G d w' R base (outR rs k x)) (t : RTurn R w w') : RRem G d w R base rs n (.returned (.int .i64 0)) w'

set_option maxRecDepth 100000 in
set_option maxHeartbeats 1600000 in
theorem rRemove {G : Nat → Prop} (d : Nat) (R base : Nat) (rs : List RN) (n : Int) (w : World) (h : RG G d w R base rs) :
    Calls Tryz.prog 33 #[.pointer (some ⟨R, 0, none⟩), .int .i64 n] w fun e w' => RRem G d w R base rs n e w' := by
  have HG := Lib.hid h
  have HH := Lib.hid (rHas d R base rs n w h)
  have HD := Lib.hid (rDependents d R base rs n w h)
  have hfew := h.few
  clear h
  cases hat : rAt rs n with
  | none =>
    have HAT := Lib.hid hat
    clear hat
    go_enter Tryz.func33, Tryz.ntmps33
    go_wp2_with (go_at_call 50; refine HH.out.mono ?_; rintro e w1 ⟨rfl, rfl⟩; rw [HAT.out])
    go_ret
    exact .no HAT.out (Kept.refl _ _)
  | some x =>
    obtain ⟨k, rfl, hlt, hx, hth⟩ := rAt_some hat
    have HAT := Lib.hid hat
    have HX := Lib.hid hx
    have hlen : (rDept rs ((k : Int) + 1)).length ≤ 1000 := by
      unfold rDept
      split
      · have := usedR_len rs ((k : Int) + 1) rs.length; omega
      · simp
    obtain ⟨l, hl⟩ : ∃ l, l = rDept rs ((k : Int) + 1) := ⟨_, rfl⟩
    rw [← hl] at HD hlen
    have HL := Lib.hid hl
    clear hat hl
    by_cases hne : l = []
    · subst hne
      have HRG : Hid (∀ w', Kept [] w w' → RG G d w' R base rs) := Lib.hid fun w' hk => HG.out.kept0 hk
      go_enter Tryz.func33, Tryz.ntmps33
      go_wp2_with (first
        | (go_at_call 50; refine HH.out.mono ?_; rintro e w1 ⟨rfl, rfl⟩; rw [HAT.out])
        | (go_at_call 52; refine HD.out.mono ?_; rintro e w2 ⟨v2, rfl, ho, hk2⟩; obtain ⟨a2, c2, rfl, _⟩ := ho.rows'.ints; have HK2 := Lib.hid hk2; obtain ⟨g, c, q1, q2, q3, q4, q5, q6, ⟨v0, q8⟩, q7⟩ := (HRG.out w2 hk2).gone hx; have HQ7 := Lib.hid q7; clear q7 ho hk2))
      go_ret
      refine .gone k x rfl HX.out hth HL.out.symm HQ7.out (.mk [g] (fun y hy => .inr ?_) (HK2.out.nil.trans ((Kept.refl [g] w2).setCell (by simp) _)) (fun y hy => .inl ?_))
      · simp at hy
        subst hy
        obtain ⟨a, c', p1, p2, p3, _⟩ := HG.out.form
        have := HK2.out.cell' p3 (by simp)
        rw [this] at q1
        cases q1
        exact ⟨_, p3, rfl⟩
      · obtain ⟨a, c', p1, p2, p3, _⟩ := HG.out.form
        have := HK2.out.cell' p3 (by simp)
        refine (OwnAt.kept p3 (HK2.out.nil.trans ((Kept.refl [g] w2).setCell (by simp) (.bool false))) (by simpa using Ne.symm q4) y).1 hy
    · have hl1 : 0 < l.length := by cases l with | nil => exact absurd rfl hne | cons _ _ => simp
      go_enter Tryz.func33, Tryz.ntmps33
      go_wp2_with (first
        | (go_at_call 50; refine HH.out.mono ?_; rintro e w1 ⟨rfl, rfl⟩; rw [HAT.out])
        | (go_at_call 52; refine HD.out.mono ?_; rintro e w2 ⟨v2, rfl, ho, hk2⟩; obtain ⟨a2, c2, rfl, _⟩ := ho.rows'.ints; have HK2 := Lib.hid hk2; clear ho hk2))
      go_ret
      exact .used (by rw [HAT.out]; rfl) (by rw [← HL.out]; exact hne) HK2.out
end Go.Proofs.YtkldomkooleecaaGreatDoor

/- Walks over the reference graph: ByFunction. -/
namespace Go.Proofs.YtkldomkooleecaaGreatDoor
open Go.RowKit

def by1 (rs : List RN) (f : ByteArray) (k : Nat) : Bool := match rAt rs ((k : Int) + 1) with | some x => x.deps.any (onFn f) | none => false
/-- The first k nodes with a dependency on f. -/
def byR (rs : List RN) (f : ByteArray) (k : Nat) : List Int := ((List.range k).filter (by1 rs f)).map fun i : Nat => (i : Int) + 1
theorem byR_succ (rs : List RN) (f : ByteArray) (k : Nat) : byR rs f (k + 1) = byR rs f k ++ (if by1 rs f k then [(k : Int) + 1] else []) := by
  unfold byR
  rw [List.range_succ, List.filter_append, List.map_append]
  cases h : by1 rs f k <;> simp [h]
theorem byR_len (rs : List RN) (f : ByteArray) (k : Nat) : (byR rs f k).length ≤ k := by
  unfold byR
  have := List.length_filter_le (by1 rs f) (List.range k)
  simpa using this
theorem byR_le (rs : List RN) (f : ByteArray) (k : Nat) : ∀ x ∈ byR rs f k, x < (k : Int) + 1 := by
  intro x hx
  unfold byR at hx
  obtain ⟨i, hi, rfl⟩ := List.mem_map.1 hx
  have := List.mem_range.1 (List.mem_filter.1 hi).1
  omega
theorem ins_end {l : List Int} {n : Int} (h : ∀ x ∈ l, x < n) : ins l n = l ++ [n] := by
  rw [ins_eq l n l.length (Nat.le_refl _) (by rw [List.take_length]; exact h) (fun x hx => by simp at hx)]
  simp
theorem ins_last {l : List Int} {n : Int} (h : ∀ x ∈ l, x < n) : ins (l ++ [n]) n = l ++ [n] :=
  ins_eq_same (l ++ [n]) n l.length (by simpa using h) (by simp)

set_option maxRecDepth 100000 in
set_option maxHeartbeats 3200000 in
theorem rByFunction {G : Nat → Prop} (d : Nat) (R base : Nat) (rs : List RN) (f : ByteArray) (w : World) (h : RG G d w R base rs) :
    Calls Tryz.prog 35 #[.pointer (some ⟨R, 0, none⟩), .string f] w fun e w' => ∃ v', e = .returned v' ∧ Reads (w.heap.size ≤ ·) w' v' 1 (irows (byR rs f rs.length)) ∧ Kept [] w w' := by
  have HG := Lib.hid h
  have hfew := h.few
  have HH := Lib.hid (fun m W (hk : Kept [] w W) => rHas d R base rs m W (h.kept0 hk))
  clear h
  go_enter Tryz.func35, Tryz.ntmps35
  go_wp2
  go_loopw [5, 6] (fun v i wr => ∃ k : Nat, k ≤ rs.length ∧ i = .int .i64 ((k : Int) + 1) ∧ Kept [] w wr ∧ Hid (Reads (w.heap.size ≤ ·) wr v 1 (irows (byR rs f k)))) (fun _ i _ => rs.length + 1 - (intOf i).toNat)
  case atStart => exact ⟨0, Nat.zero_le _, by go_num, Kept.refl _ _, Reads.nil _ _ _⟩
  case round =>
    obtain ⟨k, hk, rfl, hkr, hv⟩ := hrel
    obtain ⟨wo, hwo⟩ : ∃ wo : World, wo = wr := ⟨_, rfl⟩
    subst hwo
    obtain ⟨a, c, g1, g2, e0, _, HR, _⟩ := (HG.out.kept0 hkr).form
    have hlen := byR_len rs f k
    have HS := Lib.hid (byR_succ rs f k)
    have HLE := Lib.hid (byR_le rs f k)
    generalize hacc : byR rs f k = acc at hv hlen HS HLE
    have HACC := Lib.hid hacc
    clear hacc
    by_cases hlt : k < rs.length
    · have hne : rs ≠ [] := by rintro rfl; simp at hlt
      obtain ⟨b1, o1, rfl, _, hb1, hc1⟩ := HR.out.node hne
      obtain ⟨x, hx⟩ := getp rs k hlt
      obtain ⟨a1, c1, a2, c2, hr, hd1, _, hl1, _⟩ := hc1 k x hx
      have u1 := hr 1 _ rfl
      have hat := rAt_at hx
      have hi1 : (rAt rs ((k : Int) + 1)).isSome = x.there := by rw [hat]; cases x.there <;> rfl
      have HB1 : Hid (by1 rs f k = (x.there && x.deps.any (onFn f))) := by unfold by1; rw [hat]; cases x.there <;> simp [Hid]
      obtain ⟨a3, c3, hv3, p1, p2, p3⟩ := hd1.form
      obtain ⟨rfl, _, rfl⟩ := Value.slice.inj hv3
      have P3 := Lib.hid p3
      have hkc : k < c := by omega
      have hwk : IntKind.i64.wrap ((k : Int) + 1 - 1) = (k : Int) := by rw [show (k : Int) + 1 - 1 = (k : Int) by omega]; exact IntWalk.i64_in _ (by omega)
      clear hc1 hr hx hat HR hne hd1 p3 hv3
      generalize x.deps = ds at u1 HB1 p1 p2 P3 hl1
      go_wp2_with fail
      cases hth : x.there with
      | false =>
        rw [hth] at hi1 HB1
        refine wp_loop_rounds 1 ?_
        rw [rounds_succ]
        by_cases hd0 : ds = []
        · subst hd0
          have q1 : decide ((0 : Int) < ((List.length ([] : List Dp) : Nat) : Int)) = false := by simp
          go_wp2
          go_roundw
          case rel => exact ⟨k + 1, by omega, by go_num, hkr, by rw [Hid, HS.out, HB1.out]; simpa using hv.out⟩
          case measure => simp [intOf]; omega
        · have hd1 : 0 < ds.length := by cases ds with | nil => exact absurd rfl hd0 | cons _ _ => simp
          have q1 : decide ((0 : Int) < (ds.length : Int)) = true := by simp; omega
          go_wp2_with (go_at_call 50; refine (HH.out _ _ hkr).mono ?_; rintro e w1 ⟨rfl, rfl⟩; rw [hi1])
          go_roundw
          case rel => exact ⟨k + 1, by omega, by go_num, hkr, by rw [Hid, HS.out, HB1.out]; simpa using hv.out⟩
          case measure => simp [intOf]; omega
      | true =>
        rw [hth] at hi1 HB1
        have HOR : Hid (wo = wo) := Lib.hid rfl
        go_loopw [5, 7] (fun v j wi => ∃ q : Nat, q ≤ ds.length ∧ j = .int .i64 q ∧ Kept [] wo wi ∧ Hid (Reads (w.heap.size ≤ ·) wi v 1 (irows (acc ++ if (ds.take q).any (onFn f) then [(k : Int) + 1] else [])))) (fun _ j _ => ds.length - (intOf j).toNat)
        case atStart => exact ⟨0, Nat.zero_le _, by go_num, Kept.refl _ _, by simpa [Hid] using hv.out⟩
        case round =>
          obtain ⟨q, hq, rfl, hki, hv2⟩ := hrel
          obtain ⟨wi, hwi⟩ : ∃ wi : World, wi = wr := ⟨_, rfl⟩
          subst hwi
          have hkri := hkr.trans hki
          have e0i := hki.cell' e0 (by simp)
          have u1i := hki.cell' u1 (by simp)
          by_cases hlq : q < ds.length
          · have hnd : ds ≠ [] := by rintro rfl; simp at hlq
            obtain ⟨b2, o2, rfl, _, hb2, hc2⟩ := P3.out.resolve_left hnd
            obtain ⟨y, hy⟩ := getp ds q hlq
            obtain ⟨qa, qc, ra, rc, hr, _, _, _⟩ := hc2 q y hy
            have u2 : wi.cell? ⟨b2, o2 + q * 7 + 0, none⟩ = some (.string y.fn) := hki.cell' (hr 0 _ rfl) (by simp)
            rw [Nat.add_zero] at u2
            have HST := Lib.hid (any_take_snoc (onFn f) ds q y hy)
            have hqc : q < c1 := by omega
            have qd : decide ((q : Int) < (ds.length : Int)) = true := by simp; omega
            clear hc2 hr hnd P3 hy
            obtain ⟨eg, heg⟩ : ∃ eg, eg = (y.fn.toList == f.toList) := ⟨_, rfl⟩
            have hbe := heg.symm
            have HBE := Lib.hid hbe
            clear heg
            cases eg
            · go_wp2_with (go_at_call 50; refine (HH.out _ _ hkri).mono ?_; rintro e w1 ⟨rfl, rfl⟩; rw [hi1])
              go_roundw
              case rel => exact ⟨q + 1, by omega, by go_num, hki, by rw [Hid, HST.out, show onFn f y = false from HBE.out, Bool.or_false]; exact hv2.out⟩
              case measure => simp [intOf]; omega
            · have hlen2 : (acc ++ if (ds.take q).any (onFn f) then [(k : Int) + 1] else []).length ≤ 1000000 := by
                rw [List.length_append]
                split <;> simp <;> omega
              go_wp2_with (first
                | (go_at_call 50; refine (HH.out _ _ hkri).mono ?_; rintro e w1 ⟨rfl, rfl⟩; rw [hi1])
                | (go_at_call 51; refine (inserted _ _ ((k : Int) + 1) _ (by exact hv2.out) hlen2).mono ?_; rintro e w2 ⟨v2, rfl, hr2, hk2⟩; have HR2 := Lib.hid hr2; have HK2 := Lib.hid hk2; clear hr2 hk2))
              go_roundw
              case rel =>
                refine ⟨q + 1, by omega, by go_num, hki.trans HK2.out, ?_⟩
                rw [Hid, HST.out, show onFn f y = true from HBE.out, Bool.or_true, if_pos rfl]
                have hr2 := HR2.out
                have hz := hkri.size
                have e3 : ins (acc ++ if (ds.take q).any (onFn f) then [(k : Int) + 1] else []) ((k : Int) + 1) = acc ++ [(k : Int) + 1] := by
                  split
                  · exact ins_last HLE.out
                  · rw [List.append_nil]; exact ins_end HLE.out
                rw [e3] at hr2
                exact hr2.mono (fun b _ hb => hb.elim id (fun h => by omega))
              case measure => simp [intOf]; omega
          · have qd : decide ((q : Int) < (ds.length : Int)) = false := by simp; omega
            have qd' : ¬ (q : Int) < (ds.length : Int) := by omega
            go_wp2
            go_roundw
            case rel =>
              refine ⟨k + 1, by omega, by go_num, hkri, ?_⟩
              have hfin := hv2.out
              rw [show q = ds.length by omega, List.take_length] at hfin
              rw [Hid, HS.out, HB1.out, Bool.true_and]
              exact hfin
            case measure => simp [intOf]; omega
    · have hd : decide ((k : Int) + 1 ≤ (rs.length : Int)) = false := by simp; omega
      have hd' : ¬ (k : Int) + 1 ≤ (rs.length : Int) := by omega
      go_wp2
      go_ret
      refine ⟨_, rfl, ?_, hkr⟩
      have hfin := hv.out
      rw [← HACC.out, show k = rs.length by omega] at hfin
      exact hfin
end Go.Proofs.YtkldomkooleecaaGreatDoor

/- Walks over the reference graph: Add. -/
namespace Go.Proofs.YtkldomkooleecaaGreatDoor
open Go.RowKit

theorem info_rnode : ∃ i z, Tryz.prog.info? 103 = some i ∧ i.zero = some z ∧ i.size = 3 ∧ i.bytes = 56 ∧ z.cells.size = 3 := by
  have h : (Tryz.prog.info? 103).map (fun i => (i.zero, i.size, i.bytes)) = some (some (.agg #[.bool false, .slice none 0 0, .slice none 0 0]), 3, 56) := by kernel_rfl
  cases hi : Tryz.prog.info? 103 with
  | none => simp [hi] at h
  | some i => simp [hi] at h; exact ⟨i, _, rfl, h.1, h.2.1, h.2.2, rfl⟩
theorem own_zeroN {W : World} {base g size : Nat} {e : TypeId} (h : W.heap[g]? = some (.cells #[] e (0, 0))) (hb : base ≤ g) : Own W base e size (.slice (some ⟨g, 0, none⟩) 0 0) [] :=
  ⟨⟨by simp, .inr ⟨g, 0, #[], rfl, hb, h, Nat.le_refl _, by simp [maxLen], by simp, by simp⟩⟩, by simp⟩

/-- An adding's turn. -/
inductive RAdd (G : Nat → Prop) (d : Nat) (w : World) (R base : Nat) (rs : List RN) (ds : List Dp) (us : List Int) : Ending → World → Prop
  | no {w' : World} (u : Int) (hu : u ∈ us) (hx : rAt rs u = none) (k : Kept [] w w') : RAdd G d w R base rs ds us (.returned (.tuple #[.int .i64 0, .int .i64 7])) w'
  | yes {w' : World} (hu : ∀ u ∈ us, (rAt rs u).isSome = true) (h : RG G d w' R base (rs ++ [⟨true, ds, asc us⟩])) (t : RTurn R w w') : RAdd G d w R base rs ds us (.returned (.tuple #[.int .i64 ((rs.length : Int) + 1), .int .i64 0])) w'

theorem rAdd_done {G : Nat → Prop} {d : Nat} {S : Nat → Prop} {R base : Nat} {rs : List RN} {ds : List Dp} {us : List Int} {w wo w2 w3 : World} {a va a8 va2 : Option Addr} {c vn vc c8 vc2 : Nat} {en es : List Value} {o : Obj}
    (h : RG G d w R base rs) (hkr : Kept [] w wo) (K1 : Kept [] wo w2) (hS : ∀ x, S x → G x ∧ x ≠ R ∧ ¬ OwnAt w ⟨R, 0, none⟩ x) (e0 : w.cell? ⟨R, 0, none⟩ = some (.slice a rs.length c))
    (nv : ∀ y, (Value.slice a rs.length c).ownBlock = some y → G y) (hlw : ∀ y, (Value.slice a rs.length c).ownBlock = some y → base ≤ y ∧ y < w.heap.size)
    (m1 : en.length = rs.length) (m3 : ∀ (k : Nat) (x : RN) (e : Value), rs[k]? = some x → en[k]? = some e → NR d (fun y => (G y ∧ y ≠ R) ∧ (Value.slice a rs.length c).ownBlock ≠ some y) wo e x)
    (n1 : es.length = ds.length) (n3 : ∀ (k : Nat) (x : Dp) (e : Value), ds[k]? = some x → es[k]? = some e → DR d S wo e x)
    (ho1 : Own w2 wo.heap.size 45 7 (.slice va vn vc) (List.zipWith Dp.row ds es)) (hfin : Reads (w.heap.size ≤ ·) wo (.slice a8 (asc us).length c8) 1 (irows (asc us)))
    (ho2 : Own w3 base 103 3 (.slice va2 (rs.length + 1) vc2) (List.zipWith RN.row rs en ++ [[.bool true, .slice va vn vc, .slice a8 (asc us).length c8]]))
    (hkb : ∀ M, (∀ x, (Value.slice a rs.length c).ownBlock = some x → x ∈ M) → Kept M (w2.alloc o) w3) (hl2 : (Value.slice va2 (rs.length + 1) vc2).ownBlock = (Value.slice a rs.length c).ownBlock ∨ ∃ g, (Value.slice va2 (rs.length + 1) vc2).ownBlock = some g ∧ (w2.alloc o).heap.size ≤ g)
    (hB : Blk w3 R [.slice a rs.length c] 100) (hdl : ds.length ≤ 1000) (hul : us.length ≤ 1000) (hf : rs.length < 1000) :
    RG G d (w3.setCell ⟨R, 0, none⟩ (.slice va2 (rs.length + 1) vc2)) R base (rs ++ [⟨true, ds, asc us⟩]) ∧ RTurn R w (w3.setCell ⟨R, 0, none⟩ (.slice va2 (rs.length + 1) vc2)) := by
  have hR := h.lt
  have hle := h.le
  have z1 := hkr.size
  have z2 := K1.size
  have K2 : Kept [] wo (w2.alloc o) := K1.alloc _
  have z3 : (w2.alloc o).heap.size = w2.heap.size + 1 := by simp
  have hown : ∀ y, w.heap.size ≤ y → (Value.slice a rs.length c).ownBlock ≠ some y := fun y hy e => by have := (hlw y e).2; omega
  have hT : ∀ y, w.heap.size ≤ y → (G y ∧ y ≠ R) ∧ (Value.slice a rs.length c).ownBlock ≠ some y := fun y hy => ⟨⟨h.new y hy, by omega⟩, hown y hy⟩
  have hx : NR d (fun y => (G y ∧ y ≠ R) ∧ (Value.slice a rs.length c).ownBlock ≠ some y) (w2.alloc o) (.tuple #[.slice va vn vc, .slice a8 (asc us).length c8]) ⟨true, ds, asc us⟩ := by
    refine ⟨_, _, rfl, ⟨es, n1, ((ho1.rows'.mono fun b _ hb => hT b (by omega)).kept ((Kept.refl [] w2).alloc o) (by simp)), fun k x e hx he => ?_⟩, (hfin.kept K2 (by simp)).mono (fun b _ hb => hT b hb), hdl, Nat.le_trans (asc_length us) hul⟩
    refine (DR.good d).mono ((DR.good d).kept (n3 k x e hx he) K2 (by simp)) fun b _ hb => ?_
    obtain ⟨q1, q2, q3⟩ := hS b hb
    exact ⟨⟨q1, q2⟩, fun e => q3 ((OwnAt.of e0 b).2 e)⟩
  have hgr := Gr.snoc (NR.good d) (l := rs) m1 (fun k x e hx he => (NR.good d).kept (m3 k x e hx he) K2 (by simp)) hx (t := 103) (w2 := w3) ho2 hkb hl2
  have K3 := hkb (Value.slice a rs.length c).ownBlock.toList (by intro x hx; simp [hx])
  have kS : Kept [R] w3 (w3.setCell ⟨R, 0, none⟩ (.slice va2 (rs.length + 1) vc2)) := (Kept.refl [R] w3).setCell (by simp) _
  have z4 := K3.size
  have hv2 : ∀ y, (Value.slice va2 (rs.length + 1) vc2).ownBlock = some y → (Value.slice a rs.length c).ownBlock = some y ∨ w.heap.size ≤ y := fun y hy => by
    rcases hl2 with q | ⟨g, q, hg⟩
    · rw [q] at hy; exact .inl hy
    · rw [q] at hy; cases hy; exact .inr (by omega)
  have hBF := hB.set 0 (.slice va2 (rs.length + 1) vc2)
  refine ⟨⟨hR, ?_, fun y hy => h.new y ?_, by simp; omega, _, hBF, fun y hy => ?_, hgr.kept (NR.good d) kS (fun x hx e => ?_) (fun x hx hq => hq.2 (by simpa using hx))⟩, .mk (R :: (Value.slice a rs.length c).ownBlock.toList) (fun y hy => ?_) ?_ (fun y hy => ?_)⟩
  · have := kS.size; omega
  · have := kS.size; omega
  · rcases hv2 y hy with q | q
    · exact nv y q
    · exact h.new y q
  · simp at hx
    subst hx
    rcases hv2 _ e with q | q
    · have := (hlw _ q).1; omega
    · omega
  · rcases List.mem_cons.1 hy with q | q
    · exact .inl q
    · exact .inr ((OwnAt.of e0 y).2 (by simpa using q))
  · exact ((hkr.trans K2).nil.trans (K3.mono (fun x hx => .inl (List.mem_cons_of_mem _ hx)))).trans (kS.mono (by simp))
  · rcases hv2 y ((OwnAt.of (hBF.cell 0 _ rfl) y).1 hy) with q | q
    · exact .inl ((OwnAt.of e0 y).2 q)
    · exact .inr q

set_option maxRecDepth 100000 in
set_option maxHeartbeats 6400000 in
theorem rAdd {G : Nat → Prop} (d : Nat) {S S' : Nat → Prop} (R base : Nat) (rs : List RN) (vd vu : Value) (ds : List Dp) (us : List Int) (w : World) (h : RG G d w R base rs) (hd : DL d S w vd ds) (hu : Reads S' w vu 1 (irows us))
    (hS : ∀ x, S x → G x ∧ x ≠ R ∧ ¬ OwnAt w ⟨R, 0, none⟩ x) (hf : rs.length < 1000) (hdl : ds.length ≤ 1000) (hul : us.length ≤ 1000) :
    Calls Tryz.prog 32 #[.pointer (some ⟨R, 0, none⟩), vd, vu] w fun e w' => RAdd G d w R base rs ds us e w' := by
  have HG := Lib.hid h
  have HD := Lib.hid hd
  have HS := Lib.hid hS
  have HH := Lib.hid (fun m W (hk : Kept [] w W) => rHas d R base rs m W (h.kept0 hk))
  obtain ⟨a1, c1, rfl, _⟩ := hd.form
  obtain ⟨a2, c2, rfl, p1, p2, p3⟩ := hu.ints
  have P3 := Lib.hid p3
  obtain ⟨a, c, g1, g2, e0, HB, _, HX⟩ := h.form
  clear h hd hu hS p3
  obtain ⟨i0, z0, hi, hz0, hz1, hz2, hz3⟩ := info_dep
  obtain ⟨j0, y0, hj, hy0, hy1, hy2, hy3⟩ := info_rnode
  have hge : ¬ (100000 : Int) ≤ (rs.length : Int) := by omega
  go_enter Tryz.func32, Tryz.ntmps32
  go_wp2
  go_loopw [8, 9] (fun v i wr => ∃ k : Nat, k ≤ us.length ∧ i = .int .i64 k ∧ Kept [] w wr ∧ Hid (Reads (w.heap.size ≤ ·) wr v 1 (irows ((us.take k).foldl ins []))) ∧ Hid (∀ u ∈ us.take k, (rAt rs u).isSome = true)) (fun _ i _ => us.length - (intOf i).toNat)
  case atStart => exact ⟨0, Nat.zero_le _, by go_num, Kept.refl _ _, Reads.nil _ _ _, by simp [Hid]⟩
  case round =>
    obtain ⟨k, hk, rfl, hkr, hv, hno⟩ := hrel
    obtain ⟨wo, hwo⟩ : ∃ wo : World, wo = wr := ⟨_, rfl⟩
    subst hwo
    by_cases hlt : k < us.length
    · have hne : us ≠ [] := by intro h; rw [h] at hlt; simp at hlt
      obtain ⟨b3, o3, rfl, hSb, hb3, hc3⟩ := P3.out.resolve_left hne
      obtain ⟨u, hu⟩ := getp us k hlt
      have cx := hkr.cell' (hc3 k u hu) (by simp)
      have HU := Lib.hid hu
      have HT := Lib.hid (show us.take (k + 1) = us.take k ++ [u] by rw [List.take_add_one, hu]; rfl)
      have hlen : ((us.take k).foldl ins []).length ≤ 1000000 := by
        rw [asc_ins]
        have := asc_length (us.take k)
        simp only [List.length_take] at this
        omega
      clear hc3 hu hne P3
      cases hx : rAt rs u with
      | none =>
        have HX := Lib.hid hx
        clear hx
        go_wp2_with (go_at_call 50; refine (HH.out _ _ hkr).mono ?_; rintro e w1 ⟨rfl, rfl⟩; rw [HX.out])
        go_ret2
        exact .no u (List.mem_of_getElem? HU.out) HX.out hkr
      | some x =>
        have HX := Lib.hid hx
        clear hx
        go_wp2_with (first
          | (go_at_call 50; refine (HH.out _ _ hkr).mono ?_; rintro e w1 ⟨rfl, rfl⟩; rw [HX.out])
          | (go_at_call 51; refine (inserted _ _ u _ (by exact hv.out) hlen).mono ?_; rintro e w2 ⟨v2, rfl, hr2, hk2⟩; have HR2 := Lib.hid hr2; have HK2 := Lib.hid hk2; clear hr2 hk2))
        go_roundw
        case rel =>
          refine ⟨k + 1, by omega, by go_num, hkr.trans HK2.out, ?_, ?_⟩
          · rw [Hid, HT.out, List.foldl_append]
            have hz := hkr.size
            exact HR2.out.mono (fun b _ hb => hb.elim id (fun h => by omega))
          · rw [Hid, HT.out]
            intro y hy
            rcases List.mem_append.1 hy with hy | hy
            · exact hno.out y hy
            · simp at hy; subst hy; rw [HX.out]; rfl
        case measure => simp [intOf]; omega
    · have hfin := hv.out
      rw [show k = us.length by omega, List.take_length, asc_ins] at hfin
      have hall := hno.out
      rw [show k = us.length by omega, List.take_length] at hall
      have HALL := Lib.hid hall
      have HFIN := Lib.hid hfin
      obtain ⟨a8, c8, hv8, _⟩ := hfin.ints
      subst hv8
      have e0w := e0
      have e0 := hkr.cell' e0 (by simp)
      have HBO := Lib.hid (HB.out.kept hkr (by simp))
      have hbR := HBO.out.lt
      have f0 := HBO.out.frozen 0
      obtain ⟨es, n1, n2, n3⟩ := (DL.good d).kept HD.out hkr (by simp)
      have hlen : (List.zipWith Dp.row ds es).length = ds.length := zip_len n1
      have HLN := Lib.hid hlen
      have R1 : ∀ W, Kept [] wo W → Reads S W (.slice a1 ds.length c1) 7 (List.zipWith Dp.row ds es) := fun W hW => n2.kept hW (by simp)
      have HR1 := Lib.hid R1
      obtain ⟨nv, ngr⟩ := HX.out
      have HLW := Lib.hid ngr.lt
      have HNV := Lib.hid nv
      obtain ⟨en, m1, m2, m3⟩ := Gr.kept (NR.good d) ngr hkr (by simp) (by simp)
      have hlenN : (List.zipWith RN.row rs en).length = rs.length := zip_len m1
      have HLNN := Lib.hid hlenN
      have M2 := Lib.hid m2
      have hlo := m2.lt
      have HLO := Lib.hid hlo
      have hown : (Value.slice a rs.length c).ownBlock ≠ some R := by
        intro e
        have := (hlo R e).1
        have := HG.out.lt
        omega
      have HOWN := Lib.hid hown
      have hzo := hkr.size
      have HLE : Hid (base ≤ wo.heap.size) := Lib.hid (Nat.le_trans HG.out.le hzo)
      clear hv hno hfin hall hlen n2 R1 HX nv ngr m2 hlenN hown hlo hzo P3 HB
      go_upto_region 10 with fail
      go_region_law ((first
        | (refine step_append_rows rfl (.tmp 40) (.tmp 41) 33 45 rfl i0 z0 7 104 Tryz.underlying33 hi hz0 hz1 hz2 hz3 (by decide) wo.heap.size (.slice (some ⟨_, 0, none⟩) 0 0) [] (List.zipWith Dp.row ds es) rfl (own_zeroN (by first | exact halloc_new _ _ _ rfl | (exact halloc_new _ _ _ (by simp))) (by simp)) S _ rfl (HR1.out _ (by repeat (first | exact Kept.refl _ _ | refine Kept.drew ?_ | refine Kept.alloc ?_ _))) (by have := HLN.out; simp only [List.length_nil]; omega) (by have := HLN.out; simp only [List.length_nil]; omega) (by simp) ?_; intro v1 w2 ho1 hka _; have K1 : Kept [] wo w2 := Kept.trans' (by repeat (first | exact Kept.refl _ _ | refine Kept.drew ?_ | refine Kept.alloc ?_ _)) (hka [wo.heap.size] (by simp [Value.ownBlock])) (by simp); obtain ⟨va, vn, vc, rfl⟩ : ∃ a n c, v1 = .slice a n c := (by obtain ⟨a, c, h, _⟩ := ho1.shape; exact ⟨a, _, c, h⟩); have HO1 : Hid (Own w2 wo.heap.size 45 7 (.slice va vn vc) (List.zipWith Dp.row ds es)) := Lib.hid ho1; have HK1 := Lib.hid K1; have e0 := (HBO.out.kept K1 (by simp)).cell 0 _ rfl; have hbw2 := (HBO.out.kept K1 (by simp)).lt; clear ho1 hka K1)
        | (refine step_append_rows rfl (.tmp 39) (.tmp 45) 98 103 rfl j0 y0 3 56 Tryz.underlying98 hj hy0 hy1 hy2 hy3 (by decide) base (.slice a rs.length c) (List.zipWith RN.row rs en) [[.bool true, .slice va vn vc, .slice a8 (asc us).length c8]] rfl (M2.out.kept (M := []) (Kept.trans HK1.out (by repeat (first | exact Kept.refl _ _ | refine Kept.drew ?_ | refine Kept.alloc ?_ _))) (by simp)) (fun _ => True) (.slice (some ⟨w2.heap.size, 0, none⟩) 1 1) rfl (rows_lit [[.bool true, .slice va vn vc, .slice a8 (asc us).length c8]] (halloc_new _ _ _ rfl) (by simp [Value.oneCell']) (by simp)) (by rw [HLNN.out]; simp; omega) (by rw [HLNN.out]; simp; omega) (by have := HK1.out.size; have := HLE.out; simp; omega) ?_; intro v2 w3 ho2 hkb hl2; have K2 : Kept (Value.slice a rs.length c).ownBlock.toList (w2.alloc (.cells #[.bool true, .slice va vn vc, .slice a8 (asc us).length c8] 103)) w3 := hkb _ (by intro x hx; simp [hx]); have hRo : R ∉ (Value.slice a rs.length c).ownBlock.toList := (by simpa using HOWN.out); have hv2 : ∃ va vc, v2 = .slice va (rs.length + 1) vc := (by obtain ⟨a, c, e, _⟩ := ho2.shape; exact ⟨a, c, by rw [e, List.length_append, HLNN.out]; rfl⟩); obtain ⟨va2, vc2, rfl⟩ := hv2; have HO2 := Lib.hid ho2; have HL2 := Lib.hid hl2; have HKB := Lib.hid hkb; have HK2 := Lib.hid K2; have HB3 := Lib.hid ((HBO.out.kept (HK1.out.alloc _) (by simp)).kept K2 hRo); have e0 := HB3.out.cell 0 _ rfl; have f0 := HB3.out.frozen 0; have hbw3 := HB3.out.lt; clear ho2 hkb hl2 K2)))
      all_goals go_wp2_with fail
      all_goals
        go_ret2
        have hres := RAdd.yes (G := G) (d := d) (w := w) (R := R) (base := base) (rs := rs) (ds := ds) (us := us) HALL.out (w' := w3.setCell ⟨R, 0, none⟩ (.slice va2 (rs.length + 1) vc2)) (rAdd_done (wo := wo) (w2 := w2) (w3 := w3) HG.out hkr HK1.out HS.out e0w HNV.out HLW.out m1 m3 n1 n3 HO1.out HFIN.out HO2.out HKB.out HL2.out HB3.out hdl hul hf).1 (rAdd_done (wo := wo) (w2 := w2) (w3 := w3) HG.out hkr HK1.out HS.out e0w HNV.out HLW.out m1 m3 n1 n3 HO1.out HFIN.out HO2.out HKB.out HL2.out HB3.out hdl hul hf).2
        exact hres
end Go.Proofs.YtkldomkooleecaaGreatDoor
