/- Walks over functions on slices of integers: Inserted. -/
import Derived.Test.YtkldomkooleecaaWalkA
namespace Go.Proofs.Ytkldomkooleecaa
open Go.RowKit

theorem info_int : (Try.prog.info? 3).map (fun i => (i.zero, i.size, i.bytes)) = some (some (.int .i64 0), 1, 8) := by kernel_rfl

theorem ins_eq (l : List Int) (n : Int) : ∀ k, k ≤ l.length → (∀ x ∈ l.take k, x < n) → (∀ x, l[k]? = some x → n < x) → ins l n = l.take k ++ [n] ++ l.drop k := by
  induction l with
  | nil => intro k hk _ _; simp [ins]
  | cons y l ih =>
    intro k hk h1 h2
    cases k with
    | zero =>
      have := h2 y rfl
      unfold ins
      rw [if_neg (by omega), if_neg (by omega)]
      simp
    | succ k =>
      have hy := h1 y (by simp)
      unfold ins
      rw [if_pos hy, ih k (by simpa using hk) (fun x hx => h1 x (by simp [hx])) (fun x hx => h2 x (by simpa using hx))]
      simp
theorem ins_eq_same (l : List Int) (n : Int) : ∀ k, (∀ x ∈ l.take k, x < n) → l[k]? = some n → ins l n = l := by
  induction l with
  | nil => intro k _ h; simp at h
  | cons y l ih =>
    intro k h1 h2
    cases k with
    | zero => simp at h2; subst h2; simp [ins]
    | succ k =>
      have hy := h1 y (by simp)
      unfold ins
      rw [if_pos hy, ih k (fun x hx => h1 x (by simp [hx])) (by simpa using h2)]

theorem own_zero {W : World} {base g : Nat} {e : TypeId} (h : W.heap[g]? = some (.cells #[] e (0, 0))) (hb : base ≤ g) : Own W base e 1 (.slice (some ⟨g, 0, none⟩) 0 0) [] :=
  ⟨⟨by simp, .inr ⟨g, 0, #[], rfl, hb, h, Nat.le_refl _, by simp [maxLen], by simp, by simp⟩⟩, by simp⟩
theorem reads_one {W : World} {g : Nat} {x : Value} (h : W.cell? ⟨g, 0, none⟩ = some x) (h1 : x.oneCell' = true) : Reads (fun _ => True) W (.slice (some ⟨g, 0, none⟩) 1 1) 1 [[x]] := by
  refine ⟨by simp [h1], _, 1, rfl, by simp, by simp [maxLen], .inr ⟨g, 0, rfl, trivial, World.block_lt_of_cell? W _ h, fun k r hk => ?_⟩⟩
  match k, hk with
  | 0, hk =>
    simp at hk
    subst hk
    intro j v hj
    match j, hj with
    | 0, hj => simp at hj; subst hj; simpa using h
theorem kept_cell {W w1 : World} {V : Value} (hk : ∀ M, (∀ x, V.ownBlock = some x → x ∈ M) → Kept M W w1) {g : Nat} {x : Value} (h : W.cell? ⟨g, 0, none⟩ = some x) (hne : V.ownBlock ≠ some g) : w1.cell? ⟨g, 0, none⟩ = some x := by
  cases hv : V.ownBlock with
  | none => exact (hk [] (by simp [hv])).cell' h (by simp)
  | some b => exact (hk [b] (by simp [hv])).cell' h (by rw [hv] at hne; simp; exact fun e => hne (by rw [e]))
theorem irows_take (l : List Int) (k : Nat) : (irows l).take k = irows (l.take k) := by simp [irows, List.map_take]
theorem irows_drop (l : List Int) (k : Nat) : (irows l).drop k = irows (l.drop k) := by simp [irows, List.map_drop]

set_option maxRecDepth 100000 in
set_option maxHeartbeats 1600000 in
theorem inserted {S : Nat → Prop} (v : Value) (l : List Int) (n : Int) (w : World) (h : Reads S w v 1 (irows l)) (hl : l.length ≤ 1000000) :
    Calls Try.prog 40 #[v, .int .i64 n] w fun e w' => ∃ v', e = .returned v' ∧ Reads (fun b => S b ∨ w.heap.size ≤ b) w' v' 1 (irows (ins l n)) ∧ Kept [] w w' := by
  obtain ⟨i0, hi, hz0, hz1, hz2⟩ := info_parts info_int
  obtain ⟨a1, cp, rfl, h1, h2, h3⟩ := h.ints
  have HR := Lib.hid h
  have H3 := Lib.hid h3
  clear h3 h
  go_enter Try.func40, Try.ntmps40
  go_wp2
  go_loop [5] (fun i => ∃ k : Nat, k ≤ l.length ∧ i = .int .i64 k ∧ Hid (∀ x ∈ l.take k, x < n)) (fun i => l.length - (intOf i).toNat)
  case atStart => exact ⟨0, Nat.zero_le _, rfl, by simp [Hid]⟩
  case round =>
    obtain ⟨k, hk, rfl, hm⟩ := hrel
    by_cases hlt : k < l.length
    · have hne : l ≠ [] := by rintro rfl; simp at hlt
      obtain ⟨b1, o1, rfl, _, hb1, hc1⟩ := H3.out.resolve_left hne
      obtain ⟨x, hx⟩ := getx l k hlt
      have c1 := hc1 k x hx
      have HX := Lib.hid hx
      clear hc1 hx H3 hne
      by_cases hxn : x < n
      · go_wp2
        go_round
        case rel =>
          refine ⟨k + 1, by omega, by go_num, ?_⟩
          have := hm.out
          rw [Hid, List.take_add_one, HX.out]
          intro y hy
          rcases List.mem_append.1 hy with hy | hy
          · exact this y hy
          · simp at hy; subst hy; exact hxn
        case measure => simp [intOf]; omega
      · by_cases hxe : x = n
        · have hb : (x == n) = true := by simpa using hxe
          go_wp2
          go_ret
          subst hxe
          rw [ins_eq_same l x k hm.out HX.out]
          exact ⟨_, rfl, HR.out.mono (fun b _ hb => .inl hb), Kept.refl _ _⟩
        · have hb : (x == n) = false := by simpa using hxe
          have HI := Lib.hid (ins_eq l n k hk hm.out (fun y hy => by have := HX.out.symm.trans hy; simp at this; omega))
          have hkc : k ≤ cp := by omega
          have hR1 := HR.out.sub 0 k (Nat.zero_le _) (by simpa using hk)
          have hR2 := HR.out.sub k l.length hk (by simp)
          rw [irows_take, List.drop_zero] at hR1
          rw [irows_take, List.take_length, irows_drop] at hR2
          have R1 : ∀ W, Kept [] w W → Reads S W _ 1 (irows (l.take k)) := fun W hW => hR1.kept hW (by simp)
          have R2 : ∀ W, Kept [] w W → Reads S W _ 1 (irows (l.drop k)) := fun W hW => hR2.kept hW (by simp)
          clear hR1 hR2
          simp only [sub, Nat.mul_one, Nat.sub_zero, Option.map_some, Addr.add_lit, Nat.add_zero, ite_self] at R1 R2
          go_wp2
          go_region_law ((first
            | (refine step_append_rows rfl (.tmp 33) (.tmp 36) 22 3 rfl i0 (.int .i64 0) 1 8 Try.underlying22 hi hz0 hz1 hz2 rfl (by decide) w.heap.size (.slice (some ⟨_, 0, none⟩) 0 0) [] (irows (l.take k)) rfl (own_zero (by first | exact halloc_new _ _ _ rfl | exact halloc_new (w.alloc _) _ _ (by simp) | exact (halloc_old _ _ _ (by simp)).trans (halloc_new _ _ _ rfl)) (by simp)) S _ rfl (R1 _ (by repeat (first | exact Kept.refl _ _ | refine Kept.drew ?_ | refine Kept.alloc ?_ _))) (by simp; omega) (by simp; omega) (by simp; try omega) ?_; intro v1 w1 ho1 hk1 hl1; clear hl1; have K1 : Kept [] w w1 := Kept.trans' (by repeat (first | exact Kept.refl _ _ | refine Kept.drew ?_ | refine Kept.alloc ?_ _)) (hk1 [w.heap.size, w.heap.size + 1] (by simp [Value.ownBlock])) (by simp))
            | (refine step_append_rows rfl (.tmp 37) (.tmp 39) 22 3 rfl i0 (.int .i64 0) 1 8 Try.underlying22 hi hz0 hz1 hz2 rfl (by decide) w.heap.size v1 _ [[.int .i64 n]] rfl (by first | exact ho1 | exact ho1.kept (M := []) ((Kept.refl _ _).alloc _) (by simp)) (fun _ => True) _ rfl (reads_one (by first | (exact (World.cell?_alloc_at _ _ _ _ rfl)) | (refine kept_cell hk1 ?_ ?_ <;> first | (go_simp; done) | (simp [Value.ownBlock]; done))) rfl) (by simp; omega) (by simp; omega) (by first | exact K1.size | (have := K1.size; simp; omega)) ?_; intro v2 w2 ho2 hk2 hl2; clear hl2; have K2 : Kept [] w w2 := Kept.trans' (by first | exact K1 | exact K1.alloc _) (hk2 v1.ownBlock.toList (by intro x hx; simp [hx])) (fun x hx => .inr (ho1.lt x (by simpa using hx)).1))
            | (refine step_append_rows rfl (.tmp 40) (.tmp 43) 22 3 rfl i0 (.int .i64 0) 1 8 Try.underlying22 hi hz0 hz1 hz2 rfl (by decide) w.heap.size v2 _ (irows (l.drop k)) rfl ho2 S _ rfl (R2 _ K2) (by simp; omega) (by simp; omega) K2.size ?_; intro v3 w3 ho3 hk3 hl3; clear hl3; have K3 : Kept [] w w3 := K2.trans' (hk3 v2.ownBlock.toList (by intro x hx; simp [hx])) (fun x hx => .inr (ho2.lt x (by simpa using hx)).1))))
          all_goals
            clear hk1 hk2 hk3 R1 R2 ho1 ho2 K1 K2
            have HO := Lib.hid ho3
            clear ho3
            go_wp2
            all_goals
              go_ret
              refine ⟨v3, rfl, ?_, K3⟩
              rw [HI.out, irows_append, irows_append]
              exact HO.out.rows'.mono (fun b _ hb => .inr hb)
    · have HI := Lib.hid (ins_eq l n k hk hm.out (fun y hy => by have := (List.getElem?_eq_some_iff.1 hy).1; omega))
      have hkc : k ≤ cp := by omega
      have hR1 := HR.out.sub 0 k (Nat.zero_le _) (by simpa using hk)
      have hR2 := HR.out.sub k l.length hk (by simp)
      rw [irows_take, List.drop_zero] at hR1
      rw [irows_take, List.take_length, irows_drop] at hR2
      have R1 : ∀ W, Kept [] w W → Reads S W _ 1 (irows (l.take k)) := fun W hW => hR1.kept hW (by simp)
      have R2 : ∀ W, Kept [] w W → Reads S W _ 1 (irows (l.drop k)) := fun W hW => hR2.kept hW (by simp)
      clear hR1 hR2
      simp only [sub, Nat.zero_mul, Nat.mul_one, Nat.sub_zero, ite_self, Addr.add_zero', Option.map_id'] at R1 R2
      go_wp2
      go_region_law ((first
        | (refine step_append_rows rfl (.tmp 33) (.tmp 36) 22 3 rfl i0 (.int .i64 0) 1 8 Try.underlying22 hi hz0 hz1 hz2 rfl (by decide) w.heap.size (.slice (some ⟨_, 0, none⟩) 0 0) [] (irows (l.take k)) rfl (own_zero (by first | exact halloc_new _ _ _ rfl | exact halloc_new (w.alloc _) _ _ (by simp) | exact (halloc_old _ _ _ (by simp)).trans (halloc_new _ _ _ rfl)) (by simp)) S _ rfl (R1 _ (by repeat (first | exact Kept.refl _ _ | refine Kept.drew ?_ | refine Kept.alloc ?_ _))) (by simp; omega) (by simp; omega) (by simp; try omega) ?_; intro v1 w1 ho1 hk1 hl1; clear hl1; have K1 : Kept [] w w1 := Kept.trans' (by repeat (first | exact Kept.refl _ _ | refine Kept.drew ?_ | refine Kept.alloc ?_ _)) (hk1 [w.heap.size, w.heap.size + 1] (by simp [Value.ownBlock])) (by simp))
        | (refine step_append_rows rfl (.tmp 37) (.tmp 39) 22 3 rfl i0 (.int .i64 0) 1 8 Try.underlying22 hi hz0 hz1 hz2 rfl (by decide) w.heap.size v1 _ [[.int .i64 n]] rfl (by first | exact ho1 | exact ho1.kept (M := []) ((Kept.refl _ _).alloc _) (by simp)) (fun _ => True) _ rfl (reads_one (by first | (exact (World.cell?_alloc_at _ _ _ _ rfl)) | (refine kept_cell hk1 ?_ ?_ <;> first | (go_simp; done) | (simp [Value.ownBlock]; done))) rfl) (by simp; omega) (by simp; omega) (by first | exact K1.size | (have := K1.size; simp; omega)) ?_; intro v2 w2 ho2 hk2 hl2; clear hl2; have K2 : Kept [] w w2 := Kept.trans' (by first | exact K1 | exact K1.alloc _) (hk2 v1.ownBlock.toList (by intro x hx; simp [hx])) (fun x hx => .inr (ho1.lt x (by simpa using hx)).1))
        | (refine step_append_rows rfl (.tmp 40) (.tmp 43) 22 3 rfl i0 (.int .i64 0) 1 8 Try.underlying22 hi hz0 hz1 hz2 rfl (by decide) w.heap.size v2 _ (irows (l.drop k)) rfl ho2 S _ rfl (R2 _ K2) (by simp; omega) (by simp; omega) K2.size ?_; intro v3 w3 ho3 hk3 hl3; clear hl3; have K3 : Kept [] w w3 := K2.trans' (hk3 v2.ownBlock.toList (by intro x hx; simp [hx])) (fun x hx => .inr (ho2.lt x (by simpa using hx)).1))))
      all_goals
        clear hk1 hk2 hk3 R1 R2 ho1 ho2 K1 K2
        have HO := Lib.hid ho3
        clear ho3
        go_wp2
        all_goals
          go_ret
          refine ⟨v3, rfl, ?_, K3⟩
          rw [HI.out, irows_append, irows_append]
          exact HO.out.rows'.mono (fun b _ hb => .inr hb)
end Go.Proofs.Ytkldomkooleecaa
