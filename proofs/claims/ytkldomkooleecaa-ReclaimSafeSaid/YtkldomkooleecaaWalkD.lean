/- Walks: LiveWorlds and ActiveCodes of the program. -/
import Derived.Test.YtkldomkooleecaaFrames
namespace Go.Proofs.Ytkldomkooleecaa
open Go.RowKit

theorem info_frame : (Try.prog.info? 43).map (fun i => (i.zero, i.size)) = some (some (.agg #[.int .i64 0, .int .i64 0, .int .i64 0, .int .i64 0, .slice none 0 0]), 5) := by kernel_rfl

theorem ins_one (ns : List Int) (n : Int) : (ns.foldl put [n]).Nodup := puts_nodup ns _ (by simp)

theorem puts_length (ns : List Int) : ∀ s : List Int, (ns.foldl put s).length ≤ s.length + ns.length := by
  induction ns with
  | nil => intro s; simp
  | cons n ns ih =>
    intro s
    have := ih (put s n)
    have h2 : (put s n).length ≤ s.length + 1 := by unfold put; split <;> simp
    simp only [List.foldl_cons, List.length_cons]
    omega

theorem flatten_le (fs : List (List Fr)) (hf : ∀ f ∈ fs, f.length ≤ 1000) : fs.flatten.length ≤ fs.length * 1000 := by
  induction fs with
  | nil => simp
  | cons f fs ih =>
    have h1 := hf f (by simp)
    have h2 := ih (fun g hg => hf g (by simp [hg]))
    simp only [List.flatten_cons, List.length_append, List.length_cons]
    omega

set_option maxRecDepth 100000 in
set_option maxHeartbeats 1600000 in
theorem liveWorlds {S : Nat → Prop} (n : Int) (v : Value) (fs : List (List Fr)) (w : World) (h : Stk S w v fs) (hl : fs.length ≤ 900) (hf : ∀ f ∈ fs, f.length ≤ 1000) :
    Calls Try.prog 14 #[.int .i64 n, v] w fun e w' => ∃ v', e = .returned v' ∧ Own w' w.heap.size 3 1 v' (irows ((worldsOf fs.flatten).foldl ins [n])) ∧ Kept [] w w' := by
  obtain ⟨a1, c1, rfl, h1, h2, h3⟩ := h.form
  have H3 := Lib.hid h3
  have HF := Lib.hid hf
  clear h3 h hf
  have hmm := @run_makeMap Try.prog
  go_enter Try.func14, Try.ntmps14
  go_wp2_with (refine wpList_set_put rfl (.tmp 10) (.tmp 11) (.const (.bool true)) 85 (.inr rfl) 3 4 Try.underlying85 Try.underlying3 w.heap.size [] n rfl rfl rfl (IsSet.made w) ?_; intro w1 hs1 hk1 hz1)
  have hput : put [] n = [n] := rfl
  rw [hput] at hs1
  have K1 : Kept [] w w1 := ((Kept.refl [] w).alloc _).trans' hk1 (by simp)
  have hz1' : w1.heap.size = w.heap.size + 1 := by simpa using hz1
  clear hk1 hz1 hput
  have HS1 := Lib.hid hs1
  have HZ1 := Lib.hid hz1'
  clear hs1 hz1'
  go_loopw [15] (fun i wr => ∃ k : Nat, k ≤ fs.length ∧ i = .int .i64 k ∧ Kept [] w wr ∧ w.heap.size + 1 ≤ wr.heap.size ∧ Hid (IsSet wr w.heap.size ((worldsOf (fs.take k).flatten).foldl put [n]))) (fun i _ => fs.length - (intOf i).toNat)
  case atStart => exact ⟨0, Nat.zero_le _, rfl, K1, Nat.le_of_eq HZ1.out.symm, HS1.out⟩
  case round =>
    obtain ⟨k, hk, rfl, hkr, hsz, hsr⟩ := hrel
    by_cases hlt : k < fs.length
    · have hne : fs ≠ [] := by rintro rfl; simp at hlt
      obtain ⟨b1, o1, rfl, hSb, hb1, hc1⟩ := H3.out.resolve_left hne
      obtain ⟨f, hf⟩ : ∃ f, fs[k]? = some f := ⟨fs[k], by simp⟩
      obtain ⟨u, hu, hru⟩ := hc1 k f hf
      obtain ⟨a2, c2, rfl, g1, g2, g3⟩ := frames_form hru
      have cu := hkr.cell' hu (by simp)
      have G3 := Lib.hid g3
      have HFK := Lib.hid hf
      clear g3 hf hc1 hne hu hru H3
      have g2' := g2
      obtain ⟨wo, hwo⟩ : ∃ wo : World, wo = wr := ⟨_, rfl⟩
      subst hwo
      go_wp2
      go_loopw [21] (fun j wi => ∃ m : Nat, m ≤ f.length ∧ j = .int .i64 m ∧ Kept [] w wi ∧ w.heap.size + 1 ≤ wi.heap.size ∧ Hid (IsSet wi w.heap.size ((worldsOf (fs.take k).flatten ++ worldsOf (f.take m)).foldl put [n]))) (fun j _ => f.length - (intOf j).toNat)
      case atStart => exact ⟨0, Nat.zero_le _, rfl, hkr, hsz, by simpa [worldsOf] using hsr⟩
      case round =>
        obtain ⟨m, hm, rfl, hki, hszi, hsi⟩ := hrel
        by_cases hlm : m < f.length
        · have hnf : f ≠ [] := by rintro rfl; simp at hlm
          obtain ⟨b2, o2, rfl, hSb2, hb2, hc2⟩ := G3.out.resolve_left hnf
          obtain ⟨x, hx⟩ : ∃ x, f[m]? = some x := ⟨f[m], by simp⟩
          obtain ⟨hrx, hox⟩ := hc2 m x hx
          have hrg := Lib.hid (hki.range hrx (by simp))
          have HX := Lib.hid hx
          obtain ⟨xc, xm, xw, xp, xs⟩ := x
          simp only [Fr.cells] at hrg hox
          have HOX := Lib.hid hox
          clear hrx hx hc2 hnf G3 hox
          go_wp2_with (first
            | (refine wpList_load_mid rfl 43 (.tmp 23) rfl b2 (o2 + m * 5) rfl [.int .i64 xc, .int .i64 xm, .int .i64 xw, .int .i64 xp, xs] _ hrg.out Try.underlying43 rfl (by kernel_rfl) ?_)
            | (refine wpList_allocStore (.tmp 24) 43 rfl rfl rfl rfl rfl rfl _ [.int .i64 xc, .int .i64 xm, .int .i64 xw, .int .i64 xp, xs] info_frame rfl (fun _ => rfl) (fun _ => rfl) (by simp [Value.oneCell']; exact HOX.out) ?_)
            | (refine wpList_set_put rfl (.tmp 25) (.tmp 27) (.const (.bool true)) 85 (.inl rfl) 3 4 Try.underlying85 Try.underlying3 w.heap.size _ xw rfl rfl rfl (hsi.out.kept ((Kept.refl [] wr).alloc _) (by simp)) ?_; intro w3 hs3 hk3 hz3; have HS3 := Lib.hid hs3; have HZ3 := Lib.hid hz3; clear hs3 hz3))
          go_roundw
          case rel =>
            have hk3' : Kept [] w w3 := (hki.alloc _).trans' hk3 (by simp)
            refine ⟨m + 1, by omega, by go_num, hk3', by have := HZ3.out; simp at this; omega, ?_⟩
            have e1 : worldsOf (f.take (m + 1)) = worldsOf (f.take m) ++ [xw] := by rw [List.take_add_one, HX.out]; simp [worldsOf]
            rw [Hid, e1, ← List.append_assoc, foldl_snoc]
            exact HS3.out
          case measure => simp [intOf]; omega
        · go_wp2
          go_roundw
          case rel =>
            refine ⟨k + 1, by omega, by go_num, hki, hszi, ?_⟩
            have e1 : worldsOf (fs.take (k + 1)).flatten = worldsOf (fs.take k).flatten ++ worldsOf f := by rw [take_flatten_snoc HFK.out, worldsOf_append]
            rw [Hid, e1]
            have := hsi.out
            rw [show m = f.length by omega, List.take_length] at this
            exact this
          case measure => simp [intOf]; omega
    · have hfin := hsr.out
      rw [show k = fs.length by omega, List.take_length] at hfin
      have hlen : ((worldsOf fs.flatten).foldl put [n]).length ≤ 1000000 := by
        have h1 := puts_length (worldsOf fs.flatten) [n]
        have h2 := flatten_le fs HF.out
        have h3 : (worldsOf fs.flatten).length = fs.flatten.length := worldsOf_length _
        simp at h1
        omega
      have HFIN := Lib.hid hfin
      have HLEN := Lib.hid hlen
      clear hsr hfin hlen
      go_wp2_with (go_at_call 41; refine (sorted_any w.heap.size _ _ HFIN.out HLEN.out).mono ?_; rintro e w2 ⟨v2, rfl, ho2, hk2⟩; have HO2 := Lib.hid ho2; clear ho2)
      go_ret
      refine ⟨v2, rfl, ?_, hkr.trans hk2⟩
      have e1 := sorted_set (worldsOf fs.flatten) [n] [n] ((worldsOf fs.flatten).foldl put [n]) (by simp) (by simp [Asc]) (by simp) (List.Perm.refl _)
      rw [← e1]
      exact HO2.out.mono (by have := hkr.size; omega)

set_option maxRecDepth 100000 in
set_option maxHeartbeats 1600000 in
theorem activeCodes {S : Nat → Prop} (v : Value) (fs : List (List Fr)) (w : World) (h : Stk S w v fs) (hl : fs.length ≤ 900) (hf : ∀ f ∈ fs, f.length ≤ 1000) :
    Calls Try.prog 15 #[v] w fun e w' => ∃ v', e = .returned v' ∧ Own w' w.heap.size 3 1 v' (irows ((codesOf fs.flatten).foldl ins [])) ∧ Kept [] w w' := by
  obtain ⟨a1, c1, rfl, h1, h2, h3⟩ := h.form
  have H3 := Lib.hid h3
  have HF := Lib.hid hf
  clear h3 h hf
  have hmm := @run_makeMap Try.prog
  go_enter Try.func15, Try.ntmps15
  go_wp2
  have HS1 := Lib.hid (IsSet.made w)
  go_loopw [11] (fun i wr => ∃ k : Nat, k ≤ fs.length ∧ i = .int .i64 k ∧ Kept [] w wr ∧ w.heap.size + 1 ≤ wr.heap.size ∧ Hid (IsSet wr w.heap.size ((codesOf (fs.take k).flatten).foldl put []))) (fun i _ => fs.length - (intOf i).toNat)
  case atStart => exact ⟨0, Nat.zero_le _, rfl, (Kept.refl [] w).alloc _, by simp, HS1.out⟩
  case round =>
    obtain ⟨k, hk, rfl, hkr, hsz, hsr⟩ := hrel
    by_cases hlt : k < fs.length
    · have hne : fs ≠ [] := by rintro rfl; simp at hlt
      obtain ⟨b1, o1, rfl, hSb, hb1, hc1⟩ := H3.out.resolve_left hne
      obtain ⟨f, hf⟩ : ∃ f, fs[k]? = some f := ⟨fs[k], by simp⟩
      obtain ⟨u, hu, hru⟩ := hc1 k f hf
      obtain ⟨a2, c2, rfl, g1, g2, g3⟩ := frames_form hru
      have cu := hkr.cell' hu (by simp)
      have G3 := Lib.hid g3
      have HFK := Lib.hid hf
      clear g3 hf hc1 hne hu hru H3
      have g2' := g2
      obtain ⟨wo, hwo⟩ : ∃ wo : World, wo = wr := ⟨_, rfl⟩
      subst hwo
      go_wp2
      go_loopw [17] (fun j wi => ∃ m : Nat, m ≤ f.length ∧ j = .int .i64 m ∧ Kept [] w wi ∧ w.heap.size + 1 ≤ wi.heap.size ∧ Hid (IsSet wi w.heap.size ((codesOf (fs.take k).flatten ++ codesOf (f.take m)).foldl put []))) (fun j _ => f.length - (intOf j).toNat)
      case atStart => exact ⟨0, Nat.zero_le _, rfl, hkr, hsz, by simpa [codesOf] using hsr⟩
      case round =>
        obtain ⟨m, hm, rfl, hki, hszi, hsi⟩ := hrel
        by_cases hlm : m < f.length
        · have hnf : f ≠ [] := by rintro rfl; simp at hlm
          obtain ⟨b2, o2, rfl, hSb2, hb2, hc2⟩ := G3.out.resolve_left hnf
          obtain ⟨x, hx⟩ : ∃ x, f[m]? = some x := ⟨f[m], by simp⟩
          obtain ⟨hrx, hox⟩ := hc2 m x hx
          have hrg := Lib.hid (hki.range hrx (by simp))
          have HX := Lib.hid hx
          obtain ⟨xc, xm, xw, xp, xs⟩ := x
          simp only [Fr.cells] at hrg hox
          have HOX := Lib.hid hox
          clear hrx hx hc2 hnf G3 hox
          by_cases hpos : 0 < xc
          all_goals go_wp2_with (first
            | (refine wpList_load_mid rfl 43 (.tmp 19) rfl b2 (o2 + m * 5) rfl [.int .i64 xc, .int .i64 xm, .int .i64 xw, .int .i64 xp, xs] _ hrg.out Try.underlying43 rfl (by kernel_rfl) ?_)
            | (refine wpList_allocStore (.tmp 20) 43 rfl rfl rfl rfl rfl rfl _ [.int .i64 xc, .int .i64 xm, .int .i64 xw, .int .i64 xp, xs] info_frame rfl (fun _ => rfl) (fun _ => rfl) (by simp [Value.oneCell']; exact HOX.out) ?_)
            | (refine wpList_set_put rfl (.tmp 24) (.tmp 26) (.const (.bool true)) 85 (.inl rfl) 3 4 Try.underlying85 Try.underlying3 w.heap.size _ xc rfl rfl rfl (hsi.out.kept ((Kept.refl [] wr).alloc _) (by simp)) ?_; intro w3 hs3 hk3 hz3; have HS3 := Lib.hid hs3; have HZ3 := Lib.hid hz3; clear hs3 hz3))
          · go_roundw
            case rel =>
              have hk3' : Kept [] w w3 := (hki.alloc _).trans' hk3 (by simp)
              refine ⟨m + 1, by omega, by go_num, hk3', by have := HZ3.out; simp at this; omega, ?_⟩
              have e1 : codesOf (f.take (m + 1)) = codesOf (f.take m) ++ [xc] := by rw [List.take_add_one, HX.out, codesOf_append]; simp [codesOf, hpos]
              rw [Hid, e1, ← List.append_assoc, foldl_snoc]
              exact HS3.out
            case measure => simp [intOf]; omega
          · go_roundw
            case rel =>
              refine ⟨m + 1, by omega, by go_num, hki.alloc _, by simp; omega, ?_⟩
              have e1 : codesOf (f.take (m + 1)) = codesOf (f.take m) := by rw [List.take_add_one, HX.out, codesOf_append]; simp [codesOf]; omega
              rw [Hid, e1]
              exact hsi.out.kept ((Kept.refl [] _).alloc _) (by simp)
            case measure => simp [intOf]; omega
        · go_wp2
          go_roundw
          case rel =>
            refine ⟨k + 1, by omega, by go_num, hki, hszi, ?_⟩
            have e1 : codesOf (fs.take (k + 1)).flatten = codesOf (fs.take k).flatten ++ codesOf f := by rw [take_flatten_snoc HFK.out, codesOf_append]
            rw [Hid, e1]
            have := hsi.out
            rw [show m = f.length by omega, List.take_length] at this
            exact this
          case measure => simp [intOf]; omega
    · have hfin := hsr.out
      rw [show k = fs.length by omega, List.take_length] at hfin
      have hlen : ((codesOf fs.flatten).foldl put []).length ≤ 1000000 := by
        have h1 := puts_length (codesOf fs.flatten) []
        have h2 := flatten_le fs HF.out
        have h3 : (codesOf fs.flatten).length ≤ fs.flatten.length := codesOf_length _
        simp at h1
        omega
      have HFIN := Lib.hid hfin
      have HLEN := Lib.hid hlen
      clear hsr hfin hlen
      go_wp2_with (go_at_call 41; refine (sorted_any w.heap.size _ _ HFIN.out HLEN.out).mono ?_; rintro e w2 ⟨v2, rfl, ho2, hk2⟩; have HO2 := Lib.hid ho2; clear ho2)
      go_ret
      refine ⟨v2, rfl, ?_, hkr.trans hk2⟩
      have e1 := sorted_set (codesOf fs.flatten) [] [] ((codesOf fs.flatten).foldl put []) (by simp) (by simp [Asc]) (by simp) (List.Perm.refl _)
      rw [← e1]
      exact HO2.out.mono (by have := hkr.size; omega)
end Go.Proofs.Ytkldomkooleecaa
