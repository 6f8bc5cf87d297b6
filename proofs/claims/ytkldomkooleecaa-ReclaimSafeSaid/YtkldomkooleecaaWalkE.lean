/- Walks: LiveWorlds and ActiveCodes of the reference. -/
import Derived.Test.YtkldomkooleecaaCodes
namespace Go.Proofs.Ytkldomkooleecaa
open Go.RowKit

theorem inss_length (ns : List Int) : ∀ s : List Int, (ns.foldl ins s).length ≤ s.length + ns.length := by
  have h1 : ∀ (l : List Int) (n : Int), (ins l n).length ≤ l.length + 1 := by
    intro l n
    induction l with
    | nil => simp [ins]
    | cons x l ih => unfold ins; split <;> (try split) <;> simp <;> omega
  induction ns with
  | nil => intro s; simp
  | cons n ns ih =>
    intro s
    have := ih (ins s n)
    have h2 := h1 s n
    simp only [List.foldl_cons, List.length_cons]
    omega
theorem flatten_take_le (fs : List (List Fr)) (hl : fs.length ≤ 900) (hf : ∀ f ∈ fs, f.length ≤ 1000) (k : Nat) : (fs.take k).flatten.length ≤ 900000 := by
  have := flatten_le (fs.take k) (fun f h => hf f (List.mem_of_mem_take h))
  have h2 : (fs.take k).length ≤ 900 := by simp; omega
  omega

set_option maxRecDepth 100000 in
set_option maxHeartbeats 1600000 in
theorem refLiveWorlds {S : Nat → Prop} (n : Int) (v : Value) (fs : List (List Fr)) (w : World) (h : Stk S w v fs) (hl : fs.length ≤ 900) (hf : ∀ f ∈ fs, f.length ≤ 1000) :
    Calls Try.prog 11 #[.int .i64 n, v] w fun e w' => ∃ v', e = .returned v' ∧ Reads (fun b => w.heap.size ≤ b) w' v' 1 (irows ((worldsOf fs.flatten).foldl ins [n])) ∧ Kept [] w w' := by
  obtain ⟨a1, c1, rfl, h1, h2, h3⟩ := h.form
  have H3 := Lib.hid h3
  have HF := Lib.hid hf
  have HL := Lib.hid hl
  clear h3 h hf hl
  go_enter Try.func11, Try.ntmps11
  go_wp2
  have hr0 : Reads (fun b => w.heap.size ≤ b) (w.alloc (.cells #[.int .i64 n] 3)) (.slice (some ⟨w.heap.size, 0, none⟩) 1 1) 1 (irows [n]) := by
    have h1 : (w.alloc (.cells #[.int .i64 n] 3)).cell? ⟨w.heap.size, 0, none⟩ = some (.int .i64 n) := by go_simp
    obtain ⟨q1, a, cap, e, q2, q3, q4⟩ := reads_one h1 rfl
    refine ⟨q1, a, cap, e, q2, q3, .inr ?_⟩
    rcases q4 with q4 | ⟨b, off, e2, _, q5, q6⟩
    · simp at q4
    · subst e2
      cases e
      exact ⟨_, _, rfl, Nat.le_refl _, q5, q6⟩
  have HR0 := Lib.hid hr0
  clear hr0
  go_loopw [5, 6] (fun v i wr => ∃ k : Nat, k ≤ fs.length ∧ i = .int .i64 k ∧ Kept [] w wr ∧ Hid (Reads (fun b => w.heap.size ≤ b) wr v 1 (irows ((worldsOf (fs.take k).flatten).foldl ins [n])))) (fun _ i _ => fs.length - (intOf i).toNat)
  case atStart => exact ⟨0, Nat.zero_le _, rfl, (Kept.refl [] w).alloc _, HR0.out⟩
  case round =>
    obtain ⟨k, hk, rfl, hkr, hsr⟩ := hrel
    by_cases hlt : k < fs.length
    · have hne : fs ≠ [] := by rintro rfl; simp at hlt
      obtain ⟨b1, o1, rfl, hSb, hb1, hc1⟩ := H3.out.resolve_left hne
      obtain ⟨f, hf⟩ : ∃ f, fs[k]? = some f := ⟨fs[k], by simp⟩
      obtain ⟨u, hu, hru⟩ := hc1 k f hf
      obtain ⟨a2, c2, rfl, g1, g2, g3⟩ := frames_form hru
      have G3 := Lib.hid g3
      have HFK := Lib.hid hf
      have HFL := Lib.hid (HF.out f (List.mem_of_getElem? hf))
      clear g3 hf hc1 hne hru H3
      obtain ⟨wo, hwo⟩ : ∃ wo : World, wo = wr := ⟨_, rfl⟩
      subst hwo
      go_wp2
      go_loopw [5, 7] (fun v j wi => ∃ m : Nat, m ≤ f.length ∧ j = .int .i64 m ∧ Kept [] w wi ∧ Hid (Reads (fun b => w.heap.size ≤ b) wi v 1 (irows ((worldsOf (fs.take k).flatten ++ worldsOf (f.take m)).foldl ins [n])))) (fun _ j _ => f.length - (intOf j).toNat)
      case atStart => exact ⟨0, Nat.zero_le _, rfl, hkr, by simpa [worldsOf] using hsr⟩
      case round =>
        obtain ⟨m, hm, rfl, hki, hsi⟩ := hrel
        have cu := hki.cell' hu (by simp)
        by_cases hlm : m < f.length
        · have hnf : f ≠ [] := by rintro rfl; simp at hlm
          obtain ⟨b2, o2, rfl, hSb2, hb2, hc2⟩ := G3.out.resolve_left hnf
          obtain ⟨x, hx⟩ : ∃ x, f[m]? = some x := ⟨f[m], by simp⟩
          obtain ⟨hrx, hox⟩ := hc2 m x hx
          have cw : wr.cell? ⟨b2, o2 + m * 5 + 2, none⟩ = some (.int .i64 x.world) := (hki.range hrx (by simp)) 2 (.int .i64 x.world) rfl
          have HX := Lib.hid hx
          have hle : ((worldsOf (fs.take k).flatten ++ worldsOf (f.take m)).foldl ins [n]).length ≤ 1000000 := by
            have q1 := inss_length (worldsOf (fs.take k).flatten ++ worldsOf (f.take m)) [n]
            have q2 := flatten_take_le fs HL.out HF.out k
            have q3 := HFL.out
            rw [List.length_append, worldsOf_length, worldsOf_length, List.length_take] at q1
            have q4 : [n].length = 1 := rfl
            omega
          have HLE := Lib.hid hle
          clear hrx hx hc2 hnf G3 hle hox hu
          go_wp2_with (go_at_call 40; refine (inserted _ _ _ _ hsi.out HLE.out).mono ?_; rintro e w3 ⟨v3, rfl, ho3, hk3⟩; have HO3 := Lib.hid ho3; clear ho3)
          go_roundw
          case rel =>
            refine ⟨m + 1, by omega, by go_num, hki.trans hk3, ?_⟩
            have e1 : worldsOf (f.take (m + 1)) = worldsOf (f.take m) ++ [x.world] := by rw [List.take_add_one, HX.out]; simp [worldsOf]
            rw [Hid, e1, ← List.append_assoc, foldl_snoc]
            exact HO3.out.mono (fun b _ hb => by have := hki.size; rcases hb with hb | hb <;> omega)
          case measure => simp [intOf]; omega
        · go_wp2
          go_roundw
          case rel =>
            refine ⟨k + 1, by omega, by go_num, hki, ?_⟩
            have e1 : worldsOf (fs.take (k + 1)).flatten = worldsOf (fs.take k).flatten ++ worldsOf f := by rw [take_flatten_snoc HFK.out, worldsOf_append]
            rw [Hid, e1]
            have := hsi.out
            rw [show m = f.length by omega, List.take_length] at this
            exact this
          case measure => simp [intOf]; omega
    · go_wp2
      go_ret
      have hfin := hsr.out
      rw [show k = fs.length by omega, List.take_length] at hfin
      exact ⟨_, rfl, hfin, hkr⟩

set_option maxRecDepth 100000 in
set_option maxHeartbeats 1600000 in
theorem refActiveCodes {S : Nat → Prop} (v : Value) (fs : List (List Fr)) (w : World) (h : Stk S w v fs) (hl : fs.length ≤ 900) (hf : ∀ f ∈ fs, f.length ≤ 1000) :
    Calls Try.prog 12 #[v] w fun e w' => ∃ v', e = .returned v' ∧ Reads (fun b => w.heap.size ≤ b) w' v' 1 (irows ((codesOf fs.flatten).foldl ins [])) ∧ Kept [] w w' := by
  obtain ⟨a1, c1, rfl, h1, h2, h3⟩ := h.form
  have H3 := Lib.hid h3
  have HF := Lib.hid hf
  have HL := Lib.hid hl
  clear h3 h hf hl
  go_enter Try.func12, Try.ntmps12
  go_wp2
  go_loopw [3, 4] (fun v i wr => ∃ k : Nat, k ≤ fs.length ∧ i = .int .i64 k ∧ Kept [] w wr ∧ Hid (Reads (fun b => w.heap.size ≤ b) wr v 1 (irows ((codesOf (fs.take k).flatten).foldl ins [])))) (fun _ i _ => fs.length - (intOf i).toNat)
  case atStart => exact ⟨0, Nat.zero_le _, rfl, Kept.refl [] w, Reads.nil _ _ _⟩
  case round =>
    obtain ⟨k, hk, rfl, hkr, hsr⟩ := hrel
    by_cases hlt : k < fs.length
    · have hne : fs ≠ [] := by rintro rfl; simp at hlt
      obtain ⟨b1, o1, rfl, hSb, hb1, hc1⟩ := H3.out.resolve_left hne
      obtain ⟨f, hf⟩ : ∃ f, fs[k]? = some f := ⟨fs[k], by simp⟩
      obtain ⟨u, hu, hru⟩ := hc1 k f hf
      obtain ⟨a2, c2, rfl, g1, g2, g3⟩ := frames_form hru
      have G3 := Lib.hid g3
      have HFK := Lib.hid hf
      have HFL := Lib.hid (HF.out f (List.mem_of_getElem? hf))
      clear g3 hf hc1 hne hru H3
      obtain ⟨wo, hwo⟩ : ∃ wo : World, wo = wr := ⟨_, rfl⟩
      subst hwo
      go_wp2
      go_loopw [3, 5] (fun v j wi => ∃ m : Nat, m ≤ f.length ∧ j = .int .i64 m ∧ Kept [] w wi ∧ Hid (Reads (fun b => w.heap.size ≤ b) wi v 1 (irows ((codesOf (fs.take k).flatten ++ codesOf (f.take m)).foldl ins [])))) (fun _ j _ => f.length - (intOf j).toNat)
      case atStart => exact ⟨0, Nat.zero_le _, rfl, hkr, by simpa [codesOf] using hsr⟩
      case round =>
        obtain ⟨m, hm, rfl, hki, hsi⟩ := hrel
        have cu := hki.cell' hu (by simp)
        by_cases hlm : m < f.length
        · have hnf : f ≠ [] := by rintro rfl; simp at hlm
          obtain ⟨b2, o2, rfl, hSb2, hb2, hc2⟩ := G3.out.resolve_left hnf
          obtain ⟨x, hx⟩ : ∃ x, f[m]? = some x := ⟨f[m], by simp⟩
          obtain ⟨hrx, hox⟩ := hc2 m x hx
          have cw : wr.cell? ⟨b2, o2 + m * 5, none⟩ = some (.int .i64 x.code) := (hki.range hrx (by simp)) 0 (.int .i64 x.code) rfl
          have HX := Lib.hid hx
          have hle : ((codesOf (fs.take k).flatten ++ codesOf (f.take m)).foldl ins []).length ≤ 1000000 := by
            have q1 := inss_length (codesOf (fs.take k).flatten ++ codesOf (f.take m)) []
            have q2 := flatten_take_le fs HL.out HF.out k
            have q3 := HFL.out
            have q5 := codesOf_length (fs.take k).flatten
            have q6 := codesOf_length (f.take m)
            rw [List.length_append] at q1
            rw [List.length_take] at q6
            have q4 : ([] : List Int).length = 0 := rfl
            omega
          have HLE := Lib.hid hle
          clear hrx hx hc2 hnf G3 hle hox hu
          by_cases hpos : 0 < x.code
          · go_wp2_with (go_at_call 40; refine (inserted _ _ _ _ hsi.out HLE.out).mono ?_; rintro e w3 ⟨v3, rfl, ho3, hk3⟩; have HO3 := Lib.hid ho3; clear ho3)
            go_roundw
            case rel =>
              refine ⟨m + 1, by omega, by go_num, hki.trans hk3, ?_⟩
              have e1 : codesOf (f.take (m + 1)) = codesOf (f.take m) ++ [x.code] := by rw [List.take_add_one, HX.out, codesOf_append]; simp [codesOf, hpos]
              rw [Hid, e1, ← List.append_assoc, foldl_snoc]
              exact HO3.out.mono (fun b _ hb => by have := hki.size; rcases hb with hb | hb <;> omega)
            case measure => simp [intOf]; omega
          · go_wp2
            go_roundw
            case rel =>
              refine ⟨m + 1, by omega, by go_num, hki, ?_⟩
              have e1 : codesOf (f.take (m + 1)) = codesOf (f.take m) := by rw [List.take_add_one, HX.out, codesOf_append]; simp [codesOf]; omega
              rw [Hid, e1]
              exact hsi.out
            case measure => simp [intOf]; omega
        · go_wp2
          go_roundw
          case rel =>
            refine ⟨k + 1, by omega, by go_num, hki, ?_⟩
            have e1 : codesOf (fs.take (k + 1)).flatten = codesOf (fs.take k).flatten ++ codesOf f := by rw [take_flatten_snoc HFK.out, codesOf_append]
            rw [Hid, e1]
            have := hsi.out
            rw [show m = f.length by omega, List.take_length] at this
            exact this
          case measure => simp [intOf]; omega
    · go_wp2
      go_ret
      have hfin := hsr.out
      rw [show k = fs.length by omega, List.take_length] at hfin
      exact ⟨_, rfl, hfin, hkr⟩
end Go.Proofs.Ytkldomkooleecaa
