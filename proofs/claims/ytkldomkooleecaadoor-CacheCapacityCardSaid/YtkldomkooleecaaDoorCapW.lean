/- The walk of the law CacheCapacity. -/
import Derived.Test.YtkldomkooleecaaDoorCapA
namespace Go.Proofs.YtkldomkooleecaaDoor
open Go.RowKit

/-- The codes that the law has added. -/
def CapL (l : List Cp) : Prop := ∀ (k : Nat) (x : Cp), l[k]? = some x → x = ⟨k + 1, 1, .mk 0 ⟨#[]⟩ 0 [], 1, 2, []⟩
theorem CapL.nil : CapL [] := fun k x h => by simp at h
theorem CapL.snoc {l : List Cp} (h : CapL l) : CapL (l ++ [⟨(l.length : Int) + 1, 1, .mk 0 ⟨#[]⟩ 0 [], 1, 2, []⟩]) := by
  intro k x hx
  rcases Nat.lt_or_ge k l.length with hl | hl
  · rw [List.getElem?_append_left hl] at hx
    exact h k x hx
  · rw [List.getElem?_append_right hl] at hx
    rcases Nat.eq_or_lt_of_le hl with e | e
    · rw [← e, Nat.sub_self] at hx
      simp at hx
      rw [← hx, ← e]
    · rw [List.getElem?_eq_none (by simp; omega)] at hx
      cases hx
theorem CapL.first {l : List Cp} (h : CapL l) (hl : 0 < l.length) : Finds l 1 0 ⟨1, 1, .mk 0 ⟨#[]⟩ 0 [], 1, 2, []⟩ := by
  obtain ⟨x, hx⟩ := getp l 0 hl
  have e := h 0 x hx
  subst e
  exact ⟨hx, rfl, fun j y hj => by omega⟩

set_option maxRecDepth 100000 in
set_option maxHeartbeats 6400000 in
theorem capWalkMid (c n : Int) (w : World) (c1 : 0 ≤ c) (c2 : c ≤ 200) (n1 : -9223372036854775808 ≤ n) (n2 : n ≤ 9223372036854775807) :
    Calls Tryd.prog 4 #[.int .i64 c, .int .i64 n] w fun e w' => e = .returned (.bool true) ∧ Kept [] w w' := by
  obtain ⟨r, hr0, hr1, hwi⟩ := within205 n n1 n2
  have HWI := Lib.hid hwi
  have hcp : min (max c 0) 200 = c := by omega
  have HNEW := Lib.hid (fun w => hcp ▸ cacheNewAny c w)
  clear hwi hcp
  go_enter Tryd.func4, Tryd.ntmps4
  go_wp2_with (go_at_call 7; refine Calls.mono (HNEW.out _) ?_; rintro e w1 ⟨rfl, hcb, hsz, hk1⟩; have hs1 : w.heap.size + 2 ≤ w1.heap.size := Nat.le_of_eq hsz.symm; have HC0 := Lib.hid (Cch.fresh (d := 0) (base := w1.heap.size) hcb (by omega) (Nat.le_refl _)); have HK1 := Lib.hid hk1; clear hcb hsz hk1)
  obtain ⟨B, hB⟩ : ∃ B, B = w.heap.size + 1 := ⟨_, rfl⟩
  obtain ⟨bs, hbs⟩ : ∃ bs, bs = w1.heap.size := ⟨_, rfl⟩
  obtain ⟨mb, hmb⟩ : ∃ mb, mb = w.heap.size := ⟨_, rfl⟩
  have hB0 : w.heap.size ≤ B := by omega
  have hB1 : w.heap.size ≤ bs := by omega
  rw [← hB] at HC0 ⊢
  rw [← hbs, ← hmb] at HC0
  clear hB hbs hmb
  go_loopw [7, 8] (fun q i wr => ∃ (k : Nat) (l : List Cp), i = .int .i64 k ∧ q = .int .i64 l.length ∧ (k : Int) ≤ r ∧ Hid (CapL l) ∧ Hid ((l.length : Int) = min (k : Int) (c)) ∧ Hid (Cch 0 wr B bs (c) l.length (.map (some mb)) l) ∧ Hid (Kept [] w wr)) (fun _ i _ => (r - intOf i).toNat)
  case atStart => exact ⟨0, [], rfl, rfl, hr0, CapL.nil, by rw [Hid]; simp only [List.length_nil]; omega, HC0.out, HK1.out⟩
  case round =>
    clear HC0
    obtain ⟨k, l, rfl, rfl, hkr, hcl, hlen, hcc, hk⟩ := hrel
    have hll : l.length ≤ 205 := by have := hlen.out; omega
    obtain ⟨wo, hwo⟩ : ∃ wo : World, wo = wr := ⟨_, rfl⟩
    subst hwo
    by_cases hlt : (k : Int) < r
    · by_cases hkm : (k : Int) < c
      · have hlk : (l.length : Int) = k := by have := hlen.out; omega
        have HLK := Lib.hid hlk
        clear hlk
        go_upto_region 10 with (first
          | (go_at_call 16; refine Calls.mono (HWI.out _) ?_; rintro e w2 ⟨rfl, rfl⟩)
          | (go_at_call 9; refine Calls.mono (cacheAdd 0 (S := fun _ => False) B bs (c) l.length (.map (some mb)) l 0 1 0 ⟨#[]⟩ 0 1 2 [] [] none none 0 0 _ (by exact hcc.out) (by decide) (by decide) (.inr (by decide)) (by have := HLK.out; omega) (by omega) (by omega) (by omega) (TR.nil 0 _ _) (Reads.nil _ _ _) (by decide) (fun h => h)) ?_; rintro e w3 ⟨rfl, hc3, M, hM, hk3⟩; have HC3 := Lib.hid hc3; have HK3 := Lib.hid (hk.out.trans' hk3 (fun y hy => .inr (by rcases hM y hy with h | h <;> omega))); clear hc3 hM hk3))
        have hmx : max (l.length : Int) (l.length + 1) = l.length + 1 := by omega
        have hlt1 : (l.length : Int) < l.length + 1 := by omega
        go_wp2
        go_roundw
        case rel =>
          have e1 : ((l ++ [(⟨(l.length : Int) + 1, 1, .mk 0 ⟨#[]⟩ 0 [], 1, 2, []⟩ : Cp)]).length : Int) = (l.length : Int) + 1 := by simp
          refine ⟨k + 1, l ++ [(⟨(l.length : Int) + 1, 1, .mk 0 ⟨#[]⟩ 0 [], 1, 2, []⟩ : Cp)], by go_num, by rw [e1], by omega, hcl.out.snoc, ?_, ?_, HK3.out⟩
          · rw [Hid, e1]
            have := hlen.out
            omega
          · rw [Hid, e1]
            exact HC3.out
        case measure => simp [intOf]; omega
      · have hlk : (c) ≤ (l.length : Int) := by have := hlen.out; omega
        have HLK := Lib.hid hlk
        have hkb : decide ((k : Int) < (c)) = false := decide_eq_false hkm
        clear hlk
        go_upto_region 10 with (first
          | (go_at_call 16; refine Calls.mono (HWI.out _) ?_; rintro e w2 ⟨rfl, rfl⟩)
          | (go_at_call 9; refine Calls.mono (cacheAddFull 0 B bs (c) l.length (.map (some mb)) l 0 1 0 ⟨#[]⟩ 0 1 2 none none 0 0 0 0 _ (by exact hcc.out) (by decide) (by decide) (by decide) (by exact HLK.out) (by omega) (by decide)) ?_; rintro e w3 ⟨rfl, hk3⟩; have HC3 := Lib.hid (hcc.out.kept hk3 (by simp)); have HK3 := Lib.hid (hk.out.trans hk3); clear hk3))
        have hmx : max (l.length : Int) 0 = l.length := by omega
        have hlt1 : ¬ (l.length : Int) < 0 := by omega
        go_wp2
        go_roundw
        case rel =>
          refine ⟨k + 1, l, by go_num, rfl, by omega, hcl.out, ?_, HC3.out, HK3.out⟩
          have := hlen.out
          rw [Hid]
          omega
        case measure => simp [intOf]; omega
    · have hlc : (l.length : Int) ≤ (c) := by have := hlen.out; omega
      have HLC := Lib.hid hlc
      clear hlc
      by_cases hl0 : l.length = 0
      · have hg0 : ¬ (0 : Int) < l.length := by omega
        have HL0 := Lib.hid hl0
        clear hl0
        go_wp2_with (first
          | (go_at_call 16; refine Calls.mono (HWI.out _) ?_; rintro e w2 ⟨rfl, rfl⟩)
          | (go_at_call 15; refine Calls.mono (sane _) ?_; rintro e x17 ⟨rfl, hkx⟩; have HK3 := Lib.hid (hk.out.trans hkx); clear hkx))
        go_ret
        exact ⟨rfl, HK3.out⟩
      · have hg0 : (0 : Int) < l.length := by omega
        have HL0 := Lib.hid (show 0 < l.length by omega)
        clear hl0
        go_wp2_with (first
          | (go_at_call 16; refine Calls.mono (HWI.out _) ?_; rintro e w2 ⟨rfl, rfl⟩)
          | (go_at_call 11; refine Calls.mono (cacheRemove 0 B bs (c) l.length (.map (some mb)) l 1 0 _ _ (by exact hcc.out) (hcl.out.first HL0.out) (by decide) (by omega)) ?_; rintro e w9 ⟨rfl, hc9, hk9⟩; obtain ⟨l', hl', hc9'⟩ : ∃ l' : List Cp, (l'.length : Int) = l.length - 1 ∧ Cch 0 w9 B bs (c) l.length (.map (some mb)) l' := ⟨_, by have := HL0.out; simp; omega, hc9⟩; have HL' := Lib.hid hl'; have HC9 := Lib.hid hc9'; have hbe : (((c) - (l'.length : Int)) != ((c) - l.length + 1)) = false := (by have := HL'.out; simp; omega); have hw9 : IntKind.i64.wrap ((c) - (l.length : Int)) = (c) - l.length := IntWalk.i64_in _ (by have := HLC.out; omega); have hw8 : IntKind.i64.wrap ((c) - (l.length : Int) + 1) = (c) - l.length + 1 := IntWalk.i64_in _ (by have := HLC.out; omega); have HK9 := Lib.hid (hk.out.trans' hk9 (by simp; omega)); clear hc9 hl' hc9' hk9)
          | (go_at_call 17; refine Calls.mono (cacheAvailable 0 B bs (c) l.length (.map (some mb)) l' _ (by exact HC9.out) (by omega) (by omega) (by have := HL'.out; omega)) ?_; rintro e w10 ⟨rfl, hk10⟩; have HC10 := Lib.hid (HC9.out.kept hk10 (by simp)); have HK10 := Lib.hid (HK9.out.trans hk10); clear hk10)
          | (go_at_call 9; refine Calls.mono (cacheAdd 0 (S := fun _ => False) B bs (c) l.length (.map (some mb)) l' 0 1 0 ⟨#[]⟩ 0 1 0 [] [] none none 0 0 _ (by exact HC10.out) (by decide) (by decide) (.inl rfl) (by have h1 := HL'.out; have h2 := HLC.out; omega) (by omega) (by omega) (by have := HL'.out; omega) (TR.nil 0 _ _) (Reads.nil _ _ _) (by decide) (fun h => h)) ?_; rintro e w11 ⟨rfl, hc11, M, hM, hk11⟩; have HK11 := Lib.hid (HK10.out.trans' hk11 (fun y hy => .inr (by rcases hM y hy with h | h <;> omega))); clear hc11 hM hk11)
          | (go_at_call 15; refine Calls.mono (sane _) ?_; rintro e x17 ⟨rfl, hkx⟩; have HK3 := Lib.hid (HK11.out.trans hkx); clear hkx))
        go_ret
        exact ⟨rfl, HK3.out⟩
set_option maxRecDepth 100000 in
set_option maxHeartbeats 6400000 in
theorem capWalkHigh (c n : Int) (w : World) (c1 : 200 < c) (n1 : -9223372036854775808 ≤ n) (n2 : n ≤ 9223372036854775807) :
    Calls Tryd.prog 4 #[.int .i64 c, .int .i64 n] w fun e w' => e = .returned (.bool true) ∧ Kept [] w w' := by
  obtain ⟨r, hr0, hr1, hwi⟩ := within205 n n1 n2
  have HWI := Lib.hid hwi
  have hcp : min (max c 0) 200 = 200 := by omega
  have HNEW := Lib.hid (fun w => hcp ▸ cacheNewAny c w)
  clear hwi hcp
  go_enter Tryd.func4, Tryd.ntmps4
  go_wp2_with (go_at_call 7; refine Calls.mono (HNEW.out _) ?_; rintro e w1 ⟨rfl, hcb, hsz, hk1⟩; have hs1 : w.heap.size + 2 ≤ w1.heap.size := Nat.le_of_eq hsz.symm; have HC0 := Lib.hid (Cch.fresh (d := 0) (base := w1.heap.size) hcb (by omega) (Nat.le_refl _)); have HK1 := Lib.hid hk1; clear hcb hsz hk1)
  obtain ⟨B, hB⟩ : ∃ B, B = w.heap.size + 1 := ⟨_, rfl⟩
  obtain ⟨bs, hbs⟩ : ∃ bs, bs = w1.heap.size := ⟨_, rfl⟩
  obtain ⟨mb, hmb⟩ : ∃ mb, mb = w.heap.size := ⟨_, rfl⟩
  have hB0 : w.heap.size ≤ B := by omega
  have hB1 : w.heap.size ≤ bs := by omega
  rw [← hB] at HC0 ⊢
  rw [← hbs, ← hmb] at HC0
  clear hB hbs hmb
  go_loopw [7, 8] (fun q i wr => ∃ (k : Nat) (l : List Cp), i = .int .i64 k ∧ q = .int .i64 l.length ∧ (k : Int) ≤ r ∧ Hid (CapL l) ∧ Hid ((l.length : Int) = min (k : Int) (200)) ∧ Hid (Cch 0 wr B bs (200) l.length (.map (some mb)) l) ∧ Hid (Kept [] w wr)) (fun _ i _ => (r - intOf i).toNat)
  case atStart => exact ⟨0, [], rfl, rfl, hr0, CapL.nil, by rw [Hid]; simp only [List.length_nil]; omega, HC0.out, HK1.out⟩
  case round =>
    clear HC0
    obtain ⟨k, l, rfl, rfl, hkr, hcl, hlen, hcc, hk⟩ := hrel
    have hll : l.length ≤ 205 := by have := hlen.out; omega
    obtain ⟨wo, hwo⟩ : ∃ wo : World, wo = wr := ⟨_, rfl⟩
    subst hwo
    by_cases hlt : (k : Int) < r
    · by_cases hkm : (k : Int) < 200
      · have hlk : (l.length : Int) = k := by have := hlen.out; omega
        have HLK := Lib.hid hlk
        clear hlk
        go_upto_region 10 with (first
          | (go_at_call 16; refine Calls.mono (HWI.out _) ?_; rintro e w2 ⟨rfl, rfl⟩)
          | (go_at_call 9; refine Calls.mono (cacheAdd 0 (S := fun _ => False) B bs (200) l.length (.map (some mb)) l 0 1 0 ⟨#[]⟩ 0 1 2 [] [] none none 0 0 _ (by exact hcc.out) (by decide) (by decide) (.inr (by decide)) (by have := HLK.out; omega) (by omega) (by omega) (by omega) (TR.nil 0 _ _) (Reads.nil _ _ _) (by decide) (fun h => h)) ?_; rintro e w3 ⟨rfl, hc3, M, hM, hk3⟩; have HC3 := Lib.hid hc3; have HK3 := Lib.hid (hk.out.trans' hk3 (fun y hy => .inr (by rcases hM y hy with h | h <;> omega))); clear hc3 hM hk3))
        have hmx : max (l.length : Int) (l.length + 1) = l.length + 1 := by omega
        have hlt1 : (l.length : Int) < l.length + 1 := by omega
        go_wp2
        go_roundw
        case rel =>
          have e1 : ((l ++ [(⟨(l.length : Int) + 1, 1, .mk 0 ⟨#[]⟩ 0 [], 1, 2, []⟩ : Cp)]).length : Int) = (l.length : Int) + 1 := by simp
          refine ⟨k + 1, l ++ [(⟨(l.length : Int) + 1, 1, .mk 0 ⟨#[]⟩ 0 [], 1, 2, []⟩ : Cp)], by go_num, by rw [e1], by omega, hcl.out.snoc, ?_, ?_, HK3.out⟩
          · rw [Hid, e1]
            have := hlen.out
            omega
          · rw [Hid, e1]
            exact HC3.out
        case measure => simp [intOf]; omega
      · have hlk : (200) ≤ (l.length : Int) := by have := hlen.out; omega
        have HLK := Lib.hid hlk
        have hkb : decide ((k : Int) < (200)) = false := decide_eq_false hkm
        clear hlk
        go_upto_region 10 with (first
          | (go_at_call 16; refine Calls.mono (HWI.out _) ?_; rintro e w2 ⟨rfl, rfl⟩)
          | (go_at_call 9; refine Calls.mono (cacheAddFull 0 B bs (200) l.length (.map (some mb)) l 0 1 0 ⟨#[]⟩ 0 1 2 none none 0 0 0 0 _ (by exact hcc.out) (by decide) (by decide) (by decide) (by exact HLK.out) (by omega) (by decide)) ?_; rintro e w3 ⟨rfl, hk3⟩; have HC3 := Lib.hid (hcc.out.kept hk3 (by simp)); have HK3 := Lib.hid (hk.out.trans hk3); clear hk3))
        have hmx : max (l.length : Int) 0 = l.length := by omega
        have hlt1 : ¬ (l.length : Int) < 0 := by omega
        go_wp2
        go_roundw
        case rel =>
          refine ⟨k + 1, l, by go_num, rfl, by omega, hcl.out, ?_, HC3.out, HK3.out⟩
          have := hlen.out
          rw [Hid]
          omega
        case measure => simp [intOf]; omega
    · have hlc : (l.length : Int) ≤ (200) := by have := hlen.out; omega
      have HLC := Lib.hid hlc
      clear hlc
      by_cases hl0 : l.length = 0
      · have hg0 : ¬ (0 : Int) < l.length := by omega
        have HL0 := Lib.hid hl0
        clear hl0
        go_wp2_with (first
          | (go_at_call 16; refine Calls.mono (HWI.out _) ?_; rintro e w2 ⟨rfl, rfl⟩)
          | (go_at_call 15; refine Calls.mono (sane _) ?_; rintro e x17 ⟨rfl, hkx⟩; have HK3 := Lib.hid (hk.out.trans hkx); clear hkx))
        go_ret
        exact ⟨rfl, HK3.out⟩
      · have hg0 : (0 : Int) < l.length := by omega
        have HL0 := Lib.hid (show 0 < l.length by omega)
        clear hl0
        go_wp2_with (first
          | (go_at_call 16; refine Calls.mono (HWI.out _) ?_; rintro e w2 ⟨rfl, rfl⟩)
          | (go_at_call 11; refine Calls.mono (cacheRemove 0 B bs (200) l.length (.map (some mb)) l 1 0 _ _ (by exact hcc.out) (hcl.out.first HL0.out) (by decide) (by omega)) ?_; rintro e w9 ⟨rfl, hc9, hk9⟩; obtain ⟨l', hl', hc9'⟩ : ∃ l' : List Cp, (l'.length : Int) = l.length - 1 ∧ Cch 0 w9 B bs (200) l.length (.map (some mb)) l' := ⟨_, by have := HL0.out; simp; omega, hc9⟩; have HL' := Lib.hid hl'; have HC9 := Lib.hid hc9'; have hbe : (((200) - (l'.length : Int)) != ((200) - l.length + 1)) = false := (by have := HL'.out; simp; omega); have hw9 : IntKind.i64.wrap ((200) - (l.length : Int)) = (200) - l.length := IntWalk.i64_in _ (by have := HLC.out; omega); have hw8 : IntKind.i64.wrap ((200) - (l.length : Int) + 1) = (200) - l.length + 1 := IntWalk.i64_in _ (by have := HLC.out; omega); have HK9 := Lib.hid (hk.out.trans' hk9 (by simp; omega)); clear hc9 hl' hc9' hk9)
          | (go_at_call 17; refine Calls.mono (cacheAvailable 0 B bs (200) l.length (.map (some mb)) l' _ (by exact HC9.out) (by omega) (by omega) (by have := HL'.out; omega)) ?_; rintro e w10 ⟨rfl, hk10⟩; have HC10 := Lib.hid (HC9.out.kept hk10 (by simp)); have HK10 := Lib.hid (HK9.out.trans hk10); clear hk10)
          | (go_at_call 9; refine Calls.mono (cacheAdd 0 (S := fun _ => False) B bs (200) l.length (.map (some mb)) l' 0 1 0 ⟨#[]⟩ 0 1 0 [] [] none none 0 0 _ (by exact HC10.out) (by decide) (by decide) (.inl rfl) (by have h1 := HL'.out; have h2 := HLC.out; omega) (by omega) (by omega) (by have := HL'.out; omega) (TR.nil 0 _ _) (Reads.nil _ _ _) (by decide) (fun h => h)) ?_; rintro e w11 ⟨rfl, hc11, M, hM, hk11⟩; have HK11 := Lib.hid (HK10.out.trans' hk11 (fun y hy => .inr (by rcases hM y hy with h | h <;> omega))); clear hc11 hM hk11)
          | (go_at_call 15; refine Calls.mono (sane _) ?_; rintro e x17 ⟨rfl, hkx⟩; have HK3 := Lib.hid (HK11.out.trans hkx); clear hkx))
        go_ret
        exact ⟨rfl, HK3.out⟩
set_option maxRecDepth 100000 in
set_option maxHeartbeats 6400000 in
theorem capWalkLow (c n : Int) (w : World) (c1 : c < 0) (n1 : -9223372036854775808 ≤ n) (n2 : n ≤ 9223372036854775807) :
    Calls Tryd.prog 4 #[.int .i64 c, .int .i64 n] w fun e w' => e = .returned (.bool true) ∧ Kept [] w w' := by
  obtain ⟨r, hr0, hr1, hwi⟩ := within205 n n1 n2
  have HWI := Lib.hid hwi
  have hcp : min (max c 0) 200 = 0 := by omega
  have HNEW := Lib.hid (fun w => hcp ▸ cacheNewAny c w)
  clear hwi hcp
  go_enter Tryd.func4, Tryd.ntmps4
  go_wp2_with (go_at_call 7; refine Calls.mono (HNEW.out _) ?_; rintro e w1 ⟨rfl, hcb, hsz, hk1⟩; have hs1 : w.heap.size + 2 ≤ w1.heap.size := Nat.le_of_eq hsz.symm; have HC0 := Lib.hid (Cch.fresh (d := 0) (base := w1.heap.size) hcb (by omega) (Nat.le_refl _)); have HK1 := Lib.hid hk1; clear hcb hsz hk1)
  obtain ⟨B, hB⟩ : ∃ B, B = w.heap.size + 1 := ⟨_, rfl⟩
  obtain ⟨bs, hbs⟩ : ∃ bs, bs = w1.heap.size := ⟨_, rfl⟩
  obtain ⟨mb, hmb⟩ : ∃ mb, mb = w.heap.size := ⟨_, rfl⟩
  have hB0 : w.heap.size ≤ B := by omega
  have hB1 : w.heap.size ≤ bs := by omega
  rw [← hB] at HC0 ⊢
  rw [← hbs, ← hmb] at HC0
  clear hB hbs hmb
  go_loopw [7, 8] (fun q i wr => ∃ (k : Nat) (l : List Cp), i = .int .i64 k ∧ q = .int .i64 l.length ∧ (k : Int) ≤ r ∧ Hid (CapL l) ∧ Hid ((l.length : Int) = min (k : Int) (0)) ∧ Hid (Cch 0 wr B bs (0) l.length (.map (some mb)) l) ∧ Hid (Kept [] w wr)) (fun _ i _ => (r - intOf i).toNat)
  case atStart => exact ⟨0, [], rfl, rfl, hr0, CapL.nil, by rw [Hid]; simp only [List.length_nil]; omega, HC0.out, HK1.out⟩
  case round =>
    clear HC0
    obtain ⟨k, l, rfl, rfl, hkr, hcl, hlen, hcc, hk⟩ := hrel
    have hll : l.length ≤ 205 := by have := hlen.out; omega
    obtain ⟨wo, hwo⟩ : ∃ wo : World, wo = wr := ⟨_, rfl⟩
    subst hwo
    by_cases hlt : (k : Int) < r
    · by_cases hkm : (k : Int) < 0
      · exact absurd hkm (by omega)
      · have hlk : (0) ≤ (l.length : Int) := by have := hlen.out; omega
        have HLK := Lib.hid hlk
        have hkb : decide ((k : Int) < (0)) = false := decide_eq_false hkm
        clear hlk
        go_upto_region 10 with (first
          | (go_at_call 16; refine Calls.mono (HWI.out _) ?_; rintro e w2 ⟨rfl, rfl⟩)
          | (go_at_call 9; refine Calls.mono (cacheAddFull 0 B bs (0) l.length (.map (some mb)) l 0 1 0 ⟨#[]⟩ 0 1 2 none none 0 0 0 0 _ (by exact hcc.out) (by decide) (by decide) (by decide) (by exact HLK.out) (by omega) (by decide)) ?_; rintro e w3 ⟨rfl, hk3⟩; have HC3 := Lib.hid (hcc.out.kept hk3 (by simp)); have HK3 := Lib.hid (hk.out.trans hk3); clear hk3))
        have hmx : max (l.length : Int) 0 = l.length := by omega
        have hlt1 : ¬ (l.length : Int) < 0 := by omega
        go_wp2
        go_roundw
        case rel =>
          refine ⟨k + 1, l, by go_num, rfl, by omega, hcl.out, ?_, HC3.out, HK3.out⟩
          have := hlen.out
          rw [Hid]
          omega
        case measure => simp [intOf]; omega
    · have hlc : (l.length : Int) ≤ (0) := by have := hlen.out; omega
      have HLC := Lib.hid hlc
      clear hlc
      by_cases hl0 : l.length = 0
      · have hg0 : ¬ (0 : Int) < l.length := by omega
        have HL0 := Lib.hid hl0
        clear hl0
        go_wp2_with (first
          | (go_at_call 16; refine Calls.mono (HWI.out _) ?_; rintro e w2 ⟨rfl, rfl⟩)
          | (go_at_call 15; refine Calls.mono (sane _) ?_; rintro e x17 ⟨rfl, hkx⟩; have HK3 := Lib.hid (hk.out.trans hkx); clear hkx))
        go_ret
        exact ⟨rfl, HK3.out⟩
      · have := HLC.out
        omega

theorem capWalk (c n : Int) (w : World) (n1 : -9223372036854775808 ≤ n) (n2 : n ≤ 9223372036854775807) :
    Calls Tryd.prog 4 #[.int .i64 c, .int .i64 n] w fun e w' => e = .returned (.bool true) ∧ Kept [] w w' := by
  by_cases h1 : c < 0
  · exact capWalkLow c n w h1 n1 n2
  · by_cases h2 : 200 < c
    · exact capWalkHigh c n w h2 n1 n2
    · exact capWalkMid c n w (by omega) (by omega) n1 n2
end Go.Proofs.YtkldomkooleecaaDoor
