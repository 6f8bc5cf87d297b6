/- The walk of the law ReclaimSafe. -/
import Derived.Test.YtkldomkooleecaaSafeB
namespace Go.Proofs.Ytkldomkooleecaa
open Go.RowKit

/-- Only the cache at B and what lies from bs on may have turned. -/
def KB (B bs : Nat) (w w' : World) : Prop := ∃ M, (∀ y ∈ M, y = B ∨ bs ≤ y) ∧ Kept M w w'
theorem KB.refl (B bs : Nat) (w : World) : KB B bs w w := ⟨[], by simp, Kept.refl _ _⟩
theorem KB.add {B bs : Nat} {a b c : World} {M : List Nat} (h : KB B bs a b) (k : Kept M b c) (hm : ∀ y ∈ M, y = B ∨ bs ≤ y) : KB B bs a c := by
  obtain ⟨M', h1, h2⟩ := h
  refine ⟨M' ++ M, fun y hy => ?_, (h2.mono (M' := M' ++ M) (fun x hx => .inl (by simp [hx]))).trans (k.mono (M' := M' ++ M) (fun x hx => .inl (by simp [hx])))⟩
  rcases List.mem_append.1 hy with hy | hy
  · exact h1 y hy
  · exact hm y hy
theorem KB.size {B bs : Nat} {a b : World} (h : KB B bs a b) : a.heap.size ≤ b.heap.size := by obtain ⟨_, _, h⟩ := h; exact h.size
theorem KB.reads {B bs : Nat} {a b : World} (h : KB B bs a b) {v : Value} {n : Nat} {rows : List (List Value)} (hr : Reads (fun y => y ≠ B ∧ y < bs) a v n rows) : Reads (fun y => y ≠ B ∧ y < bs) b v n rows := by
  obtain ⟨M, h1, h2⟩ := h
  exact hr.kept h2 (fun x hx hq => by rcases h1 x hx with h | h; exact hq.1 h; omega)
theorem KB.stk {B bs : Nat} {a b : World} (h : KB B bs a b) {v : Value} {fs : List (List Fr)} (hr : Stk (fun y => y ≠ B ∧ y < bs) a v fs) : Stk (fun y => y ≠ B ∧ y < bs) b v fs := by
  obtain ⟨M, h1, h2⟩ := h
  exact hr.kept h2 (fun x hx hq => by rcases h1 x hx with h | h; exact hq.1 h; omega)
theorem KB.kept {B bs : Nat} {w a b : World} (h : KB B bs a b) (k : Kept [] w a) (h1 : w.heap.size ≤ B) (h2 : w.heap.size ≤ bs) : Kept [] w b := by
  obtain ⟨M, h3, h4⟩ := h
  exact k.trans' h4 (fun x hx => .inr (by rcases h3 x hx with h | h <;> omega))

theorem max3 (n f u : Int) (h1 : 1 ≤ n) (h2 : n ≤ 10) (h3 : 1 ≤ f) (h4 : f ≤ 6) (h5 : u ≤ 10) : n ≤ (if (if n < f then f else n) < u then u else if n < f then f else n) ∧ u ≤ (if (if n < f then f else n) < u then u else if n < f then f else n) ∧ (if (if n < f then f else n) < u then u else if n < f then f else n) ≤ 10 ∧ 1 ≤ (if (if n < f then f else n) < u then u else if n < f then f else n) := by
  split <;> split <;> omega
theorem max2 (n u : Int) (h2 : n ≤ 10) (h5 : u ≤ 10) : n ≤ (if n < u then u else n) ∧ (if n < u then u else n) ≤ 10 := by
  split <;> omega

theorem dead_len (act ws : List Int) (l : List Cp) (es : List Value) (n : Nat) (h : l.length ≤ n) : ((freed act ws (List.zipWith Cp.cc l es)).foldl ins []).length ≤ n := by
  have h1 := inss_length (freed act ws (List.zipWith Cp.cc l es)) []
  have h2 := freed_length act ws (List.zipWith Cp.cc l es)
  have h3 : (List.zipWith Cp.cc l es).length ≤ l.length := by simp; omega
  simp at h1
  omega

theorem live_world {fs : List (List Fr)} {f : List Fr} {y : Fr} (n : Int) (hf : f ∈ fs) (hy : y ∈ f) : y.world ∈ (worldsOf fs.flatten).foldl ins [n] := by
  rw [inss_mem]
  exact .inr (List.mem_map.2 ⟨y, List.mem_flatten.2 ⟨f, hf, hy⟩, rfl⟩)
theorem live_code {fs : List (List Fr)} {f : List Fr} {y : Fr} {n : Int} (hf : f ∈ fs) (hy : y ∈ f) (hn : 1 ≤ n) (h : n ∉ (codesOf fs.flatten).foldl ins []) : (y.code == n) = false := by
  rw [beq_eq_false_iff_ne]
  rintro rfl
  apply h
  rw [inss_mem]
  right
  unfold codesOf
  rw [List.mem_filter]
  exact ⟨List.mem_map.2 ⟨y, List.mem_flatten.2 ⟨f, hf, hy⟩, rfl⟩, by simp; omega⟩

theorem cp_snoc {cs : List Cc} {k : Nat} {m f u : Int} (h : cs[k]? = some (mkc (k + 1) m f u)) : (cs.take (k + 1)).map toCp = (cs.take k).map toCp ++ [⟨(k : Int) + 1, m, .mk 3 ⟨#[]⟩ 0 [], f, u, []⟩] := by
  rw [List.take_add_one, h]
  simp [toCp, mkc]

set_option maxRecDepth 100000 in
set_option maxHeartbeats 6400000 in
theorem reclaimSafe {S : Nat → Prop} (t : Value) (lt : List Int) (w : World) (ht : Reads S w t 1 (irows lt)) (hS : ∀ b, S b → b < w.heap.size) :
    Calls Try.prog 7 #[t] w fun e w' => e = .returned (.bool true) ∧ Kept [] w w' := by
  have HT := Lib.hid ht
  have HS := Lib.hid hS
  obtain ⟨a1, c1, rfl, b1, b2, _⟩ := ht.ints
  clear ht hS
  go_enter Try.func7, Try.ntmps7
  go_wp2_with (first
    | (go_at_call 8; refine Calls.mono (newTape _ lt _ (by exact HT.out) (by exact HS.out)) ?_; rintro e w1 ⟨rfl, hT, hk1⟩; have hbl := hT.lt; have hs1 := hk1.size)
    | (go_at_call 34; refine Calls.mono (cacheNew 20 _ (by decide) (by decide)) ?_; rintro e w2 ⟨rfl, hcb, _, hsz, hk2⟩; have hT := hT.kept hk2 (by simp); have HCB := Lib.hid hcb; have hs2 : w1.heap.size + 2 ≤ w2.heap.size := Nat.le_of_eq hsz.symm; have hk2' := hk1.trans hk2; clear hcb hsz)
    | (go_at_call 9; have hc10 : Calls Try.prog 9 #[.pointer (some ⟨w.heap.size, 0, none⟩), .int .i64 12] w2 _ := codes _ 0 12 _ hT (by omega); refine Calls.mono hc10 ?_; clear hc10; rintro e w3 ⟨lV, cs, rfl, hcl, hgen, hco, hT, hk3⟩; have hs3 := hk3.size; have HCB := Lib.hid (HCB.out.kept hk3 (by simp; omega)); have hk3' := hk2'.trans' hk3 (by simp); have HC := Lib.hid hco.rows'; have HCL := Lib.hid hcl; have HGEN := Lib.hid hgen; clear hco hcl hgen)
    | (go_at_call 10; refine Calls.mono (stacks _ _ _ (by exact hT) (by omega)) ?_; rintro e w4 ⟨sV, fs, rfl, hfl, hff, hst, _, hk4⟩; have hs4 := hk4.size; have HCB := Lib.hid (HCB.out.kept hk4 (by simp; omega)); have hk4' := hk3'.trans' hk4 (by simp); have HC := Lib.hid (HC.out.kept hk4 (by simp; omega)); have HST := Lib.hid hst; have HFF := Lib.hid hff; clear hst hff))
  have hbs : w1.heap.size + 2 ≤ w4.heap.size := by omega
  have HC1 := Lib.hid (HC.out.mono (S' := fun y => y ≠ w1.heap.size + 1 ∧ y < w4.heap.size) (fun b hb h => ⟨by omega, hb⟩))
  have HST1 := Lib.hid (HST.out.mono (S' := fun y => y ≠ w1.heap.size + 1 ∧ y < w4.heap.size) (fun b hb h => ⟨by omega, hb⟩))
  clear HC HST
  obtain ⟨B, hB⟩ : ∃ B, B = w1.heap.size + 1 := ⟨_, rfl⟩
  obtain ⟨mb, hmb⟩ : ∃ mb, mb = w1.heap.size := ⟨_, rfl⟩
  obtain ⟨bs, hbs'⟩ : ∃ bs, bs = w4.heap.size := ⟨_, rfl⟩
  have hBb : B < bs := by omega
  have hwB : w.heap.size ≤ B := by omega
  have HBS := Lib.hid (show bs ≤ w4.heap.size by omega)
  rw [← hB] at HCB HC1 HST1 ⊢
  rw [← hmb] at HCB
  rw [← hbs'] at HC1 HST1
  have HCC := Lib.hid (Cch.fresh (d := 0) HCB.out hBb HBS.out)
  clear hB hmb hbs' hbs hs1 hs2 hs3 hs4 HCB hk1 hk2 hk2' hk3 hk3' hk4 hbl
  obtain ⟨ca, cc, rfl, l1, l2, l3⟩ := codes_form HC1.out
  have L3 := Lib.hid l3
  clear l3
  obtain ⟨sa, sc, rfl, s1, s2, _⟩ := HST1.out.form
  obtain ⟨wo, hwo⟩ : ∃ wo : World, wo = w4 := ⟨_, rfl⟩
  subst hwo
  go_loopw [7, 8] (fun n i wr => ∃ (k : Nat) (nw : Int), k ≤ cs.length ∧ i = .int .i64 k ∧ n = .int .i64 nw ∧ 1 ≤ nw ∧ nw ≤ 10 ∧ Hid (∀ x ∈ cs.take k, x.unt ≤ nw) ∧ Hid (Cch 0 wr B bs 20 k (.map (some mb)) ((cs.take k).map toCp)) ∧ Hid (KB B bs wo wr)) (fun _ i _ => cs.length - (intOf i).toNat)
  case atStart => exact ⟨0, 1, Nat.zero_le _, rfl, rfl, by decide, by decide, fun x hx => by simp at hx, HCC.out, KB.refl _ _ _⟩
  case round =>
    clear HCC
    obtain ⟨k, nw, hk, rfl, rfl, hn1, hn2, hnu, hcc, hkb⟩ := hrel
    have szr := hkb.out.size
    by_cases hlt : k < cs.length
    · have hne : cs ≠ [] := by rintro rfl; simp at hlt
      obtain ⟨b5, o5, rfl, hSb, hb5, hc5⟩ := L3.out.resolve_left hne
      obtain ⟨x, hx⟩ := getp cs k hlt
      obtain ⟨hrx, _⟩ := hc5 k x hx
      obtain ⟨xm, xf, xu, rfl, hm1, hm2, hf1, hf2, hxu⟩ := HGEN.out k x hx
      obtain ⟨M, hM1, hM2⟩ := hkb.out
      have hb5M : b5 ∉ M := fun hm => by rcases hM1 _ hm with h | h; exact hSb.1 h; have := hSb.2; omega
      have hrg := hM2.range hrx hb5M
      have HX := Lib.hid hx
      have HRG := Lib.hid hrg
      have hk12 : k < 12 := by rw [HCL.out] at hlt; exact hlt
      have hkl : ((cs.take k).map toCp).length ≤ 12 := by simp; omega
      have HKL := Lib.hid hkl
      have HB5 := Lib.hid (show b5 ≠ B ∧ b5 < bs from hSb)
      clear hrx hx hc5 hne L3 hrg hM1 hM2 hb5M hSb hkl
      obtain ⟨wp, hwp⟩ : ∃ wp : World, wp = wr := ⟨_, rfl⟩
      subst hwp
      go_upto_region 11 with (first
        | (refine wpList_load_mid rfl 65 (.tmp 40) rfl b5 (o5 + k * 14) rfl [.int .i64 (k + 1), .int .i64 xm, .int .i64 3, .string ⟨#[]⟩, .int .i64 0, .slice none 0 0, .int .i64 xf, .int .i64 xu, .int .i64 0, .int .i64 0, .slice none 0 0, .slice none 0 0, .slice none 0 0, .slice none 0 0] _ HRG.out Try.underlying65 rfl (by kernel_rfl) ?_)
        | (go_at_call 35; refine Calls.mono (cacheAdd 0 (S := fun _ => False) B bs 20 k (.map (some mb)) ((cs.take k).map toCp) (k + 1) xm 3 ⟨#[]⟩ 0 xf xu [] [] none none 0 0 _ (by exact hcc.out) hm1 hf1 (by omega) (by have := HKL.out; omega) (by omega) (by omega) (by have := HKL.out; omega) (TR.nil 0 _ _) (Reads.nil _ _ _) (by decide) (fun h => h)) ?_; rintro e w5 ⟨rfl, hc5, M5, hm5, hk5⟩; have HC5 := Lib.hid hc5; have HK5 := Lib.hid (hkb.out.add hk5 hm5); have hrg5 := Lib.hid (hk5.range HRG.out (fun hm => by rcases hm5 _ hm with h | h; exact HB5.out.1 h; have := HB5.out.2; omega)); clear hc5 hm5))
      have c6 : w5.cell? ⟨b5, o5 + k * 14 + 6, none⟩ = some (.int .i64 xf) := hrg5.out 6 _ rfl
      have c7 : w5.cell? ⟨b5, o5 + k * 14 + 7, none⟩ = some (.int .i64 xu) := hrg5.out 7 _ rfl
      have HMX := Lib.hid (max3 nw xf xu hn1 hn2 hf1 hf2 (by omega))
      go_wp2
      go_quiet (fail)
      all_goals go_wp2
      all_goals
        go_roundw
        case rel =>
          refine ⟨k + 1, _, by omega, by go_num, rfl, HMX.out.2.2.2, HMX.out.2.2.1, ?_, ?_, HK5.out.add (M := []) ((Kept.refl [] w5).drewN nq) (by simp)⟩
          · rw [Hid, List.take_add_one, HX.out]
            intro y hy
            rcases List.mem_append.1 hy with hy | hy
            · have h1 := hnu.out y hy
              have h2 := HMX.out.1
              omega
            · simp at hy
              subst hy
              exact HMX.out.2.1
          · have h1 := HC5.out.kept ((Kept.refl [] w5).drewN nq) (by simp)
            have e : ((k + 1 : Nat) : Int) = (k : Int) + 1 := by omega
            rw [Hid, cp_snoc HX.out, e]
            exact h1
        case measure => simp [intOf]; omega
    · have hk12 : k = cs.length := by omega
      have HALL := Lib.hid (show ∀ x ∈ cs, x.unt ≤ nw by have := hnu.out; rw [hk12, List.take_length] at this; exact this)
      have HCC := Lib.hid (show Cch 0 wr B bs 20 12 (.map (some mb)) (cs.map toCp) by have := hcc.out; rw [hk12, List.take_length, HCL.out] at this; exact this)
      have HSTR := Lib.hid (hkb.out.stk HST1.out)
      clear hnu hcc hk12
      obtain ⟨_, _, e, _, _, s3⟩ := HSTR.out.form
      obtain rfl := (Value.slice.inj e).1
      have S3 := Lib.hid s3
      clear s3 e
      go_wp2
      go_loop [7, 11] (fun n i => ∃ (a : Nat) (n' : Int), a ≤ fs.length ∧ i = .int .i64 a ∧ n = .int .i64 n' ∧ nw ≤ n' ∧ n' ≤ 10) (fun _ i => fs.length - (intOf i).toNat)
      case atStart => exact ⟨0, nw, Nat.zero_le _, rfl, rfl, Int.le_refl _, hn2⟩
      case round =>
        obtain ⟨a, n', ha, rfl, rfl, hq1, hq2⟩ := hrel
        by_cases hla : a < fs.length
        · have hnf : fs ≠ [] := by rintro rfl; simp at hla
          obtain ⟨b6, o6, rfl, _, hb6, hc6⟩ := S3.out.resolve_left hnf
          obtain ⟨f, hf⟩ := getp fs a hla
          obtain ⟨u, cu, hru⟩ := hc6 a f hf
          obtain ⟨a2, c2, rfl, g1, g2, g3⟩ := frames_form hru
          obtain ⟨hfl4, hfg⟩ := HFF.out f (List.mem_of_getElem? hf)
          have G3 := Lib.hid g3
          have HFG := Lib.hid hfg
          clear g3 hf hc6 hnf hru S3 hfg
          go_wp2
          go_loop [7, 12] (fun n j => ∃ (m : Nat) (n'' : Int), m ≤ f.length ∧ j = .int .i64 m ∧ n = .int .i64 n'' ∧ nw ≤ n'' ∧ n'' ≤ 10) (fun _ j => f.length - (intOf j).toNat)
          case atStart => exact ⟨0, n', Nat.zero_le _, rfl, rfl, hq1, hq2⟩
          case round =>
            obtain ⟨m, n'', hm, rfl, rfl, hp1, hp2⟩ := hrel
            by_cases hlm : m < f.length
            · have hnf : f ≠ [] := by rintro rfl; simp at hlm
              obtain ⟨b7, o7, rfl, _, hb7, hc7⟩ := G3.out.resolve_left hnf
              obtain ⟨y, hy⟩ := getp f m hlm
              obtain ⟨hry, _⟩ := hc7 m y hy
              obtain ⟨yc, ym, yw, rfl, _, _, _, _, hw1, hw2⟩ := HFG.out y (List.mem_of_getElem? hy)
              have y2 : wr.cell? ⟨b7, o7 + m * 5 + 2, none⟩ = some (.int .i64 yw) := hry 2 _ rfl
              clear hry hy hc7 hnf G3
              go_wp2
              go_round
              case rel => exact ⟨m + 1, _, by omega, by go_num, rfl, by omega, by omega⟩
              case measure => simp [intOf]; omega
            · go_wp2
              go_round
              case rel => exact ⟨a + 1, n'', by omega, by go_num, rfl, hp1, hp2⟩
              case measure => simp [intOf]; omega
        · have HFL := Lib.hid (show fs.length ≤ 900 by omega)
          have HFM := Lib.hid (show ∀ f ∈ fs, f.length ≤ 1000 from fun f hf => by have := (HFF.out f hf).1; omega)
          have HN := Lib.hid (show ∀ x ∈ cs, x.unt ≤ n' from fun x hx => by have := HALL.out x hx; omega)
          have hq3 : 1 ≤ n' := by omega
          clear S3 hq1 HALL L3 HC1 HST1
          go_upto_region 22 with (first
            | (go_at_call 36; refine Calls.mono (cacheAll 0 B bs 20 12 (.map (some mb)) (cs.map toCp) _ (by exact HCC.out) (by rw [List.length_map, HCL.out]; decide)) ?_; rintro e v1 ⟨q1, rfl, ⟨es, n1, n2, _⟩, hka⟩; have HALLR := Lib.hid (show Reads (fun _ => True) v1 q1 14 (crows (List.zipWith Cp.cc (cs.map toCp) es)) from (by rw [crows_cc]; exact n2.rows'.mono (fun _ _ _ => trivial))); have HN1 := Lib.hid n1; have HCC := Lib.hid (HCC.out.kept hka (by simp)); have HSTR := Lib.hid (HSTR.out.kept hka (by simp)); have HK := Lib.hid hka; clear n1 n2 hka)
            | (go_at_call 15; refine Calls.mono (activeCodes _ fs _ (by exact HSTR.out) (by exact HFL.out) (by exact HFM.out)) ?_; rintro e v2 ⟨q2, rfl, hox, hkx⟩; have HA := Lib.hid (show Reads (fun _ => True) v2 q2 1 (irows ((codesOf fs.flatten).foldl ins [])) from hox.rows.mono (fun _ _ _ => trivial)); have HALLR := Lib.hid (HALLR.out.kept hkx (by simp)); have HCC := Lib.hid (HCC.out.kept hkx (by simp)); have HSTR := Lib.hid (HSTR.out.kept hkx (by simp)); have HK := Lib.hid (HK.out.trans hkx); clear hkx hox)
            | (go_at_call 14; refine Calls.mono (liveWorlds n' _ fs _ (by exact HSTR.out) (by exact HFL.out) (by exact HFM.out)) ?_; rintro e v3 ⟨q3, rfl, hox, hkx⟩; have HW := Lib.hid (show Reads (fun _ => True) v3 q3 1 (irows ((worldsOf fs.flatten).foldl ins [n'])) from hox.rows.mono (fun _ _ _ => trivial)); have HA := Lib.hid (HA.out.kept hkx (by simp)); have HALLR := Lib.hid (HALLR.out.kept hkx (by simp)); have HCC := Lib.hid (HCC.out.kept hkx (by simp)); have HSTR := Lib.hid (HSTR.out.kept hkx (by simp)); have HK := Lib.hid (HK.out.trans hkx); clear hkx hox)
            | (go_at_call 16; refine Calls.mono (unreachable _ _ _ (List.zipWith Cp.cc (cs.map toCp) es) ((codesOf fs.flatten).foldl ins []) ((worldsOf fs.flatten).foldl ins [n']) _ (by exact HALLR.out) (by exact HA.out) (by exact HW.out) (by rw [List.length_zipWith, HN1.out, List.length_map, HCL.out]; decide)) ?_; rintro e v4 ⟨q4, rfl, hox, hkx⟩; have HD := Lib.hid (show Reads (fun y => y ≠ B) v4 q4 1 (irows ((freed ((codesOf fs.flatten).foldl ins []) ((worldsOf fs.flatten).foldl ins [n']) (List.zipWith Cp.cc (cs.map toCp) es)).foldl ins [])) from hox.rows'.mono (fun y _ hy => by have := HCC.out.lt; omega)); have HCC := Lib.hid (HCC.out.kept hkx (by simp)); have HSTR := Lib.hid (HSTR.out.kept hkx (by simp)); have HK := Lib.hid (HK.out.trans hkx); clear hkx hox HW HA HALLR))
          have HGP := Lib.hid HGEN.out.cp
          have HDD := Lib.hid (dead_of ((codesOf fs.flatten).foldl ins []) ((worldsOf fs.flatten).foldl ins [n']) (cs.map toCp) es HN1.out HGP.out.asc)
          have HDL := Lib.hid (dead_len ((codesOf fs.flatten).foldl ins []) ((worldsOf fs.flatten).foldl ins [n']) (cs.map toCp) es 12 (by rw [List.length_map, HCL.out]; exact Nat.le_refl _))
          obtain ⟨D, hD⟩ : ∃ D, D = (freed ((codesOf fs.flatten).foldl ins []) ((worldsOf fs.flatten).foldl ins [n']) (List.zipWith Cp.cc (cs.map toCp) es)).foldl ins [] := ⟨_, rfl⟩
          rw [← hD] at HD HDD HDL
          clear hD HN1
          obtain ⟨da, dc, rfl, d1, d2, d3⟩ := HD.out.ints
          have D3 := Lib.hid d3
          clear d3 HD
          obtain ⟨wv, hwv⟩ : ∃ wv : World, wv = v4 := ⟨_, rfl⟩
          subst hwv
          have HWN := Lib.hid (show n' ∈ (worldsOf fs.flatten).foldl ins [n'] from (inss_mem _ _ _).2 (.inl (by simp)))
          obtain ⟨act, hact⟩ : ∃ act, act = (codesOf fs.flatten).foldl ins [] := ⟨_, rfl⟩
          obtain ⟨ws, hws⟩ : ∃ ws, ws = (worldsOf fs.flatten).foldl ins [n'] := ⟨_, rfl⟩
          rw [← hact, ← hws] at HDD
          rw [← hws] at HWN
          have HACT := Lib.hid hact
          have HWS := Lib.hid hws
          clear hact hws
          go_wp2
          go_loopw [14] (fun i wx => ∃ (j : Nat) (l : List Cp), j ≤ D.length ∧ i = .int .i64 j ∧ l.length ≤ 12 ∧ Hid (Left (cs.map toCp) D j l) ∧ Hid (Cch 0 wx B bs 20 12 (.map (some mb)) l) ∧ Hid (Kept [B] wv wx)) (fun i _ => D.length - (intOf i).toNat)
          case atStart => exact ⟨0, cs.map toCp, Nat.zero_le _, rfl, by rw [List.length_map, HCL.out]; exact Nat.le_refl _, Left.start _ _, HCC.out, Kept.refl _ _⟩
          case round =>
            clear HCC
            obtain ⟨j, l, hj, rfl, hl12, hleft, hcc4, hkv⟩ := hrel
            have hdl := HDL.out
            by_cases hlj : j < D.length
            · have hnd : D ≠ [] := by rintro rfl; simp at hlj
              obtain ⟨b8, o8, rfl, hSb8, hb8, hc8⟩ := D3.out.resolve_left hnd
              obtain ⟨nd, hnd'⟩ := getx D j hlj
              have cd := hkv.out.cell' (hc8 j nd hnd') (by simpa using hSb8)
              have HND := Lib.hid hnd'
              have HB8 := Lib.hid hSb8
              have hj12 : j < 12 := by omega
              clear hc8 hnd' hnd D3 hSb8 hdl
              obtain ⟨wx, hwx⟩ : ∃ wx : World, wx = wr := ⟨_, rfl⟩
              subst hwx
              go_upto_region 29 with (first
                | (go_at_call 37; refine Calls.mono (safeGet 0 B bs 20 12 (.map (some mb)) l j nd _ (by exact hcc4.out) (by exact hleft.out) (by exact HGP.out) (by exact HDD.out) (by exact HND.out)) ?_; rintro e x1 ⟨hk1, xm, xf, xu, xa, xc, xb, xd, rfl, ht1, hdead, z, hz, hzu⟩; have HCX := Lib.hid (hcc4.out.kept hk1 (by simp)); have HT1 := Lib.hid ht1; have HDE := Lib.hid hdead; have HU := Lib.hid (show xu ≤ n' from (by obtain ⟨q, hq, rfl⟩ := List.mem_map.1 hz; rw [← hzu]; exact HN.out q hq)); have HK1 := Lib.hid hk1; clear ht1 hdead hz hzu hk1)
                | (go_at_call 38; refine Calls.mono (safeLookup 0 (S := (wx.heap.size ≤ ·)) B bs 20 12 (.map (some mb)) l nd xf xu xm (n' + j) xa xc _ (by exact HCX.out.kept ((Kept.refl [] _).alloc _) (by simp)) (by exact HDE.out) (by have := HU.out; omega) (by exact (TR.good 0).kept HT1.out ((Kept.refl [] x1).alloc _) (by simp))) ?_; intro e x2 hlk; rcases hlk with ⟨yi, ym, yk, yn, yx, p1, m1, k1, yf, yu, p2, m2, k2, fl, hk2, hfl'⟩; have HFL' := Lib.hid hfl'; have HX2 := Lib.hid ((Blk.new x1 [.int .i64 nd, .int .i64 xm, .int .i64 3, .string ⟨#[]⟩, .int .i64 0, .slice xa 0 xc, .int .i64 xf, .int .i64 xu, .int .i64 0, .int .i64 0, .slice none 0 0, .slice none 0 0, .slice none 0 0, .slice xb 0 xd] 65).kept hk2 (by simp)); have hk2a := ((Kept.refl [] x1).alloc (.cells #[.int .i64 nd, .int .i64 xm, .int .i64 3, .string ⟨#[]⟩, .int .i64 0, .slice xa 0 xc, .int .i64 xf, .int .i64 xu, .int .i64 0, .int .i64 0, .slice none 0 0, .slice none 0 0, .slice none 0 0, .slice xb 0 xd] 65)).trans hk2; have HCX2 := Lib.hid (HCX.out.kept hk2a (by simp)); have HT2 := Lib.hid ((TR.good 0).kept HT1.out hk2a (by simp)); have HK2 := Lib.hid (HK1.out.trans hk2a); have sx2 : x1.heap.size < x2.heap.size := HX2.out.lt; clear hfl' hk2 hk2a))
              have hst5 := (HSTR.out.kept hkv.out (by intro x hx h; simp at hx; exact h.1 hx))
              have HST2 := Lib.hid ((hst5.kept HK2.out (by simp)))
              clear hst5 HCX HT1 HU HK1
              obtain ⟨_, _, ee, _, _, s5⟩ := HST2.out.form
              obtain rfl := (Value.slice.inj ee).1
              have S5 := Lib.hid s5
              have x0 := HX2.out.cell 0 _ rfl
              clear s5 ee
              have HY0 := Lib.hid (Blk.new x2 [.int .i64 yi, .int .i64 ym, .int .i64 yk, .string yn, .int .i64 yx, .slice p1 m1 k1, .int .i64 yf, .int .i64 yu, .int .i64 0, .int .i64 0, .slice none 0 0, .slice none 0 0, .slice none 0 0, .slice p2 m2 k2] 65)
              have hkz : Kept [] x2 (x2.alloc (.cells #[.int .i64 yi, .int .i64 ym, .int .i64 yk, .string yn, .int .i64 yx, .slice p1 m1 k1, .int .i64 yf, .int .i64 yu, .int .i64 0, .int .i64 0, .slice none 0 0, .slice none 0 0, .slice none 0 0, .slice p2 m2 k2] 65)) := (Kept.refl _ _).alloc _
              have hff : fl = false ∨ (fl = true ∧ (yi == nd) = false) := HFL'.out
              rcases hff with rfl | ⟨rfl, hy0⟩
              all_goals go_wp2
              all_goals
                obtain ⟨wz, hwz⟩ : ∃ wz : World, wz = x2.alloc (.cells #[.int .i64 yi, .int .i64 ym, .int .i64 yk, .string yn, .int .i64 yx, .slice p1 m1 k1, .int .i64 yf, .int .i64 yu, .int .i64 0, .int .i64 0, .slice none 0 0, .slice none 0 0, .slice none 0 0, .slice p2 m2 k2] 65) := ⟨_, rfl⟩
                rw [← hwz] at HY0 hkz ⊢
                clear hwz x0
                go_loopw [19] (fun i wi => ∃ a' : Nat, a' ≤ fs.length ∧ i = .int .i64 a' ∧ Hid (YB wi x2.heap.size) ∧ Hid (Kept [] x2 wi)) (fun i _ => fs.length - (intOf i).toNat)
                case atStart => exact ⟨0, Nat.zero_le _, rfl, ⟨_, _, _, _, _, _, _, _, _, _, _, _, _, HY0.out⟩, hkz⟩
                case round =>
                  clear HY0 hkz
                  obtain ⟨a', ha', rfl, hyb, hki⟩ := hrel
                  by_cases hla' : a' < fs.length
                  · have hnf : fs ≠ [] := by rintro rfl; simp at hla'
                    obtain ⟨b6, o6, rfl, _, hb6, hc6⟩ := S5.out.resolve_left hnf
                    obtain ⟨f, hf⟩ := getp fs a' hla'
                    obtain ⟨u, cu0, hru⟩ := hc6 a' f hf
                    obtain ⟨a2, c2, rfl, g1, g2, g3⟩ := frames_form hru
                    have hfm := List.mem_of_getElem? hf
                    obtain ⟨hfl4, hfg⟩ := HFF.out f hfm
                    have G3 := Lib.hid g3
                    have HFG := Lib.hid hfg
                    have HFMM := Lib.hid hfm
                    clear g3 hf hc6 hnf hru S5 hfg hfm
                    go_wp2
                    go_loopw [20] (fun i wi => ∃ m' : Nat, m' ≤ f.length ∧ i = .int .i64 m' ∧ Hid (YB wi x2.heap.size) ∧ Hid (Kept [] x2 wi)) (fun i _ => f.length - (intOf i).toNat)
                    case atStart => exact ⟨0, Nat.zero_le _, rfl, hyb.out, hki.out⟩
                    case round =>
                      clear hyb hki
                      obtain ⟨m', hm', rfl, hyb, hki⟩ := hrel
                      have cu := hki.out.cell' cu0 (by simp)
                      have sxi := hki.out.size
                      by_cases hlm' : m' < f.length
                      · have hnf : f ≠ [] := by rintro rfl; simp at hlm'
                        obtain ⟨b7, o7, rfl, _, hb7, hc7⟩ := G3.out.resolve_left hnf
                        obtain ⟨y, hy⟩ := getp f m' hlm'
                        obtain ⟨hry, _⟩ := hc7 m' y hy
                        have hym := List.mem_of_getElem? hy
                        obtain ⟨yc, yme, yw, rfl, _, _, _, _, hw1, hw2⟩ := HFG.out y hym
                        have hcode := live_code HFMM.out hym HDE.out.pos (by rw [← HACT.out]; exact HDE.out.idle)
                        have hworld := HDE.out.out yw (by rw [HWS.out]; exact live_world n' HFMM.out hym)
                        have HRY := Lib.hid hry
                        have y0 : wr.cell? ⟨b7, o7 + m' * 5, none⟩ = some (.int .i64 yc) := hki.out.cell' (hry 0 _ rfl) (by simp)
                        have y2 : wr.cell? ⟨b7, o7 + m' * 5 + 2, none⟩ = some (.int .i64 yw) := hki.out.cell' (hry 2 _ rfl) (by simp)
                        have HWD := Lib.hid hworld
                        have HCD := Lib.hid (show (yc == nd) = false from hcode)
                        have hX3 := HX2.out.kept hki.out (by simp)
                        obtain ⟨v0, v1, v2, v3, v4', v5, _⟩ := hX3.fourteen
                        have HX3 := Lib.hid hX3
                        have hlt37 : (m' : Int) < f.length := by omega
                        have hla37 : (a' : Int) < fs.length := by omega
                        have sX : x1.heap.size < wr.heap.size := by omega
                        have sb6 : b6 < wr.heap.size := by omega
                        have sb7 : b7 < wr.heap.size := by omega
                        clear hry hy hc7 hnf G3 hym hcode hworld hX3
                        obtain ⟨wq, hwq⟩ : ∃ wq : World, wq = wr := ⟨_, rfl⟩
                        subst hwq
                        have HLK : Hid (∀ W, Kept [] x2 W → Calls Try.prog 38 #[.pointer (some ⟨B, 0, none⟩), .int .i64 xm, .agg #[.int .i64 3, .string ⟨#[]⟩, .int .i64 0, .slice xa 0 xc], .int .i64 yw] W (fun e w' => Looked nd W w' e)) := Lib.hid (fun W k => safeLookup 0 (S := (wx.heap.size ≤ ·)) B bs 20 12 (.map (some mb)) l nd xf xu xm yw xa xc _ (HCX2.out.kept k (by simp)) HDE.out HWD.out ((TR.good 0).kept HT2.out k (by simp)))
                        have HKF : Hid (∀ w', Kept [] x2 w' → w'.cell? ⟨b6, o6 + a', none⟩ = some (.slice (some ⟨b7, o7, none⟩) f.length c2) ∧ w'.cell? ⟨b7, o7 + m' * 5 + 2, none⟩ = some (.int .i64 yw) ∧ w'.cell? ⟨x1.heap.size, 1, none⟩ = some (.int .i64 xm) ∧ w'.cell? ⟨x1.heap.size, 2, none⟩ = some (.int .i64 3) ∧ w'.cell? ⟨x1.heap.size, 3, none⟩ = some (.string ⟨#[]⟩) ∧ w'.cell? ⟨x1.heap.size, 4, none⟩ = some (.int .i64 0) ∧ w'.cell? ⟨x1.heap.size, 5, none⟩ = some (.slice xa 0 xc)) := Lib.hid (fun w' k => by
                          obtain ⟨_, z1, z2, z3, z4, z5, _⟩ := (HX2.out.kept k (by simp)).fourteen
                          exact ⟨k.cell' cu0 (by simp), k.cell' (HRY.out 2 _ rfl) (by simp), z1, z2, z3, z4, z5⟩)
                        go_upto_region 37 with (fail)
                        clear v0 v1 v2 v3 v4' v5 cu y0 y2
                        go_region_held3 (fun w' => w'.cell? ⟨b6, o6 + a', none⟩ = some (.slice (some ⟨b7, o7, none⟩) f.length c2) ∧ w'.cell? ⟨b7, o7 + m' * 5 + 2, none⟩ = some (.int .i64 yw) ∧ w'.cell? ⟨x1.heap.size, 1, none⟩ = some (.int .i64 xm) ∧ w'.cell? ⟨x1.heap.size, 2, none⟩ = some (.int .i64 3) ∧ w'.cell? ⟨x1.heap.size, 3, none⟩ = some (.string ⟨#[]⟩) ∧ w'.cell? ⟨x1.heap.size, 4, none⟩ = some (.int .i64 0) ∧ w'.cell? ⟨x1.heap.size, 5, none⟩ = some (.slice xa 0 xc)) (first | with_reducible exact HKF.out _ hk9 | with_reducible exact HKF.out _ (hk9.trans' (Kept.set14 w10 x2.heap.size _ _ _ _ _ _ _ _ _ _ _ _ _ _) (fun x hx => .inr (Nat.le_of_eq (List.mem_singleton.1 hx).symm))) | with_reducible exact HKF.out _ (hki.out.drew))
                          (first
                            | (go_at_call 38; ((with_reducible refine Calls.mono (HLK.out _ (hki.out.drew)) ?_); intro e w10 hlk; rcases hlk with ⟨qi, qm, qk, qn, qx, r1, s1', t1, qf, qu, r2, s2', t2, fl2, hk10, hfl2⟩; have hk9 := (hki.out.drew).trans hk10; have HK10 := Lib.hid hk9; have HFL2 := Lib.hid hfl2; refine YB.elim (hyb.out.kept (((Kept.refl [] wq).drew).trans hk10) List.not_mem_nil) ?_; intro zc0 zc1 zc2 zc3 zc4 zc5 zc6 zc7 zc8 zc9 zc10 zc11 zc12 zc13 za0 za1 za2 za3 za4 za5 za6 za7 za8 za9 za10 za11 za12 za13 zf0 zf1 zf2 zf3 zf4 zf5 zf6 zf7 zf8 zf9 zf10 zf11 zf12 zf13 hzB; have HZB := Lib.hid hzB; clear hfl2 hk10 hzB)))
                        obtain ⟨w11, hw11⟩ : ∃ w11 : World, w11 = (((((((((((((w10.setCell ⟨x2.heap.size, 0, none⟩ (.int .i64 qi)).setCell ⟨x2.heap.size, 1, none⟩ (.int .i64 qm)).setCell ⟨x2.heap.size, 2, none⟩ (.int .i64 qk)).setCell ⟨x2.heap.size, 3, none⟩ (.string qn)).setCell ⟨x2.heap.size, 4, none⟩ (.int .i64 qx)).setCell ⟨x2.heap.size, 5, none⟩ (.slice r1 s1' t1)).setCell ⟨x2.heap.size, 6, none⟩ (.int .i64 qf)).setCell ⟨x2.heap.size, 7, none⟩ (.int .i64 qu)).setCell ⟨x2.heap.size, 8, none⟩ (.int .i64 0)).setCell ⟨x2.heap.size, 9, none⟩ (.int .i64 0)).setCell ⟨x2.heap.size, 10, none⟩ (.slice none 0 0)).setCell ⟨x2.heap.size, 11, none⟩ (.slice none 0 0)).setCell ⟨x2.heap.size, 12, none⟩ (.slice none 0 0)).setCell ⟨x2.heap.size, 13, none⟩ (.slice r2 s2' t2) := ⟨_, rfl⟩
                        have hyb11 : YB w11 x2.heap.size := by rw [hw11]; exact ⟨_, _, _, _, _, _, _, _, _, _, _, _, _, Blk.set14 HZB.out _ _ _ _ _ _ _ _ _ _ _ _ _ _⟩
                        have hyc : w11.cell? ⟨x2.heap.size, 0, none⟩ = some (.int .i64 qi) := by rw [hw11]; exact (Blk.set14 HZB.out _ _ _ _ _ _ _ _ _ _ _ _ _ _).cell 0 _ rfl
                        have hk11 : Kept [] x2 w11 := by rw [hw11]; exact HK10.out.trans' (Kept.set14 _ _ _ _ _ _ _ _ _ _ _ _ _ _ _ _) (by simp)
                        rw [← hw11]
                        clear za0 za1 za2 za3 za4 za5 za6 za7 za8 za9 za10 za11 za12 za13 zf0 zf1 zf2 zf3 zf4 zf5 zf6 zf7 zf8 zf9 zf10 zf11 zf12 zf13
                        have cu := hk11.cell' cu0 (by simp)
                        have y0 : w11.cell? ⟨b7, o7 + m' * 5, none⟩ = some (.int .i64 yc) := hk11.cell' (HRY.out 0 _ rfl) (by simp)
                        have v0 := (HX2.out.kept hk11 (by simp)).cell 0 _ rfl
                        have hcd := HCD.out
                        have HYB11 := Lib.hid hyb11
                        have hff2 := HFL2.out
                        clear hyb11 hw11 HZB HK10 hyb hki
                        rcases hff2 with rfl | ⟨rfl, hq0⟩
                        all_goals go_upto_region 38 with (fail)
                        all_goals go_quiet (fail)
                        all_goals go_wp2
                        all_goals
                          go_roundw
                          case rel => exact ⟨m' + 1, by omega, by go_num, HYB11.out.kept ((Kept.refl [] w11).drewN _) (by simp), hk11.drewN _⟩
                          case measure => simp [intOf]; omega
                      · go_wp2
                        go_roundw
                        case rel => exact ⟨a' + 1, by omega, by go_num, hyb.out, hki.out⟩
                        case measure => simp [intOf]; omega
                  · have cd2 := (hki.out).cell' (HK2.out.cell' cd (by simp)) (by simp)
                    go_wp2_with (go_at_call 39; (refine Calls.mono (safeRemove 0 B bs 20 12 (.map (some mb)) l j nd _ (by exact HCX2.out.kept hki.out (by simp)) (by exact hleft.out) (by exact HGP.out) (by exact HDD.out) (by exact HND.out) (by omega)) ?_; rintro e x9 ⟨rfl, l', hleft', hll', hcc', hk9⟩; have HL' := Lib.hid hleft'; have HC' := Lib.hid hcc'; have HK9 := Lib.hid hk9; clear hleft' hcc' hk9))
                    go_roundw
                    case rel => exact ⟨j + 1, l', by omega, by go_num, by omega, HL'.out, HC'.out, ((hkv.out.trans HK2.out.nil).trans hki.out.nil).trans HK9.out⟩
                    case measure => simp [intOf]; omega
            · have hjl : j = D.length := by omega
              clear D3
              go_wp2_with (go_at_call 18; refine Calls.mono (sane _) ?_; rintro e x17 ⟨rfl, hkx⟩)
              go_ret
              exact ⟨rfl, (((hkb.out.add HK.out (by simp)).add hkv.out (by simp)).kept hk4' hwB (by omega)).trans hkx⟩
end Go.Proofs.Ytkldomkooleecaa
