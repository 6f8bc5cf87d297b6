/- The walk of the law ReclaimComplete. -/
import Derived.Test.YtkldomkooleecaaComplete
namespace Go.Proofs.Ytkldomkooleecaa
open Go.RowKit

/-- Frames as the law pushes them. -/
def FOK (l : List Frm) : Prop := ∀ x ∈ l, okFrame x ∧ x.slots = []
theorem FOK.snoc {l : List Frm} (h : FOK l) {x : Frm} (hx : okFrame x ∧ x.slots = []) : FOK (l ++ [x]) := by
  intro y hy
  rcases List.mem_append.1 hy with hy | hy
  · exact h y hy
  · simp at hy; subst hy; exact hx

theorem Sk.glt {d : Nat} {S : Nat → Prop} {w : World} {b : Nat} {g : Option Nat} {l : List Frm} (h : Sk d S w b g l) : ∀ x, g = some x → b < x ∧ x < w.heap.size := by
  obtain ⟨v, rfl, _, hg⟩ := h
  exact fun x hx => ⟨(hg.lt x hx).1, (hg.lt x hx).2⟩

/-- Frames without values lead nowhere. -/
theorem Sk.zero {S S' : Nat → Prop} {w : World} {b : Nat} {g : Option Nat} {l : List Frm} (h : Sk 0 S w b g l) : Sk 0 S' w b g l := by
  obtain ⟨v, rfl, hb, es, h1, h2, h3⟩ := h
  refine ⟨v, rfl, hb, es, h1, h2, fun k x e hx he => ?_⟩
  obtain ⟨g1, g2, a, c, rfl, g3, g4, _⟩ := h3 k x e hx he
  exact ⟨g1, g2, a, c, rfl, g3, g4, .inl rfl⟩

theorem own_one {w : World} {base g : Nat} {e : TypeId} (x : Int) (h : Blk w g [.int .i64 x] e) (hb : base ≤ g) : Own w base e 1 (.slice (some ⟨g, 0, none⟩) 1 1) (irows [x]) :=
  ⟨⟨by simp [irows], .inr ⟨g, 1, _, rfl, hb, h, Nat.le_refl _, by simp [maxLen], by simp, by simp [irows]⟩⟩, irows_cell [x]⟩

set_option maxRecDepth 100000 in
set_option maxHeartbeats 6400000 in
theorem reclaimComplete {S : Nat → Prop} (t : Value) (lt : List Int) (w : World) (ht : Reads S w t 1 (irows lt)) (hS : ∀ b, S b → b < w.heap.size) :
    Calls Try.prog 5 #[t] w fun e w' => e = .returned (.bool true) ∧ Kept [] w w' := by
  have HT := Lib.hid ht
  have HS := Lib.hid hS
  obtain ⟨a1, c1, rfl, b1, b2, _⟩ := ht.ints
  clear ht hS
  go_enter Try.func5, Try.ntmps5
  go_wp2_with (first
    | (go_at_call 8; refine Calls.mono (newTape _ lt _ (by exact HT.out) (by exact HS.out)) ?_; rintro e w1 ⟨rfl, hT, hk1⟩; have hbl := hT.lt)
    | (go_at_call 9; have hc10 : Calls Try.prog 9 #[.pointer (some ⟨w.heap.size, 0, none⟩), .int .i64 12] w1 _ := codes _ 0 12 _ hT (by omega); refine Calls.mono hc10 ?_; clear hc10; rintro e w2 ⟨lV, cs, rfl, hcl, hgen, hco, hT, hk2⟩; have hs2 := hk2.size; have hk2' : Kept [] w w2 := hk1.trans' hk2 (by simp); have HC := Lib.hid (hco.rows'.mono (S' := fun y => w.heap.size < y ∧ y < w2.heap.size) (fun b h1 h2 => ⟨by omega, h1⟩)); have HCL := Lib.hid hcl; clear hco hcl)
    | (go_at_call 20; refine Calls.mono (newStack 0 _) ?_; rintro e w3 ⟨rfl, hsk, hk3⟩; have hs3 := hk3.size; have hT := hT.kept hk3 (by simp); have HC := Lib.hid (HC.out.kept hk3 (by simp)); have hk3' := hk2'.trans hk3; have HSK := Lib.hid (hsk.mono (S' := fun y => w2.heap.size < y) (fun _ _ h => h.elim)); clear hsk)
    | (go_at_call_of 26 (Value.int IntKind.i64 8); refine Calls.mono (tapeNext w.heap.size _ _ _ (by exact hT) (by omega) (by omega)) ?_; rintro e w4 ⟨n, rfl, hn, _, hn', hT, hk4⟩; have hn' := hn' (by omega); have HC := Lib.hid (HC.out.kept hk4 (by simp)); have HSK := Lib.hid (HSK.out.kept hk4 (by simp; omega) (by simp) (by simp; omega)); have hk4' : Kept [] w w4 := hk3'.trans' hk4 (by simp)))
  obtain ⟨la, lc, rfl, l1, l2, _⟩ := codes_form HC.out
  obtain ⟨bs, hbs⟩ : ∃ bs, bs = w2.heap.size := ⟨_, rfl⟩
  rw [← hbs] at HSK HC hs2 hs3 ⊢
  obtain ⟨wo, hwo⟩ : ∃ wo : World, wo = w4 := ⟨_, rfl⟩
  subst hwo
  have hbt : w.heap.size < bs := by omega
  clear hbs hk1 hk2 hk2' hk3 hk3' hk4
  go_loopw [6] (fun i wr => ∃ (q : Int) (l : List Frm) (g : Option Nat), i = .int .i64 q ∧ 0 ≤ q ∧ q + l.length ≤ 7 ∧ FOK l ∧ Hid (Sk 0 (fun y => bs < y) wr bs g l) ∧ Tp wr w.heap.size (49 + 2 * l.length) ∧ Hid (Reads (fun y => w.heap.size < y ∧ y < bs) wr (.slice la cs.length lc) 14 (crows cs)) ∧ Kept [] w wr) (fun i _ => (intOf i).toNat)
  case atStart => exact ⟨n, [], none, rfl, hn, by simp; omega, fun x hx => by simp at hx, HSK.out, hT.more (by simp), HC.out, hk4'⟩
  case round =>
    clear HC HSK hk4' hT
    obtain ⟨q, l, g, rfl, hq, hql, hfo, hsk, hT, hc, hk⟩ := hrel
    have hsz := hk.size
    have hskl := hsk.out.lt
    by_cases hlq : 0 < q
    · obtain ⟨wp, hwp⟩ : ∃ wp : World, wp = wr := ⟨_, rfl⟩
      subst hwp
      have hkk := Kept.refl [w.heap.size] wp
      go_wp2_with (first
        | (go_at_call_of 26 (Value.int IntKind.i64 13); refine Calls.mono (tapeNext w.heap.size _ _ _ (by exact hT) (by omega) (by omega)) ?_; rintro e w5 ⟨p1, rfl, hp1, _, hp1', hT, hkx⟩; have hp1' := hp1' (by omega); have hkk := hkk.trans hkx)
        | (go_at_call_of 26 (Value.int IntKind.i64 9); refine Calls.mono (tapeNext w.heap.size _ _ _ (by exact hT) (by omega) (by omega)) ?_; rintro e w5 ⟨p2, rfl, hp2, _, hp2', hT, hkx⟩; have hp2' := hp2' (by omega); have hkk := hkk.trans hkx; have hs5 := hkk.size; have HSK5 := Lib.hid (hsk.out.kept hkk (by simp; omega) (by intro x hx e; simp at hx; have := (hsk.out.glt x e).1; omega) (by simp; omega)); have HC5 := Lib.hid (hc.out.kept hkk (by simp)); have hk5 := hk.trans' hkk (by simp))
        | (go_at_call 21; refine Calls.mono (push 0 bs l ⟨p1, 0, 1 + p2, 0, []⟩ (.slice none 0 0) _ (by exact HSK5.out) (by exact ⟨hp1, by simp, by simp, by simp; omega, by simp⟩) (VR.nil 0 (fun _ => True) _) (by omega) (by omega)) ?_; rintro e w6 ⟨g', rfl, hsk6, hk6, hg6⟩))
      go_roundw
      case rel =>
        have hgl := HSK5.out.glt
        have hM : ∀ x ∈ bs :: g.toList, bs ≤ x := by
          intro x hx
          rcases List.mem_cons.1 hx with rfl | hx
          · exact Nat.le_refl _
          · exact Nat.le_of_lt (hgl x (by simpa using hx)).1
        refine ⟨q - 1, l ++ [⟨p1, 0, 1 + p2, 0, []⟩], g', by go_num, by omega, by simp; omega, hfo.snoc ⟨⟨hp1, by simp, by simp, by simp; omega, by simp⟩, rfl⟩, ?_, (hT.kept hk6 (fun x hx => by have := hM x hx; omega)).more (by simp; omega), ?_, hk5.trans' hk6 (fun x hx => .inr (by have := hM x hx; omega))⟩
        · exact hsk6.mono (fun x _ h => h.elim id (fun h => by omega))
        · exact HC5.out.kept hk6 (fun x hx hq => by have := hM x hx; omega)
      case measure => simp [intOf]; omega
    · obtain ⟨wp, hwp⟩ : ∃ wp : World, wp = wr := ⟨_, rfl⟩
      subst hwp
      have hll : l.length ≤ 7 := by omega
      have HWL := Lib.hid (show ((fworlds l).foldl ins []).length ≤ 7 by have h1 := inss_length (fworlds l) []; have h2 : (fworlds l).length = l.length := by simp [fworlds]
                                                                         simp at h1; omega)
      obtain ⟨i0, hi, hz0, hz1, hz2⟩ := info_parts info_int'
      go_wp2_with (first
        | (go_at_call 27; refine Calls.mono (stackCodes 0 bs l _ (by exact hsk.out) (by omega)) ?_; rintro e w7 ⟨r39, rfl, ho7, hk7⟩; have HA := Lib.hid (ho7.rows.mono (S' := fun y => y < w7.heap.size) (fun _ h _ => h)); have HSK := Lib.hid ((hsk.out.kept hk7 (by simp) (by simp) (by simp)).zero (S' := fun _ => False)); have HC := Lib.hid (hc.out.kept hk7 (by simp)); have hsk7 := hsk.out.kept hk7 (by simp) (by simp) (by simp); have hbs7 := hsk7.lt; have hk := hk.trans hk7; have hs7 := hk.size; clear ho7)
        | (go_at_call 28; refine Calls.mono (stackWorlds 0 bs l _ (by exact HSK.out.kept ((Kept.refl [] w7).alloc _) (by simp) (by simp) (by simp)) (by omega)) ?_; rintro e w8 ⟨r42, rfl, ho8, hk8⟩; have HO1 := Lib.hid (own_one 12 ((Blk.new w7 [.int .i64 12] 3).kept hk8 (by simp)) (Nat.le_refl _)); have hk8 := ((Kept.refl [] w7).alloc (.cells #[.int .i64 12] 3)).trans hk8; have HA := Lib.hid (HA.out.kept hk8 (by simp)); have HW := Lib.hid (ho8.rows.mono (S' := fun _ => True) (fun _ _ _ => trivial)); have HSK := Lib.hid (HSK.out.kept hk8 (by simp) (by simp) (by simp)); have HC := Lib.hid (HC.out.kept hk8 (by simp)); have hk := hk.trans hk8; have hs8 := hk8.size; clear ho8)
        | (refine wpList_append_rows rfl (.tmp 40) (.tmp 42) 22 3 rfl i0 (.int .i64 0) 1 8 Try.underlying22 hi hz0 hz1 hz2 rfl (by decide) w7.heap.size (.slice (some ⟨w7.heap.size, 0, none⟩) 1 1) (irows [12]) (irows ((fworlds l).foldl ins [])) rfl HO1.out (fun _ => True) r42 rfl HW.out (by simp; have := HWL.out; omega) (by simp; have := HWL.out; omega) (by omega) ?_; intro v9 w9 ho9 hk9 _; have hk9 := hk9 [w7.heap.size] (by simp [Value.ownBlock]); have hgl := hsk7.glt; have HWS := Lib.hid (show Reads (fun _ => True) w9 v9 1 (irows (12 :: (fworlds l).foldl ins [])) from ho9.rows.mono (fun _ _ _ => trivial)); have HA := Lib.hid (HA.out.kept hk9 (by simp)); have HSK := Lib.hid (HSK.out.kept hk9 (by simp; omega) (by intro x hx e; simp at hx; have := (hgl x e).2; omega) (by simp)); have HC := Lib.hid (HC.out.kept hk9 (by simp; omega)); have hk := hk.trans' hk9 (by simp; omega); clear ho9)
        | (go_at_call 16; refine Calls.mono (unreachable _ _ _ cs ((fcodes l).foldl ins []) (12 :: (fworlds l).foldl ins []) _ (by exact HC.out) (by exact HA.out) (by exact HWS.out) (by have := HCL.out; omega)) ?_; rintro e w10 ⟨r44, rfl, ho10, hk10⟩; rw [freed_id hgen] at ho10; have HSK := Lib.hid (HSK.out.kept hk10 (by simp) (by simp) (by simp)); have HC := Lib.hid (HC.out.kept hk10 (by simp)); have HD := Lib.hid (ho10.rows.mono (S' := fun _ => True) (fun _ _ _ => trivial)); have hk := hk.trans hk10; clear ho10))
      obtain ⟨D, hD⟩ : ∃ D, D = freed ((fcodes l).foldl ins []) (12 :: (fworlds l).foldl ins []) cs := ⟨_, rfl⟩
      have HDE := Lib.hid hD
      rw [← hD] at HD
      clear hD
      obtain ⟨da, dc, rfl, d1, d2, d3⟩ := HD.out.ints
      have D3 := Lib.hid d3
      obtain ⟨_, _, e, _, _, c3⟩ := codes_form HC.out
      obtain rfl := (Value.slice.inj e).1
      have C3 := Lib.hid c3
      have hskl2 := HSK.out.lt
      obtain ⟨wp2, hwp2⟩ : ∃ wp2 : World, wp2 = w10 := ⟨_, rfl⟩
      subst hwp2
      clear d3 c3 e HD
      have HAT := Lib.hid (fun (k : Nat) (x : Cc) (hx : cs[k]? = some x) => freed_at hgen ((fcodes l).foldl ins []) (12 :: (fworlds l).foldl ins []) hx)
      have HTK := Lib.hid (fun (k : Nat) (x : Cc) (hx : cs[k]? = some x) => freed_take ((fcodes l).foldl ins []) (12 :: (fworlds l).foldl ins []) hx)
      go_loopw [8, 9] (fun a i wr => ∃ k : Nat, k ≤ cs.length ∧ i = .int .i64 k ∧ a = .int .i64 (freed ((fcodes l).foldl ins []) (12 :: (fworlds l).foldl ins []) (cs.take k)).length ∧ Kept [] wp2 wr) (fun _ i _ => cs.length - (intOf i).toNat)
      case atStart => exact ⟨0, Nat.zero_le _, rfl, rfl, Kept.refl _ _⟩
      case round =>
        obtain ⟨k, hkk, rfl, rfl, hkr⟩ := hrel
        obtain ⟨at_, hat⟩ : ∃ at_, at_ = (freed ((fcodes l).foldl ins []) (12 :: (fworlds l).foldl ins []) (cs.take k)).length := ⟨_, rfl⟩
        have HATE := Lib.hid hat
        rw [← hat]
        clear hat
        by_cases hkc : k < cs.length
        · have hne : cs ≠ [] := by rintro rfl; simp at hkc
          obtain ⟨b5, o5, rfl, hSb5, hb5, hc5⟩ := C3.out.resolve_left hne
          obtain ⟨x, hx⟩ : ∃ x, cs[k]? = some x := ⟨cs[k], by simp⟩
          obtain ⟨hrx, _⟩ := hc5 k x hx
          have hrg := hkr.range hrx (by simp)
          have hat1 := (HAT.out k x hx)
          have htk1 := HTK.out k x hx
          obtain ⟨xm, xf, xu, rfl, _, _, _, _, hxu⟩ := hgen k x hx
          have hwant := want_eq l (mkc (k + 1) xm xf xu) (by simp only [mkc]; omega) (by simp only [mkc]; omega)
          have HRG := Lib.hid hrg
          have HAT1 := Lib.hid hat1
          have HTK1 := Lib.hid htk1
          have HWANT := Lib.hid hwant
          clear hrg hat1 htk1 hwant hrx hx hc5 hne C3
          obtain ⟨wq, hwq⟩ : ∃ wq : World, wq = wr := ⟨_, rfl⟩
          subst hwq
          obtain ⟨ub, hub⟩ : ∃ ub, ub = (xu != 0) := ⟨_, rfl⟩
          have HUB := Lib.hid hub
          have hub' := hub.symm
          clear hub
          go_wp2_with (first
            | (refine wpList_load_mid rfl 65 (.tmp 53) rfl b5 (o5 + k * 14) rfl [.int .i64 (k + 1), .int .i64 xm, .int .i64 3, .string ⟨#[]⟩, .int .i64 0, .slice none 0 0, .int .i64 xf, .int .i64 xu, .int .i64 0, .int .i64 0, .slice none 0 0, .slice none 0 0, .slice none 0 0, .slice none 0 0] _ HRG.out Try.underlying65 rfl (by kernel_rfl) ?_)
            | (go_at_call 29; refine Calls.mono (stackFrames 0 bs l _ (by exact HSK.out.kept (hkr.alloc _) (by simp) (by simp) (by simp)) (by omega)) ?_; rintro e w11 ⟨r59, rfl, hrd, hk11⟩; have hbx := (Blk.new wq [.int .i64 (k + 1), .int .i64 xm, .int .i64 3, .string ⟨#[]⟩, .int .i64 0, .slice none 0 0, .int .i64 xf, .int .i64 xu, .int .i64 0, .int .i64 0, .slice none 0 0, .slice none 0 0, .slice none 0 0, .slice none 0 0] 65).kept hk11 (by simp); have hk11' := (hkr.alloc (.cells (mkc (k + 1) xm xf xu).cells.toArray 65)).trans hk11; have HRD := Lib.hid hrd; clear hrd))
          have e0 := hbx.cell 0 _ rfl
          have e6 := hbx.cell 6 _ rfl
          have e7 := hbx.cell 7 _ rfl
          have hbxl := hbx.lt
          obtain ⟨fa, fc, rfl, f1, f2, f3⟩ := HRD.out.form
          have F3 := Lib.hid f3
          have HBX := Lib.hid hbx
          clear f3 HRD hbx
          obtain ⟨wz, hwz⟩ : ∃ wz : World, wz = w11 := ⟨_, rfl⟩
          subst hwz
          go_loopw [11, 13] (fun v j wi => ∃ (m : Nat) (bb : Bool), m ≤ l.length ∧ v = .bool bb ∧ j = .int .i64 m ∧ Kept [] wz wi ∧ Hid (bb = ((xu != 0) && (l.take m).all (offB (k + 1) xf xu)))) (fun _ j _ => l.length - (intOf j).toNat)
          case atStart => exact ⟨0, _, Nat.zero_le _, rfl, rfl, Kept.refl _ _, by rw [Hid, ← HUB.out]; simp⟩
          case round =>
            obtain ⟨m, bb, hm, rfl, rfl, hki, hbb⟩ := hrel
            by_cases hlm : m < l.length
            · have hnl : l ≠ [] := by rintro rfl; simp at hlm
              obtain ⟨b6, o6, rfl, hSb6, hb6, hc6⟩ := F3.out.resolve_left hnl
              obtain ⟨y, hy⟩ : ∃ y, l[m]? = some y := ⟨l[m], by simp⟩
              obtain ⟨ye, hry, _, _⟩ := hc6 m y hy
              have cy0 : wr.cell? ⟨b6, o6 + m * 5, none⟩ = some (.int .i64 y.code) := (hki.range hry (by simp)) 0 _ rfl
              have cy2 : wr.cell? ⟨b6, o6 + m * 5 + 2, none⟩ = some (.int .i64 y.world) := (hki.range hry (by simp)) 2 _ rfl
              have x0 := hki.cell' e0 (by simp)
              have x6 := hki.cell' e6 (by simp)
              have x7 := hki.cell' e7 (by simp)
              have HOS := Lib.hid (off_snoc (k + 1) xf xu l m y hy)
              clear hc6 hnl hy hry F3
              cases bb
              · go_wp2
                go_quiet (fail)
                all_goals go_wp2
                all_goals
                  go_roundw
                  case rel => exact ⟨m + 1, _, by omega, rfl, by go_num, hki.drewN _, by have h1 := hbb.out; rw [Hid, HOS.out, ← Bool.and_assoc, ← h1]; simp [offB]⟩
                  case measure => simp [intOf]; omega
              · by_cases hc : y.code = k + 1
                · have hc' : (y.code != (k : Int) + 1) = false := by simpa using hc
                  have HCX := Lib.hid hc'
                  clear hc
                  go_wp2
                  go_quiet (fail)
                  all_goals go_wp2
                  all_goals
                    go_roundw
                    case rel => exact ⟨m + 1, _, by omega, rfl, by go_num, hki.drewN _, by have h1 := hbb.out; rw [Hid, HOS.out, ← Bool.and_assoc, ← h1]; simp [offB, HCX.out]⟩
                    case measure => simp [intOf]; omega
                · have hc' : (y.code != (k : Int) + 1) = true := by simpa using hc
                  have HCX := Lib.hid hc'
                  clear hc
                  by_cases h2 : xf ≤ y.world
                  · by_cases h3 : y.world < xu
                    · go_wp2
                      go_quiet (fail)
                      all_goals go_wp2
                      all_goals
                        go_roundw
                        case rel => exact ⟨m + 1, _, by omega, rfl, by go_num, hki.drewN _, by have h1 := hbb.out; rw [Hid, HOS.out, ← Bool.and_assoc, ← h1]; simp [offB, HCX.out, h2, h3]⟩
                        case measure => simp [intOf]; omega
                    · have h3' : decide (y.world < xu) = false := by simpa using h3
                      go_wp2
                      go_quiet (fail)
                      all_goals go_wp2
                      all_goals
                        go_roundw
                        case rel => exact ⟨m + 1, _, by omega, rfl, by go_num, hki.drewN _, by have h1 := hbb.out; rw [Hid, HOS.out, ← Bool.and_assoc, ← h1]; simp [offB, HCX.out, h2, h3]⟩
                        case measure => simp [intOf]; omega
                  · have h2' : decide (xf ≤ y.world) = false := by simpa using h2
                    go_wp2
                    go_quiet (fail)
                    all_goals go_wp2
                    all_goals
                      go_roundw
                      case rel => exact ⟨m + 1, _, by omega, rfl, by go_num, hki.drewN _, by have h1 := hbb.out; rw [Hid, HOS.out, ← Bool.and_assoc, ← h1]; simp [offB, HCX.out, h2]⟩
                      case measure => simp [intOf]; omega
            · have hfr : Hid (bb = freeB ((fcodes l).foldl ins []) (12 :: (fworlds l).foldl ins []) (mkc (k + 1) xm xf xu)) := by
                have h1 := hbb.out
                rw [show m = l.length by omega, List.take_length] at h1
                exact h1.trans HWANT.out.symm
              have x0 := hki.cell' e0 (by simp)
              have hat2 := HAT1.out
              rw [← HDE.out, ← HATE.out] at hat2
              clear hbb F3
              cases bb
              · have hno := hat2.2 hfr.out.symm
                by_cases hlt : at_ < D.length
                · obtain ⟨nn, hnn⟩ := getx D at_ hlt
                  have hne2 := hno nn hnn
                  have hnd : D ≠ [] := by rintro rfl; simp at hlt
                  obtain ⟨b7, o7, rfl, _, hb7, hc7⟩ := D3.out.resolve_left hnd
                  have cd := (hk11'.trans hki).cell' (hc7 at_ nn hnn) (by simp)
                  have heq : (nn == (k : Int) + 1) = false := by simp only [mkc] at hne2; simpa using hne2
                  clear hno hnn hne2 hnd hc7 hat2 D3
                  go_wp2
                  go_quiet (fail)
                  all_goals go_wp2
                  all_goals
                    go_roundw
                    case rel =>
                      refine ⟨k + 1, by omega, by go_num, ?_, (hk11'.trans hki).drewN _⟩
                      have h1 := HTK1.out
                      rw [← hfr.out] at h1
                      rw [h1, List.length_append, ← HATE.out]
                      simp
                    case measure => simp [intOf]; omega
                · clear hno hat2 D3
                  go_wp2
                  go_quiet (fail)
                  all_goals go_wp2
                  all_goals
                    go_roundw
                    case rel =>
                      refine ⟨k + 1, by omega, by go_num, ?_, (hk11'.trans hki).drewN _⟩
                      have h1 := HTK1.out
                      rw [← hfr.out] at h1
                      rw [h1, List.length_append, ← HATE.out]
                      simp
                    case measure => simp [intOf]; omega
              · have hyes := hat2.1 hfr.out.symm
                have hlt : at_ < D.length := (List.getElem?_eq_some_iff.1 hyes).1
                have hnd : D ≠ [] := by rintro rfl; simp at hlt
                obtain ⟨b7, o7, rfl, _, hb7, hc7⟩ := D3.out.resolve_left hnd
                have cd : wr.cell? ⟨b7, o7 + at_, none⟩ = some (.int .i64 (k + 1)) := (hk11'.trans hki).cell' (hc7 at_ _ hyes) (by simp)
                have hdl := d2
                clear hyes hnd hc7 hat2 D3
                go_wp2
                go_quiet (fail)
                all_goals go_wp2
                all_goals
                  go_roundw
                  case rel =>
                    refine ⟨k + 1, by omega, by go_num, ?_, (hk11'.trans hki).drewN _⟩
                    have h1 := HTK1.out
                    rw [← hfr.out] at h1
                    rw [h1, List.length_append, ← HATE.out]
                    simp
                  case measure => simp [intOf]; omega
        · have hk12 : k = cs.length := by omega
          have hD2 : at_ = D.length := by rw [HATE.out, HDE.out, hk12, List.take_length]
          clear HATE
          subst hD2
          go_wp2_with (go_at_call 18; refine Calls.mono (sane _) ?_; rintro e x17 ⟨rfl, hkx⟩)
          go_ret
          exact ⟨rfl, (hk.trans hkr).trans hkx⟩
end Go.Proofs.Ytkldomkooleecaa
