/- The walk of the law StackRootsComplete. -/
import Derived.Test.YtkldomkooleecaaActsB
import Derived.Deep.RegionHeld3
namespace Go.Proofs.Ytkldomkooleecaa
open Go.RowKit

/-- The frames that have been pushed. -/
def pushed (l : List Ac) (k : Nat) : List Frm := (l.take k).map fun x => (up x).f
theorem pushed_snoc (l : List Ac) (k : Nat) (x : Ac) (h : l[k]? = some x) : pushed l (k + 1) = pushed l k ++ [(up x).f] := by
  unfold pushed
  rw [List.take_add_one, h]
  simp
def turned (l : List Ac) (k : Nat) : List Ac := (l.take k).map up ++ l.drop k
theorem turned_length (l : List Ac) (k : Nat) : (turned l k).length = l.length := by unfold turned; simp; omega
theorem turned_get (l : List Ac) (k : Nat) (x : Ac) (h : l[k]? = some x) : (turned l k)[k]? = some x := by
  have hk := (List.getElem?_eq_some_iff.1 h).1
  unfold turned
  rw [List.getElem?_append_right (by simp; omega), List.getElem?_drop]
  have : k + (k - ((l.take k).map up).length) = k := by simp; omega
  rw [this, h]
theorem turned_snoc (l : List Ac) (k : Nat) (x : Ac) (h : l[k]? = some x) : (turned l k).set k (up x) = turned l (k + 1) := by
  have hk := (List.getElem?_eq_some_iff.1 h).1
  have hx : l[k] = x := by rw [List.getElem?_eq_getElem hk] at h; exact Option.some.inj h
  unfold turned
  rw [List.drop_eq_getElem_cons hk, hx, List.set_append_right _ _ (by simp; omega), List.take_add_one, h]
  simp [Nat.min_eq_left (Nat.le_of_lt hk)]
theorem turned_after (l : List Ac) (k : Nat) (x : Ac) (h : l[k]? = some x) : (turned l (k + 1))[k]? = some (up x) := by
  rw [← turned_snoc l k x h, List.getElem?_set_self (by rw [turned_length]; exact (List.getElem?_eq_some_iff.1 h).1)]
theorem fobjs_snoc (l : List Frm) (x : Frm) : fobjs 1 (l ++ [x]) = fobjs 1 l ++ sobjs 1 x.slots := by simp [fobjs]
theorem pushed_objs (l : List Ac) (h : GenA l) : ∀ k, (fobjs 1 (pushed l k)).length ≤ 9 * k := by
  intro k
  induction k with
  | zero => simp [pushed, fobjs]
  | succ k ih =>
    by_cases hk : k < l.length
    · have hx : l[k]? = some l[k] := by simp
      rw [pushed_snoc l k _ hx, fobjs_snoc, List.length_append]
      have := (h l[k] (by simp)).2.2.2.2.2.2
      have e : (up l[k]).f.slots = l[k].f.slots := rfl
      rw [e]
      omega
    · have : pushed l (k + 1) = pushed l k := by unfold pushed; rw [List.take_of_length_le (by omega), List.take_of_length_le (by omega)]
      rw [this]
      omega

set_option maxRecDepth 100000 in
set_option maxHeartbeats 6400000 in
theorem stackRootsComplete {S : Nat → Prop} (t : Value) (lt : List Int) (w : World) (ht : Reads S w t 1 (irows lt)) (hS : ∀ b, S b → b < w.heap.size) :
    Calls Try.prog 4 #[t] w fun e w' => e = .returned (.bool true) ∧ Kept [] w w' := by
  have HT := Lib.hid ht
  have HS := Lib.hid hS
  obtain ⟨a1, c1, rfl, b1, b2, _⟩ := ht.ints
  have hmm := @run_makeMap Try.prog
  clear ht hS
  go_enter Try.func4, Try.ntmps4
  go_wp2_with fail
  refine Calls.mono (newTape _ lt _ (by exact HT.out) (by exact HS.out)) ?_
  rintro e w1 ⟨rfl, hT, hk1⟩
  have hbl := hT.lt
  go_wp2_with fail
  have hg20 : Calls Try.prog 19 #[.pointer (some ⟨w.heap.size, 0, none⟩), .int .i64 20] w1 _ := generated w.heap.size 0 20 w1 hT (by omega)
  refine Calls.mono hg20 ?_
  clear hg20
  rintro e w2 ⟨lv, l, rfl, hl20, hgen, hgr, _, hk2⟩
  have hk2' : Kept [] w w2 := hk1.trans' hk2 (by simp)
  have hs2 := hk2.size
  have HG2 := Lib.hid (hgr.mono (VR.goodAt 2 (fun x : Ac => x.f.slots)) (Nat.le_refl _) (S' := fun y => w1.heap.size ≤ y ∧ y < w2.heap.size) (fun b h1 h2 => ⟨h2, h1⟩))
  have hglt := hgr.lt
  obtain ⟨la, lc, rfl, l1, l2, _⟩ := HG2.out.acts
  have HGEN := Lib.hid hgen
  have HL20 := Lib.hid hl20
  clear hgen hl20 hgr hk2 hk1 hT
  go_wp2_with fail
  refine Calls.mono (newStack 2 _) ?_
  rintro e w3 ⟨rfl, hsk, hk3⟩
  have hs3 := hsk.lt
  obtain ⟨bs, hbs⟩ : ∃ bs, bs = w2.heap.size := ⟨_, rfl⟩
  have HB := Lib.hid hbs
  have hb1 : w1.heap.size ≤ bs := by omega
  have hb0 : w.heap.size < bs := by omega
  rw [← hbs] at hsk hs3 HG2 hglt ⊢
  clear hbs
  go_wp2_with fail
  have HI0 := Lib.hid (IsSet.made w3)
  obtain ⟨ms, hms⟩ : ∃ ms, ms = w3.heap.size := ⟨_, rfl⟩
  have hbm : bs < ms := by omega
  have HSK0 := Lib.hid ((hsk.mono (S' := (ms < ·)) (fun _ _ h => h.elim)).kept ((Kept.refl [] w3).alloc (.map #[] 0)) (by simp) (by simp) (by simp))
  have HG0 := Lib.hid ((HG2.out.kept (VR.goodAt 2 (fun x : Ac => x.f.slots)) hk3 (by simp) (by simp)).kept (VR.goodAt 2 (fun x : Ac => x.f.slots)) ((Kept.refl [] w3).alloc (.map #[] 0)) (by simp) (by simp))
  have hk0 : Kept [] w (w3.alloc (.map #[] 0)) := (hk2'.trans hk3).alloc _
  have hm0 : (w3.alloc (.map #[] 0)).heap.size = ms + 1 := by simp [hms]
  rw [← hms] at HI0 ⊢
  clear hms hsk HG2 hk3 hk2' hs3 hs2
  have HM0 := Lib.hid hm0
  clear hm0
  go_loopw [6] (fun i wr => ∃ (k : Nat) (g : Option Nat), i = .int .i64 k ∧ k ≤ l.length ∧ Hid (Gr (fun S w e (x : Ac) => VR 2 S w e x.f.slots) Ac.row 6 45 (fun y => w1.heap.size ≤ y ∧ y < bs) w1.heap.size wr (.slice la l.length lc) (turned l k)) ∧ Hid (Sk 2 (ms < ·) wr bs g (pushed l k)) ∧ Hid (∀ x, g = some x → ms < x) ∧ Hid (IsSet wr ms ((fobjs 1 (pushed l k)).foldl put [])) ∧ Kept [] w wr ∧ ms < wr.heap.size) (fun i _ => l.length - (intOf i).toNat)
  case atStart => exact ⟨0, none, rfl, Nat.zero_le _, by simpa [turned, Hid] using HG0.out, by simpa [pushed, Hid] using HSK0.out, (fun x hx => by cases hx), by simpa [pushed, fobjs, Hid] using HI0.out, hk0, by have := HM0.out; omega⟩
  case round =>
    clear HG0 HSK0 HI0 hk0 HM0
    obtain ⟨k, g, rfl, hkl, hgr, hsk, hgm, hset, hk, hsz⟩ := hrel
    by_cases hlt : k < l.length
    · obtain ⟨x, hx⟩ : ∃ x, l[k]? = some x := ⟨l[k], by simp⟩
      have hxg := HGEN.out x (List.mem_of_getElem? hx)
      obtain ⟨la', lc', hle, _, _, hrows⟩ := hgr.out.acts
      have hne : turned l k ≠ [] := by intro e0; have := congrArg List.length e0; rw [turned_length] at this; simp at this; subst this; simp at hlt
      obtain ⟨ga, hga, hgb, hgw, hfz, hrow⟩ := hrows.resolve_left hne
      rw [turned_length] at hle
      simp only [Value.slice.injEq] at hle
      obtain ⟨rfl, _, rfl⟩ := hle
      subst hga
      obtain ⟨q, hrq, _, hvq, hG1⟩ := hrow k x (turned_get l k x hx)
      rw [turned_snoc l k x hx] at hG1
      have hgbs : ga < bs := by
        have := (hglt ga rfl).2
        have := HB.out
        omega
      obtain ⟨_, _, hle1, _, _, hrows1⟩ := hG1.acts
      have hne1 : turned l (k + 1) ≠ [] := by intro e0; have := congrArg List.length e0; rw [turned_length] at this; simp at this; subst this; simp at hlt
      obtain ⟨ga1, hga1, _, _, hfz1, hrow1⟩ := hrows1.resolve_left hne1
      simp only [Value.slice.injEq] at hle1
      replace hle1 := hle1.1
      rw [← hle1] at hga1
      simp only [Option.some.injEq, Addr.mk.injEq] at hga1
      obtain rfl := hga1.1
      obtain ⟨q1, hrq1, _, hvq1, _⟩ := hrow1 k (up x) (turned_after l k x hx)
      clear hga1 hle1 hrow1 hrows1 hrow hrows hne hne1 hfz1 hvq
      have HX := Lib.hid (pushed_snoc l k x hx)
      have HFO := Lib.hid (fobjs_snoc (pushed l k) (up x).f)
      obtain ⟨xo, xc, xm, xw, xp, xs⟩ := x
      simp only [up, Ac.row] at hrq hrq1 hvq1 hG1 hxg HX HFO
      obtain ⟨hxg1, hxg2, hxg3, hxg4, hxg5, hxg6, _⟩ := hxg
      have e3 : wr.cell? ⟨ga, k * 6 + 3, none⟩ = some (.int .i64 xw) := hrq 3 _ rfl
      have f3 := hfz (k * 6 + 3)
      obtain ⟨q1a, q1c, rfl, _, _, _⟩ := hvq1.form
      obtain ⟨wo, hwo⟩ : ∃ wo : World, wo = wr := ⟨_, rfl⟩
      subst hwo
      have hcw : IntKind.i64.wrap (xw + 1) = xw + 1 := IntWalk.i64_in _ (by omega)
      have HRQ1 := Lib.hid hrq1
      have HVQ1 := Lib.hid hvq1
      have HG1 := Lib.hid hG1
      clear hrq hrq1 hvq1 hG1 hfz hx
      go_wp2_with (first
        | (refine wpList_load_mid rfl 43 (.tmp 37) rfl ga (k * 6 + 1) rfl [.int .i64 xc, .int .i64 xm, .int .i64 (xw + 1), .int .i64 xp, .slice q1a xs.length q1c] _ (by intro j v hj; have := HRQ1.out (j + 1) v (by simpa using hj); rw [show k * 6 + (j + 1) = k * 6 + 1 + j by omega] at this; exact this) Try.underlying43 rfl (by kernel_rfl) ?_))
      have hpl : (pushed l k).length ≤ 48 := by unfold pushed; have := HL20.out; simp; omega
      have hga : ga ≠ bs := by omega
      have hkG : Kept [ga] wo (wo.setCell ⟨ga, k * 6 + 3, none⟩ (.int .i64 (xw + 1))) := (Kept.refl _ _).setCell (by simp) _
      have HGM := hgm
      refine Calls.mono (push 2 bs (pushed l k) ⟨xc, xm, xw + 1, xp, xs⟩ (.slice q1a xs.length q1c) _ (by exact hsk.out.kept hkG (by simp; omega) (by intro z hz e; simp at hz; subst hz; have := HGM.out _ e; omega) (by simp; omega)) (by exact ⟨hxg1, hxg2, hxg5, by simp only; omega, by simp only; omega⟩) (by exact HVQ1.out) (by omega) hpl) ?_
      rintro e w6 ⟨g6, rfl, hsk6, hk6, hg6⟩
      have hM : ∀ z ∈ bs :: g.toList, bs ≤ z ∧ z ≠ ms := by
        intro z hz
        rcases List.mem_cons.1 hz with rfl | hz
        · exact ⟨Nat.le_refl _, by omega⟩
        · have := HGM.out z (by simpa using hz); omega
      have hs6 := hk6.size
      simp only [World.size_setCell] at hs6
      have HSET6 := Lib.hid ((hset.out.kept hkG (by simp; omega)).kept hk6 (fun hz => (hM ms hz).2 rfl))
      have HG6 := Lib.hid (HG1.out.kept (VR.goodAt 2 (fun x : Ac => x.f.slots)) hk6 (fun z hz e => by have := (hM z hz).1; simp [Value.ownBlock] at e; omega) (fun z hz h => by have := (hM z hz).1; omega))
      have HSK6 := Lib.hid (hsk6.mono (S' := fun y => ms < y) (fun y _ h => h.elim id (fun h => by simp at h; omega)))
      have HGM6 : Hid (∀ z, g6 = some z → ms < z) := Lib.hid (fun z hz => by rcases hg6 with rfl | ⟨y, rfl, hy⟩; exact HGM.out z hz; simp at hz hy; omega)
      have hk6' : Kept [] w w6 := (hk.trans' hkG (fun z hz => .inr (by simp at hz; subst hz; omega))).trans' hk6 (fun z hz => .inr (by have := (hM z hz).1; omega))
      have hvq6 := (VR.good 2).kept HVQ1.out hk6 (fun z hz h => by have := (hM z hz).1; have := h.1.2; omega)
      have e5 : w6.cell? ⟨ga, k * 6 + 5, none⟩ = some (.slice q1a xs.length q1c) := hk6.cell' (HRQ1.out 5 _ rfl) (fun hz => by have := (hM _ hz).1; simp at this; omega)
      obtain ⟨hql, hvq6⟩ := hvq6
      obtain ⟨qa', qc', hqe, g1, g2, g3⟩ := hvq6.form
      simp only [Value.slice.injEq] at hqe
      obtain ⟨rfl, _, rfl⟩ := hqe
      have G3 := Lib.hid g3
      have hmw6 : ms < w6.heap.size := by omega
      clear hvq6 g3 hsk6 hg6 HGM hsk hset hgr HG1 HRQ1 HVQ1 e3 f3 hcw hkG hgm
      have hnS : ¬ ((w1.heap.size ≤ ms ∧ ms < bs) ∧ ms ≠ ga) := by omega
      go_wp2_with fail
      go_loopw [7] (fun i wr => ∃ j : Nat, j ≤ xs.length ∧ i = .int .i64 j ∧ Kept [ms] w6 wr ∧ Hid (IsSet wr ms ((fobjs 1 (pushed l k) ++ sobjs 1 (xs.take j)).foldl put []))) (fun i _ => xs.length - (intOf i).toNat)
      case atStart => exact ⟨0, Nat.zero_le _, rfl, Kept.refl _ _, by simpa [sobjs, Hid] using HSET6.out⟩
      case round =>
        obtain ⟨j, hj, rfl, hkj, hsj⟩ := hrel
        have hszj := hkj.size
        have e5j := hkj.cell' e5 (by simp; omega)
        by_cases hjt : j < xs.length
        · have hnx : xs ≠ [] := by rintro rfl; simp at hjt
          obtain ⟨b3, o3, rfl, hSb3, hb3, hc3⟩ := G3.out.resolve_left hnx
          obtain ⟨y, hy⟩ : ∃ y, xs[j]? = some y := ⟨xs[j], by simp⟩
          obtain ⟨u, hru, hou, hvu⟩ := hc3 j y hy
          obtain ⟨ua, uc, rfl, _, _, _⟩ := hvu.form
          have hrg2 := Lib.hid (hkj.range hru (by simp; omega))
          have HVU := Lib.hid ((VR.good 1).kept hvu hkj (by intro z hz h; simp at hz; subst hz; exact hnS h))
          have HY := Lib.hid (show sobjs 1 (xs.take (j + 1)) = sobjs 1 (xs.take j) ++ objs 1 y from flat_snoc _ xs j y hy)
          obtain ⟨yk, yn, ys, ye⟩ := y
          simp only [Vl.row, Vl.kind, Vl.n, Vl.s] at hrg2 hou HVU
          clear hru hvu hy hc3 hnx G3 hou
          go_wp2_with (first
            | (refine wpList_load_mid rfl 50 (.tmp 59) rfl b3 (o3 + j * 4) rfl [.int .i64 yk, .int .i64 yn, .string ys, .slice ua ye.length uc] _ hrg2.out Try.underlying50 rfl (by kernel_rfl) ?_)
            | (go_at_call 22; refine Calls.mono (collect 1 _ _ ms _ (.mk yk yn ys ye) (.slice ua ye.length uc) (by exact HVU.out) (by exact hsj.out) (by exact hnS)) ?_; rintro e w7 ⟨rfl, hs7, hk7⟩; have HS7 := Lib.hid hs7; clear hs7))
          go_roundw
          case rel =>
            refine ⟨j + 1, by omega, by go_num, hkj.trans hk7, ?_⟩
            rw [Hid, HY.out, ← List.append_assoc, List.foldl_append]
            exact HS7.out
          case measure => simp [intOf]; omega
        · go_wp2
          go_roundw
          case rel =>
            have hjl : j = xs.length := by omega
            refine ⟨k + 1, g6, by go_num, by omega, HG6.out.kept (VR.goodAt 2 (fun x : Ac => x.f.slots)) hkj (by simp [Value.ownBlock]; omega) (by simp; omega), ?_, HGM6.out, ?_, hk6'.trans' hkj (fun z hz => .inr (by simp at hz; subst hz; omega)), by omega⟩
            · rw [HX.out]
              exact HSK6.out.kept hkj (by simp; omega) (by intro z hz e; simp at hz; subst hz; have := HGM6.out _ e; omega) (by simp)
            · have h := hsj.out
              rw [hjl, List.take_length] at h
              rw [HX.out, HFO.out]
              exact h
          case measure => simp [intOf]; omega
    · have hkn : k = l.length := by omega
      have hpl : (pushed l k).length ≤ 1000 := by unfold pushed; have := HL20.out; simp; omega
      have hol : (fobjs 1 (pushed l k)).length ≤ 1000000 := by have := pushed_objs l HGEN.out k; have := HL20.out; omega
      have HOL := Lib.hid hol
      obtain ⟨F, hF⟩ : ∃ F, F = fobjs 1 (pushed l k) := ⟨_, rfl⟩
      have HF := Lib.hid hF
      clear hF hol hgr
      go_wp2_with fail
      refine Calls.mono (stackRoots 1 bs (pushed l k) _ (by exact hsk.out) hpl HOL.out) ?_
      rintro e w8 ⟨v8, rfl, ho8, hk8⟩
      have hset8 := hset.out.kept hk8 (by simp)
      rw [← HF.out] at ho8 hset8 HOL
      obtain ⟨rr, hrr⟩ : ∃ rr, rr = F.foldl ins [] := ⟨_, rfl⟩
      rw [← hrr] at ho8
      have e1 := sorted_set F [] [] (F.foldl put []) (by simp) (by simp [Asc]) (by simp) (List.Perm.refl _)
      rw [← hrr] at e1
      have hrlen : rr.length = (F.foldl put []).length := by rw [← e1, List.length_mergeSort]
      have hasc : Asc rr := by rw [hrr]; exact inss_asc F [] (by simp [Asc])
      have hmem : ∀ x ∈ rr, x ∈ F.foldl put [] := fun x hx => by rw [puts_mem]; rw [hrr, inss_mem] at hx; exact hx
      have hrl : rr.length ≤ 1000000 := by have := puts_length F []; have := HOL.out; simp at *; omega
      obtain ⟨_, ra, rc, rfl, r1, r2, r3⟩ := ho8.rows'
      rw [rroots_length] at r1 ⊢
      have HR3 := Lib.hid r3
      have HSET8 := Lib.hid hset8
      have HASC := Lib.hid hasc
      have HMEM := Lib.hid hmem
      have HRL := Lib.hid hrlen
      have hk8' := hk.trans hk8
      have r2' : rc ≤ 9223372036854775807 := by simpa [maxLen] using r2
      clear r3 hset8 hasc hmem hrlen hrr e1 ho8 hsk hset hgm hk hk8 r2
      go_wp2_with fail
      go_loopw [9] (fun i wr => ∃ j : Nat, j ≤ rr.length ∧ i = .int .i64 j ∧ Kept [] w8 wr) (fun i _ => rr.length - (intOf i).toNat)
      case atStart => exact ⟨0, Nat.zero_le _, rfl, Kept.refl _ _⟩
      case round =>
        obtain ⟨j, hj, rfl, hkj⟩ := hrel
        by_cases hjt : j < rr.length
        · have hne : rroots rr ≠ [] := by intro e; have := congrArg List.length e; simp at this; subst this; simp at hjt
          obtain ⟨rb, ro, rfl, _, hrb, hrows⟩ := HR3.out.resolve_left hne
          obtain ⟨x, hx⟩ := getx rr j hjt
          have hq := hkj.range (hrows j (rroot x) (by simp [rroots, hx])) (by simp)
          have hlk := run_lookup_set (P := Try.prog) (w := wr.drew) 40 2 4 Try.underlying40 Try.underlying2 (by kernel_rfl) ms _ ((HSET8.out.kept hkj (by simp)).kept ((Kept.refl [] wr).drew) (by simp)) x
          rw [decide_eq_true (HMEM.out x (List.mem_of_getElem? hx))] at hlk
          by_cases hj0 : j = 0
          · have hd0 : decide (0 < j) = false := by simp; omega
            have hd1 : decide ((0 : Int) < j) = false := by simp; omega
            have HLK : Hid (∀ w', IsSet w' ms (F.foldl put []) → (Instr.lookup 40 (.map (some ms)) (.int .i64 x) false).run Try.prog w' = .ok (.bool true) w') := Lib.hid (fun w' hw' => by
              have := run_lookup_set (P := Try.prog) (w := w') 40 2 4 Try.underlying40 Try.underlying2 (by kernel_rfl) ms _ hw' x
              rwa [decide_eq_true (HMEM.out x (List.mem_of_getElem? hx))] at this)
            have HKF : Hid (∀ w', Kept [] wr w' → w'.cell? ⟨rb, ro + j * 4, none⟩ = some (.int .i64 5) ∧ w'.cell? ⟨rb, ro + j * 4 + 1, none⟩ = some (.int .i64 x) ∧ w'.cell? ⟨rb, ro + j * 4 + 2, none⟩ = some (.string ⟨#[]⟩) ∧ w'.cell? ⟨rb, ro + j * 4 + 3, none⟩ = some (.slice none 0 0) ∧ Hid (IsSet w' ms (F.foldl put []))) := Lib.hid (fun w' k => ⟨k.cell' (hq 0 _ rfl) (by simp), k.cell' (hq 1 _ rfl) (by simp), k.cell' (hq 2 _ rfl) (by simp), k.cell' (hq 3 _ rfl) (by simp), (HSET8.out.kept hkj (by simp)).kept k (by simp)⟩)
            have hi0 : (j : Int) < rr.length := by omega
            clear hj0 hq hrows hx hne HR3 hlk
            go_wp2_with fail
            refine wp_region_held_drew (S := (fun w' => w'.cell? ⟨rb, ro + j * 4, none⟩ = some (.int .i64 5) ∧ w'.cell? ⟨rb, ro + j * 4 + 1, none⟩ = some (.int .i64 x) ∧ w'.cell? ⟨rb, ro + j * 4 + 2, none⟩ = some (.string ⟨#[]⟩) ∧ w'.cell? ⟨rb, ro + j * 4 + 3, none⟩ = some (.slice none 0 0) ∧ Hid (IsSet w' ms (F.foldl put [])))) (by kernel_rfl) ?_ (fun hHeld => ?_)
            · exact HKF.out _ ((Kept.refl [] wr).drew)
            refine wpAnyH_take (i := 0) (v := ?v0) rfl (by kernel_rfl) (by kernel_rfl) (by kernel_rfl) (fun _ _ _ h => h) (Or.inl ⟨by rfl, ?y0⟩) (by assumption) ?_
            case y0 => (intro w' hw'; obtain ⟨z0, z1, z2, z3, z4⟩ := hw'; clear z4; go_simp; try with_reducible rfl)
            generalize hd : Oper.dst _ = d
            obtain rfl : d = some 71 := hd.symm
            clear hd
            try simp only [Act.put, List.setIfInBounds_toArray, List.set_cons_zero, List.set_cons_succ]
            refine wpAnyH_take (i := 1) (v := ?v1) rfl (by kernel_rfl) (by kernel_rfl) (by kernel_rfl) (fun _ _ _ h => h) (Or.inl ⟨by rfl, ?y1⟩) (by assumption) ?_
            case y1 => (intro w' hw'; obtain ⟨z0, z1, z2, z3, z4⟩ := hw'; clear z4; go_simp; try with_reducible rfl)
            generalize hd : Oper.dst _ = d
            obtain rfl : d = some 72 := hd.symm
            clear hd
            try simp only [Act.put, List.setIfInBounds_toArray, List.set_cons_zero, List.set_cons_succ]
            refine wpAnyH_take (i := 2) (v := ?v2) rfl (by kernel_rfl) (by kernel_rfl) (by kernel_rfl) (fun _ _ _ h => h) (Or.inl ⟨by rfl, ?y2⟩) (by assumption) ?_
            case y2 => (intro w' hw'; obtain ⟨z0, z1, z2, z3, z4⟩ := hw'; clear z4; go_simp; try with_reducible rfl)
            generalize hd : Oper.dst _ = d
            obtain rfl : d = some 73 := hd.symm
            clear hd
            try simp only [Act.put, List.setIfInBounds_toArray, List.set_cons_zero, List.set_cons_succ]
            refine wpAnyH_take (i := 3) (v := ?v3) rfl (by kernel_rfl) (by kernel_rfl) (by kernel_rfl) (fun _ _ _ h => h) (Or.inl ⟨by rfl, ?y3⟩) (by assumption) ?_
            case y3 => (intro w' hw'; obtain ⟨z0, z1, z2, z3, z4⟩ := hw'; clear z4; go_simp; try with_reducible rfl)
            generalize hd : Oper.dst _ = d
            obtain rfl : d = some 74 := hd.symm
            clear hd
            try simp only [Act.put, List.setIfInBounds_toArray, List.set_cons_zero, List.set_cons_succ]
            refine wpAnyH_take (i := 4) (v := ?v4) rfl (by kernel_rfl) (by kernel_rfl) (by kernel_rfl) (fun _ _ _ h => h) (Or.inl ⟨by rfl, ?y4⟩) (by assumption) ?_
            case y4 => (intro w' hw'; obtain ⟨z0, z1, z2, z3, z4⟩ := hw'; clear z4; go_simp; try with_reducible rfl)
            generalize hd : Oper.dst _ = d
            obtain rfl : d = some 75 := hd.symm
            clear hd
            try simp only [Act.put, List.setIfInBounds_toArray, List.set_cons_zero, List.set_cons_succ]
            refine wpAnyH_take (i := 5) (v := ?v5) rfl (by kernel_rfl) (by kernel_rfl) (by kernel_rfl) (fun _ _ _ h => h) (Or.inl ⟨by rfl, ?y5⟩) (by assumption) ?_
            case y5 => (intro w' hw'; obtain ⟨z0, z1, z2, z3, z4⟩ := hw'; clear z4; go_simp; try with_reducible rfl)
            generalize hd : Oper.dst _ = d
            obtain rfl : d = some 76 := hd.symm
            clear hd
            try simp only [Act.put, List.setIfInBounds_toArray, List.set_cons_zero, List.set_cons_succ]
            refine wpAnyH_take (i := 6) (v := ?v6) rfl (by kernel_rfl) (by kernel_rfl) (by kernel_rfl) (fun _ _ _ h => h) (Or.inl ⟨by rfl, ?y6⟩) (by assumption) ?_
            case y6 => (intro w' hw'; obtain ⟨z0, z1, z2, z3, z4⟩ := hw'; have hlk := HLK.out w' z4.out; clear z4; go_simp; try with_reducible rfl)
            generalize hd : Oper.dst _ = d
            obtain rfl : d = some 77 := hd.symm
            clear hd
            try simp only [Act.put, List.setIfInBounds_toArray, List.set_cons_zero, List.set_cons_succ]
            refine wpAnyH_take (i := 7) (v := ?v7) rfl (by kernel_rfl) (by kernel_rfl) (by kernel_rfl) (fun _ _ _ h => h) (Or.inl ⟨by rfl, ?y7⟩) (by assumption) ?_
            case y7 => (intro w' hw'; obtain ⟨z0, z1, z2, z3, z4⟩ := hw'; clear z4; go_simp; try with_reducible rfl)
            generalize hd : Oper.dst _ = d
            obtain rfl : d = some 78 := hd.symm
            clear hd
            try simp only [Act.put, List.setIfInBounds_toArray, List.set_cons_zero, List.set_cons_succ]
            refine wpAnyH_take (i := 8) (v := ?v8) rfl (by kernel_rfl) (by kernel_rfl) (by kernel_rfl) (fun _ _ _ h => h) (Or.inl ⟨by rfl, ?y8⟩) (by assumption) ?_
            case y8 => (intro w' hw'; obtain ⟨z0, z1, z2, z3, z4⟩ := hw'; clear z4; go_simp; try with_reducible rfl)
            generalize hd : Oper.dst _ = d
            obtain rfl : d = some 79 := hd.symm
            clear hd
            try simp only [Act.put, List.setIfInBounds_toArray, List.set_cons_zero, List.set_cons_succ]
            refine wpAnyH_take (i := 9) (v := ?v9) rfl (by kernel_rfl) (by kernel_rfl) (by kernel_rfl) (fun _ _ _ h => h) (Or.inl ⟨by rfl, ?y9⟩) (by assumption) ?_
            case y9 => (intro w' hw'; obtain ⟨z0, z1, z2, z3, z4⟩ := hw'; clear z4; go_simp; try with_reducible rfl)
            generalize hd : Oper.dst _ = d
            obtain rfl : d = some 80 := hd.symm
            clear hd
            try simp only [Act.put, List.setIfInBounds_toArray, List.set_cons_zero, List.set_cons_succ]
            refine wpAnyH_take (i := 10) (v := ?v10) rfl (by kernel_rfl) (by kernel_rfl) (by kernel_rfl) (fun _ _ _ h => h) (Or.inl ⟨by rfl, ?y10⟩) (by assumption) ?_
            case y10 => (intro w' hw'; obtain ⟨z0, z1, z2, z3, z4⟩ := hw'; clear z4; go_simp; try with_reducible rfl)
            generalize hd : Oper.dst _ = d
            obtain rfl : d = some 81 := hd.symm
            clear hd
            try simp only [Act.put, List.setIfInBounds_toArray, List.set_cons_zero, List.set_cons_succ]
            refine wpAnyH_take (i := 11) (v := ?v11) rfl (by kernel_rfl) (by kernel_rfl) (by kernel_rfl) (fun _ _ _ h => h) (Or.inl ⟨by rfl, ?y11⟩) (by assumption) ?_
            case y11 => (intro w' hw'; obtain ⟨z0, z1, z2, z3, z4⟩ := hw'; clear z4; go_simp; try with_reducible rfl)
            generalize hd : Oper.dst _ = d
            obtain rfl : d = some 82 := hd.symm
            clear hd
            try simp only [Act.put, List.setIfInBounds_toArray, List.set_cons_zero, List.set_cons_succ]
            refine wpAnyH_take (i := 12) (v := ?v12) rfl (by kernel_rfl) (by kernel_rfl) (by kernel_rfl) (fun _ _ _ h => h) (Or.inl ⟨by rfl, ?y12⟩) (by assumption) ?_
            case y12 => (intro w' hw'; obtain ⟨z0, z1, z2, z3, z4⟩ := hw'; clear z4; go_simp; try with_reducible rfl)
            generalize hd : Oper.dst _ = d
            obtain rfl : d = some 83 := hd.symm
            clear hd
            try simp only [Act.put, List.setIfInBounds_toArray, List.set_cons_zero, List.set_cons_succ]
            refine wpAnyH_take (i := 13) (v := ?v13) rfl (by kernel_rfl) (by kernel_rfl) (by kernel_rfl) (fun _ _ _ h => h) (Or.inl ⟨by rfl, ?y13⟩) (by assumption) ?_
            case y13 => (intro w' hw'; obtain ⟨z0, z1, z2, z3, z4⟩ := hw'; clear z4; go_simp; try with_reducible rfl)
            generalize hd : Oper.dst _ = d
            obtain rfl : d = some 84 := hd.symm
            clear hd
            try simp only [Act.put, List.setIfInBounds_toArray, List.set_cons_zero, List.set_cons_succ]
            refine wpAnyH_take (i := 14) (v := ?v14) rfl (by kernel_rfl) (by kernel_rfl) (by kernel_rfl) (fun _ _ _ h => h) (Or.inl ⟨by rfl, ?y14⟩) (by assumption) ?_
            case y14 => (intro w' hw'; obtain ⟨z0, z1, z2, z3, z4⟩ := hw'; clear z4; go_simp; try with_reducible rfl)
            generalize hd : Oper.dst _ = d
            obtain rfl : d = some 85 := hd.symm
            clear hd
            try simp only [Act.put, List.setIfInBounds_toArray, List.set_cons_zero, List.set_cons_succ]
            refine wpAnyH_take (i := 15) (v := ?v15) rfl (by kernel_rfl) (by kernel_rfl) (by kernel_rfl) (fun _ _ _ h => h) (Or.inl ⟨by rfl, ?y15⟩) (by assumption) ?_
            case y15 => (intro w' hw'; obtain ⟨z0, z1, z2, z3, z4⟩ := hw'; clear z4; go_simp; try with_reducible rfl)
            generalize hd : Oper.dst _ = d
            obtain rfl : d = some 86 := hd.symm
            clear hd
            try simp only [Act.put, List.setIfInBounds_toArray, List.set_cons_zero, List.set_cons_succ]
            refine wpAnyH_take (i := 16) (v := ?v16) rfl (by kernel_rfl) (by kernel_rfl) (by kernel_rfl) (fun _ _ _ h => h) (Or.inl ⟨by rfl, ?y16⟩) (by assumption) ?_
            case y16 => (intro w' hw'; obtain ⟨z0, z1, z2, z3, z4⟩ := hw'; clear z4; go_simp; try with_reducible rfl)
            generalize hd : Oper.dst _ = d
            obtain rfl : d = some 87 := hd.symm
            clear hd
            try simp only [Act.put, List.setIfInBounds_toArray, List.set_cons_zero, List.set_cons_succ]
            refine wpAnyH_take (i := 17) (v := ?v17) rfl (by kernel_rfl) (by kernel_rfl) (by kernel_rfl) (fun _ _ _ h => h) (Or.inl ⟨by rfl, ?y17⟩) (by assumption) ?_
            case y17 => (intro w' hw'; obtain ⟨z0, z1, z2, z3, z4⟩ := hw'; clear z4; go_simp; try with_reducible rfl)
            generalize hd : Oper.dst _ = d
            obtain rfl : d = some 88 := hd.symm
            clear hd
            try simp only [Act.put, List.setIfInBounds_toArray, List.set_cons_zero, List.set_cons_succ]
            refine wpAnyH_take (i := 18) (v := ?v18) rfl (by kernel_rfl) (by kernel_rfl) (by kernel_rfl) (fun _ _ _ h => h) (Or.inl ⟨by rfl, ?y18⟩) (by assumption) ?_
            case y18 => (intro w' hw'; obtain ⟨z0, z1, z2, z3, z4⟩ := hw'; clear z4; go_simp; try with_reducible rfl)
            generalize hd : Oper.dst _ = d
            obtain rfl : d = some 89 := hd.symm
            clear hd
            try simp only [Act.put, List.setIfInBounds_toArray, List.set_cons_zero, List.set_cons_succ]
            refine wpAnyH_ready (rs := [19]) (by kernel_rfl) (by simp) ?_
            refine AllReadyH.cons rfl (fun K hK => ?_) AllReadyH.nil
            go_simp
            refine Calls.mono (valueEqual x none none 0 0 _) ?_
            rintro e w10 ⟨rfl, hk10⟩
            have hkc := Kept.trans (a := wr) ((Kept.refl [] wr).drew) hk10
            go_wp2_with fail
            refine hK.out _ _ ?_ (fun hHeld2 => ?_)
            · exact HKF.out _ hkc
            clear hK K hHeld
            try simp only [Act.put, List.setIfInBounds_toArray, List.set_cons_zero, List.set_cons_succ]
            refine wpAnyH_take (i := 20) (v := ?v20) rfl (by kernel_rfl) (by kernel_rfl) (by kernel_rfl) (fun _ _ _ h => h) (Or.inl ⟨by rfl, ?y20⟩) (by assumption) ?_
            case y20 => (intro w' hw'; obtain ⟨z0, z1, z2, z3, z4⟩ := hw'; clear z4; go_simp; try with_reducible rfl)
            generalize hd : Oper.dst _ = d
            obtain rfl : d = some 91 := hd.symm
            clear hd
            try simp only [Act.put, List.setIfInBounds_toArray, List.set_cons_zero, List.set_cons_succ]
            refine wpAnyH_take (i := 21) (v := ?v21) rfl (by kernel_rfl) (by kernel_rfl) (by kernel_rfl) (fun _ _ _ h => h) (Or.inl ⟨by rfl, ?y21⟩) (by assumption) ?_
            case y21 => (intro w' hw'; obtain ⟨z0, z1, z2, z3, z4⟩ := hw'; clear z4; go_simp; try with_reducible rfl)
            generalize hd : Oper.dst _ = d
            obtain rfl : d = some 92 := hd.symm
            clear hd
            try simp only [Act.put, List.setIfInBounds_toArray, List.set_cons_zero, List.set_cons_succ]
            refine wpAnyH_take (i := 22) (v := ?v22) rfl (by kernel_rfl) (by kernel_rfl) (by kernel_rfl) (fun _ _ _ h => h) (Or.inl ⟨by rfl, ?y22⟩) (by assumption) ?_
            case y22 => (intro w' hw'; obtain ⟨z0, z1, z2, z3, z4⟩ := hw'; clear z4; go_simp; try with_reducible rfl)
            generalize hd : Oper.dst _ = d
            obtain rfl : d = some 93 := hd.symm
            clear hd
            try simp only [Act.put, List.setIfInBounds_toArray, List.set_cons_zero, List.set_cons_succ]
            refine wpAnyH_take (i := 23) (v := ?v23) rfl (by kernel_rfl) (by kernel_rfl) (by kernel_rfl) (fun _ _ _ h => h) (Or.inl ⟨by rfl, ?y23⟩) (by assumption) ?_
            case y23 => (intro w' hw'; obtain ⟨z0, z1, z2, z3, z4⟩ := hw'; clear z4; go_simp; try with_reducible rfl)
            generalize hd : Oper.dst _ = d
            obtain rfl : d = some 94 := hd.symm
            clear hd
            try simp only [Act.put, List.setIfInBounds_toArray, List.set_cons_zero, List.set_cons_succ]
            refine wpAnyH_take (i := 24) (v := ?v24) rfl (by kernel_rfl) (by kernel_rfl) (by kernel_rfl) (fun _ _ _ h => h) (Or.inl ⟨by rfl, ?y24⟩) (by assumption) ?_
            case y24 => (intro w' hw'; obtain ⟨z0, z1, z2, z3, z4⟩ := hw'; clear z4; go_simp; try with_reducible rfl)
            generalize hd : Oper.dst _ = d
            obtain rfl : d = some 95 := hd.symm
            clear hd
            try simp only [Act.put, List.setIfInBounds_toArray, List.set_cons_zero, List.set_cons_succ]
            refine wpAnyH_take (i := 25) (v := ?v25) rfl (by kernel_rfl) (by kernel_rfl) (by kernel_rfl) (fun _ _ _ h => h) (Or.inl ⟨by rfl, ?y25⟩) (by assumption) ?_
            case y25 => (intro w' hw'; obtain ⟨z0, z1, z2, z3, z4⟩ := hw'; clear z4; go_simp; try with_reducible rfl)
            generalize hd : Oper.dst _ = d
            obtain rfl : d = some 96 := hd.symm
            clear hd
            try simp only [Act.put, List.setIfInBounds_toArray, List.set_cons_zero, List.set_cons_succ]
            refine wpAnyH_take (i := 26) (v := undef) rfl (by kernel_rfl) (by kernel_rfl) (by kernel_rfl) (fun _ _ _ h => h) (Or.inr ⟨by rfl, rfl⟩) (by assumption) ?_
            generalize hd : Oper.dst _ = d
            obtain rfl : d = some 97 := hd.symm
            clear hd
            try simp only [Act.put, List.setIfInBounds_toArray, List.set_cons_zero, List.set_cons_succ]
            refine wpAnyH_take (i := 27) (v := undef) rfl (by kernel_rfl) (by kernel_rfl) (by kernel_rfl) (fun _ _ _ h => h) (Or.inr ⟨by rfl, rfl⟩) (by assumption) ?_
            generalize hd : Oper.dst _ = d
            obtain rfl : d = some 98 := hd.symm
            clear hd
            try simp only [Act.put, List.setIfInBounds_toArray, List.set_cons_zero, List.set_cons_succ]
            refine wpAnyH_take (i := 28) (v := undef) rfl (by kernel_rfl) (by kernel_rfl) (by kernel_rfl) (fun _ _ _ h => h) (Or.inr ⟨by rfl, rfl⟩) (by assumption) ?_
            generalize hd : Oper.dst _ = d
            obtain rfl : d = some 99 := hd.symm
            clear hd
            try simp only [Act.put, List.setIfInBounds_toArray, List.set_cons_zero, List.set_cons_succ]
            refine wpAnyH_take (i := 29) (v := undef) rfl (by kernel_rfl) (by kernel_rfl) (by kernel_rfl) (fun _ _ _ h => h) (Or.inr ⟨by rfl, rfl⟩) (by assumption) ?_
            generalize hd : Oper.dst _ = d
            obtain rfl : d = some 100 := hd.symm
            clear hd
            try simp only [Act.put, List.setIfInBounds_toArray, List.set_cons_zero, List.set_cons_succ]
            refine wpAnyH_take (i := 30) (v := undef) rfl (by kernel_rfl) (by kernel_rfl) (by kernel_rfl) (fun _ _ _ h => h) (Or.inr ⟨by rfl, rfl⟩) (by assumption) ?_
            generalize hd : Oper.dst _ = d
            obtain rfl : d = some 101 := hd.symm
            clear hd
            try simp only [Act.put, List.setIfInBounds_toArray, List.set_cons_zero, List.set_cons_succ]
            refine wpAnyH_take (i := 31) (v := undef) rfl (by kernel_rfl) (by kernel_rfl) (by kernel_rfl) (fun _ _ _ h => h) (Or.inr ⟨by rfl, rfl⟩) (by assumption) ?_
            generalize hd : Oper.dst _ = d
            obtain rfl : d = some 102 := hd.symm
            clear hd
            try simp only [Act.put, List.setIfInBounds_toArray, List.set_cons_zero, List.set_cons_succ]
            refine wpAnyH_take (i := 32) (v := undef) rfl (by kernel_rfl) (by kernel_rfl) (by kernel_rfl) (fun _ _ _ h => h) (Or.inr ⟨by rfl, rfl⟩) (by assumption) ?_
            generalize hd : Oper.dst _ = d
            obtain rfl : d = some 103 := hd.symm
            clear hd
            try simp only [Act.put, List.setIfInBounds_toArray, List.set_cons_zero, List.set_cons_succ]
            refine wpAnyH_take (i := 33) (v := undef) rfl (by kernel_rfl) (by kernel_rfl) (by kernel_rfl) (fun _ _ _ h => h) (Or.inr ⟨by rfl, rfl⟩) (by assumption) ?_
            generalize hd : Oper.dst _ = d
            obtain rfl : d = some 104 := hd.symm
            clear hd
            try simp only [Act.put, List.setIfInBounds_toArray, List.set_cons_zero, List.set_cons_succ]
            refine wpAnyH_take (i := 34) (v := undef) rfl (by kernel_rfl) (by kernel_rfl) (by kernel_rfl) (fun _ _ _ h => h) (Or.inr ⟨by rfl, rfl⟩) (by assumption) ?_
            generalize hd : Oper.dst _ = d
            obtain rfl : d = some 105 := hd.symm
            clear hd
            try simp only [Act.put, List.setIfInBounds_toArray, List.set_cons_zero, List.set_cons_succ]
            refine wpAnyH_take (i := 35) (v := undef) rfl (by kernel_rfl) (by kernel_rfl) (by kernel_rfl) (fun _ _ _ h => h) (Or.inr ⟨by rfl, rfl⟩) (by assumption) ?_
            generalize hd : Oper.dst _ = d
            obtain rfl : d = some 106 := hd.symm
            clear hd
            try simp only [Act.put, List.setIfInBounds_toArray, List.set_cons_zero, List.set_cons_succ]
            refine wpAnyH_take (i := 36) (v := undef) rfl (by kernel_rfl) (by kernel_rfl) (by kernel_rfl) (fun _ _ _ h => h) (Or.inr ⟨by rfl, rfl⟩) (by assumption) ?_
            generalize hd : Oper.dst _ = d
            obtain rfl : d = some 107 := hd.symm
            clear hd
            try simp only [Act.put, List.setIfInBounds_toArray, List.set_cons_zero, List.set_cons_succ]
            refine wpAnyH_take (i := 37) (v := undef) rfl (by kernel_rfl) (by kernel_rfl) (by kernel_rfl) (fun _ _ _ h => h) (Or.inr ⟨by rfl, rfl⟩) (by assumption) ?_
            generalize hd : Oper.dst _ = d
            obtain rfl : d = some 108 := hd.symm
            clear hd
            try simp only [Act.put, List.setIfInBounds_toArray, List.set_cons_zero, List.set_cons_succ]
            refine wpAnyH_take (i := 38) (v := ?v38) rfl (by kernel_rfl) (by kernel_rfl) (by kernel_rfl) (fun _ _ _ h => h) (Or.inl ⟨by rfl, ?y38⟩) (by assumption) ?_
            case y38 => (intro w' hw'; obtain ⟨z0, z1, z2, z3, z4⟩ := hw'; clear z4; go_simp; try with_reducible rfl)
            generalize hd : Oper.dst _ = d
            obtain rfl : d = some 109 := hd.symm
            clear hd
            try simp only [Act.put, List.setIfInBounds_toArray, List.set_cons_zero, List.set_cons_succ]
            refine wpAnyH_take (i := 39) (v := ?v39) rfl (by kernel_rfl) (by kernel_rfl) (by kernel_rfl) (fun _ _ _ h => h) (Or.inl ⟨by rfl, ?y39⟩) (by assumption) ?_
            case y39 => (intro w' hw'; obtain ⟨z0, z1, z2, z3, z4⟩ := hw'; clear z4; go_simp; try with_reducible rfl)
            generalize hd : Oper.dst _ = d
            obtain rfl : d = some 110 := hd.symm
            clear hd
            try simp only [Act.put, List.setIfInBounds_toArray, List.set_cons_zero, List.set_cons_succ]
            refine wpAnyH_done (by kernel_rfl) ?_ _
            all_goals go_wp2_with fail
            all_goals
              go_roundw
              case rel => exact ⟨j + 1, by omega, by go_num, hkj.trans hkc⟩
              case measure => simp [intOf]; omega
          · obtain ⟨j, rfl⟩ : ∃ j', j = j' + 1 := ⟨j - 1, by omega⟩
            clear hj0
            obtain ⟨y, hy⟩ := getx rr j (by omega)
            have hp := hkj.range (hrows j (rroot y) (by simp [rroots, hy])) (by simp)
            have hyx : y < x := by
              have := HASC.out
              unfold Asc at this
              rw [List.pairwise_iff_getElem] at this
              have := this j (j + 1) (by omega) hjt (by omega)
              rw [List.getElem?_eq_getElem (by omega)] at hx hy
              simp at hx hy
              omega
            have hdx : decide (x ≤ y) = false := by simp; omega
            have HKF : Hid (∀ w', Kept [] wr w' → w'.cell? ⟨rb, ro + (j + 1) * 4, none⟩ = some (.int .i64 5) ∧ w'.cell? ⟨rb, ro + (j + 1) * 4 + 1, none⟩ = some (.int .i64 x) ∧ w'.cell? ⟨rb, ro + (j + 1) * 4 + 2, none⟩ = some (.string ⟨#[]⟩) ∧ w'.cell? ⟨rb, ro + (j + 1) * 4 + 3, none⟩ = some (.slice none 0 0) ∧ w'.cell? ⟨rb, ro + j * 4 + 1, none⟩ = some (.int .i64 y)) := Lib.hid (fun w' k => ⟨k.cell' (hq 0 _ rfl) (by simp), k.cell' (hq 1 _ rfl) (by simp), k.cell' (hq 2 _ rfl) (by simp), k.cell' (hq 3 _ rfl) (by simp), k.cell' (hp 1 _ rfl) (by simp)⟩)
            have hi0 : (j : Int) + 1 < rr.length := by omega
            have hi1 : (j : Int) < rr.length := by omega
            have hi2 : (0 : Int) ≤ (j : Int) + 1 := by omega
            have hi3 : j + 1 < rr.length := hjt
            have hi4 : ((j : Int) + 1).toNat = j + 1 := by omega
            have hw1 : IntKind.i64.wrap ((j : Int) + 1 - 1) = j := by rw [Int.add_sub_cancel]; exact IntWalk.i64_in _ (by omega)
            have hw2 : IntKind.i64.wrap (j : Int) = j := IntWalk.i64_in _ (by omega)
            have hgt : (0 : Int) < (j : Int) + 1 := by omega
            clear hq hp hrows hx hy hne HR3
            go_wp2_with fail
            go_region_held3 (fun w' => w'.cell? ⟨rb, ro + (j + 1) * 4, none⟩ = some (.int .i64 5) ∧ w'.cell? ⟨rb, ro + (j + 1) * 4 + 1, none⟩ = some (.int .i64 x) ∧ w'.cell? ⟨rb, ro + (j + 1) * 4 + 2, none⟩ = some (.string ⟨#[]⟩) ∧ w'.cell? ⟨rb, ro + (j + 1) * 4 + 3, none⟩ = some (.slice none 0 0) ∧ w'.cell? ⟨rb, ro + j * 4 + 1, none⟩ = some (.int .i64 y)) (first | exact HKF.out _ (Kept.trans hkc (by repeat (first | exact Kept.refl _ _ | refine Kept.drew ?_ | refine Kept.alloc ?_ _))) | exact HKF.out _ (by repeat (first | exact Kept.refl _ _ | refine Kept.drew ?_ | refine Kept.alloc ?_ _)))
              (first | (go_at_call 24; ((with_reducible refine Calls.mono (valueEqual x none none 0 0 _) ?_); rintro e w10 ⟨rfl, hk10⟩; have hkc := Kept.trans (a := wr) (by repeat (first | exact Kept.refl _ _ | refine Kept.drew ?_ | refine Kept.alloc ?_ _)) hk10)))
            all_goals go_wp2_with fail
            all_goals
              go_roundw
              case rel => exact ⟨j + 1 + 1, by omega, by go_num, hkj.trans hkc⟩
              case measure => simp [intOf]; omega
        · have hjl : j = rr.length := by omega
          clear hjt
          have hrl2 := HRL.out
          go_wp2_with (first
            | (refine wpList_set_len rfl (.tmp 113) 40 rfl 2 4 Try.underlying40 ms _ rfl (HSET8.out.kept hkj (by simp)) ?_)
            | (go_at_call 25; refine Calls.mono (sane34 _) ?_; rintro e w11 ⟨rfl, hk11⟩))
          go_ret
          exact ⟨rfl, (hk8'.trans hkj).trans hk11⟩
end Go.Proofs.Ytkldomkooleecaa
