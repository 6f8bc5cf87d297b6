/- Compiled codes as data, and which of them can be freed. -/
import Derived.Test.YtkldomkooleecaaWalkD
import Derived.Test.YtkldomkooleecaaWalkB
namespace Go.Proofs.Ytkldomkooleecaa
open Go.RowKit

/-- A compiled code: its 14 cells. -/
structure Cc where
  id : Int
  method : Int
  k0 : Value
  k1 : Value
  k2 : Value
  k3 : Value
  frm : Int
  unt : Int
  c0 : Value
  c1 : Value
  c2 : Value
  c3 : Value
  deps : Value
  inl : Value

def Cc.cells (x : Cc) : List Value := [.int .i64 x.id, .int .i64 x.method, x.k0, x.k1, x.k2, x.k3, .int .i64 x.frm, .int .i64 x.unt, x.c0, x.c1, x.c2, x.c3, x.deps, x.inl]
def crows (l : List Cc) : List (List Value) := l.map Cc.cells
@[simp] theorem crows_length (l : List Cc) : (crows l).length = l.length := by simp [crows]

theorem codes_form {S : Nat → Prop} {w : World} {v : Value} {f : List Cc} (h : Reads S w v 14 (crows f)) : ∃ a cap, v = .slice a f.length cap ∧ f.length ≤ cap ∧ cap ≤ 9223372036854775807 ∧
    (f = [] ∨ ∃ b off, a = some ⟨b, off, none⟩ ∧ S b ∧ b < w.heap.size ∧ ∀ k x, f[k]? = some x → w.rangeAt b (off + k * 14) x.cells ∧ ∀ u ∈ x.cells, u.oneCell' = true) := by
  obtain ⟨h0, a, cap, rfl, h2, h3, h4⟩ := h
  rw [crows_length] at h2 ⊢
  refine ⟨a, cap, rfl, h2, by simpa [maxLen] using h3, ?_⟩
  rcases h4 with h4 | ⟨b, off, rfl, hs, hb, hr⟩
  · left; simpa [crows] using h4
  · refine .inr ⟨b, off, rfl, hs, hb, fun k x hx => ?_⟩
    have hx' : (crows f)[k]? = some x.cells := by simp [crows, hx]
    exact ⟨hr k _ hx', (h0 _ (List.mem_of_getElem? hx')).2⟩

/-- Is a code valid in no world of the list? -/
def outOf (frm unt : Int) (ws : List Int) : Bool := ws.all fun w => decide (w < frm) || decide (unt ≤ w)
/-- Can a code be freed? -/
def freeB (active worlds : List Int) (x : Cc) : Bool := decide (x.unt ≠ 0) && !decide (x.id ∈ active) && outOf x.frm x.unt worlds
def freed (active worlds : List Int) (l : List Cc) : List Int := (l.filter (freeB active worlds)).map Cc.id
theorem freed_append (active worlds : List Int) (l m : List Cc) : freed active worlds (l ++ m) = freed active worlds l ++ freed active worlds m := by simp [freed]
theorem freed_length (active worlds : List Int) (l : List Cc) : (freed active worlds l).length ≤ l.length := by
  unfold freed; rw [List.length_map]; exact List.length_filter_le _ _
theorem outOf_snoc (frm unt : Int) (ws : List Int) (m : Nat) (x : Int) (h : ws[m]? = some x) : outOf frm unt (ws.take (m + 1)) = (outOf frm unt (ws.take m) && (decide (x < frm) || decide (unt ≤ x))) := by
  rw [List.take_add_one, h]; simp [outOf]

theorem freeHead {ub mb : Bool} {xu xi : Int} {act : List Int} (h : ub = (xu != 0)) (h' : mb = decide (xi ∈ act.foldl put [])) : (decide (xu ≠ 0) && !decide (xi ∈ act)) = (ub && !mb) := by
  subst h h'
  have : (xi ∈ act.foldl put []) ↔ xi ∈ act := by rw [puts_mem]; simp
  simp only [this]
  congr 1
  by_cases hz : xu = 0
  · subst hz; rfl
  · simp [hz]

theorem info_code : (Try.prog.info? 65).map (fun i => (i.zero, i.size)) = some (some (.agg #[.int .i64 0, .int .i64 0, .int .i64 0, .string ⟨#[]⟩, .int .i64 0, .slice none 0 0, .int .i64 0, .int .i64 0, .int .i64 0, .int .i64 0, .slice none 0 0, .slice none 0 0, .slice none 0 0, .slice none 0 0]), 14) := by kernel_rfl

set_option maxRecDepth 100000 in
set_option maxHeartbeats 1600000 in
theorem unreachable {S S' S'' : Nat → Prop} (v va vw : Value) (cs : List Cc) (act ws : List Int) (w : World) (h : Reads S w v 14 (crows cs)) (ha : Reads S' w va 1 (irows act)) (hw : Reads S'' w vw 1 (irows ws)) (hl : cs.length ≤ 1000000) :
    Calls Try.prog 16 #[v, va, vw] w fun e w' => ∃ v', e = .returned v' ∧ Own w' w.heap.size 3 1 v' (irows ((freed act ws cs).foldl ins [])) ∧ Kept [] w w' := by
  obtain ⟨a1, c1, rfl, h1, h2, h3⟩ := codes_form h
  obtain ⟨a2, c2, rfl, g1, g2, g3⟩ := ha.ints
  obtain ⟨a3, c3, rfl, f1, f2, f3⟩ := hw.ints
  have H3 := Lib.hid h3
  have G3 := Lib.hid g3
  have F3 := Lib.hid f3
  clear h3 g3 f3 h ha hw
  have hmm := @run_makeMap Try.prog
  go_enter Try.func16, Try.ntmps16
  go_wp2
  have HS1 := Lib.hid (IsSet.made w)
  go_loopw [19] (fun i wr => ∃ k : Nat, k ≤ act.length ∧ i = .int .i64 k ∧ Kept [] w wr ∧ w.heap.size + 1 ≤ wr.heap.size ∧ Hid (IsSet wr w.heap.size ((act.take k).foldl put []))) (fun i _ => act.length - (intOf i).toNat)
  case atStart => exact ⟨0, Nat.zero_le _, rfl, (Kept.refl [] w).alloc _, by simp, HS1.out⟩
  case round =>
    obtain ⟨k, hk, rfl, hkr, hsz, hsr⟩ := hrel
    by_cases hlt : k < act.length
    · have hne : act ≠ [] := by rintro rfl; simp at hlt
      obtain ⟨b1, o1, rfl, hSb, hb1, hc1⟩ := G3.out.resolve_left hne
      obtain ⟨x, hx⟩ := getx act k hlt
      have cu := hkr.cell' (hc1 k x hx) (by simp)
      have HX := Lib.hid hx
      clear hx hc1 hne G3
      go_wp2_with (refine wpList_set_put rfl (.tmp 23) (.tmp 24) (.const (.bool true)) 85 (.inl rfl) 3 4 Try.underlying85 Try.underlying3 w.heap.size _ x rfl rfl rfl hsr.out ?_; intro w3 hs3 hk3 hz3; have HS3 := Lib.hid hs3; have HZ3 := Lib.hid hz3; clear hs3 hz3)
      go_roundw
      case rel =>
        refine ⟨k + 1, by omega, by go_num, hkr.trans' hk3 (by simp), by have := HZ3.out; omega, ?_⟩
        rw [Hid, List.take_add_one, HX.out]
        simp only [Option.toList_some, foldl_snoc]
        exact HS3.out
      case measure => simp [intOf]; omega
    · have hsr1 := hsr.out
      rw [show k = act.length by omega, List.take_length] at hsr1
      obtain ⟨wo, hwo⟩ : ∃ wo : World, wo = wr := ⟨_, rfl⟩
      subst hwo
      go_wp2
      have HR1 := Lib.hid (hsr1.kept ((Kept.refl [] wo).alloc (.map #[] 0)) (by simp))
      have HS2 := Lib.hid (IsSet.made wo)
      have hk2 : Kept [] w (wo.alloc (.map #[] 0)) := hkr.alloc _
      have hz2 : (wo.alloc (.map #[] 0)).heap.size = wo.heap.size + 1 := by simp
      obtain ⟨wp, hwp⟩ : ∃ wp, wp = wo.alloc (.map #[] 0) := ⟨_, rfl⟩
      obtain ⟨sb, hsb⟩ : ∃ sb, sb = wo.heap.size := ⟨_, rfl⟩
      rw [← hwp] at HR1 HS2 hk2 hz2 ⊢
      rw [← hsb] at HS2 hz2 hsz ⊢
      clear hwp hsb hkr hsr hsr1 HS1 hmm
      have HZ2 := Lib.hid hz2
      have HK2 := Lib.hid hk2
      clear hz2 hk2
      go_loopw [29] (fun i wr => ∃ j : Nat, j ≤ cs.length ∧ i = .int .i64 j ∧ Kept [] w wr ∧ sb + 1 ≤ wr.heap.size ∧ Hid (IsSet wr w.heap.size (act.foldl put [])) ∧ Hid (IsSet wr sb ((freed act ws (cs.take j)).foldl put []))) (fun i _ => cs.length - (intOf i).toNat)
      case atStart => exact ⟨0, Nat.zero_le _, rfl, HK2.out, Nat.le_of_eq HZ2.out.symm, HR1.out, HS2.out⟩
      case round =>
        obtain ⟨j, hj, rfl, hkr, hsz', hra, hrs⟩ := hrel
        by_cases hlt' : j < cs.length
        · have hne : cs ≠ [] := by rintro rfl; simp at hlt'
          obtain ⟨b1, o1, rfl, hSb, hb1, hc1⟩ := H3.out.resolve_left hne
          obtain ⟨x, hx⟩ : ∃ x, cs[j]? = some x := ⟨cs[j], by simp⟩
          obtain ⟨hrx, hox⟩ := hc1 j x hx
          have hrg := Lib.hid (hkr.range hrx (by simp))
          have HX := Lib.hid hx
          obtain ⟨xi, xm, k0, k1, k2, k3, xf, xu, d0, d1, d2, d3, xd, xl⟩ := x
          simp only [Cc.cells] at hrg hox
          have HOX := Lib.hid hox
          clear hrx hx hc1 hne H3 hox
          have hbox := fun (w0 : World) (h0 : IsSet w0 w.heap.size (act.foldl put [])) => run_lookup_set (P := Try.prog) (w := w0) 85 3 4 Try.underlying85 Try.underlying3 (by kernel_rfl) w.heap.size _ h0 xi
          have hlk := hbox (wr.alloc (.cells #[.int .i64 xi, .int .i64 xm, k0, k1, k2, k3, .int .i64 xf, .int .i64 xu, d0, d1, d2, d3, xd, xl] 65)) (hra.out.kept ((Kept.refl [] wr).alloc _) (by simp))
          obtain ⟨mb, hmb⟩ : ∃ mb, mb = decide (xi ∈ act.foldl put []) := ⟨_, rfl⟩
          rw [← hmb] at hlk
          have HMB := Lib.hid hmb
          clear hbox hmb
          obtain ⟨ub, hub⟩ : ∃ ub, ub = (xu != 0) := ⟨_, rfl⟩
          have HUB := Lib.hid hub
          have hub' := hub.symm
          clear hub
          have hcase : (ub = false) ∨ (ub = true ∧ mb = false) ∨ (ub = true ∧ mb = true) := by cases ub <;> cases mb <;> simp
          have HU := Lib.hid (freeHead HUB.out HMB.out)
          clear HUB HMB
          rcases hcase with rfl | ⟨rfl, rfl⟩ | ⟨rfl, rfl⟩
          all_goals go_wp2_with (first
            | (refine wpList_load_mid rfl 65 (.tmp 31) rfl b1 (o1 + j * 14) rfl [.int .i64 xi, .int .i64 xm, k0, k1, k2, k3, .int .i64 xf, .int .i64 xu, d0, d1, d2, d3, xd, xl] _ hrg.out Try.underlying65 rfl (by kernel_rfl) ?_)
            | (refine wpList_allocStore (.tmp 32) 65 rfl rfl rfl rfl rfl rfl _ [.int .i64 xi, .int .i64 xm, k0, k1, k2, k3, .int .i64 xf, .int .i64 xu, d0, d1, d2, d3, xd, xl] info_code rfl (fun _ => rfl) (fun _ => rfl) HOX.out ?_))
          all_goals
            go_loop [13, 45] (fun f i => ∃ (m : Nat) (bb : Bool), m ≤ ws.length ∧ f = .bool bb ∧ i = .int .i64 m ∧ Hid (bb = ((decide (xu ≠ 0) && !decide (xi ∈ act)) && outOf xf xu (ws.take m)))) (fun _ i => ws.length - (intOf i).toNat)
            case atStart => exact ⟨0, _, Nat.zero_le _, rfl, rfl, by rw [Hid, HU.out]; simp [outOf]⟩
            case round =>
              obtain ⟨m, bb, hm, rfl, rfl, hbb⟩ := hrel
              by_cases hlm : m < ws.length
              · have hnw : ws ≠ [] := by rintro rfl; simp at hlm
                obtain ⟨b3, o3, rfl, hSb3, hb3, hc3⟩ := F3.out.resolve_left hnw
                obtain ⟨x, hx⟩ := getx ws m hlm
                have cw := hkr.cell' (hc3 m x hx) (by simp)
                have hb3' : b3 < wr.heap.size := Nat.lt_of_lt_of_le hb3 hkr.size
                have HS := Lib.hid (outOf_snoc xf xu ws m x hx)
                clear hc3 hx hnw F3 hlk
                cases bb
                · go_wp2
                  go_round
                  case rel => exact ⟨m + 1, _, by omega, rfl, by go_num, by have h1 := hbb.out; rw [Hid, HS.out, ← Bool.and_assoc, ← h1]; rfl⟩
                  case measure => simp [intOf]; omega
                · by_cases h1 : x < xf
                  · go_wp2
                    go_round
                    case rel => exact ⟨m + 1, _, by omega, rfl, by go_num, by have h2 := hbb.out; rw [Hid, HS.out, ← Bool.and_assoc, ← h2]; simp [h1]⟩
                    case measure => simp [intOf]; omega
                  · have h1' : decide (x < xf) = false := by simpa using h1
                    by_cases h3 : xu ≤ x
                    · go_wp2
                      go_round
                      case rel => exact ⟨m + 1, _, by omega, rfl, by go_num, by have h2 := hbb.out; rw [Hid, HS.out, ← Bool.and_assoc, ← h2]; simp [h3]⟩
                      case measure => simp [intOf]; omega
                    · have h3' : decide (xu ≤ x) = false := by simpa using h3
                      go_wp2
                      go_round
                      case rel => exact ⟨m + 1, _, by omega, rfl, by go_num, by have h2 := hbb.out; rw [Hid, HS.out, ← Bool.and_assoc, ← h2]; simp [h1', h3']⟩
                      case measure => simp [intOf]; omega
              · have hfr : Hid (bb = freeB act ws ⟨xi, xm, k0, k1, k2, k3, xf, xu, d0, d1, d2, d3, xd, xl⟩) := by
                  have h1 := hbb.out
                  rw [show m = ws.length by omega, List.take_length] at h1
                  exact h1
                clear hbb hlk F3
                cases bb
                · go_wp2
                  go_roundw
                  case rel =>
                    refine ⟨j + 1, by omega, by go_num, hkr.alloc _, by simp; omega, hra.out.kept ((Kept.refl [] _).alloc _) (by simp), ?_⟩
                    have e1 : freed act ws (cs.take (j + 1)) = freed act ws (cs.take j) := by rw [List.take_add_one, HX.out, freed_append]; simp [freed, ← hfr.out]
                    rw [Hid, e1]
                    exact hrs.out.kept ((Kept.refl [] _).alloc _) (by simp)
                  case measure => simp [intOf]; omega
                · go_wp2_with (refine wpList_set_put rfl (.tmp 64) (.tmp 66) (.const (.bool true)) 85 (.inl rfl) 3 4 Try.underlying85 Try.underlying3 sb _ xi rfl rfl rfl (hrs.out.kept ((Kept.refl [] wr).alloc _) (by simp)) ?_; intro w3 hs3 hk3 hz3; have HS3 := Lib.hid hs3; have HZ3 := Lib.hid hz3; clear hs3 hz3)
                  go_roundw
                  case rel =>
                    refine ⟨j + 1, by omega, by go_num, (hkr.alloc _).trans' hk3 (by simp; omega), by have := HZ3.out; simp at this; omega, (hra.out.kept ((Kept.refl [] _).alloc _) (by simp)).kept hk3 (by simp; omega), ?_⟩
                    have e1 : freed act ws (cs.take (j + 1)) = freed act ws (cs.take j) ++ [xi] := by rw [List.take_add_one, HX.out, freed_append]; simp [freed, ← hfr.out]
                    rw [Hid, e1, foldl_snoc]
                    exact HS3.out
                  case measure => simp [intOf]; omega
        · have hfin := hrs.out
          rw [show j = cs.length by omega, List.take_length] at hfin
          have hlen : ((freed act ws cs).foldl put []).length ≤ 1000000 := by
            have h1 := puts_length (freed act ws cs) []
            have h2 := freed_length act ws cs
            simp at h1
            omega
          have HFIN := Lib.hid hfin
          have HLEN := Lib.hid hlen
          clear hrs hfin hlen
          go_wp2_with (go_at_call 41; refine (sorted_any sb _ _ HFIN.out HLEN.out).mono ?_; rintro e w2 ⟨v2, rfl, ho2, hk2⟩; have HO2 := Lib.hid ho2; clear ho2)
          go_ret
          refine ⟨v2, rfl, ?_, hkr.trans hk2⟩
          have e1 := sorted_set (freed act ws cs) [] [] ((freed act ws cs).foldl put []) (by simp) (by simp [Asc]) (by simp) (List.Perm.refl _)
          rw [← e1]
          exact HO2.out.mono (by have := hkr.size; omega)
end Go.Proofs.Ytkldomkooleecaa
