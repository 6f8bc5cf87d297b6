/- The sanity check of tellaw31. -/
import Derived.Test.YtkldomkooleecaaDoorCacheD
import Derived.Test.YtkldomkooleecaaDoorCacheE
import Derived.Test.YtkldomkooleecaaDoorCacheF
import Derived.Test.YtkldomkooleecaaDoorInval
import Derived.Test.YtkldomkooleecaaDoorPlayP
namespace Go.Proofs.YtkldomkooleecaaDoor
open Go.RowKit Go.Maps Go.MapKept

theorem lookNone {F : Nat → Prop} (d : Nat) {S : Nat → Prop} (b base : Nat) (cap last : Int) (mp : Value) (l : List Cp) (m : Int) (gk : Int) (gn : ByteArray) (gi : Int) (ga : List Ty) (a0 : Option Addr) (c0 : Nat) (wd : Int) (w : World) (h : Cch F d w b base cap last mp l) (hg : TR d S w (.slice a0 ga.length c0) ga) (hno : ∀ x ∈ l, ¬ fits m (.mk gk gn gi ga) wd x) :
    Calls Tryd.prog 12 #[.pointer (some ⟨b, 0, none⟩), .int .i64 m, .agg #[.int .i64 gk, .string gn, .int .i64 gi, .slice a0 ga.length c0], .int .i64 wd] w fun e w' => e = .returned (.tuple #[.agg #[.int .i64 0, .int .i64 0, .int .i64 0, .string ⟨#[]⟩, .int .i64 0, .slice none 0 0, .int .i64 0, .int .i64 0, .int .i64 0, .int .i64 0, .slice none 0 0, .slice none 0 0, .slice none 0 0, .slice none 0 0], .bool false]) ∧ Kept [] w w' := by
  refine (cacheLookup d b base cap last mp l m gk gn gi ga a0 c0 wd w h hg).mono ?_
  rintro e w' ⟨hk, ⟨k, x, _, _, _, _, _, hf, _, _⟩ | ⟨rfl, _⟩⟩
  · exact absurd hf.2.1 (hno x (List.mem_of_getElem? hf.1))
  · exact ⟨rfl, hk⟩
theorem lookOne {F : Nat → Prop} (d : Nat) {S : Nat → Prop} (b base : Nat) (cap last : Int) (mp : Value) (x : Cp) (m : Int) (gk : Int) (gn : ByteArray) (gi : Int) (ga : List Ty) (a0 : Option Addr) (c0 : Nat) (wd : Int) (w : World) (h : Cch F d w b base cap last mp [x]) (hg : TR d S w (.slice a0 ga.length c0) ga) (hf : fits m (.mk gk gn gi ga) wd x) :
    Calls Tryd.prog 12 #[.pointer (some ⟨b, 0, none⟩), .int .i64 m, .agg #[.int .i64 gk, .string gn, .int .i64 gi, .slice a0 ga.length c0], .int .i64 wd] w fun e w' => Kept [] w w' ∧ ∃ a1 c1 a2 c2, e = .returned (.tuple #[.agg (x.row (.tuple #[.slice a1 x.ty.args.length c1, .slice a2 x.inl.length c2])).toArray, .bool true]) := by
  refine (cacheLookup d b base cap last mp [x] m gk gn gi ga a0 c0 wd w h hg).mono ?_
  rintro e w' ⟨hk, ⟨k, y, a1, c1, a2, c2, rfl, hf', _, _⟩ | ⟨rfl, hno⟩⟩
  · have hy : y = x := by simpa using List.mem_of_getElem? hf'.1
    subst hy
    exact ⟨hk, a1, c1, a2, c2, rfl⟩
  · exact absurd hf (hno 0 x (by simp) rfl)

def ty0 : Ty := .mk 3 ⟨#[]⟩ 0 []
def cp0 (u : Int) : Cp := ⟨1, 3, ty0, 2, u, []⟩
theorem finds0 (u : Int) : Finds [cp0 u] 1 0 (cp0 u) := ⟨rfl, rfl, fun j y hj => by omega⟩

theorem look0 (b base : Nat) (mp : Value) (w : World) (h : Cch (fun _ => True) 0 w b base 2 1 mp [cp0 0]) :
    Calls Tryd.prog 12 #[.pointer (some ⟨b, 0, none⟩), .int .i64 3, .agg #[.int .i64 3, .string ⟨#[]⟩, .int .i64 0, .slice none 0 0], .int .i64 2] w fun e w' => Kept [] w w' ∧ ∃ (ya : Option Addr) (yb : Nat) (yc : Option Addr) (yd : Nat), e = .returned (.tuple #[.agg #[.int .i64 1, .int .i64 3, .int .i64 3, .string ⟨#[]⟩, .int .i64 0, .slice ya 0 yb, .int .i64 2, .int .i64 0, .int .i64 0, .int .i64 0, .slice none 0 0, .slice none 0 0, .slice none 0 0, .slice yc 0 yd], .bool true]) := by
  refine (lookOne 0 (S := fun _ => False) b base 2 1 mp (cp0 0) 3 3 ⟨#[]⟩ 0 [] none 0 2 w h (TR.nil 0 _ _) ⟨rfl, by decide, .inl rfl, rfl⟩).mono ?_
  rintro e w' ⟨hk, a1, c1, a2, c2, rfl⟩
  exact ⟨hk, a1, c1, a2, c2, rfl⟩
theorem inval0 {w2 w5 w6 : World} {b base gb go n c : Nat} {mp : Value} {e : Ending} (h2 : w2.cell? ⟨b, 2, none⟩ = some (.slice (some ⟨gb, go, none⟩) n c)) (hk : Kept [] w2 w5)
    (h : (e = .returned (.int .i64 7) ∧ Lacks [cp0 0] 1 [cp0 0].length ∧ Kept [] w5 w6) ∨ (∃ k x, Finds [cp0 0] 1 k x ∧
      ((x.unt ≠ 0 ∧ e = .returned (.int .i64 6) ∧ Kept [] w5 w6) ∨ (x.unt = 0 ∧ 5 ≤ x.frm ∧ e = .returned (.int .i64 1) ∧ Kept [] w5 w6) ∨
       (x.unt = 0 ∧ x.frm < 5 ∧ e = .returned (.int .i64 0) ∧ Cch (fun _ => True) 0 w6 b base 2 1 mp (endAt [cp0 0] k x 5) ∧ ∃ g n c, w5.cell? ⟨b, 2, none⟩ = some (.slice (some ⟨g, 0, none⟩) n c) ∧ base ≤ g ∧ Kept [g] w5 w6)))) :
    e = .returned (.int .i64 0) ∧ Cch (fun _ => True) 0 w6 b base 2 1 mp [cp0 5] ∧ Kept [gb] w5 w6 ∧ base ≤ gb := by
  rcases h with ⟨_, hno, _⟩ | ⟨k, x, hf, hc⟩
  · exact absurd rfl (hno 0 (cp0 0) (by decide) rfl)
  · have hx : x = cp0 0 := by simpa using List.mem_of_getElem? hf.1
    have hk0 : k = 0 := by have := (List.getElem?_eq_some_iff.1 hf.1).1; simp at this; exact this
    subst hx hk0
    rcases hc with ⟨h, _⟩ | ⟨_, h, _⟩ | ⟨_, _, he, hc, g, n', c', hg, hb, hkk⟩
    · exact absurd rfl h
    · simp [cp0] at h
    · have := hk.cell' h2 (by simp)
      rw [hg] at this
      simp only [Option.some.injEq, Value.slice.injEq, Addr.mk.injEq, and_true] at this
      obtain ⟨⟨rfl, _⟩, _⟩ := this
      exact ⟨he, hc, hkk, hb⟩

theorem count1 {F : Nat → Prop} (b base tb mb : Nat) (cap last : Int) (l : List Cp) (w : World) (h : Cch F 0 w b base cap last (.map (some mb)) l) (hm : w.heap[mb]? = some (.map #[] 0)) (hmb : mb ≠ b) (hT : Tabs tb w) :
    Calls Tryd.prog 26 #[.pointer (some ⟨b, 0, none⟩), .int .i64 3, .agg #[.int .i64 3, .string ⟨#[]⟩, .int .i64 0, .slice none 0 0]] w fun e w' => e = .returned (.int .i64 1) ∧ (∃ es n, IsMap CallKey w' mb es n ∧ MapRel es [⟨3, 1, ty0⟩]) ∧ Kept [mb] w w' := by
  refine (cacheCount (S := fun _ => False) 0 b base tb cap last mb 0 l [] 3 3 ⟨#[]⟩ 0 [] none 0 w h (.empty hm) hmb hT (TR.nil 0 _ _) (by simp [tyOk, tysOk]) (by rw [tyW, tysW]; decide) (by simp)).mono ?_
  intro e w' hc
  obtain ⟨rfl, ⟨es, n, hm', hr'⟩, hk⟩ := MapRel.nil.counted (.empty hm) hc
  have hn : NoHit [] 3 ty0 ([] : List Cn).length := fun j y hj => by simp at hj
  obtain ⟨e1, e2⟩ := cnt_none hn
  have e2' : cntL [] 3 (.mk 3 ⟨#[]⟩ 0 []) = [⟨3, 1, ty0⟩] := e2
  rw [e2'] at hr'
  exact ⟨by rw [show cntI [] 3 (.mk 3 ⟨#[]⟩ 0 []) = 1 from e1], ⟨es, n, hm', hr'⟩, hk⟩
theorem count2 {F : Nat → Prop} (b base tb mb : Nat) (cap last : Int) (l : List Cp) (w : World) (h : Cch F 0 w b base cap last (.map (some mb)) l) (hm : ∃ es n, IsMap CallKey w mb es n ∧ MapRel es [⟨3, 1, ty0⟩]) (hmb : mb ≠ b) (hT : Tabs tb w) :
    Calls Tryd.prog 26 #[.pointer (some ⟨b, 0, none⟩), .int .i64 3, .agg #[.int .i64 3, .string ⟨#[]⟩, .int .i64 0, .slice none 0 0]] w fun e w' => e = .returned (.int .i64 2) ∧ Kept [mb] w w' := by
  obtain ⟨es, n, hm, hr⟩ := hm
  refine (cacheCount (S := fun _ => False) 0 b base tb cap last mb n l es 3 3 ⟨#[]⟩ 0 [] none 0 w h hm hmb hT (TR.nil 0 _ _) (by simp [tyOk, tysOk]) (by rw [tyW, tysW]; decide) (fun y hy => ?_)).mono ?_
  · obtain ⟨k, hk⟩ := List.mem_iff_getElem?.1 hy
    have hl := hr.1
    have hk0 : k = 0 := by have := (List.getElem?_eq_some_iff.1 hk).1; simp at hl; omega
    subst hk0
    exact ⟨1, (hr.2 0 y _ hk rfl).2, by decide, by decide⟩
  · intro e w' hc
    obtain ⟨rfl, _, hk⟩ := hr.counted hm hc
    obtain ⟨e1, _⟩ := cnt_hit (cs := [⟨3, 1, ty0⟩]) (m := 3) (t := ty0) (k := 0) (x := ⟨3, 1, ty0⟩) rfl ⟨rfl, rfl⟩ (fun j y hj => by omega)
    have e1' : cntI [⟨3, 1, ty0⟩] 3 (.mk 3 ⟨#[]⟩ 0 []) = 1 + 1 := e1
    exact ⟨by rw [e1']; rfl, hk⟩

set_option maxRecDepth 100000 in
set_option maxHeartbeats 12800000 in
theorem sane (tb : Nat) (w : World) (hT : Tabs tb w) : Calls Tryd.prog 15 #[] w fun e w' => e = .returned (.bool true) ∧ Kept [] w w' := by
  have HTB := Lib.hid hT
  clear hT
  go_enter Tryd.func15, Tryd.ntmps15
  go_wp2_with (first
    | (go_at_call 7; refine Calls.mono (cacheNew 2 _ (by decide) (by decide)) ?_; rintro e w1 ⟨rfl, hcb, hmap, hsz, hk1⟩; have hs1 : w.heap.size + 2 ≤ w1.heap.size := Nat.le_of_eq hsz.symm; have HCB := Lib.hid hcb; have HMAP := Lib.hid hmap; have HK := Lib.hid hk1; clear hcb hmap hsz hk1)
    | (go_at_call 9; refine Calls.mono (cacheAdd (F := fun _ => True) 0 (S := fun _ => False) (w.heap.size + 1) (w1.heap.size + 1) 2 0 (.map (some w.heap.size)) [] 0 3 3 ⟨#[]⟩ 0 2 0 [] [] none none 0 0 _ (by exact Cch.fresh (HCB.out.kept ((Kept.refl [] w1).alloc _) (by simp)) (by omega) (by simp) (fun _ _ => trivial)) (by decide) (by decide) (.inl rfl) (by decide) (by decide) (by decide) (by decide) (TR.nil 0 _ _) (Reads.nil _ _ _) (by decide) (fun h => h)) ?_; rintro e w2 ⟨rfl, hc2, M, hM, hk2⟩; have hC2 : Cch (fun _ => True) 0 w2 (w.heap.size + 1) (w1.heap.size + 1) 2 1 (.map (some w.heap.size)) [cp0 0] := hc2; have HC := Lib.hid hC2; have HX := Lib.hid ((Blk.new w1 [.int .i64 0, .int .i64 3, .int .i64 3, .string ⟨#[]⟩, .int .i64 0, .slice none 0 0, .int .i64 2, .int .i64 0, .int .i64 0, .int .i64 0, .slice none 0 0, .slice none 0 0, .slice none 0 0, .slice none 0 0] 43).kept hk2 (fun hm => by rcases hM _ hm with h | h <;> omega)); obtain ⟨_, _, x2, x3, x4, x5, _⟩ := HX.out.fourteen; have sx := HX.out.lt; have HMAP := Lib.hid (((Kept.refl [] w1).alloc (.cells (List.toArray [.int .i64 0, .int .i64 3, .int .i64 3, .string ⟨#[]⟩, .int .i64 0, .slice none 0 0, .int .i64 2, .int .i64 0, .int .i64 0, .int .i64 0, .slice none 0 0, .slice none 0 0, .slice none 0 0, .slice none 0 0]) 43)).get HMAP.out (by simp)); have HMAP := Lib.hid (hk2.get HMAP.out (fun hm => by rcases hM _ hm with h | h <;> omega)); have HK := Lib.hid ((HK.out.alloc (.cells (List.toArray [.int .i64 0, .int .i64 3, .int .i64 3, .string ⟨#[]⟩, .int .i64 0, .slice none 0 0, .int .i64 2, .int .i64 0, .int .i64 0, .int .i64 0, .slice none 0 0, .slice none 0 0, .slice none 0 0, .slice none 0 0]) 43)).trans' hk2 (fun y hy => .inr (by rcases hM y hy with h | h <;> omega))); obtain ⟨ga, gc, _, _, _, _, _, _, _, _, ge2, _, _, _, gor⟩ := hC2.form; obtain ⟨gb, go, rfl, _, ggl, _⟩ := gor.resolve_left (by simp); have HG2 := Lib.hid ge2; have HGL := Lib.hid ggl; have HK2 := Lib.hid (Kept.refl [] w2); clear hc2 hC2 hM hk2 gor ge2 ggl)
    | (go_at_call_of 12 (Value.int IntKind.i64 1); refine Calls.mono (lookNone 0 (S := fun _ => False) (w.heap.size + 1) (w1.heap.size + 1) 2 1 (.map (some w.heap.size)) [cp0 0] 3 3 ⟨#[]⟩ 0 [] none 0 1 _ (by exact HC.out) (TR.nil 0 _ _) (by intro x hx hf; simp at hx; subst hx; have := hf.2.1; simp [cp0] at this)) ?_; rintro e w3 ⟨rfl, hk⟩; have HC := Lib.hid (HC.out.kept hk (by simp)); have HX := Lib.hid (HX.out.kept hk (by simp)); obtain ⟨_, _, x2, x3, x4, x5, _⟩ := HX.out.fourteen; have sx := HX.out.lt; have HMAP := Lib.hid (hk.get HMAP.out (by simp)); have HK := Lib.hid (HK.out.trans hk);  have HK2 := Lib.hid (HK2.out.trans hk); clear hk)
    | (go_at_call_of 12 (Value.int IntKind.i64 2); refine Calls.mono (look0 (w.heap.size + 1) (w1.heap.size + 1) (.map (some w.heap.size)) _ (by exact HC.out.kept ((Kept.refl [] w3).alloc _) (by simp))) ?_; rintro e w4 ⟨hk, ya, yb, yc, yd, rfl⟩; have hk := ((Kept.refl [] w3).alloc (.cells #[.int .i64 0, .int .i64 0, .int .i64 0, .string ⟨#[]⟩, .int .i64 0, .slice none 0 0, .int .i64 0, .int .i64 0, .int .i64 0, .int .i64 0, .slice none 0 0, .slice none 0 0, .slice none 0 0, .slice none 0 0] 43)).trans hk; have HC := Lib.hid (HC.out.kept hk (by simp)); have HX := Lib.hid (HX.out.kept hk (by simp)); obtain ⟨_, _, x2, x3, x4, x5, _⟩ := HX.out.fourteen; have sx := HX.out.lt; have HMAP := Lib.hid (hk.get HMAP.out (by simp)); have HK := Lib.hid (HK.out.trans hk);  have HK2 := Lib.hid (HK2.out.trans hk); have HYL := Lib.hid HK2.out.size; have HY0 := Lib.hid (Blk.new w4 [.int .i64 1, .int .i64 3, .int .i64 3, .string ⟨#[]⟩, .int .i64 0, .slice ya 0 yb, .int .i64 2, .int .i64 0, .int .i64 0, .int .i64 0, .slice none 0 0, .slice none 0 0, .slice none 0 0, .slice yc 0 yd] 43); clear hk)
    | (go_at_call 11; refine Calls.mono (cacheRemove 0 (w.heap.size + 1) (w1.heap.size + 1) 2 1 (.map (some w.heap.size)) [cp0 5] 1 0 (cp0 5) _ (by exact HC8.out) (finds0 5) (by simp [cp0]) (by decide)) ?_; rintro e w9 ⟨rfl, hc9, hk, -⟩; have HC9 : Hid (Cch (fun _ => True) 0 w9 (w.heap.size + 1) (w1.heap.size + 1) 2 1 (.map (some w.heap.size)) []) := Lib.hid hc9; have HX := Lib.hid (HX.out.kept hk (by simp; omega)); obtain ⟨_, _, x2, x3, x4, x5, _⟩ := HX.out.fourteen; have sx := HX.out.lt; have HMAP := Lib.hid (hk.get HMAP.out (by simp)); have HK := Lib.hid (HK.out.trans' hk (by simp)); clear hc9 hk)
    | (go_at_call 11; refine Calls.mono (cacheRemoveBad 0 (w.heap.size + 1) (w1.heap.size + 1) 2 1 (.map (some w.heap.size)) [cp0 0] 1 _ (by exact HC.out.kept ((Kept.refl [] w4).alloc _) (by simp)) (by decide) (by intro k x hf; have := List.mem_of_getElem? hf.1; simp at this; subst this; rfl)) ?_; rintro e w5 ⟨hcase, hk⟩; have he : e = .returned (.int .i64 10) := (by rcases hcase with ⟨_, h⟩ | ⟨h, _⟩; exact absurd rfl (h 0 (cp0 0) (by decide) rfl); exact h); subst he; have HY := Lib.hid (HY0.out.kept hk (by simp)); have hk := ((Kept.refl [] w4).alloc (.cells #[.int .i64 1, .int .i64 3, .int .i64 3, .string ⟨#[]⟩, .int .i64 0, .slice ya 0 yb, .int .i64 2, .int .i64 0, .int .i64 0, .int .i64 0, .slice none 0 0, .slice none 0 0, .slice none 0 0, .slice yc 0 yd] 43)).trans hk; have HC := Lib.hid (HC.out.kept hk (by simp)); have HX := Lib.hid (HX.out.kept hk (by simp)); obtain ⟨_, _, x2, x3, x4, x5, _⟩ := HX.out.fourteen; have sx := HX.out.lt; have HMAP := Lib.hid (hk.get HMAP.out (by simp)); have HK := Lib.hid (HK.out.trans hk);  have HK2 := Lib.hid (HK2.out.trans hk); clear hk)
    | (go_at_call 10; refine Calls.mono (cacheInvalidate 0 (w.heap.size + 1) (w1.heap.size + 1) 2 1 (.map (some w.heap.size)) [cp0 0] 1 5 _ (by exact HC.out) (by decide)) ?_; rintro e w6 hcase; have hcc : e = .returned (.int .i64 0) ∧ Cch (fun _ => True) 0 w6 (w.heap.size + 1) (w1.heap.size + 1) 2 1 (.map (some w.heap.size)) [cp0 5] ∧ Kept [gb] w5 w6 ∧ (w1.heap.size + 1) ≤ gb := inval0 HG2.out HK2.out hcase; obtain ⟨rfl, hc6, hk, hgb⟩ := hcc; have HGB := Lib.hid hgb; have HC := Lib.hid hc6; have HX := Lib.hid (HX.out.kept hk (by simp; have := HGB.out; omega)); obtain ⟨_, _, x2, x3, x4, x5, _⟩ := HX.out.fourteen; have sx := HX.out.lt; have HMAP := Lib.hid (hk.get HMAP.out (by simp; have := HGB.out; omega)); have HY := Lib.hid (HY.out.kept hk (by simp; have h1 := HGL.out; have h2 := HYL.out; omega)); have HK := Lib.hid (HK.out.trans' hk (by simp; have := HGB.out; omega)); clear hc6 hk hcase)
    | (go_at_call_of 12 (Value.int IntKind.i64 5); refine Calls.mono (lookNone 0 (S := fun _ => False) (w.heap.size + 1) (w1.heap.size + 1) 2 1 (.map (some w.heap.size)) [cp0 5] 3 3 ⟨#[]⟩ 0 [] none 0 5 _ (by exact HC.out) (TR.nil 0 _ _) (by intro x hx hf; simp at hx; subst hx; have := hf.2.2.1; simp [cp0] at this)) ?_; rintro e w7 ⟨rfl, hk⟩; have HC := Lib.hid (HC.out.kept hk (by simp)); have HX := Lib.hid (HX.out.kept hk (by simp)); obtain ⟨_, _, x2, x3, x4, x5, _⟩ := HX.out.fourteen; have sx := HX.out.lt; have HMAP := Lib.hid (hk.get HMAP.out (by simp)); have HK := Lib.hid (HK.out.trans hk);  have HY := Lib.hid (HY.out.kept hk (by simp)); have y0 := HY.out.cell 0 (.int .i64 1) rfl; have sy := HY.out.lt; clear hk)
    | (go_at_call 17; refine Calls.mono (cacheAvailable 0 (w.heap.size + 1) (w1.heap.size + 1) 2 1 (.map (some w.heap.size)) [cp0 5] _ (by exact HC.out.kept ((Kept.refl [] w7).alloc _) (by simp)) (by decide) (by decide) (by decide)) ?_; rintro e w8 ⟨rfl, hk⟩; have hk := ((Kept.refl [] w7).alloc (.cells #[.int .i64 0, .int .i64 0, .int .i64 0, .string ⟨#[]⟩, .int .i64 0, .slice none 0 0, .int .i64 0, .int .i64 0, .int .i64 0, .int .i64 0, .slice none 0 0, .slice none 0 0, .slice none 0 0, .slice none 0 0] 43)).trans hk; have HC8 := Lib.hid (HC.out.kept hk (by simp)); have HX := Lib.hid (HX.out.kept hk (by simp)); obtain ⟨_, _, x2, x3, x4, x5, _⟩ := HX.out.fourteen; have sx := HX.out.lt; have HMAP := Lib.hid (hk.get HMAP.out (by simp)); have HK := Lib.hid (HK.out.trans hk); clear hk)
    | (go_at_call 13; refine Calls.mono (cacheAll 0 (w.heap.size + 1) (w1.heap.size + 1) 2 1 (.map (some w.heap.size)) [] _ (by exact HC9.out) (by decide)) ?_; rintro e w10 ⟨va, rfl, hgr, hk⟩; obtain ⟨za, zc, rfl, _⟩ := hgr.shape; have HC10 := Lib.hid (HC9.out.kept hk (by simp)); have HX := Lib.hid (HX.out.kept hk (by simp)); obtain ⟨_, _, x2, x3, x4, x5, _⟩ := HX.out.fourteen; have sx := HX.out.lt; have HMAP := Lib.hid (hk.get HMAP.out (by simp)); have HK := Lib.hid (HK.out.trans hk); clear hgr hk)
    | (go_at_call 26; refine Calls.mono (count2 (F := fun _ => True) (w.heap.size + 1) (w1.heap.size + 1) tb w.heap.size 2 1 [] _ (by exact HC11.out) (by exact HM11.out) (by omega) (by exact HTB.out.kept0 HK.out)) ?_; rintro e w12 ⟨rfl, hk⟩; have HK := Lib.hid (HK.out.trans' hk (by simp)); clear hk)
    | (go_at_call 26; refine Calls.mono (count1 (F := fun _ => True) (w.heap.size + 1) (w1.heap.size + 1) tb w.heap.size 2 1 [] _ (by exact HC10.out) (by exact HMAP.out) (by omega) (by exact HTB.out.kept0 HK.out)) ?_; rintro e w11 ⟨rfl, hm, hk⟩; have HM11 := Lib.hid hm; have HC11 := Lib.hid (HC10.out.kept hk (by simp; omega)); have HX := Lib.hid (HX.out.kept hk (by simp; omega)); obtain ⟨_, _, x2, x3, x4, x5, _⟩ := HX.out.fourteen; have sx := HX.out.lt; have HK := Lib.hid (HK.out.trans' hk (by simp)); clear hm hk))
  go_ret
  exact ⟨rfl, HK.out⟩
end Go.Proofs.YtkldomkooleecaaDoor
