/- What ReclaimSafe asks of the cache, as contracts. -/
import Derived.Test.YtkldomkooleecaaSafe
import Derived.Test.YtkldomkooleecaaCacheD
import Derived.Test.YtkldomkooleecaaCacheE
import Derived.Test.YtkldomkooleecaaCacheF
import Derived.Test.YtkldomkooleecaaSane
namespace Go.Proofs.Ytkldomkooleecaa
open Go.RowKit

/-- The code with number n is dead, and these are its worlds. -/
structure IsDead (act ws : List Int) (l : List Cp) (n f u : Int) : Prop where
  pos : 1 ≤ n
  ends : u ≠ 0
  idle : n ∉ act
  out : ∀ v ∈ ws, v < f ∨ u ≤ v
  same : ∀ y ∈ l, y.id = n → y.frm = f ∧ y.unt = u

theorem finds_mem {l : List Cp} {i : Int} {k : Nat} {x : Cp} (h : Finds l i k x) : x ∈ l := List.mem_of_getElem? h.1
theorem lacks_not {l : List Cp} {i : Int} (h : Lacks l i l.length) {x : Cp} (hx : x ∈ l) : x.id ≠ i := by
  obtain ⟨j, hj⟩ := List.mem_iff_getElem?.1 hx
  exact h j x (List.getElem?_eq_some_iff.1 hj).1 hj

theorem finds_of : ∀ (l : List Cp) (n : Int) (x : Cp), x ∈ l → x.id = n → ∃ (k : Nat) (y : Cp), Finds l n k y
  | z :: l, n, x, hx, hid => by
    by_cases hz : z.id = n
    · exact ⟨0, z, rfl, hz, fun j y hj => by omega⟩
    · have hx' : x ∈ l := by
        rcases List.mem_cons.1 hx with rfl | h
        · exact absurd hid hz
        · exact h
      obtain ⟨k, y, h1, h2, h3⟩ := finds_of l n x hx' hid
      refine ⟨k + 1, y, h1, h2, fun j q hj hq => ?_⟩
      cases j with
      | zero => simp at hq; subst hq; exact hz
      | succ j => exact h3 j q (by omega) (by simpa using hq)

theorem safeGet (d : Nat) {act ws D : List Int} {l0 : List Cp} (b base : Nat) (cap last : Int) (mp : Value) (l : List Cp) (i : Nat) (n : Int) (w : World) (h : Cch d w b base cap last mp l) (hL : Left l0 D i l) (hG : GenP l0) (hD : Dead act ws l0 D) (hn : D[i]? = some n) :
    Calls Try.prog 37 #[.pointer (some ⟨b, 0, none⟩), .int .i64 n] w fun e w' => Kept [] w w' ∧ ∃ (m f u : Int) (a1 : Option Addr) (c1 : Nat) (a2 : Option Addr) (c2 : Nat),
      e = .returned (.tuple #[.agg #[.int .i64 n, .int .i64 m, .int .i64 3, .string ⟨#[]⟩, .int .i64 0, .slice a1 0 c1, .int .i64 f, .int .i64 u, .int .i64 0, .int .i64 0, .slice none 0 0, .slice none 0 0, .slice none 0 0, .slice a2 0 c2], .bool true]) ∧ TR d (w.heap.size ≤ ·) w' (.slice a1 0 c1) [] ∧ IsDead act ws l n f u ∧ ∃ z ∈ l0, z.unt = u := by
  refine (cacheGet d b base cap last mp l n w h).mono ?_
  rintro e w' ⟨hk, ⟨k, x, a1, c1, a2, c2, rfl, hf, ht, _⟩ | ⟨rfl, hno⟩⟩
  · have hx := finds_mem hf
    obtain ⟨h1, h2, h3, h4⟩ := hL.dead hG hD hn hx hf.2.1
    obtain ⟨j, hj⟩ := List.mem_iff_getElem?.1 (hL.sub x hx)
    obtain ⟨m, f, u, rfl, _⟩ := hG j x hj
    have hid := hf.2.1
    refine ⟨hk, m, f, u, a1, c1, a2, c2, ?_, ht, ?_⟩
    · rw [← hid]; rfl
    · rw [← hid]
      refine ⟨⟨h1, h2, h3, h4, fun y hy e => ?_⟩, _, hL.sub _ hx, rfl⟩
      rw [hG.inj (hL.sub y hy) (hL.sub _ hx) e]
      exact ⟨rfl, rfl⟩
  · obtain ⟨x, hx, hid⟩ := hL.has hD hn
    exact absurd hid (lacks_not hno hx)

/-- A code that was looked up is not the one with number n. -/
inductive Looked (n : Int) (w w' : World) : Ending → Prop
  | mk (yi ym yk : Int) (yn : ByteArray) (yx : Int) (p1 : Option Addr) (m1 k1 : Nat) (yf yu : Int) (p2 : Option Addr) (m2 k2 : Nat) (fl : Bool) (hk : Kept [] w w') (hf : fl = false ∨ (fl = true ∧ (yi == n) = false)) : Looked n w w' (.returned (.tuple #[.agg #[.int .i64 yi, .int .i64 ym, .int .i64 yk, .string yn, .int .i64 yx, .slice p1 m1 k1, .int .i64 yf, .int .i64 yu, .int .i64 0, .int .i64 0, .slice none 0 0, .slice none 0 0, .slice none 0 0, .slice p2 m2 k2], .bool fl]))
/-- The variable that holds it. -/
def YB (w : World) (b : Nat) : Prop := ∃ (yi ym yk : Int) (yn : ByteArray) (yx : Int) (p1 : Option Addr) (m1 k1 : Nat) (yf yu : Int) (p2 : Option Addr) (m2 k2 : Nat), Blk w b [.int .i64 yi, .int .i64 ym, .int .i64 yk, .string yn, .int .i64 yx, .slice p1 m1 k1, .int .i64 yf, .int .i64 yu, .int .i64 0, .int .i64 0, .slice none 0 0, .slice none 0 0, .slice none 0 0, .slice p2 m2 k2] 65

theorem YB.kept {w w' : World} {b : Nat} {M : List Nat} (h : YB w b) (k : Kept M w w') (hn : b ∉ M) : YB w' b := by
  obtain ⟨_, _, _, _, _, _, _, _, _, _, _, _, _, h⟩ := h
  exact ⟨_, _, _, _, _, _, _, _, _, _, _, _, _, h.kept k hn⟩
theorem YB.lt {w : World} {b : Nat} (h : YB w b) : b < w.heap.size := by
  obtain ⟨_, _, _, _, _, _, _, _, _, _, _, _, _, h⟩ := h
  exact h.lt

theorem YB.elim {w : World} {b : Nat} {C : Prop} (h : YB w b) (k : ∀ (c0 c1 c2 c3 c4 c5 c6 c7 c8 c9 c10 c11 c12 c13 : Value), w.cell? ⟨b, 0, none⟩ = some c0 → w.cell? ⟨b, 1, none⟩ = some c1 → w.cell? ⟨b, 2, none⟩ = some c2 → w.cell? ⟨b, 3, none⟩ = some c3 → w.cell? ⟨b, 4, none⟩ = some c4 → w.cell? ⟨b, 5, none⟩ = some c5 → w.cell? ⟨b, 6, none⟩ = some c6 → w.cell? ⟨b, 7, none⟩ = some c7 → w.cell? ⟨b, 8, none⟩ = some c8 → w.cell? ⟨b, 9, none⟩ = some c9 → w.cell? ⟨b, 10, none⟩ = some c10 → w.cell? ⟨b, 11, none⟩ = some c11 → w.cell? ⟨b, 12, none⟩ = some c12 → w.cell? ⟨b, 13, none⟩ = some c13 → w.frozen? ⟨b, 0, none⟩ = false → w.frozen? ⟨b, 1, none⟩ = false → w.frozen? ⟨b, 2, none⟩ = false → w.frozen? ⟨b, 3, none⟩ = false → w.frozen? ⟨b, 4, none⟩ = false → w.frozen? ⟨b, 5, none⟩ = false → w.frozen? ⟨b, 6, none⟩ = false → w.frozen? ⟨b, 7, none⟩ = false → w.frozen? ⟨b, 8, none⟩ = false → w.frozen? ⟨b, 9, none⟩ = false → w.frozen? ⟨b, 10, none⟩ = false → w.frozen? ⟨b, 11, none⟩ = false → w.frozen? ⟨b, 12, none⟩ = false → w.frozen? ⟨b, 13, none⟩ = false → Blk w b [c0, c1, c2, c3, c4, c5, c6, c7, c8, c9, c10, c11, c12, c13] 65 → C) : C := by
  obtain ⟨_, _, _, _, _, _, _, _, _, _, _, _, _, h⟩ := h
  obtain ⟨z0, z1, z2, z3, z4, z5, z6, z7, z8, z9, z10, z11, z12, z13⟩ := h.fourteen
  obtain ⟨f0, f1, f2, f3, f4, f5, f6, f7, f8, f9, f10, f11, f12, f13⟩ := h.free14
  exact k _ _ _ _ _ _ _ _ _ _ _ _ _ _ z0 z1 z2 z3 z4 z5 z6 z7 z8 z9 z10 z11 z12 z13 f0 f1 f2 f3 f4 f5 f6 f7 f8 f9 f10 f11 f12 f13 h

theorem safeLookup (d : Nat) {S : Nat → Prop} {act ws : List Int} (b base : Nat) (cap last : Int) (mp : Value) (l : List Cp) (n f u m wd : Int) (a1 : Option Addr) (c1 : Nat) (w : World) (h : Cch d w b base cap last mp l) (hd : IsDead act ws l n f u) (hw : wd < f ∨ u ≤ wd) (ht : TR d S w (.slice a1 0 c1) []) :
    Calls Try.prog 38 #[.pointer (some ⟨b, 0, none⟩), .int .i64 m, .agg #[.int .i64 3, .string ⟨#[]⟩, .int .i64 0, .slice a1 0 c1], .int .i64 wd] w (fun e w' => Looked n w w' e) := by
  refine (cacheLookup d b base cap last mp l m 3 ⟨#[]⟩ 0 [] a1 c1 wd w h ht).mono ?_
  rintro e w' ⟨hk, ⟨k, x, q1, p1, q2, p2, rfl, hf, _, _⟩ | ⟨rfl, hno⟩⟩
  · obtain ⟨hx, ⟨_, h2, h3, _⟩, _⟩ := hf
    refine Looked.mk x.id x.method x.ty.kind x.ty.name x.ty.index q1 x.ty.args.length p1 x.frm x.unt q2 x.inl.length p2 true hk (.inr ⟨rfl, ?_⟩)
    rw [beq_eq_false_iff_ne]
    intro e
    obtain ⟨e1, e2⟩ := hd.same x (List.mem_of_getElem? hx) e
    have := hd.ends
    omega
  · exact Looked.mk 0 0 0 ⟨#[]⟩ 0 none 0 0 0 0 none 0 0 false hk (.inl rfl)

theorem safeRemove (d : Nat) {act ws D : List Int} {l0 : List Cp} (b base : Nat) (cap last : Int) (mp : Value) (l : List Cp) (i : Nat) (n : Int) (w : World) (h : Cch d w b base cap last mp l) (hL : Left l0 D i l) (hG : GenP l0) (hD : Dead act ws l0 D) (hn : D[i]? = some n) (hl : l.length ≤ 100000) :
    Calls Try.prog 39 #[.pointer (some ⟨b, 0, none⟩), .int .i64 n] w fun e w' => e = .returned (.int .i64 0) ∧ ∃ l', Left l0 D (i + 1) l' ∧ l'.length ≤ l.length ∧ Cch d w' b base cap last mp l' ∧ Kept [b] w w' := by
  obtain ⟨x, hx, hid⟩ := hL.has hD hn
  obtain ⟨k, y, hf⟩ := finds_of l n x hx hid
  obtain ⟨_, hu, _, _⟩ := hL.dead hG hD hn (finds_mem hf) hf.2.1
  refine (cacheRemove d b base cap last mp l n k y w h hf hu hl).mono ?_
  rintro e w' ⟨rfl, hc, hk⟩
  exact ⟨rfl, _, hL.next hn hf.1 hf.2.1, by simp; omega, hc, hk⟩
end Go.Proofs.Ytkldomkooleecaa
