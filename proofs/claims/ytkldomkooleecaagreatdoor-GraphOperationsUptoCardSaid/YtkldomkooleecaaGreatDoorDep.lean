/- Dependencies as data. -/
import Derived.Test.YtkldomkooleecaaGreatDoorInts
namespace Go.Proofs.YtkldomkooleecaaGreatDoor
open Go.RowKit

/-- A dependency: the function's name, the type of arguments, the kind of the answer, the numbers of methods. -/
structure Dp where
  fn : ByteArray
  ty : Ty
  kind : Int
  ids : List Int
def vfst : Value → Value | .tuple xs => xs.getD 0 undef | v => v
def vsnd : Value → Value | .tuple xs => xs.getD 1 undef | v => v
theorem vfst_pair (a b : Value) : vfst (.tuple #[a, b]) = a := rfl
theorem vsnd_pair (a b : Value) : vsnd (.tuple #[a, b]) = b := rfl
def Dp.row (x : Dp) (e : Value) : List Value := [.string x.fn, .int .i64 x.ty.kind, .string x.ty.name, .int .i64 x.ty.index, vfst e, .int .i64 x.kind, vsnd e]
/-- What its two slices lead to. -/
def DR (d : Nat) (S : Nat → Prop) (w : World) (e : Value) (x : Dp) : Prop := ∃ a b, e = .tuple #[a, b] ∧ TR d S w a x.ty.args ∧ Reads S w b 1 (irows x.ids) ∧ x.ids.length ≤ 1000
theorem DR.good (d : Nat) : Good (fun S w e (x : Dp) => DR d S w e x) :=
  ⟨fun ⟨a, b, e, h1, h2, h3⟩ k hn => ⟨a, b, e, (TR.good d).kept h1 k hn, h2.kept k hn, h3⟩, fun ⟨a, b, e, h1, h2, h3⟩ hs => ⟨a, b, e, (TR.good d).mono h1 hs, h2.mono hs, h3⟩⟩
theorem DR.pair {d : Nat} {S : Nat → Prop} {w : World} {e : Value} {x : Dp} (h : DR d S w e x) : ∃ a1 c1 a2 c2, e = .tuple #[.slice a1 x.ty.args.length c1, .slice a2 x.ids.length c2] ∧ TR d S w (.slice a1 x.ty.args.length c1) x.ty.args ∧ Reads S w (.slice a2 x.ids.length c2) 1 (irows x.ids) ∧ x.ids.length ≤ 1000 := by
  obtain ⟨a, b, rfl, h1, h2, h3⟩ := h
  obtain ⟨a1, c1, rfl, _⟩ := h1.form
  obtain ⟨a2, c2, rfl, _⟩ := h2.ints
  exact ⟨a1, c1, a2, c2, rfl, h1, h2, h3⟩
/-- Slices of dependencies. -/
def DL (d : Nat) (S : Nat → Prop) (w : World) (v : Value) (l : List Dp) : Prop := Rd (fun S w e (x : Dp) => DR d S w e x) Dp.row 7 S w v l
theorem DL.good (d : Nat) : Good (fun S w v (l : List Dp) => DL d S w v l) := ⟨fun h k hn => Rd.kept (DR.good d) h k hn, fun h hs => Rd.mono (DR.good d) h hs⟩
theorem DL.nil (d : Nat) (S : Nat → Prop) (w : World) : DL d S w (.slice none 0 0) [] := Rd.nil
/-- What a walk needs of it. -/
theorem DL.form {d : Nat} {S : Nat → Prop} {w : World} {v : Value} {l : List Dp} (h : DL d S w v l) : ∃ a c, v = .slice a l.length c ∧ l.length ≤ c ∧ c ≤ 9223372036854775807 ∧
    (l = [] ∨ ∃ b off, a = some ⟨b, off, none⟩ ∧ S b ∧ b < w.heap.size ∧ ∀ (k : Nat) (x : Dp), l[k]? = some x → ∃ a1 c1 a2 c2, w.rangeAt b (off + k * 7) (x.row (.tuple #[.slice a1 x.ty.args.length c1, .slice a2 x.ids.length c2])) ∧ TR d S w (.slice a1 x.ty.args.length c1) x.ty.args ∧ Reads S w (.slice a2 x.ids.length c2) 1 (irows x.ids) ∧ x.ids.length ≤ 1000) := by
  obtain ⟨a, c, rfl, h3, h4, h5⟩ := Rd.form h
  refine ⟨a, c, rfl, h3, h4, ?_⟩
  rcases h5 with h5 | ⟨b', off, rfl, h6, h7, h8⟩
  · exact .inl h5
  · refine .inr ⟨b', off, rfl, h6, h7, fun k x hx => ?_⟩
    obtain ⟨e, hr, _, hc⟩ := h8 k x hx
    obtain ⟨a1, c1, a2, c2, rfl, q1, q2, q3⟩ := hc.pair
    exact ⟨a1, c1, a2, c2, hr, q1, q2, q3⟩
theorem getp {α : Type} (l : List α) (k : Nat) (h : k < l.length) : ∃ x, l[k]? = some x := ⟨l[k], by simp⟩

theorem info_dep : ∃ i z, Tryz.prog.info? 45 = some i ∧ i.zero = some z ∧ i.size = 7 ∧ i.bytes = 104 ∧ z.cells.size = 7 := by
  have h : (Tryz.prog.info? 45).map (fun i => (i.zero, i.size, i.bytes)) = some (some (.agg #[.string ⟨#[]⟩, .int .i64 0, .string ⟨#[]⟩, .int .i64 0, .slice none 0 0, .int .i64 0, .slice none 0 0]), 7, 104) := by kernel_rfl
  cases hi : Tryz.prog.info? 45 with
  | none => simp [hi] at h
  | some i => simp [hi] at h; exact ⟨i, _, rfl, h.1, h.2.1, h.2.2, rfl⟩
theorem info_dep2 : (Tryz.prog.info? 45).map (fun i => (i.zero, i.size)) = some (some (.agg #[.string ⟨#[]⟩, .int .i64 0, .string ⟨#[]⟩, .int .i64 0, .slice none 0 0, .int .i64 0, .slice none 0 0]), 7) := by kernel_rfl
end Go.Proofs.YtkldomkooleecaaGreatDoor
