/- Generated operations on a cache. -/
import Derived.Test.YtkldomkooleecaaDoorRefCmp
namespace Go.Proofs.YtkldomkooleecaaDoor
open Go.RowKit

set_option maxRecDepth 100000 in
theorem namedT (s : ByteArray) (w : World) : Calls Tryd.prog 21 #[.string s, .slice none 0 0] w fun e w' => e = .returned (.agg #[.int .i64 2, .string s, .int .i64 0, .slice none 0 0]) ∧ Kept [] w w' := by
  go_enter Tryd.func21, Tryd.ntmps21
  go_wp2
  refine bodyPost_ret (results_blk rfl _ _ w.heap.size 31 [.int .i64 2, .string s, .int .i64 0, .slice none 0 0] _ rfl (Blk.new _ _ _) Tryd.underlying31 rfl (by kernel_rfl)) rfl ?_
  exact ⟨rfl, (Kept.refl _ _).alloc _⟩

/-- An operation of the law: op, number, method, from, until, world, type. -/
structure Op31 where
  op : Int
  id : Int
  method : Int
  frm : Int
  unt : Int
  world : Int
  ty : Ty
def Op31.row (x : Op31) (e : Value) : List Value := [.int .i64 x.op, .int .i64 x.id, .int .i64 x.method, .int .i64 x.frm, .int .i64 x.unt, .int .i64 x.world, .int .i64 x.ty.kind, .string x.ty.name, .int .i64 x.ty.index, e]
def tyOf (l : List Ty) : Ty := .mk 3 ⟨#[]⟩ 0 l
def named (s : ByteArray) : Ty := .mk 2 s 0 []
def sInt : ByteArray := ⟨#[73, 110, 116]⟩
def sBool : ByteArray := ⟨#[66, 111, 111, 108]⟩
/-- The three types of arguments. -/
def tys : List Ty := [tyOf [], tyOf [named sInt], tyOf [named sBool]]
def GenO (l : List Op31) : Prop := ∀ x ∈ l, 0 ≤ x.op ∧ x.op ≤ 5 ∧ 1 ≤ x.id ∧ x.id ≤ 8 ∧ 1 ≤ x.method ∧ x.method ≤ 3 ∧ 1 ≤ x.frm ∧ x.frm ≤ 6 ∧ 1 ≤ x.world ∧ x.world ≤ 9 ∧ (x.unt = 0 ∨ (x.frm ≤ x.unt ∧ x.unt ≤ x.frm + 4)) ∧ x.ty ∈ tys
theorem info_act : ∃ i z, Tryd.prog.info? 33 = some i ∧ i.zero = some z ∧ i.size = 10 ∧ i.bytes = 104 ∧ z.cells.size = 10 := by
  have h : (Tryd.prog.info? 33).map (fun i => (i.zero, i.size, i.bytes)) = some (some (.agg #[.int .i64 0, .int .i64 0, .int .i64 0, .int .i64 0, .int .i64 0, .int .i64 0, .int .i64 0, .string ⟨#[]⟩, .int .i64 0, .slice none 0 0]), 10, 104) := by kernel_rfl
  cases hi : Tryd.prog.info? 33 with
  | none => simp [hi] at h
  | some i => simp [hi] at h; exact ⟨i, _, rfl, h.1, h.2.1, h.2.2, rfl⟩
theorem GenO.snoc {l : List Op31} (h : GenO l) {x : Op31} (hx : GenO [x]) : GenO (l ++ [x]) := by
  intro y hy
  rcases List.mem_append.1 hy with hy | hy
  · exact h y hy
  · exact hx y hy
theorem tys_get {k : Nat} (hk : k < 3) : ∃ t, tys[k]? = some t ∧ t ∈ tys := ⟨tys[k]'(by simpa [tys] using hk), by simp, List.getElem_mem _⟩
end Go.Proofs.YtkldomkooleecaaDoor
