/- Blocks of cells: what walks need of them. -/
import Derived.Test.YtkldomkooleecaaGreatDoorBase
import Derived.Test.YtkldomkooleecaaGreatDoorDeep
import Derived.Laws.ResultCell
namespace Go.Proofs.YtkldomkooleecaaGreatDoor
open Go.RowKit

/-- A result that is a struct's variable. -/
theorem results_blk {P : Program} {fn : Func} {p : Tmp} {ty : TypeId} (h : fn.results = #[.cell p ty]) (tmps : Array Value) (w : World) (g : Nat) (t : TypeId) (cs : List Value) (d : TypeDesc)
    (hp : tmps.getD p undef = .pointer (some ⟨g, 0, none⟩)) (hb : Blk w g cs t) (hu : P.underlying ty = some d) (hd : (match d with | .struct _ | .array _ _ => true | _ => false) = true) (hi : (P.info? ty).map (·.size) = some cs.length) :
    (results fn tmps).run P w = .ok (.agg cs.toArray) w := results_cell_row h tmps w g t cs.toArray (0, 0) d hp hb hu hd (by simpa using hi)
theorem Blk.far {w : World} {b : Nat} {cs : List Value} {t : TypeId} {p : Addr} (h : Blk w b cs t) (hp : p.block ≠ b) (v : Value) : Blk (w.setCell p v) b cs t := h.kept (M := [p.block]) ((Kept.refl [p.block] w).setCell (by simp) v) (by simpa using Ne.symm hp)
theorem Blk.four {w : World} {b : Nat} {t : TypeId} {x0 x1 x2 x3 : Value} (h : Blk w b [x0, x1, x2, x3] t) : (w.cell? ⟨b, 0, none⟩ = some x0 ∧ w.cell? ⟨b, 1, none⟩ = some x1 ∧ w.cell? ⟨b, 2, none⟩ = some x2 ∧ w.cell? ⟨b, 3, none⟩ = some x3) ∧ w.frozen? ⟨b, 0, none⟩ = false ∧ w.frozen? ⟨b, 1, none⟩ = false ∧ w.frozen? ⟨b, 2, none⟩ = false ∧ w.frozen? ⟨b, 3, none⟩ = false :=
  ⟨⟨h.cell 0 _ rfl, h.cell 1 _ rfl, h.cell 2 _ rfl, h.cell 3 _ rfl⟩, h.frozen 0, h.frozen 1, h.frozen 2, h.frozen 3⟩
theorem Blk.old (w : World) (cs : List Value) (t : TypeId) (o : Obj) : Blk ((w.alloc (.cells cs.toArray t)).alloc o) w.heap.size cs t := (Blk.new w cs t).kept ((Kept.refl [] _).alloc _) (by simp)

end Go.Proofs.YtkldomkooleecaaGreatDoor
