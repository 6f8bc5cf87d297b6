/- The map of counters: keys, and what 'm[k]++' does. -/
import Derived.Test.YtkldomkooleecaaDoorGMap
import Derived.Test.YtkldomkooleecaaDoorBase
namespace Go.Proofs.YtkldomkooleecaaDoor
open Go.RowKit Go.Maps Go.MapKept

section
variable {P : Program} {K : TypeId} {ok : Value → Prop} {w w' : World} {b n : Nat} {es : List MapEntry} {t E : TypeId}
theorem IsMap.entry_new (law : KeyTy P K ok) (ht : P.underlying t = some (.map K E)) {z : Value} (hz : ∀ w : World, (zeroValue E).run P w = .ok z w) (h : IsMap ok w b es n) {x : Value} (hx : ok x) (hno : ∀ e ∈ es, e.key ≠ x) :
    (Instr.mapEntry t (.map (some b)) x).run P w = .ok (.tuple #[z, goInt n]) (setO w b (.map (es ++ [({ key := x, val := z, born := n } : MapEntry)]).toArray (n + 1))) := by
  unfold Instr.mapEntry
  rw [Sem.run_bind, run_underlying ht]
  simp [MapKept.run_getObj_map h.obj, law.check w _ hx, h.lacks law hx hno, hz, MapKept.run_setObj_map _ h.obj, setO]
theorem IsMap.entry_old (law : KeyTy P K ok) (ht : P.underlying t = some (.map K E)) (h : IsMap ok w b es n) {i : Nat} {e : MapEntry} (hi : es[i]? = some e) :
    (Instr.mapEntry t (.map (some b)) e.key).run P w = .ok (.tuple #[e.val, goInt e.born]) (setO w b (.map es.toArray n)) := by
  have hl := h.keys e (List.mem_of_getElem? hi)
  unfold Instr.mapEntry
  rw [Sem.run_bind, run_underlying ht]
  have hs := law.stays w hl
  have hm : es.modify i (fun e' => { e' with key := e.key }) = es := by
    apply List.ext_getElem?
    intro j
    rw [List.getElem?_modify]
    split
    · rename_i hj
      subst hj
      rw [hi]
      rfl
    · cases es[j]? <;> rfl
  simp [MapKept.run_getObj_map h.obj, law.check w _ hl, h.found law hi, hi, hs, hm, MapKept.run_setObj_map _ h.obj, setO]
theorem IsMap.entry_store (h : IsMap ok w b es n) {i : Nat} {e : MapEntry} (hi : es[i]? = some e) (v : Value) :
    (Instr.entryStore t (.map (some b)) (goInt e.born) v).run P w = .ok () (setO w b (.map (es.set i { e with val := v }).toArray n)) := by
  have hf : es.findIdx? (fun e' => ((e'.born : Int) == (e.born : Int))) = some i := by
    rw [List.findIdx?_eq_some_iff_getElem]
    obtain ⟨hlt, hge⟩ := List.getElem?_eq_some_iff.1 hi
    refine ⟨hlt, by simp [hge], fun j hj hb => ?_⟩
    have hb0 : ((es[j]'(by omega)).born : Int) = (e.born : Int) := by simpa using hb
    have hb' : (es[j]'(by omega)).born = e.born := by omega
    have := nodup_get h.born (i := j) (j := i) (x := e.born) (by simp [hb', List.getElem?_eq_getElem (show j < es.length by omega)]) (by simp [hi])
    omega
  have hm : es.modify i (fun e' => { e' with val := v }) = es.set i { e with val := v } := by
    apply List.ext_getElem?
    intro j
    rw [List.getElem?_modify, List.getElem?_set]
    split
    · rename_i hj
      subst hj
      rw [if_pos (List.getElem?_eq_some_iff.1 hi).1, hi]
      rfl
    · cases es[j]? <;> rfl
  unfold Instr.entryStore
  simp [MapKept.run_getObj_map h.obj, goInt, asInt, asIntOf, hf, hm, MapKept.run_setObj_map _ h.obj, setO]
theorem IsMap.same (h : IsMap ok w b es n) : IsMap ok (setO w b (.map es.toArray n)) b es n := ⟨setO_get h.obj, h.keys, h.nodup, h.born, h.below⟩
end

def callK (m : Int) (s : ByteArray) : Value := .agg #[.int .i64 m, .string s]
def CallKey (v : Value) : Prop := ∃ (m : Int) (s : ByteArray), v = callK m s
theorem callK_inj {m m' : Int} {s s' : ByteArray} (h : callK m s = callK m' s') : m = m' ∧ s = s' := by
  simpa [callK] using h
theorem part_callI (w : World) (m : Int) (s : ByteArray) : (part 3 #[Value.int .i64 m, Value.string s] 0).run Tryd.prog w = .ok (.int .i64 m) w := run_part_plain w (by kernel_rfl) rfl
theorem part_callS (w : World) (m : Int) (s : ByteArray) : (part 9 #[Value.int .i64 m, Value.string s] 1).run Tryd.prog w = .ok (.string s) w := run_part_plain w (by kernel_rfl) rfl
theorem checkI (em : Bool) (n : Nat) (x : Int) (w : World) : (Instr.checkKey em (n + 1) 3 (.int .i64 x)).run Tryd.prog w = .ok () w := by
  simp [Instr.checkKey, run_underlying Tryd.underlying3]
theorem checkS (em : Bool) (n : Nat) (x : ByteArray) (w : World) : (Instr.checkKey em (n + 1) 9 (.string x)).run Tryd.prog w = .ok () w := by
  simp [Instr.checkKey, run_underlying Tryd.underlying9]
theorem eqI (n : Nat) (x y : Int) (w : World) : (Op.equalIn (n + 1) 3 (.int .i64 x) (.int .i64 y)).run Tryd.prog w = .ok (x == y) w := by
  simp [Op.equalIn, run_underlying Tryd.underlying3]
theorem eqS (n : Nat) (x y : ByteArray) (w : World) : (Op.equalIn (n + 1) 9 (.string x) (.string y)).run Tryd.prog w = .ok (x == y) w := by
  simp [Op.equalIn, run_underlying Tryd.underlying9]
theorem bytes_ne' {x y : ByteArray} (h : x ≠ y) : (x == y) = false := by
  cases hb : (x == y)
  · rfl
  · exact absurd ((MapKept.bytes_beq x y).1 hb) h
set_option maxRecDepth 100000 in
theorem check_call (w : World) (em : Bool) (m : Int) (s : ByteArray) : (Instr.checkKey em 10000 82 (callK m s)).run Tryd.prog w = .ok () w := by
  unfold Instr.checkKey callK
  rw [Sem.run_bind, run_underlying Tryd.underlying82]
  simp [part_callI, part_callS, checkI, checkS]
set_option maxRecDepth 100000 in
theorem equal_call (w : World) (m m' : Int) (s s' : ByteArray) : ∃ r, (Op.equal 82 (callK m s) (callK m' s')).run Tryd.prog w = .ok r w ∧ (r = true ↔ callK m s = callK m' s') := by
  unfold Op.equal Op.maxDepth Op.equalIn callK
  rw [Sem.run_bind, run_underlying Tryd.underlying82]
  by_cases h1 : m = m'
  · subst h1
    by_cases h2 : s = s'
    · subst h2
      have e2 : (s == s) = true := (MapKept.bytes_beq s s).2 rfl
      exact ⟨true, by simp [part_callI, part_callS, eqI, eqS, e2], by simp⟩
    · have e2 := bytes_ne' h2
      exact ⟨false, by simp [part_callI, part_callS, eqI, eqS, e2], by simp [h2]⟩
  · have e1 : (m == m') = false := by simpa using h1
    exact ⟨false, by simp [part_callI, part_callS, eqI, e1], by simp [h1]⟩
theorem key_call : KeyTy Tryd.prog 82 CallKey := by
  refine wide_key (by kernel_rfl) ?_ ?_ ?_
  · rintro w em v ⟨x, y, rfl⟩
    exact check_call w em x y
  · rintro w a b ⟨x, y, rfl⟩ ⟨x', y', rfl⟩
    exact equal_call w x x' y y'
  · rintro w v ⟨x, y, rfl⟩
    simp [Instr.keyThatStays, Instr.sameBits, callK, (MapKept.bytes_beq y y).2 rfl]
theorem zeroI (w : World) : (zeroValue 3).run Tryd.prog w = .ok (.int .i64 0) w := by
  have h : (Tryd.prog.info? 3).map (fun i => i.zero) = some (some (.int .i64 0)) := by kernel_rfl
  cases hi : Tryd.prog.info? 3 with
  | none => simp [hi] at h
  | some i => simp [hi] at h; simp [zeroValue, typeInfo, hi, h]
end Go.Proofs.YtkldomkooleecaaDoor
