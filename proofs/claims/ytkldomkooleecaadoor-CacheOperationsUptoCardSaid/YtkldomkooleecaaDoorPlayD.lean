/- What Get and Lookup return from both caches. -/
import Derived.Test.YtkldomkooleecaaDoorPlayC
namespace Go.Proofs.YtkldomkooleecaaDoor
open Go.RowKit Go.Maps Go.MapKept

theorem Step.reads {B mb R : Nat} {w w' : World} (h : Step B mb R w w') {v : Value} {n : Nat} {rows : List (List Value)} {S : Nat → Prop} (hq : Reads S w v n rows) (hS : ∀ y, S y → Free w B mb R y) : Reads S w' v n rows := by
  obtain ⟨M, h1, h2, _⟩ := h
  exact hq.kept h2 (fun y hy hs => h1 y hy (hS y hs))
theorem reads_int1 {W : World} {g : Nat} {x : Int} (h : W.cell? ⟨g, 0, none⟩ = some (.int .i64 x)) : Reads (fun y => y = g) W (.slice (some ⟨g, 0, none⟩) 1 1) 1 (irows [x]) := by
  refine ⟨by simp [irows, Value.oneCell'], _, 1, rfl, by simp [irows], by simp [maxLen], .inr ⟨g, 0, rfl, rfl, World.block_lt_of_cell? W _ h, fun k r hk => ?_⟩⟩
  match k, hk with
  | 0, hk =>
    simp [irows] at hk
    subst hk
    intro j u hj
    match j, hj with
    | 0, hj =>
      simp at hj
      subst hj
      simpa using h
    | j + 1, hj => simp at hj
  | k + 1, hk => simp [irows] at hk

/-- A row that was got, or the zero row. -/
def GotV (d : Nat) (w' : World) (xi xm tk : Int) (tn : ByteArray) (ti : Int) (ta : List Ty) (xf xu : Int) (xl : List Int) (fl : Bool) (e : Ending) : Prop :=
  ∃ (a1 : Option Addr) (c1 : Nat) (a2 : Option Addr) (c2 : Nat), e = .returned (.tuple #[.agg #[.int .i64 xi, .int .i64 xm, .int .i64 tk, .string tn, .int .i64 ti, .slice a1 ta.length c1, .int .i64 xf, .int .i64 xu, .int .i64 0, .int .i64 0, .slice none 0 0, .slice none 0 0, .slice none 0 0, .slice a2 xl.length c2], .bool fl]) ∧
    TR d (fun _ => True) w' (.slice a1 ta.length c1) ta ∧ Reads (fun _ => True) w' (.slice a2 xl.length c2) 1 (irows xl)
theorem Got.v {d : Nat} {w' : World} {x : Cp} {e : Ending} (h : Got d w' x e) : GotV d w' x.id x.method x.ty.kind x.ty.name x.ty.index x.ty.args x.frm x.unt x.inl true e := by
  cases h with
  | mk a1 c1 a2 c2 h1 h2 => exact ⟨a1, c1, a2, c2, rfl, h1, h2⟩
theorem gotNone_v (d : Nat) (w' : World) : GotV d w' 0 0 0 ⟨#[]⟩ 0 [] 0 0 [] false gotNone := ⟨none, 0, none, 0, rfl, TR.nil _ _ _, Reads.nil _ _ _⟩

section
variable (B mb R base d : Nat) (cap : Int) (l : List Cp)
theorem getBoth (i : Int) : ∃ (xi xm tk : Int) (tn : ByteArray) (ti : Int) (ta : List Ty) (xf xu : Int) (xl : List Int) (fl : Bool),
    (∀ (W : World) (last next : Int) (cm cs : List Cn), PSt B mb R base d W cap last l cm next l cs → Calls Tryd.prog 30 #[.pointer (some ⟨B, 0, none⟩), .int .i64 i] W fun e w' => Kept [] W w' ∧ GotV d w' xi xm tk tn ti ta xf xu xl fl e) ∧
    (∀ (W : World) (last next : Int) (cm cs : List Cn), PSt B mb R base d W cap last l cm next l cs → Calls Tryd.prog 31 #[.pointer (some ⟨R, 0, none⟩), .int .i64 i] W fun e w' => Kept [] W w' ∧ GotV d w' xi xm tk tn ti ta xf xu xl fl e) := by
  rcases finds_or l i with ⟨k, x, hf⟩ | hno
  · refine ⟨x.id, x.method, x.ty.kind, x.ty.name, x.ty.index, x.ty.args, x.frm, x.unt, x.inl, true, fun W last next cm cs h => (psGet i W h).mono ?_, fun W last next cm cs h => (psRGet i W h).mono ?_⟩
    all_goals
      rintro e w' ⟨hk, ⟨k', x', hf', hg⟩ | ⟨rfl, hn⟩⟩
      · obtain ⟨_, rfl⟩ := finds_same hf hf'
        exact ⟨hk, hg.v⟩
      · exact (finds_not hf hn).elim
  · refine ⟨0, 0, 0, ⟨#[]⟩, 0, [], 0, 0, [], false, fun W last next cm cs h => (psGet i W h).mono ?_, fun W last next cm cs h => (psRGet i W h).mono ?_⟩
    all_goals
      rintro e w' ⟨hk, ⟨k', x', hf', hg⟩ | ⟨rfl, hn⟩⟩
      · exact (finds_not hf' hno).elim
      · exact ⟨hk, gotNone_v _ _⟩
theorem lookBoth {S : Nat → Prop} (m : Int) (gk : Int) (gn : ByteArray) (gi : Int) (ga : List Ty) (a0 : Option Addr) (c0 : Nat) (wd : Int) : ∃ (xi xm tk : Int) (tn : ByteArray) (ti : Int) (ta : List Ty) (xf xu : Int) (xl : List Int) (fl : Bool),
    (∀ (W : World) (last next : Int) (cm cs : List Cn), PSt B mb R base d W cap last l cm next l cs → TR d S W (.slice a0 ga.length c0) ga → Calls Tryd.prog 12 #[.pointer (some ⟨B, 0, none⟩), .int .i64 m, .agg #[.int .i64 gk, .string gn, .int .i64 gi, .slice a0 ga.length c0], .int .i64 wd] W fun e w' => Kept [] W w' ∧ GotV d w' xi xm tk tn ti ta xf xu xl fl e) ∧
    (∀ (W : World) (last next : Int) (cm cs : List Cn), PSt B mb R base d W cap last l cm next l cs → TR d S W (.slice a0 ga.length c0) ga → Calls Tryd.prog 33 #[.pointer (some ⟨R, 0, none⟩), .int .i64 m, .agg #[.int .i64 gk, .string gn, .int .i64 gi, .slice a0 ga.length c0], .int .i64 wd] W fun e w' => Kept [] W w' ∧ GotV d w' xi xm tk tn ti ta xf xu xl fl e) := by
  rcases fit_or l m (.mk gk gn gi ga) wd with ⟨k, x, hf⟩ | hno
  · refine ⟨x.id, x.method, x.ty.kind, x.ty.name, x.ty.index, x.ty.args, x.frm, x.unt, x.inl, true, fun W last next cm cs h hg => (psLookup m gk gn gi ga a0 c0 wd W h hg).mono ?_, fun W last next cm cs h hg => (psRLookup m gk gn gi ga a0 c0 wd W h hg).mono ?_⟩
    all_goals
      rintro e w' ⟨hk, ⟨k', x', hf', hg⟩ | ⟨rfl, hn⟩⟩
      · obtain ⟨_, rfl⟩ := fit_same hf hf'
        exact ⟨hk, hg.v⟩
      · exact (fit_not hf hn).elim
  · refine ⟨0, 0, 0, ⟨#[]⟩, 0, [], 0, 0, [], false, fun W last next cm cs h hg => (psLookup m gk gn gi ga a0 c0 wd W h hg).mono ?_, fun W last next cm cs h hg => (psRLookup m gk gn gi ga a0 c0 wd W h hg).mono ?_⟩
    all_goals
      rintro e w' ⟨hk, ⟨k', x', hf', hg⟩ | ⟨rfl, hn⟩⟩
      · exact (fit_not hf' hno).elim
      · exact ⟨hk, gotNone_v _ _⟩
end
end Go.Proofs.YtkldomkooleecaaDoor
