/- Base for printed walks, part W: structs that are read as data; a law's row. Own work. -/
import Derived.Test.YthpdomeciaafjaaFxR
import Derived.KernelRfl
namespace Go.Fx

section
variable {P : Program} {W : World}
def isStructT (P : Program) (t : TypeId) : Bool := match P.underlying t with | some (.struct _) => true | _ => false
def fieldIs (P : Program) (t : TypeId) (i t' o : Nat) : Bool := match P.underlying t with
  | some (.struct fs) => match fs[i]? with
    | some f => Nat.beq f.type t' && Nat.beq f.offset o
    | none => false
  | _ => false
theorem sopen {H : Type} {enc : TypeId × Value → H} {base : Nat} {spare : Nat → Bool} {held : Bool} {n : Nat} {t : TypeId} {cs : List Value} {x : DataW H × List MemPlace} (hs : isStructT P t = true) (h : DataW.trod enc P W base spare held n t cs = some x) :
    cs.length = P.cellsOf t ∧ ∀ (i t' o : Nat) {α : Type} {d : Kd α}, Opens P W t' d → fieldIs P t i t' o = true → ∃ y, d.rep (memOf W) ((cs.drop o).take d.sz) y := by
  unfold isStructT at hs
  split at hs
  · rename_i fs hfs
    obtain ⟨xs, m, _, _, hl, hn, hf⟩ := DataW.trod_struct hfs h
    refine ⟨hl, fun i t' o α d hd hi => ?_⟩
    unfold fieldIs at hi
    rw [hfs] at hi
    simp only at hi
    split at hi
    · rename_i f hfi
      rw [Bool.and_eq_true] at hi
      exact field_opens hf hn i hfi (Nat.eq_of_beq_eq_true hi.1) (Nat.eq_of_beq_eq_true hi.2) hd
    · cases hi
  · cases hs
def slicesOk (P : Program) : Bool := (List.range P.types.size).all fun t => match P.underlying t with | some (.slice e) => Nat.blt 0 (P.cellsOf e) | _ => true
theorem slicesOk_spec (h : slicesOk P = true) {t e : TypeId} (ht : t < P.types.size) (hu : P.underlying t = some (.slice e)) : 0 < P.cellsOf e := by
  have := List.all_eq_true.1 h t (List.mem_range.2 ht)
  rw [hu] at this
  exact Nat.le_of_ble_eq_true this
end
end Go.Fx
