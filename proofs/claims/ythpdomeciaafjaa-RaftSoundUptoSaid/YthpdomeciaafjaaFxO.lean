/- Base for printed walks, part O: what may be written, told by places. Own work. -/
import Derived.Test.YthpdomeciaafjaaFxN
namespace Go.Fx
section
variable {P : Program} {C : Ctx} {E : Env} {M : Mem} {H : List Res} {a : Act} {w : World}
variable {ops : Array Oper} {Q : Post} {K : Act → World → Prop} {i : Nat} {w1 : World} {F : Fs} {p : Plan}

theorem St.pickn (hs : St C E M H a w) (l : List Nat) (n : Nat) (hl : l.isPerm (List.range H.length) = true) : St C E M ((Go.Fx.sel H l).take n) a w :=
  (hs.sel l hl rfl).drop (List.take_sublist _ _)
theorem St.sels (hs : St C E M H a w) (l : List Nat) (hl : l.isPerm (List.range H.length) = true) : St C E M (Go.Fx.sel H l) a w := hs.sel l hl rfl
theorem St.fit (hs : St C E M H a w) {H' : List Res} (e : H = H') : St C E M H' a w := e ▸ hs
theorem sel_app {l1 l2 : List Nat} : Go.Fx.sel H (l1 ++ l2) = Go.Fx.sel H l1 ++ Go.Fx.sel H l2 := by simp [Go.Fx.sel]
theorem sel_nil : Go.Fx.sel H [] = [] := rfl
/-- A call: what it may write, and the rest, by places. -/
theorem x_calln {Hc : List Res} (l1 l2 : List Nat) (hs : St C E M H a w) (hl : (l1 ++ l2).isPerm (List.range H.length) = true) (hH : Go.Fx.sel H l1 = Hc) {g : FuncId} {vs : List Value} {R : Value → Mem → List Res → Prop} (ho : okOp ops C.N E i = true) (hc : calArgs (opAt ops i) E = some (g, vs)) (hk : callable P g = true) (hf : FnOk P g vs M Hc R)
    (k : ∀ v M' H' a' w', R v M' H' → M.le M' → St C (putO E (opAt ops i).dst v) M' (H' ++ Go.Fx.sel H l2) a' w' → Ext w M Hc w' M' H' → K a' w') : wpOp P ops Q i K a w :=
  x_call (Hc := Hc) (F' := Go.Fx.sel H l2) (l1 ++ l2) hs hl (by rw [sel_app, hH]) ho hc hk hf k
theorem St.freezen {α : Type} {d : Kd α} {xs : List α} (h : St C E M H a w) (j : Nat) {A : Option Addr} {c : Nat} {e : TypeId} {cs : List Value} (hj : H[j]? = some (.row (.slice A xs.length c) e d.sz xs.length cs)) (hx : Elems d M cs xs) :
    ∃ M', M.le M' ∧ SlAt d M' A c xs ∧ St C E M' (H.eraseIdx j) a w := h.freezeS j hj hx rfl
theorem sel_far {Hc : List Res} (hs : St C E M H a w) (j : Nat) {b : Nat} (h : footOf H j = some b) {l : List Nat} (hH : Go.Fx.sel H l = Hc) (hall : (l.all fun i => Nat.blt i H.length) = true) (hl : l.contains j = false) : ¬ feet Hc b := by
  have hlen : ∀ (l : List Nat), (Go.Fx.sel H l).length ≤ l.length := fun l => List.length_filterMap_le _ _
  refine hs.ffar (Hc := Hc) (F' := []) j h (l := l) (by rw [hH, List.append_nil]) hall ?_
  have : (l.take Hc.length).Sublist l := List.take_sublist _ _
  rw [List.contains_eq_mem, decide_eq_false_iff_not] at hl ⊢
  exact fun hm => hl (this.mem hm)
theorem Rd.calln {M1 M' : Mem} {w' : World} {l : List Nat} {Hc H' : List Res} (h : Rd w1 M1 w M) (hs : St C E M H a w) (hH : Go.Fx.sel H l = Hc) (k : Ext w M Hc w' M' H') : Rd w1 M1 w' M' :=
  h.call (F' := []) hs (l := l) (by rw [hH, List.append_nil]) k
end
end Go.Fx
