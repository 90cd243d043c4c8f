/- Base for printed walks, part I: the same laws, in the form in which the printer calls them. Own work. -/
import Derived.Test.YthpdomeciaafjaaFxH
namespace Go.Fx

def blkOf (H : List Res) (j : Nat) : Nat := match H[j]? with | some (.blk b _ _) => b | _ => 0
def readH (P : Program) (H : List Res) (j : Nat) (t : TypeId) (off : Nat) : Option Value := match H[j]? with | some (.blk _ cs _) => readOf P t cs off | _ => none
def writeH (P : Program) (H : List Res) (j : Nat) (t : TypeId) (off : Nat) (v : Value) : Option (List Res) := match H[j]? with
  | some (.blk b cs T) => (writeOf P t cs off v).map fun cs' => H.set j (.blk b cs' T)
  | _ => none
def setH (P : Program) (H : List Res) (j : Nat) (t : TypeId) (off : Nat) (v : Value) : List Res := (writeH P H j t off v).getD H

section
variable {P : Program} {C : Ctx} {E : Env} {M : Mem} {H : List Res} {a : Act} {w : World}
variable {ops : Array Oper} {Q : Post} {K : Act → World → Prop} {i : Nat} {w1 : World} {F : Fs} {p : Plan}

theorem guard_some {α : Type} {b : Bool} {x : Option α} {r : α} (h : (if b = true then x else none) = some r) : b = true ∧ x = some r := by
  cases b with
  | true => exact ⟨rfl, by simpa using h⟩
  | false => simp at h

theorem x_load (hs : St C E M H a w) (j : Nat) (t : TypeId) (off : Nat) (v : Value) (ho : okOp ops C.N E i = true) (hk : ldT (opAt ops i) = some t) (hx : argV ops i 0 E = some (.pointer (some ⟨blkOf H j, off, none⟩)))
    (hr : readH P H j t off = some v) (kk : ∀ a', St C (putO E (opAt ops i).dst v) M H a' w → K a' w) : wpOp P ops Q i K a w := by
  unfold readH at hr
  unfold blkOf at hx
  split at hr
  · rename_i b cs T hj
    rw [hj] at hx
    exact st_loadB hs j ho hk hx hj hr kk
  · cases hr
theorem x_loadD (hs : St C E M H a w) (j : Nat) (t : TypeId) (off : Nat) (v : Value) {b : Nat} (ho : okOp ops C.N E i = true) (hk : ldT (opAt ops i) = some t) (hx : argV ops i 0 E = some (.pointer (some ⟨blkOf H j, off, none⟩)))
    (hb : blkOf H j = b) (hF : (i, b) ∈ F.l) (hsame : w.heap[b]? = w1.heap[b]?) (hr : readH P H j t off = some v) (kk : ∀ a', St C (putO E (opAt ops i).dst v) M H a' w → p.wp P ops Q w1 F a' w) : (Plan.load i b p).wp P ops Q w1 F a w := by
  unfold readH at hr
  subst hb
  split at hr
  · rename_i b cs T hj
    have e : blkOf H j = b := by unfold blkOf; rw [hj]
    rw [e] at hx hF hsame ⊢
    exact st_loadBD hs j ho hk hx hF hsame hj hr kk
  · cases hr
theorem x_store (hs : St C E M H a w) (j : Nat) (t : TypeId) (off : Nat) (v : Value) (ho : okOp ops C.N E i = true) (hk : stT (opAt ops i) = some t) (hx : argV ops i 0 E = some (.pointer (some ⟨blkOf H j, off, none⟩)))
    (hv : argV ops i 1 E = some v) (h1 : ∀ u ∈ v.cells.toList, u.oneCell' = true) (hw : (writeH P H j t off v).isSome = true)
    (k : ∀ a' w', St C (putO E (opAt ops i).dst undef) M (setH P H j t off v) a' w' → (∀ x, x ≠ blkOf H j → w'.heap[x]? = w.heap[x]?) → K a' w') : wpOp P ops Q i K a w := by
  unfold setH at k
  unfold writeH at hw k
  unfold blkOf at hx k
  cases hj : H[j]? with
  | none => rw [hj] at hw; cases hw
  | some r =>
    cases r with
    | row _ _ _ _ _ => rw [hj] at hw; cases hw
    | blk b cs T =>
      rw [hj] at hw hx k
      simp only at hw k hx
      cases hc : writeOf P t cs off v with
      | none => rw [hc] at hw; cases hw
      | some cs' =>
        rw [hc] at k
        exact st_store hs j ho hk hx hv h1 hj hc rfl k

/-- An element's place, of memory known beforehand. -/
theorem row_open {α : Type} {d : Kd α} {xs : List α} {x : α} {M : Mem} {A : Option Addr} {c : Nat} {j : Int} (hsl : SlAt d M A c xs) (hj : idx xs j = some x) :
    ∃ b f blk W, A = some ⟨b, f, none⟩ ∧ (0 ≤ j ∧ j < (xs.length : Int)) ∧ M b = some blk ∧ (blk.toList.drop (f + j.toNat * d.sz)).take d.sz = W ∧ d.rep M W x := by
  obtain ⟨h0, h1, h2, h3⟩ := idx_spec hj
  rcases hsl.row with h4 | ⟨b, off, blk, rfl, hb, hr⟩
  · subst h4; simp at h1; omega
  · have hrep := hr j.toNat h2
    rw [h3] at hrep
    exact ⟨b, off, blk, _, rfl, ⟨h0, h1⟩, hb, rfl, hrep⟩
theorem x_index (hs : St C E M H a w) {t : TypeId} {b f len c sz : Nat} {k : IntKind} {j : Int} (hb : 0 ≤ j ∧ j < (len : Int)) (ho : okOp ops C.N E i = true) (hk : ixT (opAt ops i) = some t) (hsz : slElem P t = some sz)
    (hx : argV ops i 0 E = some (.slice (some ⟨b, f, none⟩) len c)) (hi : argV ops i 1 E = some (.int k j))
    (kk : ∀ a', St C (putO E (opAt ops i).dst (.pointer (some ⟨b, f + j.toNat * sz, none⟩))) M H a' w → p.wp P ops Q w1 F a' w) : (Plan.pure i p).wp P ops Q w1 F a w :=
  st_pure1 hs ho (index_run hs.env hk hsz hx hi hb.1 hb.2) kk

/-- A call, what it may write picked out. -/
theorem x_call {Hc F' : List Res} (l : List Nat) (hs : St C E M H a w) (hl : l.isPerm (List.range H.length) = true) (hH : sel H l = Hc ++ F') {g : FuncId} {vs : List Value} {R : Value → Mem → List Res → Prop} (ho : okOp ops C.N E i = true) (hc : calArgs (opAt ops i) E = some (g, vs)) (hk : callable P g = true) (hf : FnOk P g vs M Hc R)
    (k : ∀ v M' H' a' w', R v M' H' → M.le M' → St C (putO E (opAt ops i).dst v) M' (H' ++ F') a' w' → Ext w M Hc w' M' H' → K a' w') : wpOp P ops Q i K a w :=
  st_call (hs.sel l hl hH) ho hc hk hf k
/-- What isn't needed is dropped, the rest put in order. -/
theorem St.pick (hs : St C E M H a w) (l : List Nat) {A B : List Res} (hl : l.isPerm (List.range H.length) = true) (hH : Go.Fx.sel H l = A ++ B) : St C E M A a w := (hs.sel l hl hH).dropR

theorem elems_idx {α : Type} {d : Kd α} {xs : List α} {x : α} {M : Mem} {cs : List Value} {j : Int} (h : Elems d M cs xs) (hj : idx xs j = some x) : (0 ≤ j ∧ j < (xs.length : Int)) ∧ d.rep M ((cs.drop (j.toNat * d.sz)).take d.sz) x := by
  obtain ⟨h0, h1, h2, h3⟩ := idx_spec hj
  have := h.at_ j.toNat h2
  rw [h3] at this
  exact ⟨⟨h0, h1⟩, this⟩
end
end Go.Fx
