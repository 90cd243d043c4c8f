/- Base for printed walks, part A: immutable memory, kinds, resources, the state of a walk. Own work. -/
import Derived.Deep.AppendLies
import Derived.OrdersHeld
import Derived.Orders
import Derived.Laws.Rows
import Derived.Laws.IdiomCopy
import Derived.KernelRfl
import Derived.Below
namespace Go.Fx

/-- Blocks that nobody writes any more: their cells. -/
abbrev Mem := Nat → Option (Array Value)
def Mem.le (M M' : Mem) : Prop := ∀ b c, M b = some c → M' b = some c
theorem Mem.le_refl (M : Mem) : M.le M := fun _ _ h => h
theorem Mem.le_trans {A B C : Mem} (h : A.le B) (k : B.le C) : A.le C := fun b c e => k b c (h b c e)
def Mem.add (M : Mem) (b : Nat) (c : Array Value) : Mem := fun k => if k = b then some c else M k
theorem Mem.le_add {M : Mem} {b : Nat} {c : Array Value} (h : M b = none) : M.le (M.add b c) := by
  intro k d e
  unfold Mem.add
  split
  · rename_i hk; subst hk; rw [h] at e; cases e
  · exact e
theorem Mem.add_self (M : Mem) (b : Nat) (c : Array Value) : (M.add b c) b = some c := by simp [Mem.add]

/-- How a Lean value is laid in cells. -/
structure Kd (α : Type) where
  sz : Nat
  rep : Mem → List Value → α → Prop
  len : ∀ {M cs x}, rep M cs x → cs.length = sz
  mono : ∀ {M M' : Mem} {cs x}, M.le M' → rep M cs x → rep M' cs x
  one : ∀ {M cs x}, rep M cs x → ∀ v ∈ cs, v.oneCell' = true

def scalar {α : Type} (f : α → Value) (h : ∀ x, (f x).oneCell' = true) : Kd α where
  sz := 1
  rep := fun _ cs x => cs = [f x]
  len := fun h => by rw [h]; rfl
  mono := fun _ h => h
  one := fun {M cs x} e v hv => by rw [e] at hv; rw [List.mem_singleton.1 hv]; exact h x
def kint (k : IntKind) : Kd Int := scalar (Value.int k) (fun _ => rfl)
def kbool : Kd Bool := scalar Value.bool (fun _ => rfl)
def kstr : Kd ByteArray := scalar Value.string (fun _ => rfl)
/-- A value that is told as it is. -/
def kraw : Kd Value where
  sz := 1
  rep := fun _ cs x => cs = [x] ∧ x.oneCell' = true
  len := fun h => by rw [h.1]; rfl
  mono := fun _ h => h
  one := fun {M cs x} e v hv => by rw [e.1] at hv; rw [List.mem_singleton.1 hv]; exact e.2

/-- The elements xs lie from A on. -/
def RowAt {α : Type} (d : Kd α) (M : Mem) (A : Option Addr) (xs : List α) : Prop :=
  xs = [] ∨ ∃ b off c, A = some ⟨b, off, none⟩ ∧ M b = some c ∧ ∀ i (h : i < xs.length), d.rep M ((c.toList.drop (off + i * d.sz)).take d.sz) xs[i]
theorem RowAt.mono {α : Type} {d : Kd α} {M M' : Mem} {A : Option Addr} {xs : List α} (hm : M.le M') (h : RowAt d M A xs) : RowAt d M' A xs := by
  rcases h with h | ⟨b, off, c, hA, hb, hx⟩
  · exact .inl h
  · exact .inr ⟨b, off, c, hA, hm _ _ hb, fun i h => d.mono hm (hx i h)⟩
structure SlAt {α : Type} (d : Kd α) (M : Mem) (A : Option Addr) (c : Nat) (xs : List α) : Prop where
  row : RowAt d M A xs
  cap : xs.length ≤ c
theorem SlAt.mono {α : Type} {d : Kd α} {M M' : Mem} {A : Option Addr} {c : Nat} {xs : List α} (hm : M.le M') (h : SlAt d M A c xs) : SlAt d M' A c xs := ⟨h.row.mono hm, h.cap⟩
def kslice {α : Type} (d : Kd α) : Kd (List α) where
  sz := 1
  rep := fun M cs xs => ∃ A c, cs = [.slice A xs.length c] ∧ SlAt d M A c xs
  len := fun ⟨_, _, h, _⟩ => by rw [h]; rfl
  mono := fun hm ⟨A, c, h, k⟩ => ⟨A, c, h, k.mono hm⟩
  one := fun ⟨A, c, h, _⟩ v hv => by rw [h] at hv; rw [List.mem_singleton.1 hv]; rfl

/-- An array: its elements one behind the other. -/
def Elems {α : Type} (d : Kd α) (M : Mem) : List Value → List α → Prop
  | cs, [] => cs = []
  | cs, x :: xs => ∃ a b, cs = a ++ b ∧ d.rep M a x ∧ Elems d M b xs
theorem Elems.mono {α : Type} {d : Kd α} {M M' : Mem} (hm : M.le M') : ∀ {cs : List Value} {xs : List α}, Elems d M cs xs → Elems d M' cs xs
  | _, [], h => h
  | _, _ :: _, ⟨a, b, e, h, k⟩ => ⟨a, b, e, d.mono hm h, Elems.mono hm k⟩
theorem Elems.len {α : Type} {d : Kd α} {M : Mem} : ∀ {cs : List Value} {xs : List α}, Elems d M cs xs → cs.length = xs.length * d.sz
  | _, [], h => by subst h; simp
  | _, x :: xs, ⟨a, b, e, h, k⟩ => by
    subst e
    rw [List.length_append, d.len h, k.len, List.length_cons, Nat.add_mul, Nat.one_mul, Nat.add_comm]
theorem Elems.one {α : Type} {d : Kd α} {M : Mem} : ∀ {cs : List Value} {xs : List α}, Elems d M cs xs → ∀ v ∈ cs, v.oneCell' = true
  | _, [], h => by intro v hv; rw [show _ = [] from h] at hv; cases hv
  | _, x :: xs, ⟨a, b, e, h, k⟩ => by
    intro v hv
    rw [e] at hv
    rcases List.mem_append.1 hv with hv | hv
    · exact d.one h v hv
    · exact k.one v hv
theorem Elems.append {α : Type} {d : Kd α} {M : Mem} : ∀ {cs ds : List Value} {xs ys : List α}, Elems d M cs xs → Elems d M ds ys → Elems d M (cs ++ ds) (xs ++ ys)
  | _, ds, [], ys, h, k => by rw [show _ = [] from h]; exact k
  | _, ds, x :: xs, ys, ⟨a, b, e, h, l⟩, k => ⟨a, b ++ ds, by rw [e, List.append_assoc], h, l.append k⟩
theorem Elems.single {α : Type} {d : Kd α} {M : Mem} {cs : List Value} {x : α} (h : d.rep M cs x) : Elems d M cs [x] := ⟨cs, [], by simp, h, rfl⟩
theorem Elems.at_ {α : Type} {d : Kd α} {M : Mem} : ∀ {cs : List Value} {xs : List α} (_ : Elems d M cs xs) (i : Nat) (hi : i < xs.length), d.rep M ((cs.drop (i * d.sz)).take d.sz) xs[i]
  | _, x :: xs, ⟨a, b, e, h, k⟩, 0, hi => by
    subst e
    have := d.len h
    simp [this]
    exact h
  | _, x :: xs, ⟨a, b, e, h, k⟩, i + 1, hi => by
    subst e
    have hl := d.len h
    have := k.at_ i (by simpa using hi)
    rw [List.getElem_cons_succ]
    have e1 : (i + 1) * d.sz = a.length + i * d.sz := by rw [hl, Nat.add_mul, Nat.one_mul, Nat.add_comm]
    rw [e1, ← List.drop_drop, List.drop_left]
    exact this
theorem Elems.of_at {α : Type} {d : Kd α} {M : Mem} : ∀ {xs : List α} {cs : List Value}, cs.length = xs.length * d.sz →
    (∀ i (hi : i < xs.length), d.rep M ((cs.drop (i * d.sz)).take d.sz) xs[i]) → Elems d M cs xs
  | [], cs, hl, _ => List.eq_nil_of_length_eq_zero (by simpa using hl)
  | x :: xs, cs, hl, h => by
    refine ⟨cs.take d.sz, cs.drop d.sz, by simp, ?_, Elems.of_at ?_ ?_⟩
    · have h0 := h 0 (by simp)
      rw [Nat.zero_mul, List.drop_zero] at h0
      exact h0
    · rw [List.length_drop, hl, List.length_cons, Nat.add_mul, Nat.one_mul]; omega
    · intro i hi
      have := h (i + 1) (by simpa using hi)
      rw [List.getElem_cons_succ] at this
      rw [List.drop_drop, show d.sz + i * d.sz = (i + 1) * d.sz by rw [Nat.add_mul, Nat.one_mul, Nat.add_comm]]
      exact this
theorem Elems.set {α : Type} {d : Kd α} {M : Mem} : ∀ {cs : List Value} {xs : List α}, Elems d M cs xs → ∀ (i : Nat) (_ : i < xs.length) (ys : List Value) (y : α), d.rep M ys y →
    Elems d M (cs.take (i * d.sz) ++ ys ++ cs.drop (i * d.sz + d.sz)) (xs.set i y)
  | _, x :: xs, ⟨a, b, e, h, k⟩, 0, hi, ys, y, hy => by
    subst e
    have hl := d.len h
    refine ⟨ys, b, ?_, hy, k⟩
    simp [← hl]
  | _, x :: xs, ⟨a, b, e, h, k⟩, i + 1, hi, ys, y, hy => by
    subst e
    have hl := d.len h
    refine ⟨a, _, ?_, h, k.set i (by simpa using hi) ys y hy⟩
    have e1 : (i + 1) * d.sz = a.length + i * d.sz := by rw [hl, Nat.add_mul, Nat.one_mul, Nat.add_comm]
    rw [e1, List.take_append, Nat.add_assoc, List.drop_append]
    simp [List.take_of_length_le]
theorem Elems.row {α : Type} {d : Kd α} {M : Mem} {b o : Nat} {c : Array Value} {xs : List α} (hb : M b = some c) (h : Elems d M ((c.toList.drop o).take (xs.length * d.sz)) xs) : RowAt d M (some ⟨b, o, none⟩) xs := by
  refine .inr ⟨b, o, c, rfl, hb, fun i hi => ?_⟩
  have hr := h.at_ i hi
  rw [List.drop_take, List.drop_drop, List.take_take] at hr
  have hle : (i + 1) * d.sz ≤ xs.length * d.sz := Nat.mul_le_mul_right _ hi
  rw [Nat.add_mul, Nat.one_mul] at hle
  rw [Nat.min_eq_left (by omega)] at hr
  exact hr

/-- A slice whose array is the call's own. -/
def OwnR (w : World) (e : TypeId) (sz : Nat) (v : Value) (n : Nat) (cs : List Value) : Prop :=
  cs.length = n * sz ∧ ((v = .slice none 0 0 ∧ n = 0) ∨
    ∃ g o cap cur, v = .slice (some ⟨g, o, none⟩) n cap ∧ w.heap[g]? = some (.cells cur e (0, 0)) ∧ n ≤ cap ∧ cap ≤ maxLen ∧ o + cap * sz ≤ cur.size ∧ (cur.toList.drop o).take (n * sz) = cs)
/-- What a call may write. -/
inductive Res where
  | blk (b : Nat) (cs : List Value) (t : TypeId)
  | row (v : Value) (e : TypeId) (sz n : Nat) (cs : List Value)
def Res.holds (w : World) : Res → Prop
  | .blk b cs t => w.heap[b]? = some (.cells cs.toArray t (0, 0))
  | .row v e sz n cs => OwnR w e sz v n cs
def Res.foot : Res → Option Nat
  | .blk b _ _ => some b
  | .row v _ _ _ _ => v.ownBlock
def feet (H : List Res) (b : Nat) : Prop := ∃ r ∈ H, r.foot = some b
theorem feet_append {H K : List Res} {b : Nat} : feet (H ++ K) b ↔ feet H b ∨ feet K b := by
  simp only [feet, List.mem_append]
  constructor
  · rintro ⟨r, h | h, e⟩
    · exact .inl ⟨r, h, e⟩
    · exact .inr ⟨r, h, e⟩
  · rintro (⟨r, h, e⟩ | ⟨r, h, e⟩)
    · exact ⟨r, .inl h, e⟩
    · exact ⟨r, .inr h, e⟩
theorem feet_cons {r : Res} {H : List Res} {b : Nat} : feet (r :: H) b ↔ r.foot = some b ∨ feet H b := by
  simp [feet]
theorem feet_nil {b : Nat} : ¬ feet [] b := by simp [feet]
theorem Res.lt {w : World} {r : Res} (h : r.holds w) {b : Nat} (hf : r.foot = some b) : b < w.heap.size := by
  have key : ∀ k o, w.heap[k]? = some o → k < w.heap.size := fun k o e => by
    rcases Nat.lt_or_ge k w.heap.size with h | h
    · exact h
    · rw [Array.getElem?_eq_none h] at e; cases e
  cases r with
  | blk c cs t => simp only [Res.foot, Option.some.injEq] at hf; subst hf; exact key _ _ h
  | row v e sz n cs =>
    simp only [Res.holds] at h
    simp only [Res.foot] at hf
    rcases h.2 with ⟨rfl, _⟩ | ⟨g, o, cap, cur, rfl, hh, _⟩
    · simp [Value.ownBlock] at hf
    · simp only [Value.ownBlock, Option.some.injEq] at hf; subst hf; exact key _ _ hh
theorem Res.holds_of {w w' : World} {r : Res} (h : r.holds w) (hk : ∀ b, r.foot = some b → w'.heap[b]? = w.heap[b]?) : r.holds w' := by
  cases r with
  | blk c cs t => simp only [Res.holds] at h ⊢; rw [hk c rfl]; exact h
  | row v e sz n cs =>
    simp only [Res.holds] at h ⊢
    refine ⟨h.1, ?_⟩
    rcases h.2 with h2 | ⟨g, o, cap, cur, rfl, hh, h4⟩
    · exact .inl h2
    · exact .inr ⟨g, o, cap, cur, rfl, by rw [hk g rfl]; exact hh, h4⟩

structure Wf (w : World) (M : Mem) (H : List Res) : Prop where
  models : ∀ b c, M b = some c → ∃ t fz, w.heap[b]? = some (.cells c t fz)
  holds : ∀ r ∈ H, r.holds w
  free : ∀ r ∈ H, ∀ b, r.foot = some b → M b = none
  apart : H.Pairwise (fun r s => ∀ b, r.foot = some b → s.foot ≠ some b)

structure Ext (w : World) (M : Mem) (H : List Res) (w' : World) (M' : Mem) (H' : List Res) : Prop where
  os : w'.os = w.os
  tape : w'.tape = w.tape
  output : w'.output = w.output
  size : w.heap.size ≤ w'.heap.size
  mem : M.le M'
  kept : ∀ b, b < w.heap.size → ¬ feet H b → w'.heap[b]? = w.heap[b]?
  fresh : ∀ b, feet H' b → feet H b ∨ w.heap.size ≤ b
  freshM : ∀ b c, M' b = some c → M b = some c ∨ feet H b ∨ w.heap.size ≤ b

theorem Ext.refl (w : World) (M : Mem) (H : List Res) : Ext w M H w M H :=
  ⟨rfl, rfl, rfl, Nat.le_refl _, Mem.le_refl _, fun _ _ _ => rfl, fun _ h => .inl h, fun _ _ h => .inl h⟩
theorem Ext.trans {w w1 w2 : World} {M M1 M2 : Mem} {H H1 H2 : List Res} (h : Ext w M H w1 M1 H1) (k : Ext w1 M1 H1 w2 M2 H2) : Ext w M H w2 M2 H2 where
  os := k.os.trans h.os
  tape := k.tape.trans h.tape
  output := k.output.trans h.output
  size := Nat.le_trans h.size k.size
  mem := Mem.le_trans h.mem k.mem
  kept := fun b hb hn => by
    rw [k.kept b (Nat.lt_of_lt_of_le hb h.size) ?_, h.kept b hb hn]
    intro hf
    rcases h.fresh b hf with h1 | h1
    · exact hn h1
    · omega
  fresh := fun b hf => by
    rcases k.fresh b hf with h1 | h1
    · exact h.fresh b h1
    · exact .inr (Nat.le_trans h.size h1)
  freshM := fun b c hc => by
    rcases k.freshM b c hc with h1 | h1 | h1
    · exact h.freshM b c h1
    · exact .inr (h.fresh b h1)
    · exact .inr (.inr (Nat.le_trans h.size h1))

theorem Wf.lt {w : World} {M : Mem} {H : List Res} (h : Wf w M H) {b : Nat} (hf : feet H b) : b < w.heap.size := by
  obtain ⟨r, hr, e⟩ := hf
  exact Res.lt (h.holds r hr) e

theorem Wf.perm {w : World} {M : Mem} {H K : List Res} (h : Wf w M H) (hp : H.Perm K) : Wf w M K where
  models := h.models
  holds := fun r hr => h.holds r (hp.mem_iff.2 hr)
  free := fun r hr => h.free r (hp.mem_iff.2 hr)
  apart := (List.Perm.pairwise_iff (fun hh b hs hr => hh b hr hs) hp).1 h.apart
theorem feet_perm {H K : List Res} (hp : H.Perm K) {b : Nat} : feet H b ↔ feet K b := by
  constructor
  · rintro ⟨r, hr, e⟩; exact ⟨r, hp.mem_iff.1 hr, e⟩
  · rintro ⟨r, hr, e⟩; exact ⟨r, hp.mem_iff.2 hr, e⟩
theorem Ext.perm {w w' : World} {M M' : Mem} {H H' K : List Res} (h : Ext w M H w' M' H') (hp : H'.Perm K) : Ext w M H w' M' K :=
  ⟨h.os, h.tape, h.output, h.size, h.mem, h.kept, fun b hb => h.fresh b ((feet_perm hp).2 hb), h.freshM⟩
theorem Ext.permL {w w' : World} {M M' : Mem} {H H' K : List Res} (h : Ext w M H w' M' H') (hp : H.Perm K) : Ext w M K w' M' H' :=
  ⟨h.os, h.tape, h.output, h.size, h.mem, fun b hb hn => h.kept b hb (fun hf => hn ((feet_perm hp).1 hf)), fun b hb => (h.fresh b hb).imp (feet_perm hp).1 id, fun b c hc => (h.freshM b c hc).imp id (fun x => x.imp (feet_perm hp).1 id)⟩

/-- Drop what isn't needed any more. -/
theorem Wf.sub {w : World} {M : Mem} {H K : List Res} (h : Wf w M H) (hs : K.Sublist H) : Wf w M K :=
  ⟨h.models, fun r hr => h.holds r (hs.mem hr), fun r hr => h.free r (hs.mem hr), h.apart.sublist hs⟩
theorem feet_sub {H K : List Res} (hs : K.Sublist H) {b : Nat} (h : feet K b) : feet H b := by
  obtain ⟨r, hr, e⟩ := h
  exact ⟨r, hs.mem hr, e⟩
theorem Ext.sub {w w' : World} {M M' : Mem} {H H' K : List Res} (h : Ext w M H w' M' H') (hs : K.Sublist H') : Ext w M H w' M' K :=
  ⟨h.os, h.tape, h.output, h.size, h.mem, h.kept, fun b hb => h.fresh b (feet_sub hs hb), h.freshM⟩
/-- Less is told of the blocks that nobody writes. -/
theorem Wf.less {w : World} {M M' : Mem} {H : List Res} (h : Wf w M' H) (hm : M.le M') : Wf w M H :=
  ⟨fun b c e => h.models b c (hm b c e), h.holds, (fun r hr b e => by
    have := h.free r hr b e
    cases hc : M b with
    | none => rfl
    | some c => rw [hm b c hc] at this; cases this), h.apart⟩
theorem Ext.less {w w' : World} {M M1 M' : Mem} {H H' : List Res} (h : Ext w M H w' M' H') (h1 : M.le M1) (h2 : M1.le M') : Ext w M H w' M1 H' :=
  ⟨h.os, h.tape, h.output, h.size, h1, h.kept, h.fresh, fun b c e => h.freshM b c (h2 b c e)⟩

/-- Beside what a call may write stands more. -/
theorem frame {w w' : World} {M M' : Mem} {H H' F : List Res} (hw : Wf w M (H ++ F)) (hw' : Wf w' M' H') (he : Ext w M H w' M' H') :
    Wf w' M' (H' ++ F) ∧ Ext w M (H ++ F) w' M' (H' ++ F) := by
  have hap := List.pairwise_append.1 hw.apart
  have hF : ∀ r ∈ F, ∀ b, r.foot = some b → b < w.heap.size ∧ ¬ feet H b := fun r hr b e =>
    ⟨Res.lt (hw.holds r (List.mem_append_right _ hr)) e, fun ⟨s, hs, es⟩ => hap.2.2 s hs r hr b es e⟩
  refine ⟨⟨hw'.models, ?_, ?_, ?_⟩, ⟨he.os, he.tape, he.output, he.size, he.mem, ?_, ?_, ?_⟩⟩
  · intro r hr
    rcases List.mem_append.1 hr with hr | hr
    · exact hw'.holds r hr
    · exact Res.holds_of (hw.holds r (List.mem_append_right _ hr)) fun b e => he.kept b (hF r hr b e).1 (hF r hr b e).2
  · intro r hr b e
    rcases List.mem_append.1 hr with hr | hr
    · exact hw'.free r hr b e
    · cases hc : M' b with
      | none => rfl
      | some c =>
        rcases he.freshM b c hc with h1 | h1 | h1
        · rw [hw.free r (List.mem_append_right _ hr) b e] at h1; cases h1
        · exact absurd h1 (hF r hr b e).2
        · have := (hF r hr b e).1; omega
  · refine List.pairwise_append.2 ⟨hw'.apart, hap.2.1, fun r hr s hs b e e' => ?_⟩
    rcases he.fresh b ⟨r, hr, e⟩ with h1 | h1
    · exact (hF s hs b e').2 h1
    · have := (hF s hs b e').1; omega
  · intro b hb hn
    exact he.kept b hb fun hf => hn (feet_append.2 (.inl hf))
  · intro b hb
    rcases feet_append.1 hb with hb | hb
    · exact (he.fresh b hb).imp (fun h => feet_append.2 (.inl h)) id
    · exact .inl (feet_append.2 (.inr hb))
  · intro b c hc
    exact (he.freshM b c hc).imp id fun h => h.imp (fun h => feet_append.2 (.inl h)) id

end Go.Fx
