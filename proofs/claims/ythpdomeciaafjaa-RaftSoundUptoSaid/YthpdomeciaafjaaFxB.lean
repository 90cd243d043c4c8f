/- Base for printed walks, part B: places in a function's code, and what comes behind each. Own work. -/
import Derived.Test.YthpdomeciaafjaaFxA
namespace Go.Fx

abbrev Path := List Nat
abbrev Post := Exit → Act → World → Prop

def subc : Code → Path → Option Code
  | c, [] => some c
  | .seq x _, 0 :: p => subc x p
  | .seq _ y, 1 :: p => subc y p
  | .block _ x, 0 :: p => subc x p
  | .loop x, 0 :: p => subc x p
  | .cond _ x _, 0 :: p => subc x p
  | .cond _ _ y, 1 :: p => subc y p
  | _, _ => none

def kont (P : Program) : Code → Path → Post → Post
  | _, [], Q => Q
  | .seq x y, 0 :: p, Q => kont P x p (Exit.then (y.wp P Q) Q)
  | .seq _ y, 1 :: p, Q => kont P y p Q
  | .block id x, 0 :: p, Q => kont P x p (Exit.inBlock id Q)
  | .loop x, 0 :: p, Q => kont P x p (Exit.then ((Code.loop x).wp P Q) Q)
  | .cond _ x _, 0 :: p, Q => kont P x p Q
  | .cond _ _ y, 1 :: p, Q => kont P y p Q
  | _, _, Q => Q

/-- The code at a place, with all that comes behind it. -/
def At (P : Program) (c : Code) (p : Path) (Q : Post) (a : Act) (w : World) : Prop :=
  match subc c p with
  | some d => d.wp P (kont P c p Q) a w
  | none => False

def nextN : Code → Path → Option Path
  | _, [] => none
  | .seq x _, 0 :: p => match nextN x p with
    | some q => some (0 :: q)
    | none => some [1]
  | .seq _ y, 1 :: p => (nextN y p).map (1 :: ·)
  | .block _ x, 0 :: p => (nextN x p).map (0 :: ·)
  | .loop x, 0 :: p => match nextN x p with
    | some q => some (0 :: q)
    | none => some []
  | .cond _ x _, 0 :: p => (nextN x p).map (0 :: ·)
  | .cond _ _ y, 1 :: p => (nextN y p).map (1 :: ·)
  | _, _ => none

inductive To where
  | esc
  | goes (p : Path)
  | done
def To.under (t : To) (i : Nat) (dn : To) : To :=
  match t with
  | .esc => .esc
  | .goes q => .goes (i :: q)
  | .done => dn

def exitN (id : Nat) : Code → Path → To
  | _, [] => .esc
  | .seq x _, 0 :: p => (exitN id x p).under 0 (.goes [1])
  | .seq _ y, 1 :: p => (exitN id y p).under 1 .done
  | .block b x, 0 :: p => match exitN id x p with
    | .esc => if id = b then .done else .esc
    | .goes q => .goes (0 :: q)
    | .done => .done
  | .loop x, 0 :: p => (exitN id x p).under 0 (.goes [])
  | .cond _ x _, 0 :: p => (exitN id x p).under 0 .done
  | .cond _ _ y, 1 :: p => (exitN id y p).under 1 .done
  | _, _ => .esc

theorem subc_nil (c : Code) : subc c [] = some c := by cases c <;> rfl
theorem kont_nil (P : Program) (c : Code) (Q : Post) : kont P c [] Q = Q := by cases c <;> rfl
theorem At.nil {P : Program} {c : Code} {Q : Post} {a : Act} {w : World} : At P c [] Q a w = c.wp P Q a w := by
  unfold At subc kont
  cases c <;> rfl

theorem kont_normal {P : Program} : ∀ (p : Path) {c : Code} {Q : Post} {a : Act} {w : World} {d : Code}, subc c p = some d →
    (match nextN c p with | some q => At P c q Q a w | none => Q .normal a w) → kont P c p Q .normal a w
  | [], c, Q, a, w, d, _, h => by
    cases c <;> exact h
  | i :: p, c, Q, a, w, d, hs, h => by
    cases c with
    | seq x y =>
      match i, hs, h with
      | 0, hs, h =>
        simp only [kont]
        refine kont_normal p hs ?_
        simp only [nextN] at h
        cases hn : nextN x p with
        | some q => rw [hn] at h; exact h
        | none => rw [hn] at h; simp only [At, subc, kont] at h; exact h
      | 1, hs, h =>
        simp only [kont]
        refine kont_normal p hs ?_
        simp only [nextN] at h
        cases hn : nextN y p with
        | some q => rw [hn] at h; exact h
        | none => rw [hn] at h; exact h
      | n + 2, hs, h => simp [subc] at hs
    | block id x =>
      match i, hs, h with
      | 0, hs, h =>
        simp only [kont]
        refine kont_normal p hs ?_
        simp only [nextN] at h
        cases hn : nextN x p with
        | some q => rw [hn] at h; exact h
        | none => rw [hn] at h; exact h
      | n + 1, hs, h => simp [subc] at hs
    | loop x =>
      match i, hs, h with
      | 0, hs, h =>
        simp only [kont]
        refine kont_normal p hs ?_
        simp only [nextN] at h
        cases hn : nextN x p with
        | some q => rw [hn] at h; exact h
        | none => rw [hn] at h; simp only [At, subc, kont] at h; exact h
      | n + 1, hs, h => simp [subc] at hs
    | cond t x y =>
      match i, hs, h with
      | 0, hs, h =>
        simp only [kont]
        refine kont_normal p hs ?_
        simp only [nextN] at h
        cases hn : nextN x p with
        | some q => rw [hn] at h; exact h
        | none => rw [hn] at h; exact h
      | 1, hs, h =>
        simp only [kont]
        refine kont_normal p hs ?_
        simp only [nextN] at h
        cases hn : nextN y p with
        | some q => rw [hn] at h; exact h
        | none => rw [hn] at h; exact h
      | n + 2, hs, h => simp [subc] at hs
    | _ => simp [subc] at hs

def To.wp (P : Program) (c : Code) (id : Nat) (Q : Post) (a : Act) (w : World) : To → Prop
  | .goes q => At P c q Q a w
  | .done => Q .normal a w
  | .esc => Q (.exit id) a w

theorem kont_exit {P : Program} (id : Nat) : ∀ (p : Path) {c : Code} {Q : Post} {a : Act} {w : World} {d : Code}, subc c p = some d →
    (exitN id c p).wp P c id Q a w → kont P c p Q (.exit id) a w
  | [], c, Q, a, w, d, _, h => by
    cases c <;> simpa [exitN, To.wp, kont] using h
  | i :: p, c, Q, a, w, d, hs, h => by
    cases c with
    | seq x y =>
      match i, hs, h with
      | 0, hs, h =>
        simp only [kont]
        refine kont_exit id p hs ?_
        simp only [exitN] at h
        cases hn : exitN id x p with
        | goes q => simp only [hn, To.under, To.wp] at h ⊢; exact h
        | esc => simp only [hn, To.under, To.wp] at h ⊢; exact h
        | done => simp only [hn, To.under, To.wp] at h ⊢; simp only [At, subc, kont] at h; exact h
      | 1, hs, h =>
        simp only [kont]
        refine kont_exit id p hs ?_
        simp only [exitN] at h
        cases hn : exitN id y p <;> (simp only [hn, To.under, To.wp] at h ⊢; exact h)
      | n + 2, hs, h => simp [subc] at hs
    | block b x =>
      match i, hs, h with
      | 0, hs, h =>
        simp only [kont]
        refine kont_exit id p hs ?_
        simp only [exitN] at h
        cases hn : exitN id x p with
        | goes q => simp only [hn, To.wp] at h ⊢; exact h
        | esc =>
          simp only [hn, To.wp, Exit.inBlock] at h ⊢
          split
          · rename_i he; rw [if_pos he] at h; exact h
          · rename_i he; rw [if_neg he] at h; exact h
        | done => simp only [hn, To.wp] at h ⊢; exact h
      | n + 1, hs, h => simp [subc] at hs
    | loop x =>
      match i, hs, h with
      | 0, hs, h =>
        simp only [kont]
        refine kont_exit id p hs ?_
        simp only [exitN] at h
        cases hn : exitN id x p with
        | goes q => simp only [hn, To.under, To.wp] at h ⊢; exact h
        | esc => simp only [hn, To.under, To.wp] at h ⊢; exact h
        | done => simp only [hn, To.under, To.wp] at h ⊢; simp only [At, subc, kont] at h; exact h
      | n + 1, hs, h => simp [subc] at hs
    | cond t x y =>
      match i, hs, h with
      | 0, hs, h =>
        simp only [kont]
        refine kont_exit id p hs ?_
        simp only [exitN] at h
        cases hn : exitN id x p <;> (simp only [hn, To.under, To.wp] at h ⊢; exact h)
      | 1, hs, h =>
        simp only [kont]
        refine kont_exit id p hs ?_
        simp only [exitN] at h
        cases hn : exitN id y p <;> (simp only [hn, To.under, To.wp] at h ⊢; exact h)
      | n + 2, hs, h => simp [subc] at hs
    | _ => simp [subc] at hs

theorem kont_ret {P : Program} : ∀ (p : Path) (c : Code) {Q : Post} {a : Act} {w : World}, Q .ret a w → kont P c p Q .ret a w
  | [], c, _, _, _, h => by cases c <;> exact h
  | i :: p, c, Q, a, w, h => by
    cases c with
    | seq x y => match i with
      | 0 => exact kont_ret p x h
      | 1 => exact kont_ret p y h
      | n + 2 => simpa [kont] using h
    | block b x => match i with
      | 0 => exact kont_ret p x h
      | n + 1 => simpa [kont] using h
    | loop x => match i with
      | 0 => exact kont_ret p x h
      | n + 1 => simpa [kont] using h
    | cond t x y => match i with
      | 0 => exact kont_ret p x h
      | 1 => exact kont_ret p y h
      | n + 2 => simpa [kont] using h
    | _ => simpa [kont] using h

/-- Nothing jumps, nothing outgrows, nothing panics. -/
def Plain (Q : Post) : Prop := ∀ a w, (∀ l, ¬ Q (.goto l) a w) ∧ ¬ Q .outgrown a w ∧ ∀ c, ¬ Q (.panic c) a w
theorem kont_plain {P : Program} : ∀ (p : Path) (c : Code) {Q : Post}, Plain Q → Plain (kont P c p Q)
  | [], c, _, h => by cases c <;> exact h
  | i :: p, c, Q, h => by
    cases c with
    | seq x y => match i with
      | 0 => exact kont_plain p x (fun a w => ⟨fun l => (h a w).1 l, (h a w).2⟩)
      | 1 => exact kont_plain p y h
      | n + 2 => simpa [kont] using h
    | block b x => match i with
      | 0 => exact kont_plain p x (fun a w => ⟨fun l => (h a w).1 l, (h a w).2⟩)
      | n + 1 => simpa [kont] using h
    | loop x => match i with
      | 0 => exact kont_plain p x (fun a w => ⟨fun l => (h a w).1 l, (h a w).2⟩)
      | n + 1 => simpa [kont] using h
    | cond t x y => match i with
      | 0 => exact kont_plain p x h
      | 1 => exact kont_plain p y h
      | n + 2 => simpa [kont] using h
    | _ => simpa [kont] using h

theorem exitTo_len (id : Nat) : ∀ (k k' : List Item), exitTo id k = some k' → k'.length ≤ k.length
  | [], k', h => by simp [exitTo] at h
  | x :: k, k', h => by
    have key : exitTo id k = some k' → k'.length ≤ (x :: k).length := fun h => Nat.le_trans (exitTo_len id k k' h) (by simp)
    cases x with
    | inBlock b =>
      simp only [exitTo] at h
      split at h
      · injection h with h; subst h; simp
      · exact key h
    | _ => exact key (by simpa [exitTo] using h)

/-- A loop is its body, and then the loop. -/
theorem wp_unroll {P : Program} {c : Code} {Q : Post} {a : Act} {w : World} (hQ : Plain Q) (h : c.wp P (Exit.then ((Code.loop c).wp P Q) Q) a w) : (Code.loop c).wp P Q a w := by
  intro b k cs
  obtain ⟨e, a₁, w₁, hq, harr⟩ := h b (.inLoop c :: k) cs
  have back : ∀ {a w fr w'}, fr ≠ b.at a (.code (.loop c) :: k) → Steps P (lone (b.at a (.code (.loop c) :: k)) cs w) (lone fr cs w') → Steps P (lone (b.at a (.inLoop c :: k)) cs w) (lone fr cs w') := by
    intro a w fr w' hne ⟨n, hn⟩
    cases n with
    | zero =>
      simp only [runN, Stepped.next.injEq] at hn
      exact absurd (by have := congrArg Machine.gs hn; simp [lone] at this; exact this.symm) hne
    | succ n =>
      simp only [runN, step_loop] at hn
      exact .head step_inLoop ⟨n, hn⟩
  cases e with
  | normal =>
    obtain ⟨e₂, a₂, w₂, hq₂, harr₂⟩ := hq b k cs
    refine ⟨e₂, a₂, w₂, hq₂, .of_steps (.head step_loop harr) ?_⟩
    cases e₂ with
    | normal => exact back (fun h => by have := congrArg Frame.todo h; simp [Frame.at] at this) harr₂
    | exit id =>
      intro k' hk
      refine back (fun h => ?_) (harr₂ k' hk)
      have h1 := congrArg Frame.todo h
      simp only [Frame.at] at h1
      have := exitTo_len id k k' hk
      rw [h1] at this
      simp at this
      omega
    | goto l => exact absurd hq₂ ((hQ _ _).1 l)
    | ret =>
      obtain ⟨todo, hs⟩ := harr₂
      exact ⟨todo, back (fun h => by have := congrArg Frame.mode h; simp [Frame.at] at this) hs⟩
    | panic ch =>
      obtain ⟨todo, hs⟩ := harr₂
      exact ⟨todo, back (fun h => by have := congrArg Frame.mode h; simp [Frame.at] at this) hs⟩
    | outgrown => exact absurd hq₂ (hQ _ _).2.1
  | exit id => exact ⟨_, a₁, w₁, hq, .of_steps (.one step_loop) (.pass (x := .inLoop c) rfl (fun _ _ => .inl (by simp)) harr)⟩
  | goto l => exact ⟨_, a₁, w₁, hq, .of_steps (.one step_loop) (.pass (x := .inLoop c) rfl (fun _ _ => .inl (by simp)) harr)⟩
  | ret => exact ⟨_, a₁, w₁, hq, .of_steps (.one step_loop) (.pass (x := .inLoop c) rfl (fun _ _ => .inl (by simp)) harr)⟩
  | panic ch => exact ⟨_, a₁, w₁, hq, .of_steps (.one step_loop) (.pass (x := .inLoop c) rfl (fun _ _ => .inl (by simp)) harr)⟩
  | outgrown => exact absurd hq (hQ _ _).2.1

section places
variable {P : Program} {c : Code} {p : Path} {Q : Post} {a : Act} {w : World}

theorem subc_snoc (i : Nat) : ∀ (p : Path) {c d : Code}, subc c p = some d → subc c (p ++ [i]) = subc d [i]
  | [], c, d, h => by
    have : c = d := by cases c <;> simpa [subc] using h
    subst this; rfl
  | j :: p, c, d, h => by
    cases c with
    | seq x y => match j, h with
      | 0, h => exact subc_snoc i p h
      | 1, h => exact subc_snoc i p h
      | n + 2, h => simp [subc] at h
    | block b x => match j, h with
      | 0, h => exact subc_snoc i p h
      | n + 1, h => simp [subc] at h
    | loop x => match j, h with
      | 0, h => exact subc_snoc i p h
      | n + 1, h => simp [subc] at h
    | cond t x y => match j, h with
      | 0, h => exact subc_snoc i p h
      | 1, h => exact subc_snoc i p h
      | n + 2, h => simp [subc] at h
    | _ => simp [subc] at h

theorem kont_snoc (i : Nat) : ∀ (p : Path) {c d : Code} {Q : Post}, subc c p = some d → kont P c (p ++ [i]) Q = kont P d [i] (kont P c p Q)
  | [], c, d, Q, h => by
    have : c = d := by cases c <;> simpa [subc] using h
    subst this
    have : kont P c [] Q = Q := by cases c <;> rfl
    rw [this]; rfl
  | j :: p, c, d, Q, h => by
    cases c with
    | seq x y => match j, h with
      | 0, h => exact kont_snoc i p h
      | 1, h => exact kont_snoc i p h
      | n + 2, h => simp [subc] at h
    | block b x => match j, h with
      | 0, h => exact kont_snoc i p h
      | n + 1, h => simp [subc] at h
    | loop x => match j, h with
      | 0, h => exact kont_snoc i p h
      | n + 1, h => simp [subc] at h
    | cond t x y => match j, h with
      | 0, h => exact kont_snoc i p h
      | 1, h => exact kont_snoc i p h
      | n + 2, h => simp [subc] at h
    | _ => simp [subc] at h

def isSeq (c : Code) (p : Path) : Bool := match subc c p with | some (.seq _ _) => true | _ => false
def isBlock (c : Code) (p : Path) : Bool := match subc c p with | some (.block _ _) => true | _ => false
def isLoop (c : Code) (p : Path) : Bool := match subc c p with | some (.loop _) => true | _ => false
def isSkip (c : Code) (p : Path) : Bool := match subc c p with | some .skip => true | _ => false
def isRet (c : Code) (p : Path) : Bool := match subc c p with | some .ret => true | _ => false
def condT (c : Code) (p : Path) : Option Nat := match subc c p with | some (.cond (.tmp t) _ _) => some t | _ => none
def exitT (c : Code) (p : Path) : Option Nat := match subc c p with | some (.exit i) => some i | _ => none
def regOps (c : Code) (p : Path) : Option (Array Oper) := match subc c p with | some (.region _ ops false) => some ops | _ => none
def regDraw (c : Code) (p : Path) : Option (Array Oper) := match subc c p with | some (.region _ ops true) => some ops | _ => none

theorem kont_at {i : Nat} {d e : Code} (hs : subc c p = some d) (hd : subc d [i] = some e) (h : At P c (p ++ [i]) Q a w) : e.wp P (kont P d [i] (kont P c p Q)) a w := by
  unfold At at h
  rw [subc_snoc i p hs, hd, kont_snoc i p hs] at h
  exact h

theorem at_seq (p' : Path) (hk : isSeq c p = true) (hp : p' = p ++ [0]) (h : At P c p' Q a w) : At P c p Q a w := by
  subst hp
  unfold isSeq at hk
  split at hk
  · rename_i x y hs
    have := kont_at (e := x) hs (by simp only [subc, subc_nil]) h
    simp only [kont, kont_nil] at this
    unfold At
    rw [hs]
    exact wp_seq this
  · cases hk
theorem at_block (p' : Path) (hk : isBlock c p = true) (hp : p' = p ++ [0]) (h : At P c p' Q a w) : At P c p Q a w := by
  subst hp
  unfold isBlock at hk
  split at hk
  · rename_i x y hs
    have := kont_at (e := y) hs (by simp only [subc, subc_nil]) h
    simp only [kont, kont_nil] at this
    unfold At
    rw [hs]
    exact wp_block this
  · cases hk
theorem at_loop (p' : Path) (hQ : Plain Q) (hk : isLoop c p = true) (hp : p' = p ++ [0]) (h : At P c p' Q a w) : At P c p Q a w := by
  subst hp
  unfold isLoop at hk
  split at hk
  · rename_i x hs
    have := kont_at (e := x) hs (by simp only [subc, subc_nil]) h
    simp only [kont, kont_nil] at this
    unfold At
    rw [hs]
    exact wp_unroll (kont_plain p c hQ) this
  · cases hk
theorem at_cond {t : Nat} {b : Bool} (p' : Path) (hk : condT c p = some t) (hv : a.tmps.getD t undef = .bool b) (hp : p' = p ++ [bif b then 0 else 1]) (h : At P c p' Q a w) : At P c p Q a w := by
  subst hp
  unfold condT at hk
  split at hk
  · rename_i t' x y hs
    simp only [Option.some.injEq] at hk
    subst hk
    unfold At
    rw [hs]
    cases b with
    | true =>
      have := kont_at (i := 0) (e := x) hs (by simp only [subc, subc_nil]) h
      simp only [kont, kont_nil] at this
      exact wp_cond_true hv this
    | false =>
      have := kont_at (i := 1) (e := y) hs (by simp only [subc, subc_nil]) h
      simp only [kont, kont_nil] at this
      exact wp_cond_false hv this
  · cases hk

theorem of_next (p' : Path) (hn : nextN c p = some p') {d : Code} (hs : subc c p = some d) (h : At P c p' Q a w) : kont P c p Q .normal a w :=
  kont_normal p hs (by rw [hn]; exact h)
theorem of_end (hn : nextN c p = none) {d : Code} (hs : subc c p = some d) (h : Q .normal a w) : kont P c p Q .normal a w :=
  kont_normal p hs (by rw [hn]; exact h)

theorem at_skip (p' : Path) (hk : isSkip c p = true) (hn : nextN c p = some p') (h : At P c p' Q a w) : At P c p Q a w := by
  unfold isSkip at hk
  split at hk
  · rename_i hs
    unfold At
    rw [hs]
    exact wp_skip (of_next p' hn hs h)
  · cases hk
theorem at_skip_end (hk : isSkip c p = true) (hn : nextN c p = none) (h : Q .normal a w) : At P c p Q a w := by
  unfold isSkip at hk
  split at hk
  · rename_i hs
    unfold At
    rw [hs]
    exact wp_skip (of_end hn hs h)
  · cases hk
theorem at_ret (hk : isRet c p = true) (h : Q .ret a w) : At P c p Q a w := by
  unfold isRet at hk
  split at hk
  · rename_i hs
    unfold At
    rw [hs]
    exact wp_ret (kont_ret p c h)
  · cases hk
theorem at_exit {id : Nat} (p' : Path) (hk : exitT c p = some id) (hn : (match exitN id c p with | .goes q => some q | _ => none) = some p') (h : At P c p' Q a w) : At P c p Q a w := by
  unfold exitT at hk
  split at hk
  · rename_i i hs
    simp only [Option.some.injEq] at hk
    subst hk
    unfold At
    rw [hs]
    refine wp_exit (kont_exit i p hs ?_)
    cases he : exitN i c p with
    | goes q => simp only [he, Option.some.injEq] at hn; subst hn; exact h
    | _ => simp [he] at hn
  · cases hk
theorem at_exit_end {id : Nat} (hk : exitT c p = some id) (hn : (match exitN id c p with | .done => true | _ => false) = true) (h : Q .normal a w) : At P c p Q a w := by
  unfold exitT at hk
  split at hk
  · rename_i i hs
    simp only [Option.some.injEq] at hk
    subst hk
    unfold At
    rw [hs]
    refine wp_exit (kont_exit i p hs ?_)
    cases he : exitN i c p with
    | done => exact h
    | _ => simp [he] at hn
  · cases hk
end places

end Go.Fx
