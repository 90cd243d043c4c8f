/- Base for printed walks, part S: whole stretches of code in one step. Own work. -/
import Derived.Test.YthpdomeciaafjaaFxQ
namespace Go.Fx

/-! ### What is left of a region -/
inductive PT where
  | dn
  | it (n : Nat) (t : PT)
  | two (i : Nat) (p : PT) (j : Nat) (q : PT)
def PT.of : List Nat → PT → PT
  | [], t => t
  | n :: l, t => .it n (PT.of l t)
def PT.drop : Nat → PT → PT
  | 0, t => t
  | k + 1, .it _ t => PT.drop k t
  | _ + 1, t => t
def PT.n : PT → Nat
  | .it n _ => n
  | _ => 0
abbrev PT.i (t : PT) : Nat := t.n / 4
def PT.isIt : PT → Bool
  | .it _ _ => true
  | _ => false
def PT.isDn : PT → Bool
  | .dn => true
  | _ => false
def PT.isTwo : PT → Bool
  | .two .. => true
  | _ => false
def PT.fst : PT → PT
  | .two i p _ _ => .it (4 * i + 3) p
  | t => t
def PT.snd : PT → PT
  | .two _ _ j q => .it (4 * j + 3) q
  | t => t
theorem PT.it_eq : ∀ {t : PT}, t.isIt = true → t = .it t.n (t.drop 1)
  | .it _ t, _ => by cases t <;> rfl
  | .dn, h => by cases h
  | .two .., h => by cases h
def seqT : Nat → Nat → PT
  | _, 0 => .dn
  | i, k + 1 => .it (4 * i + 3) (seqT (i + 1) k)
def lk : List (Nat × Nat) → Nat → Option Nat
  | [], _ => none
  | (k, j) :: l, i => bif Nat.beq k i then some j else lk l i
theorem lk_mem : ∀ {l : List (Nat × Nat)} {i j : Nat}, lk l i = some j → (i, j) ∈ l
  | (k, m) :: l, i, j, h => by
    simp only [lk] at h
    cases hb : Nat.beq k i with
    | true =>
      have : k = i := Nat.eq_of_beq_eq_true hb
      rw [hb] at h
      simp only [cond_true, Option.some.injEq] at h
      subst this; subst h
      exact List.mem_cons_self ..
    | false => rw [hb] at h; exact List.mem_cons_of_mem _ (lk_mem h)
def PT.pl (FI : List (Nat × Nat)) (bl : Nat → Nat) : PT → Plan
  | .dn => .done
  | .it n t => match n % 4 with
    | 0 => .pure (n / 4) (t.pl FI bl)
    | 1 => .load (n / 4) (bl ((lk FI (n / 4)).getD 0)) (t.pl FI bl)
    | 2 => .read (n / 4) (t.pl FI bl)
    | _ => .eff (n / 4) (t.pl FI bl)
  | .two i p j q => .two i (p.pl FI bl) j (q.pl FI bl)
theorem pl0 {FI : List (Nat × Nat)} {bl : Nat → Nat} {n : Nat} {t : PT} (h : n % 4 = 0) : (PT.it n t).pl FI bl = .pure (n / 4) (t.pl FI bl) := by simp only [PT.pl, h]
theorem pl1 {FI : List (Nat × Nat)} {bl : Nat → Nat} {n : Nat} {t : PT} (h : n % 4 = 1) : (PT.it n t).pl FI bl = .load (n / 4) (bl ((lk FI (n / 4)).getD 0)) (t.pl FI bl) := by simp only [PT.pl, h]
theorem pl2 {FI : List (Nat × Nat)} {bl : Nat → Nat} {n : Nat} {t : PT} (h : n % 4 = 2) : (PT.it n t).pl FI bl = .read (n / 4) (t.pl FI bl) := by simp only [PT.pl, h]
theorem pl3 {FI : List (Nat × Nat)} {bl : Nat → Nat} {n : Nat} {t : PT} (h : n % 4 = 3) : (PT.it n t).pl FI bl = .eff (n / 4) (t.pl FI bl) := by simp only [PT.pl, h]
theorem okS_seqT {ops : Array Oper} {FI : List (Nat × Nat)} {bl : Nat → Nat} : ∀ (k i : Nat), i + k = ops.size → ((seqT i k).pl FI bl).okS ops i = true
  | 0, i, h => by simp only [seqT, PT.pl, Plan.okS]; simpa using h
  | k + 1, i, h => by
    simp only [seqT]
    rw [pl3 (by omega)]
    have e : (4 * i + 3) / 4 = i := by omega
    simp only [Plan.okS, e, beq_self_eq_true, Bool.true_and, Bool.and_eq_true, decide_eq_true_eq]
    exact ⟨by omega, okS_seqT k (i + 1) (by omega)⟩
theorem okD_bl {ops : Array Oper} {FI : List (Nat × Nat)} {b1 b2 : Nat → Nat} : ∀ (t : PT) (n : Nat) (l : Array Bool), (t.pl FI b1).okD ops n l = (t.pl FI b2).okD ops n l
  | .dn, n, l => by simp only [PT.pl]
  | .it m t, 0, l => by
    simp only [PT.pl]
    split <;> simp [Plan.okD]
  | .it m t, n + 1, l => by
    simp only [PT.pl]
    split <;> simp only [Plan.okD] <;> rw [okD_bl t]
  | .two i p j q, 0, l => by simp [PT.pl, Plan.okD]
  | .two i p j q, n + 1, l => by
    simp only [PT.pl, Plan.okD]
    rw [okD_bl p (b1 := b1) (b2 := b2), okD_bl q (b1 := b1) (b2 := b2)]

/-! ### Which operations come before which -/
theorem Before.trans {ops : Array Oper} {i j k : Nat} (h : Before ops i j) (g : Before ops j k) : Before ops i k := by
  induction h with
  | one h => exact .step h g
  | step h _ ih => exact .step h (ih g)
def befM (acc : List Nat) (es : List Edge) : Nat := es.foldl (fun s e => if Region.binds .any e then s ||| 2 ^ e.on ||| acc.getD e.on 0 else s) 0
def befs : List Oper → List Nat → List Nat
  | [], acc => acc
  | o :: os, acc => befs os (acc ++ [befM acc o.after.toList])
theorem befM_spec {acc : List Nat} {i : Nat} : ∀ (es : List Edge) (s : Nat), (es.foldl (fun s e => if Region.binds .any e then s ||| 2 ^ e.on ||| acc.getD e.on 0 else s) s).testBit i = true →
    s.testBit i = true ∨ ∃ e ∈ es, Region.binds .any e = true ∧ (e.on = i ∨ (acc.getD e.on 0).testBit i = true)
  | [], s, h => .inl h
  | e :: es, s, h => by
    simp only [List.foldl_cons] at h
    rcases befM_spec es _ h with h1 | ⟨e', he', h2⟩
    · split at h1
      · rename_i hb
        rw [Nat.testBit_or, Nat.testBit_or, Bool.or_eq_true, Bool.or_eq_true] at h1
        rcases h1 with (h1 | h1) | h1
        · exact .inl h1
        · refine .inr ⟨e, List.mem_cons_self .., hb, .inl ?_⟩
          rw [Nat.testBit_two_pow] at h1
          simpa using h1
        · exact .inr ⟨e, List.mem_cons_self .., hb, .inr h1⟩
      · exact .inl h1
    · exact .inr ⟨e', List.mem_cons_of_mem _ he', h2⟩
theorem befs_spec {ops : Array Oper} : ∀ (os : List Oper) (acc : List Nat), (∀ k o, os[k]? = some o → ops[acc.length + k]? = some o) → (∀ k i, (acc.getD k 0).testBit i = true → Before ops i k) →
    ∀ k i, ((befs os acc).getD k 0).testBit i = true → Before ops i k
  | [], acc, _, h => h
  | o :: os, acc, ho, h => by
    refine befs_spec os _ (fun k o' hk => ?_) ?_
    · have := ho (k + 1) o' (by simpa using hk)
      rw [List.length_append, List.length_singleton, Nat.add_assoc, Nat.add_comm 1 k]
      exact this
    · intro k i hb
      rcases Nat.lt_or_ge k acc.length with hlt | hge
      · refine h k i ?_
        rw [List.getD_eq_getElem?_getD, List.getElem?_append_left hlt] at hb
        rw [List.getD_eq_getElem?_getD]
        exact hb
      · rcases Nat.lt_or_ge acc.length k with hgt | hle
        · rw [List.getD_eq_getElem?_getD, List.getElem?_eq_none (by simp; omega)] at hb
          simp at hb
        · have hk : k = acc.length := by omega
          subst hk
          rw [List.getD_eq_getElem?_getD, List.getElem?_append_right (Nat.le_refl _)] at hb
          simp only [Nat.sub_self, List.getElem?_cons_zero, Option.getD_some] at hb
          have hop : ops[acc.length]? = some o := ho 0 o rfl
          rcases befM_spec _ _ hb with h1 | ⟨e, he, hbi, h1⟩
          · simp at h1
          · have hd : direct ops e.on acc.length = true := by
              unfold direct
              rw [hop]
              simp only [Array.any_eq_true']
              exact ⟨e, by simpa using he, by simp [hbi]⟩
            rcases h1 with rfl | h1
            · exact .one hd
            · exact (h _ _ h1).trans (.one hd)
def bef (ops : Array Oper) (i k : Nat) : Bool := ((befs ops.toList []).getD k 0).testBit i
theorem bef_spec {ops : Array Oper} {i k : Nat} (h : bef ops i k = true) : Before ops i k :=
  befs_spec ops.toList [] (fun k o hk => by simpa using hk) (fun k i hb => by simp at hb) k i h

/-! ### The state of a region -/
def Fo (FI : List (Nat × Nat)) (bl : Nat → Nat) (M1 : Mem) : Fs := ⟨FI.map fun x => (x.1, bl x.2), fun b => (M1 b).isSome = true⟩
/-- What stands as it stood when the region began. -/
structure Dr (V : List Nat) (bl : Nat → Nat) (w1 : World) (M1 M : Mem) (H : List Res) (w : World) : Prop where
  rd : Rd w1 M1 w M
  ok : ∀ n ∈ V, footOf H (n / 2) = some (bl (n / 2)) ∧ (n % 2 = 0 → w.heap[bl (n / 2)]? = w1.heap[bl (n / 2)]?)
/- V: 2j: resource j stands as at the region's begin; 2j+1: it was written, where it stood. -/
def keepOk (ops : Array Oper) (FI : List (Nat × Nat)) (V T : List Nat) (k : Nat) : Bool := FI.all fun x => ((V.contains (2 * x.2) || V.contains (2 * x.2 + 1)) && !T.contains x.2) || bef ops x.1 k
def rmV (V T : List Nat) : List Nat := V.filter fun n => !T.contains (n / 2)
def dV (V : List Nat) (j : Nat) : List Nat := V.map fun n => bif Nat.beq n (2 * j) then n + 1 else n
/-- What an effect leaves as it was. -/
structure Keeps (M : Mem) (H : List Res) (T : List Nat) (w : World) (M' : Mem) (H' : List Res) (w' : World) : Prop where
  le : M.le M'
  mem : ∀ b, (M b).isSome = true → w'.heap[b]? = w.heap[b]?
  foot : ∀ j b, T.contains j = false → footOf H j = some b → footOf H' j = some b ∧ w'.heap[b]? = w.heap[b]?

def IG (P : Program) (ops : Array Oper) (Q : Post) (C : Ctx) (E : Env) (M : Mem) (H : List Res) (FI : List (Nat × Nat)) (V : List Nat) (M1 : Mem) (t : PT) : Prop :=
  ∀ w1 bl a w, St C E M H a w → Dr V bl w1 M1 M H w → (t.pl FI bl).wp P ops Q w1 (Fo FI bl M1) a w
def KG (K : Act → World → Prop) (C : Ctx) (E : Env) (M : Mem) (H : List Res) : Prop := ∀ a w, St C E M H a w → K a w
abbrev AG (P : Program) (c : Code) (p : Path) (Q : Post) (C : Ctx) (E : Env) (M : Mem) (H : List Res) : Prop := KG (At P c p Q) C E M H

theorem dr_keep {ops : Array Oper} {FI : List (Nat × Nat)} {V T : List Nat} {bl : Nat → Nat} {w1 w w' : World} {M1 M M' : Mem} {H H' : List Res} {k : Nat} (hd : Dr V bl w1 M1 M H w) (hk : Keeps M H T w M' H' w') (hc : keepOk ops FI V T k = true) :
    Rd w1 M1 w' M' ∧ Keep ops w1 (Fo FI bl M1) k w w' := by
  have hrd : Rd w1 M1 w' M' := hd.rd.step hk.le hk.mem
  refine ⟨hrd, keepR hrd ?_⟩
  intro x hx hb hw
  obtain ⟨y, hy, rfl⟩ := List.mem_map.1 hx
  have := List.all_eq_true.1 hc y hy
  rw [Bool.or_eq_true, Bool.and_eq_true, Bool.not_eq_true', Bool.or_eq_true] at this
  rcases this with ⟨h1, h2⟩ | h1
  · have h3 : footOf H y.2 = some (bl y.2) := by
      rcases h1 with h1 | h1
      · have := (hd.ok (2 * y.2) (by simpa using h1)).1
        rwa [show 2 * y.2 / 2 = y.2 by omega] at this
      · have := (hd.ok (2 * y.2 + 1) (by simpa using h1)).1
        rwa [show (2 * y.2 + 1) / 2 = y.2 by omega] at this
    exact ((hk.foot _ _ h2 h3).2).trans hw
  · exact absurd (bef_spec h1) hb
theorem dr_step {ops : Array Oper} {FI : List (Nat × Nat)} {V T : List Nat} {bl : Nat → Nat} {w1 w w' : World} {M1 M M' : Mem} {H H' : List Res} {k : Nat} (hd : Dr V bl w1 M1 M H w) (hk : Keeps M H T w M' H' w') (hc : keepOk ops FI V T k = true) :
    Keep ops w1 (Fo FI bl M1) k w w' ∧ Dr (rmV V T) bl w1 M1 M' H' w' := by
  obtain ⟨h1, h2⟩ := dr_keep (ops := ops) (FI := FI) hd hk hc
  refine ⟨h2, h1, fun n hn => ?_⟩
  unfold rmV at hn
  rw [List.mem_filter, Bool.not_eq_true'] at hn
  obtain ⟨h3, h4⟩ := hd.ok n hn.1
  obtain ⟨h5, h6⟩ := hk.foot _ _ hn.2 h3
  exact ⟨h5, fun he => h6.trans (h4 he)⟩
theorem dr_store {ops : Array Oper} {FI : List (Nat × Nat)} {V : List Nat} {j : Nat} {bl : Nat → Nat} {w1 w w' : World} {M1 M : Mem} {H H' : List Res} {k : Nat} (hd : Dr V bl w1 M1 M H w) (hk : Keeps M H [j] w M H' w') (hf : footOf H' j = footOf H j) (hc : keepOk ops FI V [j] k = true) :
    Keep ops w1 (Fo FI bl M1) k w w' ∧ Dr (dV V j) bl w1 M1 M H' w' := by
  obtain ⟨h1, h2⟩ := dr_keep (ops := ops) (FI := FI) hd hk hc
  refine ⟨h2, h1, fun n hn => ?_⟩
  unfold dV at hn
  obtain ⟨m, hm, rfl⟩ := List.mem_map.1 hn
  obtain ⟨h3, h4⟩ := hd.ok m hm
  have hor : m / 2 = j ∨ [j].contains (m / 2) = false := by
    by_cases e : m / 2 = j
    · exact .inl e
    · exact .inr (by simpa using e)
  cases hb : Nat.beq m (2 * j) with
  | true =>
    have hmj := Nat.eq_of_beq_eq_true hb
    subst hmj
    simp only [cond_true, show (2 * j + 1) / 2 = j by omega]
    rw [show 2 * j / 2 = j by omega] at h3
    exact ⟨hf.trans h3, fun he => by omega⟩
  | false =>
    simp only [cond_false]
    have hne : m ≠ 2 * j := fun e => by rw [e] at hb; simp at hb
    rcases hor with h5 | h5
    · rw [h5] at h3 ⊢
      exact ⟨hf.trans h3, fun he => by omega⟩
    · obtain ⟨h6, h7⟩ := hk.foot _ _ h5 h3
      exact ⟨h6, fun he => h7.trans (h4 he)⟩

/-! ### Stretches of operations -/
structure Sy where
  E : Env
  H : List Res
  V : List Nat
inductive Hi where
  | p (n : Nat)
  | l (j : Nat)
  | s (j : Nat)
  | b
  | e (D : Nat) (x : Int)

def addO (b : Nat) : Value := .pointer (some ⟨b, 0, none⟩)
def putS (ops : Array Oper) (N i : Nat) (S : Sy) (v : Value) : Option Sy := bif dstLt (opAt ops i).dst N then some { S with E := putO S.E (opAt ops i).dst v } else none
/-- An operation that only reckons, or isn't carried out. -/
def exP (P : Program) (ops : Array Oper) (N : Nat) (FI : List (Nat × Nat)) (n : Nat) (S : Sy) : Option Sy :=
  bif Nat.blt (n / 4) ops.size && (match n % 4 with | 1 => (match lk FI (n / 4) with | some j => S.V.contains (2 * j) | none => false) | _ => true) then
    match stepE P ops S.E (n / 4) with
    | some v => putS ops N (n / 4) S v
    | none => none
  else none
def exL (P : Program) (ops : Array Oper) (N : Nat) (FI : List (Nat × Nat)) (n j : Nat) (S : Sy) : Option (Sy × List (Value × Value)) :=
  bif okOp ops N S.E (n / 4) && (match n % 4 with | 1 => (match lk FI (n / 4) with | some k => Nat.beq k j && S.V.contains (2 * j) | none => false) | 3 => true | _ => false) then
    match ldT (opAt ops (n / 4)), argV ops (n / 4) 0 S.E, S.H[j]? with
    | some t, some (.pointer (some ⟨b, off, none⟩)), some (.blk b' cs _) => match readOf P t cs off with
      | some v => some ({ S with E := putO S.E (opAt ops (n / 4)).dst v }, [(addO b, addO b')])
      | none => none
    | _, _, _ => none
  else none
def exS (P : Program) (ops : Array Oper) (N : Nat) (FI : List (Nat × Nat)) (n j : Nat) (S : Sy) : Option (Sy × List (Value × Value)) :=
  bif okOp ops N S.E (n / 4) && Nat.beq (n % 4) 3 && keepOk ops FI S.V [j] (n / 4) then
    match stT (opAt ops (n / 4)), argV ops (n / 4) 0 S.E, argV ops (n / 4) 1 S.E, S.H[j]? with
    | some t, some (.pointer (some ⟨b, off, none⟩)), some v, some (.blk b' cs T) => match oneCells v, writeOf P t cs off v with
      | true, some cs' => some ({ E := putO S.E (opAt ops (n / 4)).dst undef, H := S.H.set j (.blk b' cs' T), V := dV S.V j }, [(addO b, addO b')])
      | _, _ => none
    | _, _, _, _ => none
  else none
def exB (P : Program) (ops : Array Oper) (N n : Nat) (S : Sy) : Option Sy :=
  bif okOp ops N S.E (n / 4) && (match n % 4 with | 0 => true | 3 => true | _ => false) then
    match builtE P (opAt ops (n / 4)) S.E with
    | some cs => some { S with E := putO S.E (opAt ops (n / 4)).dst (.agg cs.toArray) }
    | none => none
  else none
def exE (P : Program) (ops : Array Oper) (N n D : Nat) (x : Int) (S : Sy) : Option (Sy × List (Value × Value)) :=
  bif okOp ops N S.E (n / 4) && (match n % 4 with | 0 => true | 3 => true | _ => false) then
    match cmpNil (opAt ops (n / 4)), argV ops (n / 4) 0 S.E with
    | some (.eql, T), some v => bif isIfaceT P T then some ({ S with E := putO S.E (opAt ops (n / 4)).dst (.bool (x == 0)) }, [(v, errV D x)]) else none
    | some (.neq, T), some v => bif isIfaceT P T then some ({ S with E := putO S.E (opAt ops (n / 4)).dst (.bool (x != 0)) }, [(v, errV D x)]) else none
    | _, _ => none
  else none
def exPs (P : Program) (ops : Array Oper) (N : Nat) (FI : List (Nat × Nat)) : Nat → PT → Sy → Option Sy
  | 0, _, S => some S
  | k + 1, .it n t, S => match exP P ops N FI n S with
    | some S' => exPs P ops N FI k t S'
    | none => none
  | _, _, _ => none
def exec (P : Program) (ops : Array Oper) (N : Nat) (FI : List (Nat × Nat)) : List Hi → PT → Sy → Option (Sy × List (Value × Value))
  | [], _, S => some (S, [])
  | .p k :: hs, t, S => match exPs P ops N FI k t S with
    | some S' => exec P ops N FI hs (t.drop k) S'
    | none => none
  | .l j :: hs, .it n t, S => match exL P ops N FI n j S with
    | some (S', es) => (exec P ops N FI hs t S').map fun r => (r.1, es ++ r.2)
    | none => none
  | .s j :: hs, .it n t, S => match exS P ops N FI n j S with
    | some (S', es) => (exec P ops N FI hs t S').map fun r => (r.1, es ++ r.2)
    | none => none
  | .b :: hs, .it n t, S => match exB P ops N n S with
    | some S' => exec P ops N FI hs t S'
    | none => none
  | .e D x :: hs, .it n t, S => match exE P ops N n D x S with
    | some (S', es) => (exec P ops N FI hs t S').map fun r => (r.1, es ++ r.2)
    | none => none
  | _, _, _ => none

section
variable {P : Program} {C : Ctx} {E : Env} {M M1 : Mem} {H : List Res} {a : Act} {w : World}
variable {ops : Array Oper} {Q : Post} {i : Nat} {FI : List (Nat × Nat)} {V : List Nat} {t : PT}

theorem dr_same {M' : Mem} {H' : List Res} {bl : Nat → Nat} {w1 : World} (hd : Dr V bl w1 M1 M H w) (hm : M.le M') (hH : ∀ j b, footOf H j = some b → footOf H' j = some b) : Dr V bl w1 M1 M' H' w :=
  ⟨hd.rd.grow hm, fun n hn => ⟨hH _ _ (hd.ok n hn).1, (hd.ok n hn).2⟩⟩
theorem ig_yield {n : Nat} {v : Value} (hn : Nat.blt (n / 4) ops.size = true) (hy : ∀ a, EnvOk C.N E a → Yields P ops (opAt ops (n / 4)) v a) (hd : dstLt (opAt ops (n / 4)).dst C.N = true) (hv : ∀ j, n % 4 = 1 → lk FI (n / 4) = some j → 2 * j ∈ V) (hl : n % 4 = 1 → (lk FI (n / 4)).isSome = true)
    (k : IG P ops Q C (putO E (opAt ops (n / 4)).dst v) M H FI V M1 t) : IG P ops Q C E M H FI V M1 (.it n t) := by
  intro w1 bl a w hs hdr
  have hs' : St C (putO E (opAt ops (n / 4)).dst v) M H (a.put (opAt ops (n / 4)).dst v) w := ⟨hs.env.putO hd v, hs.wf, hs.ext⟩
  have hk := k w1 bl _ w hs' hdr
  have hyy := hy a hs.env
  have h4 : n % 4 = 0 ∨ n % 4 = 1 ∨ n % 4 = 2 ∨ n % 4 = 3 := by omega
  rcases h4 with h4 | h4 | h4 | h4
  · rw [pl0 h4]; exact ⟨v, hyy, hk⟩
  · rw [pl1 h4]
    obtain ⟨j, hj⟩ := Option.isSome_iff_exists.1 (hl h4)
    rw [hj]
    have hjv := hv j h4 hj
    have hok := (hdr.ok _ hjv).2 (by omega)
    rw [show 2 * j / 2 = j by omega] at hok
    refine ⟨?_, hok, v, hyy.yieldsIf, hk⟩
    exact List.mem_map.2 ⟨(n / 4, j), lk_mem hj, rfl⟩
  · rw [pl2 h4]
    exact ⟨fun b hb => (hdr.rd b hb).1, v, hyy.yieldsIf, hk⟩
  · rw [pl3 h4]
    exact hyy.wpOp (opAt_eq (Nat.le_of_ble_eq_true hn)) ⟨keep_same, hk⟩
theorem exP_sound {n : Nat} {S S' : Sy} (h : exP P ops C.N FI n S = some S') (k : IG P ops Q C S'.E M S'.H FI S'.V M1 t) : IG P ops Q C S.E M S.H FI S.V M1 (.it n t) := by
  unfold exP at h
  cases hc : (Nat.blt (n / 4) ops.size && (match n % 4 with | 1 => (match lk FI (n / 4) with | some j => S.V.contains (2 * j) | none => false) | _ => true)) with
  | false => rw [hc] at h; cases h
  | true =>
    rw [hc] at h
    simp only [cond_true] at h
    rw [Bool.and_eq_true] at hc
    split at h
    · rename_i v hv
      unfold putS at h
      cases hd : dstLt (opAt ops (n / 4)).dst C.N with
      | false => rw [hd] at h; cases h
      | true =>
        rw [hd] at h
        simp only [cond_true, Option.some.injEq] at h
        subst h
        refine ig_yield hc.1 (fun a ha => stepE_yields ha hv) hd (fun j h1 h2 => ?_) (fun h1 => ?_) k
        · have := hc.2
          rw [h1] at this
          simp only [h2] at this
          simpa using this
        · have := hc.2
          rw [h1] at this
          cases hj : lk FI (n / 4) with
          | none => simp [hj] at this
          | some j => rfl
    · cases h
theorem keeps_same {T : List Nat} : Keeps M H T w M H w := ⟨Mem.le_refl _, fun _ _ => rfl, fun _ _ _ h => ⟨h, rfl⟩⟩
/-- A load out of a block of one's own. -/
theorem ig_load {n j : Nat} {t' : TypeId} {b off : Nat} {v : Value} {cs : List Value} {T : TypeId} (ho : okOp ops C.N E (n / 4) = true) (hc : n % 4 = 3 ∨ (n % 4 = 1 ∧ lk FI (n / 4) = some j ∧ 2 * j ∈ V)) (hk : ldT (opAt ops (n / 4)) = some t') (hx : argV ops (n / 4) 0 E = some (.pointer (some ⟨b, off, none⟩)))
    (hj : H[j]? = some (.blk b cs T)) (hr : readOf P t' cs off = some v) (k : IG P ops Q C (putO E (opAt ops (n / 4)).dst v) M H FI V M1 t) : IG P ops Q C E M H FI V M1 (.it n t) := by
  intro w1 bl a w hs hdr
  have hb : w.heap[b]? = some (.cells cs.toArray T (0, 0)) := hs.wf.holds _ (List.mem_of_getElem? hj)
  have hr' : readOf P t' cs.toArray.toList off = some v := by simpa using hr
  rcases hc with h4 | ⟨h4, h5, h6⟩
  · rw [pl3 h4]
    exact st_load hs ho hk hx hb hr' fun a' hs' => ⟨keep_same, k w1 bl a' w hs' hdr⟩
  · rw [pl1 h4, h5]
    obtain ⟨h7, h8'⟩ := hdr.ok _ h6
    have h8 := h8' (by omega)
    rw [show 2 * j / 2 = j by omega] at h7 h8
    have hfb : bl j = b := by
      unfold footOf at h7
      rw [hj] at h7
      simp only [Res.foot, Option.some.injEq] at h7
      exact h7.symm
    simp only [Option.getD_some]
    rw [hfb] at h8 ⊢
    refine st_loadD hs ho hk hx ?_ (h8.symm.trans hb) hb hr' fun a' hs' => k w1 bl a' w hs' hdr
    exact List.mem_map.2 ⟨(n / 4, j), lk_mem h5, by rw [hfb]⟩
theorem exL_sound {n j : Nat} {S S' : Sy} {es : List (Value × Value)} (h : exL P ops C.N FI n j S = some (S', es)) (he : ∀ x ∈ es, x.1 = x.2) (k : IG P ops Q C S'.E M S'.H FI S'.V M1 t) : IG P ops Q C S.E M S.H FI S.V M1 (.it n t) := by
  unfold exL at h
  cases hc : (okOp ops C.N S.E (n / 4) && (match n % 4 with | 1 => (match lk FI (n / 4) with | some k => Nat.beq k j && S.V.contains (2 * j) | none => false) | 3 => true | _ => false)) with
  | false => rw [hc] at h; cases h
  | true =>
    rw [hc] at h
    simp only [cond_true] at h
    rw [Bool.and_eq_true] at hc
    split at h
    · rename_i t' b off b' cs T h1 h2 h3
      split at h
      · rename_i v hv
        simp only [Option.some.injEq, Prod.mk.injEq] at h
        obtain ⟨rfl, rfl⟩ := h
        have hbb := he _ (List.mem_singleton.2 rfl)
        simp only [addO, Value.pointer.injEq, Option.some.injEq, Addr.mk.injEq, and_true] at hbb
        subst hbb
        refine ig_load hc.1 ?_ h1 h2 h3 hv k
        have h4 : n % 4 = 0 ∨ n % 4 = 1 ∨ n % 4 = 2 ∨ n % 4 = 3 := by omega
        have h5 := hc.2
        rcases h4 with h4 | h4 | h4 | h4
        · simp [h4] at h5
        · right
          simp only [h4] at h5
          cases hl : lk FI (n / 4) with
          | none => simp [hl] at h5
          | some m =>
            simp only [hl, Bool.and_eq_true] at h5
            have := Nat.eq_of_beq_eq_true h5.1
            subst this
            exact ⟨h4, rfl, by simpa using h5.2⟩
        · simp [h4] at h5
        · exact .inl h4
      · cases h
    · cases h
theorem keeps_store {j b : Nat} {cs cs' : List Value} {T : TypeId} {w' : World} (hs : St C E M H a w) (hj : H[j]? = some (.blk b cs T)) (hk : ∀ x, x ≠ b → w'.heap[x]? = w.heap[x]?) : Keeps M H [j] w M (H.set j (.blk b cs' T)) w' := by
  have hf : footOf H j = some b := by unfold footOf; rw [hj]; rfl
  refine ⟨Mem.le_refl _, fun x hx => hk x fun e => ?_, fun m x hm hx => ?_⟩
  · subst e; exact hs.mfoot hx j hf
  · have hne : m ≠ j := fun e => by subst e; simp at hm
    refine ⟨?_, hk x fun e => ?_⟩
    · unfold footOf at hx ⊢
      rw [List.getElem?_set_ne (Ne.symm hne)]
      exact hx
    · subst e
      obtain ⟨r1, h1, h2⟩ := foot_at hx
      exact hs.wf.ne h1 hj hne h2 rfl
theorem ig_store {n j : Nat} {t' : TypeId} {b off : Nat} {v : Value} {cs cs' : List Value} {T : TypeId} (ho : okOp ops C.N E (n / 4) = true) (hc : n % 4 = 3) (hkp : keepOk ops FI V [j] (n / 4) = true) (hk : stT (opAt ops (n / 4)) = some t') (hx : argV ops (n / 4) 0 E = some (.pointer (some ⟨b, off, none⟩))) (hv : argV ops (n / 4) 1 E = some v)
    (h1 : ∀ u ∈ v.cells.toList, u.oneCell' = true) (hj : H[j]? = some (.blk b cs T)) (hw : writeOf P t' cs off v = some cs') (k : IG P ops Q C (putO E (opAt ops (n / 4)).dst undef) M (H.set j (.blk b cs' T)) FI (dV V j) M1 t) : IG P ops Q C E M H FI V M1 (.it n t) := by
  intro w1 bl a w hs hdr
  rw [pl3 hc]
  refine st_store hs j ho hk hx hv h1 hj hw rfl fun a' w' hs' hkx => ?_
  have := dr_store (ops := ops) (FI := FI) (k := n / 4) hdr (keeps_store (cs' := cs') hs hj hkx) (by unfold footOf; rw [hj, List.getElem?_set_self (List.getElem?_eq_some_iff.1 hj).1]; rfl) hkp
  exact ⟨this.1, k w1 bl a' w' hs' this.2⟩
theorem exS_sound {n j : Nat} {S S' : Sy} {es : List (Value × Value)} (h : exS P ops C.N FI n j S = some (S', es)) (he : ∀ x ∈ es, x.1 = x.2) (k : IG P ops Q C S'.E M S'.H FI S'.V M1 t) : IG P ops Q C S.E M S.H FI S.V M1 (.it n t) := by
  unfold exS at h
  cases hc : (okOp ops C.N S.E (n / 4) && Nat.beq (n % 4) 3 && keepOk ops FI S.V [j] (n / 4)) with
  | false => rw [hc] at h; cases h
  | true =>
    rw [hc] at h
    simp only [cond_true] at h
    rw [Bool.and_eq_true, Bool.and_eq_true] at hc
    split at h
    · rename_i t' b off v b' cs T h1 h2 h3 h4
      split at h
      · rename_i cs' ho hw
        simp only [Option.some.injEq, Prod.mk.injEq] at h
        obtain ⟨rfl, rfl⟩ := h
        have hbb := he _ (List.mem_singleton.2 rfl)
        simp only [addO, Value.pointer.injEq, Option.some.injEq, Addr.mk.injEq, and_true] at hbb
        subst hbb
        exact ig_store hc.1.1 (Nat.eq_of_beq_eq_true hc.1.2) hc.2 h1 h2 h3 (List.all_eq_true.1 ho) h4 hw k
      · cases h
    · cases h
/-- From a law of an operation that only reckons. -/
theorem ig_pure {n : Nat} {E' : Env} (hc : n % 4 = 0 ∨ n % 4 = 3) (hn : Nat.blt (n / 4) ops.size = true)
    (h : ∀ a w w1 F p, St C E M H a w → (∀ a', St C E' M H a' w → p.wp P ops Q w1 F a' w) → (Plan.pure (n / 4) p).wp P ops Q w1 F a w) (k : IG P ops Q C E' M H FI V M1 t) : IG P ops Q C E M H FI V M1 (.it n t) := by
  intro w1 bl a w hs hdr
  have := h a w w1 (Fo FI bl M1) (t.pl FI bl) hs fun a' hs' => k w1 bl a' w hs' hdr
  rcases hc with h4 | h4
  · rw [pl0 h4]; exact this
  · rw [pl3 h4]
    obtain ⟨v, hy, hp⟩ := this
    exact hy.wpOp (opAt_eq (Nat.le_of_ble_eq_true hn)) ⟨keep_same, hp⟩
theorem c03 {n : Nat} (h : (match n % 4 with | 0 => true | 3 => true | _ => false) = true) : n % 4 = 0 ∨ n % 4 = 3 := by
  have h4 : n % 4 = 0 ∨ n % 4 = 1 ∨ n % 4 = 2 ∨ n % 4 = 3 := by omega
  rcases h4 with h4 | h4 | h4 | h4
  · exact .inl h4
  · simp [h4] at h
  · simp [h4] at h
  · exact .inr h4
theorem ok_lt {N i : Nat} (h : okOp ops N E i = true) : Nat.blt i ops.size = true := by
  unfold okOp at h
  simp only [Bool.and_eq_true] at h
  exact h.1.1
theorem exB_sound {n : Nat} {S S' : Sy} (h : exB P ops C.N n S = some S') (k : IG P ops Q C S'.E M S'.H FI S'.V M1 t) : IG P ops Q C S.E M S.H FI S.V M1 (.it n t) := by
  unfold exB at h
  cases hc : (okOp ops C.N S.E (n / 4) && (match n % 4 with | 0 => true | 3 => true | _ => false)) with
  | false => rw [hc] at h; cases h
  | true =>
    rw [hc] at h
    simp only [cond_true] at h
    rw [Bool.and_eq_true] at hc
    split at h
    · rename_i cs hb
      simp only [Option.some.injEq] at h
      subst h
      exact ig_pure (c03 hc.2) (ok_lt hc.1) (fun a w w1 F p hs kk => st_build hs hc.1 hb kk) k
    · cases h
theorem exE_sound {n D : Nat} {x : Int} {S S' : Sy} {es : List (Value × Value)} (h : exE P ops C.N n D x S = some (S', es)) (he : ∀ x ∈ es, x.1 = x.2) (k : IG P ops Q C S'.E M S'.H FI S'.V M1 t) : IG P ops Q C S.E M S.H FI S.V M1 (.it n t) := by
  unfold exE at h
  cases hc : (okOp ops C.N S.E (n / 4) && (match n % 4 with | 0 => true | 3 => true | _ => false)) with
  | false => rw [hc] at h; cases h
  | true =>
    rw [hc] at h
    simp only [cond_true] at h
    rw [Bool.and_eq_true] at hc
    split at h
    · rename_i T v h1 h2
      cases hT : isIfaceT P T with
      | false => rw [hT] at h; cases h
      | true =>
        rw [hT] at h
        simp only [cond_true, Option.some.injEq, Prod.mk.injEq] at h
        obtain ⟨rfl, rfl⟩ := h
        have hv := he _ (List.mem_singleton.2 rfl)
        simp only at hv
        subst hv
        exact ig_pure (c03 hc.2) (ok_lt hc.1) (fun a w w1 F p hs kk => st_errnil hs hc.1 h1 hT h2 (.inl ⟨rfl, rfl⟩) kk) k
    · rename_i T v h1 h2
      cases hT : isIfaceT P T with
      | false => rw [hT] at h; cases h
      | true =>
        rw [hT] at h
        simp only [cond_true, Option.some.injEq, Prod.mk.injEq] at h
        obtain ⟨rfl, rfl⟩ := h
        have hv := he _ (List.mem_singleton.2 rfl)
        simp only at hv
        subst hv
        exact ig_pure (c03 hc.2) (ok_lt hc.1) (fun a w w1 F p hs kk => st_errnil hs hc.1 h1 hT h2 (.inr ⟨rfl, rfl⟩) kk) k
    · cases h
theorem exPs_sound : ∀ {k : Nat} {t : PT} {S S' : Sy}, exPs P ops C.N FI k t S = some S' → IG P ops Q C S'.E M S'.H FI S'.V M1 (t.drop k) → IG P ops Q C S.E M S.H FI S.V M1 t
  | 0, t, S, S', h, g => by
    simp only [exPs, Option.some.injEq] at h
    subst h
    simpa [PT.drop] using g
  | k + 1, .it n t, S, S', h, g => by
    simp only [exPs] at h
    split at h
    · rename_i S1 h1
      exact exP_sound h1 (exPs_sound h g)
    · cases h
  | k + 1, .dn, S, S', h, g => by simp [exPs] at h
  | k + 1, .two .., S, S', h, g => by simp [exPs] at h
def cnt : List Hi → Nat
  | [] => 0
  | .p k :: hs => k + cnt hs
  | _ :: hs => 1 + cnt hs
theorem drop_drop : ∀ (k m : Nat) (t : PT), (t.drop k).drop m = t.drop (k + m)
  | 0, m, t => by simp [PT.drop]
  | k + 1, m, .it n t => by
    rw [show k + 1 + m = (k + m) + 1 by omega]
    simp only [PT.drop]
    exact drop_drop k m t
  | k + 1, 0, .dn => by simp [PT.drop]
  | k + 1, m + 1, .dn => by simp [PT.drop]
  | k + 1, 0, .two .. => by simp [PT.drop]
  | k + 1, m + 1, .two .. => by simp [PT.drop]
theorem drop_one (n m : Nat) (t : PT) : (PT.it n t).drop (1 + m) = t.drop m := by rw [Nat.add_comm]; rfl
theorem exec_sound : ∀ {hs : List Hi} {t : PT} {S S' : Sy} {es : List (Value × Value)}, exec P ops C.N FI hs t S = some (S', es) → (∀ x ∈ es, x.1 = x.2) → IG P ops Q C S'.E M S'.H FI S'.V M1 (t.drop (cnt hs)) → IG P ops Q C S.E M S.H FI S.V M1 t
  | [], t, S, S', es, h, _, g => by
    simp only [exec, Option.some.injEq, Prod.mk.injEq] at h
    obtain ⟨rfl, rfl⟩ := h
    simpa [cnt, PT.drop] using g
  | .p k :: hs, t, S, S', es, h, he, g => by
    unfold exec at h
    split at h
    · rename_i S1 h1
      refine exPs_sound h1 (exec_sound h he ?_)
      rw [drop_drop]
      exact g
    · cases h
  | .l j :: hs, .it n t, S, S', es, h, he, g => by
    unfold exec at h
    split at h
    · rename_i S1 es1 h1
      obtain ⟨r, hr, he'⟩ := Option.map_eq_some_iff.1 h
      simp only [Prod.mk.injEq] at he'
      obtain ⟨rfl, rfl⟩ := he'
      refine exL_sound h1 (fun x hx => he x (List.mem_append_left _ hx)) (exec_sound hr (fun x hx => he x (List.mem_append_right _ hx)) ?_)
      simp only [cnt] at g
      rw [drop_one] at g
      exact g
    · cases h
  | .s j :: hs, .it n t, S, S', es, h, he, g => by
    unfold exec at h
    split at h
    · rename_i S1 es1 h1
      obtain ⟨r, hr, he'⟩ := Option.map_eq_some_iff.1 h
      simp only [Prod.mk.injEq] at he'
      obtain ⟨rfl, rfl⟩ := he'
      refine exS_sound h1 (fun x hx => he x (List.mem_append_left _ hx)) (exec_sound hr (fun x hx => he x (List.mem_append_right _ hx)) ?_)
      simp only [cnt] at g
      rw [drop_one] at g
      exact g
    · cases h
  | .b :: hs, .it n t, S, S', es, h, he, g => by
    unfold exec at h
    split at h
    · rename_i S1 h1
      refine exB_sound h1 (exec_sound h he ?_)
      simp only [cnt] at g
      rw [drop_one] at g
      exact g
    · cases h
  | .e D x :: hs, .it n t, S, S', es, h, he, g => by
    unfold exec at h
    split at h
    · rename_i S1 es1 h1
      obtain ⟨r, hr, he'⟩ := Option.map_eq_some_iff.1 h
      simp only [Prod.mk.injEq] at he'
      obtain ⟨rfl, rfl⟩ := he'
      refine exE_sound h1 (fun x hx => he x (List.mem_append_left _ hx)) (exec_sound hr (fun x hx => he x (List.mem_append_right _ hx)) ?_)
      simp only [cnt] at g
      rw [drop_one] at g
      exact g
    · cases h
  | .l _ :: _, .dn, _, _, _, h, _, _ => by simp [exec] at h
  | .l _ :: _, .two .., _, _, _, h, _, _ => by simp [exec] at h
  | .s _ :: _, .dn, _, _, _, h, _, _ => by simp [exec] at h
  | .s _ :: _, .two .., _, _, _, h, _, _ => by simp [exec] at h
  | .b :: _, .dn, _, _, _, h, _, _ => by simp [exec] at h
  | .b :: _, .two .., _, _, _, h, _, _ => by simp [exec] at h
  | .e _ _ :: _, .dn, _, _, _, h, _, _ => by simp [exec] at h
  | .e _ _ :: _, .two .., _, _, _, h, _, _ => by simp [exec] at h
end
end Go.Fx
