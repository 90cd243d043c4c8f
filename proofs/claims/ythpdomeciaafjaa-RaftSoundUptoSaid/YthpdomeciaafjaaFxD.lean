/- Base for printed walks, part D: plans for the orders of a region. Own work. -/
import Derived.Test.YthpdomeciaafjaaFxC
namespace Go.Fx

def opAt (ops : Array Oper) (i : Nat) : Oper := (ops[i]?).getD default
/-- Number j waits for number i, by an edge of its own. -/
def direct (ops : Array Oper) (i j : Nat) : Bool :=
  match ops[j]? with
  | some o => o.after.any fun e => Region.binds .any e && e.on == i
  | none => false

/-- Number j waits for number i, by edges. -/
inductive Before (ops : Array Oper) : Nat → Nat → Prop where
  | one {i j : Nat} (h : direct ops i j = true) : Before ops i j
  | step {i k j : Nat} (h : direct ops i k = true) (r : Before ops k j) : Before ops i j
/-- What was carried out before an operation that was carried out, was carried out. -/
def Closed (ops : Array Oper) (l : Array Bool) : Prop := ∀ k o, ops[k]? = some o → l.getD k false = true → ∀ e ∈ o.after, Region.binds .any e = true → l.getD e.on false = true
theorem direct_spec {ops : Array Oper} {i j : Nat} (h : direct ops i j = true) : ∃ o, ops[j]? = some o ∧ ∃ e ∈ o.after, Region.binds .any e = true ∧ e.on = i := by
  unfold direct at h
  split at h
  · rename_i o ho
    obtain ⟨e, he, hb⟩ := Array.any_eq_true'.1 h
    simp only [Bool.and_eq_true, beq_iff_eq] at hb
    exact ⟨o, ho, e, he, hb⟩
  · cases h
theorem Before.listed {ops : Array Oper} {l : Array Bool} (hc : Closed ops l) {i j : Nat} (h : Before ops i j) : (∀ o, ops[j]? = some o → ∀ e ∈ o.after, Region.binds .any e = true → l.getD e.on false = true) → l.getD i false = true := by
  induction h with
  | one h =>
    intro hj
    obtain ⟨o, ho, e, he, hb, rfl⟩ := direct_spec h
    exact hj o ho e he hb
  | step h _ ih =>
    intro hj
    obtain ⟨o, ho, e, he, hb, rfl⟩ := direct_spec h
    exact hc _ o ho (ih hj) e he hb
theorem Closed.set {ops : Array Oper} {l : Array Bool} (hc : Closed ops l) {j : Nat} (hj : j ∈ Region.ready .any ops l) : Closed ops (l.setIfInBounds j true) := by
  have up : ∀ k, l.getD k false = true → (l.setIfInBounds j true).getD k false = true := by
    intro k hk
    by_cases hkj : j = k
    · subst hkj
      have hlt : j < l.size := by
        rcases Nat.lt_or_ge j l.size with h | h
        · exact h
        · simp [Array.getElem?_eq_none h] at hk
      simp [hlt]
    · rw [getD_set_ne false hkj]; exact hk
  intro k o ho hk e he hb
  by_cases hkj : j = k
  · subst hkj
    obtain ⟨_, o', ho', hall⟩ := mem_ready.1 hj
    rw [ho] at ho'
    cases ho'
    exact up _ (hall e he hb)
  · rw [getD_set_ne false hkj] at hk
    exact up _ (hc k o ho hk e he hb)
theorem Closed.init {ops : Array Oper} {n : Nat} : Closed ops (Array.replicate n false) := by
  intro k o _ hk
  exfalso
  rcases Nat.lt_or_ge k n with h | h
  · simp [h] at hk
  · simp [Array.getElem?_eq_none (show (Array.replicate n false).size ≤ k by simpa using h)] at hk

/-- What is still to be read: blocks, each by its reader; and blocks that nobody writes. -/
structure Fs where
  l : List (Nat × Nat)
  R : Nat → Prop
def Fs.none : Fs := ⟨[], fun _ => False⟩
/-- Blocks that are still to be read by those that may come later stay. -/
def Keep (ops : Array Oper) (w1 : World) (F : Fs) (j : Nat) (w w' : World) : Prop :=
  ((∀ b, F.R b → w.heap[b]? = w1.heap[b]?) → ∀ b, F.R b → w'.heap[b]? = w1.heap[b]?) ∧ ∀ x ∈ F.l, ¬ Before ops x.1 j → w.heap[x.2]? = w1.heap[x.2]? → w'.heap[x.2]? = w1.heap[x.2]?

section
variable {P : Program} {ops : Array Oper} {Q : Post} {w1 : World} {F : Fs}

def wpG (P : Program) (ops : Array Oper) (Q : Post) (w1 : World) (F : Fs) : Nat → Array Bool → Act → World → Prop
  | 0, listed, a, w => Region.ready .any ops listed = [] ∧ Q .normal a w
  | n + 1, listed, a, w =>
    (Region.ready .any ops listed = [] → Q .normal a w) ∧
    ∀ j ∈ Region.ready .any ops listed, wpOp P ops Q j (fun a' w' => Keep ops w1 F j w w' ∧ wpG P ops Q w1 F n (listed.setIfInBounds j true) a' w') a w

theorem wpAny_of_G : ∀ (n : Nat) (listed : Array Bool) (a : Act) (w : World), wpG P ops Q w1 F n listed a w → wpAny P .any ops Q n listed a w
  | 0, _, _, _, h => h
  | n + 1, _, _, _, h => ⟨h.1, fun i hi => wpOp_mono (fun a' w' h' => wpAny_of_G n _ a' w' h'.2) (h.2 i hi)⟩

theorem wpG_first {i : Nat} {oi : Oper} {v : Value} {S : World → Prop} (hi : ops[i]? = some oi) (hsel : ∀ (j : Nat) (o : Oper) cs b, ops[j]? = some o → o.op ≠ .select cs b)
    (hQ : ∀ c a w, Q (.panic c) (a.put oi.dst v) w → Q (.panic c) a w) (hSK : ∀ j w w', ¬ Before ops i j → Keep ops w1 F j w w' → S w → S w') :
    ∀ (n : Nat) (listed : Array Bool) (a : Act) (w : World), Closed ops listed →
      (∀ j oj, ops[j]? = some oj → j ≠ i → listed.getD j true = false → (∀ e ∈ oj.after, Region.binds .any e = true → e.on ≠ i) → oi.apart ops oj = true) →
      i ∈ Region.ready .any ops listed → YieldsIf P ops S oi v a → S w →
      (∀ w', S w' → Keep ops w1 F i w' w') →
      wpG P ops Q w1 F n (listed.setIfInBounds i true) (a.put oi.dst v) w → wpG P ops Q w1 F (n + 1) listed a w := by
  intro n
  induction n with
  | zero =>
    intro listed a w _ _ hr hy hS hK H
    refine ⟨fun h => (by rw [h] at hr; cases hr), fun j hj => ?_⟩
    by_cases hji : j = i
    · subst hji; exact hy.wpOp hi hS ⟨hK w hS, H⟩
    · have := ready_mono hj hji
      rw [H.1] at this
      cases this
  | succ n ih =>
    intro listed a w hcl hfree hr hy hS hK H
    refine ⟨fun h => (by rw [h] at hr; cases hr), fun j hj => ?_⟩
    by_cases hji : j = i
    · subst hji; exact hy.wpOp hi hS ⟨hK w hS, H⟩
    · have h1 := H.2 j (ready_mono hj hji)
      obtain ⟨hjun, oj, hoj, hall⟩ := mem_ready.1 hj
      have hnot : ∀ e ∈ oj.after, Region.binds .any e = true → e.on ≠ i := fun e he hb heq => by
        have h1 := hall e he hb
        have h0 := (mem_ready.1 hr).1
        rw [heq] at h1
        rcases Nat.lt_or_ge i listed.size with h' | h'
        · simp [h'] at h0 h1; rw [h0] at h1; cases h1
        · simp [Array.getElem?_eq_none h'] at h1
      have hdir : ¬ Before ops i j := fun hb => by
        have h1 := hb.listed hcl fun o ho e he hbb => by
          rw [hoj] at ho
          cases ho
          exact hall e he hbb
        have h0 := (mem_ready.1 hr).1
        rcases Nat.lt_or_ge i listed.size with h' | h'
        · simp [h'] at h0 h1; rw [h0] at h1; cases h1
        · simp [Array.getElem?_eq_none h'] at h1
      have h2 := wpOp_putIf hoj (hfree j oj hoj hji hjun hnot) (fun cs b => hsel i oi cs b hi) (fun cs b => hsel j oj cs b hoj) hQ hy h1
      have hfree' : ∀ k ok, ops[k]? = some ok → k ≠ i → (listed.setIfInBounds j true).getD k true = false →
          (∀ e ∈ ok.after, Region.binds .any e = true → e.on ≠ i) → oi.apart ops ok = true := fun k ok hk hki hun hno => by
        refine hfree k ok hk hki ?_ hno
        by_cases hjk : j = k
        · subst hjk; exact hjun
        · rw [getD_set_ne true hjk] at hun; exact hun
      refine wpOp_mono (fun a' w' h3 => ⟨h3.2.1, ih (listed.setIfInBounds j true) a' w' (hcl.set hj) hfree' (ready_mono hr (Ne.symm hji)) h3.1 (hSK j w w' hdir h3.2.1 hS) hK ?_⟩) h2
      rw [Array.setIfInBounds_comm _ _ hji]
      exact h3.2.2

inductive Plan where
  | done
  | pure (i : Nat) (p : Plan)
  | load (i : Nat) (b : Nat) (p : Plan)
  | read (i : Nat) (p : Plan)
  | eff (i : Nat) (p : Plan)
  | two (i : Nat) (p : Plan) (j : Nat) (q : Plan)

def Plan.wp (P : Program) (ops : Array Oper) (Q : Post) (w1 : World) (F : Fs) : Plan → Act → World → Prop
  | .done, a, w => Q .normal a w
  | .pure i p, a, w => ∃ v, Yields P ops (opAt ops i) v a ∧ p.wp P ops Q w1 F (a.put (opAt ops i).dst v) w
  | .load i b p, a, w => (i, b) ∈ F.l ∧ w.heap[b]? = w1.heap[b]? ∧ ∃ v, YieldsIf P ops (fun w' => w'.heap[b]? = w1.heap[b]?) (opAt ops i) v a ∧ p.wp P ops Q w1 F (a.put (opAt ops i).dst v) w
  | .read i p, a, w => (∀ b, F.R b → w.heap[b]? = w1.heap[b]?) ∧ ∃ v, YieldsIf P ops (fun w' => ∀ b, F.R b → w'.heap[b]? = w1.heap[b]?) (opAt ops i) v a ∧ p.wp P ops Q w1 F (a.put (opAt ops i).dst v) w
  | .eff i p, a, w => wpOp P ops Q i (fun a' w' => Keep ops w1 F i w w' ∧ p.wp P ops Q w1 F a' w') a w
  | .two i p j q, a, w => wpOp P ops Q i (fun a' w' => Keep ops w1 F i w w' ∧ p.wp P ops Q w1 F a' w') a w ∧ wpOp P ops Q j (fun a' w' => Keep ops w1 F j w w' ∧ q.wp P ops Q w1 F a' w') a w

def Plan.okD (ops : Array Oper) : Plan → Nat → Array Bool → Bool
  | .done, _, l => Region.ready .any ops l == []
  | .pure i p, n + 1, l => decide (i < ops.size) && Region.free .any ops l i && (Region.ready .any ops l).contains i && p.okD ops n (l.setIfInBounds i true)
  | .load i _ p, n + 1, l => decide (i < ops.size) && Region.free .any ops l i && (Region.ready .any ops l).contains i && p.okD ops n (l.setIfInBounds i true)
  | .read i p, n + 1, l => decide (i < ops.size) && Region.free .any ops l i && (Region.ready .any ops l).contains i && p.okD ops n (l.setIfInBounds i true)
  | .eff i p, n + 1, l => (Region.ready .any ops l == [i]) && p.okD ops n (l.setIfInBounds i true)
  | .two i p j q, n + 1, l => (Region.ready .any ops l == [i, j]) && p.okD ops n (l.setIfInBounds i true) && q.okD ops n (l.setIfInBounds j true)
  | _, 0, _ => false

theorem opAt_eq {i : Nat} (h : i < ops.size) : ops[i]? = some (opAt ops i) := by simp [opAt, h]

theorem Plan.soundD (hs : Region.noSelect ops = true) (hQ : Plain Q) : ∀ (p : Plan) (n : Nat) (l : Array Bool) (a : Act) (w : World), Closed ops l → p.okD ops n l = true → p.wp P ops Q w1 F a w → wpG P ops Q w1 F n l a w
  | .done, n, l, a, w, hcl, ho, h => by
    have hr : Region.ready .any ops l = [] := by unfold Plan.okD at ho; simpa using ho
    cases n with
    | zero => exact ⟨hr, h⟩
    | succ n => exact ⟨fun _ => h, by rw [hr]; simp⟩
  | .pure i p, n + 1, l, a, w, hcl, ho, h => by
    simp only [Plan.okD, Bool.and_eq_true, decide_eq_true_eq] at ho
    obtain ⟨⟨⟨h1, h2⟩, h3⟩, h4⟩ := ho
    obtain ⟨v, hy, hp⟩ := h
    refine wpG_first (S := fun _ => True) (opAt_eq h1) (Region.noSelect_spec hs) (fun c a w hq => absurd hq ((hQ _ _).2.2 c)) (fun _ _ _ _ _ _ => trivial) n l a w hcl
      (Region.free_spec (opAt_eq h1) h2) (by simpa using h3) hy.yieldsIf trivial (fun w' _ => ⟨id, fun x hx hd => id⟩) (Plan.soundD hs hQ p n _ _ _ (hcl.set (by simpa using h3)) h4 hp)
  | .load i b p, n + 1, l, a, w, hcl, ho, h => by
    simp only [Plan.okD, Bool.and_eq_true, decide_eq_true_eq] at ho
    obtain ⟨⟨⟨h1, h2⟩, h3⟩, h4⟩ := ho
    obtain ⟨hF, hb, v, hy, hp⟩ := h
    refine wpG_first (S := fun w' => w'.heap[b]? = w1.heap[b]?) (opAt_eq h1) (Region.noSelect_spec hs) (fun c a w hq => absurd hq ((hQ _ _).2.2 c)) (fun j w w' hd hk hw => hk.2 (i, b) hF hd hw) n l a w hcl
      (Region.free_spec (opAt_eq h1) h2) (by simpa using h3) hy hb (fun w' _ => ⟨id, fun x hx hd => id⟩) (Plan.soundD hs hQ p n _ _ _ (hcl.set (by simpa using h3)) h4 hp)
  | .read i p, n + 1, l, a, w, hcl, ho, h => by
    simp only [Plan.okD, Bool.and_eq_true, decide_eq_true_eq] at ho
    obtain ⟨⟨⟨h1, h2⟩, h3⟩, h4⟩ := ho
    obtain ⟨hb, v, hy, hp⟩ := h
    refine wpG_first (S := fun w' => ∀ b, F.R b → w'.heap[b]? = w1.heap[b]?) (opAt_eq h1) (Region.noSelect_spec hs) (fun c a w hq => absurd hq ((hQ _ _).2.2 c)) (fun j w w' _ hk hw => hk.1 hw) n l a w hcl
      (Region.free_spec (opAt_eq h1) h2) (by simpa using h3) hy hb (fun w' _ => ⟨id, fun x hx hd => id⟩) (Plan.soundD hs hQ p n _ _ _ (hcl.set (by simpa using h3)) h4 hp)
  | .eff i p, n + 1, l, a, w, hcl, ho, h => by
    simp only [Plan.okD, Bool.and_eq_true, beq_iff_eq] at ho
    refine ⟨(fun hr => by rw [ho.1] at hr; cases hr), fun j hj => ?_⟩
    rw [ho.1, List.mem_singleton] at hj
    subst hj
    exact wpOp_mono (fun a' w' h' => ⟨h'.1, Plan.soundD hs hQ p n _ _ _ (hcl.set (by rw [ho.1]; simp)) ho.2 h'.2⟩) h
  | .two i p j q, n + 1, l, a, w, hcl, ho, h => by
    simp only [Plan.okD, Bool.and_eq_true, beq_iff_eq] at ho
    refine ⟨(fun hr => by rw [ho.1.1] at hr; cases hr), fun k hk => ?_⟩
    rw [ho.1.1, List.mem_cons, List.mem_singleton] at hk
    rcases hk with rfl | rfl
    · exact wpOp_mono (fun a' w' h' => ⟨h'.1, Plan.soundD hs hQ p n _ _ _ (hcl.set (by rw [ho.1.1]; simp)) ho.1.2 h'.2⟩) h.1
    · exact wpOp_mono (fun a' w' h' => ⟨h'.1, Plan.soundD hs hQ q n _ _ _ (hcl.set (by rw [ho.1.1]; simp)) ho.2 h'.2⟩) h.2
  | .pure _ _, 0, _, _, _, _, ho, _ => by simp [Plan.okD] at ho
  | .load _ _ _, 0, _, _, _, _, ho, _ => by simp [Plan.okD] at ho
  | .read _ _, 0, _, _, _, _, ho, _ => by simp [Plan.okD] at ho
  | .eff _ _, 0, _, _, _, _, ho, _ => by simp [Plan.okD] at ho
  | .two _ _ _ _, 0, _, _, _, _, ho, _ => by simp [Plan.okD] at ho

def Plan.okS (ops : Array Oper) : Plan → Nat → Bool
  | .done, i => i == ops.size
  | .pure j p, i => (i == j) && decide (i < ops.size) && p.okS ops (i + 1)
  | .eff j p, i => (i == j) && decide (i < ops.size) && p.okS ops (i + 1)
  | _, _ => false

theorem Plan.soundS : ∀ (p : Plan) (i : Nat) (a : Act) (w : World), p.okS ops i = true → p.wp P ops Q w1 F a w → wpOps P ops Q (List.range' i (ops.size - i)) a w
  | .done, i, a, w, ho, h => by
    simp only [Plan.okS, beq_iff_eq] at ho
    subst ho
    simp only [Nat.sub_self, List.range'_zero, wpOps]
    exact h
  | .pure j p, i, a, w, ho, h => by
    simp only [Plan.okS, Bool.and_eq_true, beq_iff_eq, decide_eq_true_eq] at ho
    obtain ⟨⟨rfl, h1⟩, h2⟩ := ho
    obtain ⟨v, hy, hp⟩ := h
    rw [show ops.size - i = (ops.size - (i + 1)) + 1 by omega, List.range'_succ, wpOps_cons]
    exact hy.wpOp (opAt_eq h1) (Plan.soundS p (i + 1) _ _ h2 hp)
  | .eff j p, i, a, w, ho, h => by
    simp only [Plan.okS, Bool.and_eq_true, beq_iff_eq, decide_eq_true_eq] at ho
    obtain ⟨⟨rfl, h1⟩, h2⟩ := ho
    rw [show ops.size - i = (ops.size - (i + 1)) + 1 by omega, List.range'_succ, wpOps_cons]
    exact wpOp_mono (fun a' w' h' => Plan.soundS p (i + 1) _ _ h2 h'.2) h
  | .load _ _ _, _, _, _, ho, _ => by simp [Plan.okS] at ho
  | .read _ _, _, _, _, ho, _ => by simp [Plan.okS] at ho
  | .two _ _ _ _, _, _, _, ho, _ => by simp [Plan.okS] at ho

theorem keep_nil {j : Nat} {w w' : World} : Keep ops w1 .none j w w' := ⟨fun _ _ h => h.elim, fun x hx => by cases hx⟩

/-- Operations that only reckon, one behind the other. -/
def Plan.pures (l : List Nat) (p : Plan) : Plan := l.foldr Plan.pure p

def wantE (ops : Array Oper) (E : Env) (i : Nat) : Option Bool :=
  match (opAt ops i).guard with
  | none => some true
  | some (g, want) => match (opAt ops g).dst with
    | some t => match E t with
      | some (.bool b) => some (b == want)
      | some (.tuple _) => some false
      | _ => none
    | none => none
theorem wantE_eq {N : Nat} {E : Env} {a : Act} (ha : EnvOk N E a) {i : Nat} {b : Bool} (h : wantE ops E i = some b) : Region.wanted (opAt ops i) (yielded ops a.tmps) = b := by
  unfold wantE at h
  unfold Region.wanted
  split at h
  · rename_i hg; rw [hg]; simp only [Option.some.injEq] at h; exact h
  · rename_i g want hg
    rw [hg]
    split at h
    · rename_i t ht
      split at h
      · rename_i b' hb
        simp only [Option.some.injEq] at h
        have h1 := ha.at_ t _ hb
        have h2 := ha.lt t _ hb
        have h3 : a.tmps[t]? = some (.bool b') := by
          have hs : t < a.tmps.size := by rw [ha.size]; exact h2
          rw [Array.getElem?_eq_getElem hs]
          rw [Array.getD_eq_getD_getElem?, Array.getElem?_eq_getElem hs] at h1
          simpa using h1
        have h4 : (ops[g]?).bind (·.dst) = some t := by
          unfold opAt at ht
          cases ho : ops[g]? with
          | none => rw [ho] at ht; cases ht
          | some o => rw [ho] at ht; exact ht
        have : yielded ops a.tmps g = some b' := by unfold yielded; rw [h4]; simp [h3]
        show (yielded ops a.tmps g == some want) = b
        rw [this]
        simpa using h
      · rename_i b' hb
        simp only [Option.some.injEq] at h
        have h1 := ha.at_ t _ hb
        have h2 := ha.lt t _ hb
        have h3 : a.tmps[t]? = some (.tuple b') := by
          have hs : t < a.tmps.size := by rw [ha.size]; exact h2
          rw [Array.getElem?_eq_getElem hs]
          rw [Array.getD_eq_getD_getElem?, Array.getElem?_eq_getElem hs] at h1
          simpa using h1
        have h4 : (ops[g]?).bind (·.dst) = some t := by
          unfold opAt at ht
          cases ho : ops[g]? with
          | none => rw [ho] at ht; cases ht
          | some o => rw [ho] at ht; exact ht
        have : yielded ops a.tmps g = none := by unfold yielded; rw [h4]; simp [h3]
        show (yielded ops a.tmps g == some want) = b
        rw [this, ← h]
        rfl
      · cases h
    · cases h

/-- What an operation that only reckons leaves. -/
def stepE (P : Program) (ops : Array Oper) (E : Env) (i : Nat) : Option Value :=
  match wantE ops E i with
  | some true => pureOp P E (opAt ops i)
  | some false => some undef
  | none => none
theorem stepE_yields {N : Nat} {E : Env} {a : Act} (ha : EnvOk N E a) {i : Nat} {v : Value} (h : stepE P ops E i = some v) : Yields P ops (opAt ops i) v a := by
  unfold stepE at h
  split at h
  · rename_i hw; exact .inl ⟨wantE_eq ha hw, fun w => pureOp_run ha h w⟩
  · rename_i hw; simp only [Option.some.injEq] at h; exact .inr ⟨wantE_eq ha hw, h.symm⟩
  · cases h

def putO (E : Env) (d : Option Nat) (v : Value) : Env := match d with | some d => E.put d v | none => E
def dstLt (d : Option Nat) (N : Nat) : Bool := match d with | some d => Nat.blt d N | none => true
theorem EnvOk.putO {N : Nat} {E : Env} {a : Act} (h : EnvOk N E a) {d : Option Nat} (hd : dstLt d N = true) (v : Value) : EnvOk N (putO E d v) (a.put d v) := by
  cases d with
  | none => exact h
  | some d => exact h.put (Nat.le_of_ble_eq_true hd) v

/-- The slots behind some operations that only reckon. -/
def runE (P : Program) (ops : Array Oper) (N : Nat) : Env → List Nat → Option Env
  | E, [] => some E
  | E, i :: l => match stepE P ops E i with
    | some v => bif dstLt (opAt ops i).dst N then runE P ops N (putO E (opAt ops i).dst v) l else none
    | none => none
def envOf (P : Program) (ops : Array Oper) (N : Nat) (E : Env) (l : List Nat) : Env := (runE P ops N E l).getD E

theorem wp_pures {N : Nat} : ∀ (l : List Nat) {E : Env} {a : Act} {w : World} {p : Plan}, EnvOk N E a → (runE P ops N E l).isSome = true →
    (∀ a', EnvOk N (envOf P ops N E l) a' → p.wp P ops Q w1 F a' w) → (Plan.pures l p).wp P ops Q w1 F a w
  | [], E, a, w, p, ha, _, h => h a (by simpa [envOf, runE] using ha)
  | i :: l, E, a, w, p, ha, hs, h => by
    simp only [runE] at hs
    cases hv : stepE P ops E i with
    | none => rw [hv] at hs; cases hs
    | some v =>
      rw [hv] at hs
      cases hd : dstLt (opAt ops i).dst N with
      | false => rw [hd] at hs; cases hs
      | true =>
        rw [hd] at hs
        refine ⟨v, stepE_yields ha hv, wp_pures l (ha.putO hd v) hs fun a' h' => h a' ?_⟩
        have : envOf P ops N E (i :: l) = envOf P ops N (putO E (opAt ops i).dst v) l := by
          unfold envOf
          simp only [runE, hv, hd, cond_true]
          simp only [cond_true] at hs
          obtain ⟨E', hE⟩ := Option.isSome_iff_exists.1 hs
          rw [hE]; rfl
        rw [this]
        exact h'
end

def noSel (ops : Array Oper) : Bool := Region.noSelect ops
def opsAt (c : Code) (p : Path) : Array Oper := match subc c p with | some (.region _ ops _) => ops | _ => #[]
theorem at_regS {P : Program} {c : Code} {p : Path} {Q : Post} {a : Act} {w : World} (pl : Plan) (hk : (regOps c p).isSome = true) (ho : pl.okS (opsAt c p) 0 = true)
    (h : pl.wp P (opsAt c p) (kont P c p Q) w .none a w) : At P c p Q a w := by
  unfold regOps at hk
  split at hk
  · rename_i id ops hs
    have e : opsAt c p = ops := by unfold opsAt; rw [hs]
    rw [e] at ho h
    unfold At
    rw [hs]
    refine wp_region ?_
    have := Plan.soundS pl 0 a w ho h
    rw [List.range_eq_range']
    simpa using this
  · cases hk
theorem at_regD {P : Program} {c : Code} {p : Path} {Q : Post} {a : Act} {w : World} (pl : Plan) (F : Fs) (hm : P.follows .mixedOrders = true) (hQ : Plain Q) (hk : (regDraw c p).isSome = true)
    (ho : (Region.noSelect (opsAt c p) && pl.okD (opsAt c p) (opsAt c p).size (Array.replicate (opsAt c p).size false)) = true)
    (h : pl.wp P (opsAt c p) (kont P c p Q) { w with drawn := w.drawn + 1 } F a { w with drawn := w.drawn + 1 }) : At P c p Q a w := by
  unfold regDraw at hk
  split at hk
  · rename_i id ops hs
    have e : opsAt c p = ops := by unfold opsAt; rw [hs]
    rw [e] at ho h
    simp only [Bool.and_eq_true] at ho
    unfold At
    rw [hs]
    exact wp_region_any hm (wpAny_of_G _ _ _ _ (Plan.soundD ho.1 (kont_plain p c hQ) pl _ _ _ _ Closed.init ho.2 h))
  · cases hk
/-- What comes behind a region. -/
theorem kn_next {P : Program} {c : Code} {p : Path} {Q : Post} {a : Act} {w : World} (p' : Path) (hk : (subc c p).isSome = true) (hn : nextN c p = some p') (h : At P c p' Q a w) : kont P c p Q .normal a w := by
  obtain ⟨d, hd⟩ := Option.isSome_iff_exists.1 hk
  exact of_next p' hn hd h
theorem kn_end {P : Program} {c : Code} {p : Path} {Q : Post} {a : Act} {w : World} (hk : (subc c p).isSome = true) (hn : nextN c p = none) (h : Q .normal a w) : kont P c p Q .normal a w := by
  obtain ⟨d, hd⟩ := Option.isSome_iff_exists.1 hk
  exact of_end hn hd h

end Go.Fx
