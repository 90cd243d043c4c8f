/- Base for printed walks, part M: results that stand in memory. Own work. -/
import Derived.Test.YthpdomeciaafjaaFxL
namespace Go.Fx

section
variable {P : Program} {C : Ctx} {E : Env} {M : Mem} {H : List Res} {a : Act} {w : World}
variable {ops : Array Oper} {Q : Post} {K : Act → World → Prop} {i : Nat} {w1 : World} {F : Fs} {p : Plan}

inductive ResR (P : Program) (E : Env) (H : List Res) : List ResultVar → List Value → Prop where
  | nil : ResR P E H [] []
  | tmp {t : Nat} {v : Value} {rs : List ResultVar} {vs : List Value} (h : E t = some v) (k : ResR P E H rs vs) : ResR P E H (.tmp t :: rs) (v :: vs)
  | cell {s : Nat} {t : TypeId} {v : Value} {rs : List ResultVar} {vs : List Value} (j off : Nat) (h : E s = some (.pointer (some ⟨blkOf H j, off, none⟩))) (hr : readH P H j t off = some v) (k : ResR P E H rs vs) : ResR P E H (.cell s t :: rs) (v :: vs)

theorem readH_run {j t off : Nat} {v : Value} (hw : Wf w M H) (hr : readH P H j t off = some v) : (loadVar t ⟨blkOf H j, off, none⟩).run P w = .ok v w := by
  unfold readH at hr
  split at hr
  · rename_i b cs T hj
    have e : blkOf H j = b := by unfold blkOf; rw [hj]
    rw [e]
    have := hw.holds _ (List.mem_of_getElem? hj)
    exact readOf_run this (by simpa using hr)
  · cases hr

theorem resR_run {f : ResultVar → Sem Value} (hf : ∀ r, f r = match r with | .tmp t => pure (a.tmps.getD t undef) | .cell s t => do loadVar t (← asAddr (a.tmps.getD s undef))) {N : Nat} (ha : EnvOk N E a) (hw : Wf w M H) : ∀ {rs : List ResultVar} {vs : List Value}, ResR P E H rs vs → (rs.mapM f).run P w = .ok vs w
  | [], _, .nil => by simp
  | _ :: rs, _, .tmp h k => by
    have ih := resR_run hf ha hw k
    have e := ha.at_ _ _ h
    simp [List.mapM_cons, hf, ih, e]
  | _ :: rs, _, .cell j off h hr k => by
    have ih := resR_run hf ha hw k
    have e := ha.at_ _ _ h
    simp [List.mapM_cons, hf, ih, e, asAddr, readH_run hw hr]

def packR (vs : List Value) : Value := match vs with | [v] => v | _ => .tuple vs.toArray
theorem resultsR {fn : Func} {rs : List ResultVar} {vs : List Value} {N : Nat} (ha : EnvOk N E a) (hw : Wf w M H) (hr : fn.results = rs.toArray) (h : ResR P E H rs vs) : (results fn a.tmps).run P w = .ok (packR vs) w := by
  unfold results
  rw [hr, List.mapM_toArray]
  have key := fun (f : ResultVar → Sem Value) (hf : ∀ r, f r = match r with | .tmp t => pure (a.tmps.getD t undef) | .cell s t => do loadVar t (← asAddr (a.tmps.getD s undef))) => resR_run (f := f) hf ha hw h
  rw [Sem.run_bind, Sem.run_map, key]
  · simp only [Result.andThen_ok]
    match vs with
    | [] => simp [packR]
    | [v] => simp [packR]
    | v :: u :: vs => simp [packR]
  · intro r
    cases r <;> rfl

theorem st_retH {fn : Func} {R : Value → Mem → List Res → Prop} {A B : List Res} {rs : List ResultVar} {vs : List Value} {v : Value} (hs : St C E M (A ++ B) a w) (hr : fn.results = rs.toArray) (h : ResR P E (A ++ B) rs vs) (hv : packR vs = v) (hR : R v M A) : Done P fn C R .ret a w :=
  ⟨hs.env.defers, v, hv ▸ resultsR hs.env hs.wf hr h, v, M, A, rfl, hR, hs.dropR.wf, hs.dropR.ext⟩
theorem two_intro {i j : Nat} {p q : Plan} (h1 : wpOp P ops Q i (fun a' w' => Keep ops w1 F i w w' ∧ p.wp P ops Q w1 F a' w') a w) (h2 : wpOp P ops Q j (fun a' w' => Keep ops w1 F j w w' ∧ q.wp P ops Q w1 F a' w') a w) : (Plan.two i p j q).wp P ops Q w1 F a w := ⟨h1, h2⟩
end
end Go.Fx
