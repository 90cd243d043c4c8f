/- Base for printed walks, part F: calls and contracts; indexing; building; rows; appending. Own work. -/
import Derived.Test.YthpdomeciaafjaaFxE
namespace Go.Fx

/-- What a function does: for whatever world in which M stands and H may be written. -/
def FnOk (P : Program) (f : FuncId) (args : List Value) (M : Mem) (H : List Res) (R : Value → Mem → List Res → Prop) : Prop :=
  ∀ w, Wf w M H → Calls P f args.toArray w fun e w' => ∃ v M' H', e = .returned v ∧ R v M' H' ∧ Wf w' M' H' ∧ Ext w M H w' M' H'

def Done (P : Program) (fn : Func) (C : Ctx) (R : Value → Mem → List Res → Prop) : Post :=
  bodyPost P fn fun e w' => ∃ v M' H', e = .returned v ∧ R v M' H' ∧ Wf w' M' H' ∧ Ext C.w0 C.M0 C.H0 w' M' H'
theorem plain_done {P : Program} {fn : Func} {C : Ctx} {R : Value → Mem → List Res → Prop} : Plain (Done P fn C R) := by
  intro a w
  refine ⟨fun l h => h, fun h => ?_, fun c h => ?_⟩
  · obtain ⟨v, M', H', e, _⟩ := h; cases e
  · obtain ⟨_, v, M', H', e, _⟩ := h; cases e

def envFrom : Nat → List Value → Env
  | _, [] => fun _ => none
  | i, v :: vs => (envFrom (i + 1) vs).put i v
theorem envFrom_lt : ∀ (vs : List Value) (i t : Nat) (u : Value), envFrom i vs t = some u → i ≤ t ∧ vs[t - i]? = some u
  | [], i, t, u, h => by cases h
  | v :: vs, i, t, u, h => by
    simp only [envFrom, Env.put] at h
    cases hb : Nat.beq t i with
    | true =>
      have : t = i := Nat.eq_of_beq_eq_true hb
      subst this
      rw [hb] at h
      simp only [cond_true, Option.some.injEq] at h
      subst h
      simp
    | false =>
      rw [hb] at h
      have := envFrom_lt vs (i + 1) t u h
      refine ⟨by omega, ?_⟩
      rw [show t - i = (t - (i + 1)) + 1 by omega]
      simpa using this.2

theorem fn_intro {P : Program} {f : FuncId} {fn : Func} {c : Code} {args : List Value} {M : Mem} {H : List Res} {R : Value → Mem → List Res → Prop} (hf : P.funcs[f]? = some fn) (hb : fn.body = some c) (hl : Nat.ble args.length fn.ntmps = true)
    (h : ∀ (w : World) (a : Act), St ⟨fn.ntmps, w, M, H⟩ (envFrom 0 args) M H a w → At P c [] (Done P fn ⟨fn.ntmps, w, M, H⟩ R) a w) : FnOk P f args M H R := by
  intro w hw
  have hl' : args.length ≤ fn.ntmps := Nat.le_of_ble_eq_true hl
  refine calls_of_wp hf hb ?_
  have := h w { tmps := args.toArray ++ Array.replicate (fn.ntmps - args.toArray.size) undef, defers := [] } ⟨⟨by simp; omega, rfl, ?_, ?_⟩, hw, Ext.refl _ _ _⟩
  · rw [At.nil] at this
    exact this
  · intro t v e
    have := (envFrom_lt args 0 t v e).2
    simp only [Nat.sub_zero] at this
    rw [Array.getD_eq_getD_getElem?, Array.getElem?_append_left (by have := (List.getElem?_eq_some_iff.1 this).1; simpa using this)]
    simp [this]
  · intro t v e
    have := (envFrom_lt args 0 t v e).2
    have := (List.getElem?_eq_some_iff.1 this).1
    show t < fn.ntmps
    omega

def resE (fn : Func) (E : Env) : Option Value :=
  match fn.results.toList with
  | [] => some (.tuple #[])
  | [.tmp t] => E t
  | [.tmp t, .tmp u] => match E t, E u with
    | some v, some x => some (.tuple #[v, x])
    | _, _ => none
  | [.tmp t, .tmp u, .tmp s] => match E t, E u, E s with
    | some v, some x, some y => some (.tuple #[v, x, y])
    | _, _, _ => none
  | [.tmp t, .tmp u, .tmp s, .tmp r] => match E t, E u, E s, E r with
    | some v, some x, some y, some z => some (.tuple #[v, x, y, z])
    | _, _, _, _ => none
  | _ => none
theorem resE_run {P : Program} {fn : Func} {N : Nat} {E : Env} {a : Act} {v : Value} (ha : EnvOk N E a) (h : resE fn E = some v) (w : World) : (results fn a.tmps).run P w = .ok v w := by
  unfold resE at h
  split at h
  · rename_i hr
    simp only [Option.some.injEq] at h
    subst h
    have : fn.results = #[] := by apply Array.ext'; simpa using hr
    simp [results, this]
  · rename_i t hr
    have : fn.results = #[.tmp t] := by apply Array.ext'; simpa using hr
    have e := ha.at_ _ _ h
    simp [results, this, ← e]
  · rename_i t u hr
    have : fn.results = #[.tmp t, .tmp u] := by apply Array.ext'; simpa using hr
    split at h
    · rename_i v1 v2 h1 h2
      simp only [Option.some.injEq] at h
      subst h
      have e1 := ha.at_ _ _ h1
      have e2 := ha.at_ _ _ h2
      simp [results, this, ← e1, ← e2]
    · cases h
  · rename_i t u s hr
    have : fn.results = #[.tmp t, .tmp u, .tmp s] := by apply Array.ext'; simpa using hr
    split at h
    · rename_i v1 v2 v3 h1 h2 h3
      simp only [Option.some.injEq] at h
      subst h
      have e1 := ha.at_ _ _ h1
      have e2 := ha.at_ _ _ h2
      have e3 := ha.at_ _ _ h3
      simp [results, this, ← e1, ← e2, ← e3]
    · cases h
  · rename_i t u s r hr
    have : fn.results = #[.tmp t, .tmp u, .tmp s, .tmp r] := by apply Array.ext'; simpa using hr
    split at h
    · rename_i v1 v2 v3 v4 h1 h2 h3 h4
      simp only [Option.some.injEq] at h
      subst h
      have e1 := ha.at_ _ _ h1
      have e2 := ha.at_ _ _ h2
      have e3 := ha.at_ _ _ h3
      have e4 := ha.at_ _ _ h4
      simp [results, this, ← e1, ← e2, ← e3, ← e4]
    · cases h
  · cases h

section
variable {P : Program} {C : Ctx} {E : Env} {M : Mem} {H : List Res} {a : Act} {w : World}

theorem St.less (h : St C E M H a w) : St C E C.M0 H a w := ⟨h.env, h.wf.less h.ext.mem, h.ext.less (Mem.le_refl _) h.ext.mem⟩
theorem st_ret {fn : Func} {R : Value → Mem → List Res → Prop} {v : Value} (hs : St C E M H a w) (hv : resE fn E = some v) (hR : R v M H) : Done P fn C R .ret a w :=
  ⟨hs.env.defers, v, resE_run hs.env hv w, v, M, H, rfl, hR, hs.wf, hs.ext⟩
theorem st_end {fn : Func} {R : Value → Mem → List Res → Prop} {v : Value} (hs : St C E M H a w) (hv : resE fn E = some v) (hR : R v M H) : Done P fn C R .normal a w :=
  ⟨hs.env.defers, v, resE_run hs.env hv w, v, M, H, rfl, hR, hs.wf, hs.ext⟩

def sel (H : List Res) (l : List Nat) : List Res := l.filterMap (H[·]?)
theorem sel_range : ∀ (H : List Res), sel H (List.range H.length) = H
  | [] => rfl
  | r :: H => by
    have ih := sel_range H
    unfold sel at ih ⊢
    rw [List.length_cons, List.range_succ_eq_map, List.filterMap_cons]
    simp only [List.getElem?_cons_zero, List.filterMap_map]
    congr 1
theorem sel_perm {l : List Nat} (h : l.isPerm (List.range H.length) = true) : H.Perm (sel H l) := by
  have h1 := List.isPerm_iff.1 h
  have h2 : (sel H (List.range H.length)) = H := by
    exact sel_range H
  have h3 : (sel H l).Perm (sel H (List.range H.length)) := h1.filterMap _
  rw [h2] at h3
  exact h3.symm
/-- What may be written, in another order. -/
theorem St.sel (h : St C E M H a w) (l : List Nat) (hl : l.isPerm (List.range H.length) = true) {H' : List Res} (hH : Go.Fx.sel H l = H') : St C E M H' a w := by
  subst hH
  exact h.perm (sel_perm hl)
theorem St.dropR {A B : List Res} (h : St C E M (A ++ B) a w) : St C E M A a w := h.drop (List.sublist_append_left A B)

section ops
variable {ops : Array Oper} {Q : Post} {K : Act → World → Prop} {i : Nat} {w1 : World} {F : Fs} {p : Plan}

theorem st_pures (hs : St C E M H a w) (l : List Nat) (hok : (runE P ops C.N E l).isSome = true) (k : ∀ a', St C (envOf P ops C.N E l) M H a' w → p.wp P ops Q w1 F a' w) : (Plan.pures l p).wp P ops Q w1 F a w :=
  wp_pures l hs.env hok fun a' ha => k a' ⟨ha, hs.wf, hs.ext⟩
/-- An operation that reckons, by a law of its own. -/
theorem st_pure1 (hs : St C E M H a w) {v : Value} (ho : okOp ops C.N E i = true) (hr : ∀ w, (execOp a.eval (opAt ops i)).run P w = .ok (.value v) w) (k : ∀ a', St C (putO E (opAt ops i).dst v) M H a' w → p.wp P ops Q w1 F a' w) : (Plan.pure i p).wp P ops Q w1 F a w := by
  obtain ⟨_, h3, h4⟩ := okOp_spec hs.env ho
  exact ⟨v, .inl ⟨h3, hr⟩, k _ ⟨hs.env.putO h4 v, hs.wf, hs.ext⟩⟩

/-! ### Calls -/
def calArgs (o : Oper) (E : Env) : Option (FuncId × List Value) :=
  match o.op with
  | .call { callee := .value f, args := xs, .. } => match ev E f, evs E xs.toList with
    | some (.func (.func g) first captured), some vs => some (g, first.toList ++ vs ++ captured.toList)
    | _, _ => none
  | _ => none
def callable (P : Program) (f : FuncId) : Bool := match P.funcs[f]? with | some fn => !(fn.name == "runtime.NumGoroutine") && fn.body.isSome | none => false
theorem call_run {o : Oper} {g : FuncId} {vs : List Value} {N : Nat} (ha : EnvOk N E a) (hc : calArgs o E = some (g, vs)) (hk : callable P g = true) : (execOp a.eval o).run P w = .ok (.enter g vs.toArray) w := by
  obtain ⟨dst, op, ty, pos, after, guard⟩ := o
  unfold calArgs at hc
  split at hc
  · rename_i f xs ts ho
    simp only at ho
    subst ho
    split at hc
    · rename_i g' first captured us h1 h2
      simp only [Option.some.injEq, Prod.mk.injEq] at hc
      obtain ⟨rfl, rfl⟩ := hc
      have e1 := ha.eval h1
      have e2 : xs.map a.eval = us.toArray := by rw [← evs_map ha h2]; apply Array.ext'; simp
      unfold callable at hk
      split at hk
      · rename_i fn hfn
        simp only [Bool.and_eq_true, Bool.not_eq_true', beq_eq_false_iff_ne, ne_eq] at hk
        have hn : fn.body ≠ none := by intro hn; rw [hn] at hk; simp at hk
        simp [execOp, resolve, e1, e2, Deferred.ofValue, invoke, callFunc, program, Sem.run, hfn, hk.1, hn]
      · cases hk
    · cases hc
  · cases hc

theorem st_call {F' : List Res} {Hc : List Res} (hs : St C E M (Hc ++ F') a w) {g : FuncId} {vs : List Value} {R : Value → Mem → List Res → Prop} (ho : okOp ops C.N E i = true) (hc : calArgs (opAt ops i) E = some (g, vs)) (hk : callable P g = true) (hf : FnOk P g vs M Hc R)
    (k : ∀ v M' H' a' w', R v M' H' → M.le M' → St C (putO E (opAt ops i).dst v) M' (H' ++ F') a' w' → Ext w M Hc w' M' H' → K a' w') : wpOp P ops Q i K a w := by
  obtain ⟨h1, h2, h3⟩ := okOp_spec hs.env ho
  have hsub : Hc.Sublist (Hc ++ F') := List.sublist_append_left _ _
  unfold wpOp
  rw [h1]
  simp only [h2, if_true]
  refine .inl ?_
  unfold Oper.wp
  rw [call_run hs.env hc hk, Oper.upon_enter]
  refine (hf w (hs.wf.sub hsub)).mono ?_
  rintro e w' ⟨v, M', H', rfl, hR, hw', he⟩
  have hfr := frame hs.wf hw' he
  exact k v M' H' _ w' hR he.mem ⟨hs.env.putO h3 v, hfr.1, hs.ext.trans hfr.2⟩ he

/-! ### Indexing -/
def ixT (o : Oper) : Option TypeId := match o.op with | .indexAddr t _ _ => some t | _ => none
def slElem (P : Program) (t : TypeId) : Option Nat := match P.underlying t with | some (.slice e) => (P.info? e).map (·.size) | _ => none
def arElem (P : Program) (t : TypeId) : Option (Nat × Nat) := match P.underlying t with | some (.array n e) => (P.info? e).map fun i => (n, i.size) | _ => none
theorem index_run {t : TypeId} {A : Addr} {len cap sz : Nat} {k : IntKind} {x : Int} {N : Nat} (ha : EnvOk N E a) (hk : ixT (opAt ops i) = some t) (hsz : slElem P t = some sz) (hx : argV ops i 0 E = some (.slice (some A) len cap)) (hi : argV ops i 1 E = some (.int k x))
    (h0 : 0 ≤ x) (h1 : x < len) (w : World) : (execOp a.eval (opAt ops i)).run P w = .ok (.value (.pointer (some (addOff A (x.toNat * sz))))) w := by
  unfold ixT at hk
  unfold argV at hx hi
  generalize opAt ops i = o at *
  obtain ⟨dst, op, ty, pos, after, guard⟩ := o
  cases op with
  | indexAddr t' y z =>
    simp only [Option.some.injEq] at hk
    subst hk
    have hx' : ev E y = some (.slice (some A) len cap) := by simpa [Op.operands] using hx
    have hi' : ev E z = some (.int k x) := by simpa [Op.operands] using hi
    unfold slElem at hsz
    split at hsz
    · rename_i e hu
      obtain ⟨info, hinf, rfl⟩ := Option.map_eq_some_iff.1 hsz
      simp [execOp, Instr.indexAt, ha.eval hx', ha.eval hi', asIntOf, run_underlying hu, h0, h1, sizeOf, typeInfo, hinf, addOff_eq]
    · cases hsz
  | _ => cases hk
theorem indexA_run {t : TypeId} {A : Addr} {n sz : Nat} {k : IntKind} {x : Int} {N : Nat} (ha : EnvOk N E a) (hk : ixT (opAt ops i) = some t) (hsz : arElem P t = some (n, sz)) (hx : argV ops i 0 E = some (.pointer (some A))) (hi : argV ops i 1 E = some (.int k x))
    (h0 : 0 ≤ x) (h1 : x < n) (w : World) : (execOp a.eval (opAt ops i)).run P w = .ok (.value (.pointer (some (addOff A (x.toNat * sz))))) w := by
  unfold ixT at hk
  unfold argV at hx hi
  generalize opAt ops i = o at *
  obtain ⟨dst, op, ty, pos, after, guard⟩ := o
  cases op with
  | indexAddr t' y z =>
    simp only [Option.some.injEq] at hk
    subst hk
    have hx' : ev E y = some (.pointer (some A)) := by simpa [Op.operands] using hx
    have hi' : ev E z = some (.int k x) := by simpa [Op.operands] using hi
    unfold arElem at hsz
    split at hsz
    · rename_i n' e hu
      obtain ⟨info, hinf, he⟩ := Option.map_eq_some_iff.1 hsz
      simp only [Prod.mk.injEq] at he
      obtain ⟨rfl, rfl⟩ := he
      simp [execOp, Instr.indexAt, ha.eval hx', ha.eval hi', asIntOf, run_underlying hu, h0, h1, sizeOf, typeInfo, hinf, addOff_eq, Instr.sureAddr]
    · cases hsz
  | _ => cases hk

/-- The element that an index speaks of. -/
def idx {α : Type} (xs : List α) (i : Int) : Option α := if 0 ≤ i then xs[i.toNat]? else none
theorem idx_spec {α : Type} {xs : List α} {i : Int} {x : α} (h : idx xs i = some x) : 0 ≤ i ∧ i < (xs.length : Int) ∧ ∃ h : i.toNat < xs.length, xs[i.toNat] = x := by
  unfold idx at h
  split at h
  · rename_i h0
    obtain ⟨h1, h2⟩ := List.getElem?_eq_some_iff.1 h
    exact ⟨h0, by omega, h1, h2⟩
  · cases h

/-- An element's place in memory that nobody writes. -/
theorem st_index {α : Type} {d : Kd α} {xs : List α} {x : α} (hs : St C E M H a w) {t : TypeId} {A : Option Addr} {c : Nat} {k : IntKind} {j : Int} (ho : okOp ops C.N E i = true) (hk : ixT (opAt ops i) = some t) (hsz : slElem P t = some d.sz)
    (hx : argV ops i 0 E = some (.slice A xs.length c)) (hi : argV ops i 1 E = some (.int k j)) (hsl : SlAt d M A c xs) (hj : idx xs j = some x)
    (k : ∀ b o blk W a', M b = some blk → (blk.toList.drop o).take d.sz = W → d.rep M W x → St C (putO E (opAt ops i).dst (.pointer (some ⟨b, o, none⟩))) M H a' w → p.wp P ops Q w1 F a' w) : (Plan.pure i p).wp P ops Q w1 F a w := by
  obtain ⟨h0, h1, h2, h3⟩ := idx_spec hj
  rcases hsl.row with h4 | ⟨b, off, blk, rfl, hb, hr⟩
  · subst h4; simp at h1; omega
  · refine st_pure1 hs ho (index_run hs.env hk hsz hx hi h0 h1) ?_
    intro a' hs'
    have hrep := hr j.toNat h2
    rw [h3] at hrep
    exact k b (off + j.toNat * d.sz) blk _ a' hb rfl hrep hs'

theorem window {o : Nat} {blk : Array Value} {n : Nat} {W : List Value} {t : TypeId} {k : Nat} {v : Value} (hW : (blk.toList.drop o).take n = W) (hr : readOf P t W k = some v) : readOf P t blk.toList (o + k) = some v := by
  unfold readOf at hr ⊢
  have key : ∀ m, (W.drop k).take m = (((blk.toList.drop (o + k)).take (n - k)).take m) := by
    intro m
    rw [← hW, List.drop_take, List.drop_drop]
  cases hg : aggB P t with
  | none => rw [hg] at hr; simp at hr
  | some g =>
    rw [hg] at hr
    cases g with
    | true =>
      cases hi : P.info? t with
      | none => rw [hi] at hr; simp at hr
      | some info =>
        rw [hi] at hr
        simp only at hr ⊢
        split at hr
        · rename_i hl
          simp only [Option.some.injEq] at hr
          rw [key] at hl hr
          have hle : info.size ≤ n - k ∨ info.size ≤ ((blk.toList.drop (o + k)).take (n - k)).length := by
            right
            rw [List.length_take] at hl
            omega
          have e : (blk.toList.drop (o + k)).take info.size = ((blk.toList.drop (o + k)).take (n - k)).take info.size := by
            rw [List.take_take]
            have hm : min info.size (n - k) = info.size ∨ (blk.toList.drop (o + k)).length ≤ min info.size (n - k) := by
              rw [List.length_take, List.length_take] at hl
              omega
            rcases hm with hm | hm
            · rw [hm]
            · rw [List.take_of_length_le hm, List.take_of_length_le (by omega)]
          rw [e, if_pos hl]
          exact congrArg some hr
        · cases hr
    | false =>
      simp only at hr ⊢
      rw [← hW, List.getElem?_take] at hr
      split at hr
      · rw [List.getElem?_drop] at hr; exact hr
      · cases hr

/-- A load out of memory that nobody writes. -/
theorem st_loadW (hs : St C E M H a w) {t : TypeId} {b o k n : Nat} {v : Value} {blk : Array Value} {W : List Value} (ho : okOp ops C.N E i = true) (hk : ldT (opAt ops i) = some t) (hx : argV ops i 0 E = some (.pointer (some ⟨b, o + k, none⟩)))
    (hb : M b = some blk) (hW : (blk.toList.drop o).take n = W) (hr : readOf P t W k = some v) (kk : ∀ a', St C (putO E (opAt ops i).dst v) M H a' w → K a' w) : wpOp P ops Q i K a w := by
  obtain ⟨T, fz, hh⟩ := hs.wf.models b blk hb
  exact st_load hs ho hk hx hh (window hW hr) kk
theorem st_loadWD {M1 : Mem} {l : List (Nat × Nat)} (hs : St C E M H a w) {t : TypeId} {b o k n : Nat} {v : Value} {blk : Array Value} {W : List Value} (ho : okOp ops C.N E i = true) (hk : ldT (opAt ops i) = some t) (hx : argV ops i 0 E = some (.pointer (some ⟨b, o + k, none⟩)))
    (hR : (M1 b).isSome = true) (hsame : ∀ b, (M1 b).isSome = true → w.heap[b]? = w1.heap[b]?) (hb : M b = some blk) (hW : (blk.toList.drop o).take n = W) (hr : readOf P t W k = some v) (kk : ∀ a', St C (putO E (opAt ops i).dst v) M H a' w → p.wp P ops Q w1 ⟨l, fun b => (M1 b).isSome = true⟩ a' w) : (Plan.read i p).wp P ops Q w1 ⟨l, fun b => (M1 b).isSome = true⟩ a w := by
  obtain ⟨T, fz, hh⟩ := hs.wf.models b blk hb
  obtain ⟨h2, h3, h4⟩ := okOp_spec hs.env ho
  have hh1 := (hsame b hR).symm.trans hh
  exact ⟨hsame, v, .inl ⟨h3, fun w' hw' => load_run hk hs.env hx (readOf_run ((hw' b hR).trans hh1) (window hW hr))⟩, kk _ ⟨hs.env.putO h4 v, hs.wf, hs.ext⟩⟩
/-- A load out of a block that may be written. -/
theorem st_loadB (hs : St C E M H a w) (j : Nat) {t : TypeId} {b off : Nat} {v : Value} {cs : List Value} {T : TypeId} (ho : okOp ops C.N E i = true) (hk : ldT (opAt ops i) = some t) (hx : argV ops i 0 E = some (.pointer (some ⟨b, off, none⟩)))
    (hj : H[j]? = some (.blk b cs T)) (hr : readOf P t cs off = some v) (kk : ∀ a', St C (putO E (opAt ops i).dst v) M H a' w → K a' w) : wpOp P ops Q i K a w :=
  st_load hs ho hk hx (hs.wf.holds _ (List.mem_of_getElem? hj)) hr kk
theorem st_loadBD (hs : St C E M H a w) (j : Nat) {t : TypeId} {b off : Nat} {v : Value} {cs : List Value} {T : TypeId} (ho : okOp ops C.N E i = true) (hk : ldT (opAt ops i) = some t) (hx : argV ops i 0 E = some (.pointer (some ⟨b, off, none⟩)))
    (hF : (i, b) ∈ F.l) (hsame : w.heap[b]? = w1.heap[b]?) (hj : H[j]? = some (.blk b cs T)) (hr : readOf P t cs off = some v) (kk : ∀ a', St C (putO E (opAt ops i).dst v) M H a' w → p.wp P ops Q w1 F a' w) : (Plan.load i b p).wp P ops Q w1 F a w := by
  have hh : w.heap[b]? = some (.cells cs.toArray T (0, 0)) := hs.wf.holds _ (List.mem_of_getElem? hj)
  exact st_loadD hs ho hk hx hF (hsame.symm.trans hh) hh hr kk
end ops
end
end Go.Fx
