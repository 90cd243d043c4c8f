/- Base for printed walks, part E: the state of a walk; the operations that touch memory; calls. Own work. -/
import Derived.Test.YthpdomeciaafjaaFxD
import Derived.Laws.CopyRow
namespace Go.Fx

theorem Wf.ne {w : World} {M : Mem} {H : List Res} (h : Wf w M H) {i j : Nat} {r s : Res} (hi : H[i]? = some r) (hj : H[j]? = some s) (hne : i ≠ j) {b : Nat} (hb : r.foot = some b) : s.foot ≠ some b := by
  obtain ⟨hi1, hi2⟩ := List.getElem?_eq_some_iff.1 hi
  obtain ⟨hj1, hj2⟩ := List.getElem?_eq_some_iff.1 hj
  have hp := List.pairwise_iff_getElem.1 h.apart
  rcases Nat.lt_or_ge i j with hlt | hge
  · have := hp i j hi1 hj1 hlt b (by rw [hi2]; exact hb)
    rwa [hj2] at this
  · have := hp j i hj1 hi1 (by omega)
    intro hs
    exact this b (by rw [hj2]; exact hs) (by rw [hi2]; exact hb)

/-- One of those that may be written is turned. -/
theorem Wf.replace {w w' : World} {M : Mem} {H : List Res} {j : Nat} {r r' : Res} (h : Wf w M H) (hj : H[j]? = some r) (hos : w'.os = w.os) (htape : w'.tape = w.tape) (hout : w'.output = w.output)
    (hsize : w.heap.size ≤ w'.heap.size) (hk : ∀ x, x < w.heap.size → r.foot ≠ some x → w'.heap[x]? = w.heap[x]?) (hr : r'.holds w') (hf : ∀ x, r'.foot = some x → r.foot = some x ∨ w.heap.size ≤ x) :
    Wf w' M (H.set j r') ∧ Ext w M H w' M (H.set j r') := by
  have hjl := (List.getElem?_eq_some_iff.1 hj).1
  have hmem : r ∈ H := List.mem_of_getElem? hj
  have key : ∀ s ∈ H.set j r', s = r' ∨ ∃ i, i ≠ j ∧ H[i]? = some s := by
    intro s hs
    obtain ⟨i, hi⟩ := List.mem_iff_getElem?.1 hs
    by_cases hij : i = j
    · subst hij
      rw [List.getElem?_set_self hjl] at hi
      exact .inl (Option.some.inj hi).symm
    · rw [List.getElem?_set_ne (Ne.symm hij)] at hi
      exact .inr ⟨i, hij, hi⟩
  have hlt : ∀ b c, M b = some c → b < w.heap.size := fun b c e => by
    obtain ⟨t, fz, hb⟩ := h.models b c e
    exact (Array.getElem?_eq_some_iff.1 hb).1
  have hfr : ∀ x, r'.foot = some x → M x = none := by
    intro x hx
    rcases hf x hx with h1 | h1
    · exact h.free r hmem x h1
    · cases hc : M x with
      | none => rfl
      | some c => have := hlt x c hc; omega
  refine ⟨⟨?_, ?_, ?_, ?_⟩, ⟨hos, htape, hout, hsize, Mem.le_refl _, ?_, ?_, fun b c e => .inl e⟩⟩
  · intro b c e
    obtain ⟨t, fz, hb⟩ := h.models b c e
    refine ⟨t, fz, ?_⟩
    rw [hk b (hlt b c e) ?_]
    · exact hb
    · intro hrf
      rw [h.free r hmem b hrf] at e
      cases e
  · intro s hs
    rcases key s hs with rfl | ⟨i, hij, hi⟩
    · exact hr
    · have hsm := List.mem_of_getElem? hi
      refine Res.holds_of (h.holds s hsm) fun b hb => hk b (Res.lt (h.holds s hsm) hb) (h.ne hi hj hij hb)
  · intro s hs b hb
    rcases key s hs with rfl | ⟨i, hij, hi⟩
    · exact hfr b hb
    · exact h.free s (List.mem_of_getElem? hi) b hb
  · refine List.pairwise_iff_getElem.2 fun m n hm hn hmn b hb hb' => ?_
    have hm' : m < H.length := by simpa using hm
    have hn' : n < H.length := by simpa using hn
    by_cases hmj : m = j
    · subst hmj
      have hnm : n ≠ m := by omega
      rw [List.getElem_set_self] at hb
      rw [List.getElem_set_ne (by omega)] at hb'
      rcases hf b hb with h1 | h1
      · exact h.ne hj (List.getElem?_eq_getElem hn') (by omega) h1 hb'
      · have := Res.lt (h.holds _ (List.getElem_mem hn')) hb'; omega
    · by_cases hnj : n = j
      · subst hnj
        rw [List.getElem_set_ne (by omega)] at hb
        rw [List.getElem_set_self] at hb'
        rcases hf b hb' with h1 | h1
        · exact h.ne hj (List.getElem?_eq_getElem hm') (by omega) h1 hb
        · have := Res.lt (h.holds _ (List.getElem_mem hm')) hb; omega
      · rw [List.getElem_set_ne (by omega)] at hb hb'
        exact h.ne (List.getElem?_eq_getElem hm') (List.getElem?_eq_getElem hn') (by omega) hb hb'
  · intro b hb hn
    exact hk b hb fun hrf => hn ⟨r, hmem, hrf⟩
  · rintro b ⟨s, hs, hb⟩
    rcases key s hs with rfl | ⟨i, hij, hi⟩
    · exact (hf b hb).imp (fun h1 => ⟨r, hmem, h1⟩) id
    · exact .inl ⟨s, List.mem_of_getElem? hi, hb⟩

/-- One more. -/
theorem Wf.push {w w' : World} {M : Mem} {H : List Res} {r : Res} (h : Wf w M H) (hos : w'.os = w.os) (htape : w'.tape = w.tape) (hout : w'.output = w.output)
    (hsize : w.heap.size ≤ w'.heap.size) (hk : ∀ x, x < w.heap.size → w'.heap[x]? = w.heap[x]?) (hr : r.holds w') (hf : ∀ x, r.foot = some x → w.heap.size ≤ x) :
    Wf w' M (r :: H) ∧ Ext w M H w' M (r :: H) := by
  have hlt : ∀ b c, M b = some c → b < w.heap.size := fun b c e => by
    obtain ⟨t, fz, hb⟩ := h.models b c e
    exact (Array.getElem?_eq_some_iff.1 hb).1
  refine ⟨⟨?_, ?_, ?_, ?_⟩, ⟨hos, htape, hout, hsize, Mem.le_refl _, fun b hb _ => hk b hb, ?_, fun b c e => .inl e⟩⟩
  · intro b c e
    obtain ⟨t, fz, hb⟩ := h.models b c e
    exact ⟨t, fz, by rw [hk b (hlt b c e)]; exact hb⟩
  · intro s hs
    rcases List.mem_cons.1 hs with rfl | hs
    · exact hr
    · exact Res.holds_of (h.holds s hs) fun b hb => hk b (Res.lt (h.holds s hs) hb)
  · intro s hs b hb
    rcases List.mem_cons.1 hs with rfl | hs
    · cases hc : M b with
      | none => rfl
      | some c => have := hlt b c hc; have := hf b hb; omega
    · exact h.free s hs b hb
  · refine List.pairwise_cons.2 ⟨fun s hs b hb hb' => ?_, h.apart⟩
    have := hf b hb
    have := Res.lt (h.holds s hs) hb'
    omega
  · intro b hb
    rcases feet_cons.1 hb with hb | hb
    · exact .inr (hf b hb)
    · exact .inl hb

/-- A row that is written no more. -/
theorem Wf.freeze {w : World} {M : Mem} {H : List Res} {j : Nat} {v : Value} {e : TypeId} {sz n : Nat} {cs : List Value} (h : Wf w M H) (hj : H[j]? = some (.row v e sz n cs)) :
    ∃ M', M.le M' ∧ Wf w M' (H.eraseIdx j) ∧ Ext w M H w M' (H.eraseIdx j) ∧
      ((v = .slice none 0 0 ∧ n = 0 ∧ cs = []) ∨ ∃ b o cap c, v = .slice (some ⟨b, o, none⟩) n cap ∧ n ≤ cap ∧ M' b = some c ∧ (c.toList.drop o).take (n * sz) = cs) := by
  have hmem := List.mem_of_getElem? hj
  have hsub : (H.eraseIdx j).Sublist H := List.eraseIdx_sublist H j
  have hh := h.holds _ hmem
  simp only [Res.holds] at hh
  rcases hh.2 with ⟨rfl, rfl⟩ | ⟨g, o, cap, cur, rfl, hg, hnc, _, hcs, htk⟩
  · refine ⟨M, Mem.le_refl _, h.sub hsub, (Ext.refl w M H).sub hsub, .inl ⟨rfl, rfl, List.eq_nil_of_length_eq_zero (by simpa using hh.1)⟩⟩
  · have hfree : M g = none := h.free _ hmem g rfl
    have hne : ∀ s ∈ H.eraseIdx j, s.foot ≠ some g := by
      intro s hs
      obtain ⟨i, hi⟩ := List.mem_iff_getElem?.1 hs
      rw [List.getElem?_eraseIdx] at hi
      split at hi
      · exact h.ne hj hi (by omega) rfl
      · exact h.ne hj hi (by omega) rfl
    refine ⟨M.add g cur, Mem.le_add hfree, ⟨?_, fun s hs => h.holds s (hsub.mem hs), ?_, h.apart.sublist hsub⟩, ?_, .inr ⟨g, o, cap, cur, rfl, hnc, Mem.add_self _ _ _, htk⟩⟩
    · intro b c hb
      unfold Mem.add at hb
      split at hb
      · rename_i hbg
        subst hbg
        simp only [Option.some.injEq] at hb
        subst hb
        exact ⟨e, (0, 0), hg⟩
      · exact h.models b c hb
    · intro s hs b hb
      have hbg : b ≠ g := fun e => hne s hs (e ▸ hb)
      unfold Mem.add
      rw [if_neg hbg]
      exact h.free s (hsub.mem hs) b hb
    · refine ⟨rfl, rfl, rfl, Nat.le_refl _, Mem.le_add hfree, fun _ _ _ => rfl, fun b hb => .inl (feet_sub hsub hb), fun b c hc => ?_⟩
      unfold Mem.add at hc
      split at hc
      · rename_i hbg
        subst hbg
        exact .inr (.inl ⟨_, hmem, rfl⟩)
      · exact .inl hc

structure Ctx where
  N : Nat
  w0 : World
  M0 : Mem
  H0 : List Res
structure St (C : Ctx) (E : Env) (M : Mem) (H : List Res) (a : Act) (w : World) : Prop where
  env : EnvOk C.N E a
  wf : Wf w M H
  ext : Ext C.w0 C.M0 C.H0 w M H

section
variable {P : Program} {C : Ctx} {E : Env} {M : Mem} {H : List Res} {a : Act} {w : World}

theorem drawn_wf {w : World} {M : Mem} {H : List Res} (h : Wf w M H) (n : Nat) : Wf { w with drawn := n } M H :=
  ⟨h.models, fun r hr => Res.holds_of (h.holds r hr) fun _ _ => rfl, h.free, h.apart⟩
theorem St.drawn (h : St C E M H a w) (n : Nat) : St C E M H a { w with drawn := n } :=
  ⟨h.env, drawn_wf h.wf n, ⟨h.ext.os, h.ext.tape, h.ext.output, h.ext.size, h.ext.mem, h.ext.kept, h.ext.fresh, h.ext.freshM⟩⟩
theorem St.weaken (h : St C E M H a w) {l : List (Nat × Value)} (hl : AllIn E l) : St C (Go.Fx.env l) M H a w := ⟨h.env.weaken hl, h.wf, h.ext⟩
/-- A frozen row as a slice of values. -/
theorem St.freeze {α : Type} {d : Kd α} {xs : List α} (h : St C E M H a w) (j : Nat) {v : Value} {e : TypeId} {cs : List Value} (hj : H[j]? = some (.row v e d.sz xs.length cs)) (hx : Elems d M cs xs) {H' : List Res} (hH : H.eraseIdx j = H') :
    ∃ M' A c, M.le M' ∧ v = .slice A xs.length c ∧ SlAt d M' A c xs ∧ St C E M' H' a w := by
  subst hH
  obtain ⟨M', hm, hw, he, hv⟩ := h.wf.freeze hj
  have hs : St C E M' (H.eraseIdx j) a w := ⟨h.env, hw, h.ext.trans he⟩
  rcases hv with ⟨rfl, h0, hc⟩ | ⟨b, o, cap, c, rfl, hle, hb, hc⟩
  · have hx0 : xs = [] := List.eq_nil_of_length_eq_zero (by omega)
    subst hx0
    exact ⟨M', none, 0, hm, rfl, ⟨.inl rfl, Nat.le_refl _⟩, hs⟩
  · exact ⟨M', some ⟨b, o, none⟩, cap, hm, rfl, ⟨Elems.row hb (by rw [hc]; exact hx.mono hm), hle⟩, hs⟩
theorem St.drop (h : St C E M H a w) {K : List Res} (hs : K.Sublist H) : St C E M K a w := ⟨h.env, h.wf.sub hs, h.ext.sub hs⟩
theorem St.perm (h : St C E M H a w) {K : List Res} (hp : H.Perm K) : St C E M K a w := ⟨h.env, h.wf.perm hp, h.ext.perm hp⟩

/-! ### Reading -/
def readOf (P : Program) (t : TypeId) (cs : List Value) (off : Nat) : Option Value :=
  match aggB P t, P.info? t with
  | some true, some i => let x := (cs.drop off).take i.size; if x.length = i.size then some (.agg x.toArray) else none
  | some false, _ => cs[off]?
  | _, _ => none
theorem run_isAgg {t : TypeId} {b : Bool} (h : aggB P t = some b) (w : World) : (isAgg t).run P w = .ok b w := by
  unfold aggB at h
  cases hu : P.underlying t with
  | none => rw [hu] at h; cases h
  | some d =>
    rw [hu] at h
    simp only [isAgg, Sem.run_bind, run_underlying hu, Result.andThen_ok]
    cases d <;> (simp only [Option.some.injEq] at h; subst h; rfl)
theorem readOf_run {t : TypeId} {b off : Nat} {c : Array Value} {T : TypeId} {fz : Nat × Nat} {v : Value} (hb : w.heap[b]? = some (.cells c T fz)) (hr : readOf P t c.toList off = some v) :
    (loadVar t ⟨b, off, none⟩).run P w = .ok v w := by
  unfold readOf at hr
  unfold loadVar
  cases hg : aggB P t with
  | none => rw [hg] at hr; simp at hr
  | some g =>
    cases g with
    | true =>
      cases hi : P.info? t with
      | none => rw [hg, hi] at hr; simp at hr
      | some i =>
        rw [hg, hi] at hr
        simp only at hr
        split at hr
        · rename_i hl
          simp only [Option.some.injEq] at hr
          subst hr
          have h1 := run_loadCells_list (P := P) w ⟨b, off, none⟩ ((c.toList.drop off).take i.size) (fun j u hj => by
            rw [← addOff_eq]
            simp only [addOff, World.cell?, hb]
            rw [List.getElem?_take] at hj
            split at hj
            · rw [List.getElem?_drop] at hj
              simpa using hj
            · cases hj)
          rw [hl] at h1
          simp [run_isAgg hg, sizeOf, typeInfo, hi, h1]
        · cases hr
    | false =>
      rw [hg] at hr
      simp only at hr
      have hc : w.cell? ⟨b, off, none⟩ = some v := by simp only [World.cell?, hb]; simpa using hr
      simp [run_isAgg hg, load, Sem.run, hc]

def ldT (o : Oper) : Option TypeId := match o.op with | .load t _ => some t | _ => none
def argV (ops : Array Oper) (i k : Nat) (E : Env) : Option Value := match (opAt ops i).op.operands.toList[k]? with | some x => ev E x | none => none
def okOp (ops : Array Oper) (N : Nat) (E : Env) (i : Nat) : Bool := Nat.blt i ops.size && (match wantE ops E i with | some b => b | none => false) && dstLt (opAt ops i).dst N

section ops
variable {ops : Array Oper} {Q : Post} {K : Act → World → Prop} {i : Nat}

theorem okOp_spec {N : Nat} (ha : EnvOk N E a) (h : okOp ops N E i = true) : ops[i]? = some (opAt ops i) ∧ Region.wanted (opAt ops i) (yielded ops a.tmps) = true ∧ dstLt (opAt ops i).dst N = true := by
  unfold okOp at h
  simp only [Bool.and_eq_true] at h
  refine ⟨opAt_eq (Nat.le_of_ble_eq_true h.1.1), ?_, h.2⟩
  cases hw : wantE ops E i with
  | none => rw [hw] at h; simp at h
  | some b => rw [hw] at h; rw [wantE_eq ha hw]; exact h.1.2

theorem op_val {v : Value} {w' : World} (hi : ops[i]? = some (opAt ops i)) (hw : Region.wanted (opAt ops i) (yielded ops a.tmps) = true) (hr : (execOp a.eval (opAt ops i)).run P w = .ok (.value v) w')
    (hk : K (a.put (opAt ops i).dst v) w') : wpOp P ops Q i K a w := by
  unfold wpOp
  rw [hi]
  simp only [hw, if_true]
  exact .inl (by unfold Oper.wp; rw [hr]; exact hk)
theorem op_skip {w' : World} (hi : ops[i]? = some (opAt ops i)) (hw : Region.wanted (opAt ops i) (yielded ops a.tmps) = true) (hr : (execOp a.eval (opAt ops i)).run P w = .ok .skip w')
    (hk : K (a.put (opAt ops i).dst undef) w') : wpOp P ops Q i K a w := by
  unfold wpOp
  rw [hi]
  simp only [hw, if_true]
  exact .inl (by unfold Oper.wp; rw [hr]; exact hk)

theorem load_run {t : TypeId} {b off : Nat} {v : Value} (hk : ldT (opAt ops i) = some t) {N : Nat} (ha : EnvOk N E a) (hx : argV ops i 0 E = some (.pointer (some ⟨b, off, none⟩)))
    (hv : (loadVar t ⟨b, off, none⟩).run P w = .ok v w) : (execOp a.eval (opAt ops i)).run P w = .ok (.value v) w := by
  unfold ldT at hk
  unfold argV at hx
  generalize opAt ops i = o at *
  obtain ⟨dst, op, ty, pos, after, guard⟩ := o
  cases op with
  | load t' x =>
    simp only [Option.some.injEq] at hk
    subst hk
    have hx' : ev E x = some (.pointer (some ⟨b, off, none⟩)) := by simpa [Op.operands] using hx
    simp [execOp, Instr.loadAt, ha.eval hx', Instr.sureAddr, hv]
  | _ => cases hk

/-- A load, where it stands. -/
theorem st_load (hs : St C E M H a w) {t : TypeId} {b off : Nat} {v : Value} {c : Array Value} {T : TypeId} {fz : Nat × Nat} (ho : okOp ops C.N E i = true) (hk : ldT (opAt ops i) = some t) (hx : argV ops i 0 E = some (.pointer (some ⟨b, off, none⟩)))
    (hb : w.heap[b]? = some (.cells c T fz)) (hr : readOf P t c.toList off = some v) (k : ∀ a', St C (putO E (opAt ops i).dst v) M H a' w → K a' w) : wpOp P ops Q i K a w := by
  obtain ⟨h1, h2, h3⟩ := okOp_spec hs.env ho
  exact op_val h1 h2 (load_run hk hs.env hx (readOf_run hb hr)) (k _ ⟨hs.env.putO h3 v, hs.wf, hs.ext⟩)
/-- A load that may be carried out later. -/
theorem st_loadD {w1 : World} {F : Fs} {p : Plan} (hs : St C E M H a w) {t : TypeId} {b off : Nat} {v : Value} {c : Array Value} {T : TypeId} {fz : Nat × Nat} (ho : okOp ops C.N E i = true) (hk : ldT (opAt ops i) = some t) (hx : argV ops i 0 E = some (.pointer (some ⟨b, off, none⟩)))
    (hF : (i, b) ∈ F.l) (h1 : w1.heap[b]? = some (.cells c T fz)) (hb : w.heap[b]? = some (.cells c T fz)) (hr : readOf P t c.toList off = some v) (k : ∀ a', St C (putO E (opAt ops i).dst v) M H a' w → p.wp P ops Q w1 F a' w) : (Plan.load i b p).wp P ops Q w1 F a w := by
  obtain ⟨h2, h3, h4⟩ := okOp_spec hs.env ho
  refine ⟨hF, by rw [hb, h1], v, .inl ⟨h3, fun w' hw' => load_run hk hs.env hx (readOf_run (hw'.trans h1) hr)⟩, k _ ⟨hs.env.putO h4 v, hs.wf, hs.ext⟩⟩

/-! ### Writing -/
def writeOf (P : Program) (t : TypeId) (cs : List Value) (off : Nat) (v : Value) : Option (List Value) :=
  match P.info? t with
  | some i => if v.cells.toList.length = i.size ∧ off + i.size ≤ cs.length then some (cs.take off ++ v.cells.toList ++ cs.drop (off + i.size)) else none
  | none => none
def stT (o : Oper) : Option TypeId := match o.op with | .store t _ _ => some t | _ => none
def oneCells (v : Value) : Bool := v.cells.toList.all (·.oneCell')

theorem store_run {t : TypeId} {b off : Nat} {v : Value} {cs : List Value} {T : TypeId} {cs' : List Value} (hk : stT (opAt ops i) = some t) {N : Nat} (ha : EnvOk N E a) (hx : argV ops i 0 E = some (.pointer (some ⟨b, off, none⟩)))
    (hv : argV ops i 1 E = some v) (h1 : ∀ u ∈ v.cells.toList, u.oneCell' = true) (hb : w.heap[b]? = some (.cells cs.toArray T (0, 0))) (hw : writeOf P t cs off v = some cs') :
    (execOp a.eval (opAt ops i)).run P w = .ok .skip (w.setRow b cs'.toArray) := by
  unfold stT at hk
  unfold argV at hx hv
  generalize opAt ops i = o at *
  obtain ⟨dst, op, ty, pos, after, guard⟩ := o
  cases op with
  | store t' x y =>
    simp only [Option.some.injEq] at hk
    subst hk
    have hx' : ev E x = some (.pointer (some ⟨b, off, none⟩)) := by simpa [Op.operands] using hx
    have hv' : ev E y = some v := by simpa [Op.operands] using hv
    unfold writeOf at hw
    cases hi : P.info? t' with
    | none => rw [hi] at hw; cases hw
    | some info =>
      rw [hi] at hw
      simp only at hw
      split at hw
      · rename_i hl
        simp only [Option.some.injEq] at hw
        subst hw
        have := run_storeCells_at (P := P) b off T v.cells.toList 0 cs.toArray w hb (by simp only [Nat.add_zero, List.size_toArray]; omega) h1
        simp only [Nat.add_zero, hl.1] at this
        have hsz : v.cells.size = info.size := by rw [← hl.1]; simp
        simp [execOp, Instr.storeAt, ha.eval hx', ha.eval hv', Instr.sureAddr, storeVar, sizeOf, typeInfo, hi, hsz, this]
      · cases hw
  | _ => cases hk

theorem setRow_size (w : World) (g : Nat) (cs : Array Value) : (w.setRow g cs).heap.size = w.heap.size := by simp [World.setRow]

theorem st_store (hs : St C E M H a w) (j : Nat) {t : TypeId} {b off : Nat} {v : Value} {cs : List Value} {T : TypeId} {cs' : List Value} (ho : okOp ops C.N E i = true) (hk : stT (opAt ops i) = some t)
    (hx : argV ops i 0 E = some (.pointer (some ⟨b, off, none⟩))) (hv : argV ops i 1 E = some v) (h1 : ∀ u ∈ v.cells.toList, u.oneCell' = true) (hj : H[j]? = some (.blk b cs T)) (hw : writeOf P t cs off v = some cs') {H' : List Res} (hH : H.set j (.blk b cs' T) = H')
    (k : ∀ a' w', St C (putO E (opAt ops i).dst undef) M H' a' w' → (∀ x, x ≠ b → w'.heap[x]? = w.heap[x]?) → K a' w') : wpOp P ops Q i K a w := by
  subst hH
  obtain ⟨h2, h3, h4⟩ := okOp_spec hs.env ho
  have hb : w.heap[b]? = some (.cells cs.toArray T (0, 0)) := hs.wf.holds _ (List.mem_of_getElem? hj)
  have hr := hs.wf.replace (w' := w.setRow b cs'.toArray) (r' := .blk b cs' T) hj rfl rfl rfl (by rw [setRow_size]; exact Nat.le_refl _) (fun x _ hx => setRow_other w b x _ (fun e => hx (by rw [e]; rfl))) (setRow_heap w b _ _ T _ hb) (fun x hx => .inl hx)
  exact op_skip h2 h3 (store_run hk hs.env hx hv h1 hb hw) (k _ _ ⟨hs.env.putO h4 _, hr.1, hs.ext.trans hr.2⟩ fun x hx => setRow_other w b x _ hx)

/-! ### New memory -/
def alT (o : Oper) : Option TypeId := match o.op with | .alloc t => some t | _ => none
def boxT (o : Oper) : Option TypeId := match o.op with | .box t _ => some t | _ => none
def zeroOf (P : Program) (t : TypeId) : Option (List Value) := match P.info? t with | some i => i.zero.map (·.cells.toList) | none => none

theorem new_blk (h : Wf w M H) (cs : List Value) (T : TypeId) : Wf (w.alloc (.cells cs.toArray T)) M (.blk w.heap.size cs T :: H) ∧ Ext w M H (w.alloc (.cells cs.toArray T)) M (.blk w.heap.size cs T :: H) :=
  h.push rfl rfl rfl (by simp) (fun x hx => heap_alloc_old w _ x hx) (heap_alloc_new w _) (fun x hx => by simp only [Res.foot, Option.some.injEq] at hx; omega)

theorem st_alloc (hs : St C E M H a w) {t : TypeId} {cs : List Value} (ho : okOp ops C.N E i = true) (hk : alT (opAt ops i) = some t) (hz : zeroOf P t = some cs)
    (k : ∀ b a' w', St C (putO E (opAt ops i).dst (.pointer (some ⟨b, 0, none⟩))) M (.blk b cs t :: H) a' w' → (∀ x, x < w.heap.size → w'.heap[x]? = w.heap[x]?) → K a' w') : wpOp P ops Q i K a w := by
  obtain ⟨h2, h3, h4⟩ := okOp_spec hs.env ho
  have hn := new_blk hs.wf cs t
  refine op_val h2 h3 (v := .pointer (some ⟨w.heap.size, 0, none⟩)) (w' := w.alloc (.cells cs.toArray t)) ?_ (k _ _ _ ⟨hs.env.putO h4 _, hn.1, hs.ext.trans hn.2⟩ fun x hx => heap_alloc_old w _ x hx)
  unfold alT at hk
  generalize opAt ops i = o at *
  obtain ⟨dst, op, ty, pos, after, guard⟩ := o
  cases op with
  | alloc t' =>
    simp only [Option.some.injEq] at hk
    subst hk
    unfold zeroOf at hz
    cases hi : P.info? t' with
    | none => rw [hi] at hz; cases hz
    | some info =>
      rw [hi] at hz
      simp only at hz
      obtain ⟨z, hz1, hz2⟩ := Option.map_eq_some_iff.1 hz
      subst hz2
      simp [execOp, Instr.alloc, zeroValue, typeInfo, hi, hz1, newVar, newRow]
  | _ => cases hk

theorem st_box (hs : St C E M H a w) {t : TypeId} {v : Value} {cs : List Value} (ho : okOp ops C.N E i = true) (hk : boxT (opAt ops i) = some t) (hx : argV ops i 0 E = some v) (hc : v.cells.toList = cs)
    (k : ∀ b a' w', St C (putO E (opAt ops i).dst (.pointer (some ⟨b, 0, none⟩))) M (.blk b cs t :: H) a' w' → (∀ x, x < w.heap.size → w'.heap[x]? = w.heap[x]?) → K a' w') : wpOp P ops Q i K a w := by
  subst hc
  obtain ⟨h2, h3, h4⟩ := okOp_spec hs.env ho
  have hn := new_blk hs.wf v.cells.toList t
  refine op_val h2 h3 (v := .pointer (some ⟨w.heap.size, 0, none⟩)) (w' := w.alloc (.cells v.cells.toList.toArray t)) ?_ (k _ _ _ ⟨hs.env.putO h4 _, hn.1, hs.ext.trans hn.2⟩ fun x hx => heap_alloc_old w _ x hx)
  unfold boxT at hk
  unfold argV at hx
  generalize opAt ops i = o at *
  obtain ⟨dst, op, ty, pos, after, guard⟩ := o
  cases op with
  | box t' x =>
    simp only [Option.some.injEq] at hk
    subst hk
    have hx' : ev E x = some v := by simpa [Op.operands] using hx
    simp [execOp, Instr.box, hs.env.eval hx', newVar, newRow]
  | _ => cases hk
end ops
end

end Go.Fx
