/- Base for printed walks, part H: errors, arrays, slices of slices. Own work. -/
import Derived.Test.YthpdomeciaafjaaFxG
namespace Go.Fx

def FUEL : Nat := 4611686018427387904

/-- An error: 0: none; else a number under one type. -/
def errV (C : Nat) (e : Int) : Value := if e = 0 then .nilIface else .iface C (.int .i64 e)
theorem errV_one (C : Nat) (e : Int) : (errV C e).oneCell' = true := by unfold errV; split <;> rfl
def kerr (C : Nat) : Kd Int := scalar (errV C) (errV_one C)

section
variable {P : Program} {C : Ctx} {E : Env} {M : Mem} {H : List Res} {a : Act} {w : World}
variable {ops : Array Oper} {Q : Post} {K : Act → World → Prop} {i : Nat} {w1 : World} {F : Fs} {p : Plan}

def cmpNil (o : Oper) : Option (BinOp × TypeId) := match o.op with | .binOp op t _ (.const .nilIface) _ => some (op, t) | _ => none
def cmpT (o : Oper) : Option (BinOp × TypeId) := match o.op with | .binOp op t _ _ _ => some (op, t) | _ => none
def isIfaceT (P : Program) (t : TypeId) : Bool := isIface (P.underlying t)
def cmpable (P : Program) (t : TypeId) : Bool := match P.info? t with | some i => i.comparable | none => false
def isIntT (P : Program) (t : TypeId) : Bool := match P.underlying t with | some (.int _) => true | _ => false

theorem depth2 : ∃ d, Op.maxDepth = d + 1 + 1 := ⟨Op.maxDepth - 2, rfl⟩
theorem eq_nilnil {T : TypeId} {ms : Array (String × TypeId)} (hu : P.underlying T = some (.interface ms)) (w : World) : (Op.equal T .nilIface .nilIface).run P w = .ok true w := by
  obtain ⟨d, hd⟩ := depth2
  simp only [Op.equal, hd, Op.equalIn, Sem.run_bind, run_underlying hu, Result.andThen_ok]
  rfl
theorem eq_ifnil {T D : TypeId} {v : Value} {ms : Array (String × TypeId)} (hu : P.underlying T = some (.interface ms)) (w : World) : (Op.equal T (.iface D v) .nilIface).run P w = .ok false w := by
  obtain ⟨d, hd⟩ := depth2
  simp only [Op.equal, hd, Op.equalIn, Sem.run_bind, run_underlying hu, Result.andThen_ok]
  rfl
theorem eq_nilif {T D : TypeId} {v : Value} {ms : Array (String × TypeId)} (hu : P.underlying T = some (.interface ms)) (w : World) : (Op.equal T .nilIface (.iface D v)).run P w = .ok false w := by
  obtain ⟨d, hd⟩ := depth2
  simp only [Op.equal, hd, Op.equalIn, Sem.run_bind, run_underlying hu, Result.andThen_ok]
  rfl
theorem eq_ifif {T D : TypeId} {x y : Int} {ms : Array (String × TypeId)} {info : TypeInfo} {k : IntKind} (hu : P.underlying T = some (.interface ms)) (hi : P.info? D = some info) (hc : info.comparable = true) (hk : P.underlying D = some (.int k)) (w : World) :
    (Op.equal T (.iface D (.int .i64 x)) (.iface D (.int .i64 y))).run P w = .ok (x == y) w := by
  obtain ⟨d, hd⟩ := depth2
  simp only [Op.equal, hd, Op.equalIn, Sem.run_bind, run_underlying hu, Result.andThen_ok]
  simp [typeInfo, hi, hc, run_underlying hk]

theorem st_errnil (hs : St C E M H a w) {T : TypeId} {e : Int} {D : Nat} {op : BinOp} {r : Bool} (ho : okOp ops C.N E i = true) (hk : cmpNil (opAt ops i) = some (op, T)) (hT : isIfaceT P T = true) (hx : argV ops i 0 E = some (errV D e))
    (hr : (op = .eql ∧ r = (e == 0)) ∨ (op = .neq ∧ r = (e != 0))) (k : ∀ a', St C (putO E (opAt ops i).dst (.bool r)) M H a' w → p.wp P ops Q w1 F a' w) : (Plan.pure i p).wp P ops Q w1 F a w := by
  refine st_pure1 hs ho (fun w => ?_) k
  unfold cmpNil at hk
  unfold argV at hx
  generalize opAt ops i = o at *
  obtain ⟨dst, op', ty, pos, after, guard⟩ := o
  cases op' with
  | binOp op' t x y u =>
    split at hk
    · rename_i op2 t2 x2 u2 heq
      simp only [Op.binOp.injEq] at heq
      obtain ⟨rfl, rfl, rfl, rfl, rfl⟩ := heq
      simp only [Option.some.injEq, Prod.mk.injEq] at hk
      obtain ⟨rfl, rfl⟩ := hk
      have hx' : ev E x = some (errV D e) := by simpa [Op.operands] using hx
      have ev1 := hs.env.eval hx'
      unfold isIfaceT isIface at hT
      split at hT
      · rename_i ms hu
        have hen : a.eval (.const .nilIface) = .nilIface := rfl
        by_cases he : e = 0
        · subst he
          have e1 : a.eval x = .nilIface := by rw [ev1]; rfl
          rcases hr with ⟨rfl, rfl⟩ | ⟨rfl, rfl⟩ <;> simp [execOp, eqGuard, e1, hen, binOp, eq_nilnil hu]
        · have e1 : a.eval x = .iface D (.int .i64 e) := by rw [ev1]; simp [errV, he]
          rcases hr with ⟨rfl, rfl⟩ | ⟨rfl, rfl⟩ <;> simp [execOp, eqGuard, e1, hen, binOp, eq_ifnil hu, he]
      · cases hT
    · cases hk
  | _ => cases hk

theorem st_erreq (hs : St C E M H a w) {T : TypeId} {e c : Int} {D : Nat} {op : BinOp} {r : Bool} (ho : okOp ops C.N E i = true) (hk : cmpT (opAt ops i) = some (op, T)) (hT : isIfaceT P T = true) (hD : cmpable P D = true) (hI : isIntT P D = true) (hx : argV ops i 0 E = some (errV D e)) (hy : argV ops i 1 E = some (.iface D (.int .i64 c)))
    (hc : (c == 0) = false) (hr : (op = .eql ∧ r = (e == c)) ∨ (op = .neq ∧ r = (e != c))) (k : ∀ a', St C (putO E (opAt ops i).dst (.bool r)) M H a' w → p.wp P ops Q w1 F a' w) : (Plan.pure i p).wp P ops Q w1 F a w := by
  refine st_pure1 hs ho (fun w => ?_) k
  have hc' : ¬ c = 0 := by simpa using hc
  unfold cmpT at hk
  unfold argV at hx hy
  generalize opAt ops i = o at *
  obtain ⟨dst, op', ty, pos, after, guard⟩ := o
  cases op' with
  | binOp op' t x y u =>
    simp only [Option.some.injEq, Prod.mk.injEq] at hk
    obtain ⟨rfl, rfl⟩ := hk
    have hx' : ev E x = some (errV D e) := by simpa [Op.operands] using hx
    have hy' : ev E y = some (.iface D (.int .i64 c)) := by simpa [Op.operands] using hy
    have ev1 := hs.env.eval hx'
    have ev2 := hs.env.eval hy'
    unfold isIfaceT isIface at hT
    unfold isIntT at hI
    unfold cmpable at hD
    split at hT
    · rename_i ms hu
      split at hI
      · rename_i k2 hu2
        split at hD
        · rename_i info hinf
          by_cases he : e = 0
          · subst he
            have e1 : a.eval x = .nilIface := by rw [ev1]; rfl
            have e2 : ((0 : Int) == c) = false := by simp; omega
            rcases hr with ⟨rfl, rfl⟩ | ⟨rfl, rfl⟩ <;> simp [execOp, eqGuard, e1, ev2, binOp, eq_nilif hu] <;> omega
          · have e1 : a.eval x = .iface D (.int .i64 e) := by rw [ev1]; simp [errV, he]
            rcases hr with ⟨rfl, rfl⟩ | ⟨rfl, rfl⟩ <;> simp [execOp, eqGuard, e1, ev2, binOp, eq_ifif hu hinf hD hu2, bne]
        · cases hD
      · cases hI
    · cases hT
  | _ => cases hk

/-! ### Arrays in structs -/
/-- An element's place in an array. -/
theorem st_indexA (hs : St C E M H a w) {t : TypeId} {b off n sz : Nat} {k : IntKind} {j : Int} (ho : okOp ops C.N E i = true) (hk : ixT (opAt ops i) = some t) (hsz : arElem P t = some (n, sz))
    (hx : argV ops i 0 E = some (.pointer (some ⟨b, off, none⟩))) (hi : argV ops i 1 E = some (.int k j)) (h0 : 0 ≤ j) (h1 : j < n)
    (kk : ∀ a', St C (putO E (opAt ops i).dst (.pointer (some ⟨b, off + j.toNat * sz, none⟩))) M H a' w → p.wp P ops Q w1 F a' w) : (Plan.pure i p).wp P ops Q w1 F a w :=
  st_pure1 hs ho (indexA_run hs.env hk hsz hx hi h0 h1) kk
/-- An array's element out of an array value. -/
def ixvT (o : Oper) : Option TypeId := match o.op with | .index t _ _ => some t | _ => none
theorem st_indexV (hs : St C E M H a w) {t : TypeId} {n : Nat} {k : IntKind} {j : Int} {cs : List Value} {v : Value} (ho : okOp ops C.N E i = true) (hk : ixvT (opAt ops i) = some t) (hsz : arElem P t = some (n, 1)) (hag : (match P.underlying t with | some (.array _ e) => aggB P e | _ => none) = some false)
    (hx : argV ops i 0 E = some (.agg cs.toArray)) (hi : argV ops i 1 E = some (.int k j)) (h0 : 0 ≤ j) (h1 : j < n) (hv : cs[j.toNat]? = some v)
    (kk : ∀ a', St C (putO E (opAt ops i).dst v) M H a' w → p.wp P ops Q w1 F a' w) : (Plan.pure i p).wp P ops Q w1 F a w := by
  refine st_pure1 hs ho (fun w => ?_) kk
  unfold ixvT at hk
  unfold argV at hx hi
  generalize opAt ops i = o at *
  obtain ⟨dst, op, ty, pos, after, guard⟩ := o
  cases op with
  | index t' y z =>
    simp only [Option.some.injEq] at hk
    subst hk
    have hx' : ev E y = some (.agg cs.toArray) := by simpa [Op.operands] using hx
    have hi' : ev E z = some (.int k j) := by simpa [Op.operands] using hi
    unfold arElem at hsz
    split at hsz
    · rename_i n' e hu
      obtain ⟨info, hinf, he⟩ := Option.map_eq_some_iff.1 hsz
      simp only [Prod.mk.injEq] at he
      obtain ⟨rfl, he⟩ := he
      rw [hu] at hag
      replace hag : aggB P e = some false := hag
      have hp : (part e cs.toArray j.toNat).run P w = .ok v w := run_part (by unfold partOf; rw [hag]; exact hv) w
      simp [execOp, Instr.index, hs.env.eval hx', hs.env.eval hi', asIntOf, run_underlying hu, h0, h1, sizeOf, typeInfo, hinf, he, hp]
    · cases hsz
  | _ => cases hk

theorem arr_at {xs : List Int} {n : Nat} {k : IntKind} {j : Int} (hn : xs.length = n) (h0 : 0 ≤ j) (h1 : j < n) : (xs.map (Value.int k))[j.toNat]? = some (.int k (xs.getD j.toNat 0)) := by
  have : j.toNat < xs.length := by omega
  simp [this]

/-! ### Slices of slices -/
def slT (o : Oper) : Option (TypeId × Operand × Option Operand × Option Operand) := match o.op with | .slice t x lo hi none => some (t, x, lo, hi) | _ => none
def optV (E : Env) (d : Nat) : Option Operand → Option Int
  | none => some d
  | some x => match ev E x with | some (.int _ n) => some n | _ => none
theorem take_drop_row {α : Type} {d : Kd α} {A : Option Addr} {xs : List α} {M : Mem} {l h : Nat} (hr : RowAt d M A xs) (hh : h ≤ xs.length) (hl : l ≤ h) : RowAt d M (A.map fun a => addOff a (l * d.sz)) ((xs.drop l).take (h - l)) := by
  rcases hr with rfl | ⟨b, off, c, rfl, hb, hx⟩
  · left; simp
  · refine .inr ⟨b, off + l * d.sz, c, rfl, hb, fun i hi => ?_⟩
    simp only [List.length_take, List.length_drop] at hi
    have := hx (l + i) (by omega)
    rw [Nat.add_mul] at this
    simp only [List.getElem_take, List.getElem_drop]
    rw [Nat.add_assoc]
    exact this
theorem st_slice {α : Type} {d : Kd α} {xs : List α} (hs : St C E M H a w) {t : TypeId} {A : Option Addr} {c : Nat} {x : Operand} {lo hi : Option Operand} {l h : Int} (ho : okOp ops C.N E i = true) (hk : slT (opAt ops i) = some (t, x, lo, hi)) (hsz : slElem P t = some d.sz)
    (hx : argV ops i 0 E = some (.slice A xs.length c)) (hsl : SlAt d M A c xs) (hl : optV E 0 lo = some l) (hh : optV E xs.length hi = some h) (hb : (0 ≤ l ∧ l ≤ h) ∧ h ≤ xs.length)
    (kk : ∀ A' c' a', SlAt d M A' c' ((xs.drop l.toNat).take (h.toNat - l.toNat)) → St C (putO E (opAt ops i).dst (.slice A' ((xs.drop l.toNat).take (h.toNat - l.toNat)).length c')) M H a' w → p.wp P ops Q w1 F a' w) : (Plan.pure i p).wp P ops Q w1 F a w := by
  obtain ⟨⟨hb1, hb2⟩, hb3⟩ := hb
  have hcap := hsl.cap
  have hlen : ((xs.drop l.toNat).take (h.toNat - l.toNat)).length = h.toNat - l.toNat := by simp; omega
  refine st_pure1 (v := .slice (if c = l.toNat then A else A.map fun a => addOff a (l.toNat * d.sz)) ((xs.drop l.toNat).take (h.toNat - l.toNat)).length (c - l.toNat)) hs ho (fun w => ?_) (kk _ _ · ⟨?_, ?_⟩)
  · rw [hlen]
    unfold slT at hk
    unfold argV at hx
    generalize opAt ops i = o at *
    obtain ⟨dst, op, ty, pos, after, guard⟩ := o
    cases op with
    | slice t' y lo' hi' mx =>
      cases mx with
      | some _ => cases hk
      | none =>
        simp only [Option.some.injEq, Prod.mk.injEq] at hk
        obtain ⟨rfl, rfl, rfl, rfl⟩ := hk
        have hx' : ev E y = some (.slice A xs.length c) := by simpa [Op.operands] using hx
        unfold slElem at hsz
        split at hsz
        · rename_i e hu
          obtain ⟨info, hinf, he⟩ := Option.map_eq_some_iff.1 hsz
          have key : ∀ (z : Option Operand) (m : Nat) (v : Int) (y : Nat) (code : BoundsCode), optV E m z = some v → 0 ≤ v → v ≤ y → (match z.map a.eval with | some v => Instr.sliceBound v y code | none => pure m).run P w = .ok v.toNat w := by
            intro z m v y code hz hv0 hv1
            cases z with
            | none => simp only [optV, Option.some.injEq] at hz; subst hz; simp
            | some z =>
              simp only [optV] at hz
              split at hz
              · rename_i k n hz'
                simp only [Option.some.injEq] at hz
                subst hz
                simp [hs.env.eval hz', Instr.sliceBound, asIntOf, hv0, hv1]
              · cases hz
          have e1 := key hi' xs.length h c .sliceAcap hh (by omega) (by omega)
          have e2 := key lo' 0 l h.toNat .sliceB hl hb1 (by omega)
          have hsb : (Instr.sliceBounds true xs.length c (lo'.map a.eval) (hi'.map a.eval) none).run P w = .ok (l.toNat, h.toNat, c) w := by
            unfold Instr.sliceBounds
            cases hi' with
            | none =>
              simp only [optV, Option.some.injEq] at hh
              cases lo' with
              | none => simp only [optV, Option.some.injEq] at hl; simp [← hh, ← hl]
              | some z =>
                simp only [Option.map_some] at e2 ⊢
                simp only [← hh] at e2
                simp at e2
                simp [e2, ← hh]
            | some z2 =>
              simp only [Option.map_some] at e1
              cases lo' with
              | none => simp only [optV, Option.some.injEq] at hl; simp [e1, ← hl]
              | some z =>
                simp only [Option.map_some] at e2
                simp [e1, e2]
          simp only [execOp, Instr.sliceAt, Sem.run_bind, run_underlying hu, Result.andThen_ok, hs.env.eval hx', Instr.slice, Option.map_none, hsb, sizeOf, typeInfo]
          simp only [program, Sem.run, Result.andThen_ok]
          simp [hinf, he, addOff_eq]
        · cases hsz
    | _ => cases hk
  · split
    · rename_i hc
      have : l.toNat = xs.length := by omega
      left
      rw [this]
      simp
    · exact take_drop_row hsl.row (by omega) (by omega)
  · rw [hlen]; omega

theorem slNil {α : Type} {d : Kd α} {M : Mem} : SlAt d M none 0 [] := ⟨.inl rfl, Nat.le_refl _⟩
theorem own_one {e sz n : Nat} {v : Value} {cs : List Value} (h : OwnR w e sz v n cs) : v.oneCell' = true := by
  rcases h.2 with ⟨rfl, _⟩ | ⟨g, o, cap, cur, rfl, _⟩ <;> rfl
theorem St.rowOne (hs : St C E M H a w) (j : Nat) {v : Value} {e sz n : Nat} {cs : List Value} (hj : H[j]? = some (.row v e sz n cs)) : v.oneCell' = true :=
  own_one (hs.wf.holds _ (List.mem_of_getElem? hj))
/-- A call of what may write nothing that is at hand. -/
theorem st_call0 (hs : St C E M H a w) {g : FuncId} {vs : List Value} {R : Value → Mem → List Res → Prop} (ho : okOp ops C.N E i = true) (hc : calArgs (opAt ops i) E = some (g, vs)) (hk : callable P g = true) (hf : FnOk P g vs M [] R)
    (k : ∀ v M' H' a' w', R v M' H' → M.le M' → St C (putO E (opAt ops i).dst v) M' (H' ++ H) a' w' → Ext w M [] w' M' H' → K a' w') : wpOp P ops Q i K a w :=
  st_call (Hc := []) (F' := H) hs ho hc hk hf k
theorem kept_blk {w w' : World} {M M' : Mem} {H H' : List Res} (h : Ext w M H w' M' H') {b : Nat} (hb : b < w.heap.size) (hn : ¬ feet H b) : w'.heap[b]? = w.heap[b]? := h.kept b hb hn
end
end Go.Fx
