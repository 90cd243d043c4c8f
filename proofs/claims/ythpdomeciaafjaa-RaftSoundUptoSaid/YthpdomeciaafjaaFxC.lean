/- Base for printed walks, part C: frames' slots; operations that only reckon; plans for regions. Own work. -/
import Derived.Test.YthpdomeciaafjaaFxB
namespace Go.Fx

abbrev Env := Nat → Option Value
def Env.put (E : Env) (d : Nat) (v : Value) : Env := fun t => bif Nat.beq t d then some v else E t
def env : List (Nat × Value) → Env
  | [] => fun _ => none
  | (t, v) :: l => (env l).put t v
def ev (E : Env) : Operand → Option Value
  | .tmp t => E t
  | .const v => some v
  | .global g => some (.pointer (some ⟨g, 0, none⟩))
  | .func f => some (.func (.func f) #[] #[])

structure EnvOk (N : Nat) (E : Env) (a : Act) : Prop where
  size : a.tmps.size = N
  defers : a.defers = []
  at_ : ∀ t v, E t = some v → a.tmps.getD t undef = v
  lt : ∀ t v, E t = some v → t < N

theorem EnvOk.eval {N : Nat} {E : Env} {a : Act} (h : EnvOk N E a) {x : Operand} {v : Value} (hx : ev E x = some v) : a.eval x = v := by
  cases x with
  | tmp t => exact h.at_ t v hx
  | const u => simp only [ev, Option.some.injEq] at hx; subst hx; rfl
  | global g => simp only [ev, Option.some.injEq] at hx; subst hx; rfl
  | func f => simp only [ev, Option.some.injEq] at hx; subst hx; rfl
theorem EnvOk.put {N : Nat} {E : Env} {a : Act} (h : EnvOk N E a) {d : Nat} (hd : d < N) (v : Value) : EnvOk N (E.put d v) (a.put (some d) v) where
  size := by simp [Act.put, h.size]
  defers := h.defers
  at_ := fun t u e => by
    have hs := h.size
    simp only [Env.put] at e
    simp only [Act.put, Array.getD_eq_getD_getElem?]
    cases hb : Nat.beq t d with
    | true =>
      have : t = d := Nat.eq_of_beq_eq_true hb
      subst this
      rw [hb] at e
      simp only [cond_true, Option.some.injEq] at e
      subst e
      simp [hs, hd]
    | false =>
      have hne : d ≠ t := fun e => by subst e; simp at hb
      rw [hb] at e
      have := h.at_ t u e
      rw [Array.getElem?_setIfInBounds_ne hne]
      simpa [Array.getD_eq_getD_getElem?] using this
  lt := fun t u e => by
    simp only [Env.put] at e
    cases hb : Nat.beq t d with
    | true => have : t = d := Nat.eq_of_beq_eq_true hb; omega
    | false => rw [hb] at e; exact h.lt t u e
def AllIn (E : Env) : List (Nat × Value) → Prop
  | [] => True
  | (t, v) :: l => E t = some v ∧ AllIn E l
theorem env_le {E : Env} : ∀ {l : List (Nat × Value)}, AllIn E l → ∀ t v, env l t = some v → E t = some v
  | [], _, t, v, h => by cases h
  | (s, u) :: l, ⟨h1, h2⟩, t, v, h => by
    simp only [env, Env.put] at h
    cases hb : Nat.beq t s with
    | true =>
      have : t = s := Nat.eq_of_beq_eq_true hb
      subst this
      rw [hb] at h
      simp only [cond_true, Option.some.injEq] at h
      subst h
      exact h1
    | false => rw [hb] at h; exact env_le h2 t v h
theorem EnvOk.weaken {N : Nat} {E : Env} {a : Act} (h : EnvOk N E a) {l : List (Nat × Value)} (hl : AllIn E l) : EnvOk N (env l) a :=
  ⟨h.size, h.defers, fun t v e => h.at_ t v (env_le hl t v e), fun t v e => h.lt t v (env_le hl t v e)⟩

/-! ### Operations that only reckon -/
def evs (E : Env) : List Operand → Option (List Value)
  | [] => some []
  | x :: xs => match ev E x, evs E xs with
    | some v, some vs => some (v :: vs)
    | _, _ => none
theorem evs_map {N : Nat} {E : Env} {a : Act} (h : EnvOk N E a) : ∀ {xs : List Operand} {vs : List Value}, evs E xs = some vs → xs.map a.eval = vs
  | [], vs, e => by simp only [evs, Option.some.injEq] at e; subst e; rfl
  | x :: xs, vs, e => by
    simp only [evs] at e
    split at e
    · rename_i v vs' h1 h2
      simp only [Option.some.injEq] at e
      subst e
      rw [List.map_cons, h.eval h1, evs_map h h2]
    · cases e

def intOp (op : BinOp) (k : IntKind) (x y : Int) : Option Value :=
  match op with
  | .add => some (.int k (k.wrap (x + y)))
  | .sub => some (.int k (k.wrap (x - y)))
  | .mul => some (.int k (k.wrap (x * y)))
  | .eql => some (.bool (x == y))
  | .neq => some (.bool (x != y))
  | .lss => some (.bool (decide (x < y)))
  | .leq => some (.bool (decide (x ≤ y)))
  | .gtr => some (.bool (decide (x > y)))
  | .geq => some (.bool (decide (x ≥ y)))
  | .and => some (.int k (k.wrap (BitVec.ofInt k.bits x &&& BitVec.ofInt k.bits y).toNat))
  | .or => some (.int k (k.wrap (BitVec.ofInt k.bits x ||| BitVec.ofInt k.bits y).toNat))
  | .xor => some (.int k (k.wrap (BitVec.ofInt k.bits x ^^^ BitVec.ofInt k.bits y).toNat))
  | _ => none
def isIface : Option TypeDesc → Bool
  | some (.interface _) => true
  | _ => false
def fieldOff (P : Program) (s : TypeId) (f : Nat) : Option Nat :=
  match P.underlying s with
  | some (.struct fs) => match fs[f]? with
    | some g => match P.info? g.type with
      | some i => if i.size = 0 then none else some g.offset
      | none => none
    | none => none
  | _ => none
def addOff (a : Addr) (n : Nat) : Addr := match a with | ⟨b, o, none⟩ => ⟨b, o + n, none⟩ | a => a.add n
theorem addOff_eq (a : Addr) (n : Nat) : addOff a n = a.add n := by
  obtain ⟨b, o, s⟩ := a
  cases s with
  | none => unfold addOff Addr.add; split <;> simp_all
  | some s => rfl
def aggB (P : Program) (t : TypeId) : Option Bool :=
  match P.underlying t with
  | some (.struct _) => some true
  | some (.array _ _) => some true
  | some _ => some false
  | none => none
def partOf (P : Program) (t : TypeId) (cs : List Value) (off : Nat) : Option Value :=
  match aggB P t, P.info? t with
  | some true, some i => some (.agg ((cs.drop off).take i.size).toArray)
  | some false, _ => cs[off]?
  | _, _ => none

def eqOp (op : BinOp) (b : Bool) : Option Value := match op with | .eql => some (.bool b) | .neq => some (.bool (!b)) | _ => none
/-- The letters of a text, told of two texts. -/
def strEq (x y : ByteArray) : Bool := x.toList == y.toList
def strLt (x y : ByteArray) : Bool := Op.bytesLess x.toList y.toList
def strOp (op : BinOp) (x y : ByteArray) : Option Value := match op with
  | .eql => some (.bool (strEq x y))
  | .neq => some (.bool (!strEq x y))
  | .lss => some (.bool (strLt x y))
  | .leq => some (.bool (strLt x y || strEq x y))
  | .gtr => some (.bool (!(strLt x y || strEq x y)))
  | .geq => some (.bool (!strLt x y))
  | _ => none
theorem depth1 : ∃ d, Op.maxDepth = d + 1 := ⟨_, (Nat.succ_pred_eq_of_pos (by decide)).symm⟩
theorem eq_bool {P : Program} {t : TypeId} {a b : Bool} (hu : P.underlying t = some .bool) (w : World) : (Op.equal t (.bool a) (.bool b)).run P w = .ok (a == b) w := by
  obtain ⟨d, hd⟩ := depth1
  simp only [Op.equal, hd, Op.equalIn, Sem.run_bind, run_underlying hu, Result.andThen_ok]
  rfl
theorem eq_slnil {P : Program} {t e : TypeId} {A : Option Addr} {n c n' c' : Nat} (hu : P.underlying t = some (.slice e)) (w : World) : (Op.equal t (.slice A n c) (.slice none n' c')).run P w = .ok A.isNone w := by
  obtain ⟨d, hd⟩ := depth1
  simp only [Op.equal, hd, Op.equalIn, Sem.run_bind, run_underlying hu, Result.andThen_ok]
  cases A <;> rfl
theorem eq_ptrnil {P : Program} {t e : TypeId} {A : Option Addr} (hu : P.underlying t = some (.pointer e)) (w : World) : (Op.equal t (.pointer A) (.pointer none)).run P w = .ok A.isNone w := by
  obtain ⟨d, hd⟩ := depth1
  simp only [Op.equal, hd, Op.equalIn, Sem.run_bind, run_underlying hu, Result.andThen_ok]
  cases A <;> rfl

def pureOp (P : Program) (E : Env) (o : Oper) : Option Value :=
  match o.op with
  | .move x => ev E x
  | .assign x => ev E x
  | .pick c x y => match ev E c with
    | some (.bool b) => match b with
      | true => ev E x
      | false => ev E y
    | _ => none
  | .nilCheck x => match ev E x with
    | some (.pointer (some a)) => some (.pointer (some a))
    | _ => none
  | .fieldAddr s x f => match ev E x, fieldOff P s f with
    | some (.pointer (some a)), some n => some (.pointer (some (addOff a n)))
    | _, _ => none
  | .extract x i => match ev E x with
    | some (.tuple vs) => vs.toList[i]?
    | _ => none
  | .makeInterface t x => match P.underlying t, ev E x with
    | some d, some v => bif isIface (some d) then none else some (.iface t v)
    | _, _ => none
  | .makeFunc fn xs ys => match evs E xs.toList, evs E ys.toList with
    | some vs, some us => some (.func fn vs.toArray us.toArray)
    | _, _ => none
  | .binOp op t x y _ => match ev E x, ev E y with
    | some (.int k a), some (.int k' b) => if k = k' then intOp op k a b else none
    | some (.bool a), some (.bool b) => match P.underlying t with
      | some .bool => eqOp op (a == b)
      | _ => none
    | some (.string a), some (.string b) => strOp op a b
    | some (.slice A _ _), some (.slice none _ _) => match P.underlying t with
      | some (.slice _) => eqOp op A.isNone
      | _ => none
    | some (.pointer A), some (.pointer none) => match P.underlying t with
      | some (.pointer _) => eqOp op A.isNone
      | _ => none
    | _, _ => none
  | .unOp .not _ x => match ev E x with
    | some (.bool b) => some (.bool (!b))
    | _ => none
  | .unOp .neg _ x => match ev E x with
    | some (.int k n) => some (.int k (k.wrap (0 - n)))
    | _ => none
  | .convert s d x => match P.underlying s, P.underlying d, ev E x with
    | some (.int _), some (.int k), some (.int _ n) => some (.int k (k.wrap n))
    | _, _, _ => none
  | .field t x f => match P.underlying t, ev E x with
    | some (.struct fs), some (.agg cs) => match fs[f]? with
      | some g => partOf P g.type cs.toList g.offset
      | none => none
    | _, _ => none
  | .call { callee := .builtin .len, args := xs, argTypes := ts } => match xs.toList, ts.toList with
    | [x], [t] => match P.underlying t, ev E x with
      | some (.slice _), some (.slice _ n _) => some (.int .i64 n)
      | some .string, some (.string s) => some (.int .i64 s.size)
      | some (.array n _), some _ => some (.int .i64 n)
      | _, _ => none
    | _, _ => none
  | .call { callee := .builtin .cap, args := xs, argTypes := ts } => match xs.toList, ts.toList with
    | [x], [t] => match P.underlying t, ev E x with
      | some (.slice _), some (.slice _ _ n) => some (.int .i64 n)
      | _, _ => none
    | _, _ => none
  | .slice t x none (some h) none => match P.underlying t, ev E x, ev E h with
    | some (.slice e), some (.slice none 0 0), some (.int _ 0) => match P.info? e with
      | some _ => some (.slice none 0 0)
      | none => none
    | _, _, _ => none
  | .call { callee := .builtin .min, args := xs, .. } => match evs E xs.toList with
    | some [.int k x, .int _ y] => some (.int k (if y < x then y else x))
    | _ => none
  | .call { callee := .builtin .max, args := xs, .. } => match evs E xs.toList with
    | some [.int k x, .int _ y] => some (.int k (if x < y then y else x))
    | _ => none
  | _ => none

theorem run_val {P : Program} {s : Sem Value} {v : Value} {w : World} (h : s.run P w = .ok v w) : (do pure (Next.value (← s)) : Sem Next).run P w = .ok (.value v) w := by
  simp [h]

theorem run_part {P : Program} {t : TypeId} {cs : List Value} {off : Nat} {v : Value} (h : partOf P t cs off = some v) (w : World) : (part t cs.toArray off).run P w = .ok v w := by
  unfold partOf at h
  unfold part
  have key : ∀ d, P.underlying t = some d → (isAgg t).run P w = .ok (match d with | .struct _ | .array _ _ => true | _ => false) w := by
    intro d hd
    simp only [isAgg, Sem.run_bind, run_underlying hd, Result.andThen_ok]
    cases d <;> rfl
  unfold aggB at h
  cases hu : P.underlying t with
  | none => rw [hu] at h; simp at h
  | some d =>
    simp only [Sem.run_bind, key d hu, Result.andThen_ok]
    rw [hu] at h
    cases hi : P.info? t with
    | none =>
      rw [hi] at h
      cases d <;> first
        | (simp at h; done)
        | (simp only at h; simp [h])
    | some i =>
      rw [hi] at h
      cases d <;> first
        | (simp only [Option.some.injEq] at h; subst h; simp [sizeOf, typeInfo, hi, List.extract_eq_take_drop]; done)
        | (simp only at h; simp [h])

theorem pureOp_run {P : Program} {N : Nat} {E : Env} {o : Oper} {v : Value} {a : Act} (ha : EnvOk N E a) (h : pureOp P E o = some v) (w : World) : (execOp a.eval o).run P w = .ok (.value v) w := by
  obtain ⟨dst, op, ty, pos, after, guard⟩ := o
  unfold pureOp at h
  simp only at h
  cases op with
  | move x => simp only at h; simp [execOp, ha.eval h]
  | assign x => simp only at h; simp [execOp, ha.eval h]
  | pick c x y =>
    simp only at h
    split at h
    · rename_i b hc
      cases b with
      | true => simp [execOp, ha.eval hc, ha.eval h, asBool]
      | false => simp [execOp, ha.eval hc, ha.eval h, asBool]
    · cases h
  | nilCheck x =>
    simp only at h
    split at h
    · rename_i b hx
      simp only [Option.some.injEq] at h
      subst h
      simp [execOp, ha.eval hx]
    · cases h
  | fieldAddr s x f =>
    simp only at h
    split at h
    · rename_i b n hx hf
      simp only [Option.some.injEq] at h
      subst h
      unfold fieldOff at hf
      split at hf
      · rename_i fs hs
        split at hf
        · rename_i g hg
          split at hf
          · rename_i i hi
            split at hf
            · cases hf
            · rename_i hz
              simp only [Option.some.injEq] at hf
              subst hf
              simp [execOp, Instr.fieldAt, run_underlying hs, hg, ha.eval hx, Instr.sureAddr, fieldPlace, sizeOf, typeInfo, hi, hz, addOff_eq]
          · cases hf
        · cases hf
      · cases hf
    · cases h
  | extract x i =>
    simp only at h
    split at h
    · rename_i vs hx
      simp only [Array.getElem?_toList] at h
      simp [execOp, ha.eval hx, Instr.extract, h]
    · cases h
  | makeInterface t x =>
    simp only at h
    split at h
    · rename_i d v' hd hx
      cases hb : isIface (some d) with
      | true => rw [hb] at h; cases h
      | false =>
        rw [hb] at h
        simp only [cond_false, Option.some.injEq] at h
        subst h
        simp only [execOp, Instr.makeInterface, Sem.run_bind, run_underlying hd, Result.andThen_ok, ha.eval hx]
        cases d <;> first
          | rfl
          | (simp [isIface] at hb)
    · cases h
  | makeFunc fn xs ys =>
    simp only at h
    split at h
    · rename_i vs us h1 h2
      simp only [Option.some.injEq] at h
      subst h
      have e1 := evs_map ha h1
      have e2 := evs_map ha h2
      have e3 : xs.map a.eval = vs.toArray := by rw [← e1]; apply Array.ext'; simp
      have e4 : ys.map a.eval = us.toArray := by rw [← e2]; apply Array.ext'; simp
      simp [execOp, Instr.makeFunc, e3, e4]
    · cases h
  | binOp op t x y u =>
    simp only at h
    split at h
    · rename_i k m k' n hx hy
      split at h
      · rename_i hk
        subst hk
        cases op <;> simp only [intOp, Option.some.injEq] at h <;> first
          | (subst h; simp [execOp, eqGuard, ha.eval hx, ha.eval hy, binOp, Op.intArith, Op.intCmp, Op.intBits]; done)
          | (cases h; done)
      · cases h
    · rename_i b1 b2 hx hy
      split at h
      · rename_i hu
        cases op <;> simp only [eqOp, Option.some.injEq] at h <;> first
          | (subst h; simp [execOp, eqGuard, ha.eval hx, ha.eval hy, binOp, eq_bool hu]; done)
          | (cases h; done)
      · cases h
    · rename_i b1 b2 hx hy
      cases op <;> simp only [strOp, Option.some.injEq] at h <;> first
        | (subst h; simp [execOp, eqGuard, ha.eval hx, ha.eval hy, binOp, Op.stringOp, strEq, strLt]; done)
        | (cases h; done)
    · rename_i A n1 c1 n2 c2 hx hy
      split at h
      · rename_i e hu
        cases op <;> simp only [eqOp, Option.some.injEq] at h <;> first
          | (subst h; simp [execOp, eqGuard, ha.eval hx, ha.eval hy, binOp, eq_slnil hu]; done)
          | (cases h; done)
      · cases h
    · rename_i A hx hy
      split at h
      · rename_i e hu
        cases op <;> simp only [eqOp, Option.some.injEq] at h <;> first
          | (subst h; simp [execOp, eqGuard, ha.eval hx, ha.eval hy, binOp, eq_ptrnil hu]; done)
          | (cases h; done)
      · cases h
    · cases h
  | unOp op t x =>
    cases op with
    | not =>
      simp only at h
      split at h
      · rename_i b hx
        simp only [Option.some.injEq] at h
        subst h
        simp [execOp, ha.eval hx, Op.unary]
      · cases h
    | neg =>
      simp only at h
      split at h
      · rename_i k n hx
        simp only [Option.some.injEq] at h
        subst h
        simp [execOp, ha.eval hx, Op.unary, Op.intArith]
      · cases h
    | _ => cases h
  | convert s d x =>
    simp only at h
    split at h
    · rename_i k1 k k2 n h1 h2 hx
      simp only [Option.some.injEq] at h
      subst h
      simp [execOp, convert, run_underlying h1, run_underlying h2, ha.eval hx, Conv.intToInt]
    · cases h
  | field t x f =>
    simp only at h
    split at h
    · rename_i fs cs hs hx
      split at h
      · rename_i g hg
        have := run_part h w
        simp only [Array.toArray_toList] at this
        simp [execOp, Instr.field, run_underlying hs, hg, ha.eval hx, asAgg, this]
      · cases h
    · cases h
  | slice t x lo hi mx =>
    cases lo with
    | some _ => cases h
    | none =>
      cases hi with
      | none => cases h
      | some hh =>
        cases mx with
        | some _ => cases h
        | none =>
          simp only at h
          split at h
          · rename_i e k hu hx hy
            split at h
            · rename_i info hi
              simp only [Option.some.injEq] at h
              subst h
              simp [execOp, Instr.sliceAt, run_underlying hu, ha.eval hx, ha.eval hy, Instr.slice, Instr.sliceBounds, Instr.sliceBound, asIntOf, sizeOf, typeInfo, hi, program, Sem.run]
            · cases h
          · cases h
  | call c =>
    obtain ⟨callee, args, argTypes⟩ := c
    cases callee with
    | builtin b =>
      cases b with
      | len =>
        simp only at h
        split at h
        · rename_i x t h1 h2
          have ea : args = #[x] := by apply Array.ext'; simpa using h1
          have et : argTypes = #[t] := by apply Array.ext'; simpa using h2
          subst ea; subst et
          split at h
          · rename_i hu hx
            simp only [Option.some.injEq] at h
            subst h
            simp [execOp, resolve, invoke, builtin, Builtin.len_, run_underlying hu, ha.eval hx, goInt]
          · rename_i hu hx
            simp only [Option.some.injEq] at h
            subst h
            simp [execOp, resolve, invoke, builtin, Builtin.len_, run_underlying hu, ha.eval hx, goInt]
          · rename_i hu hx
            simp only [Option.some.injEq] at h
            subst h
            simp [execOp, resolve, invoke, builtin, Builtin.len_, run_underlying hu, ha.eval hx, goInt]
          · cases h
        · cases h
      | cap =>
        simp only at h
        split at h
        · rename_i x t h1 h2
          have ea : args = #[x] := by apply Array.ext'; simpa using h1
          have et : argTypes = #[t] := by apply Array.ext'; simpa using h2
          subst ea; subst et
          split at h
          · rename_i hu hx
            simp only [Option.some.injEq] at h
            subst h
            simp [execOp, resolve, invoke, builtin, Builtin.cap_, run_underlying hu, ha.eval hx, goInt]
          · cases h
        · cases h
      | min =>
        simp only at h
        split at h
        · rename_i k x k' y h1
          simp only [Option.some.injEq] at h
          subst h
          have e1 := evs_map ha h1
          simp [execOp, resolve, invoke, builtin, Builtin.min_, e1, Builtin.min2, List.foldlM]
        · cases h
      | max =>
        simp only at h
        split at h
        · rename_i k x k' y h1
          simp only [Option.some.injEq] at h
          subst h
          have e1 := evs_map ha h1
          simp [execOp, resolve, invoke, builtin, Builtin.max_, e1, Builtin.max2, List.foldlM]
        · cases h
      | _ => cases h
    | _ => cases h
  | _ => cases h

end Go.Fx
