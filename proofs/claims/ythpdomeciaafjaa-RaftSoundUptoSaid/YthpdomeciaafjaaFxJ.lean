/- Base for printed walks, part J: small words that the printer uses. Own work. -/
import Derived.Test.YthpdomeciaafjaaFxI
namespace Go.Fx

theorem and_dec {p q : Prop} [Decidable p] [Decidable q] (h : (decide p && decide q) = true) : p ∧ q := by simpa using h
theorem and3_dec {p q r : Prop} [Decidable p] [Decidable q] [Decidable r] (h : ((decide p && decide q) && decide r) = true) : (p ∧ q) ∧ r := by simpa using h
theorem elNil {α : Type} {d : Kd α} {M : Mem} : Elems d M [] [] := rfl
theorem elCons {α : Type} {d : Kd α} {M : Mem} {a b : List Value} {x : α} {xs : List α} (h : d.rep M a x) (k : Elems d M b xs) : Elems d M (a ++ b) (x :: xs) := ⟨a, b, rfl, h, k⟩
theorem len_set {α : Type} {xs : List α} {n i : Nat} {y : α} (h : xs.length = n) : (xs.set i y).length = n := by rw [List.length_set, h]
theorem onesNil : ∀ u ∈ ([] : List Value), u.oneCell' = true := by simp
theorem onesCons {x : Value} {l : List Value} (h : x.oneCell' = true) (k : ∀ u ∈ l, u.oneCell' = true) : ∀ u ∈ x :: l, u.oneCell' = true := by
  intro u hu
  rcases List.mem_cons.1 hu with rfl | hu
  · exact h
  · exact k u hu
theorem ones_agg {l : List Value} (h : ∀ u ∈ l, u.oneCell' = true) : ∀ u ∈ (Value.agg l.toArray).cells.toList, u.oneCell' = true := by simpa [Value.cells] using h
theorem cells_one {v : Value} (h : v.oneCell' = true) : v.cells.toList = [v] := by cases v <;> first | rfl | (simp [Value.oneCell'] at h)
theorem val_ones {v : Value} (h : v.oneCell' = true) : ∀ u ∈ v.cells.toList, u.oneCell' = true := by
  rw [cells_one h]; intro u hu; rw [List.mem_singleton.1 hu]; exact h
theorem err_ones (C : Nat) (e : Int) : ∀ u ∈ (errV C e).cells.toList, u.oneCell' = true := val_ones (errV_one C e)

def cellsH (H : List Res) (j : Nat) : List Value := match H[j]? with | some (.blk _ cs _) => cs | _ => []
def isBlk (H : List Res) (j : Nat) : Bool := match H[j]? with | some (.blk _ _ _) => true | _ => false
def arrL (n : Nat) (k : IntKind) (xs : List Int) : List Value := (List.range n).map fun m => Value.int k (xs.getD m 0)
theorem arrL_at {n : Nat} {k : IntKind} {xs : List Int} {i : Int} (hb : 0 ≤ i ∧ i < (n : Nat)) : (arrL n k xs)[i.toNat]? = some (.int k (xs.getD i.toNat 0)) := by
  have : i.toNat < n := by omega
  simp [arrL, this]
theorem arr_read {P : Program} {H : List Res} {j t n pre : Nat} {xs : List Int} {k : IntKind} {i : Int} (h1 : ((cellsH H j).drop pre).take n = arrL n k xs) (h2 : aggB P t = some false) (h3 : isBlk H j = true) (_ : xs.length = n) (hb : 0 ≤ i ∧ i < (n : Nat)) :
    readH P H j t (pre + i.toNat * 1) = some (.int k (xs.getD i.toNat 0)) := by
  unfold isBlk at h3
  unfold readH
  unfold cellsH at h1
  split at h3
  · rename_i b cs T hj
    rw [hj] at h1 ⊢
    simp only at h1 ⊢
    unfold readOf
    rw [h2]
    simp only [Nat.mul_one]
    have := arrL_at (k := k) (xs := xs) hb
    rw [← h1, List.getElem?_take] at this
    split at this
    · rw [List.getElem?_drop] at this; exact this
    · cases this
  · cases h3
theorem arr_val {cs : List Value} {n : Nat} {xs : List Int} {k : IntKind} {i : Int} (h1 : cs = arrL n k xs) (_ : xs.length = n) (hb : 0 ≤ i ∧ i < (n : Nat)) : cs[i.toNat]? = some (.int k (xs.getD i.toNat 0)) := by
  rw [h1]; exact arrL_at hb
def setA (H : List Res) (j pre n : Nat) (k : IntKind) (xs : List Int) : List Res := match H[j]? with
  | some (.blk b cs T) => H.set j (.blk b (cs.take pre ++ arrL n k xs ++ cs.drop (pre + n)) T)
  | _ => H

section
variable {P : Program} {C : Ctx} {E : Env} {M : Mem} {H : List Res} {a : Act} {w : World}
variable {ops : Array Oper} {Q : Post} {K : Act → World → Prop} {i : Nat} {w1 : World} {F : Fs} {p : Plan}

theorem splice_eq {cs : List Value} {pre n : Nat} {k : IntKind} {xs : List Int} {y : Int} {m : Nat} (h1 : (cs.drop pre).take n = arrL n k xs) (hn : xs.length = n) (hm : m < n) :
    cs.take (pre + m) ++ [.int k y] ++ cs.drop (pre + m + 1) = cs.take pre ++ arrL n k (xs.set m y) ++ cs.drop (pre + n) := by
  have hlen : pre + n ≤ cs.length := by
    have := congrArg List.length h1
    simp [arrL] at this
    omega
  have e0 : cs = cs.take pre ++ (arrL n k xs ++ cs.drop (pre + n)) := by
    rw [← h1, ← List.drop_drop, List.take_append_drop, List.take_append_drop]
  have hl : (cs.take pre).length = pre := by rw [List.length_take]; omega
  have hal : ∀ z : List Int, (arrL n k z).length = n := fun z => by simp [arrL]
  have e1 : arrL n k (xs.set m y) = (arrL n k xs).take m ++ [.int k y] ++ (arrL n k xs).drop (m + 1) := by
    apply List.ext_getElem?
    intro q
    unfold arrL
    by_cases hq : q < n
    · by_cases hqm : q = m
      · subst hqm
        rw [List.append_assoc, List.getElem?_append_right (by simp; omega)]
        simp [hq, hn, show min q n = q by omega]
      · rcases Nat.lt_or_ge q m with hlt | hge
        · rw [List.append_assoc, List.getElem?_append_left (by simp; omega)]
          simp [hq, hlt, List.getD_eq_getElem?_getD, List.getElem?_set, Ne.symm hqm]
        · rw [List.getElem?_append_right (by simp; omega)]
          have : m + 1 + (q - (min m n + 1)) = q := by omega
          simp [hq, List.getD_eq_getElem?_getD, List.getElem?_set, Ne.symm hqm, this]
    · rw [List.getElem?_eq_none (by simp; omega), List.getElem?_eq_none (by simp; omega)]
  rw [e1]
  have t1 : cs.take (pre + m) = cs.take pre ++ (arrL n k xs).take m := by
    conv => lhs; rw [e0]
    rw [List.take_append, hl, List.take_of_length_le (by omega), show pre + m - pre = m by omega, List.take_append, hal, show m - n = 0 by omega]
    simp
  have t2 : cs.drop (pre + m + 1) = (arrL n k xs).drop (m + 1) ++ cs.drop (pre + n) := by
    conv => lhs; rw [e0]
    rw [List.drop_append, hl, List.drop_of_length_le (by omega), List.nil_append, show pre + m + 1 - pre = m + 1 by omega, List.drop_append, hal, show m + 1 - n = 0 by omega]
    simp
  rw [t1, t2]
  simp

/-- A store into an array that lies in a block. -/
theorem x_storeA (hs : St C E M H a w) (j : Nat) (t pre n : Nat) {xs : List Int} {k : IntKind} {y : Int} {ix : Int} (ho : okOp ops C.N E i = true) (hk : stT (opAt ops i) = some t) (hx : argV ops i 0 E = some (.pointer (some ⟨blkOf H j, pre + ix.toNat * 1, none⟩)))
    (hv : argV ops i 1 E = some (.int k y)) (h1 : ((cellsH H j).drop pre).take n = arrL n k xs) (hsz : (P.info? t).map (·.size) = some 1) (h3 : isBlk H j = true) (hn : xs.length = n) (hb : 0 ≤ ix ∧ ix < (n : Nat))
    (kk : ∀ a' w', St C (putO E (opAt ops i).dst undef) M (setA H j pre n k (xs.set ix.toNat y)) a' w' → (∀ x, x ≠ blkOf H j → w'.heap[x]? = w.heap[x]?) → K a' w') : wpOp P ops Q i K a w := by
  unfold isBlk at h3
  unfold setA at kk
  unfold cellsH at h1
  unfold blkOf at hx kk
  split at h3
  · rename_i b cs T hj
    rw [hj] at h1 hx kk
    simp only at h1 hx kk
    have hlen : pre + n ≤ cs.length := by
      have := congrArg List.length h1
      simp [arrL] at this
      omega
    have hw : writeOf P t cs (pre + ix.toNat * 1) (.int k y) = some (cs.take pre ++ arrL n k (xs.set ix.toNat y) ++ cs.drop (pre + n)) := by
      unfold writeOf
      obtain ⟨info, hi, hs1⟩ := Option.map_eq_some_iff.1 hsz
      rw [hi]
      simp only [hs1, Nat.mul_one]
      rw [if_pos ⟨rfl, by omega⟩, ← splice_eq h1 hn (by omega)]
      rfl
    exact st_store hs j ho hk hx hv (val_ones rfl) hj hw rfl kk
  · cases h3

def shlI (k : IntKind) (x y : Int) : Int := k.wrap (x * 2 ^ min y.toNat k.bits)
def shrI (k : IntKind) (x y : Int) : Int := x.fdiv (2 ^ min y.toNat k.bits)
def binT (o : Oper) : Option BinOp := match o.op with | .binOp op _ _ _ _ => some op | _ => none
theorem x_bin (hs : St C E M H a w) {k k' : IntKind} {x y : Int} {r : Value} {op : BinOp} (ho : okOp ops C.N E i = true) (hk : binT (opAt ops i) = some op) (hx : argV ops i 0 E = some (.int k x)) (hy : argV ops i 1 E = some (.int k' y))
    (hr : ∀ w, (binOp op 0 (.int k x) (.int k' y)).run P w = .ok r w) (hind : ∀ t t', binOp op t (.int k x) (.int k' y) = binOp op t' (.int k x) (.int k' y)) (kk : ∀ a', St C (putO E (opAt ops i).dst r) M H a' w → p.wp P ops Q w1 F a' w) : (Plan.pure i p).wp P ops Q w1 F a w := by
  refine st_pure1 hs ho (fun w => ?_) kk
  unfold binT at hk
  unfold argV at hx hy
  generalize opAt ops i = o at *
  obtain ⟨dst, op', ty, pos, after, guard⟩ := o
  cases op' with
  | binOp op' t x' y' u =>
    simp only [Option.some.injEq] at hk
    subst hk
    have hx' : ev E x' = some (.int k x) := by simpa [Op.operands] using hx
    have hy' : ev E y' = some (.int k' y) := by simpa [Op.operands] using hy
    have := hr w
    rw [hind 0 t] at this
    have hg : (eqGuard op' t x' y' (.int k x) (.int k' y)).run P w = .ok () w := by unfold eqGuard; cases op' <;> simp
    simp [execOp, hs.env.eval hx', hs.env.eval hy', hg, this]
  | _ => cases hk
theorem x_quo (hs : St C E M H a w) {k : IntKind} {x y : Int} (ho : okOp ops C.N E i = true) (hk : binT (opAt ops i) = some .quo) (hx : argV ops i 0 E = some (.int k x)) (hy : argV ops i 1 E = some (.int k y)) (hz : (y != 0) = true)
    (kk : ∀ a', St C (putO E (opAt ops i).dst (.int k (k.wrap (Int.tdiv x y)))) M H a' w → p.wp P ops Q w1 F a' w) : (Plan.pure i p).wp P ops Q w1 F a w :=
  x_bin hs ho hk hx hy (fun w => by have : ¬ y = 0 := by simpa using hz
                                    simp [binOp, Op.intDiv, this]) (fun _ _ => rfl) kk
theorem x_rem (hs : St C E M H a w) {k : IntKind} {x y : Int} (ho : okOp ops C.N E i = true) (hk : binT (opAt ops i) = some .rem) (hx : argV ops i 0 E = some (.int k x)) (hy : argV ops i 1 E = some (.int k y)) (hz : (y != 0) = true)
    (kk : ∀ a', St C (putO E (opAt ops i).dst (.int k (Int.tmod x y))) M H a' w → p.wp P ops Q w1 F a' w) : (Plan.pure i p).wp P ops Q w1 F a w :=
  x_bin hs ho hk hx hy (fun w => by have : ¬ y = 0 := by simpa using hz
                                    simp [binOp, Op.intDiv, this]) (fun _ _ => rfl) kk
theorem x_shl (hs : St C E M H a w) {k k' : IntKind} {x y : Int} (ho : okOp ops C.N E i = true) (hk : binT (opAt ops i) = some .shl) (hx : argV ops i 0 E = some (.int k x)) (hy : argV ops i 1 E = some (.int k' y)) (hz : decide ((0 : Int) ≤ y) = true)
    (kk : ∀ a', St C (putO E (opAt ops i).dst (.int k (shlI k x y))) M H a' w → p.wp P ops Q w1 F a' w) : (Plan.pure i p).wp P ops Q w1 F a w :=
  x_bin hs ho hk hx hy (fun w => by have : ¬ y < 0 := by simpa using hz
                                    simp [binOp, Op.shift, this, shlI]) (fun _ _ => rfl) kk
theorem x_shr (hs : St C E M H a w) {k k' : IntKind} {x y : Int} (ho : okOp ops C.N E i = true) (hk : binT (opAt ops i) = some .shr) (hx : argV ops i 0 E = some (.int k x)) (hy : argV ops i 1 E = some (.int k' y)) (hz : decide ((0 : Int) ≤ y) = true)
    (kk : ∀ a', St C (putO E (opAt ops i).dst (.int k (shrI k x y))) M H a' w → p.wp P ops Q w1 F a' w) : (Plan.pure i p).wp P ops Q w1 F a w :=
  x_bin hs ho hk hx hy (fun w => by have : ¬ y < 0 := by simpa using hz
                                    simp [binOp, Op.shift, this, shrI]) (fun _ _ => rfl) kk
/-- append, told by lists. -/
theorem x_append {α : Type} {d : Kd α} {xs ys : List α} (hs : St C E M H a w) (j : Nat) {t e bytes : Nat} {z : List Value} {v x : Value} {cs news : List Value} (ho : okOp ops C.N E i = true) (hk : apT (opAt ops i) = some t) (hk2 : apOk (opAt ops i) = true) (he : elemInfo P t = some (e, d.sz, bytes, z)) (hsz : Nat.ble 1 d.sz = true)
    (hv : argV ops i 0 E = some v) (hx : argV ops i 1 E = some x) (hj : H[j]? = some (.row v e d.sz xs.length cs)) (hsrc : Src w x ys.length news d.sz) (hb : (xs.length + ys.length) * bytes ≤ 140737488355328 ∧ xs.length + ys.length ≤ 140737488355328)
    (k : ∀ v' a' w', St C (putO E (opAt ops i).dst v') M (H.set j (.row v' e d.sz (xs ++ ys).length (cs ++ news))) a' w' → (∀ x, x < w.heap.size → v.ownBlock ≠ some x → w'.heap[x]? = w.heap[x]?) → K a' w') : wpOp P ops Q i K a w :=
  st_append hs j ho hk hk2 he hsz hv hx hj hsrc hb.1 hb.2 fun v' a' w' h1 h2 => k v' a' w' (by rw [List.length_append]; exact h1) h2
theorem x_srcRow {α : Type} {d : Kd α} {xs : List α} (hs : St C E M H a w) (j : Nat) {v : Value} {e : Nat} {cs : List Value} (hj : H[j]? = some (.row v e d.sz xs.length cs)) (hx : Elems d M cs xs) : Src w v xs.length cs d.sz := src_row hs hj hx.one
theorem x_srcNil {α : Type} (sz : Nat) : Src w (.slice none 0 0) ([] : List α).length [] sz := ⟨by simp, by simp, none, 0, rfl, .inl rfl⟩
end
end Go.Fx
