/- Base for printed walks, part Q: text written as bytes; arrays that are compared; stores into rows. Own work. -/
import Derived.Test.YthpdomeciaafjaaFxP
import Derived.ChangeKeysEq
import Derived.Laws.StructEq
namespace Go.Fx

section
variable {P : Program} {C : Ctx} {E : Env} {M : Mem} {H : List Res} {a : Act} {w : World}
variable {ops : Array Oper} {Q : Post} {K : Act → World → Prop} {i : Nat} {w1 : World} {F : Fs} {p : Plan}

/-- Only the mark of one block changes. -/
theorem Wf.marked {w w' : World} (h : Wf w M H) {g : Nat} (hg : (M g).isSome = true) (hm : ∀ c t fz, w.heap[g]? = some (.cells c t fz) → ∃ fz', w'.heap[g]? = some (.cells c t fz')) (ho : ∀ x, x ≠ g → w'.heap[x]? = w.heap[x]?) : Wf w' M H := by
  refine ⟨fun b c e => ?_, fun r hr => ?_, h.free, h.apart⟩
  · obtain ⟨t, fz, hb⟩ := h.models b c e
    by_cases hbg : b = g
    · subst hbg
      obtain ⟨fz', h'⟩ := hm _ _ _ hb
      exact ⟨t, fz', h'⟩
    · exact ⟨t, fz, (ho b hbg).trans hb⟩
  · refine Res.holds_of (h.holds r hr) fun b hb => ho b fun e => ?_
    subst e
    have := h.free r hr _ hb
    rw [this] at hg; cases hg

def cvBOk (P : Program) (o : Oper) : Bool := match o.op with
  | .convert s d _ => (s == d) && match P.underlying s with
    | some (.slice e) => match P.underlying e with | some (.int .u8) => true | _ => false
    | _ => false
  | _ => false
theorem freeze_heap (w : World) (g n : Nat) (c : Array Value) (t : TypeId) (lo hi : Nat) (hg : w.heap[g]? = some (.cells c t (lo, hi))) : ∃ fz', (w.freeze ⟨g, n, none⟩ 1).heap[g]? = some (.cells c t fz') := by
  unfold World.freeze
  rw [if_neg (by decide)]
  have hlt := (Array.getElem?_eq_some_iff.1 hg).1
  simp only [Array.getElem?_modify, if_true, hg, Option.map_some]
  exact ⟨_, rfl⟩
theorem freeze_other (w : World) (g n x : Nat) (hx : x ≠ g) : (w.freeze ⟨g, n, none⟩ 1).heap[x]? = w.heap[x]? := by
  unfold World.freeze
  rw [if_neg (by decide)]
  simp only [Array.getElem?_modify, if_neg (Ne.symm hx)]
theorem freeze_size (w : World) (g n : Nat) : (w.freeze ⟨g, n, none⟩ 1).heap.size = w.heap.size := by
  unfold World.freeze
  rw [if_neg (by decide)]
  simp

theorem convB_run {N : Nat} {g o n c : Nat} (ha : EnvOk N E a) (hk : cvBOk P (opAt ops i) = true) (hx : argV ops i 0 E = some (.slice (some ⟨g, o, none⟩) n c)) {cur : Array Value} {t : TypeId} {fz : Nat × Nat} (hg : w.heap[g]? = some (.cells cur t fz)) :
    (execOp a.eval (opAt ops i)).run P w = .ok (.value (.slice (some ⟨g, o, none⟩) n c)) (w.freeze ⟨g, cur.size, none⟩ 1) := by
  unfold cvBOk at hk
  unfold argV at hx
  generalize opAt ops i = o' at *
  obtain ⟨dst, op', ty, pos, after, guard⟩ := o'
  cases op' with
  | convert s d x =>
    simp only [Bool.and_eq_true, beq_iff_eq] at hk
    obtain ⟨rfl, hk⟩ := hk
    split at hk
    · rename_i e hs
      split at hk
      · rename_i he
        have hx' : ev E x = some (.slice (some ⟨g, o, none⟩) n c) := by simpa [Op.operands] using hx
        have hsh : w.shape? g = some (t, cur.size) := by simp [World.shape?, hg]
        simp [execOp, ha.eval hx', convert, run_underlying hs, run_underlying he, markStringish, hsh]
      · cases hk
    · cases hk
  | _ => cases hk

/-- Bytes that were written as text: from then on nobody writes them. -/
theorem st_convB {xs : List Int} (hs : St C E M H a w) (j : Nat) {A : Option Addr} {g o c : Nat} {e : TypeId} {cs : List Value} (hj : H[j]? = some (.row (.slice A xs.length c) e 1 xs.length cs)) (hA : A = some ⟨g, o, none⟩) (hx : Elems (kint .u8) M cs xs)
    (kk : ∀ M' a' w', M.le M' → SlAt (kint .u8) M' A c xs → St C (putO E (opAt ops i).dst (.slice A xs.length c)) M' (H.eraseIdx j) a' w' → (∀ x, x ≠ g → w'.heap[x]? = w.heap[x]?) → K a' w')
    (ho : okOp ops C.N E i = true := by kernel_rfl) (hk : cvBOk P (opAt ops i) = true := by kernel_rfl) (hv : argV ops i 0 E = some (.slice A xs.length c) := by kernel_rfl) : wpOp P ops Q i K a w := by
  obtain ⟨h2, h3, h4⟩ := okOp_spec hs.env ho
  subst hA
  obtain ⟨cur, hh⟩ : ∃ cur, w.heap[g]? = some (.cells cur e (0, 0)) := by
    rcases (hs.wf.holds _ (List.mem_of_getElem? hj)).2 with ⟨h, _⟩ | ⟨g', o', cap, cur, h, hh, _⟩
    · cases h
    · cases h; exact ⟨cur, hh⟩
  obtain ⟨M', hle, hsl, hs'⟩ := hs.freezen (d := kint .u8) j hj hx
  have hMg : (M' g).isSome = true ∨ xs = [] := by
    rcases hsl.row with h | ⟨b, o', cc, h, hb, _⟩
    · exact .inr h
    · cases h; left; rw [hb]; rfl
  have hoth : ∀ x, x ≠ g → (w.freeze ⟨g, cur.size, none⟩ 1).heap[x]? = w.heap[x]? := fun x hx => freeze_other w g _ x hx
  obtain ⟨M2, hle2, hw2, he2, hv2⟩ := hs.wf.freeze hj
  have hM2 : (M2 g).isSome = true := by
    rcases hv2 with ⟨h, _⟩ | ⟨b, o', cap, cc, h, _, hb, _⟩
    · cases h
    · cases h; rw [hb]; rfl
  have hsl2 : SlAt (kint .u8) M2 (some ⟨g, o, none⟩) c xs := by
    rcases hv2 with ⟨h, _⟩ | ⟨b, o', cap, cc, h, hle', hb, hc⟩
    · cases h
    · cases h
      refine ⟨?_, hle'⟩
      have hx2 := hx.mono hle2
      rw [← hc] at hx2
      exact Elems.row hb hx2
  have hwf := hw2.marked (w' := w.freeze ⟨g, cur.size, none⟩ 1) hM2 (fun cc t fz hcc => by
    obtain ⟨lo, hi⟩ := fz
    exact freeze_heap w g _ cc t lo hi hcc) hoth
  have hext : Ext w M H (w.freeze ⟨g, cur.size, none⟩ 1) M2 (H.eraseIdx j) := by
    have hfr : (w.freeze ⟨g, cur.size, none⟩ 1).os = w.os ∧ (w.freeze ⟨g, cur.size, none⟩ 1).tape = w.tape ∧ (w.freeze ⟨g, cur.size, none⟩ 1).output = w.output := by
      unfold World.freeze; rw [if_neg (by decide)]; exact ⟨rfl, rfl, rfl⟩
    refine ⟨hfr.1, hfr.2.1, hfr.2.2, by rw [freeze_size]; exact Nat.le_refl _, he2.mem, fun b hb hn => hoth b fun e => hn ?_, he2.fresh, he2.freshM⟩
    subst e
    exact ⟨_, List.mem_of_getElem? hj, rfl⟩
  exact op_val h2 h3 (convB_run hs.env hk hv hh) (kk M2 _ _ hle2 hsl2 ⟨hs.env.putO h4 _, hwf, hs.ext.trans hext⟩ hoth)

/-! ### Arrays that are compared -/
def arEqT (P : Program) (o : Oper) : Option (BinOp × Nat) := match o.op with
  | .binOp op t _ _ _ => match P.underlying t with
    | some (.array n e) => match P.underlying e, P.info? e with
      | some (.int _), some i => if i.size = 1 ∧ P.eqGuardType P.depth t = false then some (op, n) else none
      | _, _ => none
    | _ => none
  | _ => none
def arEq (n : Nat) (xs ys : List Int) : Bool := (List.range n).all fun i => xs.getD i 0 == ys.getD i 0
theorem part_arr {e : TypeId} {k0 k : IntKind} {info : TypeInfo} {n j : Nat} {xs : List Int} (hu : P.underlying e = some (.int k0)) (hi : P.info? e = some info) (hj : j < n) : (part e (arrL n k xs).toArray (j * 1)).run P w = .ok (.int k (xs.getD j 0)) w := by
  refine run_part ?_ w
  unfold partOf aggB
  rw [hu, hi]
  simp only
  have := arrL_at (k := k) (xs := xs) (i := (j : Int)) (n := n) ⟨by omega, by omega⟩
  simpa using this
theorem eqItems_ints {d : Nat} {e : TypeId} {k0 k : IntKind} {info : TypeInfo} {n : Nat} {xs ys : List Int} (hu : P.underlying e = some (.int k0)) (hi : P.info? e = some info) : ∀ (is : List Nat), (∀ j ∈ is, j < n) →
    (Op.eqItems (d + 1) e 1 (arrL n k xs).toArray (arrL n k ys).toArray is).run P w = .ok (is.all fun i => xs.getD i 0 == ys.getD i 0) w
  | [], _ => by simp [Op.eqItems]
  | j :: is, h => by
    have ih := eqItems_ints (d := d) (k := k) (xs := xs) (ys := ys) hu hi is (fun x hx => h x (List.mem_cons_of_mem _ hx))
    have hj := h j (List.mem_cons_self ..)
    simp only [Op.eqItems, Sem.run_bind, part_arr hu hi hj, Result.andThen_ok, run_equalIn_int w d e k k0 _ _ hu, List.all_cons]
    cases hb : (xs.getD j 0 == ys.getD j 0) with
    | true => simpa using ih
    | false => simp
theorem eq_arr {t e : TypeId} {k0 k : IntKind} {info : TypeInfo} {n : Nat} {xs ys : List Int} (ht : P.underlying t = some (.array n e)) (hu : P.underlying e = some (.int k0)) (hi : P.info? e = some info) (hsz : info.size = 1) :
    (Op.equalIn 10000 t (.agg (arrL n k xs).toArray) (.agg (arrL n k ys).toArray)).run P w = .ok (arEq n xs ys) w := by
  have hc : P.cellsOf e = 1 := by simp [Program.cellsOf, hi, hsz]
  rw [show (10000 : Nat) = 9999 + 1 from rfl, run_equalIn_array w 9999 _ _ ht hi, hc, show (9999 : Nat) = 9998 + 1 from rfl]
  exact eqItems_ints hu hi _ (fun j hj => List.mem_range.1 hj)

theorem st_arEq (hs : St C E M H a w) {op : BinOp} {n : Nat} {k : IntKind} {cs ds : List Value} {xs ys : List Int} {r : Bool} (hr : (op = .eql ∧ r = arEq n xs ys) ∨ (op = .neq ∧ r = !arEq n xs ys))
    (kk : ∀ a', St C (putO E (opAt ops i).dst (.bool r)) M H a' w → p.wp P ops Q w1 F a' w)
    (ho : okOp ops C.N E i = true := by kernel_rfl) (hk : arEqT P (opAt ops i) = some (op, n) := by kernel_rfl) (hx : argV ops i 0 E = some (.agg cs.toArray) := by kernel_rfl) (hy : argV ops i 1 E = some (.agg ds.toArray) := by kernel_rfl)
    (hc : cs = arrL n k xs := by kernel_rfl) (hd : ds = arrL n k ys := by kernel_rfl) : (Plan.pure i p).wp P ops Q w1 F a w := by
  subst hc; subst hd
  refine st_pure1 hs ho (fun w => ?_) kk
  unfold arEqT at hk
  unfold argV at hx hy
  generalize opAt ops i = o at *
  obtain ⟨dst, op', ty, pos, after, guard⟩ := o
  cases op' with
  | binOp op' t x y u =>
    simp only at hk
    split at hk
    · rename_i n' e ht
      split at hk
      · rename_i k0 info hu hi
        split at hk
        · rename_i hsz
          simp only [Option.some.injEq, Prod.mk.injEq] at hk
          obtain ⟨rfl, rfl⟩ := hk
          have hx' : ev E x = some (.agg (arrL n' k xs).toArray) := by simpa [Op.operands] using hx
          have hy' : ev E y = some (.agg (arrL n' k ys).toArray) := by simpa [Op.operands] using hy
          have e1 := hs.env.eval hx'
          have e2 := hs.env.eval hy'
          have hq := eq_arr (P := P) (w := w) (k := k) (xs := xs) (ys := ys) ht hu hi hsz.1
          have hg := run_eqGuard_agg (P := P) w op' t x y (arrL n' k xs).toArray (arrL n' k ys).toArray hsz.2
          rcases hr with ⟨rfl, rfl⟩ | ⟨rfl, rfl⟩
          · have hb := run_eql_struct (P := P) w t (arrL n' k xs).toArray (arrL n' k ys).toArray
            rw [hq] at hb
            simp [execOp, e1, e2, hg, hb]
          · have hb := run_neq_struct (P := P) w t (arrL n' k xs).toArray (arrL n' k ys).toArray
            rw [hq] at hb
            simp [execOp, e1, e2, hg, hb]
        · cases hk
      · cases hk
    · cases hk
  | _ => cases hk
end
end Go.Fx
