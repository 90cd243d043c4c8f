/- Base for printed walks, part L: bytes as text; rows that are read and written. Own work. -/
import Derived.Test.YthpdomeciaafjaaFxK
import Derived.Laws.BytesArg
namespace Go.Fx

def cvOk (P : Program) (o : Oper) : Bool := match o.op with
  | .convert s d _ => match P.underlying s, P.underlying d with
    | some (.slice e), some .string => match P.underlying e with | some (.int .u8) => true | _ => false
    | _, _ => false
  | _ => false

section
variable {P : Program} {C : Ctx} {E : Env} {M : Mem} {H : List Res} {a : Act} {w : World}
variable {ops : Array Oper} {Q : Post} {K : Act → World → Prop} {i : Nat} {w1 : World} {F : Fs} {p : Plan}

theorem conv_run {N : Nat} {A : Option Addr} {c : Nat} {xs : List Int} (ha : EnvOk N E a) (hk : cvOk P (opAt ops i) = true) (hx : argV ops i 0 E = some (.slice A xs.length c)) (hsl : SlAt (kint .u8) M A c xs)
    {w' : World} (hm : ∀ b c, M b = some c → ∃ T fz, w'.heap[b]? = some (.cells c T fz)) : (execOp a.eval (opAt ops i)).run P w' = .ok (.value (.string (strOfNums xs))) w' := by
  unfold cvOk at hk
  unfold argV at hx
  generalize opAt ops i = o at *
  obtain ⟨dst, op', ty, pos, after, guard⟩ := o
  cases op' with
  | convert s d x =>
    simp only at hk
    split at hk
    · rename_i e hs hd
      split at hk
      · rename_i he
        have hx' : ev E x = some (.slice A xs.length c) := by simpa [Op.operands] using hx
        have e1 := ha.eval hx'
        have key : (convert s d (.slice A xs.length c)).run P w' = .ok (.string (strOfNums xs)) w' := by
          rcases hsl.row with rfl | ⟨b, off, cc, rfl, hb, hr⟩
          · rw [run_convert_bytes_string w' s d e _ _ _ hs he hd]
            cases A with
            | none => simp [Conv.bytesToString, strOfNums]; rfl
            | some ad =>
              have hl : (loadCells ad 0).run P w' = .ok (([] : List Int).map (Value.int .u8)).toArray w' := by simpa using run_loadCells_list (P := P) w' ad [] (by simp)
              have := run_bytesToString (P := P) w' ad 0 c [] hl
              simp only [List.length_nil] at this ⊢
              rw [this]; rfl
          · refine run_convert_bytes_arg w' s e hs he b off xs.length c xs rfl (fun j hj => ?_) d hd
            obtain ⟨T, fz, hh⟩ := hm b cc hb
            have h2 : ((cc.toList.drop (off + j * 1)).take 1) = [Value.int .u8 xs[j]] := hr j hj
            have h3 : cc.toList[off + j]? = some (Value.int .u8 xs[j]) := by
              have : ((cc.toList.drop (off + j * 1)).take 1)[0]? = some (Value.int .u8 xs[j]) := by rw [h2]; rfl
              rw [List.getElem?_take] at this
              simpa using this
            simp only [World.cell?, hh]
            simp [List.getD, List.getElem?_eq_getElem hj, ← Array.getElem?_toList, h3]
        simp [execOp, e1, key]
      · cases hk
    · cases hk
  | _ => cases hk

/-- Bytes as a text. -/
theorem st_conv (hs : St C E M H a w) {A : Option Addr} {c : Nat} {xs : List Int} (ho : okOp ops C.N E i = true) (hk : cvOk P (opAt ops i) = true) (hx : argV ops i 0 E = some (.slice A xs.length c)) (hsl : SlAt (kint .u8) M A c xs)
    (kk : ∀ a', St C (putO E (opAt ops i).dst (.string (strOfNums xs))) M H a' w → K a' w) : wpOp P ops Q i K a w := by
  obtain ⟨h1, h2, h3⟩ := okOp_spec hs.env ho
  exact op_val h1 h2 (conv_run hs.env hk hx hsl hs.wf.models) (kk _ ⟨hs.env.putO h3 _, hs.wf, hs.ext⟩)
theorem st_convD {M1 : Mem} {l : List (Nat × Nat)} (hs : St C E M H a w) {A : Option Addr} {c : Nat} {xs : List Int} (ho : okOp ops C.N E i = true) (hk : cvOk P (opAt ops i) = true) (hx : argV ops i 0 E = some (.slice A xs.length c)) (hsl : SlAt (kint .u8) M1 A c xs)
    (hr : Rd w1 M1 w M) (hm : ∀ b c, M1 b = some c → ∃ T fz, w1.heap[b]? = some (.cells c T fz))
    (kk : ∀ a', St C (putO E (opAt ops i).dst (.string (strOfNums xs))) M H a' w → p.wp P ops Q w1 ⟨l, fun b => (M1 b).isSome = true⟩ a' w) : (Plan.read i p).wp P ops Q w1 ⟨l, fun b => (M1 b).isSome = true⟩ a w := by
  obtain ⟨h1, h2, h3⟩ := okOp_spec hs.env ho
  refine ⟨fun b hb => (hr b hb).1, _, .inl ⟨h2, fun w' hw' => conv_run hs.env hk hx hsl fun b c hb => ?_⟩, kk _ ⟨hs.env.putO h3 _, hs.wf, hs.ext⟩⟩
  obtain ⟨T, fz, hh⟩ := hm b c hb
  exact ⟨T, fz, (hw' b (by simp [hb])).trans hh⟩

def slTy (o : Oper) : Option TypeId := (slT o).map (·.1)
def slLo (o : Oper) : Option Operand := match slT o with | some (_, _, l, _) => l | none => none
def slHi (o : Oper) : Option Operand := match slT o with | some (_, _, _, h) => h | none => none
theorem x_slice {α : Type} {d : Kd α} {xs : List α} (hs : St C E M H a w) {t : TypeId} {A : Option Addr} {c : Nat} {l h : Int} (ho : okOp ops C.N E i = true) (hk : slTy (opAt ops i) = some t) (hsz : slElem P t = some d.sz)
    (hx : argV ops i 0 E = some (.slice A xs.length c)) (hsl : SlAt d M A c xs) (hl : optV E 0 (slLo (opAt ops i)) = some l) (hh : optV E xs.length (slHi (opAt ops i)) = some h) (hb : (0 ≤ l ∧ l ≤ h) ∧ h ≤ xs.length)
    (kk : ∀ A' c' a', SlAt d M A' c' ((xs.drop l.toNat).take (h.toNat - l.toNat)) → St C (putO E (opAt ops i).dst (.slice A' ((xs.drop l.toNat).take (h.toNat - l.toNat)).length c')) M H a' w → p.wp P ops Q w1 F a' w) : (Plan.pure i p).wp P ops Q w1 F a w := by
  unfold slTy at hk
  cases hT : slT (opAt ops i) with
  | none => rw [hT] at hk; cases hk
  | some y =>
    obtain ⟨t', x, lo, hi⟩ := y
    rw [hT] at hk
    simp only [Option.map_some, Option.some.injEq] at hk
    subst hk
    unfold slLo at hl
    unfold slHi at hh
    rw [hT] at hl hh
    exact st_slice hs ho hT hsz hx hsl hl hh hb kk

theorem slnil_or {α : Type} {d : Kd α} {A : Option Addr} {c : Nat} {xs : List α} (h : SlAt d M A c xs) : (A = none ∧ xs = []) ∨ ∃ x, A = some x := by
  cases A with
  | some x => exact .inr ⟨x, rfl⟩
  | none =>
    rcases h.row with h | ⟨b, o, c, h, _⟩
    · exact .inl ⟨rfl, h⟩
    · cases h

/-! ### Rows -/
theorem St.rowSl (hs : St C E M H a w) (j : Nat) {v : Value} {e : TypeId} {sz n : Nat} {cs : List Value} (hj : H[j]? = some (.row v e sz n cs)) : ∃ A c, v = .slice A n c ∧ n ≤ c := by
  rcases (hs.wf.holds _ (List.mem_of_getElem? hj)).2 with ⟨rfl, rfl⟩ | ⟨g, o, cap, cur, rfl, _, h, _⟩
  · exact ⟨none, 0, rfl, Nat.le_refl _⟩
  · exact ⟨_, _, rfl, h⟩
/-- A row that has an element: where it stands. -/
theorem St.rowAd (hs : St C E M H a w) (j : Nat) {A : Option Addr} {c : Nat} {e : TypeId} {sz n : Nat} {cs : List Value} (hj : H[j]? = some (.row (.slice A n c) e sz n cs)) (hn : 0 < n) : ∃ g o, A = some ⟨g, o, none⟩ := by
  rcases (hs.wf.holds _ (List.mem_of_getElem? hj)).2 with ⟨h, rfl⟩ | ⟨g, o, cap, cur, h, _, _, _⟩
  · omega
  · cases h; exact ⟨_, _, rfl⟩
theorem len_pos {j : Int} {n : Nat} (h : 0 ≤ j ∧ j < (n : Int)) : 0 < n := by omega
theorem row_at {A : Option Addr} {g o c sz n : Nat} {ix : Int} {cs : List Value} {e : TypeId} (hs : St C E M H a w) (j : Nat) (hj : H[j]? = some (.row (.slice A n c) e sz n cs)) (hA : A = some ⟨g, o, none⟩) (hb : 0 ≤ ix ∧ ix < (n : Int)) :
    ∃ cur, w.heap[g]? = some (.cells cur e (0, 0)) ∧ (cur.toList.drop (o + ix.toNat * sz)).take sz = (cs.drop (ix.toNat * sz)).take sz := by
  obtain ⟨hl, h⟩ := hs.wf.holds _ (List.mem_of_getElem? hj)
  subst hA
  rcases h with ⟨h, _⟩ | ⟨g', o', cap, cur, h, hh, hn, hc, hs2, hcs⟩
  · cases h
  · cases h
    have hle : (ix.toNat + 1) * sz ≤ n * sz := Nat.mul_le_mul_right _ (by omega)
    rw [Nat.add_mul, Nat.one_mul] at hle
    refine ⟨cur, hh, ?_⟩
    rw [← hcs, List.drop_take, List.take_take, List.drop_drop, Nat.min_eq_left (by omega)]
/-- A load out of a row's element. -/
theorem st_loadR (hs : St C E M H a w) (j : Nat) {t e : TypeId} {A : Option Addr} {g o c sz n k : Nat} {ix : Int} {cs W : List Value} {v : Value} (hj : H[j]? = some (.row (.slice A n c) e sz n cs)) (hA : A = some ⟨g, o, none⟩) (hb : 0 ≤ ix ∧ ix < (n : Int)) (ho : okOp ops C.N E i = true) (hk : ldT (opAt ops i) = some t)
    (hx : argV ops i 0 E = some (.pointer (some ⟨g, o + ix.toNat * sz + k, none⟩))) (hW : (cs.drop (ix.toNat * sz)).take sz = W) (hr : readOf P t W k = some v) (kk : ∀ a', St C (putO E (opAt ops i).dst v) M H a' w → K a' w) : wpOp P ops Q i K a w := by
  obtain ⟨cur, hh, hcw⟩ := row_at hs j hj hA hb
  exact st_load hs ho hk hx hh (window (n := sz) (W := W) (hcw.trans hW) hr) kk
theorem st_loadRD (hs : St C E M H a w) (j : Nat) {t e : TypeId} {A : Option Addr} {g o c sz n k : Nat} {ix : Int} {cs W : List Value} {v : Value} (hj : H[j]? = some (.row (.slice A n c) e sz n cs)) (hA : A = some ⟨g, o, none⟩) (hb : 0 ≤ ix ∧ ix < (n : Int)) (ho : okOp ops C.N E i = true) (hk : ldT (opAt ops i) = some t)
    (hx : argV ops i 0 E = some (.pointer (some ⟨g, o + ix.toNat * sz + k, none⟩))) (hF : (i, g) ∈ F.l) (hsame : w.heap[g]? = w1.heap[g]?) (hW : (cs.drop (ix.toNat * sz)).take sz = W) (hr : readOf P t W k = some v)
    (kk : ∀ a', St C (putO E (opAt ops i).dst v) M H a' w → p.wp P ops Q w1 F a' w) : (Plan.load i g p).wp P ops Q w1 F a w := by
  obtain ⟨cur, hh, hcw⟩ := row_at hs j hj hA hb
  exact st_loadD hs ho hk hx hF (hsame.symm.trans hh) hh (window (n := sz) (W := W) (hcw.trans hW) hr) kk
theorem St.freezeS {α : Type} {d : Kd α} {xs : List α} (h : St C E M H a w) (j : Nat) {A : Option Addr} {n c : Nat} {e : TypeId} {cs : List Value} (hj : H[j]? = some (.row (.slice A n c) e d.sz xs.length cs)) (hx : Elems d M cs xs) {H' : List Res} (hH : H.eraseIdx j = H') :
    ∃ M', M.le M' ∧ SlAt d M' A c xs ∧ St C E M' H' a w := by
  obtain ⟨M', A', c', hm, hv, hsl, hs⟩ := h.freeze j hj hx hH
  simp only [Value.slice.injEq] at hv
  obtain ⟨rfl, rfl, rfl⟩ := hv
  exact ⟨M', hm, hsl, hs⟩
theorem slice_inj {A B : Option Addr} {n m c k : Nat} (h : Value.slice A n c = Value.slice B m k) : A = B ∧ c = k := by cases h; exact ⟨rfl, rfl⟩
end
end Go.Fx
