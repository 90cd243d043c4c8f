/- Base for printed walks, part G: building, rows, appending, slicing. Own work. -/
import Derived.Test.YthpdomeciaafjaaFxF
import Derived.Laws.Append
import Derived.Laws.AppendOwn
namespace Go.Fx

section
variable {P : Program} {C : Ctx} {E : Env} {M : Mem} {H : List Res} {a : Act} {w : World}
variable {ops : Array Oper} {Q : Post} {K : Act → World → Prop} {i : Nat} {w1 : World} {F : Fs} {p : Plan}

/-! ### Structs, arrays -/
def evps (E : Env) : List (Nat × Operand) → Option (List (Nat × Value))
  | [] => some []
  | (n, x) :: xs => match ev E x, evps E xs with
    | some v, some vs => some ((n, v) :: vs)
    | _, _ => none
theorem evps_map {N : Nat} (h : EnvOk N E a) : ∀ {xs : List (Nat × Operand)} {vs : List (Nat × Value)}, evps E xs = some vs → xs.map (fun (i, x) => (i, a.eval x)) = vs
  | [], vs, e => by simp only [evps, Option.some.injEq] at e; subst e; rfl
  | (n, x) :: xs, vs, e => by
    simp only [evps] at e
    split at e
    · rename_i v vs' h1 h2
      simp only [Option.some.injEq] at e
      subst e
      rw [List.map_cons]
      simp only
      rw [h.eval h1, evps_map h h2]
    · cases e
def buT (o : Oper) : Option (TypeId × List (Nat × Operand)) := match o.op with | .build t ps => some (t, ps.toList) | _ => none
def builtE (P : Program) (o : Oper) (E : Env) : Option (List Value) := match buT o with
  | some (t, ps) => match evps E ps with
    | some vs => (P.built t vs).map (·.toList)
    | none => none
  | none => none
theorem st_build (hs : St C E M H a w) {cs : List Value} (ho : okOp ops C.N E i = true) (hb : builtE P (opAt ops i) E = some cs) (k : ∀ a', St C (putO E (opAt ops i).dst (.agg cs.toArray)) M H a' w → p.wp P ops Q w1 F a' w) : (Plan.pure i p).wp P ops Q w1 F a w := by
  refine st_pure1 hs ho (fun w => ?_) k
  unfold builtE buT at hb
  generalize opAt ops i = o at *
  obtain ⟨dst, op, ty, pos, after, guard⟩ := o
  cases op with
  | build t ps =>
    simp only at hb
    split at hb
    · rename_i vs hv
      obtain ⟨r, hr, rfl⟩ := Option.map_eq_some_iff.1 hb
      have e : ps.map (fun (i, x) => (i, a.eval x)) = vs.toArray := by rw [← evps_map hs.env hv]; apply Array.ext'; simp
      have := run_build (P := P) w t (ps.map (fun (i, x) => (i, a.eval x))) r (by rw [e]; exact hr)
      simp [execOp, this]
    · cases hb
  | _ => simp at hb

/-! ### A slice of things -/
def bsT (o : Oper) : Option (TypeId × Nat × List (Nat × Operand)) := match o.op with | .buildSlice t n ps => some (t, n, ps.toList) | _ => none
def elemInfo (P : Program) (t : TypeId) : Option (TypeId × Nat × Nat × List Value) :=
  match P.underlying t with
  | some (.slice e) => match P.info? e with
    | some ie => match ie.zero with
      | some z => if z.cells.toList.length = ie.size then some (e, ie.size, ie.bytes, z.cells.toList) else none
      | none => none
    | none => none
  | _ => none
def fillL (sz : Nat) : List Value → List (Nat × Value) → Option (List Value)
  | cs, [] => some cs
  | cs, (i, v) :: r => if v.cells.toList.length = sz ∧ i * sz + sz ≤ cs.length then fillL sz (cs.take (i * sz) ++ v.cells.toList ++ cs.drop (i * sz + sz)) r else none
theorem fold_set (off : Nat) : ∀ (l : List Value) (k : Nat) (cs : Array Value), off + k + l.length ≤ cs.size →
    ((l.zipIdx k).foldl (fun cs (c, j) => cs.setIfInBounds (off + j) c) cs).toList = cs.toList.take (off + k) ++ l ++ cs.toList.drop (off + k + l.length)
  | [], k, cs, _ => by simp
  | x :: l, k, cs, h => by
    simp only [List.length_cons] at h
    rw [List.zipIdx_cons, List.foldl_cons, fold_set off l (k + 1) _ (by simp; omega)]
    simp only [Array.toList_setIfInBounds]
    have h1 : off + k < cs.toList.length := by simp; omega
    rw [List.take_set, List.drop_set]
    rw [show off + (k + 1) = off + k + 1 by omega, List.take_succ_eq_append_getElem h1]
    simp only [List.length_cons]
    rw [List.set_append_right _ _ (by simp; omega)]
    simp only [List.length_take, Array.length_toList]
    rw [show off + k - min (off + k) cs.size = 0 by omega]
    rw [if_pos (by omega)]
    rw [show off + k + 1 + l.length = off + k + (l.length + 1) by omega]
    simp
theorem fill_eq (sz : Nat) : ∀ (ps : List (Nat × Value)) (cs : Array Value) (r : List Value), fillL sz cs.toList ps = some r → Instr.fill (fun i => some (i * sz, sz)) cs ps = some r.toArray
  | [], cs, r, h => by
    simp only [fillL, Option.some.injEq] at h
    subst h
    simp [Instr.fill]
  | (i, v) :: ps, cs, r, h => by
    simp only [fillL] at h
    split at h
    · rename_i hc
      simp only [Instr.fill]
      have h1 : v.cells.size = sz := by rw [← hc.1]; simp
      have h2 : i * sz + sz ≤ cs.size := by simpa using hc.2
      have : ¬ ((decide (v.cells.size ≠ sz) || decide (i * sz + v.cells.size > cs.size)) = true) := by
        rw [h1]
        simp
        omega
      rw [if_neg (by simpa [h1] using h2)]
      refine fill_eq sz ps _ r ?_
      rw [← Array.foldl_toList, Array.toList_zipIdx]
      have h3 := fold_set (i * sz) v.cells.toList 0 cs (by simp [h1]; omega)
      simp only [Nat.add_zero, Array.length_toList, h1] at h3
      rw [h3]
      exact h
    · cases h
def builtS (P : Program) (o : Oper) (E : Env) : Option (TypeId × Nat × Nat × List Value) := match bsT o with
  | some (t, n, ps) => match elemInfo P t, evps E ps with
    | some (e, sz, _, z), some vs => if n * sz ≤ 16777216 ∧ 0 < sz then (fillL sz ((List.replicate n z).flatten) vs).map fun cs => (e, sz, n, cs) else none
    | _, _ => none
  | none => none
theorem zeros_eq (z : List Value) (n : Nat) : ((Array.range (n * z.length)).map (fun j => (z.toArray)[j % z.toArray.size]!)).toList = (List.replicate n z).flatten := by
  induction n with
  | zero => simp
  | succ n ih =>
    simp only [Array.toList_map, Array.toList_range, List.size_toArray] at ih ⊢
    rw [List.replicate_succ', List.flatten_append, ← ih, Nat.add_mul, Nat.one_mul, List.range_add, List.map_append]
    congr 1
    simp only [List.flatten_cons, List.flatten_nil, List.append_nil, List.map_map]
    apply List.ext_getElem
    · simp
    · intro k h1 h2
      simp at h1 h2
      simp [Nat.mul_add_mod_self_right, Nat.mod_eq_of_lt h2, List.getElem?_eq_getElem h2]
theorem st_buildS (hs : St C E M H a w) {e sz n : Nat} {cs : List Value} (ho : okOp ops C.N E i = true) (hb : builtS P (opAt ops i) E = some (e, sz, n, cs)) (hl : cs.length = n * sz)
    (k : ∀ v a' w', (∃ b, v = .slice (some ⟨b, 0, none⟩) n n) → St C (putO E (opAt ops i).dst v) M (.row v e sz n cs :: H) a' w' → (∀ x, x < w.heap.size → w'.heap[x]? = w.heap[x]?) → K a' w') : wpOp P ops Q i K a w := by
  obtain ⟨h2, h3, h4⟩ := okOp_spec hs.env ho
  unfold builtS at hb
  split at hb
  · rename_i t n' ps hbs
    split at hb
    · rename_i e' sz' bytes z vs he hv
      split at hb
      · rename_i hc
        obtain ⟨cs', hf, heq⟩ := Option.map_eq_some_iff.1 hb
        simp only [Prod.mk.injEq] at heq
        obtain ⟨rfl, rfl, rfl, rfl⟩ := heq
        unfold elemInfo at he
        split at he
        · rename_i e1 hu
          split at he
          · rename_i ie hi
            split at he
            · rename_i z1 hz
              split at he
              · rename_i hzl
                simp only [Option.some.injEq, Prod.mk.injEq] at he
                obtain ⟨rfl, rfl, rfl, rfl⟩ := he
                have hw' := hs.wf.push (w' := w.alloc (.cells cs'.toArray e1)) (r := .row (.slice (some ⟨w.heap.size, 0, none⟩) n' n') e1 ie.size n' cs') rfl rfl rfl (by simp) (fun x hx => heap_alloc_old w _ x hx)
                  ⟨hl, .inr ⟨w.heap.size, 0, n', cs'.toArray, rfl, heap_alloc_new w _, Nat.le_refl _, by simp only [maxLen]; have := Nat.le_mul_of_pos_right n' hc.2; omega, by simp [hl], by simp [← hl]⟩⟩ (fun x hx => by simp only [Res.foot, Value.ownBlock, Option.some.injEq] at hx; omega)
                refine op_val h2 h3 (v := .slice (some ⟨w.heap.size, 0, none⟩) n' n') (w' := w.alloc (.cells cs'.toArray e1)) ?_ (k _ _ _ ⟨_, rfl⟩ ⟨hs.env.putO h4 _, hw'.1, hs.ext.trans hw'.2⟩ fun x hx => heap_alloc_old w _ x hx)
                unfold bsT at hbs
                generalize opAt ops i = o at *
                obtain ⟨dst, op, ty, pos, after, guard⟩ := o
                cases op with
                | buildSlice t' n'' ps' =>
                  simp only [Option.some.injEq, Prod.mk.injEq] at hbs
                  obtain ⟨rfl, rfl, rfl⟩ := hbs
                  have e2 : ps'.map (fun (i, x) => (i, a.eval x)) = vs.toArray := by rw [← evps_map hs.env hv]; apply Array.ext'; simp
                  have e3 : ¬ (16777216 < n'' * ie.size) := by omega
                  have hsz : z1.cells.size = ie.size := by rw [← hzl]; simp
                  by_cases h0 : n'' * ie.size = 0
                  · have hn0 : n'' = 0 := by
                      rcases Nat.mul_eq_zero.1 h0 with h | h
                      · exact h
                      · omega
                    subst hn0
                    have hfe := fill_eq ie.size vs #[] cs' (by simpa using hf)
                    simp [execOp, Instr.buildSlice, run_underlying hu, sizeOf, typeInfo, hi, e2, newRow]
                    rw [show Array.map (fun _ => (default : Value)) (Array.range 0) = #[] from by simp, hfe]
                    simp
                  · have hfe := fill_eq ie.size vs ((Array.range (n'' * ie.size)).map (fun j => z1.cells[j % z1.cells.size]!)) cs' (by
                      have hz2 := zeros_eq z1.cells.toList n''
                      simp only [Array.toArray_toList] at hz2
                      rw [hzl] at hz2
                      rw [hz2]; exact hf)
                    simp [execOp, Instr.buildSlice, run_underlying hu, sizeOf, typeInfo, hi, e2, e3, h0, zeroValue, hz, hfe, newRow]
                | _ => cases hbs
              · cases he
            · cases he
          · cases he
        · cases he
      · cases hb
    · cases hb
  · cases hb

/-- A nil slice that is to grow. -/
theorem St.nilRow (hs : St C E M H a w) (e sz : Nat) : St C E M (.row (.slice none 0 0) e sz 0 [] :: H) a w := by
  have h := hs.wf.push (w' := w) (r := .row (.slice none 0 0) e sz 0 []) rfl rfl rfl (Nat.le_refl _) (fun _ _ => rfl) ⟨by simp, .inl ⟨rfl, rfl⟩⟩ (fun x hx => by simp [Res.foot, Value.ownBlock] at hx)
  exact ⟨hs.env, h.1, hs.ext.trans h.2⟩

/-! ### append -/
/-- What is appended. -/
structure Src (w : World) (x : Value) (m : Nat) (news : List Value) (sz : Nat) : Prop where
  len : news.length = m * sz
  one : ∀ u ∈ news, u.oneCell' = true
  at_ : ∃ A c, x = .slice A m c ∧ (m = 0 ∨ ∃ ad, A = some ad ∧ ∀ j u, news[j]? = some u → w.cell? (ad.add j) = some u)
theorem src_data {α : Type} {d : Kd α} {xs : List α} {A : Option Addr} {c : Nat} (hs : St C E M H a w) (h : SlAt d M A c xs) : ∃ news, Src w (.slice A xs.length c) xs.length news d.sz ∧ Elems d M news xs := by
  rcases h.row with h1 | ⟨b, off, blk, rfl, hb, hr⟩
  · subst h1
    exact ⟨[], ⟨by simp, by simp, A, c, rfl, .inl rfl⟩, rfl⟩
  · obtain ⟨T, fz, hh⟩ := hs.wf.models b blk hb
    have hlen : ∀ n, n ≤ xs.length → ((blk.toList.drop off).take (n * d.sz)).length = n * d.sz := by
      intro n hn
      induction n with
      | zero => simp
      | succ n ih =>
        have h1 := d.len (hr n (by omega))
        have h2 := ih (by omega)
        rw [List.length_take, List.length_drop] at h1 h2 ⊢
        rw [Nat.add_mul, Nat.one_mul]
        omega
    have hel : Elems d M ((blk.toList.drop off).take (xs.length * d.sz)) xs := by
      refine Elems.of_at (hlen _ (Nat.le_refl _)) fun i hi => ?_
      have := hr i hi
      rw [List.drop_take, List.drop_drop, List.take_take]
      have hle : (i + 1) * d.sz ≤ xs.length * d.sz := Nat.mul_le_mul_right _ hi
      rw [Nat.add_mul, Nat.one_mul] at hle
      rw [Nat.min_eq_left (by omega)]
      exact this
    refine ⟨_, ⟨hlen _ (Nat.le_refl _), hel.one, _, _, rfl, .inr ⟨_, rfl, fun j u hj => ?_⟩⟩, hel⟩
    rw [← addOff_eq]
    simp only [addOff, World.cell?, hh]
    rw [List.getElem?_take] at hj
    split at hj
    · rw [List.getElem?_drop] at hj
      simpa using hj
    · cases hj
theorem src_row (hs : St C E M H a w) {j : Nat} {v : Value} {e sz n : Nat} {cs : List Value} (hj : H[j]? = some (.row v e sz n cs)) (h1 : ∀ u ∈ cs, u.oneCell' = true) : Src w v n cs sz := by
  have h := hs.wf.holds _ (List.mem_of_getElem? hj)
  simp only [Res.holds] at h
  rcases h.2 with ⟨rfl, rfl⟩ | ⟨g, o, cap, cur, rfl, hg, _, _, _, htk⟩
  · exact ⟨h.1, h1, none, 0, rfl, .inl rfl⟩
  · refine ⟨h.1, h1, _, _, rfl, .inr ⟨_, rfl, fun k u hk => ?_⟩⟩
    rw [← addOff_eq]
    simp only [addOff, World.cell?, hg]
    rw [← htk, List.getElem?_take] at hk
    split at hk
    · rw [List.getElem?_drop] at hk
      simpa using hk
    · cases hk

def apT (o : Oper) : Option TypeId := match o.op with | .call { callee := .builtin .append, argTypes := ts, .. } => (match ts.toList with | [t, u] => if t = u then some t else none | _ => none) | _ => none
def apOk (o : Oper) : Bool := match o.op with | .call { callee := .builtin .append, args := xs, .. } => xs.toList.length == 2 | _ => false

theorem own_append {t ty e sz bytes : Nat} {z : List Value} (he : elemInfo P t = some (e, sz, bytes, z)) (hsz : 0 < sz) {v x : Value} {n m : Nat} {cs news : List Value} (hv : OwnR w e sz v n cs) (hx : Src w x m news sz)
    (hb : (n + m) * bytes ≤ 140737488355328) (hmx : n + m ≤ 140737488355328) :
    ∃ v' w', (Builtin.append_ #[t, t] ty #[v, x]).run P w = .ok v' w' ∧ OwnR w' e sz v' (n + m) (cs ++ news) ∧ w.grownBy w' v.ownBlock ∧ (∀ x, v'.ownBlock = some x → v.ownBlock = some x ∨ w.heap.size ≤ x) := by
  unfold elemInfo at he
  split at he
  · rename_i e1 hu
    split at he
    · rename_i ie hi
      split at he
      · rename_i z1 hz
        split at he
        · rename_i hzl
          simp only [Option.some.injEq, Prod.mk.injEq] at he
          obtain ⟨rfl, rfl, rfl, rfl⟩ := he
          obtain ⟨A, c, rfl, hA⟩ := hx.at_
          have hlen : (cs ++ news).length = (n + m) * ie.size := by rw [List.length_append, hv.1, hx.len, Nat.add_mul]
          have hzs : z1.cells.size = ie.size := by rw [← hzl]; simp
          have hself : m = 0 → cs ++ news = cs := fun h => by
            have : news = [] := List.eq_nil_of_length_eq_zero (by rw [hx.len, h]; simp)
            rw [this, List.append_nil]
          have grown : ∀ (old : Nat), old < n + m → ∀ (row : Option Nat),
              OwnR (w.drew.alloc (.cells (cs.toArray ++ news.toArray ++ Builtin.zeroCells z1.cells (grownCap w (n + m) old e1 - (n + m))) e1)) e1 ie.size (.slice (some ⟨w.heap.size, 0, none⟩) (n + m) (grownCap w (n + m) old e1)) (n + m) (cs ++ news) ∧
              w.grownBy (w.drew.alloc (.cells (cs.toArray ++ news.toArray ++ Builtin.zeroCells z1.cells (grownCap w (n + m) old e1 - (n + m))) e1)) row := by
            intro old ho row
            have hge := grownCap_ge w (n + m) old e1
            have hcm : grownCap w (n + m) old e1 ≤ maxLen := grownCap_le_maxLen w (n + m) old e1 (by simp only [maxLen]; omega)
            refine ⟨⟨hlen, .inr ⟨w.heap.size, 0, _, _, rfl, heap_alloc_new w.drew _, hge, hcm, ?_, ?_⟩⟩, ⟨rfl, rfl, rfl, by simp, fun k hk _ => heap_alloc_old w.drew _ k hk⟩⟩
            · simp only [Array.size_append, List.size_toArray, size_zeroCells, hzs, hv.1, hx.len, ← Nat.add_mul, Nat.zero_add]
              exact Nat.mul_le_mul_right _ (by omega)
            · simp only [List.drop_zero, Array.toList_append, List.append_assoc]
              rw [← List.append_assoc, ← hlen]
              exact List.take_left
          rcases hv.2 with ⟨rfl, rfl⟩ | ⟨g, o, cap, cur, rfl, hg, hnc, hcm, hcs, htake⟩
          · have hc0 : cs = [] := List.eq_nil_of_length_eq_zero (by simpa using hv.1)
            subst hc0
            by_cases hm : m = 0
            · subst hm
              refine ⟨.slice none 0 0, w, ?_, by rw [hself rfl]; exact ⟨by simp, .inl ⟨rfl, rfl⟩⟩, ⟨rfl, rfl, rfl, Nat.le_refl _, fun _ _ _ => rfl⟩, fun x hx => by simp [Value.ownBlock] at hx⟩
              cases A <;> simp [Builtin.append_, run_underlying hu, sizeOf, typeInfo, hi, Builtin.lenOf, Builtin.firstCells, loadCells, loadCellsFrom]
            · obtain ⟨ad, rfl, hnews⟩ := hA.resolve_left hm
              have hr := run_append_nil (P := P) w t ty e1 ie z1 hu hi hz ad m c news hx.len hnews (by omega) (by omega) (by have := hb; simp only [Nat.zero_add] at this; omega)
              have hgr := grown 0 (by omega) (Value.ownBlock (.slice none 0 0))
              simp only [Nat.zero_add, List.nil_append, Array.empty_append] at hgr ⊢
              exact ⟨_, _, hr, hgr.1, hgr.2, fun x hx => by simp only [Value.ownBlock, Option.some.injEq] at hx; right; omega⟩
          · by_cases hm : m = 0
            · subst hm
              refine ⟨.slice (some ⟨g, o, none⟩) n cap, w, ?_, by rw [hself rfl]; exact hv, ⟨rfl, rfl, rfl, Nat.le_refl _, fun _ _ _ => rfl⟩, fun x hx => .inl hx⟩
              cases A <;> simp [Builtin.append_, run_underlying hu, sizeOf, typeInfo, hi, Builtin.lenOf, Builtin.firstCells, loadCells, loadCellsFrom, hnc, storeCells]
            · obtain ⟨ad, rfl, hnews⟩ := hA.resolve_left hm
              by_cases hroom : n + m ≤ cap
              · have hle : (n + m) * ie.size ≤ cap * ie.size := Nat.mul_le_mul_right _ hroom
                have hle' := hle
                rw [Nat.add_mul] at hle'
                have hst := run_storeCells_at (P := P) g (o + n * ie.size) e1 news 0 cur w hg (by rw [hx.len]; omega) hx.one
                simp only [Nat.add_zero] at hst
                have hld : (loadCells ad (m * ie.size)).run P w = .ok news.toArray w := by rw [← hx.len]; exact run_loadCells_list w ad news hnews
                refine ⟨.slice (some ⟨g, o, none⟩) (n + m) cap, w.setRow g (cur.toList.take (o + n * ie.size) ++ news ++ cur.toList.drop (o + n * ie.size + news.length)).toArray, ?_, ⟨hlen, .inr ⟨g, o, cap, _, rfl, setRow_heap w g cur _ e1 _ hg, hroom, hcm, ?_, ?_⟩⟩, ⟨rfl, rfl, rfl, by simp [World.setRow], fun k hk hne => setRow_other w g k _ (fun e => hne (by simp [Value.ownBlock, e]))⟩, fun x hx => .inl hx⟩
                · simp [Builtin.append_, run_underlying hu, sizeOf, typeInfo, hi, Builtin.lenOf, Builtin.firstCells, hroom, hld, ← addOff_eq, addOff, hst]
                · simp only [List.size_toArray, List.length_append, List.length_take, List.length_drop, Array.length_toList, hx.len]
                  omega
                · have h1 : (cur.toList.take (o + n * ie.size)).drop o = cs := by
                    rw [List.drop_take, ← htake]
                    congr 1
                    omega
                  have hol : (cur.toList.take (o + n * ie.size)).length = o + n * ie.size := by rw [List.length_take, Array.length_toList]; omega
                  rw [List.append_assoc, List.drop_append, h1, hol, show o - (o + n * ie.size) = 0 by omega, List.drop_zero, ← List.append_assoc, ← hlen]
                  exact List.take_left
              · have holds : ∀ j u, cs[j]? = some u → w.cell? ((⟨g, o, none⟩ : Addr).add j) = some u := fun k u hk => by
                  rw [← addOff_eq]
                  simp only [addOff, World.cell?, hg]
                  rw [← htake, List.getElem?_take] at hk
                  split at hk
                  · rw [List.getElem?_drop] at hk
                    simpa using hk
                  · cases hk
                have hr := run_append_grow (P := P) w t ty e1 ie z1 hu hi hz ⟨g, o, none⟩ n cap cs hv.1 holds ad m c news hx.len hnews (by omega) (by omega) (growslice_fits (by omega) hb)
                have hgr := grown cap (by omega) (Value.ownBlock (.slice (some ⟨g, o, none⟩) n cap))
                exact ⟨_, _, hr, hgr.1, hgr.2, fun x hx => by simp only [Value.ownBlock, Option.some.injEq] at hx; right; omega⟩
        · cases he
      · cases he
    · cases he
  · cases he

theorem st_append (hs : St C E M H a w) (j : Nat) {t e sz bytes : Nat} {z : List Value} {v x : Value} {n m : Nat} {cs news : List Value} (ho : okOp ops C.N E i = true) (hk : apT (opAt ops i) = some t) (hk2 : apOk (opAt ops i) = true) (he : elemInfo P t = some (e, sz, bytes, z)) (hsz : Nat.ble 1 sz = true)
    (hv : argV ops i 0 E = some v) (hx : argV ops i 1 E = some x) (hj : H[j]? = some (.row v e sz n cs)) (hsrc : Src w x m news sz) (hb : (n + m) * bytes ≤ 140737488355328) (hmx : n + m ≤ 140737488355328)
    (k : ∀ v' a' w', St C (putO E (opAt ops i).dst v') M (H.set j (.row v' e sz (n + m) (cs ++ news))) a' w' → (∀ x, x < w.heap.size → v.ownBlock ≠ some x → w'.heap[x]? = w.heap[x]?) → K a' w') : wpOp P ops Q i K a w := by
  obtain ⟨h2, h3, h4⟩ := okOp_spec hs.env ho
  have hold := hs.wf.holds _ (List.mem_of_getElem? hj)
  simp only [Res.holds] at hold
  obtain ⟨v', w', hr, hown, hg, hfoot⟩ := own_append (P := P) (ty := (opAt ops i).type) he (Nat.le_of_ble_eq_true hsz) hold hsrc hb hmx
  have hrep := hs.wf.replace (w' := w') (r' := .row v' e sz (n + m) (cs ++ news)) hj hg.os hg.tape hg.output hg.size (fun y hy hne => hg.block y hy (fun e => hne e.symm)) hown hfoot
  refine op_val h2 h3 (v := v') (w' := w') ?_ (k v' _ w' ⟨hs.env.putO h4 _, hrep.1, hs.ext.trans hrep.2⟩ fun y hy hne => hg.block y hy (fun e => hne e.symm))
  unfold apT at hk
  unfold apOk at hk2
  unfold argV at hv hx
  generalize opAt ops i = o at *
  obtain ⟨dst, op, ty, pos, after, guard⟩ := o
  cases op with
  | call c =>
    obtain ⟨callee, args, ts⟩ := c
    cases callee with
    | builtin b =>
      cases b with
      | append =>
        simp only at hk
        split at hk
        · rename_i t1 t2 hts
          split at hk
          · rename_i htt
            subst htt
            simp only [Option.some.injEq] at hk
            subst hk
            have et : ts = #[t1, t1] := by apply Array.ext'; simpa using hts
            subst et
            simp only [beq_iff_eq] at hk2
            obtain ⟨x1, x2, hargs⟩ : ∃ x1 x2, args.toList = [x1, x2] := by
              match hl : args.toList, hk2 with
              | [x1, x2], _ => exact ⟨x1, x2, rfl⟩
            have ea : args = #[x1, x2] := by apply Array.ext'; simpa using hargs
            subst ea
            have e1 : ev E x1 = some v := by simpa [Op.operands, Call.operands] using hv
            have e2 : ev E x2 = some x := by simpa [Op.operands, Call.operands] using hx
            simp [execOp, resolve, invoke, builtin, hs.env.eval e1, hs.env.eval e2, hr]
          · cases hk
        · cases hk
      | _ => cases hk
    | _ => cases hk
  | _ => cases hk


/-! ### A region in the text's order -/
def SeqG (P : Program) (ops : Array Oper) (Q : Post) (i : Nat) (a : Act) (w : World) : Prop := wpOps P ops Q (List.range' i (ops.size - i)) a w
theorem seq_start {c : Code} {q : Path} (hk : (regOps c q).isSome = true) (h : SeqG P (opsAt c q) (kont P c q Q) 0 a w) : At P c q Q a w := by
  unfold regOps at hk
  split at hk
  · rename_i id ops hs
    have e : opsAt c q = ops := by unfold opsAt; rw [hs]
    rw [e] at h
    unfold At
    rw [hs]
    refine wp_region ?_
    rw [List.range_eq_range']
    simpa [SeqG] using h
  · cases hk
theorem seq_end (hi : (i == ops.size) = true) (h : Q .normal a w) : SeqG P ops Q i a w := by
  have : i = ops.size := by simpa using hi
  subst this
  simpa [SeqG, wpOps] using h
theorem seq_eff (hi : Nat.blt i ops.size = true) (h : wpOp P ops Q i (SeqG P ops Q (i + 1)) a w) : SeqG P ops Q i a w := by
  have : i < ops.size := Nat.le_of_ble_eq_true hi
  unfold SeqG
  rw [show ops.size - i = (ops.size - (i + 1)) + 1 by omega, List.range'_succ, wpOps_cons]
  exact h
theorem seq_pure (hi : Nat.blt i ops.size = true) (h : (Plan.pure i .done).wp P ops (fun _ a w => SeqG P ops Q (i + 1) a w) w .none a w) : SeqG P ops Q i a w := by
  obtain ⟨v, hy, hp⟩ := h
  exact seq_eff hi (hy.wpOp (opAt_eq (Nat.le_of_ble_eq_true hi)) hp)
theorem seq_pures : ∀ (n : Nat) {i : Nat} {E : Env} {a : Act} (_ : St C E M H a w) (_ : Nat.ble (i + n) ops.size = true) (_ : (runE P ops C.N E (List.range' i n)).isSome = true)
    (_ : ∀ a', St C (envOf P ops C.N E (List.range' i n)) M H a' w → SeqG P ops Q (i + n) a' w), SeqG P ops Q i a w
  | 0, i, E, a, hs, _, _, k => k a (by simpa [envOf, runE] using hs)
  | n + 1, i, E, a, hs, hi, hok, k => by
    have hi' : i + (n + 1) ≤ ops.size := Nat.le_of_ble_eq_true hi
    have hlt : Nat.blt i ops.size = true := Nat.ble_eq_true_of_le (by omega : i + 1 ≤ ops.size)
    refine seq_pure hlt ?_
    rw [List.range'_succ] at hok
    have : (Plan.pures [i] .done).wp P ops (fun _ a w => SeqG P ops Q (i + 1) a w) w .none a w := by
      have h1 : (runE P ops C.N E [i]).isSome = true := by
        simp only [runE] at hok ⊢
        split at hok
        · rename_i v hv
          cases hd : dstLt (opAt ops i).dst C.N with
          | true => rfl
          | false => rw [hd] at hok; cases hok
        · cases hok
      refine st_pures hs [i] h1 fun a' hs' => ?_
      show SeqG P ops Q (i + 1) a' w
      have key : runE P ops C.N E (i :: List.range' (i + 1) n) = runE P ops C.N (envOf P ops C.N E [i]) (List.range' (i + 1) n) := by
        simp only [envOf, runE]
        split
        · rename_i v hv
          cases hd : dstLt (opAt ops i).dst C.N with
          | true => simp
          | false => simp only [runE, hv, hd] at h1; cases h1
        · rename_i hv; simp only [runE, hv] at h1; cases h1
      refine seq_pures n hs' (Nat.ble_eq_true_of_le (by omega)) (by rw [← key]; exact hok) fun a2 hs2 => ?_
      have := k a2 (by
        rw [List.range'_succ]
        obtain ⟨E', hE⟩ := Option.isSome_iff_exists.1 (key ▸ hok)
        have e1 : envOf P ops C.N E (i :: List.range' (i + 1) n) = E' := by unfold envOf; rw [key, hE]; rfl
        have e2 : envOf P ops C.N (envOf P ops C.N E [i]) (List.range' (i + 1) n) = E' := by rw [envOf, hE]; rfl
        rw [e1]
        rw [e2] at hs2
        exact hs2)
      rw [show i + (n + 1) = i + 1 + n by omega] at this
      exact this
    exact this

theorem allIn_of {E : Env} : ∀ {l : List (Nat × Value)}, l.map (fun p => E p.1) = l.map (fun p => some p.2) → AllIn E l
  | [], _ => trivial
  | (t, v) :: l, h => by
    simp only [List.map_cons, List.cons.injEq] at h
    exact ⟨h.1, allIn_of h.2⟩
/-- A bool that has been decided. -/
theorem St.setb (hs : St C E M H a w) {t : Nat} {e b : Bool} (hE : E t = some (.bool e)) (hb : e = b) : St C (E.put t (.bool b)) M H a w := by
  subst hb
  refine ⟨⟨hs.env.size, hs.env.defers, fun u v h => ?_, fun u v h => ?_⟩, hs.wf, hs.ext⟩
  · simp only [Env.put] at h
    cases hu : Nat.beq u t with
    | true =>
      have : u = t := Nat.eq_of_beq_eq_true hu
      subst this
      rw [hu] at h
      simp only [cond_true, Option.some.injEq] at h
      subst h
      exact hs.env.at_ _ _ hE
    | false => rw [hu] at h; exact hs.env.at_ _ _ h
  · simp only [Env.put] at h
    cases hu : Nat.beq u t with
    | true => have : u = t := Nat.eq_of_beq_eq_true hu; subst this; exact hs.env.lt _ _ hE
    | false => rw [hu] at h; exact hs.env.lt _ _ h
/-- A slot's value, spelled otherwise. -/
theorem St.setv (hs : St C E M H a w) {t : Nat} {v v' : Value} (hE : E t = some v) (hv : v = v') : St C (E.put t v') M H a w := by
  subst hv
  refine ⟨⟨hs.env.size, hs.env.defers, fun u v h => ?_, fun u v h => ?_⟩, hs.wf, hs.ext⟩
  · simp only [Env.put] at h
    cases hu : Nat.beq u t with
    | true =>
      have : u = t := Nat.eq_of_beq_eq_true hu
      subst this
      rw [hu] at h
      simp only [cond_true, Option.some.injEq] at h
      subst h
      exact hs.env.at_ _ _ hE
    | false => rw [hu] at h; exact hs.env.at_ _ _ h
  · simp only [Env.put] at h
    cases hu : Nat.beq u t with
    | true => have : u = t := Nat.eq_of_beq_eq_true hu; subst this; exact hs.env.lt _ _ hE
    | false => rw [hu] at h; exact hs.env.lt _ _ h
theorem st_cond {c : Code} {q : Path} {t : Nat} {e b : Bool} (q' : Path) (hs : St C E M H a w) (hk : condT c q = some t) (hE : E t = some (.bool e)) (hb : e = b) (hq : q' = q ++ [bif b then 0 else 1]) (h : At P c q' Q a w) : At P c q Q a w :=
  at_cond q' hk ((hs.env.at_ _ _ hE).trans (congrArg Value.bool hb)) hq h
theorem ite_some {α : Type} {b : Bool} {x y : Option α} {r : α} (h : (if b = true then x else y) = some r) : (b = true ∧ x = some r) ∨ (b = false ∧ y = some r) := by
  cases b with
  | true => exact .inl ⟨rfl, by simpa using h⟩
  | false => exact .inr ⟨rfl, by simpa using h⟩
theorem bind_some {α β : Type} {x : Option α} {f : α → Option β} {r : β} (h : x.bind f = some r) : ∃ y, x = some y ∧ f y = some r := Option.bind_eq_some_iff.1 h
/-- What isn't carried out. -/
theorem st_not (hs : St C E M H a w) (hi : Nat.blt i ops.size = true) (hw : wantE ops E i = some false) (hd : dstLt (opAt ops i).dst C.N = true) (k : ∀ a', St C (putO E (opAt ops i).dst undef) M H a' w → K a' w) : wpOp P ops Q i K a w := by
  unfold wpOp
  rw [opAt_eq (Nat.le_of_ble_eq_true hi)]
  simp only [wantE_eq hs.env hw, Bool.false_eq_true, if_false]
  exact k _ ⟨hs.env.putO hd _, hs.wf, hs.ext⟩
theorem st_notD (hs : St C E M H a w) {b : Nat} (hF : (i, b) ∈ F.l) (hsame : w.heap[b]? = w1.heap[b]?) (hw : wantE ops E i = some false) (hd : dstLt (opAt ops i).dst C.N = true) (k : ∀ a', St C (putO E (opAt ops i).dst undef) M H a' w → p.wp P ops Q w1 F a' w) : (Plan.load i b p).wp P ops Q w1 F a w :=
  ⟨hF, hsame, undef, .inr ⟨wantE_eq hs.env hw, rfl⟩, k _ ⟨hs.env.putO hd _, hs.wf, hs.ext⟩⟩
end
end Go.Fx
