/- Base for printed walks, part N: rows that are sliced, rows of zeros. Own work. -/
import Derived.Test.YthpdomeciaafjaaFxM
namespace Go.Fx

theorem Elems.slice {α : Type} {d : Kd α} {M : Mem} {cs : List Value} {xs : List α} (h : Elems d M cs xs) {l m : Nat} (hl : l ≤ m) (hm : m ≤ xs.length) : Elems d M ((cs.drop (l * d.sz)).take ((m - l) * d.sz)) ((xs.drop l).take (m - l)) := by
  have hlen := h.len
  have hmul : m * d.sz ≤ xs.length * d.sz := Nat.mul_le_mul_right _ hm
  have hmul2 : l * d.sz ≤ m * d.sz := Nat.mul_le_mul_right _ hl
  have hxl : ((xs.drop l).take (m - l)).length = m - l := by simp; omega
  refine Elems.of_at ?_ fun i hi => ?_
  · rw [hxl, List.length_take, List.length_drop, hlen, Nat.sub_mul]
    omega
  · rw [hxl] at hi
    have h1 := h.at_ (l + i) (by omega)
    have e1 : ((xs.drop l).take (m - l))[i] = xs[l + i]'(by omega) := by simp
    have hi2 : (i + 1) * d.sz ≤ (m - l) * d.sz := Nat.mul_le_mul_right _ (by omega)
    rw [Nat.add_mul, Nat.one_mul] at hi2
    rw [e1, List.drop_take, List.drop_drop, List.take_take, Nat.min_eq_left (by omega), ← Nat.add_mul]
    exact h1

section
variable {P : Program} {C : Ctx} {E : Env} {M : Mem} {H : List Res} {a : Act} {w : World}
variable {ops : Array Oper} {Q : Post} {K : Act → World → Prop} {i : Nat} {w1 : World} {F : Fs} {p : Plan}

def slA (A : Option Addr) (c l sz : Nat) : Option Addr := if c = l then A else A.map fun a => addOff a (l * sz)
theorem slice_run {N : Nat} (ha : EnvOk N E a) {t : TypeId} {A : Option Addr} {n c sz : Nat} {l h : Int} (hk : slTy (opAt ops i) = some t) (hsz : slElem P t = some sz)
    (hx : argV ops i 0 E = some (.slice A n c)) (hl : optV E 0 (slLo (opAt ops i)) = some l) (hh : optV E n (slHi (opAt ops i)) = some h) (hb : (0 ≤ l ∧ l ≤ h) ∧ h ≤ c) (w : World) :
    (execOp a.eval (opAt ops i)).run P w = .ok (.value (.slice (slA A c l.toNat sz) (h.toNat - l.toNat) (c - l.toNat))) w := by
  obtain ⟨⟨hb1, hb2⟩, hb3⟩ := hb
  unfold slTy slT at hk
  unfold slLo slT at hl
  unfold slHi slT at hh
  unfold argV at hx
  unfold slA
  generalize opAt ops i = o at *
  obtain ⟨dst, op, ty, pos, after, guard⟩ := o
  cases op with
  | slice t' y lo' hi' mx =>
    cases mx with
    | some _ => cases hk
    | none =>
      simp only [Option.map_some, Option.some.injEq] at hk hl hh
      subst hk
      have hx' : ev E y = some (.slice A n c) := by simpa [Op.operands] using hx
      unfold slElem at hsz
      split at hsz
      · rename_i e hu
        obtain ⟨info, hinf, he⟩ := Option.map_eq_some_iff.1 hsz
        have key : ∀ (z : Option Operand) (m : Nat) (v : Int) (y : Nat) (code : BoundsCode), optV E m z = some v → 0 ≤ v → v ≤ y → (match z.map a.eval with | some v => Instr.sliceBound v y code | none => pure m).run P w = .ok v.toNat w := by
          intro z m v y code hz hv0 hv1
          cases z with
          | none => simp only [optV, Option.some.injEq] at hz; subst hz; simp
          | some z =>
            simp only [optV] at hz
            split at hz
            · rename_i k n hz'
              simp only [Option.some.injEq] at hz
              subst hz
              simp [ha.eval hz', Instr.sliceBound, asIntOf, hv0, hv1]
            · cases hz
        have e1 := key hi' n h c .sliceAcap hh (by omega) (by omega)
        have e2 := key lo' 0 l h.toNat .sliceB hl hb1 (by omega)
        have hsb : (Instr.sliceBounds true n c (lo'.map a.eval) (hi'.map a.eval) none).run P w = .ok (l.toNat, h.toNat, c) w := by
          unfold Instr.sliceBounds
          cases hi' with
          | none =>
            simp only [optV, Option.some.injEq] at hh
            cases lo' with
            | none => simp only [optV, Option.some.injEq] at hl; simp [← hh, ← hl]
            | some z =>
              simp only [Option.map_some] at e2 ⊢
              simp only [← hh] at e2
              simp at e2
              simp [e2, ← hh]
          | some z2 =>
            simp only [Option.map_some] at e1
            cases lo' with
            | none => simp only [optV, Option.some.injEq] at hl; simp [e1, ← hl]
            | some z =>
              simp only [Option.map_some] at e2
              simp [e1, e2]
        simp only [execOp, Instr.sliceAt, Sem.run_bind, run_underlying hu, Result.andThen_ok, ha.eval hx', Instr.slice, Option.map_none, hsb, sizeOf, typeInfo]
        simp only [program, Sem.run, Result.andThen_ok]
        simp [hinf, he, addOff_eq]
      · cases hsz
  | _ => cases hk

/-- A slice of a row: from then on that part is the row. -/
theorem x_sliceR (hs : St C E M H a w) (j : Nat) {t e : TypeId} {A : Option Addr} {n c sz : Nat} {l h : Int} {cs : List Value} (hj : H[j]? = some (.row (.slice A n c) e sz n cs)) (ho : okOp ops C.N E i = true) (hk : slTy (opAt ops i) = some t) (hsz : slElem P t = some sz)
    (hx : argV ops i 0 E = some (.slice A n c)) (hl : optV E 0 (slLo (opAt ops i)) = some l) (hh : optV E n (slHi (opAt ops i)) = some h) (hb : (0 ≤ l ∧ l ≤ h) ∧ h ≤ n)
    (kk : ∀ a', St C (putO E (opAt ops i).dst (.slice (slA A c l.toNat sz) (h.toNat - l.toNat) (c - l.toNat))) M (H.set j (.row (.slice (slA A c l.toNat sz) (h.toNat - l.toNat) (c - l.toNat)) e sz (h.toNat - l.toNat) ((cs.drop (l.toNat * sz)).take ((h.toNat - l.toNat) * sz)))) a' w → p.wp P ops Q w1 F a' w) : (Plan.pure i p).wp P ops Q w1 F a w := by
  have hh0 := hs.wf.holds _ (List.mem_of_getElem? hj)
  obtain ⟨hl0, hv⟩ := hh0
  have hnc : n ≤ c := by
    rcases hv with ⟨hv, rfl⟩ | ⟨g, o, cap, cur, hv, _, hle, _⟩
    · omega
    · cases hv; exact hle
  obtain ⟨⟨hb1, hb2⟩, hb3⟩ := hb
  have hmul : h.toNat * sz ≤ n * sz := Nat.mul_le_mul_right _ (by omega)
  have hmul2 : l.toNat * sz ≤ h.toNat * sz := Nat.mul_le_mul_right _ (by omega)
  have hlen : ((cs.drop (l.toNat * sz)).take ((h.toNat - l.toNat) * sz)).length = (h.toNat - l.toNat) * sz := by
    rw [List.length_take, List.length_drop, hl0, Nat.sub_mul]; omega
  have hown : OwnR w e sz (.slice (slA A c l.toNat sz) (h.toNat - l.toNat) (c - l.toNat)) (h.toNat - l.toNat) ((cs.drop (l.toNat * sz)).take ((h.toNat - l.toNat) * sz)) := by
    refine ⟨hlen, ?_⟩
    rcases hv with ⟨hv, rfl⟩ | ⟨g, o, cap, cur, hv, hg, hle, hcm, hcs, htk⟩
    · cases hv
      left
      have h1 : h.toNat - l.toNat = 0 := by omega
      have h2 : l.toNat = 0 := by omega
      rw [h1, h2]
      exact ⟨rfl, rfl⟩
    · cases hv
      right
      have hc2 : (c - l.toNat) * sz + l.toNat * sz = c * sz := by rw [← Nat.add_mul]; congr 1; omega
      have htk2 : ((cur.toList.drop (o + l.toNat * sz)).take ((h.toNat - l.toNat) * sz)) = (cs.drop (l.toNat * sz)).take ((h.toNat - l.toNat) * sz) := by
        rw [← htk, List.drop_take, List.drop_drop, List.take_take, Nat.sub_mul, Nat.min_eq_left (by omega)]
      unfold slA
      by_cases hcl : c = l.toNat
      · rw [if_pos hcl]
        have hz : h.toNat - l.toNat = 0 := by omega
        refine ⟨g, o, c - l.toNat, cur, rfl, hg, by omega, by omega, by omega, ?_⟩
        rw [hz]; simp
      · rw [if_neg hcl]
        exact ⟨g, o + l.toNat * sz, c - l.toNat, cur, rfl, hg, by omega, by omega, by omega, htk2⟩
  have hfoot : ∀ x, (Res.row (.slice (slA A c l.toNat sz) (h.toNat - l.toNat) (c - l.toNat)) e sz (h.toNat - l.toNat) ((cs.drop (l.toNat * sz)).take ((h.toNat - l.toNat) * sz))).foot = some x → (Res.row (.slice A n c) e sz n cs).foot = some x ∨ w.heap.size ≤ x := by
    intro x hfx
    left
    simp only [Res.foot] at hfx ⊢
    unfold slA at hfx
    rcases hv with ⟨hv, _⟩ | ⟨g, o, cap, cur, hv, _⟩
    · cases hv
      split at hfx <;> simp [Value.ownBlock] at hfx
    · cases hv
      split at hfx <;> simpa [Value.ownBlock, addOff] using hfx
  have hrep := hs.wf.replace (w' := w) (r' := .row (.slice (slA A c l.toNat sz) (h.toNat - l.toNat) (c - l.toNat)) e sz (h.toNat - l.toNat) ((cs.drop (l.toNat * sz)).take ((h.toNat - l.toNat) * sz))) hj rfl rfl rfl (Nat.le_refl _) (fun _ _ _ => rfl) hown hfoot
  obtain ⟨h2, h3, h4⟩ := okOp_spec hs.env ho
  exact ⟨_, .inl ⟨h3, fun w => slice_run hs.env hk hsz hx hl hh ⟨⟨hb1, hb2⟩, by omega⟩ w⟩, kk _ ⟨hs.env.putO h4 _, hrep.1, hs.ext.trans hrep.2⟩⟩

def azT (P : Program) (o : Oper) : Option TypeId := match o.op with
  | .call { callee := .builtin .append, argTypes := ts, .. } => (match ts.toList with | [t, u] => (match P.underlying u with | some (.int _) => some t | _ => none) | _ => none)
  | _ => none
theorem run_append_zeros (w : World) (t u ty e : TypeId) (i : TypeInfo) (z : Value) (ht : P.underlying t = some (.slice e)) {k0 k : IntKind} (hu : P.underlying u = some (.int k0)) (hi : P.info? e = some i) (hz : i.zero = some z)
    (n : Nat) (h0 : 0 < n) (hsz : 0 < i.size) (h63 : (n : Int) ≤ 140737488355328) (h48 : n * i.bytes ≤ 140737488355328) :
    (Builtin.append_ #[t, u] ty #[.slice none 0 0, .int k n]).run P w =
      .ok (.slice (some ⟨w.heap.size, 0, none⟩) n (grownCap w n 0 e)) (w.drew.alloc (.cells (Builtin.zeroCells z.cells n ++ Builtin.zeroCells z.cells (grownCap w n 0 e - n)) e)) := by
  have hn : n ≠ 0 := by omega
  have h63' : ¬ (9223372036854775807 < (n : Int)) := by omega
  have h48' : ¬ (281474976710656 < Builtin.nextslicecap n 0 * i.bytes) := by rw [nextslicecap_zero h0]; omega
  have hw : IntKind.i64.wrap (n : Int) = n := by rw [IntKind.wrap_i64]; omega
  have h1 : ¬ ((n : Int) < 0) := by omega
  have h2 : ¬ (281474976710656 < (n : Int) * (i.bytes : Int)) := by
    have h : (n : Int) * (i.bytes : Int) = ((n * i.bytes : Nat) : Int) := by simp
    rw [h]; omega
  have h3 : ¬ (n * i.size = 0) := by
    intro h
    rcases Nat.mul_eq_zero.1 h with h | h <;> omega
  simp [Builtin.append_, run_underlying ht, run_underlying hu, sizeOf, typeInfo, zeroValue, hi, hz, asInt, asIntOf, hn, h63', h48', hw, h1, h2, h3, Question.forced, run_firstCells_none, newRow, grownCap]

theorem st_makeZ (hs : St C E M H a w) {t e sz bytes : Nat} {z : List Value} {m : Int} {kd : IntKind} (ho : okOp ops C.N E i = true) (hk : azT P (opAt ops i) = some t) (hk2 : apOk (opAt ops i) = true) (he : elemInfo P t = some (e, sz, bytes, z)) (hsz : Nat.ble 1 sz = true)
    (hv : argV ops i 0 E = some (.slice none 0 0)) (hx : argV ops i 1 E = some (.int kd m)) (hm : 0 < m) (hb : m.toNat * bytes ≤ 140737488355328 ∧ m.toNat ≤ 140737488355328)
    (k : ∀ v a' w', St C (putO E (opAt ops i).dst v) M (.row v e sz m.toNat (List.replicate m.toNat z).flatten :: H) a' w' → (∀ x, x < w.heap.size → w'.heap[x]? = w.heap[x]?) → K a' w') : wpOp P ops Q i K a w := by
  obtain ⟨h2, h3, h4⟩ := okOp_spec hs.env ho
  have hsz1 : 1 ≤ sz := Nat.le_of_ble_eq_true hsz
  unfold elemInfo at he
  split at he
  · rename_i e1 hu
    split at he
    · rename_i ie hi
      split at he
      · rename_i z1 hz
        split at he
        · rename_i hzl
          simp only [Option.some.injEq, Prod.mk.injEq] at he
          obtain ⟨rfl, rfl, rfl, rfl⟩ := he
          obtain ⟨n, rfl⟩ : ∃ n : Nat, m = n := ⟨m.toNat, by omega⟩
          simp only [Int.toNat_natCast] at hb k
          have hn : 0 < n := by omega
          have hzs : z1.cells.size = ie.size := by rw [← hzl]; simp
          have hge := grownCap_ge w n 0 e1
          have hcm : grownCap w n 0 e1 ≤ maxLen := grownCap_le_maxLen w n 0 e1 (by simp only [maxLen]; omega)
          have hzr : (Builtin.zeroCells z1.cells n).toList = (List.replicate n z1.cells.toList).flatten := by
            have := zeros_eq z1.cells.toList n
            simpa [Builtin.zeroCells] using this
          have hlz : ((List.replicate n z1.cells.toList).flatten).length = n * ie.size := by rw [← hzr]; simp [size_zeroCells, hzs]
          have hown : OwnR (w.drew.alloc (.cells (Builtin.zeroCells z1.cells n ++ Builtin.zeroCells z1.cells (grownCap w n 0 e1 - n)) e1)) e1 ie.size (.slice (some ⟨w.heap.size, 0, none⟩) n (grownCap w n 0 e1)) n (List.replicate n z1.cells.toList).flatten := by
            refine ⟨hlz, .inr ⟨w.heap.size, 0, _, _, rfl, heap_alloc_new w.drew _, hge, hcm, ?_, ?_⟩⟩
            · simp only [Array.size_append, size_zeroCells, hzs, ← Nat.add_mul, Nat.zero_add]
              exact Nat.mul_le_mul_right _ (by omega)
            · simp only [List.drop_zero, Array.toList_append, hzr]
              rw [← hlz]
              exact List.take_left
          have hw' := hs.wf.push (w' := w.drew.alloc (.cells (Builtin.zeroCells z1.cells n ++ Builtin.zeroCells z1.cells (grownCap w n 0 e1 - n)) e1)) (r := .row (.slice (some ⟨w.heap.size, 0, none⟩) n (grownCap w n 0 e1)) e1 ie.size n (List.replicate n z1.cells.toList).flatten) rfl rfl rfl (by simp) (fun x hx => heap_alloc_old w.drew _ x hx) hown (fun x hx => by simp only [Res.foot, Value.ownBlock, Option.some.injEq] at hx; omega)
          refine op_val h2 h3 (v := .slice (some ⟨w.heap.size, 0, none⟩) n (grownCap w n 0 e1)) ?_ (k _ _ _ ⟨hs.env.putO h4 _, hw'.1, hs.ext.trans hw'.2⟩ fun x hx => heap_alloc_old w.drew _ x hx)
          unfold azT at hk
          unfold apOk at hk2
          unfold argV at hv hx
          generalize opAt ops i = o at *
          obtain ⟨dst, op, ty, pos, after, guard⟩ := o
          cases op with
          | call c =>
            obtain ⟨callee, args, ts⟩ := c
            cases callee with
            | builtin b =>
              cases b with
              | append =>
                simp only at hk
                split at hk
                · rename_i t1 t2 hts
                  split at hk
                  · rename_i k0 hu2
                    simp only [Option.some.injEq] at hk
                    subst hk
                    have et : ts = #[t1, t2] := by apply Array.ext'; simpa using hts
                    subst et
                    simp only at hk2
                    have hal : args.toList.length = 2 := by simpa using hk2
                    match hargs : args.toList, hal with
                    | [x0, x1], _ =>
                      have ea : args = #[x0, x1] := by apply Array.ext'; simpa using hargs
                      subst ea
                      have h1 : ev E x0 = some (.slice none 0 0) := by simpa [Op.operands, Call.operands] using hv
                      have h2' : ev E x1 = some (.int kd n) := by simpa [Op.operands, Call.operands] using hx
                      have hr := run_append_zeros (P := P) w t1 t2 ty e1 ie z1 hu (k := kd) hu2 hi hz n hn (by omega) (by omega) hb.1
                      simp [execOp, resolve, invoke, builtin, hs.env.eval h1, hs.env.eval h2', hr]
                  · cases hk
                · cases hk
              | _ => cases hk
            | _ => cases hk
          | _ => cases hk
        · cases he
      · cases he
    · cases he
  · cases he
theorem elems_rep {α : Type} {d : Kd α} {z : List Value} {x : α} (h : d.rep M z x) : ∀ (n : Nat), Elems d M (List.replicate n z).flatten (List.replicate n x)
  | 0 => rfl
  | n + 1 => by
    rw [List.replicate_succ, List.replicate_succ, List.flatten_cons]
    exact ⟨_, _, rfl, h, elems_rep h n⟩
theorem x_makeZ {α : Type} (x0 : α) (hs : St C E M H a w) {t e sz bytes : Nat} {z : List Value} {m : Int} {kd : IntKind} (ho : okOp ops C.N E i = true) (hk : azT P (opAt ops i) = some t) (hk2 : apOk (opAt ops i) = true) (he : elemInfo P t = some (e, sz, bytes, z)) (hsz : Nat.ble 1 sz = true)
    (hv : argV ops i 0 E = some (.slice none 0 0)) (hx : argV ops i 1 E = some (.int kd m)) (hm : 0 < m) (hb : m.toNat * bytes ≤ 140737488355328 ∧ m.toNat ≤ 140737488355328)
    (k : ∀ v a' w', St C (putO E (opAt ops i).dst v) M (.row v e sz (List.replicate m.toNat x0).length (List.replicate m.toNat z).flatten :: H) a' w' → (∀ x, x < w.heap.size → w'.heap[x]? = w.heap[x]?) → K a' w') : wpOp P ops Q i K a w :=
  st_makeZ hs ho hk hk2 he hsz hv hx hm hb fun v a' w' h => k v a' w' (by rw [List.length_replicate]; exact h)
theorem x_sliceRL {α : Type} {d : Kd α} {xs : List α} (hs : St C E M H a w) (j : Nat) {t e : TypeId} {A : Option Addr} {c : Nat} {l h : Int} {cs : List Value} (hj : H[j]? = some (.row (.slice A xs.length c) e d.sz xs.length cs)) (ho : okOp ops C.N E i = true) (hk : slTy (opAt ops i) = some t) (hsz : slElem P t = some d.sz)
    (hx : argV ops i 0 E = some (.slice A xs.length c)) (hl : optV E 0 (slLo (opAt ops i)) = some l) (hh : optV E xs.length (slHi (opAt ops i)) = some h) (hb : (0 ≤ l ∧ l ≤ h) ∧ h ≤ xs.length)
    (kk : ∀ a', St C (putO E (opAt ops i).dst (.slice (slA A c l.toNat d.sz) ((xs.drop l.toNat).take (h.toNat - l.toNat)).length (c - l.toNat))) M (H.set j (.row (.slice (slA A c l.toNat d.sz) ((xs.drop l.toNat).take (h.toNat - l.toNat)).length (c - l.toNat)) e d.sz ((xs.drop l.toNat).take (h.toNat - l.toNat)).length ((cs.drop (l.toNat * d.sz)).take ((h.toNat - l.toNat) * d.sz)))) a' w → p.wp P ops Q w1 F a' w) : (Plan.pure i p).wp P ops Q w1 F a w :=
  x_sliceR hs j hj ho hk hsz hx hl hh hb fun a' h' => kk a' (by
    have hlen : ((xs.drop l.toNat).take (h.toNat - l.toNat)).length = h.toNat - l.toNat := by
      obtain ⟨⟨hb1, hb2⟩, hb3⟩ := hb
      simp; omega
    rw [hlen]; exact h')
theorem elems_slice {α : Type} {d : Kd α} {cs : List Value} {xs : List α} {l h : Int} (hx : Elems d M cs xs) (hb : (0 ≤ l ∧ l ≤ h) ∧ h ≤ xs.length) : Elems d M ((cs.drop (l.toNat * d.sz)).take ((h.toNat - l.toNat) * d.sz)) ((xs.drop l.toNat).take (h.toNat - l.toNat)) := by
  obtain ⟨⟨hb1, hb2⟩, hb3⟩ := hb
  exact hx.slice (by omega) (by omega)
end
theorem makeZ_dec {m : Int} {x y : Prop} [Decidable x] [Decidable y] (h : (decide (0 < m) && (decide x && decide y)) = true) : 0 < m ∧ x ∧ y := by simpa using h
end Go.Fx
