/- Base for printed walks, part V: indexes, windows, rows, texts, in long steps' form. Own work. -/
import Derived.Test.YthpdomeciaafjaaFxU
namespace Go.Fx

def slAL (v : Option Value) : Option (Option Addr × Nat) := match v with | some (.slice A n _) => some (A, n) | _ => none
def intOf? (v : Option Value) : Option Int := match v with | some (.int _ n) => some n | _ => none
theorem slAL_eq {v : Option Value} {A : Option Addr} {n : Nat} (h : slAL v = some (A, n)) : ∃ c, v = some (.slice A n c) := by
  unfold slAL at h
  split at h
  · rename_i A' n' c
    simp only [Option.some.injEq, Prod.mk.injEq] at h
    obtain ⟨rfl, rfl⟩ := h
    exact ⟨c, rfl⟩
  · cases h
theorem intOf_eq {v : Option Value} {n : Int} (h : intOf? v = some n) : ∃ k, v = some (.int k n) := by
  unfold intOf? at h
  split at h
  · rename_i k m; simp only [Option.some.injEq] at h; subst h; exact ⟨k, rfl⟩
  · cases h
/-- bind, and the row's element. -/
theorem ixo {α β : Type} {d : Kd α} {xs : List α} {M : Mem} {A : Option Addr} {c : Nat} {j : Int} {f : α → Option β} {r : β} (hm : (idx xs j).bind f = some r) (hsl : SlAt d M A c xs) :
    ∃ x b f' blk W, f x = some r ∧ A = some ⟨b, f', none⟩ ∧ (0 ≤ j ∧ j < (xs.length : Int)) ∧ M b = some blk ∧ (blk.toList.drop (f' + j.toNat * d.sz)).take d.sz = W ∧ d.rep M W x := by
  obtain ⟨x, hj, hm⟩ := bind_some hm
  obtain ⟨b, f', blk, W, h1, h2, h3, h4, h5⟩ := row_open hsl hj
  exact ⟨x, b, f', blk, W, hm, h1, h2, h3, h4, h5⟩
theorem ixe {α β : Type} {d : Kd α} {xs : List α} {M : Mem} {cs : List Value} {j : Int} {f : α → Option β} {r : β} (hm : (idx xs j).bind f = some r) (hx : Elems d M cs xs) :
    ∃ x, f x = some r ∧ (0 ≤ j ∧ j < (xs.length : Int)) ∧ d.rep M ((cs.drop (j.toNat * d.sz)).take d.sz) x := by
  obtain ⟨x, hj, hm⟩ := bind_some hm
  obtain ⟨h1, h2⟩ := elems_idx hx hj
  exact ⟨x, hm, h1, h2⟩
theorem gd2 {α : Type} {p q : Prop} [Decidable p] [Decidable q] {x : Option α} {r : α} (h : (if (decide p && decide q) = true then x else none) = some r) : (p ∧ q) ∧ x = some r := by
  obtain ⟨h1, h2⟩ := guard_some h
  exact ⟨and_dec h1, h2⟩
theorem gd3 {α : Type} {p q s : Prop} [Decidable p] [Decidable q] [Decidable s] {x : Option α} {r : α} (h : (if ((decide p && decide q) && decide s) = true then x else none) = some r) : ((p ∧ q) ∧ s) ∧ x = some r := by
  obtain ⟨h1, h2⟩ := guard_some h
  exact ⟨and3_dec h1, h2⟩

section
variable {P : Program} {C : Ctx} {E : Env} {M M1 : Mem} {H : List Res} {a : Act} {w : World}
variable {ops : Array Oper} {Q : Post} {FI : List (Nat × Nat)} {V : List Nat} {t : PT}

theorem g_ix (d sz : Nat) {A : Option Addr} {b f len : Nat} {j : Int} (hA : A = some ⟨b, f, none⟩) (hb : 0 ≤ j ∧ j < (len : Int)) (k : IG P ops Q C (E.put d (.pointer (some ⟨b, f + j.toNat * sz, none⟩))) M H FI V M1 (t.drop 1))
    (h : (purOk ops t && dstIs (opAt ops t.i) d && okOp ops C.N E t.i) = true := by kernel_rfl) (h1 : (ixT (opAt ops t.i)).bind (slElem P) = some sz := by kernel_rfl) (h2 : slAL (argV ops t.i 0 E) = some (A, len) := by kernel_rfl) (h3 : intOf? (argV ops t.i 1 E) = some j := by kernel_rfl) : IG P ops Q C E M H FI V M1 t := by
  rw [Bool.and_eq_true] at h
  obtain ⟨tt, ht, hsz⟩ := Option.bind_eq_some_iff.1 h1
  obtain ⟨c, hx⟩ := slAL_eq h2
  obtain ⟨kk, hi⟩ := intOf_eq h3
  subst hA
  exact gp d h.1 (fun a w w1 F p hs kk => x_index hs hb h.2 ht hsz hx hi kk) k
/-- A load out of memory that nobody writes. -/
theorem g_lw (d off : Nat) (v : Value) {b o n : Nat} {blk : Array Value} {W : List Value} (hb : M b = some blk) (hW : (blk.toList.drop o).take n = W) (k : IG P ops Q C (E.put d v) M H FI (rmV V []) M1 (t.drop 1))
    (h : (effOk ops FI V [] t && okOp ops C.N E t.i && dstIs (opAt ops t.i) d) = true := by kernel_rfl) (h1 : (match ldT (opAt ops t.i) with | some x => readOf P x W off | none => none) = some v := by kernel_rfl) (h2 : argV ops t.i 0 E = some (.pointer (some ⟨b, o + off, none⟩)) := by kernel_rfl) : IG P ops Q C E M H FI V M1 t := by
  rw [Bool.and_eq_true, Bool.and_eq_true] at h
  cases ht : ldT (opAt ops t.i) with
  | none => rw [ht] at h1; cases h1
  | some tt =>
    rw [ht] at h1
    refine ig_eff (X := Unit) (E' := fun _ => E.put d v) (M' := fun _ => M) (H' := fun _ => H) [] h.1.1 (fun a w K hs kk => st_loadW hs h.1.2 ht h2 hb hW h1 fun a' hs' => kk () a' w ?_ keeps_same) (fun _ => k)
    rw [dstIs_eq h.2] at hs'
    exact hs'
theorem g_lwD (d off : Nat) (v : Value) {b o n : Nat} {blk blk1 : Array Value} {W : List Value} (hb1 : M1 b = some blk1) (hb : M b = some blk) (hW : (blk.toList.drop o).take n = W) (k : IG P ops Q C (E.put d v) M H FI V M1 (t.drop 1))
    (h : (t.isIt && Nat.beq (t.n % 4) 2 && okOp ops C.N E t.i && dstIs (opAt ops t.i) d) = true := by kernel_rfl) (h1 : (match ldT (opAt ops t.i) with | some x => readOf P x W off | none => none) = some v := by kernel_rfl) (h2 : argV ops t.i 0 E = some (.pointer (some ⟨b, o + off, none⟩)) := by kernel_rfl) : IG P ops Q C E M H FI V M1 t := by
  rw [Bool.and_eq_true, Bool.and_eq_true, Bool.and_eq_true] at h
  obtain ⟨⟨⟨h3, h4⟩, h5⟩, h6⟩ := h
  cases ht : ldT (opAt ops t.i) with
  | none => rw [ht] at h1; cases h1
  | some tt =>
    rw [ht] at h1
    intro w1 bl a w hs hd
    rw [PT.it_eq h3, pl2 (Nat.eq_of_beq_eq_true h4)]
    refine st_loadWD hs h5 ht h2 (by rw [hb1]; rfl) (fun b h => (hd.rd b h).1) hb hW h1 fun a' hs' => k w1 bl a' w ?_ hd
    rw [dstIs_eq h6] at hs'
    exact hs'
/-- A load that is known by a law: an element of an array in a block. -/
theorem g_la (d j pre n : Nat) (kd : IntKind) {xs : List Int} {ix : Int} (hn : xs.length = n) (hb : 0 ≤ ix ∧ ix < (n : Nat)) (k : IG P ops Q C (E.put d (.int kd (xs.getD ix.toNat 0))) M H FI V M1 (t.drop 1))
    (h : (t.isIt && (Nat.beq (t.n % 4) 3 || (Nat.beq (t.n % 4) 1 && (match lk FI t.i with | some m => Nat.beq m j | none => false) && V.contains (2 * j))) && okOp ops C.N E t.i && dstIs (opAt ops t.i) d && isBlk H j) = true := by kernel_rfl)
    (h1 : ((cellsH H j).drop pre).take n = arrL n kd xs := by kernel_rfl) (h2 : (match ldT (opAt ops t.i) with | some x => aggB P x | none => none) = some false := by kernel_rfl) (h3 : argV ops t.i 0 E = some (.pointer (some ⟨blkOf H j, pre + ix.toNat * 1, none⟩)) := by kernel_rfl) : IG P ops Q C E M H FI V M1 t := by
  simp only [Bool.and_eq_true] at h
  obtain ⟨⟨⟨⟨h4, h5⟩, h6⟩, h7⟩, h8⟩ := h
  cases ht : ldT (opAt ops t.i) with
  | none => rw [ht] at h2; cases h2
  | some tt =>
    rw [ht] at h2
    have hr := arr_read (P := P) (H := H) (j := j) (t := tt) h1 h2 h8 hn hb
    unfold isBlk at h8
    split at h8
    · rename_i b cs T hj
      have e1 : blkOf H j = b := by unfold blkOf; rw [hj]
      rw [e1] at h3
      unfold readH at hr
      rw [hj] at hr
      rw [PT.it_eq h4]
      refine ig_load (n := t.n) (j := j) h6 ?_ ht h3 hj hr ?_
      · rw [Bool.or_eq_true, Bool.and_eq_true, Bool.and_eq_true] at h5
        rcases h5 with h5 | h5
        · exact .inl (Nat.eq_of_beq_eq_true h5)
        · refine .inr ⟨Nat.eq_of_beq_eq_true h5.1.1, ?_, by simpa using h5.2⟩
          cases hl : lk FI t.i with
          | none => rw [hl] at h5; simp at h5
          | some m => rw [hl] at h5; simp only at h5; rw [Nat.eq_of_beq_eq_true h5.1.2]
      · rw [show (opAt ops (t.n / 4)).dst = some d from dstIs_eq h7]
        exact k
    · cases h8
/-- An element's place in an array in a block. -/
theorem g_ixA (d b off n sz : Nat) {j : Int} (hb : 0 ≤ j ∧ j < (n : Nat)) (k : IG P ops Q C (E.put d (.pointer (some ⟨b, off + j.toNat * sz, none⟩))) M H FI V M1 (t.drop 1))
    (h : (purOk ops t && dstIs (opAt ops t.i) d && okOp ops C.N E t.i) = true := by kernel_rfl) (h1 : (ixT (opAt ops t.i)).bind (arElem P) = some (n, sz) := by kernel_rfl) (h2 : argV ops t.i 0 E = some (.pointer (some ⟨b, off, none⟩)) := by kernel_rfl) (h3 : intOf? (argV ops t.i 1 E) = some j := by kernel_rfl) : IG P ops Q C E M H FI V M1 t := by
  rw [Bool.and_eq_true] at h
  obtain ⟨tt, ht, hsz⟩ := Option.bind_eq_some_iff.1 h1
  obtain ⟨kk, hi⟩ := intOf_eq h3
  exact gp d h.1 (fun a w w1 F p hs kk => st_indexA hs h.2 ht hsz h2 hi hb.1 hb.2 kk) k
theorem g_ixV (d n : Nat) (kd : IntKind) {xs : List Int} {j : Int} (hn : xs.length = n) (hb : 0 ≤ j ∧ j < (n : Nat)) (k : IG P ops Q C (E.put d (.int kd (xs.getD j.toNat 0))) M H FI V M1 (t.drop 1))
    (h : (purOk ops t && dstIs (opAt ops t.i) d && okOp ops C.N E t.i) = true := by kernel_rfl) (h1 : (ixvT (opAt ops t.i)).bind (arElem P) = some (n, 1) := by kernel_rfl) (h4 : (ixvT (opAt ops t.i)).bind (fun x => match P.underlying x with | some (.array _ e) => aggB P e | _ => none) = some false := by kernel_rfl)
    (h2 : argV ops t.i 0 E = some (.agg (arrL n kd xs).toArray) := by kernel_rfl) (h3 : intOf? (argV ops t.i 1 E) = some j := by kernel_rfl) : IG P ops Q C E M H FI V M1 t := by
  rw [Bool.and_eq_true] at h
  obtain ⟨tt, ht, hsz⟩ := Option.bind_eq_some_iff.1 h1
  obtain ⟨kk, hi⟩ := intOf_eq h3
  rw [ht] at h4
  exact gp d h.1 (fun a w w1 F p hs kk => st_indexV hs h.2 ht hsz h4 h2 hi hb.1 hb.2 (arr_val rfl hn hb) kk) k
theorem keeps_set {j b : Nat} {r' : Res} {w' : World} (hs : St C E M H a w) (hf : footOf H j = some b) (hk : ∀ x, x ≠ b → w'.heap[x]? = w.heap[x]?) : Keeps M H [j] w M (H.set j r') w' := by
  obtain ⟨r, hj, hr⟩ := foot_at hf
  refine ⟨Mem.le_refl _, fun x hx => hk x fun e => ?_, fun m x hm hx => ⟨foot_set (ne_of_nc hm) hx, hk x fun e => ?_⟩⟩
  · subst e; exact hs.mfoot hx j hf
  · subst e
    obtain ⟨r1, h1, h2⟩ := foot_at hx
    exact hs.wf.ne h1 hj (ne_of_nc hm) h2 hr
/-- A store into an array in a block. -/
theorem g_sA (j pre n : Nat) (kd : IntKind) (y : Int) (r' : Res) {xs : List Int} {ix : Int} (hn : xs.length = n) (hb : 0 ≤ ix ∧ ix < (n : Nat)) (k : IG P ops Q C E M (H.set j r') FI (rmV V [j]) M1 (t.drop 1)) (hv : argV ops t.i 1 E = some (.int kd y) := by kernel_rfl)
    (hH : setA H j pre n kd (xs.set ix.toNat y) = H.set j r' := by kernel_rfl) (h : (effOk ops FI V [j] t && okOp ops C.N E t.i && isBlk H j && (opAt ops t.i).dst.isNone) = true := by kernel_rfl) (h1 : ((cellsH H j).drop pre).take n = arrL n kd xs := by kernel_rfl)
    (h2 : (stT (opAt ops t.i)).bind (fun x => (P.info? x).map (·.size)) = some 1 := by kernel_rfl) (h3 : argV ops t.i 0 E = some (.pointer (some ⟨blkOf H j, pre + ix.toNat * 1, none⟩)) := by kernel_rfl) : IG P ops Q C E M H FI V M1 t := by
  simp only [Bool.and_eq_true] at h
  obtain ⟨⟨⟨h4, h5⟩, h6⟩, h7⟩ := h
  obtain ⟨tt, ht, hsz⟩ := Option.bind_eq_some_iff.1 h2
  rw [← hH] at k
  refine ig_eff (X := Unit) (E' := fun _ => E) (M' := fun _ => M) (H' := fun _ => setA H j pre n kd (xs.set ix.toNat y)) [j] h4 (fun a w K hs kk => x_storeA hs j tt pre n h5 ht h3 hv h1 hsz h6 hn hb fun a' w' hs' hk => kk () a' w' ?_ ?_) (fun _ => k)
  · have : (opAt ops t.i).dst = none := by simpa using h7
    rw [this] at hs'
    exact hs'
  · obtain ⟨cs, T, hj⟩ := blk_at h6
    have hf : footOf H j = some (blkOf H j) := by unfold footOf; rw [hj]; rfl
    unfold setA
    rw [hj]
    exact keeps_set hs hf hk
/-- A store whose value isn't told cell by cell. -/
theorem g_st (j : Nat) (v : Value) (r' : Res) (h1 : ∀ u ∈ v.cells.toList, u.oneCell' = true) (k : IG P ops Q C E M (H.set j r') FI (dV V j) M1 (t.drop 1)) (h : (effOk ops FI V [j] t && okOp ops C.N E t.i && isBlk H j && (opAt ops t.i).dst.isNone) = true := by kernel_rfl)
    (hv : argV ops t.i 1 E = some v := by kernel_rfl) (h3 : (match stT (opAt ops t.i), argV ops t.i 0 E with | some x, some (.pointer (some ⟨b, off, none⟩)) => some (b, (writeOf P x (cellsH H j) off v).map fun cs => Res.blk (blkOf H j) cs (match H[j]? with | some (.blk _ _ T) => T | _ => 0)) | _, _ => none) = some (blkOf H j, some r') := by kernel_rfl) : IG P ops Q C E M H FI V M1 t := by
  simp only [Bool.and_eq_true] at h
  obtain ⟨⟨⟨h4, h5⟩, h6⟩, h7⟩ := h
  obtain ⟨cs, T, hj⟩ := blk_at h6
  split at h3
  · rename_i x b off hx hp
    simp only [Option.some.injEq, Prod.mk.injEq] at h3
    obtain ⟨rfl, h3⟩ := h3
    obtain ⟨cs', hw, rfl⟩ := Option.map_eq_some_iff.1 h3
    have e2 : cellsH H j = cs := by unfold cellsH; rw [hj]
    rw [e2] at hw
    simp only [hj] at k
    unfold effOk at h4
    rw [Bool.and_eq_true, Bool.and_eq_true] at h4
    rw [PT.it_eq h4.1.1]
    refine ig_store (n := t.n) (T := T) h5 (Nat.eq_of_beq_eq_true h4.1.2) h4.2 hx hp hv h1 hj hw ?_
    rw [show (opAt ops (t.n / 4)).dst = none by simpa using h7]
    exact k
  · cases h3

/-! ### Rows -/
def rowIs (H : List Res) (j : Nat) (A : Option Addr) (c e sz n : Nat) (cs : List Value) : Prop := H[j]? = some (.row (.slice A n c) e sz n cs)
/-- A load out of a row's element. -/
theorem g_lr (d j off e c sz : Nat) (v : Value) {A : Option Addr} {g o n : Nat} {ix : Int} {cs W : List Value} (hA : A = some ⟨g, o, none⟩) (hb : 0 ≤ ix ∧ ix < (n : Int)) (hW : (cs.drop (ix.toNat * sz)).take sz = W) (k : IG P ops Q C (E.put d v) M H FI V M1 (t.drop 1))
    (h : (t.isIt && (Nat.beq (t.n % 4) 3 || (Nat.beq (t.n % 4) 1 && (match lk FI t.i with | some m => Nat.beq m j | none => false) && V.contains (2 * j))) && okOp ops C.N E t.i && dstIs (opAt ops t.i) d) = true := by kernel_rfl)
    (hj : H[j]? = some (.row (.slice A n c) e sz n cs) := by kernel_rfl) (h1 : (match ldT (opAt ops t.i) with | some x => readOf P x W off | none => none) = some v := by kernel_rfl) (h2 : argV ops t.i 0 E = some (.pointer (some ⟨g, o + ix.toNat * sz + off, none⟩)) := by kernel_rfl) : IG P ops Q C E M H FI V M1 t := by
  simp only [Bool.and_eq_true] at h
  obtain ⟨⟨⟨h4, h5⟩, h6⟩, h7⟩ := h
  cases ht : ldT (opAt ops t.i) with
  | none => rw [ht] at h1; cases h1
  | some tt =>
    rw [ht] at h1
    intro w1 bl a w hs hd
    rw [PT.it_eq h4]
    rw [Bool.or_eq_true, Bool.and_eq_true, Bool.and_eq_true] at h5
    have key : ∀ a', St C (putO E (opAt ops t.i).dst v) M H a' w → ((t.drop 1).pl FI bl).wp P ops Q w1 (Fo FI bl M1) a' w := fun a' hs' => by
      rw [dstIs_eq h7] at hs'
      exact k w1 bl a' w hs' hd
    rcases h5 with h5 | h5
    · rw [pl3 (Nat.eq_of_beq_eq_true h5)]
      exact st_loadR hs j hj hA hb h6 ht h2 hW h1 fun a' hs' => ⟨keep_same, key a' hs'⟩
    · rw [pl1 (Nat.eq_of_beq_eq_true h5.1.1)]
      have hl : lk FI (t.n / 4) = some j := by
        cases hl : lk FI t.i with
        | none => rw [hl] at h5; simp at h5
        | some m => rw [hl] at h5; simp only at h5; rw [← Nat.eq_of_beq_eq_true h5.1.2]
      rw [hl]
      obtain ⟨h8, h9'⟩ := hd.ok (2 * j) (by simpa using h5.2)
      have h9 := h9' (by omega)
      rw [show 2 * j / 2 = j by omega] at h8 h9
      have hfg : bl j = g := by
        have := footOf_row hj hA
        rw [this] at h8
        exact (Option.some.inj h8).symm
      simp only [Option.getD_some]
      rw [hfg] at h9 ⊢
      refine st_loadRD hs j hj hA hb h6 ht h2 ?_ h9 hW h1 key
      exact List.mem_map.2 ⟨(t.n / 4, j), lk_mem hl, by rw [hfg]⟩
theorem rowAd {K : Act → World → Prop} (j : Nat) {A : Option Addr} {c n e sz : Nat} {cs : List Value} (hn : 0 < n) (k : ∀ g o, A = some ⟨g, o, none⟩ → KG K C E M H) (hj : H[j]? = some (.row (.slice A n c) e sz n cs)) : KG K C E M H := by
  intro a w hs
  obtain ⟨g, o, hA⟩ := hs.rowAd j hj hn
  exact k g o hA a w hs
theorem rowAdI (j e sz : Nat) (A : Option Addr) (c : Nat) {n : Nat} (cs : List Value) (hn : 0 < n) (k : ∀ g o, A = some ⟨g, o, none⟩ → IG P ops Q C E M H FI V M1 t) (hj : H[j]? = some (.row (.slice A n c) e sz n cs) := by kernel_rfl) : IG P ops Q C E M H FI V M1 t := by
  intro w1 bl a w hs hd
  obtain ⟨g, o, hA⟩ := hs.rowAd j hj hn
  exact k g o hA w1 bl a w hs hd
/-- A slice of what nobody writes. -/
theorem g_sl (d : Nat) {α : Type} {kd : Kd α} {xs : List α} {A : Option Addr} {c : Nat} {l h : Int} (hsl : SlAt kd M A c xs) (hb : (0 ≤ l ∧ l ≤ h) ∧ h ≤ xs.length)
    (k : ∀ A' c', SlAt kd M A' c' ((xs.drop l.toNat).take (h.toNat - l.toNat)) → IG P ops Q C (E.put d (.slice A' ((xs.drop l.toNat).take (h.toNat - l.toNat)).length c')) M H FI V M1 (t.drop 1))
    (hh : (purOk ops t && dstIs (opAt ops t.i) d && okOp ops C.N E t.i) = true := by kernel_rfl) (h1 : (slTy (opAt ops t.i)).bind (slElem P) = some kd.sz := by kernel_rfl) (h2 : argV ops t.i 0 E = some (.slice A xs.length c) := by kernel_rfl) (h3 : optV E 0 (slLo (opAt ops t.i)) = some l := by kernel_rfl) (h4 : optV E xs.length (slHi (opAt ops t.i)) = some h := by kernel_rfl) : IG P ops Q C E M H FI V M1 t := by
  rw [Bool.and_eq_true] at hh
  obtain ⟨tt, ht, hsz⟩ := Option.bind_eq_some_iff.1 h1
  have hp := hh.1
  rw [Bool.and_eq_true] at hp
  unfold purOk at hp
  rw [Bool.and_eq_true, Bool.and_eq_true] at hp
  obtain ⟨⟨⟨h5, h6⟩, h7⟩, h8⟩ := hp
  rw [PT.it_eq h5]
  intro w1 bl a w hs hd
  have := x_slice (F := Fo FI bl M1) (w1 := w1) (p := (t.drop 1).pl FI bl) hs hh.2 ht hsz h2 hsl h3 h4 hb fun A' c' a' hsl' hs' => k A' c' hsl' w1 bl a' w (by rw [dstIs_eq h8] at hs'; exact hs') hd
  rcases c03 h6 with h9 | h9
  · rw [pl0 h9]; exact this
  · rw [pl3 h9]
    obtain ⟨v, hy, hp⟩ := this
    exact hy.wpOp (opAt_eq (Nat.le_of_ble_eq_true h7)) ⟨keep_same, hp⟩
/-- A slice of a row of one's own. -/
theorem g_slR (d j e : Nat) {α : Type} {kd : Kd α} {xs : List α} (A : Option Addr) (c : Nat) {l h : Int} (cs : List Value) (hb : (0 ≤ l ∧ l ≤ h) ∧ h ≤ xs.length) (hx : Elems kd M cs xs)
    (k : Elems kd M ((cs.drop (l.toNat * kd.sz)).take ((h.toNat - l.toNat) * kd.sz)) ((xs.drop l.toNat).take (h.toNat - l.toNat)) → IG P ops Q C (E.put d (.slice (slA A c l.toNat kd.sz) ((xs.drop l.toNat).take (h.toNat - l.toNat)).length (c - l.toNat))) M (H.set j (.row (.slice (slA A c l.toNat kd.sz) ((xs.drop l.toNat).take (h.toNat - l.toNat)).length (c - l.toNat)) e kd.sz ((xs.drop l.toNat).take (h.toNat - l.toNat)).length ((cs.drop (l.toNat * kd.sz)).take ((h.toNat - l.toNat) * kd.sz)))) [] [] M1 (t.drop 1))
    (hh : (purOk ops t && dstIs (opAt ops t.i) d && okOp ops C.N E t.i) = true := by kernel_rfl) (hj : H[j]? = some (.row (.slice A xs.length c) e kd.sz xs.length cs) := by kernel_rfl) (h1 : (slTy (opAt ops t.i)).bind (slElem P) = some kd.sz := by kernel_rfl) (h2 : argV ops t.i 0 E = some (.slice A xs.length c) := by kernel_rfl) (h3 : optV E 0 (slLo (opAt ops t.i)) = some l := by kernel_rfl) (h4 : optV E xs.length (slHi (opAt ops t.i)) = some h := by kernel_rfl) : IG P ops Q C E M H [] [] M1 t := by
  rw [Bool.and_eq_true] at hh
  obtain ⟨tt, ht, hsz⟩ := Option.bind_eq_some_iff.1 h1
  have hp := hh.1
  rw [Bool.and_eq_true] at hp
  unfold purOk at hp
  rw [Bool.and_eq_true, Bool.and_eq_true] at hp
  obtain ⟨⟨⟨h5, h6⟩, h7⟩, h8⟩ := hp
  rw [PT.it_eq h5]
  intro w1 bl a w hs hd
  have := x_sliceRL (F := Fo [] bl M1) (w1 := w1) (p := (t.drop 1).pl [] bl) hs j hj hh.2 ht hsz h2 h3 h4 hb fun a' hs' => k (elems_slice hx hb) w1 bl a' w (by rw [dstIs_eq h8] at hs'; exact hs') ⟨hd.rd, fun _ h => (by cases h)⟩
  rcases c03 h6 with h9 | h9
  · rw [pl0 h9]; exact this
  · rw [pl3 h9]
    obtain ⟨v, hy, hp⟩ := this
    exact hy.wpOp (opAt_eq (Nat.le_of_ble_eq_true h7)) ⟨keep_same, hp⟩
def apB (P : Program) (o : Oper) : Option (Nat × Nat × Nat) := match apT o with | some t => (elemInfo P t).map fun x => (x.1, x.2.1, x.2.2.1) | none => none
theorem apB_eq {o : Oper} {e sz by_ : Nat} (h : apB P o = some (e, sz, by_)) : ∃ t z, apT o = some t ∧ elemInfo P t = some (e, sz, by_, z) := by
  unfold apB at h
  split at h
  · rename_i t ht
    obtain ⟨⟨e', sz', b', z⟩, hx, hy⟩ := Option.map_eq_some_iff.1 h
    simp only [Prod.mk.injEq] at hy
    obtain ⟨rfl, rfl, rfl⟩ := hy
    exact ⟨t, z, ht, hx⟩
  · cases h
theorem app_core (d j e by_ : Nat) {α : Type} {kd : Kd α} {xs ys : List α} {A : Option Addr} {c : Nat} {cs : List Value} {x : Value} (hx : Elems kd M cs xs) (hb : (xs.length + ys.length) * by_ ≤ 140737488355328 ∧ xs.length + ys.length ≤ 140737488355328)
    (hsrc : ∀ a w, St C E M H a w → ∃ news, Src w x ys.length news kd.sz ∧ Elems kd M news ys)
    (k : ∀ A' c' cs', Elems kd M cs' (xs ++ ys) → IG P ops Q C (E.put d (.slice A' (xs ++ ys).length c')) M (H.set j (.row (.slice A' (xs ++ ys).length c') e kd.sz (xs ++ ys).length cs')) FI (rmV V [j]) M1 (t.drop 1))
    (h : (effOk ops FI V [j] t && okOp ops C.N E t.i && dstIs (opAt ops t.i) d && apOk (opAt ops t.i) && Nat.ble 1 kd.sz) = true) (hi : apB P (opAt ops t.i) = some (e, kd.sz, by_)) (hj : H[j]? = some (.row (.slice A xs.length c) e kd.sz xs.length cs))
    (hv : argV ops t.i 0 E = some (.slice A xs.length c)) (hw : argV ops t.i 1 E = some x) : IG P ops Q C E M H FI V M1 t := by
  simp only [Bool.and_eq_true] at h
  obtain ⟨⟨⟨⟨h1, h2⟩, h3⟩, h4⟩, h5⟩ := h
  obtain ⟨tt, z, ht, he⟩ := apB_eq hi
  refine ig_eff (X := { y : Option Addr × Nat × List Value // Elems kd M y.2.2 (xs ++ ys) }) (E' := fun y => E.put d (.slice y.1.1 (xs ++ ys).length y.1.2.1)) (M' := fun _ => M) (H' := fun y => H.set j (.row (.slice y.1.1 (xs ++ ys).length y.1.2.1) e kd.sz (xs ++ ys).length y.1.2.2)) [j] h1 (fun a w K hs kk => ?_) (fun y => k _ _ _ y.2)
  obtain ⟨news, hs1, hs2⟩ := hsrc a w hs
  refine x_append hs j h2 ht h4 he h5 hv hw hj hs1 hb fun v' a' w' hs' hk => ?_
  have hjl := (List.getElem?_eq_some_iff.1 hj).1
  obtain ⟨A', c', rfl, -⟩ := hs'.rowSl j (v := v') (e := e) (sz := kd.sz) (n := (xs ++ ys).length) (cs := cs ++ news) (List.getElem?_set_self hjl)
  refine kk ⟨(A', c', cs ++ news), hx.append hs2⟩ a' w' (by rw [dstIs_eq h3] at hs'; exact hs') ⟨Mem.le_refl _, fun b hb' => ?_, fun m b hm hf => ⟨foot_set (ne_of_nc hm) hf, ?_⟩⟩
  · obtain ⟨cc, hc⟩ := Option.isSome_iff_exists.1 hb'
    refine hk b (hs.mlt hc) fun e' => ?_
    refine hs.mfoot hb' j ?_
    unfold footOf; rw [hj]; exact e'
  · refine hk b (hs.flt m hf) fun e' => ?_
    obtain ⟨r1, h6, h7⟩ := foot_at hf
    exact hs.wf.ne h6 hj (ne_of_nc hm) h7 e'
/-- append of what nobody writes. -/
theorem g_apD (d j e by_ : Nat) {α : Type} {kd : Kd α} {xs ys : List α} (A : Option Addr) (c : Nat) {B : Option Addr} {cb : Nat} {cs : List Value} (hx : Elems kd M cs xs) (hy : SlAt kd M B cb ys) (hb : (xs.length + ys.length) * by_ ≤ 140737488355328 ∧ xs.length + ys.length ≤ 140737488355328)
    (k : ∀ A' c' cs', Elems kd M cs' (xs ++ ys) → IG P ops Q C (E.put d (.slice A' (xs ++ ys).length c')) M (H.set j (.row (.slice A' (xs ++ ys).length c') e kd.sz (xs ++ ys).length cs')) FI (rmV V [j]) M1 (t.drop 1))
    (h : (effOk ops FI V [j] t && okOp ops C.N E t.i && dstIs (opAt ops t.i) d && apOk (opAt ops t.i) && Nat.ble 1 kd.sz) = true := by kernel_rfl) (hi : apB P (opAt ops t.i) = some (e, kd.sz, by_) := by kernel_rfl) (hj : H[j]? = some (.row (.slice A xs.length c) e kd.sz xs.length cs) := by kernel_rfl)
    (hv : argV ops t.i 0 E = some (.slice A xs.length c) := by kernel_rfl) (hw : argV ops t.i 1 E = some (.slice B ys.length cb) := by kernel_rfl) : IG P ops Q C E M H FI V M1 t :=
  app_core d j e by_ hx hb (fun _ _ hs => src_data hs hy) k h hi hj hv hw
/-- append of another row of one's own. -/
theorem g_apR (d j e by_ j2 : Nat) {α : Type} {kd : Kd α} {xs ys : List α} (A : Option Addr) (c : Nat) (B : Option Addr) (cb : Nat) {cs ds : List Value} (hx : Elems kd M cs xs) (hy : Elems kd M ds ys) (hb : (xs.length + ys.length) * by_ ≤ 140737488355328 ∧ xs.length + ys.length ≤ 140737488355328)
    (k : ∀ A' c' cs', Elems kd M cs' (xs ++ ys) → IG P ops Q C (E.put d (.slice A' (xs ++ ys).length c')) M (H.set j (.row (.slice A' (xs ++ ys).length c') e kd.sz (xs ++ ys).length cs')) FI (rmV V [j]) M1 (t.drop 1))
    (h : (effOk ops FI V [j] t && okOp ops C.N E t.i && dstIs (opAt ops t.i) d && apOk (opAt ops t.i) && Nat.ble 1 kd.sz) = true := by kernel_rfl) (hi : apB P (opAt ops t.i) = some (e, kd.sz, by_) := by kernel_rfl) (hj : H[j]? = some (.row (.slice A xs.length c) e kd.sz xs.length cs) := by kernel_rfl)
    (hv : argV ops t.i 0 E = some (.slice A xs.length c) := by kernel_rfl) (hj2 : H[j2]? = some (.row (.slice B ys.length cb) e kd.sz ys.length ds) := by kernel_rfl) (hw : argV ops t.i 1 E = some (.slice B ys.length cb) := by kernel_rfl) : IG P ops Q C E M H FI V M1 t :=
  app_core d j e by_ hx hb (fun _ _ hs => ⟨ds, x_srcRow hs j2 hj2 hy, hy⟩) k h hi hj hv hw
theorem g_apN (d j e by_ : Nat) {α : Type} {kd : Kd α} {xs : List α} (A : Option Addr) (c : Nat) {cs : List Value} (hx : Elems kd M cs xs) (hb : (xs.length + ([] : List α).length) * by_ ≤ 140737488355328 ∧ xs.length + ([] : List α).length ≤ 140737488355328)
    (k : ∀ A' c' cs', Elems kd M cs' (xs ++ []) → IG P ops Q C (E.put d (.slice A' (xs ++ []).length c')) M (H.set j (.row (.slice A' (xs ++ []).length c') e kd.sz (xs ++ []).length cs')) FI (rmV V [j]) M1 (t.drop 1))
    (h : (effOk ops FI V [j] t && okOp ops C.N E t.i && dstIs (opAt ops t.i) d && apOk (opAt ops t.i) && Nat.ble 1 kd.sz) = true := by kernel_rfl) (hi : apB P (opAt ops t.i) = some (e, kd.sz, by_) := by kernel_rfl) (hj : H[j]? = some (.row (.slice A xs.length c) e kd.sz xs.length cs) := by kernel_rfl)
    (hv : argV ops t.i 0 E = some (.slice A xs.length c) := by kernel_rfl) (hw : argV ops t.i 1 E = some (.slice none 0 0) := by kernel_rfl) : IG P ops Q C E M H FI V M1 t :=
  app_core d j e by_ hx hb (fun _ _ _ => ⟨[], x_srcNil (α := α) kd.sz, rfl⟩) k h hi hj hv hw
/-- A row of zeros. -/
theorem g_mk (d e : Nat) {α : Type} {kd : Kd α} (x0 : α) {m : Int} (z : List Value) {by_ : Nat} (hz : kd.rep M z x0) (hm : 0 < m ∧ m.toNat * by_ ≤ 140737488355328 ∧ m.toNat ≤ 140737488355328)
    (k : ∀ A c cs', Elems kd M cs' (List.replicate m.toNat x0) → IG P ops Q C (E.put d (.slice A (List.replicate m.toNat x0).length c)) M (H ++ [.row (.slice A (List.replicate m.toNat x0).length c) e kd.sz (List.replicate m.toNat x0).length cs']) FI (rmV V []) M1 (t.drop 1))
    (h : (effOk ops FI V [] t && okOp ops C.N E t.i && dstIs (opAt ops t.i) d && apOk (opAt ops t.i) && Nat.ble 1 kd.sz) = true := by kernel_rfl) (hi : (azT P (opAt ops t.i)).bind (elemInfo P) = some (e, kd.sz, by_, z) := by kernel_rfl)
    (hv : argV ops t.i 0 E = some (.slice none 0 0) := by kernel_rfl) (hw : intOf? (argV ops t.i 1 E) = some m := by kernel_rfl) : IG P ops Q C E M H FI V M1 t := by
  simp only [Bool.and_eq_true] at h
  obtain ⟨⟨⟨⟨h1, h2⟩, h3⟩, h4⟩, h5⟩ := h
  obtain ⟨tt, ht, he⟩ := Option.bind_eq_some_iff.1 hi
  obtain ⟨kk', hx⟩ := intOf_eq hw
  refine ig_eff (X := { y : Option Addr × Nat × List Value // Elems kd M y.2.2 (List.replicate m.toNat x0) }) (E' := fun y => E.put d (.slice y.1.1 (List.replicate m.toNat x0).length y.1.2.1)) (M' := fun _ => M) (H' := fun y => H ++ [.row (.slice y.1.1 (List.replicate m.toNat x0).length y.1.2.1) e kd.sz (List.replicate m.toNat x0).length y.1.2.2]) [] h1 (fun a w K hs kk => ?_) (fun y => k _ _ _ y.2)
  refine x_makeZ x0 hs h2 ht h4 he h5 hv hx hm.1 hm.2 fun v' a' w' hs' hk => ?_
  obtain ⟨A', c', rfl, -⟩ := hs'.rowSl 0 rfl
  refine kk ⟨(A', c', _), elems_rep hz _⟩ a' w' ?_ (keeps_push hs hk)
  rw [dstIs_eq h3] at hs'
  exact St.push (hs'.drop (List.sublist_cons_self _ _)) hs'

/-! ### Numbers, texts, arrays -/
theorem g_ee (d D T : Nat) (op : BinOp) (e c : Int) (r : Bool) (hr : (op = .eql ∧ r = (e == c)) ∨ (op = .neq ∧ r = (e != c))) (k : IG P ops Q C (E.put d (.bool r)) M H FI V M1 (t.drop 1))
    (h : (purOk ops t && dstIs (opAt ops t.i) d && (okOp ops C.N E t.i && isIfaceT P T && cmpable P D && isIntT P D && !(c == 0))) = true := by kernel_rfl) (h1 : cmpT (opAt ops t.i) = some (op, T) := by kernel_rfl) (h2 : argV ops t.i 0 E = some (errV D e) := by kernel_rfl) (h3 : argV ops t.i 1 E = some (.iface D (.int .i64 c)) := by kernel_rfl) : IG P ops Q C E M H FI V M1 t := by
  rw [Bool.and_eq_true] at h
  obtain ⟨hp, h⟩ := h
  simp only [Bool.and_eq_true, Bool.not_eq_true'] at h
  obtain ⟨⟨⟨⟨h4, h5⟩, h6⟩, h7⟩, h8⟩ := h
  exact gp d hp (fun a w w1 F p hs kk => st_erreq hs h4 h1 h5 h6 h7 h2 h3 h8 hr kk) k
theorem g_quo (d : Nat) {kd : IntKind} {x y : Int} (hz : (y != 0) = true) (k : IG P ops Q C (E.put d (.int kd (kd.wrap (Int.tdiv x y)))) M H FI V M1 (t.drop 1))
    (h1 : argV ops t.i 0 E = some (.int kd x)) (h2 : argV ops t.i 1 E = some (.int kd y)) (h : (purOk ops t && dstIs (opAt ops t.i) d && okOp ops C.N E t.i) = true := by kernel_rfl) (h3 : binT (opAt ops t.i) = some .quo := by kernel_rfl) : IG P ops Q C E M H FI V M1 t := by
  rw [Bool.and_eq_true] at h
  exact gp d h.1 (fun a w w1 F p hs kk => x_quo hs h.2 h3 h1 h2 hz kk) k
theorem g_rem (d : Nat) {kd : IntKind} {x y : Int} (hz : (y != 0) = true) (k : IG P ops Q C (E.put d (.int kd (Int.tmod x y))) M H FI V M1 (t.drop 1))
    (h1 : argV ops t.i 0 E = some (.int kd x)) (h2 : argV ops t.i 1 E = some (.int kd y)) (h : (purOk ops t && dstIs (opAt ops t.i) d && okOp ops C.N E t.i) = true := by kernel_rfl) (h3 : binT (opAt ops t.i) = some .rem := by kernel_rfl) : IG P ops Q C E M H FI V M1 t := by
  rw [Bool.and_eq_true] at h
  exact gp d h.1 (fun a w w1 F p hs kk => x_rem hs h.2 h3 h1 h2 hz kk) k
theorem g_shl (d : Nat) {kd k2 : IntKind} {x y : Int} (hz : decide ((0 : Int) ≤ y) = true) (k : IG P ops Q C (E.put d (.int kd (shlI kd x y))) M H FI V M1 (t.drop 1))
    (h1 : argV ops t.i 0 E = some (.int kd x)) (h2 : argV ops t.i 1 E = some (.int k2 y)) (h : (purOk ops t && dstIs (opAt ops t.i) d && okOp ops C.N E t.i) = true := by kernel_rfl) (h3 : binT (opAt ops t.i) = some .shl := by kernel_rfl) : IG P ops Q C E M H FI V M1 t := by
  rw [Bool.and_eq_true] at h
  exact gp d h.1 (fun a w w1 F p hs kk => x_shl hs h.2 h3 h1 h2 hz kk) k
theorem g_shr (d : Nat) {kd k2 : IntKind} {x y : Int} (hz : decide ((0 : Int) ≤ y) = true) (k : IG P ops Q C (E.put d (.int kd (shrI kd x y))) M H FI V M1 (t.drop 1))
    (h1 : argV ops t.i 0 E = some (.int kd x)) (h2 : argV ops t.i 1 E = some (.int k2 y)) (h : (purOk ops t && dstIs (opAt ops t.i) d && okOp ops C.N E t.i) = true := by kernel_rfl) (h3 : binT (opAt ops t.i) = some .shr := by kernel_rfl) : IG P ops Q C E M H FI V M1 t := by
  rw [Bool.and_eq_true] at h
  exact gp d h.1 (fun a w w1 F p hs kk => x_shr hs h.2 h3 h1 h2 hz kk) k
theorem g_ae (d n : Nat) (op : BinOp) (kd : IntKind) (xs ys : List Int) (r : Bool) (hr : (op = .eql ∧ r = arEq n xs ys) ∨ (op = .neq ∧ r = !arEq n xs ys)) (k : IG P ops Q C (E.put d (.bool r)) M H FI V M1 (t.drop 1))
    (h : (purOk ops t && dstIs (opAt ops t.i) d && okOp ops C.N E t.i) = true := by kernel_rfl) (h1 : arEqT P (opAt ops t.i) = some (op, n) := by kernel_rfl) (h2 : argV ops t.i 0 E = some (.agg (arrL n kd xs).toArray) := by kernel_rfl) (h3 : argV ops t.i 1 E = some (.agg (arrL n kd ys).toArray) := by kernel_rfl) : IG P ops Q C E M H FI V M1 t := by
  rw [Bool.and_eq_true] at h
  exact gp d h.1 (fun a w w1 F p hs kk => st_arEq hs hr kk h.2 h1 h2 h3 rfl rfl) k
/-- Bytes as a text. -/
theorem g_cv (d : Nat) {A : Option Addr} {c : Nat} {xs : List Int} (hsl : SlAt (kint .u8) M A c xs) (k : IG P ops Q C (E.put d (.string (strOfNums xs))) M H FI (rmV V []) M1 (t.drop 1))
    (h : (effOk ops FI V [] t && okOp ops C.N E t.i && dstIs (opAt ops t.i) d && cvOk P (opAt ops t.i)) = true := by kernel_rfl) (h1 : argV ops t.i 0 E = some (.slice A xs.length c) := by kernel_rfl) : IG P ops Q C E M H FI V M1 t := by
  simp only [Bool.and_eq_true] at h
  obtain ⟨⟨⟨h2, h3⟩, h4⟩, h5⟩ := h
  refine ig_eff (X := Unit) (E' := fun _ => E.put d (.string (strOfNums xs))) (M' := fun _ => M) (H' := fun _ => H) [] h2 (fun a w K hs kk => st_conv hs h3 h5 h1 hsl fun a' hs' => kk () a' w ?_ keeps_same) (fun _ => k)
  rw [dstIs_eq h4] at hs'
  exact hs'
theorem g_cvD (d : Nat) {A : Option Addr} {c : Nat} {xs : List Int} (hm : M1.le M) (hsl : SlAt (kint .u8) M1 A c xs) (k : IG P ops Q C (E.put d (.string (strOfNums xs))) M H FI V M1 (t.drop 1))
    (h : (t.isIt && Nat.beq (t.n % 4) 2 && okOp ops C.N E t.i && dstIs (opAt ops t.i) d && cvOk P (opAt ops t.i)) = true := by kernel_rfl) (h1 : argV ops t.i 0 E = some (.slice A xs.length c) := by kernel_rfl) : IG P ops Q C E M H FI V M1 t := by
  simp only [Bool.and_eq_true] at h
  obtain ⟨⟨⟨⟨h2, h3⟩, h4⟩, h5⟩, h6⟩ := h
  intro w1 bl a w hs hd
  rw [PT.it_eq h2, pl2 (Nat.eq_of_beq_eq_true h3)]
  refine st_convD hs h4 h6 h1 hsl hd.rd (fun b c hb => ?_) fun a' hs' => k w1 bl a' w ?_ hd
  · obtain ⟨T, fz, hh⟩ := hs.wf.models b c (hm b c hb)
    exact ⟨T, fz, ((hd.rd b (by rw [hb]; rfl)).1).symm.trans hh⟩
  · rw [dstIs_eq h5] at hs'
    exact hs'
/-- Bytes that were written as a text. -/
theorem g_cvB (d j e : Nat) {xs : List Int} (A : Option Addr) (c : Nat) {g o : Nat} {cs : List Value} (hA : A = some ⟨g, o, none⟩) (hx : Elems (kint .u8) M cs xs) (k : ∀ M', M.le M' → SlAt (kint .u8) M' A c xs → IG P ops Q C (E.put d (.slice A xs.length c)) M' (H.set j gone) FI (rmV V [j]) M1 (t.drop 1))
    (h : (effOk ops FI V [j] t && okOp ops C.N E t.i && dstIs (opAt ops t.i) d && cvBOk P (opAt ops t.i)) = true := by kernel_rfl) (hj : H[j]? = some (.row (.slice A xs.length c) e 1 xs.length cs) := by kernel_rfl) (h1 : argV ops t.i 0 E = some (.slice A xs.length c) := by kernel_rfl) : IG P ops Q C E M H FI V M1 t := by
  simp only [Bool.and_eq_true] at h
  obtain ⟨⟨⟨h2, h3⟩, h4⟩, h5⟩ := h
  refine ig_eff (X := { M' : Mem // M.le M' ∧ SlAt (kint .u8) M' A c xs }) (E' := fun _ => E.put d (.slice A xs.length c)) (M' := fun x => x.1) (H' := fun _ => H.set j gone) [j] h2 (fun a w K hs kk => ?_) (fun x => k x.1 x.2.1 x.2.2)
  refine st_convB hs j hj hA hx (fun M' a' w' hle hsl hs' hk => ?_) h3 h5 h1
  have hf : footOf H j = some g := footOf_row hj hA
  have hkp := keeps_set (r' := gone) hs hf hk
  refine kk ⟨M', hle, hsl⟩ a' w' ?_ ⟨hle, hkp.mem, hkp.foot⟩
  rw [dstIs_eq h4] at hs'
  exact (hs'.nilRow 0 0).perm (set_perm (List.getElem?_eq_some_iff.1 hj).1).symm
end
end Go.Fx
