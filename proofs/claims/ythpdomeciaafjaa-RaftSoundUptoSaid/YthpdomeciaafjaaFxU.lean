/- Base for printed walks, part U: single operations, in long steps' form. Own work. -/
import Derived.Test.YthpdomeciaafjaaFxT
namespace Go.Fx

def effOk (ops : Array Oper) (FI : List (Nat × Nat)) (V T : List Nat) (t : PT) : Bool := t.isIt && Nat.beq (t.n % 4) 3 && keepOk ops FI V T t.i
def purOk (ops : Array Oper) (t : PT) : Bool := t.isIt && (match t.n % 4 with | 0 => true | 3 => true | _ => false) && Nat.blt t.i ops.size
def dstIs (o : Oper) (d : Nat) : Bool := match o.dst with | some x => Nat.beq x d | none => false
theorem dstIs_eq {o : Oper} {d : Nat} (h : dstIs o d = true) : o.dst = some d := by
  unfold dstIs at h
  split at h
  · rename_i x hx; rw [hx, Nat.eq_of_beq_eq_true h]
  · cases h
def lkR : List (Nat × Res) → Nat → Option Res
  | [], _ => none
  | (k, r) :: l, i => bif Nat.beq k i then some r else lkR l i
def gone : Res := .row (.slice none 0 0) 0 0 0 []
/-- What may be written behind a call: what the call had in its places, what is new at the end. -/
def cHu (H : List Res) (l : List Nat) (H' : List Res) : List Res := ((List.range H.length).map fun i => (lkR (l.zip H') i).getD (H.getD i gone)) ++ H'.drop l.length
def padR (l : List Nat) (H' : List Res) : List Res := H' ++ List.replicate (l.length - H'.length) gone
def cH (H : List Res) (l : List Nat) (H' : List Res) : List Res := cHu H l (padR l H')
theorem padR_le (l : List Nat) (H' : List Res) : l.length ≤ (padR l H').length := by unfold padR; simp; omega
theorem set_perm {x : Res} : ∀ {H : List Res} {j : Nat}, j < H.length → (H.set j x).Perm (x :: H.eraseIdx j)
  | [], j, h => by simp at h
  | y :: H, 0, _ => by simp
  | y :: H, j + 1, h => by
    simp only [List.set_cons_succ, List.eraseIdx_cons_succ]
    exact ((set_perm (by simpa using h)).cons y).trans (List.Perm.swap x y _)
theorem lkR_none : ∀ {l : List Nat} {H' : List Res} {i : Nat}, i ∉ l → lkR (l.zip H') i = none
  | [], _, _, _ => rfl
  | _ :: _, [], _, _ => rfl
  | k :: l, r :: H', i, h => by
    simp only [List.mem_cons, not_or] at h
    have : Nat.beq k i = false := by
      cases hb : Nat.beq k i with
      | true => exact absurd (Nat.eq_of_beq_eq_true hb).symm h.1
      | false => rfl
    simp [lkR, this, lkR_none h.2]
theorem lkR_map {H : List Res} : ∀ {l : List Nat} {H' : List Res}, l.Nodup → l.length ≤ H'.length → l.map (fun i => (lkR (l.zip H') i).getD (H.getD i gone)) = H'.take l.length
  | [], H', _, _ => by simp
  | k :: l, [], _, h => by simp at h
  | k :: l, r :: H', hn, h => by
    have hn' := List.nodup_cons.1 hn
    have ih := lkR_map (H := H) (l := l) (H' := H') hn'.2 (by simpa using h)
    simp only [List.map_cons, List.zip_cons_cons, lkR, Nat.beq_refl, cond_true, Option.getD_some, List.length_cons, List.take_succ_cons]
    congr 1
    rw [← ih]
    refine List.map_congr_left fun i hi => ?_
    have : Nat.beq k i = false := by
      cases hb : Nat.beq k i with
      | true => exact absurd ((Nat.eq_of_beq_eq_true hb) ▸ hi) hn'.1
      | false => rfl
    simp [this]
theorem sel_map {H : List Res} : ∀ {l : List Nat}, (∀ i ∈ l, i < H.length) → Go.Fx.sel H l = l.map fun i => H.getD i gone
  | [], _ => rfl
  | k :: l, h => by
    have hk := h k (List.mem_cons_self ..)
    have ih := sel_map (l := l) fun i hi => h i (List.mem_cons_of_mem _ hi)
    simp only [Go.Fx.sel] at ih ⊢
    simp only [List.filterMap_cons, List.getElem?_eq_getElem hk, List.map_cons, ih]
    congr 1
    simp [List.getD, List.getElem?_eq_getElem hk]
theorem cH_perm {H H' : List Res} {l : List Nat} (hp : (rst H.length l).isPerm (List.range H.length) = true) (hl : l.length ≤ H'.length) :
    (H' ++ Go.Fx.sel H ((List.range H.length).filter fun i => !l.contains i)).Perm (cHu H l H') := by
  have hp' := List.isPerm_iff.1 hp
  have hnd : (rst H.length l).Nodup := hp'.symm.nodup List.nodup_range
  unfold rst at hnd hp'
  have hn1 := (List.nodup_append.1 hnd).1
  unfold cHu
  have h1 := (hp'.map fun i => (lkR (l.zip H') i).getD (H.getD i gone))
  rw [List.map_append, lkR_map hn1 hl] at h1
  have h2 : ((List.range H.length).filter fun i => !l.contains i).map (fun i => (lkR (l.zip H') i).getD (H.getD i gone)) = Go.Fx.sel H ((List.range H.length).filter fun i => !l.contains i) := by
    rw [sel_map]
    · refine List.map_congr_left fun i hi => ?_
      have : i ∉ l := by simpa using (List.mem_filter.1 hi).2
      rw [lkR_none this]; rfl
    · intro i hi; simpa using (List.mem_filter.1 hi).1
  rw [h2] at h1
  have h3 : (H' ++ Go.Fx.sel H ((List.range H.length).filter fun i => !l.contains i)).Perm ((H'.take l.length ++ Go.Fx.sel H ((List.range H.length).filter fun i => !l.contains i)) ++ H'.drop l.length) := by
    conv => lhs; rw [← List.take_append_drop l.length H']
    rw [List.append_assoc, List.append_assoc]
    exact List.Perm.append_left _ List.perm_append_comm
  exact h3.trans (h1.append_right _)
theorem foot_cH {H H' : List Res} {l : List Nat} {j b : Nat} (hj : l.contains j = false) (hf : footOf H j = some b) : footOf (cH H l H') j = some b := by
  obtain ⟨r, h1, h2⟩ := foot_at hf
  have hlt := (List.getElem?_eq_some_iff.1 h1).1
  unfold footOf cH cHu
  have hj' : j ∉ l := by simpa using hj
  rw [List.getElem?_append_left (by simpa using hlt), List.getElem?_map, List.getElem?_range hlt]
  simp [lkR_none hj', List.getD, h1, h2]
theorem foot_push {H : List Res} {r : Res} {j b : Nat} (hf : footOf H j = some b) : footOf (H ++ [r]) j = some b := by
  obtain ⟨r', h1, h2⟩ := foot_at hf
  unfold footOf
  rw [List.getElem?_append_left (List.getElem?_eq_some_iff.1 h1).1, h1]
  exact h2
theorem foot_set {H : List Res} {r : Res} {j m b : Nat} (hne : m ≠ j) (hf : footOf H m = some b) : footOf (H.set j r) m = some b := by
  unfold footOf at hf ⊢
  rw [List.getElem?_set_ne (Ne.symm hne)]
  exact hf
theorem ne_of_nc {m j : Nat} (h : [j].contains m = false) : m ≠ j := fun e => by subst e; simp at h

section
variable {P : Program} {C : Ctx} {E : Env} {M M1 : Mem} {H : List Res} {a : Act} {w : World}
variable {ops : Array Oper} {Q : Post} {FI : List (Nat × Nat)} {V : List Nat} {t : PT}

theorem St.push (_ : St C E M H a w) {r : Res} (h : St C E M (r :: H) a w) : St C E M (H ++ [r]) a w := h.perm (List.perm_append_singleton r H).symm
theorem keeps_push {r : Res} {w' : World} (hs : St C E M H a w) (hk : ∀ x, x < w.heap.size → w'.heap[x]? = w.heap[x]?) : Keeps M H [] w M (H ++ [r]) w' :=
  ⟨Mem.le_refl _, fun b hb => by
    obtain ⟨c, hc⟩ := Option.isSome_iff_exists.1 hb
    exact hk b (hs.mlt hc), fun j b _ hf => ⟨foot_push hf, hk b (hs.flt j hf)⟩⟩
/-- From a law of an operation that has an effect. -/
theorem ig_eff {X : Type} {E' : X → Env} {M' : X → Mem} {H' : X → List Res} (T : List Nat) (he : effOk ops FI V T t = true)
    (h : ∀ a w (K : Act → World → Prop), St C E M H a w → (∀ x a' w', St C (E' x) (M' x) (H' x) a' w' → Keeps M H T w (M' x) (H' x) w' → K a' w') → wpOp P ops Q t.i K a w)
    (k : ∀ x, IG P ops Q C (E' x) (M' x) (H' x) FI (rmV V T) M1 (t.drop 1)) : IG P ops Q C E M H FI V M1 t := by
  unfold effOk at he
  rw [Bool.and_eq_true, Bool.and_eq_true] at he
  obtain ⟨⟨h1, h2⟩, h3⟩ := he
  intro w1 bl a w hs hd
  rw [PT.it_eq h1, pl3 (Nat.eq_of_beq_eq_true h2)]
  refine h a w _ hs fun x a' w' hs' hk => ?_
  have := dr_step (ops := ops) (FI := FI) hd hk h3
  exact ⟨this.1, k x w1 bl a' w' hs' this.2⟩
/-- From a law of an operation that only reckons. -/
theorem gp (d : Nat) {v : Value} (hp : (purOk ops t && dstIs (opAt ops t.i) d) = true)
    (h : ∀ a w w1 F p, St C E M H a w → (∀ a', St C (putO E (opAt ops t.i).dst v) M H a' w → p.wp P ops Q w1 F a' w) → (Plan.pure t.i p).wp P ops Q w1 F a w) (k : IG P ops Q C (E.put d v) M H FI V M1 (t.drop 1)) : IG P ops Q C E M H FI V M1 t := by
  rw [Bool.and_eq_true] at hp
  unfold purOk at hp
  rw [Bool.and_eq_true, Bool.and_eq_true] at hp
  obtain ⟨⟨⟨h1, h2⟩, h3⟩, h4⟩ := hp
  rw [PT.it_eq h1]
  refine ig_pure (n := t.n) (c03 h2) h3 h ?_
  rw [dstIs_eq h4]
  exact k

/-- Two effects in either order. -/
theorem g2 (h1 : IG P ops Q C E M H FI V M1 t.fst) (h2 : IG P ops Q C E M H FI V M1 t.snd) (h : t.isTwo = true := by kernel_rfl) : IG P ops Q C E M H FI V M1 t := by
  cases t with
  | two i p j q =>
    intro w1 bl a w hs hd
    have k1 := h1 w1 bl a w hs hd
    have k2 := h2 w1 bl a w hs hd
    simp only [PT.fst, PT.snd] at k1 k2
    rw [pl3 (by omega), show (4 * i + 3) / 4 = i by omega] at k1
    rw [pl3 (by omega), show (4 * j + 3) / 4 = j by omega] at k2
    exact ⟨k1, k2⟩
  | _ => cases h

/-! ### New memory -/
theorem g_al (d tt : Nat) (cs : List Value) (k : ∀ b, IG P ops Q C (E.put d (.pointer (some ⟨b, 0, none⟩))) M (H ++ [.blk b cs tt]) FI (rmV V []) M1 (t.drop 1))
    (h : (effOk ops FI V [] t && okOp ops C.N E t.i && dstIs (opAt ops t.i) d) = true := by kernel_rfl) (h1 : alT (opAt ops t.i) = some tt := by kernel_rfl) (h2 : zeroOf P tt = some cs := by kernel_rfl) : IG P ops Q C E M H FI V M1 t := by
  rw [Bool.and_eq_true, Bool.and_eq_true] at h
  refine ig_eff [] h.1.1 (fun a w K hs kk => st_alloc hs h.1.2 h1 h2 fun b a' w' hs' hk => kk b a' w' ?_ (keeps_push hs hk)) k
  rw [dstIs_eq h.2] at hs'
  exact St.push (hs'.drop (List.sublist_cons_self _ _)) hs'
theorem g_bx (d tt : Nat) (v : Value) (k : ∀ b, IG P ops Q C (E.put d (.pointer (some ⟨b, 0, none⟩))) M (H ++ [.blk b v.cells.toList tt]) FI (rmV V []) M1 (t.drop 1))
    (h : (effOk ops FI V [] t && okOp ops C.N E t.i && dstIs (opAt ops t.i) d) = true := by kernel_rfl) (h1 : boxT (opAt ops t.i) = some tt := by kernel_rfl) (h2 : argV ops t.i 0 E = some v := by kernel_rfl) : IG P ops Q C E M H FI V M1 t := by
  rw [Bool.and_eq_true, Bool.and_eq_true] at h
  refine ig_eff [] h.1.1 (fun a w K hs kk => st_box hs h.1.2 h1 h2 rfl fun b a' w' hs' hk => kk b a' w' ?_ (keeps_push hs hk)) k
  rw [dstIs_eq h.2] at hs'
  exact St.push (hs'.drop (List.sublist_cons_self _ _)) hs'
theorem g_bs (d e sz n : Nat) (cs : List Value) (k : ∀ b, IG P ops Q C (E.put d (.slice (some ⟨b, 0, none⟩) n n)) M (H ++ [.row (.slice (some ⟨b, 0, none⟩) n n) e sz n cs]) FI (rmV V []) M1 (t.drop 1))
    (h : (effOk ops FI V [] t && okOp ops C.N E t.i && dstIs (opAt ops t.i) d) = true := by kernel_rfl) (h1 : builtS P (opAt ops t.i) E = some (e, sz, n, cs) := by kernel_rfl) (h2 : cs.length = n * sz := by kernel_rfl) : IG P ops Q C E M H FI V M1 t := by
  rw [Bool.and_eq_true, Bool.and_eq_true] at h
  refine ig_eff [] h.1.1 (fun a w K hs kk => st_buildS hs h.1.2 h1 h2 fun v a' w' hv hs' hk => ?_) k
  obtain ⟨b, rfl⟩ := hv
  refine kk b a' w' ?_ (keeps_push hs hk)
  rw [dstIs_eq h.2] at hs'
  exact St.push (hs'.drop (List.sublist_cons_self _ _)) hs'
/-- A nil slice becomes a row. -/
theorem nlI (e sz : Nat) (k : IG P ops Q C E M (H ++ [.row (.slice none 0 0) e sz 0 []]) FI V M1 t) : IG P ops Q C E M H FI V M1 t :=
  fun w1 bl a w hs hd => k w1 bl a w (St.push hs (hs.nilRow e sz)) (dr_same hd (Mem.le_refl _) fun _ _ h => foot_push h)
theorem nlA {K : Act → World → Prop} (e sz : Nat) (k : KG K C E M (H ++ [.row (.slice none 0 0) e sz 0 []])) : KG K C E M H :=
  fun a w hs => k a w (St.push hs (hs.nilRow e sz))
theorem freeze_gone {α : Type} {d : Kd α} {xs : List α} (hs : St C E M H a w) (j : Nat) {A : Option Addr} {c : Nat} {e : TypeId} {cs : List Value} (hj : H[j]? = some (.row (.slice A xs.length c) e d.sz xs.length cs)) (hx : Elems d M cs xs) :
    ∃ M', M.le M' ∧ SlAt d M' A c xs ∧ St C E M' (H.set j gone) a w := by
  obtain ⟨M', hm, hsl, hs'⟩ := hs.freezen j hj hx
  refine ⟨M', hm, hsl, (hs'.nilRow 0 0).perm ?_⟩
  exact (set_perm (List.getElem?_eq_some_iff.1 hj).1).symm
theorem foot_gone {j m b : Nat} (hm : footOf H m = some b) : m = j ∨ footOf (H.set j gone) m = some b := by
  by_cases h : m = j
  · exact .inl h
  · exact .inr (foot_set h hm)
/-- A row is written no more. -/
theorem fzA {K : Act → World → Prop} {α : Type} {d : Kd α} {xs : List α} {cs : List Value} (j e : Nat) (A : Option Addr) (c : Nat) (hx : Elems d M cs xs) (k : ∀ M', M.le M' → SlAt d M' A c xs → KG K C E M' (H.set j gone))
    (hj : H[j]? = some (.row (.slice A xs.length c) e d.sz xs.length cs) := by kernel_rfl) : KG K C E M H := by
  intro a w hs
  obtain ⟨M', hm, hsl, hs'⟩ := freeze_gone hs j hj hx
  exact k M' hm hsl a w hs'
theorem fzI {α : Type} {d : Kd α} {xs : List α} {cs : List Value} (j e : Nat) (A : Option Addr) (c : Nat) (hx : Elems d M cs xs) (k : ∀ M', M.le M' → SlAt d M' A c xs → IG P ops Q C E M' (H.set j gone) FI (rmV V [j]) M1 t)
    (hj : H[j]? = some (.row (.slice A xs.length c) e d.sz xs.length cs) := by kernel_rfl) : IG P ops Q C E M H FI V M1 t := by
  intro w1 bl a w hs hd
  obtain ⟨M', hm, hsl, hs'⟩ := freeze_gone hs j hj hx
  refine k M' hm hsl w1 bl a w hs' ⟨hd.rd.grow hm, fun m hm' => ?_⟩
  unfold rmV at hm'
  rw [List.mem_filter, Bool.not_eq_true'] at hm'
  have h1 := hd.ok m hm'.1
  exact ⟨foot_set (ne_of_nc hm'.2) h1.1, h1.2⟩

/-! ### Calls -/
theorem St.pad {A B : List Res} : ∀ {n : Nat}, St C E M (A ++ B) a w → St C E M ((A ++ List.replicate n gone) ++ B) a w
  | 0, h => by simpa using h
  | n + 1, h => by
    refine ((St.pad (n := n) h).nilRow 0 0).perm ?_
    rw [List.replicate_succ', ← List.append_assoc, List.append_assoc (A ++ List.replicate n gone)]
    exact (List.perm_middle (a := gone) (l₁ := A ++ List.replicate n gone) (l₂ := B)).symm
theorem g_call (d : Nat) (l : List Nat) {g : FuncId} {vs : List Value} {R : Value → Mem → List Res → Prop} {Hc : List Res} (hf : FnOk P g vs M Hc R) (k : ∀ v M' H', R v M' H' → M.le M' → IG P ops Q C (E.put d v) M' (cH H l H') FI (rmV V l) M1 (t.drop 1))
    (h : (effOk ops FI V l t && okOp ops C.N E t.i && dstIs (opAt ops t.i) d && callable P g && (rst H.length l).isPerm (List.range H.length)) = true := by kernel_rfl) (hH : Go.Fx.sel H l = Hc := by kernel_rfl) (hc : calArgs (opAt ops t.i) E = some (g, vs) := by kernel_rfl) : IG P ops Q C E M H FI V M1 t := by
  simp only [Bool.and_eq_true] at h
  obtain ⟨⟨⟨⟨h1, h2⟩, h3⟩, h4⟩, h5⟩ := h
  have hb : (l.all fun i => Nat.blt i H.length) = true := List.all_eq_true.2 fun i hi => by
    have : i ∈ List.range H.length := (List.isPerm_iff.1 h5).mem_iff.1 (List.mem_append_left _ hi)
    exact Nat.ble_eq_true_of_le (List.mem_range.1 this)
  refine ig_eff (X := { x : Value × Mem × List Res // R x.1 x.2.1 x.2.2 ∧ M.le x.2.1 }) (E' := fun x => E.put d x.1.1) (M' := fun x => x.1.2.1) (H' := fun x => cH H l x.1.2.2) l h1 (fun a w K hs kk => ?_) (fun x => k _ _ _ x.2.1 x.2.2)
  refine x_calln l ((List.range H.length).filter fun i => !l.contains i) hs h5 hH h2 hc h4 hf fun v M' H' a' w' hR hle hs' hx => ?_
  rw [dstIs_eq h3] at hs'
  have hkeep : ∀ b, (M b).isSome = true → w'.heap[b]? = w.heap[b]? := fun b hb' => by
    obtain ⟨c, hc'⟩ := Option.isSome_iff_exists.1 hb'
    exact hx.kept b (hs.mlt hc') (hs.mfar (F' := []) hc' (by rw [hH, List.append_nil]))
  have hfar : ∀ j b, l.contains j = false → footOf H j = some b → w'.heap[b]? = w.heap[b]? := fun j b hj hf' => hx.kept b (hs.flt j hf') (sel_far hs j hf' hH hb hj)
  have hs2 := (St.pad (n := l.length - H'.length) hs').perm (cH_perm (H' := padR l H') h5 (padR_le l H'))
  exact kk ⟨(v, M', H'), hR, hle⟩ a' w' hs2 ⟨hle, hkeep, fun j b hj hf' => ⟨foot_cH hj hf', hfar j b hj hf'⟩⟩
/-- A call that leaves what it may write as it was. -/
theorem g_callK (d : Nat) (l : List Nat) {g : FuncId} {vs : List Value} {R : Value → Mem → List Res → Prop} {Hc : List Res} (hf : FnOk P g vs M Hc R) (hsame : ∀ v M' H', R v M' H' → H' = Hc) (k : ∀ v M' H', R v M' H' → M.le M' → IG P ops Q C (E.put d v) M' H FI (rmV V (l.filter fun j => !isBlk H j)) M1 (t.drop 1))
    (h : (effOk ops FI V (l.filter fun j => !isBlk H j) t && okOp ops C.N E t.i && dstIs (opAt ops t.i) d && callable P g && (rst H.length l).isPerm (List.range H.length)) = true := by kernel_rfl) (hH : Go.Fx.sel H l = Hc := by kernel_rfl) (hc : calArgs (opAt ops t.i) E = some (g, vs) := by kernel_rfl) : IG P ops Q C E M H FI V M1 t := by
  simp only [Bool.and_eq_true] at h
  obtain ⟨⟨⟨⟨h1, h2⟩, h3⟩, h4⟩, h5⟩ := h
  have hb : (l.all fun i => Nat.blt i H.length) = true := List.all_eq_true.2 fun i hi => by
    have : i ∈ List.range H.length := (List.isPerm_iff.1 h5).mem_iff.1 (List.mem_append_left _ hi)
    exact Nat.ble_eq_true_of_le (List.mem_range.1 this)
  refine ig_eff (X := { x : Value × Mem × List Res // R x.1 x.2.1 x.2.2 ∧ M.le x.2.1 }) (E' := fun x => E.put d x.1.1) (M' := fun x => x.1.2.1) (H' := fun _ => H) _ h1 (fun a w K hs kk => ?_) (fun x => k _ _ _ x.2.1 x.2.2)
  refine x_calln l ((List.range H.length).filter fun i => !l.contains i) hs h5 hH h2 hc h4 hf fun v M' H' a' w' hR hle hs' hx => ?_
  rw [dstIs_eq h3] at hs'
  have e := hsame v M' H' hR
  subst e
  rw [← hH] at hs'
  have hs2 : St C (E.put d v) M' H a' w' := by
    refine hs'.perm ?_
    rw [← sel_app]
    exact (sel_perm h5).symm
  refine kk ⟨(v, M', H'), hR, hle⟩ a' w' hs2 ⟨hle, fun b hb' => ?_, fun j b hj hf' => ⟨hf', ?_⟩⟩
  · obtain ⟨c, hc'⟩ := Option.isSome_iff_exists.1 hb'
    exact hx.kept b (hs.mlt hc') (hs.mfar (F' := []) hc' (by rw [hH, List.append_nil]))
  · by_cases hjl : l.contains j = true
    · have hbk : isBlk H j = true := by
        cases hbb : isBlk H j with
        | true => rfl
        | false =>
          have : (l.filter fun j => !isBlk H j).contains j = true := by
            rw [List.contains_iff_mem, List.mem_filter]
            exact ⟨by simpa using hjl, by simp [hbb]⟩
          rw [this] at hj; cases hj
      obtain ⟨cs, T, hj2⟩ := blk_at hbk
      have hfb : blkOf H j = b := by
        unfold footOf at hf'
        rw [hj2] at hf'
        simpa [Res.foot] using hf'
      rw [hfb] at hj2
      exact (hs2.blkAt j hj2).trans (hs.blkAt j hj2).symm
    · exact hx.kept b (hs.flt j hf') (sel_far hs j hf' hH hb (by simpa using hjl))
theorem g_call0 (d : Nat) {g : FuncId} {vs : List Value} {R : Value → Mem → List Res → Prop} (hf : FnOk P g vs M [] R) (k : ∀ v M' H', R v M' H' → M.le M' → IG P ops Q C (E.put d v) M' (H ++ H') FI (rmV V []) M1 (t.drop 1))
    (h : (effOk ops FI V [] t && okOp ops C.N E t.i && dstIs (opAt ops t.i) d && callable P g) = true := by kernel_rfl) (hc : calArgs (opAt ops t.i) E = some (g, vs) := by kernel_rfl) : IG P ops Q C E M H FI V M1 t := by
  simp only [Bool.and_eq_true] at h
  obtain ⟨⟨⟨h1, h2⟩, h3⟩, h4⟩ := h
  refine ig_eff (X := { x : Value × Mem × List Res // R x.1 x.2.1 x.2.2 ∧ M.le x.2.1 }) (E' := fun x => E.put d x.1.1) (M' := fun x => x.1.2.1) (H' := fun x => H ++ x.1.2.2) [] h1 (fun a w K hs kk => ?_) (fun x => k _ _ _ x.2.1 x.2.2)
  refine st_call0 hs h2 hc h4 hf fun v M' H' a' w' hR hle hs' hx => ?_
  rw [dstIs_eq h3] at hs'
  refine kk ⟨(v, M', H'), hR, hle⟩ a' w' (hs'.perm List.perm_append_comm) ⟨hle, fun b hb' => ?_, fun j b _ hf' => ⟨?_, ?_⟩⟩
  · obtain ⟨c, hc'⟩ := Option.isSome_iff_exists.1 hb'
    exact hx.kept b (hs.mlt hc') feet_nil
  · obtain ⟨r', h5, h6⟩ := foot_at hf'
    unfold footOf
    rw [List.getElem?_append_left (List.getElem?_eq_some_iff.1 h5).1, h5]
    exact h6
  · exact hx.kept b (hs.flt j hf') feet_nil
end
end Go.Fx
