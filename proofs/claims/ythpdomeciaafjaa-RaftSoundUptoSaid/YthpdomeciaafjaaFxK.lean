/- Base for printed walks, part K: entering a function, regions that draw. Own work. -/
import Derived.Test.YthpdomeciaafjaaFxJ
namespace Go.Fx

theorem x_intro {P : Program} {f : FuncId} {fn : Func} {c : Code} {args : List Value} {M : Mem} {H : List Res} {R : Value → Mem → List Res → Prop} (N : Nat) (hf : P.funcs[f]? = some fn) (hb : fn.body = some c) (hN : fn.ntmps = N) (hl : Nat.ble args.length N = true)
    (h : ∀ (w : World) (a : Act), St ⟨N, w, M, H⟩ (envFrom 0 args) M H a w → At P c [] (Done P fn ⟨N, w, M, H⟩ R) a w) : FnOk P f args M H R := by
  subst hN
  exact fn_intro hf hb hl h

section
variable {P : Program} {C : Ctx} {E : Env} {M : Mem} {H : List Res} {a : Act} {w : World}
variable {ops : Array Oper} {Q : Post} {K : Act → World → Prop} {i : Nat} {w1 : World} {F : Fs} {p : Plan}

theorem x_regD {c : Code} {q : Path} {Q : Post} (pl : Plan) (F : Fs) (hs : St C E M H a w) (hm : P.follows .mixedOrders = true) (hQ : Plain Q) (hk : (regDraw c q).isSome = true)
    (ho : (Region.noSelect (opsAt c q) && pl.okD (opsAt c q) (opsAt c q).size (Array.replicate (opsAt c q).size false)) = true)
    (h : ∀ w1, St C E M H a w1 → pl.wp P (opsAt c q) (kont P c q Q) w1 F a w1) : At P c q Q a w :=
  at_regD pl F hm hQ hk ho (h _ (hs.drawn _))

def KeepL (ops : Array Oper) (w1 : World) (l : List (Nat × Nat)) (j : Nat) (w w' : World) : Prop :=
  ∀ x ∈ l, ¬ Before ops x.1 j → w.heap[x.2]? = w1.heap[x.2]? → w'.heap[x.2]? = w1.heap[x.2]?
theorem keepN {j : Nat} {w w' : World} : KeepL ops w1 [] j w w' := fun x hx => by cases hx
theorem keepD {j x b : Nat} {w w' : World} {l : List (Nat × Nat)} (h : Before ops x j) (k : KeepL ops w1 l j w w') : KeepL ops w1 ((x, b) :: l) j w w' := by
  intro y hy hd hw
  rcases List.mem_cons.1 hy with rfl | hy
  · exact absurd h hd
  · exact k y hy hd hw
theorem keepS {j x b : Nat} {w w' : World} {l : List (Nat × Nat)} (h : w'.heap[b]? = w.heap[b]?) (k : KeepL ops w1 l j w w') : KeepL ops w1 ((x, b) :: l) j w w' := by
  intro y hy hd hw
  rcases List.mem_cons.1 hy with rfl | hy
  · exact h.trans hw
  · exact k y hy hd hw
theorem keep_same {j : Nat} {w : World} : Keep ops w1 F j w w := ⟨fun h => h, fun _ _ _ h => h⟩
/-- What nobody writes, as it stood when the region began. -/
def Rd (w1 : World) (M1 : Mem) (w : World) (M : Mem) : Prop := ∀ b, (M1 b).isSome = true → w.heap[b]? = w1.heap[b]? ∧ (M b).isSome = true
theorem Rd.init {M1 : Mem} : Rd w1 M1 w1 M1 := fun _ h => ⟨rfl, h⟩
theorem Rd.step {M1 M M' : Mem} {w w' : World} (h : Rd w1 M1 w M) (hm : M.le M') (k : ∀ b, (M b).isSome = true → w'.heap[b]? = w.heap[b]?) : Rd w1 M1 w' M' := fun b hb => by
  obtain ⟨h1, h2⟩ := h b hb
  refine ⟨(k b h2).trans h1, ?_⟩
  obtain ⟨c, hc⟩ := Option.isSome_iff_exists.1 h2
  rw [hm b c hc]; rfl
theorem keepF {l : List (Nat × Nat)} {j : Nat} {w w' : World} (k : KeepL ops w1 l j w w') : Keep ops w1 ⟨l, fun _ => False⟩ j w w' := ⟨fun _ _ h => h.elim, k⟩
theorem keepR {M1 M : Mem} {l : List (Nat × Nat)} {j : Nat} {w w' : World} (h : Rd w1 M1 w' M) (k : KeepL ops w1 l j w w') : Keep ops w1 ⟨l, fun b => (M1 b).isSome = true⟩ j w w' := ⟨fun _ b hb => (h b hb).1, k⟩

theorem blk_at {H : List Res} {j : Nat} (h : isBlk H j = true) : ∃ cs T, H[j]? = some (.blk (blkOf H j) cs T) := by
  unfold isBlk at h
  split at h
  · rename_i b cs T hj; exact ⟨cs, T, by unfold blkOf; rw [hj]⟩
  · cases h
theorem St.blt (hs : St C E M H a w) (j : Nat) (h : isBlk H j = true) : blkOf H j < w.heap.size := by
  obtain ⟨cs, T, hj⟩ := blk_at h
  exact Res.lt (hs.wf.holds _ (List.mem_of_getElem? hj)) rfl
theorem St.mlt (hs : St C E M H a w) {b : Nat} {c : Array Value} (h : M b = some c) : b < w.heap.size := by
  obtain ⟨t, fz, hb⟩ := hs.wf.models b c h
  exact (Array.getElem?_eq_some_iff.1 hb).1
theorem St.bne (hs : St C E M H a w) (i j : Nat) (h : isBlk H i = true) (k : isBlk H j = true) (hne : (i == j) = false) : blkOf H i ≠ blkOf H j := by
  obtain ⟨cs, T, hi⟩ := blk_at h
  obtain ⟨cs', T', hj⟩ := blk_at k
  intro e
  have := hs.wf.ne hi hj (by simpa using hne) (b := blkOf H i) rfl
  exact this (by rw [e]; rfl)
theorem St.mne (hs : St C E M H a w) {b : Nat} {c : Array Value} (h : M b = some c) (j : Nat) (k : isBlk H j = true) : b ≠ blkOf H j := by
  obtain ⟨cs', T', hj⟩ := blk_at k
  intro e
  have := hs.wf.free _ (List.mem_of_getElem? hj) (blkOf H j) rfl
  rw [e, this] at h
  cases h
/-- A block that isn't among what a call may write. -/
theorem St.mfar (hs : St C E M H a w) {b : Nat} {c : Array Value} (h : M b = some c) {l : List Nat} {Hc F' : List Res} (hH : Go.Fx.sel H l = Hc ++ F') : ¬ feet Hc b := by
  rintro ⟨r, hr, e⟩
  have hm : r ∈ H := by
    have : r ∈ Go.Fx.sel H l := by rw [hH]; exact List.mem_append_left _ hr
    obtain ⟨i, _, hi⟩ := List.mem_filterMap.1 this
    exact List.mem_of_getElem? hi
  have := hs.wf.free r hm b e
  rw [this] at h
  cases h
theorem St.bfar (hs : St C E M H a w) (j : Nat) (hb : isBlk H j = true) {l : List Nat} {Hc F' : List Res} (hH : Go.Fx.sel H l = Hc ++ F') (hall : (l.all fun i => Nat.blt i H.length) = true) (hl : (l.take Hc.length).contains j = false) : ¬ feet Hc (blkOf H j) := by
  rintro ⟨r, hr, e⟩
  obtain ⟨cs, T, hj⟩ := blk_at hb
  have key : ∀ (l : List Nat) (Hc : List Res), Go.Fx.sel H l = Hc ++ F' → (l.all fun i => Nat.blt i H.length) = true → r ∈ Hc → (l.take Hc.length).contains j = false → False := by
    intro l
    induction l with
    | nil =>
      intro Hc h _ hr _
      simp only [Go.Fx.sel, List.filterMap_nil] at h
      have := List.append_eq_nil_iff.1 h.symm
      rw [this.1] at hr; cases hr
    | cons i l ih =>
      intro Hc h hall hr hc
      simp only [List.all_cons, Bool.and_eq_true] at hall
      have hil : i < H.length := Nat.le_of_ble_eq_true hall.1
      have hi : H[i]? = some H[i] := List.getElem?_eq_getElem hil
      cases Hc with
      | nil => cases hr
      | cons r0 Hc =>
        simp only [Go.Fx.sel, List.filterMap_cons, hi, List.cons_append, List.cons.injEq] at h
        simp only [List.length_cons, List.take_succ_cons, List.contains_cons, Bool.or_eq_false_iff] at hc
        rcases List.mem_cons.1 hr with rfl | hr
        · have hne : i ≠ j := fun e => by rw [e] at hc; simp at hc
          exact hs.wf.ne (hi.trans (congrArg some h.1)) hj hne e rfl
        · exact ih Hc h.2 hall.2 hr hc.2
  exact key l Hc hH hall hr hl
def footOf (H : List Res) (j : Nat) : Option Nat := match H[j]? with | some r => r.foot | none => none
theorem St.mfoot (hs : St C E M H a w) {b : Nat} (h : (M b).isSome = true) (j : Nat) : footOf H j ≠ some b := by
  intro e
  unfold footOf at e
  split at e
  · rename_i r hj
    have := hs.wf.free _ (List.mem_of_getElem? hj) b e
    rw [this] at h; cases h
  · cases e
theorem St.bfoot (hs : St C E M H a w) (i j : Nat) (hi : isBlk H i = true) (hne : (i == j) = false) : footOf H j ≠ some (blkOf H i) := by
  intro e
  unfold footOf at e
  split at e
  · rename_i r hj
    obtain ⟨cs, T, hb⟩ := blk_at hi
    exact hs.wf.ne hb hj (by simpa using hne) (b := blkOf H i) rfl e
  · cases e
/-- What nobody writes stays: behind a store, behind new memory, behind an append, behind a call. -/
theorem Rd.store {M1 : Mem} {w' : World} (h : Rd w1 M1 w M) (hs : St C E M H a w) (j : Nat) (hk : isBlk H j = true) (k : ∀ x, x ≠ blkOf H j → w'.heap[x]? = w.heap[x]?) : Rd w1 M1 w' M :=
  h.step (fun _ _ h => h) fun b hb => by
    obtain ⟨c, hc⟩ := Option.isSome_iff_exists.1 hb
    exact k b (hs.mne hc j hk)
theorem Rd.fresh {M1 : Mem} {w' : World} (h : Rd w1 M1 w M) (hs : St C E M H a w) (k : ∀ x, x < w.heap.size → w'.heap[x]? = w.heap[x]?) : Rd w1 M1 w' M :=
  h.step (fun _ _ h => h) fun b hb => by
    obtain ⟨c, hc⟩ := Option.isSome_iff_exists.1 hb
    exact k b (hs.mlt hc)
theorem Rd.append {M1 : Mem} {w' : World} {v : Value} (h : Rd w1 M1 w M) (hs : St C E M H a w) (j : Nat) (hv : footOf H j = v.ownBlock) (k : ∀ x, x < w.heap.size → v.ownBlock ≠ some x → w'.heap[x]? = w.heap[x]?) : Rd w1 M1 w' M :=
  h.step (fun _ _ h => h) fun b hb => by
    obtain ⟨c, hc⟩ := Option.isSome_iff_exists.1 hb
    exact k b (hs.mlt hc) (hv ▸ hs.mfoot hb j)
theorem Rd.call {M1 M' : Mem} {w' : World} {l : List Nat} {Hc F' H' : List Res} (h : Rd w1 M1 w M) (hs : St C E M H a w) (hH : Go.Fx.sel H l = Hc ++ F') (k : Ext w M Hc w' M' H') : Rd w1 M1 w' M' :=
  h.step k.mem fun b hb => by
    obtain ⟨c, hc⟩ := Option.isSome_iff_exists.1 hb
    exact k.kept b (hs.mlt hc) (hs.mfar hc hH)
theorem Rd.call0 {M1 M' : Mem} {w' : World} {H' : List Res} (h : Rd w1 M1 w M) (hs : St C E M H a w) (k : Ext w M [] w' M' H') : Rd w1 M1 w' M' :=
  h.step k.mem fun b hb => by
    obtain ⟨c, hc⟩ := Option.isSome_iff_exists.1 hb
    exact k.kept b (hs.mlt hc) feet_nil
theorem Rd.grow {M1 M' : Mem} (h : Rd w1 M1 w M) (hm : M.le M') : Rd w1 M1 w M' := h.step hm fun _ _ => rfl
theorem foot_at {H : List Res} {j b : Nat} (h : footOf H j = some b) : ∃ r, H[j]? = some r ∧ r.foot = some b := by
  unfold footOf at h
  split at h
  · exact ⟨_, ‹_›, h⟩
  · cases h
theorem footOf_row {H : List Res} {j : Nat} {A : Option Addr} {n c g o sz m : Nat} {e : TypeId} {cs : List Value} (hj : H[j]? = some (.row (.slice A n c) e sz m cs)) (hA : A = some ⟨g, o, none⟩) : footOf H j = some g := by
  subst hA
  unfold footOf
  rw [hj]; rfl
theorem St.flt (hs : St C E M H a w) (j : Nat) {b : Nat} (h : footOf H j = some b) : b < w.heap.size := by
  obtain ⟨r, hj, hf⟩ := foot_at h
  exact Res.lt (hs.wf.holds _ (List.mem_of_getElem? hj)) hf
theorem St.ffoot (hs : St C E M H a w) (i j : Nat) {b : Nat} {v : Value} (h : footOf H i = some b) (hv : footOf H j = v.ownBlock) (hne : (i == j) = false) : v.ownBlock ≠ some b := by
  rw [← hv]
  intro e
  obtain ⟨r, hi, hf⟩ := foot_at h
  obtain ⟨r', hj, hf'⟩ := foot_at e
  exact hs.wf.ne hi hj (by simpa using hne) hf hf'
theorem St.fne (hs : St C E M H a w) (i j : Nat) {b : Nat} (h : footOf H i = some b) (k : isBlk H j = true) (hne : (i == j) = false) : b ≠ blkOf H j := by
  obtain ⟨r, hi, hf⟩ := foot_at h
  obtain ⟨cs', T', hj⟩ := blk_at k
  intro e
  exact hs.wf.ne hi hj (by simpa using hne) hf (by rw [e]; rfl)
theorem St.ffar (hs : St C E M H a w) (j : Nat) {b : Nat} (h : footOf H j = some b) {l : List Nat} {Hc F' : List Res} (hH : Go.Fx.sel H l = Hc ++ F') (hall : (l.all fun i => Nat.blt i H.length) = true) (hl : (l.take Hc.length).contains j = false) : ¬ feet Hc b := by
  obtain ⟨r1, hj, hf⟩ := foot_at h
  rintro ⟨r, hr, e⟩
  have key : ∀ (l : List Nat) (Hc : List Res), Go.Fx.sel H l = Hc ++ F' → (l.all fun i => Nat.blt i H.length) = true → r ∈ Hc → (l.take Hc.length).contains j = false → False := by
    intro l
    induction l with
    | nil =>
      intro Hc h _ hr _
      simp only [Go.Fx.sel, List.filterMap_nil] at h
      have := (List.append_eq_nil_iff.1 h.symm).1
      subst this; cases hr
    | cons i l ih =>
      intro Hc h hall hr hc
      simp only [List.all_cons, Bool.and_eq_true] at hall
      have hil : i < H.length := Nat.le_of_ble_eq_true hall.1
      have hi : H[i]? = some H[i] := List.getElem?_eq_getElem hil
      cases Hc with
      | nil => cases hr
      | cons r0 Hc =>
        simp only [Go.Fx.sel, List.filterMap_cons, hi, List.cons_append, List.cons.injEq] at h
        simp only [List.length_cons, List.take_succ_cons, List.contains_cons, Bool.or_eq_false_iff] at hc
        rcases List.mem_cons.1 hr with rfl | hr
        · have hne : i ≠ j := fun e => by rw [e] at hc; simp at hc
          exact hs.wf.ne (hi.trans (congrArg some h.1)) hj hne e hf
        · exact ih Hc h.2 hall.2 hr hc.2
  exact key l Hc hH hall hr hl
theorem St.blkAt (hs : St C E M H a w) (j : Nat) {b : Nat} {cs : List Value} {T : TypeId} (hj : H[j]? = some (.blk b cs T)) : w.heap[b]? = some (.cells cs.toArray T (0, 0)) := hs.wf.holds _ (List.mem_of_getElem? hj)
end
end Go.Fx
