/- Base for printed walks, part R: arguments that are read as data. Own work. -/
import Derived.Test.YthpdomeciaafjaaFxQ
import Derived.OpenShut
import Derived.ChangeStays
import Derived.ChangeBears
namespace Go.Fx

/-- All memory that a world holds. -/
def memOf (W : World) : Mem := fun b => match W.heap[b]? with | some (.cells c _ _) => some c | _ => none
theorem wf_memOf (W : World) : Wf W (memOf W) [] := by
  refine ⟨fun b c h => ?_, fun r hr => (by cases hr), fun r hr => (by cases hr), List.Pairwise.nil⟩
  unfold memOf at h
  split at h
  · rename_i c' t fz hb
    cases h
    exact ⟨t, fz, hb⟩
  · cases h

section
variable {H : Type} {enc : TypeId × Value → H} {P : Program} {W : World} {base : Nat} {spare : Nat → Bool} {held : Bool}
/-- What reads as data of a type is told by a kind. -/
def Opens (P : Program) (W : World) (t : TypeId) {α : Type} (d : Kd α) : Prop :=
  d.sz = P.cellsOf t ∧ ∀ (H : Type) (enc : TypeId × Value → H) (base : Nat) (spare : Nat → Bool) (held : Bool) (n : Nat) (cs : List Value) (x : DataW H × List MemPlace), DataW.trod enc P W base spare held n t cs = some x → ∃ y, d.rep (memOf W) cs y
theorem opens_int {t : TypeId} {k : IntKind} (ht : P.underlying t = some (.int k)) (hs : P.cellsOf t = 1) : Opens P W t (kint k) :=
  ⟨hs.symm, fun _ _ _ _ _ _ _ _ h => by obtain ⟨n, rfl, _⟩ := DataW.trod_int ht h; exact ⟨n, rfl⟩⟩
theorem opens_bool {t : TypeId} (ht : P.underlying t = some .bool) (hs : P.cellsOf t = 1) : Opens P W t kbool :=
  ⟨hs.symm, fun _ _ _ _ _ _ _ _ h => by obtain ⟨b, rfl, _⟩ := DataW.trod_bool ht h; exact ⟨b, rfl⟩⟩
theorem opens_str {t : TypeId} (ht : P.underlying t = some .string) (hs : P.cellsOf t = 1) : Opens P W t kstr :=
  ⟨hs.symm, fun _ _ _ _ _ _ _ _ h => by obtain ⟨s, rfl, _⟩ := DataW.trod_string ht h; exact ⟨s, rfl⟩⟩
theorem exists_list {α : Type} {p : Nat → α → Prop} : ∀ (n : Nat), (∀ i, i < n → ∃ y, p i y) → ∃ ys : List α, ys.length = n ∧ ∀ (i : Nat) (h : i < ys.length), p i ys[i]
  | 0, _ => ⟨[], rfl, fun i h => absurd h (by simp)⟩
  | n + 1, h => by
    obtain ⟨ys, hl, hy⟩ := exists_list n fun i hi => h i (by omega)
    obtain ⟨y, hp⟩ := h n (by omega)
    refine ⟨ys ++ [y], by simp [hl], fun i hi => ?_⟩
    by_cases hin : i < ys.length
    · rw [List.getElem_append_left hin]; exact hy i hin
    · have : i = ys.length := by simp at hi; omega
      subst this
      rw [List.getElem_append_right (Nat.le_refl _)]
      simpa [hl] using hp
theorem mapM_cells {c : Array Value} : ∀ (n o : Nat) (cs : List Value), (List.range' o n).mapM (fun k => c[k]?) = some cs → cs = (c.toList.drop o).take n
  | 0, o, cs, h => by simp at h; simp [h]
  | n + 1, o, cs, h => by
    rw [List.range'_succ, List.mapM_cons] at h
    simp only [bind, Option.bind_eq_some_iff, pure, Option.some.injEq] at h
    obtain ⟨v, hv, vs, hvs, rfl⟩ := h
    have ih := mapM_cells n (o + 1) vs hvs
    have ho : o < c.toList.length := by
      have := (Array.getElem?_eq_some_iff.1 hv).1
      simpa using this
    rw [List.drop_eq_getElem_cons ho, List.take_succ_cons, ← ih]
    congr 1
    have := (Array.getElem?_eq_some_iff.1 hv).2
    simpa using this.symm
theorem opens_slice {α : Type} {d : Kd α} {t e : TypeId} (ht : P.underlying t = some (.slice e)) (hs : P.cellsOf t = 1) (hz : 0 < d.sz) (he : Opens P W e d) : Opens P W t (kslice d) := by
  refine ⟨hs.symm, fun H enc base spare held n cs x h => ?_⟩
  rcases DataW.trod_slice ht h with ⟨rfl, _⟩ | ⟨a, len, cap, elems, rest, m, _, rfl, _, hbase, hle, _, hlen, hel, _⟩
  · exact ⟨[], none, 0, rfl, slNil⟩
  · rcases Nat.eq_zero_or_pos len with h0 | hpos
    · subst h0
      exact ⟨[], some a, cap, rfl, ⟨.inl rfl, hle⟩⟩
    · obtain ⟨hsz, hop⟩ := he
      have hget : ∀ i, i < len → ∃ csi, W.cells? base (a.add (i * d.sz)) d.sz = some csi ∧ ∃ y, d.rep (memOf W) csi y := by
        intro i hi
        have h1 := hel i hi
        rw [← hsz] at h1
        rw [List.getElem?_eq_getElem (by omega)] at h1
        obtain ⟨csi, h2, h3⟩ := Option.bind_eq_some_iff.1 h1
        exact ⟨csi, h2, hop _ _ _ _ _ _ _ _ h3⟩
      obtain ⟨b, off, spot⟩ := a
      obtain ⟨c, t0, fz, hb, hsp⟩ : ∃ c t0 fz, W.heap[b]? = some (.cells c t0 fz) ∧ spot = none := by
        obtain ⟨csi, h2, _⟩ := hget 0 hpos
        unfold World.cells? at h2
        split at h2
        · obtain ⟨k, hk⟩ : ∃ k, d.sz = k + 1 := ⟨d.sz - 1, by omega⟩
          rw [hk, List.range_succ_eq_map, List.mapM_cons] at h2
          simp only [bind, Option.bind_eq_some_iff] at h2
          obtain ⟨v, hv, _⟩ := h2
          have e0 : ((⟨b, off, spot⟩ : Addr).add (0 * (k + 1))).add 0 = ⟨b, off, spot⟩ := by simp [Addr.add]
          rw [e0] at hv
          unfold World.cell? at hv
          split at hv
          · rename_i c t0 fz hb
            refine ⟨c, t0, fz, hb, ?_⟩
            cases spot with
            | none => rfl
            | some _ => simp at hv
          · cases hv
        · cases h2
      subst hsp
      obtain ⟨ys, hyl, hy⟩ := exists_list (p := fun i y => d.rep (memOf W) ((c.toList.drop (off + i * d.sz)).take d.sz) y) len fun i hi => by
        obtain ⟨csi, h2, y, hy⟩ := hget i hi
        refine ⟨y, ?_⟩
        have : csi = (c.toList.drop (off + i * d.sz)).take d.sz := by
          unfold World.cells? at h2
          split at h2
          · refine mapM_cells _ _ _ ?_
            have er : List.range' (off + i * d.sz) d.sz = (List.range d.sz).map (off + i * d.sz + ·) := by simp [List.range_eq_range', List.map_add_range']
            rw [← h2, er, List.mapM_map]
            congr 1
            funext k
            simp only [← addOff_eq, addOff, World.cell?, hb]
            simp
          · cases h2
        rw [← this]; exact hy
      refine ⟨ys, some ⟨b, off, none⟩, cap, by rw [hyl], ⟨.inr ⟨b, off, c, rfl, by unfold memOf; rw [hb], hy⟩, by omega⟩⟩
theorem glue {cs a b : List Value} {o s : Nat} (e : (cs.drop o).take s = a) (k : cs.drop (o + s) = b) : cs.drop o = a ++ b := by
  rw [← e, ← k, ← List.drop_drop, List.take_append_drop]
theorem glueEnd {cs : List Value} {n : Nat} (h : cs.length = n) : cs.drop n = [] := by simp [h]
/-- A field's cells, told. -/
theorem field_opens {α : Type} {d : Kd α} {fs : Array Field} {cs : List Value} {xs : List (DataW H × List MemPlace)} {m : Nat} (hf : ∀ (i : Nat) (f : Field), fs[i]? = some f → DataW.trod enc P W base spare held m f.type ((cs.drop f.offset).take (P.cellsOf f.type)) = xs[i]?)
    (hn : xs.length = fs.size) (i : Nat) {f : Field} {t : TypeId} {o : Nat} (hi : fs[i]? = some f) (ht : f.type = t) (ho : f.offset = o) (hd : Opens P W t d) : ∃ y, d.rep (memOf W) ((cs.drop o).take d.sz) y := by
  subst ht; subst ho
  have h1 := hf i f hi
  have hl : i < xs.length := by rw [hn]; exact (Array.getElem?_eq_some_iff.1 hi).1
  rw [List.getElem?_eq_getElem hl] at h1
  rw [hd.1]
  exact hd.2 _ _ _ _ _ _ _ _ h1
/-- An array of numbers, told. -/
def karr (n : Nat) (k : IntKind) : Kd (List Int) where
  sz := n
  rep := fun _ cs xs => cs = arrL n k xs ∧ xs.length = n
  len := by rintro _ cs xs ⟨rfl, _⟩; simp [arrL]
  mono := fun _ h => h
  one := by
    rintro _ cs xs ⟨rfl, _⟩ v hv
    simp only [arrL, List.mem_map] at hv
    obtain ⟨m, _, rfl⟩ := hv
    rfl
theorem opens_arr {t e : TypeId} {n : Nat} {k : IntKind} (ht : P.underlying t = some (.array n e)) (hu : P.underlying e = some (.int k)) (he : P.cellsOf e = 1) (hs : P.cellsOf t = n) : Opens P W t (karr n k) := by
  refine ⟨hs.symm, fun H enc base spare held n' cs x h => ?_⟩
  obtain ⟨xs, m, _, _, hl, hn, hf⟩ := DataW.trod_array ht h
  rw [hs] at hl
  obtain ⟨ys, hyl, hy⟩ := exists_list (p := fun i y => (cs.drop i).take 1 = [Value.int k y]) n fun i hi => by
    have h1 := hf i hi
    rw [List.getElem?_eq_getElem (by omega), he, Nat.mul_one] at h1
    obtain ⟨y, hy, _⟩ := DataW.trod_int hu h1
    exact ⟨y, hy⟩
  refine ⟨ys, ?_, hyl⟩
  apply List.ext_getElem?
  intro i
  rcases Nat.lt_or_ge i n with hi | hi
  · have h1 := hy i (by omega)
    have h2 : ((cs.drop i).take 1)[0]? = some (Value.int k (ys[i]'(by omega))) := by rw [h1]; rfl
    rw [List.getElem?_take] at h2
    simp only [Nat.zero_lt_one, if_true, List.getElem?_drop, Nat.add_zero] at h2
    rw [h2]
    simp [arrL, hi, List.getD, List.getElem?_eq_getElem (show i < ys.length by omega)]
  · rw [List.getElem?_eq_none (by omega), List.getElem?_eq_none (by simp [arrL]; exact hi)]
theorem opens_raw {t e : TypeId} (ht : P.underlying t = some (.slice e)) (hs : P.cellsOf t = 1) : Opens P W t kraw := by
  refine ⟨hs.symm, fun H enc base spare held n cs x h => ?_⟩
  rcases DataW.trod_slice ht h with ⟨rfl, _⟩ | ⟨a, len, cap, _, _, _, _, rfl, _⟩
  · exact ⟨.slice none 0 0, rfl, rfl⟩
  · exact ⟨.slice (some a) len cap, rfl, rfl⟩

/-- Behind a call that may write nothing: what was there stays. -/
def Kept (W W' : World) : Prop := W'.os = W.os ∧ W'.output = W.output ∧ W.heap.size ≤ W'.heap.size ∧ ∀ b, b < W.heap.size → W'.heap[b]? = W.heap[b]?
theorem calls_of {f : FuncId} {args : List Value} {R : Value → Mem → List Res → Prop} (h : FnOk P f args (memOf W) [] R) : Calls P f args.toArray W fun e W' => ∃ v M' H', e = .returned v ∧ R v M' H' ∧ Kept W W' := by
  refine (h W (wf_memOf W)).mono fun e W' hx => ?_
  obtain ⟨v, M', H', he, hR, hw, hext⟩ := hx
  exact ⟨v, M', H', he, hR, hext.os, hext.output, hext.size, fun b hb => hext.kept b hb feet_nil⟩
theorem Kept.cell {W W' : World} (h : Kept W W') {b : Nat} (hb : b < W.heap.size) (off : Nat) : W'.cell? ⟨b, off, none⟩ = W.cell? ⟨b, off, none⟩ := by
  simp only [World.cell?, h.2.2.2 b hb]
theorem Kept.sameAt {W W' : World} (h : Kept W W') : ∀ {p : MemPlace}, p.block < W.heap.size → W.sameAt W' p
  | .cell b off, hb => h.cell hb off
  | .map b, hb => h.2.2.2 b hb
theorem Kept.but {W W' : World} (h : Kept W W') (may : MemPlace → Prop) : W.keptBut W' may := by
  refine ⟨h.1, h.2.1, fun i hi => ?_⟩
  rw [h.2.2.2 i hi]
  cases hg : W.heap[i]? with
  | none => trivial
  | some o => cases o <;> simp
theorem stays_all {T : TypeId → Prop} {W' : World} {sp' : Nat → Bool} (K : Kids P T) (hsz : ∀ {t e : TypeId}, T t → P.underlying t = some (.slice e) → 0 < P.cellsOf e) (hk : Kept W W') :
    ∀ {ts : List TypeId} {vs : List Value} {ds : List (DataW H)} {ps : List MemPlace}, (∀ t ∈ ts, T t) → DataW.TrodAll enc P W base (fun _ => true) true ts vs ds ps → (∀ p ∈ ps, p.block < W.heap.size) → (∀ p ∈ ps, sp' p.block = true) → DataW.TrodAll enc P W' base sp' true ts vs ds ps
  | [], [], [], _, _, h, _, _ => h
  | t :: ts, v :: vs, d :: ds, _, hT, ⟨p, q, ⟨n, h1⟩, h2, rfl⟩, hlt, hs =>
    ⟨p, q, ⟨n, DataW.trod_stays K hsz (fun h => by cases h) (hT t (List.mem_cons_self ..)) h1 (fun x hx => hk.sameAt (hlt x (List.mem_append_left _ hx))) (fun x hx => hs x (List.mem_append_left _ hx))⟩,
      stays_all K hsz hk (fun t ht => hT t (List.mem_cons_of_mem _ ht)) h2 (fun x hx => hlt x (List.mem_append_right _ hx)) (fun x hx => hs x (List.mem_append_right _ hx)), rfl⟩
  | [], [], _ :: _, _, _, h, _, _ => h.elim
  | [], _ :: _, _, _, _, h, _, _ => h.elim
  | _ :: _, [], _, _, _, h, _, _ => h.elim
  | _ :: _, _ :: _, [], _, _, h, _, _ => h.elim
open Go.ChangeShapes Go.WideShapes Go.RowKit in
/-- A law that answers true, and leaves what it was handed: what its row says. -/
theorem post_kept {T : TypeId → Prop} (K : Kids P T) (hsz : ∀ {t e : TypeId}, T t → P.underlying t = some (.slice e) → 0 < P.cellsOf e) {f : Func} {s : ChangeSpec} {apart fresh handsOn again : Bool} {W' : World} {args : Array Value} {ds : List (DataW H)} {before : List MemPlace} {tb : TypeId}
    (hW : DataW.Whole enc P f.params.toList s.vars apart W args.toList ds [] before) (hT : ∀ t ∈ f.params.toList, T t) (hv0 : s.vars = []) (hfn : s.fn H (ds ++ []) = { results := [.lit (.bool true)], args := ds }) (hk : Kept W W') (hr : f.resultTypes = #[tb]) (hb : P.underlying tb = some .bool) :
    s.post enc P f apart fresh handsOn again W args (.bool true) W' := by
  have hlt := hW.lt
  have hW0 := hW
  obtain ⟨p, q, hA, hV, rfl, hz, hn⟩ := hW0
  rw [hv0] at hV
  obtain ⟨_, rfl⟩ := trodVars_none hV
  simp only [List.append_nil] at hW hlt hz hn
  have hres : ∀ (b : Nat) (sp : Nat → Bool) (hd : Bool), DataW.TrodAll enc P W' b sp hd f.resultTypes.toList ((Value.bool true).resultList f.resultTypes.size) (s.fn H (ds ++ [])).results [] := by
    intro b sp hd
    rw [hr, hfn]
    exact trodAll_cons_mk (shut_bool hb _) trodAll_mk0
  have hargs : ∀ sp : Nat → Bool, (∀ x ∈ p, sp x.block = true) → DataW.TrodAll enc P W' 0 sp true f.params.toList args.toList (s.fn H (ds ++ [])).args p := by
    intro sp hs
    rw [hfn]
    exact stays_all K hsz hk hT hA hlt hs
  have hvars : ∀ sp : Nat → Bool, DataW.TrodVars enc P W' sp s.vars (s.fn H (ds ++ [])).vars [] := by
    intro sp
    rw [hv0, hfn]
    rfl
  have hold : ∀ x ∈ p, (fun b => decide (b < W.heap.size)) x.block = true := fun x hx => by simpa using hlt x hx
  refine ⟨ds, [], p, [], p, [], hW, hres _ _ _, hargs _ hold, hvars _, hk.but _, fun _ => ?_⟩
  refine ⟨ok_one hr rfl (okWide_bool_mk hb _), _, _, ([] ++ p) ++ [], ⟨[] ++ p, [], trodAll_append (hargs _ (fun _ _ => rfl)) (hres _ _ _), hvars _, rfl, ?_, ?_⟩, ?_⟩
  · intro b off hp
    have hp' : MemPlace.cell b off ∈ p := by simpa using hp
    have hb' := hlt _ hp'
    have := hz b off hp'
    rw [← this]
    unfold World.frozen?
    rw [hk.2.2.2 b hb']
  · intro ha
    simpa using hn ha
  · intro x hx _
    simpa using hx
end
end Go.Fx
