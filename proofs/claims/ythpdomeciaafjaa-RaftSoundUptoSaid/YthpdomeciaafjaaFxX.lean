/- Base for printed walks, part X: arguments that are read as data of bounded bulk. Own work. -/
import Derived.Test.YthpdomeciaafjaaFxW
namespace Go.Fx

mutual
/-- How many values and letters a reading holds. -/
def bulk {H : Type} : DataW H → Nat
  | .lit (.string bytes) => bytes.length + 1
  | .lit _ => 1
  | .nil => 1
  | .ptr d => bulk d + 1
  | .slice elems spare => bulkAll elems + bulkAll spare + 1
  | .agg parts => bulkAll parts + 1
  | .iface _ d => bulk d + 1
  | .map entries => bulkEntries entries + 1
  | .held _ => 1
def bulkAll {H : Type} : List (DataW H) → Nat
  | [] => 0
  | d :: r => bulk d + bulkAll r
def bulkEntries {H : Type} : List (Lit × DataW H) → Nat
  | [] => 0
  | x :: r => bulkEntry x + bulkEntries r
def bulkEntry {H : Type} : Lit × DataW H → Nat
  | (.string bytes, d) => bytes.length + bulk d + 1
  | (_, d) => bulk d + 1
end
theorem bulk_pos {H : Type} (d : DataW H) : 1 ≤ bulk d := by
  cases d with
  | lit l => cases l <;> simp [bulk]
  | _ => simp [bulk]
theorem bulk_mem {H : Type} : ∀ (l : List (DataW H)) (i : Nat) (h : i < l.length), bulk l[i] ≤ bulkAll l
  | d :: r, 0, _ => by simp [bulkAll]
  | d :: r, i + 1, h => by
    have := bulk_mem r i (by simpa using h)
    simp only [List.getElem_cons_succ, bulkAll]
    omega
theorem bulk_len {H : Type} : ∀ (l : List (DataW H)), l.length ≤ bulkAll l
  | [] => by simp
  | d :: r => by
    have := bulk_len r
    have := bulk_pos d
    simp only [List.length_cons, bulkAll]
    omega

section
variable {P : Program} {W : World}
/-- What reads as data of a type is told by a kind, and its parts are no more than its bulk. -/
def OpensB (P : Program) (W : World) (t : TypeId) {α : Type} (d : Kd α) (B : Nat → α → Prop) : Prop :=
  d.sz = P.cellsOf t ∧ (∀ k n y, k ≤ n → B k y → B n y) ∧ ∀ (H : Type) (enc : TypeId × Value → H) (base : Nat) (spare : Nat → Bool) (held : Bool) (n : Nat) (cs : List Value) (x : DataW H × List MemPlace), DataW.trod enc P W base spare held n t cs = some x → ∃ y, d.rep (memOf W) cs y ∧ B (bulk x.1) y
abbrev anyB {α : Type} : Nat → α → Prop := fun _ _ => True
abbrev lenB {α : Type} (B : Nat → α → Prop) : Nat → List α → Prop := fun n ys => ys.length ≤ n ∧ ∀ y ∈ ys, B n y
theorem opensB_of {t : TypeId} {α : Type} {d : Kd α} (h : Opens P W t d) : OpensB P W t d anyB :=
  ⟨h.1, fun _ _ _ _ _ => trivial, fun H enc base spare held n cs x hx => by obtain ⟨y, hy⟩ := h.2 H enc base spare held n cs x hx; exact ⟨y, hy, trivial⟩⟩
theorem opensB_slice {α : Type} {d : Kd α} {B : Nat → α → Prop} {t e : TypeId} (ht : P.underlying t = some (.slice e)) (hs : P.cellsOf t = 1) (hz : 0 < d.sz) (he : OpensB P W e d B) : OpensB P W t (kslice d) (lenB B) := by
  obtain ⟨hsz, hmono, hop⟩ := he
  refine ⟨hs.symm, fun k n y hk h => ⟨Nat.le_trans h.1 hk, fun z hz => hmono _ _ _ hk (h.2 z hz)⟩, fun H enc base spare held n cs x h => ?_⟩
  rcases DataW.trod_slice ht h with ⟨rfl, _⟩ | ⟨a, len, cap, elems, rest, m, _, rfl, hx, hbase, hle, _, hlen, hel, _⟩
  · exact ⟨[], ⟨none, 0, rfl, slNil⟩, by simp, fun _ h => by cases h⟩
  · have hbulk : bulkAll (elems.map (·.1)) ≤ bulk x.1 := by rw [hx]; simp only [bulk]; omega
    have hblen : len ≤ bulk x.1 := by have := bulk_len (elems.map (·.1)); rw [List.length_map, hlen] at this; omega
    rcases Nat.eq_zero_or_pos len with h0 | hpos
    · subst h0
      exact ⟨[], ⟨some a, cap, rfl, ⟨.inl rfl, hle⟩⟩, by simp, fun _ h => by cases h⟩
    · have hget : ∀ i, i < len → ∃ csi, W.cells? base (a.add (i * d.sz)) d.sz = some csi ∧ ∃ y, d.rep (memOf W) csi y ∧ B (bulk x.1) y := by
        intro i hi
        have h1 := hel i hi
        rw [← hsz] at h1
        rw [List.getElem?_eq_getElem (by omega)] at h1
        obtain ⟨csi, h2, h3⟩ := Option.bind_eq_some_iff.1 h1
        obtain ⟨y, hy, hB⟩ := hop _ _ _ _ _ _ _ _ h3
        have hm := bulk_mem (elems.map (·.1)) i (by rw [List.length_map]; omega)
        rw [List.getElem_map] at hm
        exact ⟨csi, h2, y, hy, hmono _ _ _ (Nat.le_trans hm hbulk) hB⟩
      obtain ⟨b, off, spot⟩ := a
      obtain ⟨c, t0, fz, hb, hsp⟩ : ∃ c t0 fz, W.heap[b]? = some (.cells c t0 fz) ∧ spot = none := by
        obtain ⟨csi, h2, _⟩ := hget 0 hpos
        unfold World.cells? at h2
        split at h2
        · obtain ⟨k, hk⟩ : ∃ k, d.sz = k + 1 := ⟨d.sz - 1, by omega⟩
          rw [hk, List.range_succ_eq_map, List.mapM_cons] at h2
          simp only [bind, Option.bind_eq_some_iff] at h2
          obtain ⟨v, hv, _⟩ := h2
          have e0 : ((⟨b, off, spot⟩ : Addr).add (0 * (k + 1))).add 0 = ⟨b, off, spot⟩ := by simp [Addr.add]
          rw [e0] at hv
          unfold World.cell? at hv
          split at hv
          · rename_i c t0 fz hb
            refine ⟨c, t0, fz, hb, ?_⟩
            cases spot with
            | none => rfl
            | some _ => simp at hv
          · cases hv
        · cases h2
      subst hsp
      obtain ⟨ys, hyl, hy⟩ := exists_list (p := fun i y => d.rep (memOf W) ((c.toList.drop (off + i * d.sz)).take d.sz) y ∧ B (bulk x.1) y) len fun i hi => by
        obtain ⟨csi, h2, y, hy, hB⟩ := hget i hi
        refine ⟨y, ?_, hB⟩
        have : csi = (c.toList.drop (off + i * d.sz)).take d.sz := by
          unfold World.cells? at h2
          split at h2
          · refine mapM_cells _ _ _ ?_
            have er : List.range' (off + i * d.sz) d.sz = (List.range d.sz).map (off + i * d.sz + ·) := by simp [List.range_eq_range', List.map_add_range']
            rw [← h2, er, List.mapM_map]
            congr 1
            funext k
            simp only [← addOff_eq, addOff, World.cell?, hb]
            simp
          · cases h2
        rw [← this]; exact hy
      refine ⟨ys, ⟨some ⟨b, off, none⟩, cap, by rw [hyl], ⟨.inr ⟨b, off, c, rfl, by unfold memOf; rw [hb], fun i hi => (hy i hi).1⟩, by omega⟩⟩, by omega, fun y hm => ?_⟩
      obtain ⟨i, hi, rfl⟩ := List.mem_iff_getElem.1 hm
      exact (hy i hi).2
theorem sopenB {H : Type} {enc : TypeId × Value → H} {base : Nat} {spare : Nat → Bool} {held : Bool} {n : Nat} {t : TypeId} {cs : List Value} {x : DataW H × List MemPlace} (hs : isStructT P t = true) (h : DataW.trod enc P W base spare held n t cs = some x) :
    cs.length = P.cellsOf t ∧ ∀ (i t' o : Nat) {α : Type} {d : Kd α} {B : Nat → α → Prop}, OpensB P W t' d B → fieldIs P t i t' o = true → ∃ y, d.rep (memOf W) ((cs.drop o).take d.sz) y ∧ B (bulk x.1) y := by
  unfold isStructT at hs
  split at hs
  · rename_i fs hfs
    obtain ⟨xs, m, _, hx, hl, hn, hf⟩ := DataW.trod_struct hfs h
    refine ⟨hl, fun i t' o α d B hd hi => ?_⟩
    unfold fieldIs at hi
    rw [hfs] at hi
    simp only at hi
    split at hi
    · rename_i f hfi
      rw [Bool.and_eq_true] at hi
      obtain ⟨e1, e2⟩ := hi
      have e1' := Nat.eq_of_beq_eq_true e1
      have e2' := Nat.eq_of_beq_eq_true e2
      subst e1'
      subst e2'
      have h1 := hf i f hfi
      have hil : i < xs.length := by rw [hn]; exact (Array.getElem?_eq_some_iff.1 hfi).1
      rw [List.getElem?_eq_getElem hil] at h1
      rw [hd.1]
      obtain ⟨y, hy, hB⟩ := hd.2.2 _ _ _ _ _ _ _ _ h1
      have hm := bulk_mem (xs.map (·.1)) i (by rw [List.length_map]; exact hil)
      rw [List.getElem_map] at hm
      have hbulk : bulkAll (xs.map (·.1)) ≤ bulk x.1 := by rw [hx]; simp only [bulk]; omega
      exact ⟨y, hy, hd.2.1 _ _ _ (Nat.le_trans hm hbulk) hB⟩
    · cases hi
  · cases hs
end
end Go.Fx
