/- Plain law: a sound node stays sound; leading, standing, ticks, votes. Own work. -/
import Derived.Test.YthpdomeciaafjaaRQC
namespace Go.Proofs.Ythpdomeciaafjaa
open Go.Fx

/-- A sound node of few enough parts. -/
structure Inv (n : S31) : Prop where
  light : LightL n.f5
  log : LogOk n.f5
  id : 1 ≤ n.f0 ∧ n.f0 ≤ 7
  term : termAt n.f5 (lastOf n.f5) ≤ n.f1 ∧ n.f1 ≤ MAXN
  voted : 0 ≤ n.f2 ∧ n.f2 ≤ 7
  lead : 0 ≤ n.f4 ∧ n.f4 ≤ 7
  role : 0 ≤ n.f3 ∧ n.f3 ≤ 2
  rt : n.f1 > 0 ∨ n.f3 = 0
  com : n.f5.f0.f0 ≤ n.f6 ∧ n.f6 ≤ lastOf n.f5
  tick : 0 ≤ n.f10 ∧ n.f10 ≤ MAXN
  tmo : 0 ≤ n.f11 ∧ n.f11 ≤ MAXN
  arr : ArrOk n.f8 n.f9 0
  votes : VotesFrom n.f7 0
  l8 : n.f8.length = 8
  l9 : n.f9.length = 8
theorem inv_of {n : S31} (hl : LightL n.f5) (h : NodeOk n) (h8 : n.f8.length = 8) (h9 : n.f9.length = 8) : Inv n := by
  obtain ⟨h1, ⟨a1, a2, a3, a4, a5, a6, a7, a8, a9⟩, h2, h3⟩ := h
  exact ⟨hl, h1, a1, a2, a3, a4, a5, a6, a7, a8, a9, h2, h3, h8, h9⟩
theorem Inv.node {n : S31} (h : Inv n) : NodeOk n := ⟨h.log, ⟨h.id, h.term, h.voted, h.lead, h.role, h.rt, h.com, h.tick, h.tmo⟩, h.arr, h.votes⟩
theorem Inv.li {n : S31} (h : Inv n) : LI n := ⟨h.light, h.log⟩
theorem Inv.next {n : S31} (h : Inv n) {v : Int} (h0 : 0 ≤ v) (h1 : v < 8) : 0 ≤ nextOf n v ∧ nextOf n v ≤ MAXN := by
  have := (h.arr v.toNat (by omega) (by omega)).1
  exact this
theorem Inv.match_ {n : S31} (h : Inv n) {v : Int} (h0 : 0 ≤ v) (h1 : v < 8) : 0 ≤ n.f9.getD v.toNat 0 ∧ n.f9.getD v.toNat 0 ≤ MAXN := (h.arr v.toNat (by omega) (by omega)).2
theorem Inv.last {n : S31} (h : Inv n) : 0 ≤ n.f5.f0.f0 ∧ n.f5.f0.f0 ≤ lastOf n.f5 ∧ lastOf n.f5 ≤ MAXN := ⟨h.log.1.1, base_le, h.log.2.2.2.1⟩
theorem getD_set {l : List Int} {i j : Nat} {v : Int} : (l.set i v).getD j 0 = if i = j ∧ j < l.length then v else l.getD j 0 := by
  simp only [List.getD_eq_getElem?_getD, List.getElem?_set]
  by_cases h : i = j
  · subst h
    by_cases h2 : i < l.length
    · simp [h2]
    · simp [h2]
  · simp [h]
theorem arr_set {a c : List Int} (h : ArrOk a c 0) {i k : Nat} {v w : Int} (hv : 0 ≤ v ∧ v ≤ MAXN) (hw : 0 ≤ w ∧ w ≤ MAXN) : ArrOk (a.set i v) (c.set k w) 0 := by
  intro j hj hl
  have := h j hj hl
  rw [getD_set, getD_set]
  constructor
  · split
    · exact hv
    · exact this.1
  · split
    · exact hw
    · exact this.2
theorem arr_set9 {a c : List Int} (h : ArrOk a c 0) {k : Nat} {w : Int} (hw : 0 ≤ w ∧ w ≤ MAXN) : ArrOk a (c.set k w) 0 := by
  intro j hj hl
  have := h j hj hl
  rw [getD_set]
  refine ⟨this.1, ?_⟩
  split
  · exact hw
  · exact this.2
theorem arr_set8 {a c : List Int} (h : ArrOk a c 0) {k : Nat} {w : Int} (hw : 0 ≤ w ∧ w ≤ MAXN) : ArrOk (a.set k w) c 0 := by
  intro j hj hl
  have := h j hj hl
  rw [getD_set]
  refine ⟨?_, this.2⟩
  split
  · exact hw
  · exact this.1
theorem arr_rep {v : Int} (hv : 0 ≤ v ∧ v ≤ MAXN) : ArrOk (List.replicate 8 v) (List.replicate 8 0) 0 := by
  intro j hj hl
  have hj8 : j < 8 := by simpa using hl
  have h1 : (List.replicate 8 v).getD j 0 = v := by rw [List.getD_eq_getElem?_getD, List.getElem?_replicate, if_pos hj8]; rfl
  have h2 : (List.replicate 8 (0 : Int)).getD j 0 = 0 := by rw [List.getD_eq_getElem?_getD, List.getElem?_replicate, if_pos hj8]; rfl
  rw [h1, h2]
  exact ⟨hv, by omega, by omega⟩
theorem votes_nil : VotesFrom [] 0 := fun j _ hl => by simp at hl
theorem votes_one {v : Int} (h : 1 ≤ v ∧ v ≤ 7) : VotesFrom [v] 0 := fun j _ hl => by
  have : j = 0 := by simpa using hl
  subst this
  exact ⟨by simpa using h, by simp⟩
theorem votes_snoc {l : List Int} {v : Int} (h : VotesFrom l 0) (hv : 1 ≤ v ∧ v ≤ 7) (hn : v ∉ l) : VotesFrom (l ++ [v]) 0 := by
  intro j hj hl
  by_cases hjl : j < l.length
  · have := h j hj hjl
    rw [List.getD_eq_getElem?_getD, List.getElem?_append_left hjl, ← List.getD_eq_getElem?_getD, List.take_append_of_le_length (by omega)]
    exact this
  · have : j = l.length := by simp at hl; omega
    subst this
    rw [List.getD_eq_getElem?_getD, List.getElem?_append_right (Nat.le_refl _)]
    simp only [Nat.sub_self, List.getElem?_cons_zero, Option.getD_some, List.take_left]
    exact ⟨hv, hn⟩

theorem othersF_n {f : S85 → Int → S85} (hf : ∀ s v, (f s v).f0 = s.f0 ∧ (f s v).f2 = s.f2 ∧ (f s v).f1.length ≤ s.f1.length + 1) : ∀ (l : List Int) (s : S85), (othersF f s l).f0 = s.f0 ∧ (othersF f s l).f2 = s.f2 ∧ (othersF f s l).f1.length ≤ s.f1.length + l.length
  | [], s => by simp [othersF]
  | v :: l, s => by
    simp only [othersF, List.foldl_cons]
    split
    · have := othersF_n hf l s
      simp only [othersF] at this
      exact ⟨this.1, this.2.1, by simp only [List.length_cons]; omega⟩
    · have := othersF_n hf l (f s v)
      simp only [othersF] at this
      have h2 := hf s v
      exact ⟨this.1.trans h2.1, this.2.1.trans h2.2.1, by simp only [List.length_cons]; omega⟩
theorem bring_ok (s : S85) (v : Int) : (bringF s v).f0 = s.f0 ∧ (bringF s v).f2 = s.f2 ∧ (bringF s v).f1.length ≤ s.f1.length + 1 := by
  obtain ⟨a, b, c⟩ := bringF_n s v; exact ⟨a, b, by omega⟩
theorem ask_ok (a b : Int) (s : S85) (v : Int) : (askF a b s v).f0 = s.f0 ∧ (askF a b s v).f2 = s.f2 ∧ (askF a b s v).f1.length ≤ s.f1.length + 1 := by simp [askF, sendF]
theorem m54_inv {s : S85} (h : Inv s.f0) (ho : s.f1.length ≤ 900) : m54 s = some (othersF bringF s (membersOf s.f0.f5)) :=
  m54_eq h.li ho fun v h1 h2 => (h.next (by omega) (by omega)).2
/-- Counting keeps a sound node sound. -/
theorem counts_inv {s : S85} (h : Inv s.f0) : Inv (countsF s).f0 := by
  obtain ⟨_, _, c5, c0, c1, c2, c7, c8, c9, c10, c11, c34, c6⟩ := countsF_n s
  have hr := ncF_range s.f0 (s.f0.f9.set s.f0.f0.toNat (lastOf s.f0.f5)) (membersOf s.f0.f5) (lastOf s.f0.f5 - s.f0.f6).toNat
  have hl := h.last
  have hc := h.com
  refine ⟨by rw [c5]; exact h.light, by rw [c5]; exact h.log, by rw [c0]; exact h.id, by rw [c5, c1]; exact h.term, by rw [c2]; exact h.voted, ?_, ?_, ?_, ?_, by rw [c10]; exact h.tick, by rw [c11]; exact h.tmo, by rw [c8, c9]; exact arr_set9 h.arr (by omega), by rw [c7]; exact h.votes, by rw [c8]; exact h.l8, by rw [c9, List.length_set]; exact h.l9⟩
  · rcases c34 with ⟨_, e⟩ | ⟨_, e⟩ <;> rw [e]
    · exact h.lead
    · omega
  · rcases c34 with ⟨e, _⟩ | ⟨e, _⟩ <;> rw [e]
    · exact h.role
    · omega
  · rcases c34 with ⟨e, _⟩ | ⟨e, _⟩ <;> rw [e]
    · rw [c1]; exact h.rt
    · exact .inr rfl
  · rw [c5, c6]
    omega
theorem m68_inv {s : S85} (h : Inv s.f0) : m68 s = some (countsF s) := m68_eq h.li h.com h.id
/-- Adding an entry of one's own Term. -/
theorem add_inv {s : S85} (h : Inv s.f0) (hr : s.f0.f1 > 0) {kind : Int} {data : List Int} (hk : 0 ≤ kind ∧ kind ≤ 2) (hd : data.length ≤ 4194304) (hc : kind = 2 → MemOk (wr data)) (hl : s.f0.f5.f1.length + 1 ≤ 4194304) : Inv (addF s kind data).f0 ∧ (addF s kind data).f1 = s.f1 ∧ (addF s kind data).f2 = s.f2 := by
  unfold addF
  split
  · exact ⟨h, rfl, rfl⟩
  · rename_i hlt
    have hlt' : lastOf s.f0.f5 < MAXN := by omega
    have he : EntryOk (termAt s.f0.f5 (lastOf s.f0.f5)) ⟨s.f0.f1, kind, data⟩ := ⟨h.term.1, by show 1 ≤ s.f0.f1; omega, h.term.2, hk.1, hk.2, fun h2 => by have := hc h2; exact ⟨this.1, by simpa [wr] using this.2⟩⟩
    refine ⟨⟨light_add h.light hd hl, logOk_add h.log he hlt', h.id, ?_, h.voted, h.lead, h.role, h.rt, ?_, h.tick, h.tmo, h.arr, h.votes, h.l8, h.l9⟩, rfl, rfl⟩
    · refine ⟨?_, h.term.2⟩
      show termAt (addL s.f0.f5 _) (lastOf (addL s.f0.f5 _)) ≤ s.f0.f1
      rw [← term_last]
      show ((s.f0.f5.f0.f1 :: (s.f0.f5.f1 ++ [(⟨s.f0.f1, kind, data⟩ : S80)]).map (·.f0)).getLast?).getD 0 ≤ s.f0.f1
      rw [List.map_append, ← List.cons_append, List.map_singleton, List.getLast?_concat]
      exact Int.le_refl _
    · show s.f0.f5.f0.f0 ≤ s.f0.f6 ∧ s.f0.f6 ≤ lastOf (addL s.f0.f5 _)
      rw [last_add]
      have := h.com; omega
theorem m67_inv {s : S85} (h : Inv s.f0) (kind : Int) {data : List Int} (hd : data.length ≤ 4194304) : m67 s kind data = some (addF s kind data) := m67_eq h.li kind hd
theorem mem_add {l : S26} {t k : Int} {d : List Int} : membersOf (addL l ⟨t, k, d⟩) = if k = 2 then wr d else membersOf l := by simp [membersOf, addL, confOf, List.foldl_append]

theorem lead_inv {n : S31} (h : Inv n) (hr : n.f1 > 0) : Inv (leadN n) := by
  have hl := h.last
  have ht : 0 ≤ topOf n ∧ topOf n ≤ MAXN := by unfold topOf; split <;> omega
  have hid := h.id
  exact ⟨h.light, h.log, h.id, h.term, h.voted, by show 0 ≤ n.f0 ∧ n.f0 ≤ 7; omega, by show (0 : Int) ≤ 2 ∧ (2 : Int) ≤ 2; omega, .inl hr, h.com, by show (0 : Int) ≤ 0 ∧ (0 : Int) ≤ MAXN; omega, h.tmo, arr_rep ht, votes_nil, by simp [leadN], by simp [leadN]⟩
theorem leads_inv {s : S85} (h : Inv s.f0) (hr : s.f0.f1 > 0) (hl : s.f0.f5.f1.length + 1 ≤ 4194304) : Inv (leadsF s).f0 ∧ (leadsF s).f2 = s.f2 ∧ (leadsF s).f1.length ≤ s.f1.length + 7 := by
  obtain ⟨h1, h2, h3⟩ := add_inv (s := { s with f0 := leadN s.f0 }) (lead_inv h hr) hr (kind := 0) (data := []) (by omega) (by simp) (by omega) hl
  have h4 := counts_inv h1
  obtain ⟨c1, c2, _⟩ := countsF_n (addF { s with f0 := leadN s.f0 } 0 [])
  obtain ⟨o1, o2, o3⟩ := othersF_n bring_ok (membersOf (addF { s with f0 := leadN s.f0 } 0 []).f0.f5) (countsF (addF { s with f0 := leadN s.f0 } 0 []))
  have h7 := mem_len (membersOf_ok h1.log)
  have o3' : (leadsF s).f1.length ≤ (countsF (addF { s with f0 := leadN s.f0 } 0 [])).f1.length + (membersOf (addF { s with f0 := leadN s.f0 } 0 []).f0.f5).length := o3
  refine ⟨by unfold leadsF; rw [o1]; exact h4, o2.trans (c2.trans h3), ?_⟩
  rw [c1, h2] at o3'
  have : ({ s with f0 := leadN s.f0 } : S85).f1.length = s.f1.length := rfl
  omega
theorem m63_eq {s : S85} (h : Inv s.f0) (hr : s.f0.f1 > 0) (hl : s.f0.f5.f1.length + 1 ≤ 4194304) (ho : s.f1.length ≤ 900) : m63 s = some (leadsF s) := by
  have hlast := h.last
  have hw : IntKind.i64.wrap (lastOf s.f0.f5 + 1) = lastOf s.f0.f5 + 1 := wrap_id (by omega) (by unfold MAXN at hlast; omega)
  have h36 : ∀ a b : List Int, m36 { s with f0 := { s.f0 with f3 := 2, f4 := s.f0.f0, f7 := [], f8 := a, f9 := b, f10 := 0 } } = some (lastOf s.f0.f5) := fun a b => m36_eq (s := { s with f0 := { s.f0 with f3 := 2, f4 := s.f0.f0, f7 := [], f8 := a, f9 := b, f10 := 0 } }) h.li
  have step : ∀ (k : Nat) (i : Nat) (a b : List Int), i < 8 → m63_j1 (k + 1) (i : Int) a b s = m63_j1 k ((i + 1 : Nat) : Int) (a.set i (topOf s.f0)) (b.set i 0) s := by
    intro k i a b hi
    rw [m63_j1]
    have c1 : (decide ((i : Int) < 8)) = true := by simp; omega
    have c2 : (decide ((0 : Int) ≤ (i : Int)) && decide ((i : Int) < (8 : Nat))) = true := by simp; omega
    have hw1 : IntKind.i64.wrap ((i : Int) + 1) = ((i + 1 : Nat) : Int) := by rw [wrap_id (by omega) (by omega)]; omega
    rw [c1, if_pos rfl, h36, c2]
    simp only [Option.bind_some, if_true, hw, hw1, Int.toNat_natCast]
    rfl
  obtain ⟨k, hk⟩ : ∃ k, FUEL = k + 9 := ⟨4611686018427387904 - 9, rfl⟩
  unfold m63
  rw [hk]
  have e0 : (0 : Int) = ((0 : Nat) : Int) := rfl
  rw [e0, step (k + 8) 0 _ _ (by omega), step (k + 7) 1 _ _ (by omega), step (k + 6) 2 _ _ (by omega), step (k + 5) 3 _ _ (by omega), step (k + 4) 4 _ _ (by omega), step (k + 3) 5 _ _ (by omega), step (k + 2) 6 _ _ (by omega), step (k + 1) 7 _ _ (by omega)]
  have rep : ∀ {l : List Int} (v : Int), l.length = 8 → (((((((((l.set 0 v).set 1 v).set 2 v).set 3 v).set 4 v).set 5 v).set 6 v).set 7 v)) = List.replicate 8 v := by
    intro l v hl
    obtain ⟨a, b, c, d, e, f, g, i, rfl⟩ := eight hl
    rfl
  rw [rep _ h.l8, rep _ h.l9, m63_j1]
  have c1 : (decide (((7 + 1 : Nat) : Int) < 8)) = false := by simp
  rw [c1]
  simp only [Bool.false_eq_true, if_false]
  obtain ⟨h1, h2, h3⟩ := add_inv (s := { s with f0 := leadN s.f0 }) (lead_inv h hr) hr (kind := 0) (data := []) (by omega) (by simp) (by omega) hl
  have e1 : m67 { s with f0 := { s.f0 with f3 := 2, f4 := s.f0.f0, f7 := [], f8 := List.replicate 8 (topOf s.f0), f9 := List.replicate 8 0, f10 := 0 } } 0 [] = some (addF { s with f0 := leadN s.f0 } 0 []) := m67_inv (s := { s with f0 := leadN s.f0 }) (lead_inv h hr) 0 (by simp)
  rw [e1, Option.bind_some, m68_inv h1, Option.bind_some]
  obtain ⟨c1, c2, c5, _⟩ := countsF_n (addF { s with f0 := leadN s.f0 } 0 [])
  rw [m54_inv (counts_inv h1) (by rw [c1, h2]; exact ho), c5]
  rfl
/-! ### Standing, and ticks -/
def standN (n : S31) (draw : Int) : S31 := { n with f1 := n.f1 + 1, f2 := n.f0, f3 := 1, f4 := 0, f7 := [n.f0], f10 := 0, f11 := draw }
def standsF (s : S85) (t : Int) : S85 :=
  let s1 : S85 := { s with f0 := standN s.f0 t }
  if mostB (membersOf s.f0.f5) [s.f0.f0] = true then leadsF s1 else othersF (askF (lastOf s.f0.f5) (termAt s.f0.f5 (lastOf s.f0.f5))) s1 (membersOf s.f0.f5)
theorem stand_inv {n : S31} (h : Inv n) (hm : n.f1 < MAXN) {t : Int} (ht : 10 ≤ t ∧ t < 20) : Inv (standN n t) := by
  have h1 := h.term; have hid := h.id
  have h0 : 0 ≤ n.f1 := by have := termAt_pos h.light h.log base_le (Int.le_refl (lastOf n.f5)); omega
  exact ⟨h.light, h.log, h.id, by show termAt n.f5 (lastOf n.f5) ≤ n.f1 + 1 ∧ n.f1 + 1 ≤ MAXN; omega, by show 0 ≤ n.f0 ∧ n.f0 ≤ 7; omega, by show (0 : Int) ≤ 0 ∧ (0 : Int) ≤ 7; omega, by show (0 : Int) ≤ 1 ∧ (1 : Int) ≤ 2; omega, .inl (by show n.f1 + 1 > 0; omega), h.com, by show (0 : Int) ≤ 0 ∧ (0 : Int) ≤ MAXN; omega, by show 0 ≤ t ∧ t ≤ MAXN; unfold MAXN; omega, h.arr, votes_one hid, h.l8, h.l9⟩
def toOf (x : Int) : Int := (m29 x).getD 0
theorem toOf_eq (x : Int) : m29 x = some (toOf x) ∧ 10 ≤ toOf x ∧ toOf x < 20 := by
  obtain ⟨t, h1, _, h2, h3⟩ := timeout_same x
  unfold toOf; rw [h1]; exact ⟨rfl, h2, h3⟩
theorem m58_eq {s : S85} (h : Inv s.f0) (hm : s.f0.f1 < MAXN) (hl : s.f0.f5.f1.length + 1 ≤ 4194304) (ho : s.f1.length ≤ 800) (draw : Int) : m58 s draw = some (standsF s (toOf draw)) ∧ Inv (standsF s (toOf draw)).f0 ∧ (standsF s (toOf draw)).f2 = s.f2 ∧ (standsF s (toOf draw)).f1.length ≤ s.f1.length + 7 := by
  obtain ⟨t1, t2, t3⟩ := toOf_eq draw
  have h0 : 0 ≤ s.f0.f1 := by have := termAt_pos h.light h.log base_le (Int.le_refl (lastOf s.f0.f5)); have := h.term; omega
  have hs := stand_inv h hm ⟨t2, t3⟩
  have hw : IntKind.i64.wrap (s.f0.f1 + 1) = s.f0.f1 + 1 := wrap_id (by omega) (by unfold MAXN at hm; omega)
  have hmem := membersOf_ok h.log
  have h7 := mem_len hmem
  have e1 : m58 s draw = m58_j1 (toOf draw) s := by
    unfold m58; rw [t1]; rfl
  unfold m58_j1 at e1
  rw [hw] at e1
  have e2 : m57 { s with f0 := { s.f0 with f1 := s.f0.f1 + 1, f2 := s.f0.f0, f3 := 1, f4 := 0, f7 := [s.f0.f0], f10 := 0, f11 := toOf draw } } = some (membersOf s.f0.f5) := m57_eq (s := { s with f0 := standN s.f0 (toOf draw) }) hs.li
  rw [e2, Option.bind_some, m62_eq hmem (by simp), Option.bind_some] at e1
  simp only [standsF]
  by_cases hb : mostB (membersOf s.f0.f5) [s.f0.f0] = true
  · rw [if_pos hb]
    rw [if_pos hb] at e1
    have e3 : m63 { s with f0 := { s.f0 with f1 := s.f0.f1 + 1, f2 := s.f0.f0, f3 := 1, f4 := 0, f7 := [s.f0.f0], f10 := 0, f11 := toOf draw } } = some (leadsF { s with f0 := standN s.f0 (toOf draw) }) := m63_eq (s := { s with f0 := standN s.f0 (toOf draw) }) hs (by show s.f0.f1 + 1 > 0; omega) hl (by show s.f1.length ≤ 900; omega)
    rw [e3] at e1
    exact ⟨e1, leads_inv (s := { s with f0 := standN s.f0 (toOf draw) }) hs (by show s.f0.f1 + 1 > 0; omega) hl⟩
  · rw [if_neg hb]
    rw [if_neg hb, m41_eq h.light h.log, Option.bind_some] at e1
    have e3 : m54v1 { s with f0 := { s.f0 with f1 := s.f0.f1 + 1, f2 := s.f0.f0, f3 := 1, f4 := 0, f7 := [s.f0.f0], f10 := 0, f11 := toOf draw } } (lastOf s.f0.f5) (termAt s.f0.f5 (lastOf s.f0.f5)) = some (othersF (askF (lastOf s.f0.f5) (termAt s.f0.f5 (lastOf s.f0.f5))) { s with f0 := standN s.f0 (toOf draw) } (membersOf s.f0.f5)) := m54v1_eq (s := { s with f0 := standN s.f0 (toOf draw) }) hs.li (by show s.f1.length ≤ 900; omega) _ _
    rw [e3] at e1
    obtain ⟨o1, o2, o3⟩ := othersF_n (ask_ok (lastOf s.f0.f5) (termAt s.f0.f5 (lastOf s.f0.f5))) (membersOf s.f0.f5) { s with f0 := standN s.f0 (toOf draw) }
    exact ⟨e1, by rw [o1]; exact hs, o2, by have : ({ s with f0 := standN s.f0 (toOf draw) } : S85).f1.length = s.f1.length := rfl; omega⟩
def tickOf (n : S31) : Int := if MAXN < n.f10 + 1 then MAXN else n.f10 + 1
def tickF (s : S85) (draw : Int) : S85 :=
  let s1 : S85 := { s with f0 := { s.f0 with f10 := tickOf s.f0 } }
  if s.f0.f3 = 2 then (if tickOf s.f0 ≥ 2 then othersF bringF { s with f0 := { s.f0 with f10 := 0 } } (membersOf s.f0.f5) else s1)
  else if tickOf s.f0 ≥ s.f0.f11 ∧ s.f0.f0 ∈ membersOf s.f0.f5 ∧ s.f0.f1 < MAXN then standsF s1 (toOf draw) else s1
theorem tick_inv {n : S31} (h : Inv n) {v : Int} (hv : 0 ≤ v ∧ v ≤ MAXN) : Inv { n with f10 := v } :=
  ⟨h.light, h.log, h.id, h.term, h.voted, h.lead, h.role, h.rt, h.com, hv, h.tmo, h.arr, h.votes, h.l8, h.l9⟩
theorem m34_eq {s : S85} (h : Inv s.f0) (hl : s.f0.f5.f1.length + 1 ≤ 4194304) (ho : s.f1.length ≤ 700) (draw : Int) : m34 s draw = some (tickF s draw) ∧ Inv (tickF s draw).f0 ∧ (tickF s draw).f2 = s.f2 ∧ (tickF s draw).f1.length ≤ s.f1.length + 7 := by
  have ht := h.tick
  have hw : IntKind.i64.wrap (s.f0.f10 + 1) = s.f0.f10 + 1 := wrap_id (by omega) (by unfold MAXN at ht; omega)
  have htk : 0 ≤ tickOf s.f0 ∧ tickOf s.f0 ≤ MAXN := by unfold tickOf; unfold MAXN; split <;> omega
  have e0 : (if 1152921504606846976 < s.f0.f10 + 1 then 1152921504606846976 else s.f0.f10 + 1) = tickOf s.f0 := rfl
  have hmem := membersOf_ok h.log
  have h7 := mem_len hmem
  unfold m34 m34_j1
  rw [hw, e0]
  by_cases h2 : s.f0.f3 = 2
  · have b1 : ((s.f0.f3 : Int) == 2) = true := by simp [h2]
    rw [b1, if_pos rfl]
    by_cases h3 : tickOf s.f0 ≥ 2
    · have e : tickF s draw = othersF bringF { s with f0 := { s.f0 with f10 := 0 } } (membersOf s.f0.f5) := by unfold tickF; rw [if_pos h2, if_pos h3]
      have hi := tick_inv h (v := 0) (by unfold MAXN; omega)
      have := m54_inv (s := { s with f0 := { s.f0 with f10 := 0 } }) hi (by show s.f1.length ≤ 900; omega)
      obtain ⟨o1, o2, o3⟩ := othersF_n bring_ok (membersOf s.f0.f5) { s with f0 := { s.f0 with f10 := 0 } }
      have o3' : (othersF bringF { s with f0 := { s.f0 with f10 := 0 } } (membersOf s.f0.f5)).f1.length ≤ s.f1.length + (membersOf s.f0.f5).length := o3
      rw [e]
      refine ⟨?_, by rw [o1]; exact hi, o2, by omega⟩
      simp only [h3, decide_true, if_true, this, Option.bind_some]
    · have e : tickF s draw = { s with f0 := { s.f0 with f10 := tickOf s.f0 } } := by unfold tickF; rw [if_pos h2, if_neg h3]
      rw [e]
      refine ⟨?_, tick_inv h htk, rfl, Nat.le_add_right _ _⟩
      simp only [h3, decide_false, Bool.false_eq_true, if_false]
  · have b1 : ((s.f0.f3 : Int) == 2) = false := by simp [h2]
    have hi := tick_inv h htk
    rw [b1]
    have hno : ∀ _ : ¬ (tickOf s.f0 ≥ s.f0.f11 ∧ s.f0.f0 ∈ membersOf s.f0.f5 ∧ s.f0.f1 < MAXN), tickF s draw = { s with f0 := { s.f0 with f10 := tickOf s.f0 } } := by
      intro hx; unfold tickF; rw [if_neg h2, if_neg hx]
    simp only [Bool.false_eq_true, if_false]
    by_cases h3 : tickOf s.f0 ≥ s.f0.f11
    · have e2 : m57 { s with f0 := { s.f0 with f10 := tickOf s.f0 } } = some (membersOf s.f0.f5) := m57_eq (s := { s with f0 := { s.f0 with f10 := tickOf s.f0 } }) hi.li
      by_cases h4 : s.f0.f0 ∈ membersOf s.f0.f5
      · by_cases h5 : s.f0.f1 < MAXN
        · have h5' : s.f0.f1 < 1152921504606846976 := h5
          obtain ⟨q1, q2, q3, q4⟩ := m58_eq (s := { s with f0 := { s.f0 with f10 := tickOf s.f0 } }) hi h5 hl (by show s.f1.length ≤ 800; omega) draw
          have e : tickF s draw = standsF { s with f0 := { s.f0 with f10 := tickOf s.f0 } } (toOf draw) := by unfold tickF; rw [if_neg h2, if_pos ⟨h3, h4, h5⟩]
          rw [e]
          refine ⟨?_, q2, q3, q4⟩
          simp only [h3, decide_true, if_true, e2, Option.bind_some, m56_eq (membersOf s.f0.f5) s.f0.f0 (by omega), h4, h5', q1]
        · have h5' : ¬ s.f0.f1 < 1152921504606846976 := h5
          rw [hno (fun hx => h5 hx.2.2)]
          refine ⟨?_, hi, rfl, Nat.le_add_right _ _⟩
          simp only [h3, decide_true, if_true, e2, Option.bind_some, m56_eq (membersOf s.f0.f5) s.f0.f0 (by omega), h4, h5', decide_false, Bool.false_eq_true, if_false]
      · rw [hno (fun hx => h4 hx.2.1)]
        refine ⟨?_, hi, rfl, Nat.le_add_right _ _⟩
        simp only [h3, decide_true, if_true, e2, Option.bind_some, m56_eq (membersOf s.f0.f5) s.f0.f0 (by omega), h4, decide_false, Bool.false_eq_true, if_false]
    · rw [hno (fun hx => h3 hx.1)]
      refine ⟨?_, hi, rfl, Nat.le_add_right _ _⟩
      simp only [h3, decide_false, Bool.false_eq_true, if_false]
end Go.Proofs.Ythpdomeciaafjaa
