/- Plain law: merging entries into a log. Own work. -/
import Derived.Test.YthpdomeciaafjaaRQD
namespace Go.Proofs.Ythpdomeciaafjaa
open Go.Fx

noncomputable instance logDec (x : S26) : Decidable (LogOk x) := Classical.propDecidable _
theorem m99_eq {n : Int} (h0 : 0 ≤ n) (h1 : n ≤ 16777216) : m99 n = some [] := by
  unfold m99 m99_j1 m99_j2
  have e : IntKind.i64.wrap (n - IntKind.i64.wrap (0 - 0)) = n := by rw [wrap_id (x := 0 - 0) (by omega) (by omega), wrap_id (by omega) (by omega)]; omega
  rw [e]
  have c0 : ¬ n < 0 := by omega
  by_cases h : n > 0
  · have g : (decide ((0 : Int) < n) && (decide (n.toNat * 40 ≤ 140737488355328) && decide (n.toNat ≤ 140737488355328))) = true := by
      simp only [Bool.and_eq_true, decide_eq_true_eq]; omega
    rw [g]
    simp [c0, h]
    omega
  · simp [c0, h]
theorem m96_eq {a b : List S80} (ha : a.length ≤ 4194304) (hb : b.length ≤ 4194304) : m96 [a, b] = some (a ++ b) := by
  obtain ⟨k, hk⟩ : ∃ k, FUEL = k + 3 := ⟨4611686018427387904 - 3, rfl⟩
  have w1 : IntKind.i64.wrap (0 + 1) = 1 := wrap_id (by omega) (by omega)
  have w2 : IntKind.i64.wrap (1 + 1) = 2 := wrap_id (by omega) (by omega)
  have w3 : IntKind.i64.wrap (0 + (a.length : Int)) = a.length := by rw [wrap_id (by omega) (by omega)]; omega
  have w4 : IntKind.i64.wrap ((a.length : Int) + (b.length : Int)) = a.length + b.length := wrap_id (by omega) (by omega)
  have i0 : idx [a, b] 0 = some a := rfl
  have i1 : idx [a, b] 1 = some b := rfl
  have n0 : ¬ ((a.length : Int) < 0) := by omega
  have n1 : ¬ ((a.length : Int) + b.length < 0) := by omega
  have c0 : decide ((0 : Int) < (([a, b] : List (List S80)).length : Int)) = true := rfl
  have c1 : decide ((1 : Int) < (([a, b] : List (List S80)).length : Int)) = true := rfl
  have c2 : decide ((2 : Int) < (([a, b] : List (List S80)).length : Int)) = false := rfl
  unfold m96
  rw [hk]
  have s0 : m96_j1 (k + 3) 0 0 [a, b] = m96_j1 (k + 2) 1 a.length [a, b] := by
    rw [m96_j1, i0, c0]
    simp only [Option.bind_some, w3, n0, decide_false, Bool.false_eq_true, if_false, if_true, m96_j2, w1]
  have s1 : m96_j1 (k + 2) 1 a.length [a, b] = m96_j1 (k + 1) 2 (a.length + b.length) [a, b] := by
    rw [m96_j1, i1, c1]
    simp only [Option.bind_some, w4, n1, decide_false, Bool.false_eq_true, if_false, if_true, m96_j2, w2]
  have s2 : m96_j1 (k + 1) 2 (a.length + b.length) [a, b] = m96_j3 FUEL 0 [a, b] [] := by
    rw [m96_j1, m99_eq (by omega) (by omega), c2]
    simp only [Bool.false_eq_true, if_false, Option.bind_some]
  have g1 : (decide ((([] : List S80).length + a.length) * 40 ≤ 140737488355328) && decide (([] : List S80).length + a.length ≤ 140737488355328)) = true := by
    simp only [List.length_nil, Bool.and_eq_true, decide_eq_true_eq]; omega
  have g2 : (decide ((a.length + b.length) * 40 ≤ 140737488355328) && decide (a.length + b.length ≤ 140737488355328)) = true := by
    simp only [Bool.and_eq_true, decide_eq_true_eq]; omega
  have t0 : m96_j3 (k + 3) 0 [a, b] [] = m96_j3 (k + 2) 1 [a, b] a := by
    rw [m96_j3, i0, c0]
    simp only [Option.bind_some, g1, if_true, w1, List.nil_append]
  have t1 : m96_j3 (k + 2) 1 [a, b] a = m96_j3 (k + 1) 2 [a, b] (a ++ b) := by
    rw [m96_j3, i1, c1]
    simp only [Option.bind_some, g2, if_true, w2]
  rw [s0, s1, s2, hk, t0, t1, m96_j3, c2]
  simp only [Bool.false_eq_true, if_false]
noncomputable def cutF (l : S26) (p : Int) (t : List S80) : S26 × Int × Int :=
  if LogOk ⟨l.f0, l.f1.take (p - l.f0.f0 - 1).toNat ++ t⟩ then (⟨l.f0, l.f1.take (p - l.f0.f0 - 1).toNat ++ t⟩, p, 0) else (S26.mk (S23.mk 0 0 []) [], 0, 3)
noncomputable def mergeF (l : S26) : Int → List S80 → S26 × Int × Int
  | _, [] => (l, lastOf l + 1, 0)
  | p, e :: t => if p ≤ lastOf l ∧ termAt l p = e.f0 then mergeF l (p + 1) t else cutF l p (e :: t)
/-- Entries of few enough parts. -/
def LightE (es : List S80) : Prop := es.length ≤ 2097152 ∧ ∀ e ∈ es, e.f2.length ≤ 4194304
theorem light_cut {l : S26} {es : List S80} (hx : LightL l) (hl : l.f1.length ≤ 2097152) (he : LightE es) (n k : Nat) : LightL ⟨l.f0, l.f1.take n ++ es.drop k⟩ := by
  refine ⟨?_, hx.2.1, ?_⟩
  · show (l.f1.take n ++ es.drop k).length ≤ 4194304
    rw [List.length_append, List.length_take, List.length_drop]
    have := he.1; omega
  · intro e h
    rcases List.mem_append.1 h with h | h
    · exact hx.2.2 e (List.mem_of_mem_take h)
    · exact he.2 e (List.mem_of_mem_drop h)
theorem m87_cut {l : S26} {es : List S80} {L} (hx : LightL l) (hok : LogOk l) (hl : l.f1.length ≤ 2097152) (he : LightE es) {i p x1 : Int} (h0 : 0 ≤ i) (h1 : i ≤ es.length) (hp : l.f0.f0 < p) (hp2 : p ≤ lastOf l + 1) :
    m87_j2 L false x1 i p i es l = some (cutF l p (es.drop i.toNat)) := by
  have hb := hok.1; have hm := hok.2.2.2.1; have hel := he.1
  unfold lastOf at hp2
  have e1 : IntKind.i64.wrap (IntKind.i64.wrap (p - l.f0.f0) - 1) = p - l.f0.f0 - 1 := by rw [wrap_id (x := p - l.f0.f0) (by omega) (by omega), wrap_id (by omega) (by omega)]
  unfold m87_j2
  rw [e1]
  have c1 : (decide ((0 : Int) ≤ (0 : Int)) && decide ((0 : Int) ≤ p - l.f0.f0 - 1) && decide (p - l.f0.f0 - 1 ≤ (l.f1.length : Int))) = true := by
    simp only [Bool.and_eq_true, decide_eq_true_eq]; omega
  have c2 : (decide ((0 : Int) ≤ i) && decide (i ≤ (es.length : Int)) && decide ((es.length : Int) ≤ (es.length : Int))) = true := by
    simp only [Bool.and_eq_true, decide_eq_true_eq]; omega
  rw [c1, c2]
  have d1 : (l.f1.drop (0 : Int).toNat).take ((p - l.f0.f0 - 1).toNat - (0 : Int).toNat) = l.f1.take (p - l.f0.f0 - 1).toNat := by simp
  have d2 : (es.drop i.toNat).take ((es.length : Int).toNat - i.toNat) = es.drop i.toNat := by rw [List.take_of_length_le (by simp)]
  rw [d1, d2, m96_eq (by rw [List.length_take]; omega) (by rw [List.length_drop]; omega)]
  simp only [Bool.false_eq_true, if_false, if_true, Option.bind_some]
  have hli := light_cut hx hl he (p - l.f0.f0 - 1).toNat i.toNat
  unfold m87_j3 cutF
  by_cases h : LogOk ⟨l.f0, l.f1.take (p - l.f0.f0 - 1).toNat ++ es.drop i.toNat⟩
  · rw [if_pos h, m40_ok hli h]; rfl
  · rw [if_neg h, m40_bad hli h]; rfl
theorem m87_loop {l : S26} {es : List S80} (hx : LightL l) (hok : LogOk l) (hl : l.f1.length ≤ 2097152) (he : LightE es) {x1 : Int} (hb : l.f0.f0 ≤ x1) : ∀ (k : Nat) (i : Int), 0 ≤ i → i ≤ (es.length : Int) → (es.length : Int) - i < (k : Int) → x1 + i ≤ lastOf l →
    m87_j1 k x1 i es l = some (mergeF l (x1 + 1 + i) (es.drop i.toNat)) := by
  have hb0 := hok.1; have hm := hok.2.2.2.1; have hel := he.1
  have hlast : lastOf l ≤ 1152921504606846976 := hm
  intro k
  induction k with
  | zero => intro i h0 h1 h2; omega
  | succ k ih =>
    intro i h0 h1 h2 h3
    rw [m87_j1, m80_eq hx hok]
    by_cases hi : i < (es.length : Int)
    · obtain ⟨e, hie⟩ := idx_some h0 hi
      have hw : IntKind.i64.wrap (i + 1) = i + 1 := wrap_id (by omega) (by omega)
      have hw2 : IntKind.i64.wrap (IntKind.i64.wrap (x1 + 1) + i) = x1 + 1 + i := by rw [wrap_id (x := x1 + 1) (by omega) (by omega), wrap_id (by omega) (by omega)]
      have hcut := m87_cut (L := m87_j1 k) (x1 := x1) hx hok hl he h0 (by omega) (p := x1 + 1 + i) (by omega) (by omega)
      rw [hie, idx_drop hie, hw2]
      rw [idx_drop hie] at hcut
      simp only [hi, decide_true, if_true, Option.bind_some, mergeF]
      by_cases hp : x1 + 1 + i ≤ lastOf l
      · simp only [hp, decide_true, if_true, true_and]
        rw [m74_eq hx hok (by omega) hp, Option.bind_some]
        by_cases ht : termAt l (x1 + 1 + i) = e.f0
        · have hbq : ((termAt l (x1 + 1 + i) : Int) == e.f0) = true := by simp [ht]
          rw [hbq, if_pos ht, m87_j2, if_pos rfl, hw, ih (i + 1) (by omega) (by omega) (by omega) (by omega), show x1 + 1 + (i + 1) = x1 + 1 + i + 1 by omega]
        · have hbq : ((termAt l (x1 + 1 + i) : Int) == e.f0) = false := by simp [ht]
          rw [hbq, if_neg ht, hcut]
      · simp only [hp, decide_false, Bool.false_eq_true, if_false, false_and]
        exact hcut
    · have : es.drop i.toNat = [] := List.drop_eq_nil_of_le (by omega)
      have hw : IntKind.i64.wrap (lastOf l + 1) = lastOf l + 1 := wrap_id (by have := base_le (x := l); omega) (by omega)
      simp only [hi, decide_false, Bool.false_eq_true, if_false, this, mergeF, Option.bind_some, hw]
theorem m87_eq {l : S26} {es : List S80} (hx : LightL l) (hok : LogOk l) (hl : l.f1.length ≤ 2097152) (he : LightE es) {x1 : Int} (hb : l.f0.f0 ≤ x1) (h2 : x1 ≤ lastOf l) : m87 l x1 es = some (mergeF l (x1 + 1) es) := by
  unfold m87
  have hel := he.1
  rw [m73_eq hx hok, if_pos ⟨hb, h2⟩]
  have := m87_loop hx hok hl he hb FUEL 0 (by omega) (by omega) (by show (es.length : Int) - 0 < ((4611686018427387904 : Nat) : Int); omega) (by omega)
  simpa using this
theorem entries_le : ∀ (es : List S80) (p : Int), EntriesOk p es → p ≤ ((p :: es.map (·.f0)).getLast?).getD 0 ∧ ∀ e ∈ es, e.f0 ≤ ((p :: es.map (·.f0)).getLast?).getD 0
  | [], p, _ => ⟨by simp, fun e he => by cases he⟩
  | a :: es, p, h => by
    have h1 := entries_le es a.f0 h.2
    have e1 : (p :: (a :: es).map (·.f0)).getLast? = (a.f0 :: es.map (·.f0)).getLast? := by simp [List.getLast?_cons_cons]
    rw [e1]
    refine ⟨by have := h.1.1; omega, fun e he => ?_⟩
    rcases List.mem_cons.1 he with rfl | he
    · exact h1.1
    · exact h1.2 e he
/-- No entry's Term is above the last one's; nor is the last one's above all. -/
theorem last_le {l : S26} (h : LogOk l) {t : Int} : termAt l (lastOf l) ≤ t ↔ (l.f0.f1 ≤ t ∧ ∀ e ∈ l.f1, e.f0 ≤ t) := by
  rw [← term_last]
  have := entries_le l.f1 l.f0.f1 h.2.2.2.2
  constructor
  · intro ht
    exact ⟨by omega, fun e he => by have := this.2 e he; omega⟩
  · intro ht
    cases hg : (l.f0.f1 :: l.f1.map (·.f0)).getLast? with
    | none => simp at hg
    | some v =>
      have hv := List.mem_of_getLast? hg
      rcases List.mem_cons.1 hv with rfl | hv
      · exact ht.1
      · obtain ⟨e, he, rfl⟩ := List.mem_map.1 hv
        exact ht.2 e he
theorem termAt_take {l l2 : S26} (h0 : l2.f0 = l.f0) {n : Nat} {t : List S80} (h1 : l2.f1 = l.f1.take n ++ t) {i : Int} (hi : l.f0.f0 ≤ i) (hi2 : i ≤ l.f0.f0 + n) (hn : n ≤ l.f1.length) : termAt l2 i = termAt l i := by
  unfold termAt
  rw [h0, h1]
  by_cases h : i = l.f0.f0
  · rw [if_pos h, if_pos h]
  · rw [if_neg h, if_neg h]
    have hk : (i - l.f0.f0 - 1).toNat < n := by omega
    rw [List.map_append, List.map_take, List.getD_eq_getElem?_getD, List.getElem?_append_left (by simp; omega), List.getElem?_take_of_lt hk, ← List.getD_eq_getElem?_getD]
/-- What merging leaves. -/
theorem merge_ok {l : S26} (hx : LightL l) (hok : LogOk l) (hl : l.f1.length ≤ 2097152) : ∀ (es : List S80), LightE es → ∀ (p : Int), l.f0.f0 < p → p ≤ lastOf l + 1 → (mergeF l p es).2.2 = 0 →
    LogOk (mergeF l p es).1 ∧ LightL (mergeF l p es).1 ∧ (mergeF l p es).1.f0 = l.f0 ∧ (mergeF l p es).1.f1.length ≤ 4194304 ∧ p ≤ (mergeF l p es).2.1 ∧ (mergeF l p es).2.1 ≤ lastOf (mergeF l p es).1 + 1 ∧ p + es.length ≤ lastOf (mergeF l p es).1 + 1 ∧ (∀ e ∈ (mergeF l p es).1.f1, e ∈ l.f1 ∨ e ∈ es) ∧ (∀ i, l.f0.f0 ≤ i → i < (mergeF l p es).2.1 → termAt (mergeF l p es).1 i = termAt l i)
  | [], _, p, h1, h2, _ => ⟨hok, hx, rfl, by show l.f1.length ≤ _; omega, h2, Int.le_refl _, by simp only [mergeF, List.length_nil]; omega, fun e he => .inl he, fun i _ _ => rfl⟩
  | e :: t, he, p, h1, h2, h3 => by
    unfold mergeF at h3 ⊢
    by_cases hc : p ≤ lastOf l ∧ termAt l p = e.f0
    · rw [if_pos hc] at h3 ⊢
      have het : LightE t := ⟨by have := he.1; simp only [List.length_cons] at this; omega, fun x hx => he.2 x (List.mem_cons_of_mem _ hx)⟩
      obtain ⟨a1, a2, a3, a4, a5, a6, a7, a8, a9⟩ := merge_ok hx hok hl t het (p + 1) (by omega) (by omega) h3
      exact ⟨a1, a2, a3, a4, by omega, a6, by simp only [List.length_cons]; omega, fun x hx => (a8 x hx).imp id (List.mem_cons_of_mem _), a9⟩
    · rw [if_neg hc] at h3 ⊢
      have hll : lastOf l = l.f0.f0 + l.f1.length := rfl
      unfold cutF at h3 ⊢
      by_cases hk : LogOk ⟨l.f0, l.f1.take (p - l.f0.f0 - 1).toNat ++ e :: t⟩
      · rw [if_pos hk]
        have hli := light_cut hx hl he (p - l.f0.f0 - 1).toNat 0
        rw [List.drop_zero] at hli
        have hlen : (l.f1.take (p - l.f0.f0 - 1).toNat ++ e :: t).length = (p - l.f0.f0 - 1).toNat + (e :: t).length := by rw [List.length_append, List.length_take]; omega
        have hlast : lastOf (⟨l.f0, l.f1.take (p - l.f0.f0 - 1).toNat ++ e :: t⟩ : S26) = p - 1 + (e :: t).length := by
          show l.f0.f0 + ((l.f1.take (p - l.f0.f0 - 1).toNat ++ e :: t).length : Nat) = _
          rw [hlen]; omega
        refine ⟨hk, hli, rfl, hli.1, Int.le_refl _, ?_, ?_, ?_, ?_⟩
        · show p ≤ lastOf _ + 1
          rw [hlast]; simp only [List.length_cons]; omega
        · show p + _ ≤ lastOf _ + 1
          rw [hlast]; omega
        · intro x hx
          rcases List.mem_append.1 hx with h | h
          · exact .inl (List.mem_of_mem_take h)
          · exact .inr h
        · intro i hi1 hi2
          have hi3 : i < p := hi2
          exact termAt_take (l := l) (l2 := ⟨l.f0, l.f1.take (p - l.f0.f0 - 1).toNat ++ e :: t⟩) (n := (p - l.f0.f0 - 1).toNat) (t := e :: t) rfl rfl hi1 (by omega) (by omega)
      · rw [if_neg hk] at h3
        simp at h3
end Go.Proofs.Ythpdomeciaafjaa
