/- Plain law: counting and leading. Own work. -/
import Derived.Test.YthpdomeciaafjaaRQB
namespace Go.Proofs.Ythpdomeciaafjaa
open Go.Fx

theorem haves_len (m : List Int) (i : Int) : (haves m i).length ≤ 8 := by
  unfold haves
  exact Nat.le_trans (List.length_filter_le _ _) (by simp)
theorem m68_j6_eq {s : S85} (b : Bool) (t c : Int) : m68_j6 b t c s = some (if b = true then { s with f0 := { s.f0 with f3 := 0, f4 := 0, f6 := c, f9 := s.f0.f9.set s.f0.f0.toNat t } } else { s with f0 := { s.f0 with f6 := c, f9 := s.f0.f9.set s.f0.f0.toNat t } }) := by
  unfold m68_j6; cases b <;> rfl
theorem m68_j5_eq {s : S85} (h : LI s.f0) {c : Int} (hc : s.f0.f5.f0.f0 ≤ c ∧ c ≤ lastOf s.f0.f5) {t : Int} {mem : List Int} (hm : MemOk mem) :
    m68_j5 t c mem s = some (if s.f0.f0 ∉ mem ∧ pendB { s.f0 with f6 := c, f9 := s.f0.f9.set s.f0.f0.toNat t } = false then { s with f0 := { s.f0 with f3 := 0, f4 := 0, f6 := c, f9 := s.f0.f9.set s.f0.f0.toNat t } } else { s with f0 := { s.f0 with f6 := c, f9 := s.f0.f9.set s.f0.f0.toNat t } }) := by
  have h7 := mem_len hm
  unfold m68_j5
  rw [m56_eq _ _ (by omega)]
  have hp := m71_eq (s := { s with f0 := { s.f0 with f6 := c, f9 := s.f0.f9.set s.f0.f0.toNat t } }) h hc
  simp only [Option.bind_some]
  by_cases h1 : s.f0.f0 ∈ mem
  · simp [h1, m68_j6_eq]
  · have e1 : (!decide (s.f0.f0 ∈ mem)) = true := by simp [h1]
    rw [e1, if_pos rfl, hp, Option.bind_some, m68_j6_eq]
    cases hpb : pendB { s.f0 with f6 := c, f9 := s.f0.f9.set s.f0.f0.toNat t } <;> simp [h1]
theorem haves_step (m : List Int) (i : Int) : ∀ n : Nat, ((List.range (n + 1)).map Int.ofNat).filter (fun id => decide (m.getD id.toNat 0 ≥ i)) = ((List.range n).map Int.ofNat).filter (fun id => decide (m.getD id.toNat 0 ≥ i)) ++ (if m.getD n 0 ≥ i then [(n : Int)] else []) := by
  intro n
  rw [List.range_succ, List.map_append, List.filter_append]
  congr 1
  by_cases h : m.getD n 0 ≥ i
  · rw [if_pos h]
    show List.filter _ [Int.ofNat n] = _
    rw [List.filter_cons_of_pos (by simpa using h)]; rfl
  · rw [if_neg h]
    show List.filter _ [Int.ofNat n] = _
    rw [List.filter_cons_of_neg (by simpa using h)]; rfl
theorem m68_j3_eq {s : S85} {L1 : Int → Int → List Int → S85 → Option S85} {t i : Int} {mem : List Int} (hm : MemOk mem) : ∀ (d : Nat) (j : Nat) (k : Nat), d + j = 8 → d < k →
    m68_j3 L1 k t i (j : Int) mem (((List.range j).map Int.ofNat).filter fun id => decide ((s.f0.f9.set s.f0.f0.toNat t).getD id.toNat 0 ≥ i)) s =
      (if mostB mem (haves (s.f0.f9.set s.f0.f0.toNat t) i) = true then m68_j5 t i mem s else L1 t (IntKind.i64.wrap (i - 1)) mem s) := by
  intro d
  induction d with
  | zero =>
    intro j k hj hk
    obtain ⟨k, rfl⟩ : ∃ m, k = m + 1 := ⟨k - 1, by omega⟩
    obtain rfl : j = 8 := by omega
    rw [m68_j3]
    have := haves_len (s.f0.f9.set s.f0.f0.toNat t) i
    unfold haves at this
    rw [m62_eq hm (by omega)]
    simp only [show ¬ (((8 : Nat) : Int) < 8) by omega, decide_false, Bool.false_eq_true, if_false, Option.bind_some]
    rfl
  | succ d ih =>
    intro j k hj hk
    obtain ⟨k, rfl⟩ : ∃ m, k = m + 1 := ⟨k - 1, by omega⟩
    have hih := ih (j + 1) k (by omega) (by omega)
    rw [haves_step] at hih
    have hl : ((((List.range j).map Int.ofNat).filter fun id => decide ((s.f0.f9.set s.f0.f0.toNat t).getD id.toNat 0 ≥ i))).length ≤ 8 := Nat.le_trans (List.length_filter_le _ _) (by simp; omega)
    have hw : IntKind.i64.wrap ((j : Int) + 1) = ((j + 1 : Nat) : Int) := by rw [wrap_id (by omega) (by omega)]; omega
    rw [m68_j3]
    have c1 : (decide ((j : Int) < 8)) = true := by simp; omega
    have c2 : (decide ((0 : Int) ≤ (j : Int)) && decide ((j : Int) < (8 : Nat))) = true := by simp; omega
    rw [c1, c2]
    simp only [if_true, Int.toNat_natCast]
    by_cases h : (s.f0.f9.set s.f0.f0.toNat t).getD j 0 ≥ i
    · rw [if_pos h] at hih
      have hg : (decide (((((List.range j).map Int.ofNat).filter fun id => decide ((s.f0.f9.set s.f0.f0.toNat t).getD id.toNat 0 ≥ i)).length + ([(j : Int)] : List Int).length) * 8 ≤ 140737488355328) && decide ((((List.range j).map Int.ofNat).filter fun id => decide ((s.f0.f9.set s.f0.f0.toNat t).getD id.toNat 0 ≥ i)).length + ([(j : Int)] : List Int).length ≤ 140737488355328)) = true := by
        simp only [List.length_singleton, Bool.and_eq_true, decide_eq_true_eq]; omega
      simp only [h, decide_true, if_true, hg, m68_j4, hw]
      exact hih
    · rw [if_neg h, List.append_nil] at hih
      simp only [h, decide_false, Bool.false_eq_true, if_false, m68_j4, hw]
      exact hih
theorem m68_loop {s : S85} (h : LI s.f0) (hc : s.f0.f5.f0.f0 ≤ s.f0.f6) {mem : List Int} (hm : MemOk mem) {t : Int} : ∀ (d k : Nat), d < k → s.f0.f6 + d ≤ lastOf s.f0.f5 →
    m68_j1 k t (s.f0.f6 + d) mem s = m68_j5 t (ncF s.f0 (s.f0.f9.set s.f0.f0.toNat t) mem d) mem s := by
  have hb := h.2.1
  have hlast : lastOf s.f0.f5 ≤ 1152921504606846976 := h.2.2.2.2.1
  intro d
  induction d with
  | zero =>
    intro k hk _
    obtain ⟨k, rfl⟩ : ∃ m, k = m + 1 := ⟨k - 1, by omega⟩
    rw [m68_j1]
    simp [ncF]
  | succ d ih =>
    intro k hk hd
    obtain ⟨k, rfl⟩ : ∃ m, k = m + 1 := ⟨k - 1, by omega⟩
    rw [m68_j1, m69_in h.1 h.2 (by omega) hd]
    have hgt : s.f0.f6 + ((d + 1 : Nat) : Int) > s.f0.f6 := by omega
    have e0 : ((0 : Int) != 0) = false := rfl
    simp only [hgt, decide_true, if_true, Option.bind_some, e0, Bool.false_eq_true, if_false]
    unfold m68_j2
    by_cases h1 : termAt s.f0.f5 (s.f0.f6 + ((d + 1 : Nat) : Int)) = s.f0.f1
    · have b1 : ((termAt s.f0.f5 (s.f0.f6 + ((d + 1 : Nat) : Int)) : Int) != s.f0.f1) = false := by rw [h1]; exact bne_self_eq_false _
      rw [b1]
      simp only [Bool.false_eq_true, if_false]
      have := m68_j3_eq (s := s) (L1 := m68_j1 k) (t := t) (i := s.f0.f6 + ((d + 1 : Nat) : Int)) hm 8 0 FUEL (by omega) (by show 8 < 4611686018427387904; omega)
      simp only [List.range_zero, List.map_nil, List.filter_nil] at this
      rw [show ((0 : Nat) : Int) = 0 from rfl] at this
      have hn : ncF s.f0 (s.f0.f9.set s.f0.f0.toNat t) mem (d + 1) = if mostB mem (haves (s.f0.f9.set s.f0.f0.toNat t) (s.f0.f6 + ((d + 1 : Nat) : Int))) = true then s.f0.f6 + ((d + 1 : Nat) : Int) else ncF s.f0 (s.f0.f9.set s.f0.f0.toNat t) mem d := by
        rw [ncF, if_neg (fun hn => hn h1)]
      rw [this, hn]
      by_cases h2 : mostB mem (haves (s.f0.f9.set s.f0.f0.toNat t) (s.f0.f6 + ((d + 1 : Nat) : Int))) = true
      · rw [if_pos h2, if_pos h2]
      · rw [if_neg h2, if_neg h2]
        have hw : IntKind.i64.wrap (s.f0.f6 + ((d + 1 : Nat) : Int) - 1) = s.f0.f6 + d := by rw [wrap_id (by omega) (by omega)]; omega
        rw [hw]
        exact ih k (by omega) (by omega)
    · have b1 : ((termAt s.f0.f5 (s.f0.f6 + ((d + 1 : Nat) : Int)) : Int) != s.f0.f1) = true := bne_iff_ne.2 h1
      rw [b1, ncF, if_pos h1]
      rfl
theorem m68_eq {s : S85} (h : LI s.f0) (hc : s.f0.f5.f0.f0 ≤ s.f0.f6 ∧ s.f0.f6 ≤ lastOf s.f0.f5) (hid : 1 ≤ s.f0.f0 ∧ s.f0.f0 ≤ 7) : m68 s = some (countsF s) := by
  have hl := h.1.1; have hb := h.2.1
  have hm := membersOf_ok h.2
  unfold m68 countsF
  rw [m36_eq h]
  have c1 : (decide ((0 : Int) ≤ s.f0.f0) && decide (s.f0.f0 < (8 : Nat))) = true := by simp; omega
  rw [Option.bind_some, c1, if_pos rfl, m57_eq (s := { s with f0 := { s.f0 with f9 := s.f0.f9.set s.f0.f0.toNat (lastOf s.f0.f5) } }) h, Option.bind_some,
    m36_eq (s := { s with f0 := { s.f0 with f9 := s.f0.f9.set s.f0.f0.toNat (lastOf s.f0.f5) } }) h, Option.bind_some]
  have e : lastOf s.f0.f5 = s.f0.f6 + ((lastOf s.f0.f5 - s.f0.f6).toNat : Nat) := by omega
  have hlp := m68_loop h hc.1 hm (t := lastOf s.f0.f5) (lastOf s.f0.f5 - s.f0.f6).toNat FUEL (by show _ < 4611686018427387904; unfold lastOf at *; omega) (by omega)
  rw [← e] at hlp
  change m68_j1 FUEL (lastOf s.f0.f5) (lastOf s.f0.f5) (membersOf s.f0.f5) s = _
  rw [hlp]
  have hr := ncF_range s.f0 (s.f0.f9.set s.f0.f0.toNat (lastOf s.f0.f5)) (membersOf s.f0.f5) (lastOf s.f0.f5 - s.f0.f6).toNat
  rw [m68_j5_eq h (by omega) hm]
theorem countsF_n (s : S85) : (countsF s).f1 = s.f1 ∧ (countsF s).f2 = s.f2 ∧ (countsF s).f0.f5 = s.f0.f5 ∧ (countsF s).f0.f0 = s.f0.f0 ∧ (countsF s).f0.f1 = s.f0.f1 ∧ (countsF s).f0.f2 = s.f0.f2 ∧ (countsF s).f0.f7 = s.f0.f7 ∧ (countsF s).f0.f8 = s.f0.f8 ∧ (countsF s).f0.f9 = s.f0.f9.set s.f0.f0.toNat (lastOf s.f0.f5) ∧ (countsF s).f0.f10 = s.f0.f10 ∧ (countsF s).f0.f11 = s.f0.f11 ∧
    ((countsF s).f0.f3 = s.f0.f3 ∧ (countsF s).f0.f4 = s.f0.f4 ∨ (countsF s).f0.f3 = 0 ∧ (countsF s).f0.f4 = 0) ∧ (countsF s).f0.f6 = ncF s.f0 (s.f0.f9.set s.f0.f0.toNat (lastOf s.f0.f5)) (membersOf s.f0.f5) (lastOf s.f0.f5 - s.f0.f6).toNat := by
  simp only [countsF]
  split <;> simp
/-! ### Leading -/
def topOf (n : S31) : Int := if MAXN < lastOf n.f5 + 1 then MAXN else lastOf n.f5 + 1
def leadN (n : S31) : S31 := { n with f3 := 2, f4 := n.f0, f7 := [], f8 := List.replicate 8 (topOf n), f9 := List.replicate 8 0, f10 := 0 }
def leadsF (s : S85) : S85 :=
  let s1 := addF { s with f0 := leadN s.f0 } 0 []
  othersF bringF (countsF s1) (membersOf s1.f0.f5)
theorem eight {l : List Int} (h : l.length = 8) : ∃ a b c d e f g i, l = [a, b, c, d, e, f, g, i] := by
  match l, h with
  | [a, b, c, d, e, f, g, i], _ => exact ⟨a, b, c, d, e, f, g, i, rfl⟩
theorem light_add {l : S26} {e : S80} (h : LightL l) (he : e.f2.length ≤ 4194304) (hl : l.f1.length + 1 ≤ 4194304) : LightL (addL l e) := by
  refine ⟨by simpa [addL] using hl, h.2.1, fun x hx => ?_⟩
  simp only [addL, List.mem_append, List.mem_singleton] at hx
  rcases hx with hx | rfl
  · exact h.2.2 x hx
  · exact he
theorem entries_snoc : ∀ (es : List S80) (p : Int) (e : S80), EntriesOk p es → EntryOk (((p :: es.map (·.f0)).getLast?).getD 0) e → EntriesOk p (es ++ [e])
  | [], p, e, _, h => ⟨by simpa using h, trivial⟩
  | a :: es, p, e, h, he => by
    refine ⟨h.1, entries_snoc es a.f0 e h.2 ?_⟩
    simpa using he
theorem term_last {l : S26} : ((l.f0.f1 :: l.f1.map (·.f0)).getLast?).getD 0 = termAt l (lastOf l) := by
  unfold termAt lastOf
  cases h : l.f1 with
  | nil => simp
  | cons a es =>
    have hne : ¬ (l.f0.f0 + (((a :: es).length : Nat) : Int) = l.f0.f0) := by simp only [List.length_cons]; omega
    have e1 : (l.f0.f0 + (((a :: es).length : Nat) : Int) - l.f0.f0 - 1).toNat = es.length := by simp only [List.length_cons]; omega
    rw [if_neg hne, e1]
    simp [List.getLast?_eq_getElem?, List.getD]
theorem logOk_add {l : S26} (h : LogOk l) {e : S80} (he : EntryOk (termAt l (lastOf l)) e) (hl : lastOf l < MAXN) : LogOk (addL l e) := by
  refine ⟨h.1, h.2.1, h.2.2.1, ?_, entries_snoc _ _ _ h.2.2.2.2 (by
    show EntryOk (((l.f0.f1 :: l.f1.map (·.f0)).getLast?).getD 0) e
    rw [term_last]; exact he)⟩
  unfold lastOf MAXN at hl
  simp only [addL, List.length_append, List.length_singleton]
  omega
theorem last_add {l : S26} {e : S80} : lastOf (addL l e) = lastOf l + 1 := by unfold lastOf addL; simp; omega
end Go.Proofs.Ythpdomeciaafjaa
