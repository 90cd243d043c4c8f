/- Plain law: both tests of a node answer alike. Own work. -/
import Derived.Test.YthpdomeciaafjaaRPE
namespace Go.Proofs.Ythpdomeciaafjaa
open Go.Fx

def VotesFrom (x : List Int) (i : Int) : Prop := ∀ j : Nat, i ≤ (j : Int) → j < x.length → (1 ≤ x.getD j 0 ∧ x.getD j 0 ≤ 7) ∧ x.getD j 0 ∉ x.take j
theorem votes_loop (x : S31) (hx : (x.f7.length : Int) < 4611686018427387904) : ∀ (k : Nat) (i : Int), 0 ≤ i → i ≤ (x.f7.length : Int) → (x.f7.length : Int) - i < (k : Int) →
    ∃ b, (b = true ↔ VotesFrom x.f7 i) ∧ m31_j6 k i x = some b ∧ ∀ ok, m15_j4 k ok i x = some (if (ok && b) = true then 0 else 3) := by
  intro k
  induction k with
  | zero => intro i h0 h1 h2; omega
  | succ k ih =>
    intro i h0 h1 h2
    by_cases hi : i < (x.f7.length : Int)
    · obtain ⟨e, he⟩ := idx_some h0 hi
      obtain ⟨_, _, hg⟩ := idx_getD he
      have hw : IntKind.i64.wrap (i + 1) = i + 1 := wrap_id (by omega) (by omega)
      obtain ⟨b, hbm, hb1, hb2⟩ := ih (i + 1) (by omega) (by omega) (by omega)
      have htl : ((x.f7.take i.toNat).length : Int) < 4611686018427387904 := by rw [List.length_take]; omega
      have hm53 := m53_eq (x.f7.take i.toNat) e htl
      have hm43 := m43_eq (x.f7.take i.toNat) e htl
      have hc : ((decide ((0 : Int) ≤ 0) && decide ((0 : Int) ≤ i)) && decide (i ≤ (x.f7.length : Int))) = true := by simp [h0, h1]
      have hsl : (x.f7.drop (0 : Int).toNat).take (i.toNat - (0 : Int).toNat) = x.f7.take i.toNat := by simp
      have hat : VotesFrom x.f7 i → (1 ≤ e ∧ e ≤ 7) ∧ e ∉ x.f7.take i.toNat := fun h => by
        have := h i.toNat (by omega) (by omega)
        rwa [← hg] at this
      have hmk : (1 ≤ e ∧ e ≤ 7) → e ∉ x.f7.take i.toNat → VotesFrom x.f7 (i + 1) → VotesFrom x.f7 i := fun h3 h4 h5 j hj hl => by
        rcases Int.lt_or_eq_of_le hj with h | h
        · exact h5 j (by omega) hl
        · have hij : j = i.toNat := by omega
          subst hij
          rw [← hg]
          exact ⟨h3, h4⟩
      have h15f : m15_j4 (k + 1) false i x = some 3 := by
        rw [m15_j4]
        have := hb2 false
        simp only [Bool.false_and] at this
        simp [hi, he, m15_j5, hw, this]
      have h15t : m15_j4 (k + 1) true i x = (if (1 ≤ e ∧ e ≤ 7) then m15_j4 k (!decide (e ∈ x.f7.take i.toNat)) (i + 1) x else m15_j4 k false (i + 1) x) := by
        rw [m15_j4, hsl, hc]
        by_cases h3 : 1 ≤ e ∧ e ≤ 7
        · simp [hi, he, m42_eq, h3, hm43, m15_j5, hw]
        · have : decide (1 ≤ e ∧ e ≤ 7) = false := decide_eq_false h3
          simp only [hi, decide_true, if_true, he, Option.bind_some, m42_eq, this, m15_j5, hw, if_neg h3, Bool.false_eq_true, if_false]
      by_cases h3 : 1 ≤ e ∧ e ≤ 7
      · by_cases h4 : e ∈ x.f7.take i.toNat
        · refine ⟨false, ⟨fun h => (by cases h), fun h => absurd h4 (hat h).2⟩, ?_, fun ok => ?_⟩
          · rw [m31_j6, hsl, hc]
            have n1 : ¬ e < 1 := by omega
            have n2 : ¬ e > 7 := by omega
            simp [hi, he, n1, n2, hm53, h4, m31_j7]
          · cases ok with
            | false => simpa using h15f
            | true =>
              rw [h15t, if_pos h3, decide_eq_true h4]
              have := hb2 false
              simpa using this
        · refine ⟨b, ⟨fun h => hmk h3 h4 (hbm.1 h), fun h => hbm.2 fun j hj => h j (by omega)⟩, ?_, fun ok => ?_⟩
          · rw [m31_j6, hsl, hc]
            have n1 : ¬ e < 1 := by omega
            have n2 : ¬ e > 7 := by omega
            simp [hi, he, n1, n2, hm53, h4, m31_j7, hw, hb1]
          · cases ok with
            | false => simpa using h15f
            | true =>
              rw [h15t, if_pos h3, decide_eq_false h4]
              exact hb2 true
      · refine ⟨false, ⟨fun h => (by cases h), fun h => absurd (hat h).1 h3⟩, ?_, fun ok => ?_⟩
        · rw [m31_j6]
          by_cases n1 : e < 1
          · simp [hi, he, n1, m31_j7]
          · have n2 : e > 7 := by omega
            simp [hi, he, n1, n2, m31_j7]
        · cases ok with
          | false => simpa using h15f
          | true =>
            rw [h15t, if_neg h3]
            have := hb2 false
            simpa using this
    · refine ⟨true, ⟨fun _ j hj hl => by omega, fun _ => rfl⟩, by rw [m31_j6]; simp [hi], fun ok => ?_⟩
      rw [m15_j4]
      cases ok <;> simp [hi]

def ArrOk (a c : List Int) (i : Int) : Prop := ∀ j : Nat, i ≤ (j : Int) → j < 8 → (0 ≤ a.getD j 0 ∧ a.getD j 0 ≤ 1152921504606846976) ∧ (0 ≤ c.getD j 0 ∧ c.getD j 0 ≤ 1152921504606846976)
theorem arr_loop (x : S31) {b : Bool} (h6 : m31_j6 FUEL 0 x = some b) (h4 : ∀ ok, m15_j4 FUEL ok 0 x = some (if (ok && b) = true then 0 else 3)) : ∀ (k : Nat) (i : Int), 0 ≤ i → i ≤ 8 → 8 - i < (k : Int) →
    ∃ c, (c = true ↔ ArrOk x.f8 x.f9 i) ∧ m31_j4 k i x = some (c && b) ∧ ∀ ok, m15_j2 k ok i x = some (if (ok && (c && b)) = true then 0 else 3) := by
  intro k
  induction k with
  | zero => intro i h0 h1 h2; omega
  | succ k ih =>
    intro i h0 h1 h2
    by_cases hi : i < 8
    · have hw : IntKind.i64.wrap (i + 1) = i + 1 := wrap_id (by omega) (by omega)
      obtain ⟨c, hcm, hc1, hc2⟩ := ih (i + 1) (by omega) (by omega) (by omega)
      have hb8 : (decide ((0 : Int) ≤ i) && decide (i < (8 : Nat))) = true := by simp [h0]; omega
      have hat : ArrOk x.f8 x.f9 i → (0 ≤ x.f8.getD i.toNat 0 ∧ x.f8.getD i.toNat 0 ≤ 1152921504606846976) ∧ (0 ≤ x.f9.getD i.toNat 0 ∧ x.f9.getD i.toNat 0 ≤ 1152921504606846976) := fun h => h i.toNat (by omega) (by omega)
      have hmk : (0 ≤ x.f8.getD i.toNat 0 ∧ x.f8.getD i.toNat 0 ≤ 1152921504606846976) → (0 ≤ x.f9.getD i.toNat 0 ∧ x.f9.getD i.toNat 0 ≤ 1152921504606846976) → ArrOk x.f8 x.f9 (i + 1) → ArrOk x.f8 x.f9 i := fun h3 h4 h5 j hj hl => by
        rcases Int.lt_or_eq_of_le hj with h | h
        · exact h5 j (by omega) hl
        · have hij : j = i.toNat := by omega
          subst hij
          exact ⟨h3, h4⟩
      have h15f : m15_j2 (k + 1) false i x = some 3 := by
        rw [m15_j2]
        have := hc2 false
        simp only [Bool.false_and] at this
        simp [hi, m15_j3, hw, this]
      have hcf := hc2 false
      simp only [Bool.false_and] at hcf
      generalize hA : x.f8.getD i.toNat 0 = A at hat hmk
      generalize hB : x.f9.getD i.toNat 0 = B at hat hmk
      by_cases h3 : 0 ≤ A ∧ A ≤ 1152921504606846976
      · by_cases h5 : 0 ≤ B ∧ B ≤ 1152921504606846976
        · refine ⟨c, ⟨fun h => hmk h3 h5 (hcm.1 h), fun h => hcm.2 fun j hj => h j (by omega)⟩, ?_, fun ok => ?_⟩
          · rw [m31_j4, hb8, hA, hB, m52_eq, m52_eq, decide_eq_true h3, decide_eq_true h5]
            simp [hi, m31_j5, hw, hc1]
          · cases ok with
            | false => simpa using h15f
            | true =>
              rw [m15_j2, hb8, hA, hB, m42_eq, m42_eq, decide_eq_true h3, decide_eq_true h5]
              have := hc2 true
              simp only [hi, decide_true, if_true, Option.bind_some, m15_j3, hw]
              exact this
        · refine ⟨false, ⟨fun h => (by cases h), fun h => absurd (hat h).2 h5⟩, ?_, fun ok => ?_⟩
          · rw [m31_j4, hb8, hA, hB, m52_eq, m52_eq, decide_eq_true h3, decide_eq_false h5]
            simp [hi, m31_j5]
          · cases ok with
            | false => simpa using h15f
            | true =>
              rw [m15_j2, hb8, hA, hB, m42_eq, m42_eq, decide_eq_true h3, decide_eq_false h5]
              simp [hi, m15_j3, hw, hcf]
      · refine ⟨false, ⟨fun h => (by cases h), fun h => absurd (hat h).1 h3⟩, ?_, fun ok => ?_⟩
        · rw [m31_j4, hb8, hA, m52_eq, decide_eq_false h3]
          simp [hi, m31_j5]
        · cases ok with
          | false => simpa using h15f
          | true =>
            rw [m15_j2, hb8, hA, m42_eq, decide_eq_false h3]
            simp [hi, m15_j3, hw, hcf]
    · refine ⟨true, ⟨fun _ j hj hl => by omega, fun _ => rfl⟩, by rw [m31_j4]; simp [hi, h6], fun ok => ?_⟩
      rw [m15_j2]
      simp [hi, h4 ok]
end Go.Proofs.Ythpdomeciaafjaa
