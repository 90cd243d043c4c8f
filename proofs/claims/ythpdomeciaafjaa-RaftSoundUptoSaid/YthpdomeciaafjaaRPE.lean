/- Plain law: searching in lists. Own work. -/
import Derived.Test.YthpdomeciaafjaaRPD
namespace Go.Proofs.Ythpdomeciaafjaa
open Go.Fx

theorem m52_eq (x : Int) : m52 x = some (decide (0 ≤ x ∧ x ≤ 1152921504606846976)) := by
  unfold m52 m52_j1
  by_cases h : x ≥ 0
  · simp [h]
  · have : ¬ 0 ≤ x := by omega
    simp [this]
theorem m42_eq (x l h : Int) : m42 x l h = some (decide (l ≤ x ∧ x ≤ h)) := by
  unfold m42 m42_j1
  by_cases h1 : x ≥ l
  · simp [h1]
  · have : ¬ l ≤ x := by omega
    simp [this]
theorem m53_loop (x : List Int) (v : Int) (hx : (x.length : Int) < 4611686018427387904) : ∀ (k : Nat) (i : Int), 0 ≤ i → i ≤ (x.length : Int) → (x.length : Int) - i < (k : Int) → m53_j1 k v i x = some (decide (v ∈ x.drop i.toNat)) := by
  intro k
  induction k with
  | zero => intro i h0 h1 h2; omega
  | succ k ih =>
    intro i h0 h1 h2
    rw [m53_j1]
    by_cases hi : i < (x.length : Int)
    · obtain ⟨e, he⟩ := idx_some h0 hi
      have hw : IntKind.i64.wrap (i + 1) = i + 1 := wrap_id (by omega) (by omega)
      rw [idx_drop he]
      by_cases hv : e = v
      · simp [hi, he, hv]
      · have hv' : ¬ v = e := fun h => hv h.symm
        simp [hi, he, hv, hw, ih (i + 1) (by omega) (by omega) (by omega), hv']
    · have : x.drop i.toNat = [] := List.drop_eq_nil_of_le (by omega)
      simp [hi, this]
theorem m53_eq (x : List Int) (v : Int) (hx : (x.length : Int) < 4611686018427387904) : m53 x v = some (decide (v ∈ x)) := by
  unfold m53
  rw [m53_loop x v hx FUEL 0 (by omega) (by omega) (by show (x.length : Int) - 0 < ((4611686018427387904 : Nat) : Int); omega)]
  simp
theorem m81_loop (x : List Int) (v : Int) (hx : (x.length : Int) < 4611686018427387904) : ∀ (k : Nat) (i : Int), 0 ≤ i → i ≤ (x.length : Int) → (x.length : Int) - i < (k : Int) → ∃ r, m81_j1 k v i x = some r ∧ (r ≥ 0 ↔ v ∈ x.drop i.toNat) := by
  intro k
  induction k with
  | zero => intro i h0 h1 h2; omega
  | succ k ih =>
    intro i h0 h1 h2
    rw [m81_j1]
    by_cases hi : i < (x.length : Int)
    · obtain ⟨e, he⟩ := idx_some h0 hi
      have hw : IntKind.i64.wrap (i + 1) = i + 1 := wrap_id (by omega) (by omega)
      rw [idx_drop he]
      by_cases hv : v = e
      · exact ⟨i, by simp [hi, he, hv], by simp [hv]; omega⟩
      · obtain ⟨r, hr, hm⟩ := ih (i + 1) (by omega) (by omega) (by omega)
        exact ⟨r, by simp [hi, he, hv, hw, hr], by rw [hm]; simp [hv]⟩
    · have : x.drop i.toNat = [] := List.drop_eq_nil_of_le (by omega)
      exact ⟨-1, by simp [hi], by simp [this]⟩
theorem m43_eq (x : List Int) (v : Int) (hx : (x.length : Int) < 4611686018427387904) : m43 x v = some (decide (v ∈ x)) := by
  obtain ⟨r, hr, hm⟩ := m81_loop x v hx FUEL 0 (by omega) (by omega) (by show (x.length : Int) - 0 < ((4611686018427387904 : Nat) : Int); omega)
  unfold m43 m81
  rw [hr]
  simp only [Int.toNat_zero, List.drop_zero] at hm
  simp [hm]
end Go.Proofs.Ythpdomeciaafjaa
