/- Plain law: both readings of a change's bytes answer alike. Own work. -/
import Derived.Test.YthpdomeciaafjaaRPA
namespace Go.Proofs.Ythpdomeciaafjaa
open Go.Fx

theorem idx_drop {α : Type} {xs : List α} {i : Int} {e : α} (h : idx xs i = some e) : xs.drop i.toNat = e :: xs.drop (i + 1).toNat := by
  unfold idx at h
  split at h
  · rename_i h0
    obtain ⟨h1, h2⟩ := List.getElem?_eq_some_iff.1 h
    rw [List.drop_eq_getElem_cons h1, h2, show (i + 1).toNat = i.toNat + 1 by omega]
  · cases h

abbrev wr (l : List Int) : List Int := l.map IntKind.i64.wrap
theorem of95 (x : List Int) (hx : x.length ≤ 16777216) : ∀ (k : Nat) (i : Int) (acc : List Int), 0 ≤ i → i ≤ (x.length : Int) → (x.length : Int) - i < (k : Int) → (acc.length : Int) = i →
    m95_j1 k i x acc = (m78 (acc ++ wr (x.drop i.toNat))).bind fun t => if (!t) = true then some ([], 3) else some (acc ++ wr (x.drop i.toNat), 0) := by
  intro k
  induction k with
  | zero => intro i acc h0 h1 h2; omega
  | succ k ih =>
    intro i acc h0 h1 h2 ha
    rw [m95_j1]
    by_cases hi : i < (x.length : Int)
    · obtain ⟨e, he⟩ := idx_some h0 hi
      have hw : IntKind.i64.wrap (i + 1) = i + 1 := wrap_id (by omega) (by omega)
      have hg : (decide ((acc.length + ([IntKind.i64.wrap e] : List Int).length) * 8 ≤ 140737488355328) && decide (acc.length + ([IntKind.i64.wrap e] : List Int).length ≤ 140737488355328)) = true := by
        simp only [List.length_singleton, Bool.and_eq_true, decide_eq_true_eq]; omega
      rw [he, Option.bind_some, hg, hw, ih (i + 1) _ (by omega) (by omega) (by omega) (by simp; omega), idx_drop he]
      simp [hi]
    · have : x.drop i.toNat = [] := List.drop_eq_nil_of_le (by omega)
      simp [hi, this]
theorem of82 (x : List Int) (hx : x.length ≤ 16777216) : ∀ (k : Nat) (i : Int) (acc : List Int), 0 ≤ i → i ≤ (x.length : Int) → (x.length : Int) - i < (k : Int) → (acc.length : Int) = i →
    m82_j1 k i x acc = (m83 (acc ++ wr (x.drop i.toNat))).bind fun t => if (!t) = true then some ([], false) else some (acc ++ wr (x.drop i.toNat), true) := by
  intro k
  induction k with
  | zero => intro i acc h0 h1 h2; omega
  | succ k ih =>
    intro i acc h0 h1 h2 ha
    rw [m82_j1]
    by_cases hi : i < (x.length : Int)
    · obtain ⟨e, he⟩ := idx_some h0 hi
      have hw : IntKind.i64.wrap (i + 1) = i + 1 := wrap_id (by omega) (by omega)
      have hg : (decide ((acc.length + ([IntKind.i64.wrap e] : List Int).length) * 8 ≤ 140737488355328) && decide (acc.length + ([IntKind.i64.wrap e] : List Int).length ≤ 140737488355328)) = true := by
        simp only [List.length_singleton, Bool.and_eq_true, decide_eq_true_eq]; omega
      rw [he, Option.bind_some, hg, hw, ih (i + 1) _ (by omega) (by omega) (by omega) (by simp; omega), idx_drop he]
      simp [hi]
    · have : x.drop i.toNat = [] := List.drop_eq_nil_of_le (by omega)
      simp [hi, this]
/-- Members out of bytes: both alike. -/
theorem of_same (x : List Int) (hx : x.length ≤ 16777216) : ∃ b, (b = true ↔ MayFrom (wr x) 0 ∧ 0 < x.length) ∧ m82 x = some (if b = true then (wr x, true) else ([], false)) ∧ m95 x = some (if b = true then (wr x, 0) else ([], 3)) := by
  have hl : (wr x).length = x.length := by simp [wr]
  obtain ⟨b, hb, h1, h2⟩ := may_same (wr x) (by omega)
  rw [hl] at hb
  have e1 := of95 x hx FUEL 0 [] (by omega) (by omega) (by show (x.length : Int) - 0 < ((4611686018427387904 : Nat) : Int); omega) rfl
  have e2 := of82 x hx FUEL 0 [] (by omega) (by omega) (by show (x.length : Int) - 0 < ((4611686018427387904 : Nat) : Int); omega) rfl
  simp only [Int.toNat_zero, List.drop_zero, List.nil_append] at e1 e2
  refine ⟨b, hb, ?_, ?_⟩
  · unfold m82
    by_cases h7 : (x.length : Int) > 7
    · have : b = false := by
        cases b with
        | false => rfl
        | true => have := may_len (hb.1 rfl).1; omega
      simp [h7, this]
    · rw [e2, h1]
      cases b <;> simp [h7]
  · unfold m95
    rw [e1, h2]
    cases b <;> simp
end Go.Proofs.Ythpdomeciaafjaa
