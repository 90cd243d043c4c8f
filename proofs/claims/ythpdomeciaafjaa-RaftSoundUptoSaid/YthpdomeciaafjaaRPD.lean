/- Plain law: both tests of a log answer alike, whole. Own work. -/
import Derived.Test.YthpdomeciaafjaaRPC
namespace Go.Proofs.Ythpdomeciaafjaa
open Go.Fx

def LogOk (x : S26) : Prop := (0 ≤ x.f0.f0 ∧ x.f0.f0 ≤ 1152921504606846976) ∧ (0 ≤ x.f0.f1 ∧ x.f0.f1 ≤ 1152921504606846976) ∧ (MayFrom x.f0.f2 0 ∧ 0 < x.f0.f2.length) ∧ x.f0.f0 + x.f1.length ≤ 1152921504606846976 ∧ EntriesOk x.f0.f1 x.f1

theorem chk_same (x : S26) (hx : LightL x) : ∃ b, (b = true ↔ LogOk x) ∧ m51 x = some b ∧ m40 x = some (if b = true then 0 else 3) := by
  obtain ⟨c, hc, h83, h78⟩ := may_same x.f0.f2 (by have := hx.2.1; omega)
  obtain ⟨b, hb, h51, h40⟩ := chk_loop x hx FUEL 0 x.f0.f1 (by omega) (by omega) (by have := hx.1; show (x.f1.length : Int) - 0 < ((4611686018427387904 : Nat) : Int); omega) (Int.le_refl _) (fun _ => rfl) (fun h => by omega)
  simp only [Int.toNat_zero, List.drop_zero] at hb
  have hlen := hx.1
  unfold m51 m40 m51_j1 m40_j1 LogOk
  rw [h83, h78, m77_eq, m77_eq]
  by_cases i0 : 0 ≤ x.f0.f0 ∧ x.f0.f0 ≤ 1152921504606846976
  · have hw : IntKind.i64.wrap (1152921504606846976 - x.f0.f0) = 1152921504606846976 - x.f0.f0 := wrap_id (by omega) (by omega)
    have n1 : ¬ x.f0.f0 < 0 := by omega
    have n2 : ¬ x.f0.f0 > 1152921504606846976 := by omega
    rw [hw]
    by_cases t0 : 0 ≤ x.f0.f1 ∧ x.f0.f1 ≤ 1152921504606846976
    · have n3 : ¬ x.f0.f1 < 0 := by omega
      have n4 : ¬ x.f0.f1 > 1152921504606846976 := by omega
      cases c with
      | false => exact ⟨false, ⟨fun h => (by cases h), fun h => by have := hc.2 h.2.2.1; cases this⟩, by simp, by simp [i0, t0]⟩
      | true =>
        by_cases l0 : (x.f1.length : Int) > 1152921504606846976 - x.f0.f0
        · exact ⟨false, ⟨fun h => (by cases h), fun h => by have := h.2.2.2.1; omega⟩, by simp [n1, n2, n3, n4, l0], by simp [i0, t0, l0]⟩
        · refine ⟨b, ⟨fun h => ⟨i0, t0, hc.1 rfl, by omega, hb.1 h⟩, fun h => hb.2 h.2.2.2.2⟩, by simp [n1, n2, n3, n4, l0, h51], by simp [i0, t0, l0, h40]⟩
    · refine ⟨false, ⟨fun h => (by cases h), fun h => absurd h.2.1 t0⟩, ?_, by simp [i0, t0]⟩
      cases c with
      | false => simp
      | true =>
        by_cases n3 : x.f0.f1 < 0
        · simp [n1, n2, n3]
        · have n4 : x.f0.f1 > 1152921504606846976 := by omega
          simp [n1, n2, n3, n4]
  · refine ⟨false, ⟨fun h => (by cases h), fun h => absurd h.1 i0⟩, ?_, by simp [i0]⟩
    cases c with
    | false => simp
    | true =>
      by_cases n1 : x.f0.f0 < 0
      · simp [n1]
      · have n2 : x.f0.f0 > 1152921504606846976 := by omega
        simp [n1, n2]

theorem light_eq (x : S26) (hl : (x.f1.length : Int) < 4611686018427387904) : ∃ b, (b = true → LightL x) ∧ m9 x = some b := by
  have loop : ∀ (k : Nat) (i : Int), 0 ≤ i → i ≤ (x.f1.length : Int) → (x.f1.length : Int) - i < (k : Int) → ∃ b, (b = true → ∀ e ∈ x.f1.drop i.toNat, e.f2.length ≤ 5000) ∧ m9_j2 k i x = some b := by
    intro k
    induction k with
    | zero => intro i h0 h1 h2; omega
    | succ k ih =>
      intro i h0 h1 h2
      rw [m9_j2]
      by_cases hi : i < (x.f1.length : Int)
      · obtain ⟨e, he⟩ := idx_some h0 hi
        have hw : IntKind.i64.wrap (i + 1) = i + 1 := wrap_id (by omega) (by omega)
        obtain ⟨b, hb, h9⟩ := ih (i + 1) (by omega) (by omega) (by omega)
        by_cases h5 : (e.f2.length : Int) > 5000
        · exact ⟨false, fun h => (by cases h), by simp [hi, he, h5]⟩
        · refine ⟨b, fun h f hf => ?_, by simp [hi, he, h5, hw, h9]⟩
          rw [idx_drop he] at hf
          rcases List.mem_cons.1 hf with rfl | hf
          · omega
          · exact hb h f hf
      · have : x.f1.drop i.toNat = [] := List.drop_eq_nil_of_le (by omega)
        exact ⟨true, fun _ => by simp [this], by simp [hi]⟩
  obtain ⟨b, hb, h9⟩ := loop FUEL 0 (by omega) (by omega) (by show (x.f1.length : Int) - 0 < ((4611686018427387904 : Nat) : Int); omega)
  unfold m9 m9_j1
  by_cases h1 : (x.f1.length : Int) > 200
  · exact ⟨false, fun h => (by cases h), by simp [h1]⟩
  · by_cases h2 : (x.f0.f2.length : Int) > 100
    · exact ⟨false, fun h => (by cases h), by simp [h1, h2]⟩
    · exact ⟨b, fun h => ⟨by omega, by omega, fun e he => by have := hb h e (by simpa using he); omega⟩, by simp [h1, h2, h9]⟩
/-- Whatever the log's length: an answer, and few parts where it is yes. -/
theorem light_any (x : S26) : ∃ b, (b = true → LightL x) ∧ m9 x = some b := by
  by_cases h1 : (x.f1.length : Int) > 200
  · exact ⟨false, fun h => (by cases h), by simp [m9, m9_j1, h1]⟩
  · exact light_eq x (by omega)
end Go.Proofs.Ythpdomeciaafjaa
