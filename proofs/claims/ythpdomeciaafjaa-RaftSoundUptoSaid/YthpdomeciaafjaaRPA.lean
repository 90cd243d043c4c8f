/- Plain law: both tests of a list of members answer alike. Own work. -/
import Derived.Test.YthpdomeciaafjaaRM
namespace Go.Proofs.Ythpdomeciaafjaa
open Go.Fx

theorem wrap_id {x : Int} (h1 : -9223372036854775808 ≤ x) (h2 : x ≤ 9223372036854775807) : IntKind.i64.wrap x = x := by
  rw [IntKind.wrap_i64]; omega
theorem idx_some {α : Type} {xs : List α} {i : Int} (h0 : 0 ≤ i) (h1 : i < (xs.length : Int)) : ∃ e, idx xs i = some e := by
  unfold idx
  rw [if_pos h0]
  exact ⟨xs[i.toNat]'(by omega), List.getElem?_eq_getElem (by omega)⟩
theorem fuel_ge : (4611686018427387904 : Nat) = FUEL := rfl

theorem idx_getD {xs : List Int} {i e : Int} (h : idx xs i = some e) : 0 ≤ i ∧ i < (xs.length : Int) ∧ e = xs.getD i.toNat 0 := by
  unfold idx at h
  split at h
  · rename_i h0
    obtain ⟨h1, h2⟩ := List.getElem?_eq_some_iff.1 h
    exact ⟨h0, by omega, by simp [List.getD, h]⟩
  · cases h

/-- What a list of members is, from a place on. -/
def MayFrom (x : List Int) (i : Int) : Prop := ∀ j : Nat, i ≤ (j : Int) → j < x.length → 1 ≤ x.getD j 0 ∧ x.getD j 0 ≤ 7 ∧ (0 < j → x.getD (j - 1) 0 < x.getD j 0)

theorem may_loop (x : List Int) (hx : (x.length : Int) < 4611686018427387904) : ∀ (k : Nat) (i : Int), 0 ≤ i → i ≤ (x.length : Int) → (x.length : Int) - i < (k : Int) →
    ∃ b, (b = true ↔ MayFrom x i) ∧ m83_j2 k i x = some b ∧ m78_j1 k i x = some (b && decide ((x.length : Int) > 0)) := by
  intro k
  induction k with
  | zero => intro i h0 h1 h2; omega
  | succ k ih =>
    intro i h0 h1 h2
    rw [m83_j2, m78_j1]
    by_cases hi : i < (x.length : Int)
    · obtain ⟨e, he⟩ := idx_some h0 hi
      obtain ⟨_, _, hg⟩ := idx_getD he
      have hw : IntKind.i64.wrap (i + 1) = i + 1 := wrap_id (by omega) (by omega)
      have hw' : IntKind.i64.wrap (i - 1) = i - 1 := wrap_id (by omega) (by omega)
      obtain ⟨b, hbm, hb1, hb2⟩ := ih (i + 1) (by omega) (by omega) (by omega)
      have hat : MayFrom x i → 1 ≤ e ∧ e ≤ 7 ∧ (0 < i → x.getD (i - 1).toNat 0 < e) := fun h => by
        have := h i.toNat (by omega) (by omega)
        rw [← hg] at this
        refine ⟨this.1, this.2.1, fun hp => ?_⟩
        have h3 := this.2.2 (by omega)
        rwa [show i.toNat - 1 = (i - 1).toNat by omega] at h3
      have hrest : MayFrom x i → MayFrom x (i + 1) := fun h j hj => h j (by omega)
      have hmk : 1 ≤ e → e ≤ 7 → (0 < i → x.getD (i - 1).toNat 0 < e) → MayFrom x (i + 1) → MayFrom x i := fun h3 h4 h5 h6 j hj hl => by
        rcases Int.lt_or_eq_of_le hj with h | h
        · exact h6 j (by omega) hl
        · have hij : j = i.toNat := by omega
          subst hij
          rw [← hg]
          refine ⟨h3, h4, fun hp => ?_⟩
          have := h5 (by omega)
          rwa [show i.toNat - 1 = (i - 1).toNat by omega]
      simp only [hi, decide_true, if_true, he, Option.bind_some]
      by_cases h3 : e < 1
      · exact ⟨false, ⟨fun h => (by cases h), fun h => by have := (hat h).1; omega⟩, by simp [h3, m83_j3], by simp [h3, m78_j2]⟩
      · by_cases h4 : e > 7
        · exact ⟨false, ⟨fun h => (by cases h), fun h => by have := (hat h).2.1; omega⟩, by simp [h3, h4, m83_j3], by simp [h3, h4, m78_j2]⟩
        · by_cases h5 : i > 0
          · obtain ⟨e', he'⟩ := idx_some (xs := x) (i := i - 1) (by omega) (by omega)
            obtain ⟨_, _, hg'⟩ := idx_getD he'
            by_cases h6 : e' ≥ e
            · exact ⟨false, ⟨fun h => (by cases h), fun h => by have := (hat h).2.2 h5; rw [← hg'] at this; omega⟩, by simp [h3, h4, h5, hw', he', h6, m83_j3], by simp [h3, h4, h5, hw', he', h6, m78_j2]⟩
            · have h6' : ¬ e ≤ e' := by omega
              refine ⟨b, ⟨fun h => hmk (by omega) (by omega) (fun _ => by rw [← hg']; omega) (hbm.1 h), fun h => hbm.2 (hrest h)⟩, by simp [h3, h4, h5, hw', he', h6', m83_j3, hw, hb1], by simp [h3, h4, h5, hw', he', h6', m78_j2, hw, hb2]⟩
          · exact ⟨b, ⟨fun h => hmk (by omega) (by omega) (fun h => absurd h h5) (hbm.1 h), fun h => hbm.2 (hrest h)⟩, by simp [h3, h4, h5, m83_j3, hw, hb1], by simp [h3, h4, h5, m78_j2, hw, hb2]⟩
    · exact ⟨true, ⟨fun _ j hj hl => by omega, fun _ => rfl⟩, by simp [hi], by simp [hi]⟩

theorem may_len {x : List Int} (h : MayFrom x 0) : x.length ≤ 7 := by
  have key : ∀ j : Nat, j < x.length → (j : Int) + 1 ≤ x.getD j 0 := by
    intro j
    induction j with
    | zero => intro hj; have := (h 0 (by omega) hj).1; omega
    | succ j ih =>
      intro hj
      have h1 := ih (by omega)
      have h2 := (h (j + 1) (by omega) hj).2.2 (by omega)
      rw [Nat.add_sub_cancel] at h2
      omega
  rcases Nat.lt_or_ge 7 x.length with h7 | h7
  · have h1 := key 7 h7
    have h2 := (h 7 (by omega) h7).2.1
    omega
  · exact h7

/-- Both tests of a list of members answer alike. -/
theorem may_same (x : List Int) (hx : (x.length : Int) < 4611686018427387904) : ∃ b, (b = true ↔ MayFrom x 0 ∧ 0 < x.length) ∧ m83 x = some b ∧ m78 x = some b := by
  obtain ⟨b, hbm, h1, h2⟩ := may_loop x hx FUEL 0 (by omega) (by omega) (by show (x.length : Int) - 0 < ((4611686018427387904 : Nat) : Int); omega)
  refine ⟨b && decide ((x.length : Int) > 0), ?_, ?_, by rw [m78, h2]⟩
  · rw [Bool.and_eq_true, hbm, decide_eq_true_eq]
    constructor <;> rintro ⟨h, k⟩ <;> exact ⟨h, by omega⟩
  · unfold m83
    by_cases h3 : (x.length : Int) < 1
    · have h0 : decide ((x.length : Int) > 0) = false := decide_eq_false (by omega)
      rw [h0]
      simp [h3, m83_j1]
    · have h4 : decide ((x.length : Int) > 0) = true := decide_eq_true (by omega)
      rw [h4]
      by_cases h5 : (x.length : Int) > 7
      · have hb : b = false := by
          cases b with
          | false => rfl
          | true => have := may_len (hbm.1 rfl); omega
        simp [h3, h5, m83_j1, hb]
      · simp [h3, h5, m83_j1, h1]
end Go.Proofs.Ythpdomeciaafjaa
