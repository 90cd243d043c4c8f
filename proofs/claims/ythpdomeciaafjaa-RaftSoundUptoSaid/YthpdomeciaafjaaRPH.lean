/- Plain law: timeouts alike; what is the same as itself; a new node. Own work. -/
import Derived.Test.YthpdomeciaafjaaRPG
import Derived.KernelRfl
namespace Go.Proofs.Ythpdomeciaafjaa
open Go.Fx

theorem wrap_any {x : Int} (h : -9223372036854775808 ≤ x ∧ x ≤ 9223372036854775807) : IntKind.i64.wrap x = x := wrap_id h.1 h.2
theorem timeout_same (x : Int) : ∃ t, m29 x = some t ∧ m30 x = some t ∧ 10 ≤ t ∧ t < 20 := by
  have h1 : -10 < Int.tmod x 10 := by
    have := Int.lt_tmod_of_pos x (show (0 : Int) < 10 by omega); omega
  have h2 : Int.tmod x 10 < 10 := Int.tmod_lt_of_pos x (by omega)
  unfold m29 m29_j1 m30
  generalize Int.tmod x 10 = t at h1 h2
  have e1 : IntKind.i64.wrap (t + 10) = t + 10 := wrap_id (by omega) (by omega)
  rw [e1, Int.tmod_eq_emod_of_nonneg (by omega)]
  by_cases h : t < 0
  · have e2 : (t + 10) % 10 = t + 10 := by omega
    rw [e2, wrap_id (x := 10 + (t + 10)) (by omega) (by omega)]
    exact ⟨10 + (t + 10), by simp [h], rfl, by omega, by omega⟩
  · have e2 : (t + 10) % 10 = t := by omega
    rw [e2, wrap_id (x := 10 + t) (by omega) (by omega)]
    exact ⟨10 + t, by simp [h], rfl, by omega, by omega⟩
theorem ints_refl (x : List Int) (hx : (x.length : Int) < 4611686018427387904) : m33 x x = some true := by
  have loop : ∀ (k : Nat) (i : Int), 0 ≤ i → i ≤ (x.length : Int) → (x.length : Int) - i < (k : Int) → m33_j1 k i x x = some true := by
    intro k
    induction k with
    | zero => intro i h0 h1 h2; omega
    | succ k ih =>
      intro i h0 h1 h2
      rw [m33_j1]
      by_cases hi : i < (x.length : Int)
      · obtain ⟨e, he⟩ := idx_some h0 hi
        have hw : IntKind.i64.wrap (i + 1) = i + 1 := wrap_id (by omega) (by omega)
        simp [hi, he, hw, ih (i + 1) (by omega) (by omega) (by omega)]
      · simp [hi]
  unfold m33
  have := loop FUEL 0 (by omega) (by omega) (by show (x.length : Int) - 0 < ((4611686018427387904 : Nat) : Int); omega)
  simp [this]
theorem strEq_refl (x : ByteArray) : strEq x x = true := by simp [strEq]
theorem entries_refl (x : List S80) (hx : (x.length : Int) < 4611686018427387904) : m18 x x = some true := by
  have loop : ∀ (k : Nat) (i : Int), 0 ≤ i → i ≤ (x.length : Int) → (x.length : Int) - i < (k : Int) → m18_j1 k i x x = some true := by
    intro k
    induction k with
    | zero => intro i h0 h1 h2; omega
    | succ k ih =>
      intro i h0 h1 h2
      rw [m18_j1]
      by_cases hi : i < (x.length : Int)
      · obtain ⟨e, he⟩ := idx_some h0 hi
        have hw : IntKind.i64.wrap (i + 1) = i + 1 := wrap_id (by omega) (by omega)
        simp [hi, he, m18_j2, strEq_refl, hw, ih (i + 1) (by omega) (by omega) (by omega)]
      · simp [hi]
  unfold m18
  have := loop FUEL 0 (by omega) (by omega) (by show (x.length : Int) - 0 < ((4611686018427387904 : Nat) : Int); omega)
  simp [this]
theorem log_refl (x : S26) (h1 : (x.f0.f2.length : Int) < 4611686018427387904) (h2 : (x.f1.length : Int) < 4611686018427387904) : m32 x x = some true := by
  unfold m32 m32_j1
  simp [ints_refl _ h1, entries_refl _ h2]
theorem arEq_refl (n : Nat) (x : List Int) : arEq n x x = true := by simp [arEq]
theorem node_refl (x : S31) (h1 : (x.f5.f0.f2.length : Int) < 4611686018427387904) (h2 : (x.f5.f1.length : Int) < 4611686018427387904) (h3 : (x.f7.length : Int) < 4611686018427387904) : m12 x x = some true := by
  unfold m12 m12_j1
  simp [log_refl _ h1 h2, ints_refl _ h3, arEq_refl]
theorem light_log {x : S26} (h : LightL x) : (x.f0.f2.length : Int) < 4611686018427387904 ∧ (x.f1.length : Int) < 4611686018427387904 := by
  have h1 := h.1; have h2 := h.2.1; omega

theorem up_true : m8 = some true := by kernel_rfl
/-- The law of a new node answers yes, whatever comes in. -/
theorem raftNew_true (id term voted : Int) (l : S26) (draw : Int) : m3 id term voted l draw = some true := by
  obtain ⟨b, hb, h9⟩ := light_any l
  unfold m3
  rw [up_true, h9]
  cases b with
  | false => simp
  | true =>
    have hl := hb rfl
    obtain ⟨t, h29, h30, _, _⟩ := timeout_same draw
    obtain ⟨hl1, hl2⟩ := light_log hl
    obtain ⟨c, _, h31, h15⟩ := check_same ⟨id, term, voted, 0, 0, l, l.f0.f0, [], [0, 0, 0, 0, 0, 0, 0, 0], [0, 0, 0, 0, 0, 0, 0, 0], 0, t⟩ hl (by simp)
    unfold m10 m11 m10_j1 m11_j1
    rw [h29, h30]
    simp only [Option.bind_some, h31, h15]
    cases c with
    | false =>
      have := node_refl (S31.mk 0 0 0 0 0 (S26.mk (S23.mk 0 0 []) []) 0 [] [0, 0, 0, 0, 0, 0, 0, 0] [0, 0, 0, 0, 0, 0, 0, 0] 0 0) (by simp) (by simp) (by simp)
      simp [this, m3_j1]
    | true =>
      have := node_refl (S31.mk id term voted 0 0 l l.f0.f0 [] [0, 0, 0, 0, 0, 0, 0, 0] [0, 0, 0, 0, 0, 0, 0, 0] 0 t) hl1 hl2 (by simp)
      simp [this, m3_j2]
end Go.Proofs.Ythpdomeciaafjaa
