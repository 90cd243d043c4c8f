/- Plain law: both tests of a node answer alike, whole; a new node. Own work. -/
import Derived.Test.YthpdomeciaafjaaRPF
namespace Go.Proofs.Ythpdomeciaafjaa
open Go.Fx

def lastOf (x : S26) : Int := x.f0.f0 + x.f1.length
def termAt (x : S26) (i : Int) : Int := if i = x.f0.f0 then x.f0.f1 else (x.f1.map (·.f0)).getD (i - x.f0.f0 - 1).toNat 0

theorem entries_pos : ∀ (l : List S80) (p : Int), EntriesOk p l → ∀ e ∈ l, p ≤ e.f0 ∧ 1 ≤ e.f0 ∧ e.f0 ≤ 1152921504606846976
  | [], _, _, e, he => by cases he
  | a :: l, p, h, e, he => by
    rcases List.mem_cons.1 he with rfl | he
    · exact ⟨h.1.1, h.1.2.1, h.1.2.2.1⟩
    · have := entries_pos l a.f0 h.2 e he
      have h1 := h.1.1
      exact ⟨by omega, this.2⟩
theorem m80_eq {x : S26} (hx : LightL x) (hok : LogOk x) : m80 x = some (lastOf x) := by
  have h1 := hx.1; have h2 := hok.1
  unfold m80 lastOf
  rw [wrap_id (by omega) (by omega)]
theorem m27_eq {x : S26} (hx : LightL x) (hok : LogOk x) : m27 x = some (lastOf x) := by
  have h1 := hx.1; have h2 := hok.1
  unfold m27 lastOf
  rw [wrap_id (by omega) (by omega)]
theorem at_eq {x : S26} (hx : LightL x) (hok : LogOk x) {i : Int} (h1 : x.f0.f0 ≤ i) (h2 : i ≤ lastOf x) (hne : i ≠ x.f0.f0) :
    ∃ e, idx x.f1 (i - x.f0.f0 - 1) = some e ∧ e ∈ x.f1 ∧ e.f0 = (x.f1.map (·.f0)).getD (i - x.f0.f0 - 1).toNat 0 := by
  unfold lastOf at h2
  obtain ⟨e, he⟩ := idx_some (xs := x.f1) (i := i - x.f0.f0 - 1) (by omega) (by omega)
  refine ⟨e, he, idx_mem he, ?_⟩
  unfold idx at he
  rw [if_pos (by omega)] at he
  rw [List.getD_eq_getElem?_getD, List.getElem?_map, he]; rfl
theorem m74_eq {x : S26} (hx : LightL x) (hok : LogOk x) {i : Int} (h1 : x.f0.f0 ≤ i) (h2 : i ≤ lastOf x) : m74 x i = some (termAt x i) := by
  have hl := hx.1; have h0 := hok.1
  unfold m74 termAt
  by_cases h : i = x.f0.f0
  · simp [h]
  · obtain ⟨e, he, hm, hv⟩ := at_eq hx hok h1 h2 h
    unfold lastOf at h2
    rw [wrap_id (x := i - x.f0.f0) (by omega) (by omega), wrap_id (by omega) (by omega), he]
    simp [h, hv]
theorem m16_eq {x : S26} (hx : LightL x) (hok : LogOk x) {i : Int} (h1 : x.f0.f0 ≤ i) (h2 : i ≤ lastOf x) : m16 x i = some (termAt x i) := by
  have hl := hx.1; have h0 := hok.1
  unfold m16 termAt
  by_cases h : i = x.f0.f0
  · have : IntKind.i64.wrap (i - x.f0.f0) = 0 := by rw [wrap_id (by omega) (by omega)]; omega
    simp [h, this]
    rw [show IntKind.i64.wrap 0 = 0 from by rw [wrap_id (by omega) (by omega)]]
    simp
  · obtain ⟨e, he, hm, hv⟩ := at_eq hx hok h1 h2 h
    unfold lastOf at h2
    rw [wrap_id (x := i - x.f0.f0) (by omega) (by omega), wrap_id (by omega) (by omega), he]
    have : ¬ (i - x.f0.f0 = 0) := by omega
    simp [h, hv, this]
theorem base_le {x : S26} : x.f0.f0 ≤ lastOf x := by unfold lastOf; omega
theorem termAt_pos {x : S26} (hx : LightL x) (hok : LogOk x) {i : Int} (h1 : x.f0.f0 ≤ i) (h2 : i ≤ lastOf x) : 0 ≤ termAt x i ∧ termAt x i ≤ 1152921504606846976 := by
  unfold termAt
  by_cases h : i = x.f0.f0
  · rw [if_pos h]; exact hok.2.1
  · rw [if_neg h]
    obtain ⟨e, he, hm, hv⟩ := at_eq hx hok h1 h2 h
    rw [← hv]
    have := entries_pos _ _ hok.2.2.2.2 e hm
    omega
theorem m41_eq {x : S26} (hx : LightL x) (hok : LogOk x) : m41 x = some (lastOf x, termAt x (lastOf x)) := by
  obtain ⟨b, hb, _, h40⟩ := chk_same x hx
  have hbt := hb.2 hok
  subst hbt
  unfold m41
  rw [h40, m80_eq hx hok]
  simp only [if_true, Option.bind_some]
  rw [m74_eq hx hok base_le (Int.le_refl _)]
  rfl

def HeadOk (x : S31) : Prop := (1 ≤ x.f0 ∧ x.f0 ≤ 7) ∧ (termAt x.f5 (lastOf x.f5) ≤ x.f1 ∧ x.f1 ≤ 1152921504606846976) ∧ (0 ≤ x.f2 ∧ x.f2 ≤ 7) ∧ (0 ≤ x.f4 ∧ x.f4 ≤ 7) ∧ (0 ≤ x.f3 ∧ x.f3 ≤ 2) ∧ (x.f1 > 0 ∨ x.f3 = 0) ∧
  (x.f5.f0.f0 ≤ x.f6 ∧ x.f6 ≤ lastOf x.f5) ∧ (0 ≤ x.f10 ∧ x.f10 ≤ 1152921504606846976) ∧ (0 ≤ x.f11 ∧ x.f11 ≤ 1152921504606846976)
instance (x : S31) : Decidable (HeadOk x) := by unfold HeadOk; infer_instance
def NodeOk (x : S31) : Prop := LogOk x.f5 ∧ HeadOk x ∧ ArrOk x.f8 x.f9 0 ∧ VotesFrom x.f7 0

theorem check_same (x : S31) (hx : LightL x.f5) (hv : (x.f7.length : Int) < 4611686018427387904) : ∃ b, (b = true ↔ NodeOk x) ∧ m31 x = some b ∧ m15 x = some (if b = true then 0 else 3) := by
  obtain ⟨v, hvm, h6, h4⟩ := votes_loop x hv FUEL 0 (by omega) (by omega) (by show (x.f7.length : Int) - 0 < ((4611686018427387904 : Nat) : Int); omega)
  obtain ⟨c, hcm, h34, h2⟩ := arr_loop x h6 h4 FUEL 0 (by omega) (by omega) (by show (8 : Int) - 0 < ((4611686018427387904 : Nat) : Int); omega)
  obtain ⟨l, hl, h51, h40⟩ := chk_same x.f5 hx
  have hj : ∀ ok, m15_j1 ok x = some (if (ok && (c && v)) = true then 0 else 3) := fun ok => by unfold m15_j1; exact h2 ok
  have hj3 : ∀ b, m31_j3 b x = some (!b && (c && v)) := fun b => by unfold m31_j3; cases b <;> simp [h34]
  cases l with
  | false =>
    refine ⟨false, ⟨fun h => (by cases h), fun h => by have := hl.2 h.1; cases this⟩, ?_, ?_⟩
    · unfold m31; rw [h51]; simp [m31_j1]
    · unfold m15; rw [h40]; simp
  | true =>
    have hok := hl.1 rfl
    have ht := termAt_pos hx hok base_le (Int.le_refl (lastOf x.f5))
    refine ⟨decide (HeadOk x) && (c && v), ?_, ?_, ?_⟩
    · rw [Bool.and_eq_true, Bool.and_eq_true, decide_eq_true_eq, hcm, hvm]
      exact ⟨fun h => ⟨hok, h.1, h.2.1, h.2.2⟩, fun h => ⟨h.2.1, h.2.2.1, h.2.2.2⟩⟩
    · unfold m31 m31_j1 m31_j2
      rw [h51, m27_eq hx hok, m52_eq, m52_eq, m52_eq]
      simp only [Option.bind_some, m16_eq hx hok base_le (Int.le_refl (lastOf x.f5)), hj3]
      by_cases a1 : 1 ≤ x.f0 ∧ x.f0 ≤ 7
      · have n1 : ¬ x.f0 < 1 := by omega
        have n2 : ¬ x.f0 > 7 := by omega
        by_cases a2 : 0 ≤ x.f2 ∧ x.f2 ≤ 7
        · have n3 : ¬ x.f2 < 0 := by omega
          have n4 : ¬ x.f2 > 7 := by omega
          by_cases a3 : 0 ≤ x.f4 ∧ x.f4 ≤ 7
          · have n5 : ¬ x.f4 < 0 := by omega
            have n6 : ¬ x.f4 > 7 := by omega
            by_cases a4 : 0 ≤ x.f3 ∧ x.f3 ≤ 2
            · have n7 : ¬ x.f3 < 0 := by omega
              have n8 : ¬ x.f3 > 2 := by omega
              by_cases a5 : 0 ≤ x.f1 ∧ x.f1 ≤ 1152921504606846976
              · by_cases a6 : termAt x.f5 (lastOf x.f5) ≤ x.f1
                · have n9 : ¬ x.f1 < termAt x.f5 (lastOf x.f5) := by omega
                  by_cases a7 : x.f5.f0.f0 ≤ x.f6 ∧ x.f6 ≤ lastOf x.f5
                  · have n10 : ¬ x.f6 < x.f5.f0.f0 := by omega
                    have n11 : ¬ x.f6 > lastOf x.f5 := by omega
                    by_cases a8 : 0 ≤ x.f10 ∧ x.f10 ≤ 1152921504606846976
                    · by_cases a9 : 0 ≤ x.f11 ∧ x.f11 ≤ 1152921504606846976
                      · by_cases a10 : x.f3 > 0
                        · by_cases a11 : x.f1 = 0
                          · rw [decide_eq_false (fun h : HeadOk x => by have := h.2.2.2.2.2.1; omega)]
                            simp [n1, n2, n3, n4, n5, n6, n7, n8, a10, a11]
                          · rw [decide_eq_true (show HeadOk x from ⟨a1, ⟨a6, a5.2⟩, a2, a3, a4, by omega, a7, a8, a9⟩)]
                            simp [n1, n2, n3, n4, n5, n6, n7, n8, n9, n10, n11, a5, a8, a9, a10, a11]
                        · rw [decide_eq_true (show HeadOk x from ⟨a1, ⟨a6, a5.2⟩, a2, a3, a4, by omega, a7, a8, a9⟩)]
                          simp [n1, n2, n3, n4, n5, n6, n7, n8, n9, n10, n11, a5, a8, a9, a10]
                      · rw [decide_eq_false (fun h : HeadOk x => a9 h.2.2.2.2.2.2.2.2)]
                        by_cases a10 : x.f3 > 0 <;> by_cases a11 : x.f1 = 0 <;> simp [n1, n2, n3, n4, n5, n6, n7, n8, a10, a11, a9]
                    · rw [decide_eq_false (fun h : HeadOk x => a8 h.2.2.2.2.2.2.2.1)]
                      by_cases a10 : x.f3 > 0 <;> by_cases a11 : x.f1 = 0 <;> simp [n1, n2, n3, n4, n5, n6, n7, n8, a10, a11, a8]
                  · rw [decide_eq_false (fun h : HeadOk x => a7 h.2.2.2.2.2.2.1)]
                    by_cases a10 : x.f3 > 0 <;> by_cases a11 : x.f1 = 0 <;> by_cases a12 : x.f6 < x.f5.f0.f0 <;> by_cases a13 : x.f6 > lastOf x.f5 <;> first | (exfalso; omega) | simp [n1, n2, n3, n4, n5, n6, n7, n8, a10, a11, a12, a13]
                · rw [decide_eq_false (fun h : HeadOk x => a6 h.2.1.1)]
                  have n9 : x.f1 < termAt x.f5 (lastOf x.f5) := by omega
                  have n9' : decide (x.f1 < termAt x.f5 (lastOf x.f5)) = true := decide_eq_true n9
                  rw [n9']
                  by_cases a10 : x.f3 > 0 <;> by_cases a11 : x.f1 = 0 <;> simp [n1, n2, n3, n4, n5, n6, n7, n8, a10, a11]
              · rw [decide_eq_false (fun h : HeadOk x => a5 ⟨by have := h.2.1.1; omega, h.2.1.2⟩)]
                have a11 : ¬ x.f1 = 0 := by omega
                by_cases a10 : x.f3 > 0 <;> simp [n1, n2, n3, n4, n5, n6, n7, n8, a10, a11, a5]
            · rw [decide_eq_false (fun h : HeadOk x => a4 h.2.2.2.2.1)]
              by_cases n7 : x.f3 < 0 <;> by_cases n8 : x.f3 > 2 <;> first | (exfalso; omega) | simp [n1, n2, n3, n4, n5, n6, n7, n8]
          · rw [decide_eq_false (fun h : HeadOk x => a3 h.2.2.2.1)]
            by_cases n5 : x.f4 < 0 <;> by_cases n6 : x.f4 > 7 <;> first | (exfalso; omega) | simp [n1, n2, n3, n4, n5, n6]
        · rw [decide_eq_false (fun h : HeadOk x => a2 h.2.2.1)]
          by_cases n3 : x.f2 < 0 <;> by_cases n4 : x.f2 > 7 <;> first | (exfalso; omega) | simp [n1, n2, n3, n4]
      · rw [decide_eq_false (fun h : HeadOk x => a1 h.1)]
        by_cases n1 : x.f0 < 1 <;> by_cases n2 : x.f0 > 7 <;> first | (exfalso; omega) | simp [n1, n2]
    · unfold m15
      rw [h40, m41_eq hx hok]
      simp only [if_true, Option.bind_some, m42_eq, hj]
      have e0 : ((0 : Int) != 0) = false := rfl
      simp only [e0, Bool.false_eq_true, if_false, decide_eq_true_eq]
      unfold HeadOk
      by_cases a1 : 1 ≤ x.f0 ∧ x.f0 ≤ 7
      · by_cases a5 : termAt x.f5 (lastOf x.f5) ≤ x.f1 ∧ x.f1 ≤ 1152921504606846976
        · by_cases a2 : 0 ≤ x.f2 ∧ x.f2 ≤ 7
          · by_cases a3 : 0 ≤ x.f4 ∧ x.f4 ≤ 7
            · by_cases a4 : 0 ≤ x.f3 ∧ x.f3 ≤ 2
              · by_cases a6 : x.f1 > 0
                · by_cases a7 : x.f5.f0.f0 ≤ x.f6 ∧ x.f6 ≤ lastOf x.f5
                  · by_cases a8 : 0 ≤ x.f10 ∧ x.f10 ≤ 1152921504606846976
                    · by_cases a9 : 0 ≤ x.f11 ∧ x.f11 ≤ 1152921504606846976 <;> simp [a1, a2, a3, a4, a5, a6, a7, a8, a9]
                    · simp [a1, a2, a3, a4, a5, a6, a7, a8]
                  · simp [a1, a2, a3, a4, a5, a6, a7]
                · by_cases a10 : x.f3 = 0
                  · by_cases a7 : x.f5.f0.f0 ≤ x.f6 ∧ x.f6 ≤ lastOf x.f5
                    · by_cases a8 : 0 ≤ x.f10 ∧ x.f10 ≤ 1152921504606846976
                      · by_cases a9 : 0 ≤ x.f11 ∧ x.f11 ≤ 1152921504606846976 <;> simp [a1, a2, a3, a5, a6, a7, a8, a9, a10]
                      · simp [a1, a2, a3, a5, a6, a7, a8, a10]
                    · simp [a1, a2, a3, a5, a6, a7, a10]
                  · simp [a1, a2, a3, a4, a5, a6, a10]
              · simp [a1, a2, a3, a4, a5]
            · simp [a1, a2, a3, a5]
          · simp [a1, a2, a5]
        · simp [a1, a5]
      · simp [a1]
end Go.Proofs.Ythpdomeciaafjaa
