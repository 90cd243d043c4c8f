/- Plain law: snapshots, asking, acknowledging. Own work. -/
import Derived.Test.YthpdomeciaafjaaRQG
namespace Go.Proofs.Ythpdomeciaafjaa
open Go.Fx

noncomputable instance memDec (x : List Int) : Decidable (MemOk x) := Classical.propDecidable _
def tailF (l : S26) (m : S46) : List S80 := if l.f0.f0 ≤ m.f4 ∧ m.f4 ≤ lastOf l ∧ termAt l m.f4 = m.f5 then (compactF l m.f4).f1 else []
def snapL (l : S26) (m : S46) : S26 := ⟨⟨m.f4, m.f5, m.f9⟩, tailF l m⟩
noncomputable def snapF (s : S85) (m : S46) : S85 :=
  if s.f0.f3 = 2 ∨ ¬ MemOk m.f9 ∨ m.f5 > s.f0.f1 then s
  else if m.f4 ≤ s.f0.f6 then sendF { s with f0 := followN s.f0 m.f1 } m.f1 (S46.mk 4 0 0 0 s.f0.f6 0 0 true [] [] 0 [] noTree)
  else if LogOk (snapL s.f0.f5 m) then { sendF { s with f0 := { followN s.f0 m.f1 with f5 := snapL s.f0.f5 m, f6 := m.f4 } } m.f1 (S46.mk 4 0 0 0 m.f4 0 0 true [] [] 0 [] noTree) with f2 := m.f4 }
  else { s with f0 := followN s.f0 m.f1 }
theorem m78_eq (x : List Int) (hx : (x.length : Int) < 4611686018427387904) : m78 x = some (decide (MemOk x)) := by
  obtain ⟨b, h1, _, h2⟩ := may_same x hx
  rw [h2]
  have : b = decide (MemOk x) := by
    by_cases h : MemOk x
    · rw [h1.2 h, decide_eq_true h]
    · cases b with
      | false => rw [decide_eq_false h]
      | true => exact absurd (h1.1 rfl) h
  rw [this]
theorem light_tail {l : S26} (m : S46) : (tailF l m).length ≤ l.f1.length ∧ ∀ e ∈ tailF l m, e ∈ l.f1 := by
  unfold tailF
  split
  · exact ⟨by simp [compactF], fun e he => List.mem_of_mem_drop he⟩
  · exact ⟨by simp, fun e he => by cases he⟩
theorem light_snap {l : S26} (hx : LightL l) {m : S46} (h9 : m.f9.length ≤ 4194304) : LightL (snapL l m) := by
  have h := light_tail (l := l) m
  exact ⟨Nat.le_trans h.1 hx.1, h9, fun e he => hx.2.2 e (h.2 e he)⟩
theorem m65_j5_eq {s x0 : S85} {m : S46} {t : List S80} (hx : LightL (⟨⟨m.f4, m.f5, m.f9⟩, t⟩ : S26)) (ho : s.f1.length ≤ 900) : m65_j5 m.f9 t m s x0 = some (if LogOk (⟨⟨m.f4, m.f5, m.f9⟩, t⟩ : S26) then { sendF { s with f0 := { s.f0 with f5 := ⟨⟨m.f4, m.f5, m.f9⟩, t⟩, f6 := m.f4 } } m.f1 (S46.mk 4 0 0 0 m.f4 0 0 true [] [] 0 [] noTree) with f2 := m.f4 } else s) := by
  unfold m65_j5
  by_cases h : LogOk (⟨⟨m.f4, m.f5, m.f9⟩, t⟩ : S26)
  · rw [m40_ok hx h, if_pos h, m59_eq (by exact Nat.le_trans ho (by omega))]
    rfl
  · rw [m40_bad hx h, if_neg h]
    rfl
theorem m65_eq {s : S85} {m : S46} (h : Inv s.f0) (hi : In s m) (ho : s.f1.length ≤ 900) : m65 s m = some (snapF s m) := by
  have hl9 := hi.l9; have hcom := h.com; have h4 := hi.i4
  have hf := follow_inv h hi.src
  have eno : (s.f0.f3 = 2 ∨ ¬ MemOk m.f9 ∨ m.f5 > s.f0.f1) → snapF s m = s := fun hc => if_pos hc
  have eyes : ¬ (s.f0.f3 = 2 ∨ ¬ MemOk m.f9 ∨ m.f5 > s.f0.f1) → snapF s m = _ := fun hc => if_neg hc
  unfold m65
  rw [m78_eq _ (by omega)]
  by_cases c0 : s.f0.f3 = 2
  · have b : ((s.f0.f3 : Int) == 2) = true := by simp [c0]
    rw [b, eno (.inl c0)]; rfl
  · have b : ((s.f0.f3 : Int) == 2) = false := by simp [c0]
    rw [b]
    simp only [Bool.false_eq_true, if_false, Option.bind_some]
    by_cases c1 : MemOk m.f9
    · by_cases c2 : m.f5 > s.f0.f1
      · rw [eno (.inr (.inr c2))]
        simp only [c1, c2, decide_true, Bool.not_true, Bool.false_eq_true, if_false]
        rfl
      · rw [eyes (by rintro (h | h | h) <;> contradiction)]
        simp only [c1, c2, decide_true, decide_false, Bool.not_true, Bool.false_eq_true, if_false]
        unfold m65_j1
        rw [m86_eq]
        simp only [Bool.false_eq_true, if_false, Option.bind_some]
        have e6 : (followN s.f0 m.f1).f6 = s.f0.f6 := rfl
        rw [e6]
        by_cases c3 : m.f4 ≤ s.f0.f6
        · rw [if_pos c3]
          simp only [c3, decide_true, if_true]
          rw [m59_eq (by exact Nat.le_trans ho (by omega))]
          rfl
        · rw [if_neg c3, m61_eq _ (by omega)]
          simp only [c3, decide_false, Bool.false_eq_true, if_false, Option.bind_some]
          unfold m65_j2
          have e5 : ({ s with f0 := followN s.f0 m.f1 } : S85).f0.f5 = s.f0.f5 := rfl
          rw [e5]
          have hnil : m65_j5 m.f9 [] m { s with f0 := followN s.f0 m.f1 } s = _ := m65_j5_eq (s := { s with f0 := followN s.f0 m.f1 }) (t := []) ⟨by simp, hl9, fun e he => by cases he⟩ ho
          by_cases c4 : m.f4 ≤ lastOf s.f0.f5
          · rw [m69_in h.light h.log (by omega) c4]
            simp only [Option.bind_some]
            rw [if_pos (show ((0 : Int) == 0) = true from rfl)]
            unfold m65_j3
            by_cases c5 : termAt s.f0.f5 m.f4 = m.f5
            · have b5 : ((termAt s.f0.f5 m.f4 : Int) == m.f5) = true := by simp [c5]
              have et : tailF s.f0.f5 m = (compactF s.f0.f5 m.f4).f1 := if_pos ⟨by omega, c4, c5⟩
              rw [b5, if_pos rfl, e5, m39_eq h.light h.log (by omega) c4]
              simp only [Option.bind_some]
              unfold m65_j4
              rw [if_pos (show ((0 : Int) == 0) = true from rfl)]
              have hls := light_snap h.light (m := m) hl9
              unfold snapL at hls ⊢
              rw [et] at hls ⊢
              exact m65_j5_eq (s := { s with f0 := followN s.f0 m.f1 }) hls ho
            · have b5 : ((termAt s.f0.f5 m.f4 : Int) == m.f5) = false := by simp [c5]
              have et : tailF s.f0.f5 m = [] := if_neg (fun hx => c5 hx.2.2)
              rw [b5]
              unfold snapL
              rw [et]
              exact hnil
          · rw [m69_out h.light h.log (fun hx => c4 hx.2)]
            have et : tailF s.f0.f5 m = [] := if_neg (fun hx => c4 hx.2.1)
            unfold snapL
            rw [et]
            exact hnil
    · rw [eno (.inr (.inl c1))]
      simp only [c1, decide_false, Bool.not_false, if_true]
      rfl
end Go.Proofs.Ythpdomeciaafjaa
