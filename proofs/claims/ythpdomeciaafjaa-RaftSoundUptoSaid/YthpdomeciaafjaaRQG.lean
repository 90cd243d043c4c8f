/- Plain law: appending, snapshots, asking, acknowledging. Own work. -/
import Derived.Test.YthpdomeciaafjaaRQF
namespace Go.Proofs.Ythpdomeciaafjaa
open Go.Fx

def followN (n : S31) (who : Int) : S31 := { n with f3 := 0, f4 := who, f7 := [], f10 := 0 }
theorem m86_eq (s : S85) (who : Int) : m86 s who = some { s with f0 := followN s.f0 who } := rfl
theorem follow_inv {n : S31} (h : Inv n) {who : Int} (hw : 1 ≤ who ∧ who ≤ 7) : Inv (followN n who) :=
  ⟨h.light, h.log, h.id, h.term, h.voted, by show 0 ≤ who ∧ who ≤ 7; omega, by show (0 : Int) ≤ 0 ∧ (0 : Int) ≤ 2; omega, .inr rfl, h.com, by show (0 : Int) ≤ 0 ∧ (0 : Int) ≤ MAXN; unfold MAXN; omega, h.tmo, h.arr, votes_nil, h.l8, h.l9⟩
/-- A message that may be heard. -/
structure In (s : S85) (m : S46) : Prop where
  src : 1 ≤ m.f1 ∧ m.f1 ≤ 7
  ne : m.f1 ≠ s.f0.f0
  term : m.f3 = s.f0.f1
  pos : 0 < s.f0.f1
  i4 : 0 ≤ m.f4 ∧ m.f4 ≤ MAXN
  i5 : 0 ≤ m.f5 ∧ m.f5 ≤ MAXN
  i6 : 0 ≤ m.f6 ∧ m.f6 ≤ MAXN
  l8 : LightE m.f8
  l9 : m.f9.length ≤ 4194304
theorem good_follow {s : S85} {m : S46} (h : Inv s.f0) (ho : OutOk s) (hi : In s m) : Good s { s with f0 := followN s.f0 m.f1 } 0 :=
  ⟨follow_inv h hi.src, ho, kept_free rfl rfl rfl rfl rfl, Nat.le_refl _⟩
theorem m97v1_loop (x : List S80) (z : S46) (hx : (x.length : Int) < 4611686018427387904) : ∀ (k : Nat) (i : Int), 0 ≤ i → i ≤ (x.length : Int) → (x.length : Int) - i < (k : Int) → ∃ r, m97v1_j1 k i x z = some r ∧ (decide (r ≥ 0) = (x.drop i.toNat).any fun e => decide (e.f0 > z.f3)) := by
  intro k
  induction k with
  | zero => intro i h0 h1 h2; omega
  | succ k ih =>
    intro i h0 h1 h2
    rw [m97v1_j1]
    by_cases hi : i < (x.length : Int)
    · obtain ⟨e, he⟩ := idx_some h0 hi
      have hw : IntKind.i64.wrap (i + 1) = i + 1 := wrap_id (by omega) (by omega)
      rw [idx_drop he, he, Option.bind_some, m89]
      by_cases hv : e.f0 > z.f3
      · exact ⟨i, by simp [hi, hv], by simp [hv, h0]⟩
      · obtain ⟨r, hr, hm⟩ := ih (i + 1) (by omega) (by omega) (by omega)
        exact ⟨r, by simp [hi, hv, hw, hr], by rw [hm]; simp [hv]⟩
    · have : x.drop i.toNat = [] := List.drop_eq_nil_of_le (by omega)
      exact ⟨-1, by simp [hi], by simp [this]⟩
def highB (es : List S80) (m : S46) : Bool := es.any fun e => decide (e.f0 > m.f3)
theorem m88v1_eq (x : List S80) (z : S46) (hx : (x.length : Int) < 4611686018427387904) : m88v1 x z = some (highB x z) := by
  obtain ⟨r, h1, h2⟩ := m97v1_loop x z hx FUEL 0 (by omega) (by omega) (by show (x.length : Int) - 0 < ((4611686018427387904 : Nat) : Int); omega)
  unfold m88v1 m97v1
  rw [h1, Option.bind_some, h2]
  rfl
noncomputable def app2F (p : Int) (es : List S80) (m : S46) (s : S85) : S85 :=
  if (mergeF s.f0.f5 (p + 1) es).2.2 ≠ 0 ∨ (mergeF s.f0.f5 (p + 1) es).2.1 ≤ s.f0.f6 ∨ highB es m = true then s
  else sendF { s with f0 := { s.f0 with f5 := (mergeF s.f0.f5 (p + 1) es).1, f6 := if s.f0.f6 < (if p + es.length < m.f6 then p + es.length else m.f6) then (if p + es.length < m.f6 then p + es.length else m.f6) else s.f0.f6 } } m.f1 (S46.mk 4 0 0 0 (p + es.length) 0 0 true [] [] 0 [] noTree)
theorem m64_j2_eq {s x0 : S85} {m : S46} {p : Int} {es : List S80} (h : Inv s.f0) (hl : s.f0.f5.f1.length ≤ 2097152) (he : LightE es) (h1 : s.f0.f5.f0.f0 ≤ p) (h2 : p ≤ lastOf s.f0.f5) (ho : s.f1.length ≤ 900) : m64_j2 p es m s x0 = some (app2F p es m s) := by
  have hlast := h.last; have hel := he.1
  have hw : IntKind.i64.wrap (p + (es.length : Int)) = p + es.length := wrap_id (by omega) (by unfold MAXN at hlast; omega)
  unfold m64_j2
  rw [m87_eq h.light h.log hl he h1 h2, m88v1_eq es m (by omega)]
  simp only [Option.bind_some]
  unfold app2F m64_j3
  generalize mergeF s.f0.f5 (p + 1) es = r
  rw [hw]
  by_cases c1 : r.2.2 = 0
  · have b1 : ((r.2.2 : Int) != 0) = false := by simp [c1]
    rw [b1]
    by_cases c2 : r.2.1 ≤ s.f0.f6
    · refine Eq.trans ?_ (congrArg some (if_pos (.inr (.inl c2))).symm)
      simp [c2]
    · by_cases c3 : highB es m = true
      · refine Eq.trans ?_ (congrArg some (if_pos (.inr (.inr c3))).symm)
        simp [c2, c3]
      · refine Eq.trans ?_ (congrArg some (if_neg (by rintro (h | h | h) <;> contradiction)).symm)
        have c3' : highB es m = false := by simpa using c3
        simp only [c2, c3', decide_false, Bool.false_eq_true, if_false]
        rw [m59_eq (by exact Nat.le_trans ho (by omega))]
        rfl
  · have b1 : ((r.2.2 : Int) != 0) = true := by simp [c1]
    refine Eq.trans ?_ (congrArg some (if_pos (.inl c1)).symm)
    rw [b1]
    simp
theorem good_app2 {s : S85} {m : S46} {p : Int} {es : List S80} (h : Inv s.f0) (ho : OutOk s) (hi : In s m) (hl : s.f0.f5.f1.length ≤ 2097152) (he : LightE es) (h1 : s.f0.f5.f0.f0 ≤ p) (h2 : p ≤ lastOf s.f0.f5) : Good s (app2F p es m s) 1 := by
  unfold app2F
  split
  · exact Good.refl h ho
  · rename_i hc
    have hc1 : (mergeF s.f0.f5 (p + 1) es).2.2 = 0 := by
      by_cases c : (mergeF s.f0.f5 (p + 1) es).2.2 = 0
      · exact c
      · exact absurd (.inl c) hc
    have hc2 : ¬ (mergeF s.f0.f5 (p + 1) es).2.1 ≤ s.f0.f6 := fun c => hc (.inr (.inl c))
    have hc3 : highB es m = false := by
      cases c : highB es m with
      | false => rfl
      | true => exact absurd (.inr (.inr c)) hc
    obtain ⟨a1, a2, a3, a4, a5, a6, a7, a8, a9⟩ := merge_ok h.light h.log hl es he (p + 1) (by omega) (by omega) hc1
    generalize mergeF s.f0.f5 (p + 1) es = r at a1 a2 a3 a4 a5 a6 a7 a8 a9 hc1 hc2
    have hcom := h.com
    have ht := h.term
    have hle := (last_le h.log).1 ht.1
    generalize hcc : (if p + (es.length : Int) < m.f6 then p + (es.length : Int) else m.f6) = c
    have hcr : c ≤ p + es.length := by rw [← hcc]; split <;> omega
    generalize hcd : (if s.f0.f6 < c then c else s.f0.f6) = d
    have hd1 : s.f0.f6 ≤ d ∧ d ≤ lastOf r.1 := by rw [← hcd]; split <;> omega
    have g1 : Good s { s with f0 := { s.f0 with f5 := r.1, f6 := d } } 0 := by
      refine ⟨⟨a2, a1, h.id, ⟨?_, ht.2⟩, h.voted, h.lead, h.role, h.rt, ?_, h.tick, h.tmo, h.arr, h.votes, h.l8, h.l9⟩, ho, ⟨rfl, Int.le_refl _, fun _ _ => rfl, hd1.1, ?_, ?_⟩, Nat.le_refl _⟩
      · refine (last_le a1).2 ⟨by show r.1.f0.f1 ≤ s.f0.f1; rw [a3]; exact hle.1, fun e hm => ?_⟩
        show e.f0 ≤ s.f0.f1
        rcases a8 e hm with hm | hm
        · exact hle.2 e hm
        · have := (List.any_eq_false.1 hc3) e hm
          rw [hi.term] at this
          simp at this
          exact this
      · show r.1.f0.f0 ≤ d ∧ d ≤ lastOf r.1
        rw [a3]; omega
      · show s.f0.f5.f0.f0 ≤ r.1.f0.f0
        rw [a3]; exact Int.le_refl _
      · intro i b1 b2 _
        exact a9 i b1 (by omega)
    exact g1.trans (good_send g1.inv g1.out hi.ne (by simp) (by simp))
noncomputable def appF (s : S85) (m : S46) : S85 :=
  if s.f0.f3 = 2 then s
  else if m.f4 < s.f0.f5.f0.f0 then app2F s.f0.f5.f0.f0 (m.f8.drop (s.f0.f5.f0.f0 - m.f4).toNat) m { s with f0 := followN s.f0 m.f1 }
  else if m.f4 ≤ lastOf s.f0.f5 ∧ termAt s.f0.f5 m.f4 = m.f5 then app2F m.f4 m.f8 m { s with f0 := followN s.f0 m.f1 }
  else sendF { s with f0 := followN s.f0 m.f1 } m.f1 (S46.mk 4 0 0 0 (if (if lastOf s.f0.f5 < m.f4 - 1 then lastOf s.f0.f5 else m.f4 - 1) < 0 then 0 else (if lastOf s.f0.f5 < m.f4 - 1 then lastOf s.f0.f5 else m.f4 - 1)) 0 0 false [] [] 0 [] noTree)
theorem light_drop {es : List S80} (h : LightE es) (n : Nat) : LightE (es.drop n) := ⟨by have := h.1; rw [List.length_drop]; omega, fun e he => h.2 e (List.mem_of_mem_drop he)⟩
theorem m64_eq {s : S85} {m : S46} (h : Inv s.f0) (hi : In s m) (hl : s.f0.f5.f1.length ≤ 2097152) (ho : s.f1.length ≤ 900) : m64 s m = some (appF s m) := by
  have hlast := h.last; have h4 := hi.i4; have hl8 := hi.l8.1
  have hf := follow_inv h hi.src
  unfold m64 appF
  by_cases c0 : s.f0.f3 = 2
  · have b : ((s.f0.f3 : Int) == 2) = true := by simp [c0]
    rw [b, if_pos c0]; rfl
  · have b : ((s.f0.f3 : Int) == 2) = false := by simp [c0]
    rw [b, if_neg c0, m86_eq]
    simp only [Bool.false_eq_true, if_false, Option.bind_some]
    have e5 : (followN s.f0 m.f1).f5 = s.f0.f5 := rfl
    rw [e5]
    by_cases c1 : m.f4 < s.f0.f5.f0.f0
    · have hw : IntKind.i64.wrap (s.f0.f5.f0.f0 - m.f4) = s.f0.f5.f0.f0 - m.f4 := wrap_id (by omega) (by unfold MAXN at hlast; omega)
      rw [if_pos c1, hw]
      simp only [c1, decide_true, if_true]
      generalize hk : (if (m.f8.length : Int) < s.f0.f5.f0.f0 - m.f4 then (m.f8.length : Int) else s.f0.f5.f0.f0 - m.f4) = k
      have hk1 : 0 ≤ k ∧ k ≤ m.f8.length := by rw [← hk]; split <;> omega
      have g : (decide ((0 : Int) ≤ k) && decide (k ≤ (m.f8.length : Int)) && decide ((m.f8.length : Int) ≤ (m.f8.length : Int))) = true := by
        simp only [Bool.and_eq_true, decide_eq_true_eq]; omega
      have d1 : (m.f8.drop k.toNat).take ((m.f8.length : Int).toNat - k.toNat) = m.f8.drop (s.f0.f5.f0.f0 - m.f4).toNat := by
        rw [List.take_of_length_le (by simp), ← hk]
        split
        · rw [List.drop_eq_nil_of_le (by simp), List.drop_eq_nil_of_le (by omega)]
        · rfl
      rw [g, d1]
      simp only [if_true]
      exact m64_j2_eq (s := { s with f0 := followN s.f0 m.f1 }) hf hl (light_drop hi.l8 _) (Int.le_refl _) (by show s.f0.f5.f0.f0 ≤ lastOf s.f0.f5; omega) ho
    · rw [if_neg c1]
      simp only [c1, decide_false, Bool.false_eq_true, if_false]
      have hno : m64_j1 true m { s with f0 := followN s.f0 m.f1 } s = some (sendF { s with f0 := followN s.f0 m.f1 } m.f1 (S46.mk 4 0 0 0 (if (if lastOf s.f0.f5 < m.f4 - 1 then lastOf s.f0.f5 else m.f4 - 1) < 0 then 0 else (if lastOf s.f0.f5 < m.f4 - 1 then lastOf s.f0.f5 else m.f4 - 1)) 0 0 false [] [] 0 [] noTree)) := by
        have hw : IntKind.i64.wrap (m.f4 - 1) = m.f4 - 1 := wrap_id (by omega) (by unfold MAXN at h4; omega)
        have e36 : m36 { s with f0 := followN s.f0 m.f1 } = some (lastOf s.f0.f5) := m36_eq (s := { s with f0 := followN s.f0 m.f1 }) hf.li
        unfold m64_j1
        rw [if_pos rfl, e36, hw]
        simp only [Option.bind_some]
        rw [m59_eq (by exact Nat.le_trans ho (by omega))]
        rfl
      by_cases c2 : m.f4 ≤ lastOf s.f0.f5
      · rw [m69_in h.light h.log (by omega) c2]
        by_cases c3 : termAt s.f0.f5 m.f4 = m.f5
        · have b3 : ((termAt s.f0.f5 m.f4 : Int) != m.f5) = false := by simp [c3]
          rw [if_pos ⟨c2, c3⟩]
          simp only [Option.bind_some, b3]
          exact m64_j2_eq (s := { s with f0 := followN s.f0 m.f1 }) hf hl hi.l8 (by show s.f0.f5.f0.f0 ≤ m.f4; omega) c2 ho
        · have b3 : ((termAt s.f0.f5 m.f4 : Int) != m.f5) = true := by simp [c3]
          rw [if_neg (fun hx => c3 hx.2)]
          simp only [Option.bind_some, b3]
          exact hno
      · rw [m69_out h.light h.log (by omega), if_neg (fun hx => c2 hx.1)]
        exact hno
theorem In.follow {s : S85} {m : S46} (hi : In s m) : In { s with f0 := followN s.f0 m.f1 } m := ⟨hi.src, hi.ne, hi.term, hi.pos, hi.i4, hi.i5, hi.i6, hi.l8, hi.l9⟩
theorem good_app {s : S85} {m : S46} (h : Inv s.f0) (ho : OutOk s) (hi : In s m) (hl : s.f0.f5.f1.length ≤ 2097152) : Good s (appF s m) 1 := by
  have g := good_follow h ho hi
  have hb := base_le (x := s.f0.f5)
  unfold appF
  split
  · exact Good.refl h ho
  · split
    · exact (g.trans (good_app2 g.inv g.out hi.follow hl (light_drop hi.l8 _) (Int.le_refl _) hb)).mono (by omega)
    · split
      · rename_i h1 h2
        exact (g.trans (good_app2 g.inv g.out hi.follow hl hi.l8 (by show s.f0.f5.f0.f0 ≤ m.f4; omega) h2.1)).mono (by omega)
      · exact (g.trans (good_send g.inv g.out hi.ne (by simp) (by simp))).mono (by omega)
end Go.Proofs.Ythpdomeciaafjaa
