/- Plain law: snapshots keep; asking, acknowledging. Own work. -/
import Derived.Test.YthpdomeciaafjaaRQH
namespace Go.Proofs.Ythpdomeciaafjaa
open Go.Fx

theorem good_snap {s : S85} {m : S46} (h : Inv s.f0) (ho : OutOk s) (hi : In s m) : Good s (snapF s m) 1 := by
  have g := good_follow h ho hi
  have hcom := h.com; have ht := h.term
  have hle := (last_le h.log).1 ht.1
  unfold snapF
  split
  · exact Good.refl h ho
  · rename_i hc
    have hc3 : ¬ m.f5 > s.f0.f1 := fun c => hc (.inr (.inr c))
    split
    · exact (g.trans (good_send g.inv g.out hi.ne (by simp) (by simp))).mono (by omega)
    · rename_i hc4
      split
      · rename_i hlog
        have htl := light_tail (l := s.f0.f5) m
        have hi1 := follow_inv h hi.src
        have hb := base_le (x := snapL s.f0.f5 m)
        have hbb : (snapL s.f0.f5 m).f0.f0 = m.f4 := rfl
        have g1 : Good s { s with f0 := { followN s.f0 m.f1 with f5 := snapL s.f0.f5 m, f6 := m.f4 } } 0 := by
          refine ⟨⟨light_snap h.light hi.l9, hlog, h.id, ⟨?_, ht.2⟩, h.voted, hi1.lead, hi1.role, hi1.rt, ⟨Int.le_refl _, ?_⟩, hi1.tick, h.tmo, h.arr, votes_nil, h.l8, h.l9⟩, ho, ⟨rfl, Int.le_refl _, fun _ _ => rfl, ?_, ?_, ?_⟩, Nat.le_refl _⟩
          · refine (last_le hlog).2 ⟨by show m.f5 ≤ s.f0.f1; omega, fun e he => hle.2 e (htl.2 e he)⟩
          · show m.f4 ≤ lastOf (snapL s.f0.f5 m)
            omega
          · show s.f0.f6 ≤ m.f4
            omega
          · show s.f0.f5.f0.f0 ≤ m.f4
            omega
          · intro i _ h2 h3
            change m.f4 ≤ i at h3
            omega
        have g2 := g1.trans (good_send g1.inv g1.out (to := m.f1) hi.ne (m := S46.mk 4 0 0 0 m.f4 0 0 true [] [] 0 [] noTree) (by simp) (by simp))
        exact ⟨g2.inv, g2.out, g2.kept, g2.len⟩
      · exact g.mono (by omega)
/-! ### Asking -/
def grantB (s : S85) (m : S46) : Bool := decide (s.f0.f3 = 0 ∧ (s.f0.f2 = 0 ∨ s.f0.f2 = m.f1) ∧ (m.f5 > termAt s.f0.f5 (lastOf s.f0.f5) ∨ (m.f5 = termAt s.f0.f5 (lastOf s.f0.f5) ∧ m.f4 ≥ lastOf s.f0.f5)))
def askedF (s : S85) (m : S46) : S85 :=
  sendF { s with f0 := { s.f0 with f2 := if grantB s m = true then m.f1 else s.f0.f2, f10 := if grantB s m = true then 0 else s.f0.f10 } } m.f1 (S46.mk 2 0 0 0 0 0 0 (grantB s m) [] [] 0 [] noTree)
theorem m60_j1_eq {s : S85} {m : S46} (ho : s.f1.length ≤ 900) (b : Bool) : m60_j1 b m s = some (sendF { s with f0 := { s.f0 with f2 := if b = true then m.f1 else s.f0.f2, f10 := if b = true then 0 else s.f0.f10 } } m.f1 (S46.mk 2 0 0 0 0 0 0 b [] [] 0 [] noTree)) := by
  unfold m60_j1 m60_j2
  cases b
  · simp only [Bool.false_eq_true, if_false]
    rw [m59_eq (by exact Nat.le_trans ho (by omega))]; rfl
  · simp only [if_true]
    rw [m59_eq (by exact Nat.le_trans ho (by omega))]; rfl
theorem m60_eq {s : S85} {m : S46} (h : Inv s.f0) (ho : s.f1.length ≤ 900) : m60 s m = some (askedF s m) := by
  have key : ∀ b, grantB s m = b → m60_j1 b m s = some (askedF s m) := fun b hb => by rw [m60_j1_eq ho, ← hb]; rfl
  unfold m60
  rw [m41_eq h.light h.log]
  simp only [Option.bind_some]
  generalize hT : termAt s.f0.f5 (lastOf s.f0.f5) = T
  generalize hL : lastOf s.f0.f5 = L
  have hg : ∀ b, decide (s.f0.f3 = 0 ∧ (s.f0.f2 = 0 ∨ s.f0.f2 = m.f1) ∧ (m.f5 > T ∨ (m.f5 = T ∧ m.f4 ≥ L))) = b → m60_j1 b m s = some (askedF s m) := fun b hb => key b (by unfold grantB; rw [hT, hL]; exact hb)
  have inner : s.f0.f3 = 0 → (s.f0.f2 = 0 ∨ s.f0.f2 = m.f1) → (if (decide ((m.f5 : Int) > T)) = true then (m60_j1 true m s) else (if (((m.f5 : Int) == T)) = true then (m60_j1 (decide ((m.f4 : Int) ≥ L)) m s) else (m60_j1 false m s))) = some (askedF s m) := by
    intro h1 h2
    by_cases c1 : m.f5 > T
    · rw [if_pos (decide_eq_true c1)]
      exact hg _ (decide_eq_true ⟨h1, h2, .inl c1⟩)
    · rw [if_neg (by simpa using c1)]
      by_cases c2 : m.f5 = T
      · rw [if_pos (by simp [c2])]
        refine hg _ ?_
        simp [h1, h2, c2]
      · rw [if_neg (by simp [c2])]
        refine hg _ ?_
        simp [c1, c2]
  by_cases c0 : s.f0.f3 = 0
  · rw [if_pos (by simp [c0])]
    by_cases c1 : s.f0.f2 = 0
    · rw [if_pos (by simp [c1])]
      exact inner c0 (.inl c1)
    · rw [if_neg (by simp [c1])]
      by_cases c2 : s.f0.f2 = m.f1
      · rw [if_pos (by simp [c2])]
        exact inner c0 (.inr c2)
      · rw [if_neg (by simp [c2])]
        exact hg _ (by simp [c1, c2])
  · rw [if_neg (by simp [c0])]
    exact hg _ (by simp [c0])
theorem good_asked {s : S85} {m : S46} (h : Inv s.f0) (ho : OutOk s) (hi : In s m) : Good s (askedF s m) 1 := by
  have hs := hi.src; have hv := h.voted; have ht := h.tick
  have g : Good s { s with f0 := { s.f0 with f2 := if grantB s m = true then m.f1 else s.f0.f2, f10 := if grantB s m = true then 0 else s.f0.f10 } } 0 := by
    refine ⟨⟨h.light, h.log, h.id, h.term, ?_, h.lead, h.role, h.rt, h.com, ?_, h.tmo, h.arr, h.votes, h.l8, h.l9⟩, ho, ⟨rfl, Int.le_refl _, ?_, Int.le_refl _, Int.le_refl _, fun _ _ _ _ => rfl⟩, Nat.le_refl _⟩
    · show 0 ≤ (if grantB s m = true then m.f1 else s.f0.f2) ∧ (if grantB s m = true then m.f1 else s.f0.f2) ≤ 7
      split <;> omega
    · show 0 ≤ (if grantB s m = true then 0 else s.f0.f10) ∧ (if grantB s m = true then 0 else s.f0.f10) ≤ MAXN
      split
      · unfold MAXN; omega
      · exact ht
    · intro _ h2
      show (if grantB s m = true then m.f1 else s.f0.f2) = s.f0.f2
      split
      · rename_i hg
        have := of_decide_eq_true hg
        rcases this.2.1 with c | c
        · exact absurd c h2
        · exact c.symm
      · rfl
  exact g.trans (good_send g.inv g.out hi.ne (by simp) (by simp))
/-! ### Acknowledging -/
def backV (nx mt i : Int) : Int :=
  if 1152921504606846976 < (if (if nx - 1 < i + 1 then nx - 1 else i + 1) < mt + 1 then mt + 1 else (if nx - 1 < i + 1 then nx - 1 else i + 1)) then 1152921504606846976 else (if (if nx - 1 < i + 1 then nx - 1 else i + 1) < mt + 1 then mt + 1 else (if nx - 1 < i + 1 then nx - 1 else i + 1))
def hasV (mt i : Int) : Int := if mt < i then i else mt
def fwdV (v : Int) : Int := if 1152921504606846976 < v + 1 then 1152921504606846976 else v + 1
def backN (n : S31) (m : S46) : S31 := { n with f8 := n.f8.set m.f1.toNat (backV (n.f8.getD m.f1.toNat 0) (n.f9.getD m.f1.toNat 0) m.f4) }
def ackN (n : S31) (m : S46) : S31 := { n with f8 := n.f8.set m.f1.toNat (fwdV (hasV (n.f9.getD m.f1.toNat 0) m.f4)), f9 := n.f9.set m.f1.toNat (hasV (n.f9.getD m.f1.toNat 0) m.f4) }
def ackF (s : S85) (m : S46) : S85 :=
  if m.f7 = false then bringF { s with f0 := backN s.f0 m } m.f1
  else if m.f4 > lastOf s.f0.f5 then s
  else if (countsF { s with f0 := ackN s.f0 m }).f0.f3 = 2 ∧ nextOf (countsF { s with f0 := ackN s.f0 m }).f0 m.f1 ≤ lastOf s.f0.f5 then bringF (countsF { s with f0 := ackN s.f0 m }) m.f1
  else countsF { s with f0 := ackN s.f0 m }
theorem backV_range {nx mt i : Int} (h2 : 0 ≤ mt ∧ mt ≤ MAXN) : 0 ≤ backV nx mt i ∧ backV nx mt i ≤ MAXN := by
  unfold backV
  generalize (if nx - 1 < i + 1 then nx - 1 else i + 1) = a
  unfold MAXN at *
  split
  · omega
  · split at * <;> omega
theorem backN_inv {n : S31} {m : S46} (h : Inv n) (hs : 1 ≤ m.f1 ∧ m.f1 ≤ 7) : Inv (backN n m) :=
  ⟨h.light, h.log, h.id, h.term, h.voted, h.lead, h.role, h.rt, h.com, h.tick, h.tmo, arr_set8 h.arr (backV_range (h.match_ (by omega) (by omega))), h.votes, by show (List.set _ _ _).length = 8; rw [List.length_set]; exact h.l8, h.l9⟩
theorem ackN_inv {n : S31} {m : S46} (h : Inv n) (hs : 1 ≤ m.f1 ∧ m.f1 ≤ 7) (h4 : 0 ≤ m.f4 ∧ m.f4 ≤ MAXN) : Inv (ackN n m) := by
  have hm := h.match_ (v := m.f1) (by omega) (by omega)
  have hv : 0 ≤ hasV (n.f9.getD m.f1.toNat 0) m.f4 ∧ hasV (n.f9.getD m.f1.toNat 0) m.f4 ≤ MAXN := by unfold hasV; split <;> omega
  have hw : 0 ≤ fwdV (hasV (n.f9.getD m.f1.toNat 0) m.f4) ∧ fwdV (hasV (n.f9.getD m.f1.toNat 0) m.f4) ≤ MAXN := by unfold fwdV; unfold MAXN at *; split <;> omega
  exact ⟨h.light, h.log, h.id, h.term, h.voted, h.lead, h.role, h.rt, h.com, h.tick, h.tmo, arr_set h.arr hw hv, h.votes, by show (List.set _ _ _).length = 8; rw [List.length_set]; exact h.l8, by show (List.set _ _ _).length = 8; rw [List.length_set]; exact h.l9⟩
theorem good_ack {s : S85} {m : S46} (h : Inv s.f0) (ho : OutOk s) (hi : In s m) : Good s (ackF s m) 1 := by
  unfold ackF
  split
  · have g : Good s { s with f0 := backN s.f0 m } 0 := ⟨backN_inv h hi.src, ho, kept_free rfl rfl rfl rfl rfl, Nat.le_refl _⟩
    exact g.trans (good_bring g.inv g.out hi.ne)
  · split
    · exact Good.refl h ho
    · have g : Good s { s with f0 := ackN s.f0 m } 0 := ⟨ackN_inv h hi.src hi.i4, ho, kept_free rfl rfl rfl rfl rfl, Nat.le_refl _⟩
      have g2 := g.trans (good_counts g.inv g.out)
      split
      · exact (g2.trans (good_bring g2.inv g2.out (by rw [g2.kept.id]; exact hi.ne))).mono (by omega)
      · exact g2.mono (by omega)
theorem m66_eq {s : S85} {m : S46} (h : Inv s.f0) (hi : In s m) (ho : s.f1.length ≤ 900) : m66 s m = some (ackF s m) := by
  have hs := hi.src; have h4 := hi.i4
  have hnx := h.next (v := m.f1) (by omega) (by omega)
  have hmt := h.match_ (v := m.f1) (by omega) (by omega)
  unfold nextOf at hnx
  have hlast := h.last
  have g : (decide ((0 : Int) ≤ m.f1) && decide (m.f1 < (8 : Nat))) = true := by
    simp only [Bool.and_eq_true, decide_eq_true_eq]; omega
  have w1 : IntKind.i64.wrap (s.f0.f8.getD m.f1.toNat 0 - 1) = s.f0.f8.getD m.f1.toNat 0 - 1 := wrap_id (by omega) (by unfold MAXN at hnx; omega)
  have w2 : IntKind.i64.wrap (m.f4 + 1) = m.f4 + 1 := wrap_id (by omega) (by unfold MAXN at h4; omega)
  have w3 : IntKind.i64.wrap (s.f0.f9.getD m.f1.toNat 0 + 1) = s.f0.f9.getD m.f1.toNat 0 + 1 := wrap_id (by omega) (by unfold MAXN at hmt; omega)
  unfold m66 ackF
  rw [g, w1, w2, w3]
  cases c0 : m.f7 with
  | false =>
    simp only [Bool.not_false, if_true]
    have gb := backN_inv h hs
    have e := m55_eq (s := { s with f0 := backN s.f0 m }) gb.li (by exact Nat.le_trans ho (by omega)) (to := m.f1) (by omega) (by omega) (gb.next (by omega) (by omega)).2
    unfold backN backV at e ⊢
    rw [e]
    rfl
  | true =>
    have ga := ackN_inv h hs h4
    have gs : ∀ v : Int, (s.f0.f9.set m.f1.toNat v).getD m.f1.toNat 0 = v := fun v => by rw [getD_set, if_pos ⟨rfl, by rw [h.l9]; omega⟩]
    have hv : 0 ≤ hasV (s.f0.f9.getD m.f1.toNat 0) m.f4 ∧ hasV (s.f0.f9.getD m.f1.toNat 0) m.f4 ≤ MAXN := by unfold hasV; split <;> omega
    have w4 : IntKind.i64.wrap (hasV (s.f0.f9.getD m.f1.toNat 0) m.f4 + 1) = hasV (s.f0.f9.getD m.f1.toNat 0) m.f4 + 1 := wrap_id (by omega) (by unfold MAXN at hv; omega)
    have eh : (if s.f0.f9.getD m.f1.toNat 0 < m.f4 then m.f4 else s.f0.f9.getD m.f1.toNat 0) = hasV (s.f0.f9.getD m.f1.toNat 0) m.f4 := rfl
    simp only [Bool.not_true, Bool.false_eq_true, reduceCtorEq, if_false, if_true, m36_eq h.li, Option.bind_some, eh, gs, w4]
    by_cases c1 : m.f4 > lastOf s.f0.f5
    · rw [if_pos (decide_eq_true c1), if_pos c1]
    · have ec : m68 { s with f0 := ackN s.f0 m } = some (countsF { s with f0 := ackN s.f0 m }) := m68_inv (s := { s with f0 := ackN s.f0 m }) ga
      have gi := counts_inv (s := { s with f0 := ackN s.f0 m }) ga
      obtain ⟨q1, _, q5, _⟩ := countsF_n { s with f0 := ackN s.f0 m }
      have e36 : m36 (countsF { s with f0 := ackN s.f0 m }) = some (lastOf s.f0.f5) := by rw [m36_eq gi.li, q5]; rfl
      have e55 := m55_eq (s := countsF { s with f0 := ackN s.f0 m }) gi.li (by rw [q1]; exact Nat.le_trans ho (by omega)) (to := m.f1) (by omega) (by omega) (gi.next (by omega) (by omega)).2
      rw [if_neg (by simpa using c1), if_neg c1]
      have step : ∀ t : S85, m36 t = some (lastOf s.f0.f5) → m55 t m.f1 = some (bringF t m.f1) → (if (((t.f0.f3 : Int) == 2)) = true then ((m36 t).bind fun t0_28 => (m66_j1 (decide (((t.f0.f8.getD m.f1.toNat 0) : Int) ≤ t0_28)) m t s)) else (m66_j1 false m t s)) = some (if t.f0.f3 = 2 ∧ nextOf t.f0 m.f1 ≤ lastOf s.f0.f5 then bringF t m.f1 else t) := by
        intro t h1 h2
        rw [h1]
        unfold m66_j1
        rw [h2]
        by_cases d1 : t.f0.f3 = 2
        · by_cases d2 : nextOf t.f0 m.f1 ≤ lastOf s.f0.f5
          · have d2' : t.f0.f8.getD m.f1.toNat 0 ≤ lastOf s.f0.f5 := d2
            have b : ((t.f0.f3 : Int) == 2) = true := by simp [d1]
            have e2 : (if t.f0.f3 = 2 ∧ nextOf t.f0 m.f1 ≤ lastOf s.f0.f5 then bringF t m.f1 else t) = bringF t m.f1 := if_pos ⟨d1, d2⟩
            rw [e2, b, if_pos rfl, Option.bind_some, if_pos (decide_eq_true d2')]
            rfl
          · have d2' : ¬ t.f0.f8.getD m.f1.toNat 0 ≤ lastOf s.f0.f5 := d2
            have b : ((t.f0.f3 : Int) == 2) = true := by simp [d1]
            have e2 : (if t.f0.f3 = 2 ∧ nextOf t.f0 m.f1 ≤ lastOf s.f0.f5 then bringF t m.f1 else t) = t := if_neg (fun hx => d2 hx.2)
            rw [e2, b, if_pos rfl, Option.bind_some, if_neg (by simpa using d2')]
        · have b : ((t.f0.f3 : Int) == 2) = false := by simp [d1]
          have e2 : (if t.f0.f3 = 2 ∧ nextOf t.f0 m.f1 ≤ lastOf s.f0.f5 then bringF t m.f1 else t) = t := if_neg (fun hx => d1 hx.1)
          rw [e2, b]
          rfl
      have := step _ e36 e55
      rw [← this]
      unfold ackN fwdV at ec ⊢
      rw [ec]
      rfl
end Go.Proofs.Ythpdomeciaafjaa
