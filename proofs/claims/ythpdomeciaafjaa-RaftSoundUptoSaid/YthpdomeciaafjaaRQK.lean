/- Plain law: messages heard, and the step. Own work. -/
import Derived.Test.YthpdomeciaafjaaRQJ
namespace Go.Proofs.Ythpdomeciaafjaa
open Go.Fx

def raiseN (n : S31) (t : Int) : S31 := { n with f1 := t, f2 := 0, f3 := 0, f4 := 0, f7 := [] }
def raiseF (s : S85) (m : S46) : S85 := if m.f3 > s.f0.f1 then { s with f0 := raiseN s.f0 m.f3 } else s
def votesOf (n : S31) (m : S46) : List Int := if m.f1 ∈ n.f7 then n.f7 else n.f7 ++ [m.f1]
def voteS (s : S85) (m : S46) : S85 := { s with f0 := { s.f0 with f7 := votesOf s.f0 m } }
def votedF (s : S85) (m : S46) : S85 := if mostB (membersOf s.f0.f5) (votesOf s.f0 m) = true then leadsF (voteS s m) else voteS s m
noncomputable def heardF (s : S85) (m : S46) : S85 :=
  if m.f3 < s.f0.f1 then
    (if m.f0 = 1 then sendF s m.f1 (S46.mk 2 0 0 0 0 0 0 false [] [] 0 [] noTree)
     else if m.f0 = 3 ∨ m.f0 = 5 then sendF s m.f1 (S46.mk 4 0 0 0 (lastOf s.f0.f5) 0 0 false [] [] 0 [] noTree) else s)
  else if m.f0 = 1 then askedF s m
  else if m.f0 = 2 then (if s.f0.f3 = 1 ∧ m.f7 = true then votedF s m else s)
  else if m.f0 = 3 then appF s m
  else if m.f0 = 5 then snapF s m
  else if m.f0 = 4 then (if s.f0.f3 = 2 ∧ m.f1 ∈ membersOf s.f0.f5 then ackF s m else s)
  else s
/-- A message to be heard at all. -/
def HearOk (n : S31) (m : S46) : Prop := m.f2 = n.f0 ∧ m.f1 ≠ n.f0 ∧ (1 ≤ m.f1 ∧ m.f1 ≤ 7) ∧ (1 ≤ m.f3 ∧ m.f3 ≤ MAXN) ∧ (0 ≤ m.f4 ∧ m.f4 ≤ MAXN) ∧ (0 ≤ m.f5 ∧ m.f5 ≤ MAXN) ∧ (0 ≤ m.f6 ∧ m.f6 ≤ MAXN)
instance hearDec (n : S31) (m : S46) : Decidable (HearOk n m) := by unfold HearOk; infer_instance
noncomputable def msgF (s : S85) (m : S46) : S85 := if HearOk s.f0 m then heardF (raiseF s m) m else s
theorem m35_j3_true {s t : S85} {m : S46} {a b c d : Int} {e : List Int} (h : Inv t.f0) (ho : s.f1.length ≤ 900) (ht : t = { s with f0 := { s.f0 with f1 := a, f2 := b, f3 := c, f4 := d, f7 := e } }) :
    m35_j3 true a b c d e m s = some (sendF t m.f1 (S46.mk 4 0 0 0 (lastOf t.f0.f5) 0 0 false [] [] 0 [] noTree)) := by
  have ho' : t.f1.length ≤ 900 := by rw [ht]; exact ho
  unfold m35_j3
  rw [← ht, if_pos rfl, m36_eq h.li, Option.bind_some, m59_eq (Nat.le_trans ho' (by omega))]
  rfl
theorem m35_j3_false {s t : S85} {m : S46} {a b c d : Int} {e : List Int} (ht : t = { s with f0 := { s.f0 with f1 := a, f2 := b, f3 := c, f4 := d, f7 := e } }) :
    m35_j3 false a b c d e m s = some t := by
  rw [ht]; rfl
theorem m35_j6_eq {s t : S85} {m : S46} {a b c d : Int} {e : List Int} (h : Inv (voteS t m).f0) (hr : t.f0.f1 > 0) (hl : t.f0.f5.f1.length + 1 ≤ 4194304) (he : e.length ≤ 2097152) (ho : s.f1.length ≤ 900) (ht : t = { s with f0 := { s.f0 with f1 := a, f2 := b, f3 := c, f4 := d, f7 := e } }) :
    m35_j6 a b c d (votesOf t.f0 m) s = some (votedF t m) := by
  have hv : voteS t m = { s with f0 := { s.f0 with f1 := a, f2 := b, f3 := c, f4 := d, f7 := votesOf t.f0 m } } := by unfold voteS; rw [ht]
  have hvl : (votesOf t.f0 m).length ≤ 2097153 := by
    have : t.f0.f7 = e := by rw [ht]
    unfold votesOf; rw [this]; split
    · omega
    · rw [List.length_append]; simp; omega
  have ho' : (voteS t m).f1.length ≤ 900 := by rw [hv]; exact ho
  unfold m35_j6 votedF
  rw [← hv, m57_eq h.li, Option.bind_some, m62_eq (membersOf_ok h.log) (by omega), Option.bind_some]
  have e5 : (voteS t m).f0.f5 = t.f0.f5 := rfl
  rw [e5]
  by_cases c1 : mostB (membersOf t.f0.f5) (votesOf t.f0 m) = true
  · rw [if_pos c1, if_pos c1, m63_eq h hr hl ho']; rfl
  · rw [if_neg c1, if_neg c1]
theorem m35_j5_eq {s t : S85} {m : S46} {a b c d : Int} {e : List Int} (h : Inv (voteS t m).f0) (hr : t.f0.f1 > 0) (hl : t.f0.f5.f1.length + 1 ≤ 4194304) (he : e.length ≤ 2097152) (ho : s.f1.length ≤ 900) (ht : t = { s with f0 := { s.f0 with f1 := a, f2 := b, f3 := c, f4 := d, f7 := e } }) :
    m35_j5 true a b c d e m s = some (votedF t m) := by
  have e7 : t.f0.f7 = e := by rw [ht]
  have e6 := m35_j6_eq h hr hl he ho ht
  unfold m35_j5
  rw [if_pos rfl, m43_eq e m.f1 (by omega), Option.bind_some, m61_eq e (by omega)]
  have g : (decide ((e.length + ([m.f1] : List Int).length) * 8 ≤ 140737488355328) && decide (e.length + ([m.f1] : List Int).length ≤ 140737488355328)) = true := by
    simp only [List.length_singleton, Bool.and_eq_true, decide_eq_true_eq]; omega
  rw [Option.bind_some, g]
  unfold votesOf at e6
  rw [e7] at e6
  by_cases c1 : m.f1 ∈ e
  · rw [if_pos c1] at e6
    simp only [c1, decide_true, Bool.not_true, Bool.false_eq_true, if_false]
    exact e6
  · rw [if_neg c1] at e6
    simp only [c1, decide_false, Bool.not_false, if_true]
    exact e6
theorem vote_inv {s : S85} {m : S46} (h : Inv s.f0) (hs : 1 ≤ m.f1 ∧ m.f1 ≤ 7) : Inv (voteS s m).f0 := by
  refine ⟨h.light, h.log, h.id, h.term, h.voted, h.lead, h.role, h.rt, h.com, h.tick, h.tmo, h.arr, ?_, h.l8, h.l9⟩
  show VotesFrom (votesOf s.f0 m) 0
  unfold votesOf
  split
  · exact h.votes
  · rename_i hn; exact votes_snoc h.votes hs hn
theorem m35_j2_eq {s t : S85} {m : S46} {a b c d : Int} {e : List Int} (h : Inv t.f0) (hi : ¬ m.f3 < t.f0.f1 → In t m) (hl : t.f0.f5.f1.length ≤ 2097152) (he : e.length ≤ 2097152) (ho : s.f1.length ≤ 900) (ht : t = { s with f0 := { s.f0 with f1 := a, f2 := b, f3 := c, f4 := d, f7 := e } }) :
    m35_j2 a b c d e m s = some (heardF t m) := by
  have ho' : t.f1.length ≤ 900 := by rw [ht]; exact ho
  have e1 : t.f0.f1 = a := by rw [ht]
  have e3 : t.f0.f3 = c := by rw [ht]
  unfold m35_j2 heardF
  rw [← ht, e1, e3]
  rw [e1] at hi
  have f5 : m35_j5 false a b c d e m s = some t := by rw [ht]; rfl
  have f7 : m35_j7 false a b c d e m s = some t := by rw [ht]; rfl
  have f7t : m35_j7 true a b c d e m s = (m66 t m).bind some := by rw [ht]; rfl
  by_cases c0 : m.f3 < a
  · rw [if_pos (decide_eq_true c0), if_pos c0]
    by_cases c1 : m.f0 = 1
    · have b1 : ((m.f0 : Int) == 1) = true := by simp [c1]
      rw [b1, if_pos rfl, if_pos c1, m59_eq (Nat.le_trans ho' (by omega))]
      rfl
    · have b1 : ((m.f0 : Int) == 1) = false := by simp [c1]
      rw [b1, if_neg (by simp), if_neg c1]
      by_cases c3 : m.f0 = 3
      · have b3 : ((m.f0 : Int) == 3) = true := by simp [c3]
        rw [b3, if_pos rfl, if_pos (.inl c3), m35_j3_true h ho ht]
      · have b3 : ((m.f0 : Int) == 3) = false := by simp [c3]
        rw [b3, if_neg (by simp)]
        by_cases c5 : m.f0 = 5
        · have b5 : ((m.f0 : Int) == 5) = true := by simp [c5]
          rw [b5, if_pos (.inr c5), m35_j3_true h ho ht]
        · have b5 : ((m.f0 : Int) == 5) = false := by simp [c5]
          rw [b5, if_neg (by rintro (x | x) <;> contradiction), m35_j3_false ht]
  · have hin := hi c0
    rw [if_neg (by simpa using c0), if_neg c0]
    by_cases c1 : m.f0 = 1
    · have b1 : ((m.f0 : Int) == 1) = true := by simp [c1]
      rw [b1, if_pos rfl, if_pos c1, m60_eq h ho']
      rfl
    · have b1 : ((m.f0 : Int) == 1) = false := by simp [c1]
      rw [b1, if_neg (by simp), if_neg c1]
      by_cases c2 : m.f0 = 2
      · have b2 : ((m.f0 : Int) == 2) = true := by simp [c2]
        rw [b2, if_pos rfl, if_pos c2]
        by_cases d1 : c = 1
        · have b3 : ((c : Int) == 1) = true := by simp [d1]
          rw [b3, if_pos rfl]
          by_cases d2 : m.f7 = true
          · rw [if_pos ⟨d1, d2⟩, d2, m35_j5_eq (vote_inv h hin.src) hin.pos (by omega) he ho ht]
          · have d2' : m.f7 = false := by simpa using d2
            rw [if_neg (fun hx => d2 hx.2), d2', f5]
        · have b3 : ((c : Int) == 1) = false := by simp [d1]
          rw [b3, if_neg (by simp), if_neg (fun hx => d1 hx.1), f5]
      · have b2 : ((m.f0 : Int) == 2) = false := by simp [c2]
        rw [b2, if_neg (by simp), if_neg c2]
        by_cases c3 : m.f0 = 3
        · have b3 : ((m.f0 : Int) == 3) = true := by simp [c3]
          rw [b3, if_pos rfl, if_pos c3, m64_eq h hin hl ho']
          rfl
        · have b3 : ((m.f0 : Int) == 3) = false := by simp [c3]
          rw [b3, if_neg (by simp), if_neg c3]
          by_cases c5 : m.f0 = 5
          · have b5 : ((m.f0 : Int) == 5) = true := by simp [c5]
            rw [b5, if_pos rfl, if_pos c5, m65_eq h hin ho']
            rfl
          · have b5 : ((m.f0 : Int) == 5) = false := by simp [c5]
            rw [b5, if_neg (by simp), if_neg c5]
            by_cases c4 : m.f0 = 4
            · have b4 : ((m.f0 : Int) == 4) = true := by simp [c4]
              rw [b4, if_pos rfl, if_pos c4]
              by_cases d1 : c = 2
              · have b6 : ((c : Int) == 2) = true := by simp [d1]
                have h7 := mem_len (membersOf_ok h.log)
                rw [b6, if_pos rfl, m57_eq h.li, Option.bind_some, m56_eq _ _ (by omega), Option.bind_some]
                by_cases d2 : m.f1 ∈ membersOf t.f0.f5
                · rw [if_pos ⟨d1, d2⟩, decide_eq_true d2, f7t, m66_eq h hin ho']
                  rfl
                · rw [if_neg (fun hx => d2 hx.2), decide_eq_false d2, f7]
              · have b6 : ((c : Int) == 2) = false := by simp [d1]
                rw [b6, if_neg (by simp), if_neg (fun hx => d1 hx.1), f7]
            · have b4 : ((m.f0 : Int) == 4) = false := by simp [c4]
              rw [b4, if_neg (by simp), if_neg c4]
theorem raise_inv {n : S31} (h : Inv n) {t : Int} (ht : n.f1 < t ∧ t ≤ MAXN) : Inv (raiseN n t) := by
  have hx := h.term
  have h0 := termAt_pos h.light h.log base_le (Int.le_refl (lastOf n.f5))
  exact ⟨h.light, h.log, h.id, by show termAt n.f5 (lastOf n.f5) ≤ t ∧ t ≤ MAXN; omega, by show (0 : Int) ≤ 0 ∧ (0 : Int) ≤ 7; omega, by show (0 : Int) ≤ 0 ∧ (0 : Int) ≤ 7; omega, by show (0 : Int) ≤ 0 ∧ (0 : Int) ≤ 2; omega, .inr rfl, h.com, h.tick, h.tmo, h.arr, votes_nil, h.l8, h.l9⟩
theorem raise_ok {s : S85} {m : S46} (h : Inv s.f0) (hh : HearOk s.f0 m) (h8 : LightE m.f8) (h9 : m.f9.length ≤ 4194304) (ho : s.f1 = []) : Good s (raiseF s m) 0 ∧ (¬ m.f3 < (raiseF s m).f0.f1 → In (raiseF s m) m) ∧ (raiseF s m).f0.f5 = s.f0.f5 ∧ (raiseF s m).f1 = [] := by
  obtain ⟨a1, a2, a3, a4, a5, a6, a7⟩ := hh
  have ho' : OutOk s := fun m hm => by rw [ho] at hm; cases hm
  unfold raiseF
  by_cases c : m.f3 > s.f0.f1
  · rw [if_pos c]
    refine ⟨⟨raise_inv h ⟨c, a4.2⟩, fun m hm => ?_, ⟨rfl, by show s.f0.f1 ≤ m.f3; omega, fun e => ?_, Int.le_refl _, Int.le_refl _, fun _ _ _ _ => rfl⟩, Nat.le_refl _⟩, fun _ => ⟨a3, a2, rfl, by show 0 < m.f3; omega, a5, a6, a7, h8, h9⟩, rfl, ho⟩
    · change m ∈ s.f1 at hm; rw [ho] at hm; cases hm
    · exfalso; change m.f3 = s.f0.f1 at e; omega
  · rw [if_neg c]
    exact ⟨Good.refl h ho', fun hn => ⟨a3, a2, by omega, by omega, a5, a6, a7, h8, h9⟩, rfl, ho⟩
theorem m35_eq {s : S85} {m : S46} (h : Inv s.f0) (hl : s.f0.f5.f1.length ≤ 2097152) (hv : s.f0.f7.length ≤ 2097152) (h8 : LightE m.f8) (h9 : m.f9.length ≤ 4194304) (ho : s.f1 = []) : m35 s m = some (msgF s m) := by
  have hno : ¬ HearOk s.f0 m → m35_j1 true m s = some (msgF s m) := fun hc => by unfold msgF; rw [if_neg hc]; rfl
  unfold m35
  by_cases c1 : m.f2 = s.f0.f0
  · have b1 : ((m.f2 : Int) != s.f0.f0) = false := by simp [c1]
    rw [b1, if_neg (by simp)]
    by_cases c2 : m.f1 = s.f0.f0
    · have b2 : ((m.f1 : Int) == s.f0.f0) = true := by simp [c2]
      rw [b2, if_pos rfl]
      exact hno (fun hx => hx.2.1 c2)
    · have b2 : ((m.f1 : Int) == s.f0.f0) = false := by simp [c2]
      rw [b2, if_neg (by simp), m42_eq, Option.bind_some]
      by_cases c3 : 1 ≤ m.f1 ∧ m.f1 ≤ 7
      · rw [decide_eq_true c3, if_neg (by simp), m42_eq, Option.bind_some]
        by_cases c4 : 1 ≤ m.f3 ∧ m.f3 ≤ 1152921504606846976
        · rw [decide_eq_true c4, if_neg (by simp), m42_eq, Option.bind_some]
          by_cases c5 : 0 ≤ m.f4 ∧ m.f4 ≤ 1152921504606846976
          · rw [decide_eq_true c5, if_neg (by simp), m42_eq, Option.bind_some]
            by_cases c6 : 0 ≤ m.f5 ∧ m.f5 ≤ 1152921504606846976
            · rw [decide_eq_true c6, if_neg (by simp), m42_eq, Option.bind_some]
              by_cases c7 : 0 ≤ m.f6 ∧ m.f6 ≤ 1152921504606846976
              · have hh : HearOk s.f0 m := ⟨c1, c2, c3, c4, c5, c6, c7⟩
                obtain ⟨g, gi, g5, g1⟩ := raise_ok h hh h8 h9 ho
                rw [decide_eq_true c7]
                unfold msgF m35_j1
                rw [if_pos hh]
                have ho9 : s.f1.length ≤ 900 := by rw [ho]; simp
                by_cases c8 : m.f3 > s.f0.f1
                · rw [if_neg (by simp), if_pos (decide_eq_true c8)]
                  exact m35_j2_eq g.inv gi (by rw [g5]; exact hl) (by simp) ho9 (by unfold raiseF raiseN; rw [if_pos c8])
                · rw [if_neg (by simp), if_neg (by simpa using c8)]
                  exact m35_j2_eq g.inv gi (by rw [g5]; exact hl) hv ho9 (by unfold raiseF; rw [if_neg c8])
              · rw [decide_eq_false c7]
                exact hno (fun hx => c7 hx.2.2.2.2.2.2)
            · rw [decide_eq_false c6]
              exact hno (fun hx => c6 hx.2.2.2.2.2.1)
          · rw [decide_eq_false c5]
            exact hno (fun hx => c5 hx.2.2.2.2.1)
        · rw [decide_eq_false c4]
          exact hno (fun hx => c4 hx.2.2.2.1)
      · rw [decide_eq_false c3]
        exact hno (fun hx => c3 hx.2.2.1)
  · have b1 : ((m.f2 : Int) != s.f0.f0) = true := by simp [c1]
    rw [b1, if_pos rfl]
    exact hno (fun hx => c1 hx.1)
theorem good_voted {s : S85} {m : S46} (h : Inv s.f0) (ho : OutOk s) (hi : In s m) (hl : s.f0.f5.f1.length + 1 ≤ 4194304) : Good s (votedF s m) 7 := by
  have g : Good s (voteS s m) 0 := ⟨vote_inv h hi.src, ho, kept_free rfl rfl rfl rfl rfl, Nat.le_refl _⟩
  unfold votedF
  split
  · exact (g.trans (good_leads g.inv g.out hi.pos hl)).mono (by omega)
  · exact g.mono (by omega)
theorem good_heard {s : S85} {m : S46} (h : Inv s.f0) (ho : OutOk s) (hne : m.f1 ≠ s.f0.f0) (hi : ¬ m.f3 < s.f0.f1 → In s m) (hl : s.f0.f5.f1.length ≤ 2097152) : Good s (heardF s m) 7 := by
  unfold heardF
  split
  · split
    · exact (good_send h ho hne (by simp) (by simp)).mono (by omega)
    · split
      · exact (good_send h ho hne (by simp) (by simp)).mono (by omega)
      · exact Good.refl h ho
  · rename_i hc
    have hin := hi hc
    split
    · exact (good_asked h ho hin).mono (by omega)
    · split
      · split
        · exact good_voted h ho hin (by omega)
        · exact Good.refl h ho
      · split
        · exact (good_app h ho hin hl).mono (by omega)
        · split
          · exact (good_snap h ho hin).mono (by omega)
          · split
            · split
              · exact (good_ack h ho hin).mono (by omega)
              · exact Good.refl h ho
            · exact Good.refl h ho
theorem good_msg {s : S85} {m : S46} (h : Inv s.f0) (hl : s.f0.f5.f1.length ≤ 2097152) (h8 : LightE m.f8) (h9 : m.f9.length ≤ 4194304) (ho : s.f1 = []) : Good s (msgF s m) 7 := by
  have ho' : OutOk s := fun m hm => by rw [ho] at hm; cases hm
  unfold msgF
  split
  · rename_i hh
    obtain ⟨g, gi, g5, g1⟩ := raise_ok h hh h8 h9 ho
    exact (g.trans (good_heard g.inv g.out (by rw [g.kept.id]; exact hh.2.1) gi (by rw [g5]; exact hl))).mono (by omega)
  · exact Good.refl h ho'
end Go.Proofs.Ythpdomeciaafjaa
