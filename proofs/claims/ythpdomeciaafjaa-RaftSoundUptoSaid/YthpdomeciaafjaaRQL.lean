/- Plain law: the step; a step stays the same. Own work. -/
import Derived.Test.YthpdomeciaafjaaRQK
namespace Go.Proofs.Ythpdomeciaafjaa
open Go.Fx

noncomputable def stepS (n : S31) (e : S48) : S85 :=
  if e.f0 = 0 then tickF ⟨n, [], 0⟩ e.f1
  else if e.f0 = 1 then msgF ⟨n, [], 0⟩ e.f3
  else if e.f0 = 2 then (if n.f3 = 2 ∧ (e.f4.length : Int) ≤ 4096 ∧ lastOf n.f5 < MAXN then proposeF ⟨n, [], 0⟩ 1 e.f4 else ⟨n, [], 0⟩)
  else if e.f0 = 3 then changeF ⟨n, [], 0⟩ e.f5
  else if e.f0 = 4 then (if e.f2 > n.f5.f0.f0 ∧ e.f2 ≤ n.f6 then ⟨{ n with f5 := compactF n.f5 e.f2 }, [], e.f2⟩ else ⟨n, [], 0⟩)
  else ⟨n, [], 0⟩
/-- What is given, of few enough parts. -/
structure Pre (n : S31) (e : S48) : Prop where
  light : LightL n.f5
  len : n.f5.f1.length ≤ 2097152
  votes : n.f7.length ≤ 2097152
  l8 : n.f8.length = 8
  l9 : n.f9.length = 8
  m8 : LightE e.f3.f8
  m9 : e.f3.f9.length ≤ 4194304
  ids : (e.f5.length : Int) < 4611686018427387904
abbrev zeroN : S31 := S31.mk 0 0 0 0 0 (S26.mk (S23.mk 0 0 []) []) 0 [] [0, 0, 0, 0, 0, 0, 0, 0] [0, 0, 0, 0, 0, 0, 0, 0] 0 0
def outS (s : S85) : S31 × List S46 × Int × Int := (s.f0, s.f1, s.f2, 0)
theorem step_bad {n : S31} {e : S48} (h : Pre n e) (hn : ¬ NodeOk n) : m14 n e = some (zeroN, [], 0, 3) := by
  have hv := h.votes
  obtain ⟨b, hb, _, h15⟩ := check_same n h.light (by omega)
  have : b = false := by
    cases b with
    | false => rfl
    | true => exact absurd (hb.1 rfl) hn
  subst this
  unfold m14
  rw [h15]
  rfl
theorem step_eq {n : S31} {e : S48} (h : Pre n e) (hn : NodeOk n) : m14 n e = some (outS (stepS n e)) ∧ Good ⟨n, [], 0⟩ (stepS n e) 7 := by
  have hv := h.votes; have hl := h.len
  have hi : Inv n := inv_of h.light hn h.l8 h.l9
  have ho : OutOk ⟨n, [], 0⟩ := fun m hm => by cases hm
  obtain ⟨b, hb, _, h15⟩ := check_same n h.light (by omega)
  have hbt := hb.2 hn
  subst hbt
  have hrt : n.f3 = 2 → n.f1 > 0 := fun c => by
    rcases hi.rt with x | x
    · exact x
    · omega
  unfold m14
  rw [h15, Option.bind_some, if_pos rfl, show ((0 : Int) != 0) = false from rfl, if_neg (by simp)]
  unfold stepS
  by_cases c0 : e.f0 = 0
  · have b0 : ((e.f0 : Int) == 0) = true := by simp [c0]
    obtain ⟨q, _⟩ := m34_eq (s := ⟨n, [], 0⟩) hi (by show n.f5.f1.length + 1 ≤ 4194304; omega) (by simp) e.f1
    rw [b0, if_pos rfl, if_pos c0, q]
    exact ⟨rfl, good_tick (s := ⟨n, [], 0⟩) hi rfl (by show n.f5.f1.length + 1 ≤ 4194304; omega) e.f1⟩
  · have b0 : ((e.f0 : Int) == 0) = false := by simp [c0]
    rw [b0, if_neg (by simp), if_neg c0]
    by_cases c1 : e.f0 = 1
    · have b1 : ((e.f0 : Int) == 1) = true := by simp [c1]
      rw [b1, if_pos rfl, if_pos c1, m35_eq (s := ⟨n, [], 0⟩) hi hl hv h.m8 h.m9 rfl]
      exact ⟨rfl, good_msg (s := ⟨n, [], 0⟩) hi hl h.m8 h.m9 rfl⟩
    · have b1 : ((e.f0 : Int) == 1) = false := by simp [c1]
      rw [b1, if_neg (by simp), if_neg c1]
      by_cases c2 : e.f0 = 2
      · have b2 : ((e.f0 : Int) == 2) = true := by simp [c2]
        rw [b2, if_pos rfl, if_pos c2]
        have hno : ¬ (n.f3 = 2 ∧ (e.f4.length : Int) ≤ 4096 ∧ lastOf n.f5 < MAXN) → m14_j1 false [] n e = some (outS (if n.f3 = 2 ∧ (e.f4.length : Int) ≤ 4096 ∧ lastOf n.f5 < MAXN then proposeF ⟨n, [], 0⟩ 1 e.f4 else ⟨n, [], 0⟩)) ∧ Good ⟨n, [], 0⟩ (if n.f3 = 2 ∧ (e.f4.length : Int) ≤ 4096 ∧ lastOf n.f5 < MAXN then proposeF ⟨n, [], 0⟩ 1 e.f4 else ⟨n, [], 0⟩) 7 := fun hc => by
          rw [if_neg hc]
          exact ⟨rfl, Good.refl hi ho⟩
        by_cases d1 : n.f3 = 2
        · have b3 : ((n.f3 : Int) == 2) = true := by simp [d1]
          rw [b3, if_pos rfl]
          by_cases d2 : (e.f4.length : Int) ≤ 4096
          · rw [decide_eq_true d2, if_pos rfl, m36_eq (s := ⟨n, [], 0⟩) hi.li, Option.bind_some]
            by_cases d3 : lastOf n.f5 < MAXN
            · rw [decide_eq_true d3, if_pos ⟨d1, d2, d3⟩]
              unfold m14_j1
              rw [if_pos rfl, m37_eq (s := ⟨n, [], 0⟩) hi (hrt d1) (kind := 1) (by omega) (by omega) (by omega) (by show n.f5.f1.length + 1 ≤ 4194304; omega) (by simp)]
              exact ⟨rfl, good_propose (s := ⟨n, [], 0⟩) hi ho (hrt d1) (by omega) (by omega) (by omega) (by show n.f5.f1.length + 1 ≤ 4194304; omega)⟩
            · have : (decide (lastOf n.f5 < 1152921504606846976)) = false := decide_eq_false d3
              rw [this]
              exact hno (fun hx => d3 hx.2.2)
          · rw [decide_eq_false d2, if_neg (by simp)]
            exact hno (fun hx => d2 hx.2.1)
        · have b3 : ((n.f3 : Int) == 2) = false := by simp [d1]
          rw [b3, if_neg (by simp)]
          exact hno (fun hx => d1 hx.1)
      · have b2 : ((e.f0 : Int) == 2) = false := by simp [c2]
        rw [b2, if_neg (by simp), if_neg c2]
        by_cases c3 : e.f0 = 3
        · have b3 : ((e.f0 : Int) == 3) = true := by simp [c3]
          rw [b3, if_pos rfl, if_pos c3, m38_eq (s := ⟨n, [], 0⟩) hi h.ids (by show n.f5.f1.length + 1 ≤ 4194304; omega) (by simp)]
          exact ⟨rfl, good_change (s := ⟨n, [], 0⟩) hi ho (by show n.f5.f1.length + 1 ≤ 4194304; omega)⟩
        · have b3 : ((e.f0 : Int) == 3) = false := by simp [c3]
          rw [b3, if_neg (by simp), if_neg c3]
          by_cases c4 : e.f0 = 4
          · have b4 : ((e.f0 : Int) == 4) = true := by simp [c4]
            rw [b4, if_pos rfl, if_pos c4]
            have hno : ¬ (e.f2 > n.f5.f0.f0 ∧ e.f2 ≤ n.f6) → m14_j2 false n e = some (outS (if e.f2 > n.f5.f0.f0 ∧ e.f2 ≤ n.f6 then ⟨{ n with f5 := compactF n.f5 e.f2 }, [], e.f2⟩ else ⟨n, [], 0⟩)) ∧ Good ⟨n, [], 0⟩ (if e.f2 > n.f5.f0.f0 ∧ e.f2 ≤ n.f6 then ⟨{ n with f5 := compactF n.f5 e.f2 }, [], e.f2⟩ else ⟨n, [], 0⟩) 7 := fun hc => by
              rw [if_neg hc]
              exact ⟨rfl, Good.refl hi ho⟩
            by_cases d1 : e.f2 > n.f5.f0.f0
            · rw [decide_eq_true d1, if_pos rfl]
              by_cases d2 : e.f2 ≤ n.f6
              · have hcom := hi.com
                rw [decide_eq_true d2, if_pos ⟨d1, d2⟩]
                unfold m14_j2
                rw [if_pos rfl, m39_eq h.light hi.log (by omega) (by omega), Option.bind_some, show ((0 : Int) == 0) = true from rfl, if_pos rfl]
                exact ⟨rfl, (good_compact (s := ⟨n, [], 0⟩) hi ho d1 d2).mono (by omega)⟩
              · rw [decide_eq_false d2]
                exact hno (fun hx => d2 hx.2)
            · rw [decide_eq_false d1, if_neg (by simp)]
              exact hno (fun hx => d1 hx.1)
          · have b4 : ((e.f0 : Int) == 4) = false := by simp [c4]
            rw [b4, if_neg (by simp), if_neg c4]
            exact ⟨rfl, Good.refl hi ho⟩
/-! ### The light check; copies; what is the same as itself -/
theorem m9_some (x : S26) : ∃ b, m9 x = some b ∧ (b = true → LightL x ∧ x.f1.length ≤ 200) := by
  obtain ⟨b, hb, h⟩ := light_any x
  refine ⟨b, h, fun ht => ⟨hb ht, ?_⟩⟩
  subst ht
  by_cases hl : (x.f1.length : Int) > 200
  · unfold m9 at h
    rw [if_pos (decide_eq_true hl)] at h
    unfold m9_j1 at h
    simp at h
  · omega
theorem m13_some (n : S31) (e : S48) : ∃ b, m13 n e = some b ∧ (b = true → LightL n.f5 ∧ n.f5.f1.length ≤ 200 ∧ LightE e.f3.f8 ∧ n.f7.length < 100 ∧ e.f5.length < 100 ∧ e.f3.f9.length < 100) := by
  obtain ⟨b1, h1, g1⟩ := m9_some n.f5
  obtain ⟨b2, h2, g2⟩ := m9_some (S26.mk (S23.mk 0 0 []) e.f3.f8)
  unfold m13
  rw [h1, h2]
  simp only [Option.bind_some]
  cases b1 with
  | false => exact ⟨false, rfl, fun h => by cases h⟩
  | true =>
    cases b2 with
    | false => exact ⟨false, rfl, fun h => by cases h⟩
    | true =>
      obtain ⟨a1, a2⟩ := g1 rfl
      obtain ⟨a3, a4⟩ := g2 rfl
      simp only [if_true]
      by_cases c1 : (n.f7.length : Int) < 100
      · rw [if_pos (decide_eq_true c1)]
        by_cases c2 : (e.f4.length : Int) < 10000
        · rw [if_pos (decide_eq_true c2)]
          by_cases c3 : (e.f5.length : Int) < 100
          · rw [if_pos (decide_eq_true c3)]
            refine ⟨_, rfl, fun h => ?_⟩
            have := of_decide_eq_true h
            have a4' : e.f3.f8.length ≤ 200 := a4
            exact ⟨a1, a2, ⟨by omega, a3.2.2⟩, by omega, by omega, by omega⟩
          · rw [if_neg (by simpa using c3)]
            exact ⟨false, rfl, fun h => by cases h⟩
        · rw [if_neg (by simpa using c2)]
          exact ⟨false, rfl, fun h => by cases h⟩
      · rw [if_neg (by simpa using c1)]
        exact ⟨false, rfl, fun h => by cases h⟩
theorem m17_loop {x : S26} (hl : x.f1.length ≤ 4194304) (hd : ∀ e ∈ x.f1, e.f2.length ≤ 4194304) : ∀ (k : Nat) (i : Int) (acc : List S80), 0 ≤ i → i ≤ (x.f1.length : Int) → (x.f1.length : Int) - i < (k : Int) → (acc.length : Int) = i →
    m17_j2 k i acc x = some ⟨x.f0, acc ++ x.f1.drop i.toNat⟩ := by
  intro k
  induction k with
  | zero => intro i acc h0 h1 h2; omega
  | succ k ih =>
    intro i acc h0 h1 h2 ha
    rw [m17_j2]
    by_cases hi : i < (x.f1.length : Int)
    · obtain ⟨e, he⟩ := idx_some h0 hi
      have hw : IntKind.i64.wrap (i + 1) = i + 1 := wrap_id (by omega) (by omega)
      have hde := hd e (idx_mem he)
      have g1 : (decide ((([] : List Int).length + e.f2.length) * 1 ≤ 140737488355328) && decide (([] : List Int).length + e.f2.length ≤ 140737488355328)) = true := by
        simp only [List.length_nil, Bool.and_eq_true, decide_eq_true_eq]; omega
      have g2 : (decide ((acc.length + ([(S80.mk e.f0 e.f1 (([] : List Int) ++ e.f2))] : List S80).length) * 40 ≤ 140737488355328) && decide (acc.length + ([(S80.mk e.f0 e.f1 (([] : List Int) ++ e.f2))] : List S80).length ≤ 140737488355328)) = true := by
        simp only [List.length_singleton, Bool.and_eq_true, decide_eq_true_eq]; omega
      rw [he, idx_drop he]
      simp only [hi, decide_true, if_true, Option.bind_some]
      rw [g1, g2, hw]
      simp only [if_true]
      rw [ih (i + 1) _ (by omega) (by omega) (by omega) (by simp; omega)]
      simp
    · have : x.f1.drop i.toNat = [] := List.drop_eq_nil_of_le (by omega)
      simp [hi, this]
theorem m17_eq {x : S26} (hx : LightL x) : m17 x = some x := by
  have hl := hx.1; have h2 := hx.2.1
  unfold m17 m17_j1
  have g : (decide ((([] : List Int).length + x.f0.f2.length) * 8 ≤ 140737488355328) && decide (([] : List Int).length + x.f0.f2.length ≤ 140737488355328)) = true := by
    simp only [List.length_nil, Bool.and_eq_true, decide_eq_true_eq]; omega
  rw [g, if_pos rfl, m17_loop hl hx.2.2 FUEL 0 [] (by omega) (by omega) (by show (x.f1.length : Int) - 0 < ((4611686018427387904 : Nat) : Int); omega) rfl]
  simp
theorem msg_refl (x : S46) (h8 : (x.f8.length : Int) < 4611686018427387904) (h9 : (x.f9.length : Int) < 4611686018427387904) : m44 x x = some true := by
  unfold m44 m44_j1
  simp [entries_refl _ h8, ints_refl _ h9]
theorem msgs_refl (x : List S46) (hx : (x.length : Int) < 4611686018427387904) (hm : ∀ m ∈ x, (m.f8.length : Int) < 4611686018427387904 ∧ (m.f9.length : Int) < 4611686018427387904) : m19 x x = some true := by
  have loop : ∀ (k : Nat) (i : Int), 0 ≤ i → i ≤ (x.length : Int) → (x.length : Int) - i < (k : Int) → m19_j1 k i x x = some true := by
    intro k
    induction k with
    | zero => intro i h0 h1 h2; omega
    | succ k ih =>
      intro i h0 h1 h2
      rw [m19_j1]
      by_cases hi : i < (x.length : Int)
      · obtain ⟨e, he⟩ := idx_some h0 hi
        have hw : IntKind.i64.wrap (i + 1) = i + 1 := wrap_id (by omega) (by omega)
        have hme := hm e (idx_mem he)
        simp [hi, he, msg_refl e hme.1 hme.2, hw, ih (i + 1) (by omega) (by omega) (by omega)]
      · simp [hi]
  unfold m19
  have := loop FUEL 0 (by omega) (by omega) (by show (x.length : Int) - 0 < ((4611686018427387904 : Nat) : Int); omega)
  simp [this]
theorem nodup_bound : ∀ (n : Nat) (l : List Int), l.Nodup → (∀ v ∈ l, 1 ≤ v ∧ v ≤ (n : Int)) → l.length ≤ n
  | 0, l, _, h => by
    cases l with
    | nil => simp
    | cons a l => have := h a (List.mem_cons_self ..); omega
  | n + 1, l, hn, h => by
    by_cases hm : ((n + 1 : Nat) : Int) ∈ l
    · have h1 := nodup_bound n (l.erase ((n + 1 : Nat) : Int)) (hn.erase _) (fun v hv => by
        rw [hn.mem_erase_iff] at hv
        have := h v hv.2
        have := hv.1
        omega)
      rw [List.length_erase_of_mem hm] at h1
      omega
    · have h1 := nodup_bound n l hn (fun v hv => by
        have := h v hv
        have : v ≠ ((n + 1 : Nat) : Int) := fun e => hm (e ▸ hv)
        omega)
      omega
theorem votes_len {l : List Int} (h : VotesFrom l 0) : l.length ≤ 7 := by
  have hn : l.Nodup := by
    unfold List.Nodup
    rw [List.pairwise_iff_getElem]
    intro i j hi hj hij e
    have h2 := (h j (by omega) hj).2
    rw [List.getD_eq_getElem?_getD, List.getElem?_eq_getElem hj] at h2
    simp only [Option.getD_some] at h2
    exact h2 (by rw [← e]; exact List.mem_take_iff_getElem.2 ⟨i, by omega, rfl⟩)
  refine nodup_bound 7 l hn fun v hv => ?_
  obtain ⟨j, hj, rfl⟩ := List.mem_iff_getElem.1 hv
  have := (h j (by omega) hj).1
  rw [List.getD_eq_getElem?_getD, List.getElem?_eq_getElem hj] at this
  exact this
theorem pre_of {n : S31} {e : S48} (h : LightL n.f5 ∧ n.f5.f1.length ≤ 200 ∧ LightE e.f3.f8 ∧ n.f7.length < 100 ∧ e.f5.length < 100 ∧ e.f3.f9.length < 100) (h8 : n.f8.length = 8) (h9 : n.f9.length = 8) : Pre n e := by
  obtain ⟨a1, a2, a3, a4, a5, a6⟩ := h
  exact ⟨a1, by omega, by omega, h8, h9, a3, by omega, by omega⟩
/-- RaftStays: the same step twice; nothing that was handed in changes. -/
theorem raftStays_true (n : S31) (e : S48) (h8 : n.f8.length = 8) (h9 : n.f9.length = 8) : m5 n e = some true := by
  obtain ⟨b, hb, hp⟩ := m13_some n e
  unfold m5
  rw [up_true, hb]
  simp only [Option.bind_some]
  cases b with
  | false => rfl
  | true =>
    have hpre := hp rfl
    have pre := pre_of hpre h8 h9
    obtain ⟨a1, a2, a3, a4, a5, a6⟩ := hpre
    have g : (decide ((([] : List Int).length + n.f7.length) * 8 ≤ 140737488355328) && decide (([] : List Int).length + n.f7.length ≤ 140737488355328)) = true := by
      simp only [List.length_nil, Bool.and_eq_true, decide_eq_true_eq]; omega
    have e1 : ({ n with f5 := n.f5, f7 := (([] : List Int) ++ n.f7) } : S31) = n := by simp
    have e2 : ({ e with f3 := { e.f3 with f8 := (S26.mk (S23.mk 0 0 []) e.f3.f8).f1 } } : S48) = e := rfl
    have hxl : LightL (S26.mk (S23.mk 0 0 []) e.f3.f8) := ⟨by have := a3.1; show e.f3.f8.length ≤ _; omega, by simp, a3.2⟩
    have hll := light_log a1
    have hs : ∃ r, m14 n e = some r ∧ m12 r.1 r.1 = some true ∧ m19 r.2.1 r.2.1 = some true := by
      by_cases hn : NodeOk n
      · obtain ⟨q1, q2⟩ := step_eq pre hn
        have hr := light_log q2.inv.light
        have hv := votes_len q2.inv.votes
        have hlen := q2.len
        refine ⟨_, q1, node_refl _ hr.1 hr.2 (by show ((stepS n e).f0.f7.length : Int) < _; omega), msgs_refl _ (by show ((stepS n e).f1.length : Int) < _; simp at hlen; omega) fun m hm => ?_⟩
        have := q2.out m hm
        exact ⟨by have := this.l8; omega, by have := this.l9; omega⟩
      · exact ⟨_, step_bad pre hn, node_refl _ (by simp) (by simp) (by simp), msgs_refl _ (by simp) (fun m hm => by cases hm)⟩
    obtain ⟨r, r1, r2, r3⟩ := hs
    rw [m17_eq a1, Option.bind_some, g, if_pos rfl, m17_eq hxl]
    simp only [Option.bind_some, Bool.not_true, Bool.false_eq_true, if_false]
    rw [e1, e2, r1]
    simp only [Option.bind_some]
    rw [node_refl n hll.1 hll.2 (by omega)]
    simp only [Option.bind_some, if_true]
    rw [entries_refl e.f3.f8 (by have := a3.1; omega)]
    simp only [Option.bind_some]
    unfold m5_j1
    rw [e1, e2, r1]
    simp only [Option.bind_some, if_true, beq_self_eq_true]
    have r2' : m12 (S31.mk r.1.f0 r.1.f1 r.1.f2 r.1.f3 r.1.f4 (S26.mk (S23.mk r.1.f5.f0.f0 r.1.f5.f0.f1 r.1.f5.f0.f2) r.1.f5.f1) r.1.f6 r.1.f7 r.1.f8 r.1.f9 r.1.f10 r.1.f11) (S31.mk r.1.f0 r.1.f1 r.1.f2 r.1.f3 r.1.f4 (S26.mk (S23.mk r.1.f5.f0.f0 r.1.f5.f0.f1 r.1.f5.f0.f2) r.1.f5.f1) r.1.f6 r.1.f7 r.1.f8 r.1.f9 r.1.f10 r.1.f11) = some true := r2
    rw [r2', r3]
    rfl
end Go.Proofs.Ythpdomeciaafjaa
