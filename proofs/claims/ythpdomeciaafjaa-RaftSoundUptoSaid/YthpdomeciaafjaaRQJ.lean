/- Plain law: proposing, changing members, compacting. Own work. -/
import Derived.Test.YthpdomeciaafjaaRQI
namespace Go.Proofs.Ythpdomeciaafjaa
open Go.Fx

def fullF (s : S85) : S85 := { s with f2 := lastOf s.f0.f5 }
def proposeF (s : S85) (kind : Int) (data : List Int) : S85 :=
  othersF bringF (countsF (fullF (addF s kind data))) (membersOf (addF s kind data).f0.f5)
theorem m37_eq {s : S85} (h : Inv s.f0) (hr : s.f0.f1 > 0) {kind : Int} {data : List Int} (hk : 0 ≤ kind ∧ kind ≤ 2) (hd : data.length ≤ 4194304) (hc : kind = 2 → MemOk (wr data)) (hl : s.f0.f5.f1.length + 1 ≤ 4194304) (ho : s.f1.length ≤ 900) : m37 s kind data = some (proposeF s kind data) := by
  obtain ⟨a1, a2, a3⟩ := add_inv h hr hk hd hc hl
  unfold m37
  rw [m67_inv h kind hd, Option.bind_some, m36_eq a1.li, Option.bind_some]
  have e1 : m68 { addF s kind data with f2 := lastOf (addF s kind data).f0.f5 } = some (countsF (fullF (addF s kind data))) := m68_inv (s := fullF (addF s kind data)) a1
  have gi := counts_inv (s := fullF (addF s kind data)) a1
  obtain ⟨q1, _, q5, _⟩ := countsF_n (fullF (addF s kind data))
  have e2 : (fullF (addF s kind data)).f1 = s.f1 := a2
  rw [e1, Option.bind_some, m54_inv gi (by rw [q1, e2]; exact ho), q5]
  rfl
theorem good_propose {s : S85} (h : Inv s.f0) (ho : OutOk s) (hr : s.f0.f1 > 0) {kind : Int} {data : List Int} (hk : 0 ≤ kind ∧ kind ≤ 2) (hd : data.length ≤ 4194304) (hc : kind = 2 → MemOk (wr data)) (hl : s.f0.f5.f1.length + 1 ≤ 4194304) : Good s (proposeF s kind data) 7 := by
  have g1 := good_add h ho hr hk hd hc hl
  have g2 : Good (addF s kind data) (fullF (addF s kind data)) 0 := ⟨g1.inv, g1.out, Kept.refl _, Nat.le_refl _⟩
  have g3 := good_counts g2.inv g2.out
  exact (g1.trans (g2.trans (g3.trans (good_brings g3.inv g3.out (mem_len (membersOf_ok g1.inv.log)))))).mono (by omega)
/-! ### Changing members -/
def growF (mem : List Int) (top : Int) : List Int → List Int × List Int → List Int × List Int
  | [], p => p
  | v :: t, p => growF mem top t (if v ∈ mem then p else (p.1.set v.toNat (top + 1), p.2.set v.toNat 0))
noncomputable instance stepDec (a b : List Int) : Decidable (StepOk a b) := Classical.propDecidable _
def growS (s : S85) (ids : List Int) : S85 :=
  { s with f0 := { s.f0 with f8 := (growF (membersOf s.f0.f5) (lastOf s.f0.f5) ids (s.f0.f8, s.f0.f9)).1, f9 := (growF (membersOf s.f0.f5) (lastOf s.f0.f5) ids (s.f0.f8, s.f0.f9)).2 } }
def ChangeOk (s : S85) (ids : List Int) : Prop := s.f0.f3 = 2 ∧ StepOk (membersOf s.f0.f5) ids ∧ s.f0.f0 ∈ membersOf s.f0.f5 ∧ lastOf s.f0.f5 < MAXN ∧ termAt s.f0.f5 s.f0.f6 = s.f0.f1 ∧ pendB s.f0 = false
noncomputable instance changeDec (s : S85) (ids : List Int) : Decidable (ChangeOk s ids) := Classical.propDecidable _
noncomputable def changeF (s : S85) (ids : List Int) : S85 := if ChangeOk s ids then proposeF (growS s ids) 2 (ids.map IntKind.u8.wrap) else s
theorem grow_arr {mem : List Int} {top : Int} (ht : 0 ≤ top ∧ top < MAXN) : ∀ (ids : List Int) (p : List Int × List Int), ArrOk p.1 p.2 0 → p.1.length = 8 → p.2.length = 8 → ArrOk (growF mem top ids p).1 (growF mem top ids p).2 0 ∧ (growF mem top ids p).1.length = 8 ∧ (growF mem top ids p).2.length = 8
  | [], p, h, h1, h2 => ⟨h, h1, h2⟩
  | v :: t, p, h, h1, h2 => by
    unfold growF
    refine grow_arr ht t _ ?_ ?_ ?_
    · split
      · exact h
      · exact arr_set h (by omega) (by unfold MAXN; omega)
    · split
      · exact h1
      · rw [List.length_set]; exact h1
    · split
      · exact h2
      · rw [List.length_set]; exact h2
theorem grow_inv {s : S85} (h : Inv s.f0) (hl : lastOf s.f0.f5 < MAXN) (ids : List Int) : Inv (growS s ids).f0 := by
  have hlast := h.last
  obtain ⟨a, b, c⟩ := grow_arr (mem := membersOf s.f0.f5) (top := lastOf s.f0.f5) (by omega) ids (s.f0.f8, s.f0.f9) h.arr h.l8 h.l9
  exact ⟨h.light, h.log, h.id, h.term, h.voted, h.lead, h.role, h.rt, h.com, h.tick, h.tmo, a, h.votes, b, c⟩
theorem wr_u8 {ids : List Int} (h : MemOk ids) : wr (ids.map IntKind.u8.wrap) = ids := by
  have hr := mem_range h
  have : ∀ l : List Int, (∀ v ∈ l, 1 ≤ v ∧ v ≤ 7) → wr (l.map IntKind.u8.wrap) = l := by
    intro l
    induction l with
    | nil => intro _; rfl
    | cons v l ih =>
      intro hv
      have h1 := hv v (List.mem_cons_self ..)
      have e : IntKind.i64.wrap (IntKind.u8.wrap v) = v := by
        have : v = 1 ∨ v = 2 ∨ v = 3 ∨ v = 4 ∨ v = 5 ∨ v = 6 ∨ v = 7 := by omega
        rcases this with rfl | rfl | rfl | rfl | rfl | rfl | rfl <;> rfl
      show IntKind.i64.wrap (IntKind.u8.wrap v) :: wr (l.map IntKind.u8.wrap) = v :: l
      rw [e, ih fun x hx => hv x (List.mem_cons_of_mem _ hx)]
  exact this ids hr
theorem m38_loop {s : S85} {ids data : List Int} (h : Inv s.f0) (hids : MemOk ids) (hl : lastOf s.f0.f5 < MAXN) {z : Int} : ∀ (k : Nat) (i : Int) (p : List Int × List Int), 0 ≤ i → i ≤ (ids.length : Int) → (ids.length : Int) - i < (k : Int) →
    m38_j2 k (data, z) i (membersOf s.f0.f5) ids p.1 p.2 s = (m37 { s with f0 := { s.f0 with f8 := (growF (membersOf s.f0.f5) (lastOf s.f0.f5) (ids.drop i.toNat) p).1, f9 := (growF (membersOf s.f0.f5) (lastOf s.f0.f5) (ids.drop i.toNat) p).2 } } 2 data).bind some := by
  have h7 := mem_len (membersOf_ok h.log)
  have hi7 := mem_len hids
  have hr := mem_range hids
  have hlast := h.last
  intro k
  induction k with
  | zero => intro i p h0 h1 h2; omega
  | succ k ih =>
    intro i p h0 h1 h2
    rw [m38_j2]
    by_cases hi : i < (ids.length : Int)
    · obtain ⟨v, hv⟩ := idx_some h0 hi
      have hw : IntKind.i64.wrap (i + 1) = i + 1 := wrap_id (by omega) (by omega)
      have hw2 : IntKind.i64.wrap (lastOf s.f0.f5 + 1) = lastOf s.f0.f5 + 1 := wrap_id (by omega) (by unfold MAXN at hl; omega)
      have hvr := hr v (idx_mem hv)
      have g : (decide ((0 : Int) ≤ v) && decide (v < (8 : Nat))) = true := by
        simp only [Bool.and_eq_true, decide_eq_true_eq]; omega
      have e36 : ∀ a b : List Int, m36 { s with f0 := { s.f0 with f8 := a, f9 := b } } = some (lastOf s.f0.f5) := fun a b => m36_eq (s := { s with f0 := { s.f0 with f8 := a, f9 := b } }) h.li
      rw [hv, idx_drop hv, Option.bind_some, m56_eq _ v (by omega), Option.bind_some, e36, g]
      simp only [hi, decide_true, if_true, Option.bind_some, m38_j3, hw, hw2, growF]
      by_cases hm : v ∈ membersOf s.f0.f5
      · have := ih (i + 1) p (by omega) (by omega) (by omega)
        simp only [hm, decide_true, Bool.not_true, Bool.false_eq_true, if_false, if_true]
        exact this
      · have := ih (i + 1) (p.1.set v.toNat (lastOf s.f0.f5 + 1), p.2.set v.toNat 0) (by omega) (by omega) (by omega)
        simp only [hm, decide_false, Bool.not_false, if_true, if_false]
        exact this
    · have : ids.drop i.toNat = [] := List.drop_eq_nil_of_le (by omega)
      simp only [hi, decide_false, Bool.false_eq_true, if_false, this, growF]
theorem m38_eq {s : S85} (h : Inv s.f0) {ids : List Int} (hids : (ids.length : Int) < 4611686018427387904) (hl : s.f0.f5.f1.length + 1 ≤ 4194304) (ho : s.f1.length ≤ 900) : m38 s ids = some (changeF s ids) := by
  have hcom := h.com
  have h7 := mem_len (membersOf_ok h.log)
  have hno : ¬ ChangeOk s ids → m38_j1 true (membersOf s.f0.f5) ids s = some (changeF s ids) := fun hc => by
    unfold changeF; rw [if_neg hc]; rfl
  unfold m38
  rw [m57_eq h.li, Option.bind_some, m69_in h.light h.log hcom.1 hcom.2, Option.bind_some]
  by_cases c1 : s.f0.f3 = 2
  · have b1 : ((s.f0.f3 : Int) != 2) = false := by simp [c1]
    obtain ⟨r, hr, h70⟩ := m70_eq (membersOf s.f0.f5) ids (by omega) hids
    rw [b1, h70]
    simp only [Bool.false_eq_true, if_false, Option.bind_some]
    by_cases c2 : StepOk (membersOf s.f0.f5) ids
    · have b2 := hr.2 c2
      subst b2
      rw [m56_eq _ s.f0.f0 (by omega)]
      simp only [Bool.not_true, Bool.false_eq_true, if_false, Option.bind_some]
      by_cases c3 : s.f0.f0 ∈ membersOf s.f0.f5
      · rw [m36_eq h.li]
        simp only [c3, decide_true, Bool.not_true, Bool.false_eq_true, if_false, Option.bind_some]
        by_cases c4 : lastOf s.f0.f5 < MAXN
        · have c4' : ¬ lastOf s.f0.f5 ≥ 1152921504606846976 := by unfold MAXN at c4; omega
          simp only [c4', decide_false, Bool.false_eq_true, if_false]
          rw [show ((0 : Int) != 0) = false from rfl]
          simp only [Bool.false_eq_true, if_false]
          by_cases c5 : termAt s.f0.f5 s.f0.f6 = s.f0.f1
          · have b5 : ((termAt s.f0.f5 s.f0.f6 : Int) != s.f0.f1) = false := by simp [c5]
            rw [b5, m71_eq h.li hcom]
            simp only [Bool.false_eq_true, if_false, Option.bind_some]
            cases c6 : pendB s.f0 with
            | true => exact hno (fun hx => by rw [hx.2.2.2.2.2] at c6; cases c6)
            | false =>
              have hc : ChangeOk s ids := ⟨c1, c2, c3, c4, c5, c6⟩
              have hmi := c2.2.1
              have hrt : s.f0.f1 > 0 := by
                rcases h.rt with x | x
                · exact x
                · omega
              unfold m38_j1
              rw [m72_eq hmi]
              simp only [Bool.false_eq_true, if_false, Option.bind_some]
              rw [show ((0 : Int) != 0) = false from rfl]
              simp only [Bool.false_eq_true, if_false]
              have hi7 := mem_len hmi
              have := m38_loop (data := ids.map IntKind.u8.wrap) (z := 0) h hmi c4 FUEL 0 (s.f0.f8, s.f0.f9) (by omega) (by omega) (by show (ids.length : Int) - 0 < ((4611686018427387904 : Nat) : Int); omega)
              simp only [Int.toNat_zero, List.drop_zero] at this
              rw [this]
              have e37 := m37_eq (s := growS s ids) (grow_inv h c4 ids) hrt (kind := 2) (data := ids.map IntKind.u8.wrap) (by omega) (by rw [List.length_map]; omega) (fun _ => by rw [wr_u8 hmi]; exact hmi) hl ho
              unfold changeF
              rw [if_pos hc]
              unfold growS at e37 ⊢
              rw [e37]
              rfl
          · have b5 : ((termAt s.f0.f5 s.f0.f6 : Int) != s.f0.f1) = true := by simp [c5]
            rw [b5]
            exact hno (fun hx => c5 hx.2.2.2.2.1)
        · have c4' : lastOf s.f0.f5 ≥ 1152921504606846976 := by unfold MAXN at c4; omega
          simp only [c4', decide_true, if_true]
          exact hno (fun hx => c4 hx.2.2.2.1)
      · simp only [c3, decide_false, Bool.not_false, if_true]
        exact hno (fun hx => c3 hx.2.2.1)
    · have b2 : r = false := by
        cases r with
        | false => rfl
        | true => exact absurd (hr.1 rfl) c2
      subst b2
      exact hno (fun hx => c2 hx.2.1)
  · have b1 : ((s.f0.f3 : Int) != 2) = true := by simp [c1]
    rw [b1]
    exact hno (fun hx => c1 hx.1)
theorem good_change {s : S85} (h : Inv s.f0) (ho : OutOk s) {ids : List Int} (hl : s.f0.f5.f1.length + 1 ≤ 4194304) : Good s (changeF s ids) 7 := by
  unfold changeF
  split
  · rename_i hc
    obtain ⟨c1, c2, c3, c4, c5, c6⟩ := hc
    have hrt : s.f0.f1 > 0 := by
      rcases h.rt with x | x
      · exact x
      · omega
    have hmi := c2.2.1
    have hi7 := mem_len hmi
    have g1 : Good s (growS s ids) 0 := ⟨grow_inv h c4 ids, ho, kept_free rfl rfl rfl rfl rfl, Nat.le_refl _⟩
    exact (g1.trans (good_propose g1.inv g1.out hrt (kind := 2) (by omega) (by rw [List.length_map]; omega) (fun _ => by rw [wr_u8 hmi]; exact hmi) hl)).mono (by omega)
  · exact Good.refl h ho
/-! ### Compacting -/
theorem entries_drop : ∀ (es : List S80) (p : Int) (n : Nat), EntriesOk p es → n ≤ es.length → EntriesOk ((p :: es.map (·.f0)).getD n 0) (es.drop n)
  | es, p, 0, h, _ => by simpa using h
  | [], p, n + 1, _, hn => by simp at hn
  | a :: es, p, n + 1, h, hn => by
    have := entries_drop es a.f0 n h.2 (by simpa using hn)
    simpa using this
theorem termAt_cons {l : S26} {i : Int} (h1 : l.f0.f0 ≤ i) : termAt l i = (l.f0.f1 :: l.f1.map (·.f0)).getD (i - l.f0.f0).toNat 0 := by
  unfold termAt
  by_cases h : i = l.f0.f0
  · rw [if_pos h, h]; simp
  · rw [if_neg h]
    have : (i - l.f0.f0).toNat = (i - l.f0.f0 - 1).toNat + 1 := by omega
    rw [this]
    simp
theorem compact_ok {l : S26} (hx : LightL l) (hok : LogOk l) {i : Int} (h1 : l.f0.f0 ≤ i) (h2 : i ≤ lastOf l) : LogOk (compactF l i) ∧ LightL (compactF l i) ∧ lastOf (compactF l i) = lastOf l ∧ (∀ j, i ≤ j → j ≤ lastOf l → termAt (compactF l i) j = termAt l j) := by
  have hb := hok.1; have hm := hok.2.2.2.1
  have hp := termAt_pos hx hok h1 h2
  have hn : (i - l.f0.f0).toNat ≤ l.f1.length := by unfold lastOf at h2; omega
  refine ⟨⟨⟨by show 0 ≤ i; omega, by show i ≤ _; unfold lastOf at h2; omega⟩, hp, membersAt_ok hok i, ?_, ?_⟩, ⟨?_, ?_, fun e he => hx.2.2 e (List.mem_of_mem_drop he)⟩, ?_, ?_⟩
  · show i + ((l.f1.drop (i - l.f0.f0).toNat).length : Nat) ≤ _
    rw [List.length_drop]; unfold lastOf at h2; omega
  · show EntriesOk (termAt l i) (l.f1.drop (i - l.f0.f0).toNat)
    rw [termAt_cons h1]
    exact entries_drop _ _ _ hok.2.2.2.2 hn
  · show (l.f1.drop _).length ≤ _
    have := hx.1
    rw [List.length_drop]; omega
  · have := mem_len (membersAt_ok hok i)
    show (membersAt l i).length ≤ _
    omega
  · show i + ((l.f1.drop (i - l.f0.f0).toNat).length : Nat) = l.f0.f0 + l.f1.length
    rw [List.length_drop]; unfold lastOf at h2; omega
  · intro j hj hj2
    unfold lastOf at hj2
    show (if j = i then termAt l i else ((l.f1.drop (i - l.f0.f0).toNat).map (·.f0)).getD (j - i - 1).toNat 0) = _
    split
    · rename_i e; rw [e]
    · rename_i e
      unfold termAt
      rw [if_neg (by omega), List.map_drop, List.getD_eq_getElem?_getD, List.getElem?_drop, ← List.getD_eq_getElem?_getD]
      congr 1
      omega
theorem good_compact {s : S85} (h : Inv s.f0) (ho : OutOk s) {i : Int} (h1 : i > s.f0.f5.f0.f0) (h2 : i ≤ s.f0.f6) : Good s { s with f0 := { s.f0 with f5 := compactF s.f0.f5 i }, f2 := i } 0 := by
  have hcom := h.com
  obtain ⟨a1, a2, a3, a4⟩ := compact_ok h.light h.log (i := i) (by omega) (by omega)
  have ht := h.term
  refine ⟨⟨a2, a1, h.id, ⟨?_, ht.2⟩, h.voted, h.lead, h.role, h.rt, ⟨h2, ?_⟩, h.tick, h.tmo, h.arr, h.votes, h.l8, h.l9⟩, ho, ⟨rfl, Int.le_refl _, fun _ _ => rfl, Int.le_refl _, ?_, ?_⟩, Nat.le_refl _⟩
  · show termAt (compactF s.f0.f5 i) (lastOf (compactF s.f0.f5 i)) ≤ s.f0.f1
    rw [a3, a4 _ (by omega) (Int.le_refl _)]; exact ht.1
  · show s.f0.f6 ≤ lastOf (compactF s.f0.f5 i)
    rw [a3]; exact hcom.2
  · show s.f0.f5.f0.f0 ≤ i
    omega
  · intro j _ b2 b3
    exact a4 j b3 (by omega)
end Go.Proofs.Ythpdomeciaafjaa
