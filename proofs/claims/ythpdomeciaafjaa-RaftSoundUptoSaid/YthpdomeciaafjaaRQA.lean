/- Plain law: what the log's functions and the members' functions answer. Own work. -/
import Derived.Test.YthpdomeciaafjaaRPH
namespace Go.Proofs.Ythpdomeciaafjaa
open Go.Fx

theorem guard40 {n : Nat} (h : n ≤ 16777216) : (decide (n * 40 ≤ 140737488355328) && decide (n ≤ 140737488355328)) = true := by
  simp only [Bool.and_eq_true, decide_eq_true_eq]; omega
theorem m61_eq (x : List Int) (h : x.length ≤ 16777216) : m61 x = some x := by
  unfold m61
  have : (decide ((([] : List Int).length + x.length) * 8 ≤ 140737488355328) && decide (([] : List Int).length + x.length ≤ 140737488355328)) = true := by
    simp only [List.length_nil, Bool.and_eq_true, decide_eq_true_eq]; omega
  rw [this]; simp
theorem m76_eq (x : List S80) (h : x.length ≤ 16777216) : m76 x = some x := by
  unfold m76
  have : (decide ((([] : List S80).length + x.length) * 40 ≤ 140737488355328) && decide (([] : List S80).length + x.length ≤ 140737488355328)) = true := by
    simp only [List.length_nil, Bool.and_eq_true, decide_eq_true_eq]; omega
  rw [this]; simp
theorem m90_eq (x : List Int) (h : x.length ≤ 16777216) : m90 x = some x := by
  unfold m90
  have : (decide ((([] : List Int).length + x.length) * 1 ≤ 140737488355328) && decide (([] : List Int).length + x.length ≤ 140737488355328)) = true := by
    simp only [List.length_nil, Bool.and_eq_true, decide_eq_true_eq]; omega
  rw [this]; simp
theorem m40_ok {x : S26} (hx : LightL x) (hok : LogOk x) : m40 x = some 0 := by
  obtain ⟨b, hb, _, h40⟩ := chk_same x hx
  rw [h40, hb.2 hok]; rfl
theorem m40_bad {x : S26} (hx : LightL x) (hok : ¬ LogOk x) : m40 x = some 3 := by
  obtain ⟨b, hb, _, h40⟩ := chk_same x hx
  cases b with
  | true => exact absurd (hb.1 rfl) hok
  | false => rw [h40]; rfl
theorem idx_get {α : Type} {xs : List α} {i : Int} {e : α} (h : idx xs i = some e) : xs[i.toNat]? = some e := by
  unfold idx at h
  split at h
  · exact h
  · cases h
theorem take_snoc' {α : Type} {xs : List α} {i : Int} {e : α} (h : idx xs i = some e) (h0 : 0 ≤ i) : xs.take (i + 1).toNat = xs.take i.toNat ++ [e] := by
  have := idx_get h
  rw [show (i + 1).toNat = i.toNat + 1 by omega, List.take_add_one, this]; rfl

/-! ### The log -/
def confOf (base : List Int) (es : List S80) : List Int := es.foldl (fun m e => if e.f1 = 2 then wr e.f2 else m) base
def membersAt (l : S26) (i : Int) : List Int := confOf l.f0.f2 (l.f1.take (i - l.f0.f0).toNat)
def membersOf (l : S26) : List Int := confOf l.f0.f2 l.f1
def MemOk (m : List Int) : Prop := MayFrom m 0 ∧ 0 < m.length
theorem entries_conf : ∀ (l : List S80) (p : Int), EntriesOk p l → ∀ e ∈ l, EntryOk e.f0 e
  | [], _, _, e, he => by cases he
  | a :: l, p, h, e, he => by
    rcases List.mem_cons.1 he with rfl | he
    · exact ⟨Int.le_refl _, h.1.2⟩
    · exact entries_conf l a.f0 h.2 e he
theorem conf_ok : ∀ (es : List S80) (base : List Int), MemOk base → (∀ e ∈ es, EntryOk e.f0 e) → MemOk (confOf base es)
  | [], base, h, _ => h
  | e :: es, base, h, he => by
    simp only [confOf, List.foldl_cons]
    refine conf_ok es _ ?_ fun x hx => he x (List.mem_cons_of_mem _ hx)
    split
    · rename_i h2
      have := (he e (List.mem_cons_self ..)).2.2.2.2.2 h2
      exact ⟨this.1, by simpa [wr] using this.2⟩
    · exact h
theorem membersAt_ok {l : S26} (hok : LogOk l) (i : Int) : MemOk (membersAt l i) :=
  conf_ok _ _ hok.2.2.1 fun e he => entries_conf _ _ hok.2.2.2.2 e (List.mem_of_mem_take he)
theorem membersOf_ok {l : S26} (hok : LogOk l) : MemOk (membersOf l) := conf_ok _ _ hok.2.2.1 (entries_conf _ _ hok.2.2.2.2)
theorem mem_len {m : List Int} (h : MemOk m) : m.length ≤ 7 := may_len h.1
theorem membersAt_last {l : S26} : membersAt l (lastOf l) = membersOf l := by
  unfold membersAt membersOf lastOf
  rw [List.take_of_length_le (by omega)]
theorem m73_eq {x : S26} (hx : LightL x) (hok : LogOk x) (i : Int) : m73 x i = some (if x.f0.f0 ≤ i ∧ i ≤ lastOf x then 0 else 9) := by
  unfold m73 m94 m94_j1
  rw [m40_ok hx hok, m80_eq hx hok]
  by_cases h1 : i ≥ x.f0.f0
  · by_cases h2 : i ≤ lastOf x
    · have : x.f0.f0 ≤ i ∧ i ≤ lastOf x := ⟨h1, h2⟩
      simp [h1, h2]
    · simp [h1, h2]
  · have : ¬ x.f0.f0 ≤ i := by omega
    simp [this]
theorem m69_in {x : S26} (hx : LightL x) (hok : LogOk x) {i : Int} (h1 : x.f0.f0 ≤ i) (h2 : i ≤ lastOf x) : m69 x i = some (termAt x i, 0) := by
  unfold m69
  rw [m73_eq hx hok, if_pos ⟨h1, h2⟩, m74_eq hx hok h1 h2]
  simp
theorem m69_out {x : S26} (hx : LightL x) (hok : LogOk x) {i : Int} (h : ¬ (x.f0.f0 ≤ i ∧ i ≤ lastOf x)) : m69 x i = some (0, 9) := by
  unfold m69
  rw [m73_eq hx hok, if_neg h]
  simp
theorem of95_ok {e : S80} (he : e.f2.length ≤ 4194304) (h : EntryOk e.f0 e) (h2 : e.f1 = 2) : m95 e.f2 = some (wr e.f2, 0) := by
  obtain ⟨b, hb, _, h95⟩ := of_same e.f2 (by omega)
  rw [h95, hb.2 (h.2.2.2.2.2 h2)]; rfl
theorem m75_loop {x : S26} (hx : LightL x) (hok : LogOk x) : ∀ (d : Nat) (k : Nat), d < k → d ≤ x.f1.length → m75_j1 k (x.f0.f0 + d) x = some (confOf x.f0.f2 (x.f1.take d)) := by
  have hl := hx.1; have h0 := hok.1; have hm := hx.2.1
  intro d
  induction d with
  | zero =>
    intro k hk _
    obtain ⟨k, rfl⟩ : ∃ m, k = m + 1 := ⟨k - 1, by omega⟩
    rw [m75_j1, m61_eq _ (by omega)]
    simp [confOf]
  | succ d ih =>
    intro k hk hd
    obtain ⟨k, rfl⟩ : ∃ m, k = m + 1 := ⟨k - 1, by omega⟩
    rw [m75_j1]
    have e1 : IntKind.i64.wrap (x.f0.f0 + ((d + 1 : Nat) : Int) - x.f0.f0) = d + 1 := by rw [wrap_id (by omega) (by omega)]; omega
    have e2 : IntKind.i64.wrap ((d : Int) + 1 - 1) = d := by rw [wrap_id (by omega) (by omega)]; omega
    obtain ⟨e, he⟩ := idx_some (xs := x.f1) (i := (d : Int)) (by omega) (by omega)
    have hmem := idx_mem he
    have ht : x.f1.take (d + 1) = x.f1.take d ++ [e] := by
      have := take_snoc' he (by omega)
      simpa using this
    have hgt : x.f0.f0 + ((d + 1 : Nat) : Int) > x.f0.f0 := by omega
    rw [e1, e2, he, ht]
    have hc : confOf x.f0.f2 (x.f1.take d ++ [e]) = if e.f1 = 2 then wr e.f2 else confOf x.f0.f2 (x.f1.take d) := by simp [confOf, List.foldl_append]
    rw [hc]
    have hj2 : m75_j2 (m75_j1 k) (x.f0.f0 + ((d + 1 : Nat) : Int)) x = some (confOf x.f0.f2 (x.f1.take d)) := by
      unfold m75_j2
      rw [show IntKind.i64.wrap (x.f0.f0 + ((d + 1 : Nat) : Int) - 1) = x.f0.f0 + d by rw [wrap_id (by omega) (by omega)]; omega]
      exact ih k (by omega) (by omega)
    simp only [hgt, decide_true, if_true, Option.bind_some]
    by_cases h2 : e.f1 = 2
    · have h3 : ((e.f1 : Int) == 2) = true := by simp [h2]
      rw [h3, of95_ok (hx.2.2 e hmem) (entries_conf _ _ hok.2.2.2.2 e hmem) h2]
      simp [h2]
    · have h3 : ((e.f1 : Int) == 2) = false := by simpa using h2
      rw [h3, if_neg h2]
      simpa using hj2
theorem m75_eq {x : S26} (hx : LightL x) (hok : LogOk x) {i : Int} (h1 : x.f0.f0 ≤ i) (h2 : i ≤ lastOf x) : m75 x i = some (membersAt x i) := by
  have hl := hx.1
  unfold m75 membersAt
  rw [m40_ok hx hok, m80_eq hx hok]
  have e : (if lastOf x < i then lastOf x else i) = x.f0.f0 + ((i - x.f0.f0).toNat : Nat) := by rw [if_neg (by omega)]; omega
  simp only [Option.bind_some, e]
  unfold lastOf at h2
  have := m75_loop hx hok (i - x.f0.f0).toNat FUEL (by show _ < 4611686018427387904; omega) (by omega)
  simpa using this
theorem m84_eq {x : S26} (hx : LightL x) (hok : LogOk x) (i n : Int) : m84 x i n = some (if x.f0.f0 < i ∧ i ≤ lastOf x then (x.f1.drop (i - x.f0.f0 - 1).toNat).take n.toNat else []) := by
  have hl := hx.1; have h0 := hok.1
  unfold m84
  rw [m73_eq hx hok]
  by_cases h1 : x.f0.f0 ≤ i ∧ i ≤ lastOf x
  · rw [if_pos h1]
    by_cases h2 : i = x.f0.f0
    · simp [h2, m84_j1]
    · have h3 : x.f0.f0 < i ∧ i ≤ lastOf x := by omega
      rw [if_pos h3]
      unfold lastOf at h3
      by_cases h4 : n < 1
      · have : n.toNat = 0 := by omega
        simp [h2, h4, m84_j1, this]
      · have e1 : IntKind.i64.wrap (IntKind.i64.wrap (i - x.f0.f0) - 1) = i - x.f0.f0 - 1 := by rw [wrap_id (x := i - x.f0.f0) (by omega) (by omega), wrap_id (by omega) (by omega)]
        unfold m84_j1
        rw [e1]
        generalize hk : (i - x.f0.f0 - 1).toNat = k
        have hk' : i - x.f0.f0 - 1 = (k : Int) := by omega
        have hkl : k < x.f1.length := by omega
        have ed : (x.f1.drop k).take (x.f1.length - k) = x.f1.drop k := by rw [List.take_of_length_le (by simp)]
        rw [hk']
        simp only [Int.toNat_natCast, ed]
        have hld : ((x.f1.drop k).length : Int) = x.f1.length - k := by simp; omega
        have c1 : (decide ((0 : Int) ≤ (k : Int)) && decide ((k : Int) ≤ (x.f1.length : Int)) && decide ((x.f1.length : Int) ≤ (x.f1.length : Int))) = true := by simp; omega
        rw [c1]
        have c2 : (decide ((0 : Int) ≤ (0 : Int)) && decide ((0 : Int) ≤ (if ((x.f1.drop k).length : Int) < n then ((x.f1.drop k).length : Int) else n)) && decide ((if ((x.f1.drop k).length : Int) < n then ((x.f1.drop k).length : Int) else n) ≤ ((x.f1.drop k).length : Int))) = true := by
          simp only [Bool.and_eq_true, decide_eq_true_eq]
          split <;> omega
        rw [c2]
        have e3 : ((x.f1.drop k).drop (0 : Int).toNat).take ((if ((x.f1.drop k).length : Int) < n then ((x.f1.drop k).length : Int) else n).toNat - (0 : Int).toNat) = (x.f1.drop k).take n.toNat := by
          simp only [Int.toNat_zero, List.drop_zero, Nat.sub_zero]
          split
          · rw [List.take_of_length_le (by omega), List.take_of_length_le (by omega)]
          · rfl
        rw [e3, m76_eq _ (by simp; omega)]
        simp [h2, h4]
  · rw [if_neg h1]
    have : ¬ (x.f0.f0 < i ∧ i ≤ lastOf x) := by omega
    simp [this, m84_j1]
def compactF (l : S26) (i : Int) : S26 := ⟨⟨i, termAt l i, membersAt l i⟩, l.f1.drop (i - l.f0.f0).toNat⟩
theorem m39_eq {x : S26} (hx : LightL x) (hok : LogOk x) {i : Int} (h1 : x.f0.f0 ≤ i) (h2 : i ≤ lastOf x) : m39 x i = some (compactF x i, 0) := by
  have hl := hx.1; have h0 := hok.1
  unfold m39
  rw [m73_eq hx hok, if_pos ⟨h1, h2⟩, m74_eq hx hok h1 h2, m75_eq hx hok h1 h2]
  unfold lastOf at h2
  rw [wrap_id (x := i - x.f0.f0) (by omega) (by omega)]
  have c1 : (decide ((0 : Int) ≤ (i - x.f0.f0)) && decide ((i - x.f0.f0) ≤ (x.f1.length : Int)) && decide ((x.f1.length : Int) ≤ (x.f1.length : Int))) = true := by simp; omega
  rw [c1, m76_eq _ (by simp; omega)]
  have ed : (x.f1.drop (i - x.f0.f0).toNat).take ((x.f1.length : Int).toNat - (i - x.f0.f0).toNat) = x.f1.drop (i - x.f0.f0).toNat := by rw [List.take_of_length_le (by simp)]
  rw [ed]
  rfl

/-! ### Members -/
theorem m56_eq (m : List Int) (v : Int) (h : (m.length : Int) < 4611686018427387904) : m56 m v = some (decide (v ∈ m)) := by
  unfold m56; rw [m43_eq m v h]; rfl
def mostB (m ids : List Int) : Bool := decide (2 * (m.filter (fun v => decide (v ∈ ids))).length > m.length)
theorem m62_loop {m ids : List Int} (hm : MemOk m) (hi : (ids.length : Int) < 4611686018427387904) : ∀ (k : Nat) (i n : Int), 0 ≤ i → i ≤ (m.length : Int) → (m.length : Int) - i < (k : Int) → n = ((m.take i.toNat).filter (fun v => decide (v ∈ ids))).length → m62_j1 k i n m ids = some (mostB m ids) := by
  have h7 := mem_len hm
  obtain ⟨b, hb, _, h78⟩ := may_same m (by omega)
  intro k
  induction k with
  | zero => intro i n h0 h1 h2; omega
  | succ k ih =>
    intro i n h0 h1 h2 hn
    have hfl : ((m.take i.toNat).filter (fun v => decide (v ∈ ids))).length ≤ (m.take i.toNat).length := List.length_filter_le _ _
    have htl : (m.take i.toNat).length ≤ m.length := by rw [List.length_take]; omega
    rw [m62_j1]
    by_cases hlt : i < (m.length : Int)
    · obtain ⟨e, he⟩ := idx_some h0 hlt
      have ht := take_snoc' he h0
      have hw : IntKind.i64.wrap (i + 1) = i + 1 := wrap_id (by omega) (by omega)
      have hw2 : IntKind.i64.wrap (n + 1) = n + 1 := wrap_id (by omega) (by omega)
      have hf : (m.take (i + 1).toNat).filter (fun v => decide (v ∈ ids)) = (m.take i.toNat).filter (fun v => decide (v ∈ ids)) ++ [e].filter (fun v => decide (v ∈ ids)) := by rw [ht, List.filter_append]
      rw [he, Option.bind_some, m56_eq _ _ hi]
      by_cases hv : e ∈ ids
      · have := ih (i + 1) (n + 1) (by omega) (by omega) (by omega) (by rw [hf]; simp [hv]; omega)
        simp [hlt, hv, m62_j2, hw, hw2, this]
      · have := ih (i + 1) n (by omega) (by omega) (by omega) (by rw [hf]; simp [hv, hn])
        simp [hlt, hv, m62_j2, hw, this]
    · have htk : m.take i.toNat = m := List.take_of_length_le (by omega)
      rw [htk] at hn
      have hbt := hb.2 hm
      subst hbt
      rw [h78]
      rw [htk] at hfl
      have hw : IntKind.i64.wrap (2 * n) = 2 * n := wrap_id (by omega) (by omega)
      rw [hw]
      have e2 : (2 * n > (m.length : Int)) ↔ (2 * (m.filter (fun v => decide (v ∈ ids))).length > m.length) := by omega
      simp only [hlt, decide_false, Bool.false_eq_true, if_false, Option.bind_some, if_true, m62_j3, mostB, e2]
theorem m62_eq {m ids : List Int} (hm : MemOk m) (hi : (ids.length : Int) < 4611686018427387904) : m62 m ids = some (mostB m ids) := by
  have h7 := mem_len hm
  exact m62_loop hm hi FUEL 0 0 (by omega) (by omega) (by show (m.length : Int) - 0 < ((4611686018427387904 : Nat) : Int); omega) (by simp)
theorem m98_loop (x z : List Int) (hx : (x.length : Int) < 4611686018427387904) (hz : (z.length : Int) < 4611686018427387904) : ∀ (k : Nat) (i : Int), 0 ≤ i → i ≤ (x.length : Int) → (x.length : Int) - i < (k : Int) → ∃ r, m98_j1 k i x z = some r ∧ (r ≥ 0 ↔ ∃ v ∈ x.drop i.toNat, v ∉ z) := by
  intro k
  induction k with
  | zero => intro i h0 h1 h2; omega
  | succ k ih =>
    intro i h0 h1 h2
    rw [m98_j1]
    by_cases hi : i < (x.length : Int)
    · obtain ⟨e, he⟩ := idx_some h0 hi
      have hw : IntKind.i64.wrap (i + 1) = i + 1 := wrap_id (by omega) (by omega)
      rw [idx_drop he, he, Option.bind_some, m92, m56_eq _ _ hz]
      by_cases hv : e ∈ z
      · obtain ⟨r, hr, hm⟩ := ih (i + 1) (by omega) (by omega) (by omega)
        exact ⟨r, by simp [hi, hv, hw, hr], by rw [hm]; simp [hv]⟩
      · exact ⟨i, by simp [hi, hv], by simp [hv]; omega⟩
    · have : x.drop i.toNat = [] := List.drop_eq_nil_of_le (by omega)
      exact ⟨-1, by simp [hi], by simp [this]⟩
/-- Members that differ by one. -/
def StepOk (a b : List Int) : Prop := MemOk a ∧ MemOk b ∧ ((b.length = a.length + 1 ∧ ∀ v ∈ a, v ∈ b) ∨ (a.length = b.length + 1 ∧ ∀ v ∈ b, v ∈ a))
theorem m70_eq (a b : List Int) (ha : (a.length : Int) < 4611686018427387904) (hb : (b.length : Int) < 4611686018427387904) : ∃ r, (r = true ↔ StepOk a b) ∧ m70 a b = some r := by
  have key : ∀ (p q : List Int), (p.length : Int) < 4611686018427387904 → (q.length : Int) < 4611686018427387904 → ∃ r, (r = true ↔ MemOk q ∧ MemOk p ∧ p.length = q.length + 1 ∧ ∀ v ∈ q, v ∈ p) ∧ m70_j1 p q = some r := by
    intro p q hp hq
    obtain ⟨b1, h1, _, h2⟩ := may_same q hq
    obtain ⟨b2, h3, _, h4⟩ := may_same p hp
    obtain ⟨r, h5, h6⟩ := m98_loop q p hq hp FUEL 0 (by omega) (by omega) (by show (q.length : Int) - 0 < ((4611686018427387904 : Nat) : Int); omega)
    simp only [Int.toNat_zero, List.drop_zero] at h6
    have hw : IntKind.i64.wrap ((q.length : Int) + 1) = q.length + 1 := wrap_id (by omega) (by omega)
    unfold m70_j1 m70_j2 m91 m98
    rw [h2, h4, h5, hw]
    cases b1 with
    | false => exact ⟨false, ⟨fun h => (by cases h), fun h => by have := h1.2 h.1; cases this⟩, by simp⟩
    | true =>
      cases b2 with
      | false => exact ⟨false, ⟨fun h => (by cases h), fun h => by have := h3.2 h.2.1; cases this⟩, by simp⟩
      | true =>
        by_cases hl : p.length = q.length + 1
        · have hl' : (p.length : Int) = q.length + 1 := by omega
          by_cases hr : r ≥ 0
          · refine ⟨false, ⟨fun h => (by cases h), fun h => ?_⟩, by simp [hl', hr]⟩
            obtain ⟨v, hv1, hv2⟩ := h6.1 hr
            exact absurd (h.2.2.2 v hv1) hv2
          · refine ⟨true, ⟨fun _ => ⟨h1.1 rfl, h3.1 rfl, hl, fun v hv => ?_⟩, fun _ => rfl⟩, by simp [hl', hr]⟩
            apply Classical.byContradiction
            intro hn
            exact hr (h6.2 ⟨v, hv, hn⟩)
        · have hl' : ¬ (p.length : Int) = q.length + 1 := by omega
          exact ⟨false, ⟨fun h => (by cases h), fun h => absurd h.2.2.1 hl⟩, by simp [hl']⟩
  unfold m70
  by_cases h : (a.length : Int) > b.length
  · obtain ⟨r, h1, h2⟩ := key a b ha hb
    refine ⟨r, ?_, by simp [h, h2]⟩
    rw [h1]
    unfold StepOk
    constructor
    · rintro ⟨h3, h4, h5, h6⟩; exact ⟨h4, h3, .inr ⟨h5, h6⟩⟩
    · rintro ⟨h3, h4, h5 | h5⟩
      · omega
      · exact ⟨h4, h3, h5⟩
  · obtain ⟨r, h1, h2⟩ := key b a hb ha
    refine ⟨r, ?_, by simp [h, h2]⟩
    rw [h1]
    unfold StepOk
    constructor
    · rintro ⟨h3, h4, h5, h6⟩; exact ⟨h3, h4, .inl ⟨h5, h6⟩⟩
    · rintro ⟨h3, h4, h5 | h5⟩
      · exact ⟨h3, h4, h5⟩
      · omega
theorem m72_eq {x : List Int} (hm : MemOk x) : m72 x = some (x.map IntKind.u8.wrap, 0) := by
  have h7 := mem_len hm
  obtain ⟨b, hb, _, h78⟩ := may_same x (by omega)
  have hbt := hb.2 hm
  subst hbt
  have loop : ∀ (k : Nat) (i : Int) (acc : List Int), 0 ≤ i → i ≤ (x.length : Int) → (x.length : Int) - i < (k : Int) → (acc.length : Int) = i → m72_j1 k i x acc = some (acc ++ (x.drop i.toNat).map IntKind.u8.wrap, 0) := by
    intro k
    induction k with
    | zero => intro i acc h0 h1 h2; omega
    | succ k ih =>
      intro i acc h0 h1 h2 ha
      rw [m72_j1]
      by_cases hi : i < (x.length : Int)
      · obtain ⟨e, he⟩ := idx_some h0 hi
        have hw : IntKind.i64.wrap (i + 1) = i + 1 := wrap_id (by omega) (by omega)
        have hg : (decide ((acc.length + ([IntKind.u8.wrap e] : List Int).length) * 1 ≤ 140737488355328) && decide (acc.length + ([IntKind.u8.wrap e] : List Int).length ≤ 140737488355328)) = true := by
          simp only [List.length_singleton, Bool.and_eq_true, decide_eq_true_eq]; omega
        rw [he, Option.bind_some, hg, hw, ih (i + 1) _ (by omega) (by omega) (by omega) (by simp; omega), idx_drop he]
        simp [hi]
      · have : x.drop i.toNat = [] := List.drop_eq_nil_of_le (by omega)
        simp [hi, this]
  have := loop FUEL 0 [] (by omega) (by omega) (by show (x.length : Int) - 0 < ((4611686018427387904 : Nat) : Int); omega) rfl
  unfold m72
  rw [h78, this]
  simp
end Go.Proofs.Ythpdomeciaafjaa
