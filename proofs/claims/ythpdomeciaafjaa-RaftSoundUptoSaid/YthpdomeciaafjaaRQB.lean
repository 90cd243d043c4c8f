/- Plain law: what a node sends, adds and counts. Own work. -/
import Derived.Test.YthpdomeciaafjaaRQA
namespace Go.Proofs.Ythpdomeciaafjaa
open Go.Fx

abbrev MAXN : Int := 1152921504606846976
abbrev LI (n : S31) : Prop := LightL n.f5 ∧ LogOk n.f5
theorem m36_eq {s : S85} (h : LI s.f0) : m36 s = some (lastOf s.f0.f5) := by unfold m36; rw [m41_eq h.1 h.2]; rfl
theorem m57_eq {s : S85} (h : LI s.f0) : m57 s = some (membersOf s.f0.f5) := by
  unfold m57; rw [m36_eq h, Option.bind_some, m75_eq h.1 h.2 base_le (Int.le_refl _), membersAt_last]; rfl
def sendF (s : S85) (to : Int) (m : S46) : S85 := { s with f1 := s.f1 ++ [{ m with f1 := s.f0.f0, f2 := to, f3 := s.f0.f1 }] }
theorem m59_eq {s : S85} (h : s.f1.length ≤ 1000) (to : Int) (m : S46) : m59 s to m = some (sendF s to m) := by
  unfold m59 sendF
  have : (decide ((s.f1.length + ([{ m with f1 := s.f0.f0, f2 := to, f3 := s.f0.f1 }] : List S46).length) * 248 ≤ 140737488355328) && decide (s.f1.length + ([{ m with f1 := s.f0.f0, f2 := to, f3 := s.f0.f1 }] : List S46).length ≤ 140737488355328)) = true := by
    simp only [List.length_singleton, Bool.and_eq_true, decide_eq_true_eq]; omega
  rw [this]; rfl
abbrev noTree : S44 := S44.mk 0 [] [] [] (.slice none 0 0)
def nextOf (n : S31) (id : Int) : Int := n.f8.getD id.toNat 0
def bringF (s : S85) (to : Int) : S85 :=
  if nextOf s.f0 to ≤ s.f0.f5.f0.f0 then sendF s to (S46.mk 5 0 0 0 s.f0.f5.f0.f0 s.f0.f5.f0.f1 0 false [] s.f0.f5.f0.f2 0 [] noTree)
  else
    let p := if lastOf s.f0.f5 < nextOf s.f0 to - 1 then lastOf s.f0.f5 else nextOf s.f0 to - 1
    sendF s to (S46.mk 3 0 0 0 p (termAt s.f0.f5 p) s.f0.f6 false ((s.f0.f5.f1.drop (p - s.f0.f5.f0.f0).toNat).take 8) [] 0 [] noTree)
theorem bringF_n (s : S85) (to : Int) : (bringF s to).f0 = s.f0 ∧ (bringF s to).f2 = s.f2 ∧ (bringF s to).f1.length = s.f1.length + 1 := by
  unfold bringF
  split
  · simp [sendF]
  · simp [sendF]
theorem m55_eq {s : S85} (h : LI s.f0) (ho : s.f1.length ≤ 1000) {to : Int} (h0 : 0 ≤ to) (h1 : to < 8) (hn : nextOf s.f0 to ≤ MAXN) : m55 s to = some (bringF s to) := by
  have hl := h.1.1; have hb := h.2.1; have hm := h.1.2.1
  unfold m55 bringF
  have c : (decide ((0 : Int) ≤ to) && decide (to < (8 : Nat))) = true := by simp [h0]; omega
  rw [c]
  simp only [if_true]
  change (if (decide (nextOf s.f0 to ≤ s.f0.f5.f0.f0)) = true then _ else _) = _
  by_cases h2 : nextOf s.f0 to ≤ s.f0.f5.f0.f0
  · simp only [h2, decide_true, if_true]
    rw [m61_eq _ (by omega)]
    simp only [Option.bind_some]
    rw [m59_eq ho]; rfl
  · have hw : IntKind.i64.wrap ((s.f0.f8.getD to.toNat 0) - 1) = nextOf s.f0 to - 1 := wrap_id (x := nextOf s.f0 to - 1) (by omega) (by unfold MAXN at hn; omega)
    have hbl := base_le (x := s.f0.f5)
    simp only [h2, decide_false, Bool.false_eq_true, if_false]
    rw [m36_eq h]
    simp only [Option.bind_some, hw]
    generalize hp : (if lastOf s.f0.f5 < nextOf s.f0 to - 1 then lastOf s.f0.f5 else nextOf s.f0 to - 1) = p
    have hp1 : s.f0.f5.f0.f0 ≤ p ∧ p ≤ lastOf s.f0.f5 := by rw [← hp]; split <;> omega
    have hlast : lastOf s.f0.f5 ≤ 1152921504606846976 := h.2.2.2.2.1
    rw [m69_in h.1 h.2 hp1.1 hp1.2]
    have hw2 : IntKind.i64.wrap (p + 1) = p + 1 := wrap_id (by omega) (by omega)
    simp only [Option.bind_some, hw2]
    rw [m84_eq h.1 h.2]
    have e0 : ((0 : Int) != 0) = false := rfl
    simp only [e0, Bool.false_eq_true, if_false, Option.bind_some]
    rw [m59_eq ho]
    have he : (if s.f0.f5.f0.f0 < p + 1 ∧ p + 1 ≤ lastOf s.f0.f5 then (s.f0.f5.f1.drop (p + 1 - s.f0.f5.f0.f0 - 1).toNat).take (8 : Int).toNat else []) = (s.f0.f5.f1.drop (p - s.f0.f5.f0.f0).toNat).take 8 := by
      by_cases h3 : p + 1 ≤ lastOf s.f0.f5
      · rw [if_pos ⟨by omega, h3⟩, show p + 1 - s.f0.f5.f0.f0 - 1 = p - s.f0.f5.f0.f0 by omega]; rfl
      · rw [if_neg (by omega), List.drop_eq_nil_of_le (by unfold lastOf at h3; omega)]; rfl
    rw [he]; rfl
/-- Something for each other one. -/
def othersF (f : S85 → Int → S85) (s : S85) (l : List Int) : S85 := l.foldl (fun s id => if id = s.f0.f0 then s else f s id) s
theorem m54_loop {n : S31} {num : Int} (h : LI n) (x0 : S85) {t : List Int} (ht : ∀ v ∈ t, 0 ≤ v ∧ v < 8) (htl : t.length ≤ 7) (hn : ∀ v ∈ t, nextOf n v ≤ MAXN) : ∀ (k : Nat) (i : Int) (s : S85), s.f0 = n → s.f2 = num → 0 ≤ i → i ≤ (t.length : Int) → (t.length : Int) - i < (k : Int) → (s.f1.length : Int) ≤ 900 + i →
    m54_j1 k s.f0.f0 s.f0.f1 s.f0.f10 s.f0.f11 s.f2 s.f0.f2 s.f0.f3 s.f0.f4 s.f0.f5.f0.f0 s.f0.f5.f0.f1 s.f0.f6 i t s.f0.f7 s.f0.f8 s.f0.f9 s.f0.f5.f0.f2 s.f1 s.f0.f5.f1 x0 = some (othersF bringF s (t.drop i.toNat)) := by
  intro k
  induction k with
  | zero => intro i s _ _ h0 h1 h2; omega
  | succ k ih =>
    intro i s hs hnum h0 h1 h2 h3
    rw [m54_j1]
    by_cases hi : i < (t.length : Int)
    · obtain ⟨e, he⟩ := idx_some h0 hi
      have hmem := idx_mem he
      have hw : IntKind.i64.wrap (i + 1) = i + 1 := wrap_id (by omega) (by omega)
      rw [idx_drop he, he]
      simp only [hi, decide_true, if_true, Option.bind_some, othersF, List.foldl_cons]
      by_cases hv : e = s.f0.f0
      · have hb : ((e : Int) != s.f0.f0) = false := by simp [hv]
        rw [hb]
        simp only [Bool.false_eq_true, if_false, m54_j2, hw, if_pos hv]
        exact ih (i + 1) s hs hnum (by omega) (by omega) (by omega) (by omega)
      · have hb : ((e : Int) != s.f0.f0) = true := by simp [hv]
        rw [hb]
        simp only [if_true, if_neg hv]
        have hbr := m55_eq (s := s) (by rw [hs]; exact h) (by omega) (ht e hmem).1 (ht e hmem).2 (by rw [hs]; exact hn e hmem)
        obtain ⟨q1, q2, q3⟩ := bringF_n s e
        have hih := ih (i + 1) (bringF s e) (q1.trans hs) (q2.trans hnum) (by omega) (by omega) (by omega) (by rw [q3]; omega)
        change ((m55 s e).bind _) = _
        rw [hbr]
        simp only [Option.bind_some, m54_j2, hw]
        exact hih
    · have : t.drop i.toNat = [] := List.drop_eq_nil_of_le (by omega)
      simp only [hi, decide_false, Bool.false_eq_true, if_false, this, othersF, List.foldl_nil]
theorem mem_range {m : List Int} (h : MemOk m) : ∀ v ∈ m, 1 ≤ v ∧ v ≤ 7 := by
  intro v hv
  obtain ⟨j, hj, rfl⟩ := List.mem_iff_getElem.1 hv
  have := h.1 j (by omega) hj
  rw [List.getD_eq_getElem?_getD, List.getElem?_eq_getElem hj] at this
  exact ⟨this.1, this.2.1⟩
theorem m54_eq {s : S85} (h : LI s.f0) (ho : s.f1.length ≤ 900) (hn : ∀ v, 1 ≤ v → v ≤ 7 → nextOf s.f0 v ≤ MAXN) : m54 s = some (othersF bringF s (membersOf s.f0.f5)) := by
  have hm := membersOf_ok h.2
  have h7 := mem_len hm
  unfold m54
  rw [m57_eq h, Option.bind_some]
  have hr := mem_range hm
  have := m54_loop h s (t := membersOf s.f0.f5) (fun v hv => by have := hr v hv; omega) h7 (fun v hv => hn v (hr v hv).1 (hr v hv).2) FUEL 0 s rfl rfl (by omega) (by omega) (by show ((membersOf s.f0.f5).length : Int) - 0 < ((4611686018427387904 : Nat) : Int); omega) (by omega)
  simpa using this
def askF (i t : Int) (s : S85) (to : Int) : S85 := sendF s to (S46.mk 1 0 0 0 i t 0 false [] [] 0 [] noTree)
theorem m54v1_loop {n : S31} {num : Int} (a b : Int) (x0 : S85) {t : List Int} (htl : t.length ≤ 7) : ∀ (k : Nat) (i : Int) (s : S85), s.f0 = n → s.f2 = num → 0 ≤ i → i ≤ (t.length : Int) → (t.length : Int) - i < (k : Int) → (s.f1.length : Int) ≤ 900 + i →
    m54v1_j1 k s.f0.f0 s.f0.f1 s.f0.f10 s.f0.f11 s.f2 s.f0.f2 s.f0.f3 s.f0.f4 s.f0.f5.f0.f0 s.f0.f5.f0.f1 s.f0.f6 i a b t s.f0.f7 s.f0.f8 s.f0.f9 s.f0.f5.f0.f2 s.f1 s.f0.f5.f1 x0 = some (othersF (askF a b) s (t.drop i.toNat)) := by
  intro k
  induction k with
  | zero => intro i s _ _ h0 h1 h2; omega
  | succ k ih =>
    intro i s hs hnum h0 h1 h2 h3
    rw [m54v1_j1]
    by_cases hi : i < (t.length : Int)
    · obtain ⟨e, he⟩ := idx_some h0 hi
      have hw : IntKind.i64.wrap (i + 1) = i + 1 := wrap_id (by omega) (by omega)
      rw [idx_drop he, he]
      simp only [hi, decide_true, if_true, Option.bind_some, othersF, List.foldl_cons]
      by_cases hv : e = s.f0.f0
      · have hb : ((e : Int) != s.f0.f0) = false := by simp [hv]
        rw [hb]
        simp only [Bool.false_eq_true, if_false, m54v1_j2, hw, if_pos hv]
        exact ih (i + 1) s hs hnum (by omega) (by omega) (by omega) (by omega)
      · have hb : ((e : Int) != s.f0.f0) = true := by simp [hv]
        rw [hb]
        simp only [if_true, if_neg hv]
        have hih := ih (i + 1) (askF a b s e) hs hnum (by omega) (by omega) (by omega) (by simp [askF, sendF]; omega)
        change ((m85 e s a b).bind _) = _
        unfold m85
        rw [m59_eq (by omega)]
        simp only [Option.bind_some, m54v1_j2, hw]
        exact hih
    · have : t.drop i.toNat = [] := List.drop_eq_nil_of_le (by omega)
      simp only [hi, decide_false, Bool.false_eq_true, if_false, this, othersF, List.foldl_nil]
theorem m54v1_eq {s : S85} (h : LI s.f0) (ho : s.f1.length ≤ 900) (a b : Int) : m54v1 s a b = some (othersF (askF a b) s (membersOf s.f0.f5)) := by
  have hm := membersOf_ok h.2
  have h7 := mem_len hm
  unfold m54v1
  rw [m57_eq h, Option.bind_some]
  have := m54v1_loop (n := s.f0) (num := s.f2) a b s (t := membersOf s.f0.f5) h7 FUEL 0 s rfl rfl (by omega) (by omega) (by show ((membersOf s.f0.f5).length : Int) - 0 < ((4611686018427387904 : Nat) : Int); omega) (by omega)
  simpa using this
def addL (l : S26) (e : S80) : S26 := ⟨l.f0, l.f1 ++ [e]⟩
def addF (s : S85) (kind : Int) (data : List Int) : S85 :=
  if lastOf s.f0.f5 ≥ MAXN then s else { s with f0 := { s.f0 with f5 := addL s.f0.f5 ⟨s.f0.f1, kind, data⟩ } }
theorem m67_eq {s : S85} (h : LI s.f0) (kind : Int) {data : List Int} (hd : data.length ≤ 4194304) : m67 s kind data = some (addF s kind data) := by
  have hl := h.1.1
  unfold m67 addF
  rw [m36_eq h]
  by_cases h1 : lastOf s.f0.f5 ≥ MAXN
  · have h2 : lastOf s.f0.f5 ≥ 1152921504606846976 := h1
    simp [h1, h2]
  · have h2 : ¬ lastOf s.f0.f5 ≥ 1152921504606846976 := h1
    rw [m76_eq _ (by omega), m90_eq _ (by omega)]
    have : (decide ((s.f0.f5.f1.length + ([(S80.mk s.f0.f1 kind data)] : List S80).length) * 40 ≤ 140737488355328) && decide (s.f0.f5.f1.length + ([(S80.mk s.f0.f1 kind data)] : List S80).length ≤ 140737488355328)) = true := by
      simp only [List.length_singleton, Bool.and_eq_true, decide_eq_true_eq]; omega
    simp only [Option.bind_some, h2, decide_false, Bool.false_eq_true, if_false, this, if_true, h1]
    rfl
theorem m97_loop (x : List S80) (hx : (x.length : Int) < 4611686018427387904) : ∀ (k : Nat) (i : Int), 0 ≤ i → i ≤ (x.length : Int) → (x.length : Int) - i < (k : Int) → ∃ r, m97_j1 k i x = some r ∧ (decide (r ≥ 0) = (x.drop i.toNat).any fun e => e.f1 == 2) := by
  intro k
  induction k with
  | zero => intro i h0 h1 h2; omega
  | succ k ih =>
    intro i h0 h1 h2
    rw [m97_j1]
    by_cases hi : i < (x.length : Int)
    · obtain ⟨e, he⟩ := idx_some h0 hi
      have hw : IntKind.i64.wrap (i + 1) = i + 1 := wrap_id (by omega) (by omega)
      rw [idx_drop he, he, Option.bind_some, m93]
      by_cases hv : e.f1 = 2
      · exact ⟨i, by simp [hi, hv], by simp [hv, h0]⟩
      · obtain ⟨r, hr, hm⟩ := ih (i + 1) (by omega) (by omega) (by omega)
        exact ⟨r, by simp [hi, hv, hw, hr], by rw [hm]; simp [hv]⟩
    · have : x.drop i.toNat = [] := List.drop_eq_nil_of_le (by omega)
      exact ⟨-1, by simp [hi], by simp [this]⟩
def pendB (n : S31) : Bool := (n.f5.f1.drop (n.f6 - n.f5.f0.f0).toNat).any fun e => e.f1 == 2
theorem m71_eq {s : S85} (h : LI s.f0) (hc : s.f0.f5.f0.f0 ≤ s.f0.f6 ∧ s.f0.f6 ≤ lastOf s.f0.f5) : m71 s = some (pendB s.f0) := by
  have hl := h.1.1; have hb := h.2.1
  have hlast : lastOf s.f0.f5 ≤ 1152921504606846976 := h.2.2.2.2.1
  unfold m71 pendB
  rw [m36_eq h]
  have hw : IntKind.i64.wrap (s.f0.f6 + 1) = s.f0.f6 + 1 := wrap_id (by omega) (by omega)
  simp only [Option.bind_some, hw]
  rw [m84_eq h.1 h.2]
  have he : (if s.f0.f5.f0.f0 < s.f0.f6 + 1 ∧ s.f0.f6 + 1 ≤ lastOf s.f0.f5 then (s.f0.f5.f1.drop (s.f0.f6 + 1 - s.f0.f5.f0.f0 - 1).toNat).take (lastOf s.f0.f5).toNat else []) = s.f0.f5.f1.drop (s.f0.f6 - s.f0.f5.f0.f0).toNat := by
    by_cases h3 : s.f0.f6 + 1 ≤ lastOf s.f0.f5
    · rw [if_pos ⟨by omega, h3⟩, show s.f0.f6 + 1 - s.f0.f5.f0.f0 - 1 = s.f0.f6 - s.f0.f5.f0.f0 by omega, List.take_of_length_le]
      unfold lastOf; simp; omega
    · rw [if_neg (by omega), List.drop_eq_nil_of_le (by unfold lastOf at *; omega)]
  simp only [Option.bind_some, he]
  obtain ⟨r, h1, h2⟩ := m97_loop (s.f0.f5.f1.drop (s.f0.f6 - s.f0.f5.f0.f0).toNat) (by simp; omega) FUEL 0 (by omega) (by omega) (by show (((s.f0.f5.f1.drop (s.f0.f6 - s.f0.f5.f0.f0).toNat).length : Nat) : Int) - 0 < ((4611686018427387904 : Nat) : Int); simp; omega)
  unfold m88 m97
  rw [h1]
  simp only [Int.toNat_zero, List.drop_zero] at h2
  simp only [Option.bind_some, h2]
/-- Which ones have an index. -/
def haves (m : List Int) (i : Int) : List Int := ((List.range 8).map Int.ofNat).filter fun id => decide (m.getD id.toNat 0 ≥ i)
def ncF (n : S31) (m mem : List Int) : Nat → Int
  | 0 => n.f6
  | d + 1 => if termAt n.f5 (n.f6 + (d + 1 : Nat)) ≠ n.f1 then n.f6 else if mostB mem (haves m (n.f6 + (d + 1 : Nat))) = true then n.f6 + (d + 1 : Nat) else ncF n m mem d
theorem ncF_range (n : S31) (m mem : List Int) : ∀ d : Nat, n.f6 ≤ ncF n m mem d ∧ ncF n m mem d ≤ n.f6 + d
  | 0 => by simp [ncF]
  | d + 1 => by
    have ih := ncF_range n m mem d
    simp only [ncF]
    split
    · omega
    · split <;> omega
def countsF (s : S85) : S85 :=
  let m := s.f0.f9.set s.f0.f0.toNat (lastOf s.f0.f5)
  let n1 := { s.f0 with f9 := m, f6 := ncF s.f0 m (membersOf s.f0.f5) (lastOf s.f0.f5 - s.f0.f6).toNat }
  if s.f0.f0 ∉ membersOf s.f0.f5 ∧ pendB n1 = false then { s with f0 := { n1 with f3 := 0, f4 := 0 } } else { s with f0 := n1 }
end Go.Proofs.Ythpdomeciaafjaa
