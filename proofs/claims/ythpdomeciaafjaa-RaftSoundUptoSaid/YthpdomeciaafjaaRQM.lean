/- Plain law: a step leaves a sound node, and takes nothing back. Own work. -/
import Derived.Test.YthpdomeciaafjaaRQL
namespace Go.Proofs.Ythpdomeciaafjaa
open Go.Fx

theorem m4_out {n n' : S31} {out : List S46} {num code : Int} (hl : (out.length : Int) < 4611686018427387904) (hm : ∀ m ∈ out, MsgOk n.f0 n'.f1 m) : ∀ (k : Nat) (i : Int), 0 ≤ i → i ≤ (out.length : Int) → (out.length : Int) - i < (k : Int) → m4_j5 k (n', out, num, code) true i n = some true := by
  intro k
  induction k with
  | zero => intro i h0 h1 h2; omega
  | succ k ih =>
    intro i h0 h1 h2
    rw [m4_j5]
    by_cases hi : i < (out.length : Int)
    · obtain ⟨m, he⟩ := idx_some h0 hi
      have hw : IntKind.i64.wrap (i + 1) = i + 1 := wrap_id (by omega) (by omega)
      have hmm := hm m (idx_mem he)
      have b1 : ((m.f1 : Int) != n.f0) = false := by simp [hmm.src]
      have b2 : ((m.f2 : Int) == n.f0) = false := by simp [hmm.dst]
      have b3 : ((m.f3 : Int) != n'.f1) = false := by simp [hmm.term]
      simp only [hi, decide_true, if_true, he, Option.bind_some, b1, b2, b3, Bool.false_eq_true, if_false, m4_j6, hw]
      exact ih (i + 1) (by omega) (by omega) (by omega)
    · simp only [hi, decide_false, Bool.false_eq_true, if_false]
theorem m4_logs {n n' : S31} {out : List S46} {num code : Int} (h : Inv n) (h' : Inv n') (hk : Kept n n') (hl : (out.length : Int) < 4611686018427387904) (hm : ∀ m ∈ out, MsgOk n.f0 n'.f1 m) : ∀ (k : Nat) (i : Int), n.f5.f0.f0 ≤ i → i ≤ n.f6 + 1 → n.f6 + 1 - i < (k : Int) → m4_j3 k (n', out, num, code) true i n = some true := by
  have hc := h.com; have hc' := h'.com; have hlast := h.last; have hkc := hk.com
  intro k
  induction k with
  | zero => intro i h0 h1 h2; omega
  | succ k ih =>
    intro i h0 h1 h2
    rw [m4_j3]
    by_cases hi : i ≤ n.f6
    · have hw : IntKind.i64.wrap (i + 1) = i + 1 := wrap_id (by omega) (by unfold MAXN at hlast; omega)
      rw [if_pos (decide_eq_true hi)]
      by_cases hb : i ≥ n'.f5.f0.f0
      · have e1 : m16 (S26.mk (S23.mk n'.f5.f0.f0 n'.f5.f0.f1 n'.f5.f0.f2) n'.f5.f1) i = some (termAt n'.f5 i) := m16_eq h'.light h'.log hb (by omega)
        have e2 := m16_eq h.light h.log h0 (by omega)
        have b : ((termAt n'.f5 i : Int) != termAt n.f5 i) = false := by simp [hk.logs i h0 hi hb]
        rw [if_pos (decide_eq_true hb)]
        simp only [e1, e2, Option.bind_some, b, m4_j4, Bool.false_eq_true, if_false, hw]
        exact ih (i + 1) (by omega) (by omega) (by omega)
      · have hb' : decide (i ≥ n'.f5.f0.f0) = false := decide_eq_false hb
        simp only [hb', Bool.false_eq_true, if_false, m4_j4, hw]
        exact ih (i + 1) (by omega) (by omega) (by omega)
    · rw [if_neg (by simpa using hi)]
      exact m4_out hl hm FUEL 0 (by omega) (by omega) (by show (out.length : Int) - 0 < ((4611686018427387904 : Nat) : Int); omega)
/-- RaftSound: a sound node stays sound, and takes nothing back. -/
theorem raftSound_true (n : S31) (e : S48) (pre : Pre n e) : m4 n e = some true := by
  obtain ⟨b, hb, _⟩ := m13_some n e
  unfold m4
  rw [up_true, hb]
  simp only [Option.bind_some]
  by_cases hn : NodeOk n
  · obtain ⟨q1, q2⟩ := step_eq pre hn
    have hi : Inv n := inv_of pre.light hn pre.l8 pre.l9
    rw [q1, Option.bind_some]
    cases b with
    | false => rfl
    | true =>
      generalize hs : stepS n e = s at q2
      have hv := votes_len q2.inv.votes
      have hlen := q2.len
      obtain ⟨c, hc, _, h15⟩ := check_same s.f0 q2.inv.light (by omega)
      have hct := hc.2 q2.inv.node
      subst hct
      have hk := q2.kept
      have hkt := hk.term; have hkc := hk.com; have hki := hk.id
      have hcom := hi.com; have hlast := hi.last
      have e15 : m15 (S31.mk s.f0.f0 s.f0.f1 s.f0.f2 s.f0.f3 s.f0.f4 (S26.mk (S23.mk s.f0.f5.f0.f0 s.f0.f5.f0.f1 s.f0.f5.f0.f2) s.f0.f5.f1) s.f0.f6 s.f0.f7 s.f0.f8 s.f0.f9 s.f0.f10 s.f0.f11) = some 0 := h15
      have hm : ∀ m ∈ s.f1, MsgOk n.f0 s.f0.f1 m := fun m hm => by have := q2.out m hm; rw [hki] at this; exact this
      have hj2 : m4_j2 (s.f0, s.f1, s.f2, 0) true false n = some true := by
        unfold m4_j2
        rw [if_neg (by simp)]
        refine m4_logs hi q2.inv hk (by simp at hlen; omega) hm FUEL _ (Int.le_refl _) (by omega) ?_
        show n.f6 + 1 - n.f5.f0.f0 < ((4611686018427387904 : Nat) : Int)
        unfold MAXN at hlast
        omega
      have n1 : ¬ s.f0.f1 < n.f1 := by change n.f1 ≤ s.f0.f1 at hkt; omega
      have n6 : ¬ s.f0.f6 < n.f6 := by change n.f6 ≤ s.f0.f6 at hkc; omega
      have n0 : ((s.f0.f0 : Int) != n.f0) = false := by have : s.f0.f0 = n.f0 := hki; simp [this]
      simp only [Bool.not_true, Bool.false_eq_true, if_false, outS]
      rw [show ((0 : Int) != 0) = false from rfl]
      unfold m4_j1
      simp only [Bool.false_eq_true, if_false, e15, Option.bind_some]
      rw [show ((0 : Int) != 0) = false from rfl]
      simp only [Bool.false_eq_true, if_false, n1, n6, decide_false, n0, hj2]
      have hend : (if ((s.f0.f1 : Int) == n.f1) = true then (if ((n.f2 : Int) != 0) = true then (if ((s.f0.f2 : Int) != n.f2) = true then m4_j2 (s.f0, s.f1, s.f2, 0) true true n else some true) else some true) else some true) = some true := by
        by_cases d1 : s.f0.f1 = n.f1
        · by_cases d2 : n.f2 = 0
          · simp [d2]
          · have := hk.vote d1 d2
            have this' : s.f0.f2 = n.f2 := this
            simp [this']
        · simp [d1]
      exact hend
  · rw [step_bad pre hn, Option.bind_some]
    cases b with
    | false => rfl
    | true => rfl
end Go.Proofs.Ythpdomeciaafjaa
