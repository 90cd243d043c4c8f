/- Plain law: both tests of a log answer alike. Own work. -/
import Derived.Test.YthpdomeciaafjaaRPB
namespace Go.Proofs.Ythpdomeciaafjaa
open Go.Fx

theorem idx_mem {α : Type} {xs : List α} {i : Int} {e : α} (h : idx xs i = some e) : e ∈ xs := by
  unfold idx at h
  split at h
  · exact List.mem_of_getElem? h
  · cases h
theorem m77_eq (x : Int) : m77 x = some (decide (0 ≤ x ∧ x ≤ 1152921504606846976)) := by
  unfold m77 m77_j1
  by_cases h : x ≥ 0
  · simp [h]
  · have : ¬ 0 ≤ x := by omega
    simp [this]
/-- A log of few enough parts. -/
def LightL (x : S26) : Prop := x.f1.length ≤ 4194304 ∧ x.f0.f2.length ≤ 4194304 ∧ ∀ e ∈ x.f1, e.f2.length ≤ 4194304

/-- What an entry behind one of a term is. -/
def EntryOk (p : Int) (e : S80) : Prop := p ≤ e.f0 ∧ 1 ≤ e.f0 ∧ e.f0 ≤ 1152921504606846976 ∧ 0 ≤ e.f1 ∧ e.f1 ≤ 2 ∧ (e.f1 = 2 → MayFrom (wr e.f2) 0 ∧ 0 < e.f2.length)
def EntriesOk : Int → List S80 → Prop
  | _, [] => True
  | p, e :: l => EntryOk p e ∧ EntriesOk e.f0 l

theorem m79_eq (e : S80) (p : Int) (he : e.f2.length ≤ 4194304) : ∃ b, (b = true ↔ EntryOk p e) ∧ m79 e p = some b := by
  obtain ⟨c, hc, _, h95⟩ := of_same e.f2 (by omega)
  unfold m79 m79_j1 EntryOk
  rw [m77_eq, h95]
  have hmax : (if p < 1 then (1 : Int) else p) ≤ e.f0 ↔ p ≤ e.f0 ∧ 1 ≤ e.f0 := by split <;> omega
  by_cases h1 : e.f0 < (if p < 1 then 1 else p)
  · refine ⟨false, ⟨fun h => (by cases h), fun h => ?_⟩, by simp [h1]⟩
    have := hmax.2 ⟨h.1, h.2.1⟩; omega
  · have h1' := hmax.1 (by omega)
    by_cases h2 : e.f0 ≤ 1152921504606846976
    · by_cases h3 : e.f1 < 0
      · exact ⟨false, ⟨fun h => (by cases h), fun h => by omega⟩, by simp [h1, h2, h3, show 0 ≤ e.f0 by omega]⟩
      · by_cases h4 : e.f1 > 2
        · exact ⟨false, ⟨fun h => (by cases h), fun h => by omega⟩, by simp [h1, h2, h3, h4, show 0 ≤ e.f0 by omega]⟩
        · by_cases h5 : e.f1 = 2
          · refine ⟨c, ?_, by cases c <;> simp [h1, h2, h5, show 0 ≤ e.f0 by omega]⟩
            rw [hc]
            exact ⟨fun h => ⟨h1'.1, h1'.2, h2, by omega, by omega, fun _ => h⟩, fun h => h.2.2.2.2.2 h5⟩
          · exact ⟨true, ⟨fun _ => ⟨h1'.1, h1'.2, h2, by omega, by omega, fun h => absurd h h5⟩, fun _ => rfl⟩, by simp [h1, h2, h3, h4, h5, show 0 ≤ e.f0 by omega]⟩
    · exact ⟨false, ⟨fun h => (by cases h), fun h => by omega⟩, by simp [h1, h2]⟩

theorem chk_loop (x : S26) (hx : LightL x) : ∀ (k : Nat) (i p : Int), 0 ≤ i → i ≤ (x.f1.length : Int) → (x.f1.length : Int) - i < (k : Int) → x.f0.f1 ≤ p → (i = 0 → p = x.f0.f1) → (0 < i → ∃ e, idx x.f1 (i - 1) = some e ∧ e.f0 = p) →
    ∃ b, (b = true ↔ EntriesOk p (x.f1.drop i.toNat)) ∧ m51_j2 k i x = some b ∧ m40_j2 k p i x = some (if b = true then 0 else 3) := by
  intro k
  induction k with
  | zero => intro i p h0 h1 h2; omega
  | succ k ih =>
    intro i p h0 h1 h2 hp hp0 hp1
    rw [m51_j2, m40_j2]
    by_cases hi : i < (x.f1.length : Int)
    · obtain ⟨e, he⟩ := idx_some h0 hi
      have hd := hx.2.2 e (idx_mem he)
      obtain ⟨c, hc, h79⟩ := m79_eq e p hd
      obtain ⟨d, hdm, h82, _⟩ := of_same e.f2 (by omega)
      have hlen := hx.1
      have hw : IntKind.i64.wrap (i + 1) = i + 1 := wrap_id (by omega) (by omega)
      have hw' : IntKind.i64.wrap (i - 1) = i - 1 := wrap_id (by omega) (by omega)
      have hi0 : i + 1 - 1 = i := by omega
      simp only [hi, decide_true, if_true, he, Option.bind_some, h79, idx_drop he, EntriesOk]
      by_cases hok : EntryOk p e
      · obtain ⟨b, hbm, hb1, hb2⟩ := ih (i + 1) e.f0 (by omega) (by omega) (by omega) (by have := hok.1; omega) (fun h => by omega) (fun _ => ⟨e, by rw [hi0]; exact he, rfl⟩)
        have hct : c = true := hc.2 hok
        obtain ⟨k1, k2, k3, k4, k5, k6⟩ := hok
        refine ⟨b, by rw [hbm]; exact ⟨fun h => ⟨⟨k1, k2, k3, k4, k5, k6⟩, h⟩, fun h => h.2⟩, ?_, by simp [hct, hw, hb2]⟩
        have n1 : ¬ e.f0 < 1 := by omega
        have n2 : ¬ e.f0 > 1152921504606846976 := by omega
        have n3 : ¬ e.f0 < x.f0.f1 := by omega
        have n4 : ¬ e.f1 < 0 := by omega
        have n5 : ¬ e.f1 > 2 := by omega
        have tail : m51_j3 (m51_j2 k) false i x e = some b := by
          unfold m51_j3 m51_j4
          rw [hw]
          by_cases h5 : e.f1 = 2
          · have hdt : d = true := hdm.2 (k6 h5)
            simp [h5, h82, hdt, hb1]
          · simp [h5, hb1]
        by_cases h6 : i > 0
        · obtain ⟨e', he', hq⟩ := hp1 h6
          have n6 : ¬ e.f0 < e'.f0 := by omega
          simp [n1, n2, n3, n4, n5, n6, h6, hw', he', tail]
        · simp [n1, n2, n3, n4, n5, h6, tail]
      · have hcf : c = false := by cases c with | false => rfl | true => exact absurd (hc.1 rfl) hok
        refine ⟨false, ⟨fun h => (by cases h), fun h => absurd h.1 hok⟩, ?_, by simp [hcf]⟩
        have bad : m51_j3 (m51_j2 k) true i x e = some false := by simp [m51_j3]
        by_cases n1 : e.f0 < 1
        · simp [n1, bad]
        · by_cases n2 : e.f0 > 1152921504606846976
          · simp [n1, n2, bad]
          · by_cases n3 : e.f0 < x.f0.f1
            · simp [n1, n2, n3, bad]
            · have fin : (p ≤ e.f0) → (if e.f1 < 0 then m51_j3 (m51_j2 k) true i x e else m51_j3 (m51_j2 k) (decide (e.f1 > 2)) i x e) = some false := by
                intro hpe
                by_cases n4 : e.f1 < 0
                · simp [n4, bad]
                · by_cases n5 : e.f1 > 2
                  · simp [n4, n5, bad]
                  · by_cases h5 : e.f1 = 2
                    · have hdf : d = false := by
                        cases d with
                        | false => rfl
                        | true => exact absurd ⟨hpe, by omega, by omega, by omega, by omega, fun _ => hdm.1 rfl⟩ hok
                      simp [m51_j3, h5, h82, hdf]
                    · exact absurd ⟨hpe, by omega, by omega, by omega, by omega, fun h => absurd h h5⟩ hok
              by_cases h6 : i > 0
              · obtain ⟨e', he', hq⟩ := hp1 h6
                by_cases n6 : e.f0 < e'.f0
                · simp [n1, n2, n3, n6, h6, hw', he', bad]
                · have := fin (by omega)
                  simpa [n1, n2, n3, n6, h6, hw', he'] using this
              · have := fin (by rw [hp0 (by omega)]; omega)
                simpa [n1, n2, n3, h6] using this
    · have : x.f1.drop i.toNat = [] := List.drop_eq_nil_of_le (by omega)
      exact ⟨true, by simp [this, EntriesOk], by simp [hi], by simp [hi]⟩
end Go.Proofs.Ythpdomeciaafjaa
