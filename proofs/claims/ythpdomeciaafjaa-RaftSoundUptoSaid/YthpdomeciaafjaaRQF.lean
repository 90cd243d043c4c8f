/- Plain law: what a step keeps, and what it sends. Own work. -/
import Derived.Test.YthpdomeciaafjaaRQE
namespace Go.Proofs.Ythpdomeciaafjaa
open Go.Fx

/-- What a node keeps. -/
structure Kept (n n' : S31) : Prop where
  id : n'.f0 = n.f0
  term : n.f1 ≤ n'.f1
  vote : n'.f1 = n.f1 → n.f2 ≠ 0 → n'.f2 = n.f2
  com : n.f6 ≤ n'.f6
  base : n.f5.f0.f0 ≤ n'.f5.f0.f0
  logs : ∀ i, n.f5.f0.f0 ≤ i → i ≤ n.f6 → n'.f5.f0.f0 ≤ i → termAt n'.f5 i = termAt n.f5 i
theorem Kept.refl (n : S31) : Kept n n := ⟨rfl, Int.le_refl _, fun _ _ => rfl, Int.le_refl _, Int.le_refl _, fun _ _ _ _ => rfl⟩
theorem Kept.trans {a b c : S31} (h1 : Kept a b) (h2 : Kept b c) : Kept a c := by
  have ht1 := h1.term; have ht2 := h2.term; have hc1 := h1.com; have hc2 := h2.com; have hb1 := h1.base; have hb2 := h2.base
  refine ⟨h2.id.trans h1.id, by omega, fun e hv => ?_, by omega, by omega, fun i h3 h4 h5 => ?_⟩
  · have e1 := h1.vote (by omega) hv
    rw [h2.vote (by omega) (by rw [e1]; exact hv), e1]
  · rw [h2.logs i (by omega) (by omega) h5, h1.logs i h3 h4 (by omega)]
structure MsgOk (id term : Int) (m : S46) : Prop where
  src : m.f1 = id
  dst : m.f2 ≠ id
  term : m.f3 = term
  l8 : m.f8.length ≤ 4194304
  l9 : m.f9.length ≤ 4194304
def OutOk (s : S85) : Prop := ∀ m ∈ s.f1, MsgOk s.f0.f0 s.f0.f1 m
/-- A step's part: sound, kept, few messages more. -/
structure Good (s s' : S85) (d : Nat) : Prop where
  inv : Inv s'.f0
  out : OutOk s'
  kept : Kept s.f0 s'.f0
  len : s'.f1.length ≤ s.f1.length + d
theorem Good.trans {a b c : S85} {d e : Nat} (h1 : Good a b d) (h2 : Good b c e) : Good a c (d + e) :=
  ⟨h2.inv, h2.out, h1.kept.trans h2.kept, by have := h1.len; have := h2.len; omega⟩
theorem Good.refl {s : S85} (h : Inv s.f0) (ho : OutOk s) {d : Nat} : Good s s d := ⟨h, ho, Kept.refl _, by omega⟩
theorem Good.mono {a b : S85} {d e : Nat} (h : Good a b d) (hd : d ≤ e) : Good a b e := ⟨h.inv, h.out, h.kept, by have := h.len; omega⟩
theorem out_same {s s' : S85} (h : OutOk s) (h1 : s'.f1 = s.f1) (h2 : s'.f0.f0 = s.f0.f0) (h3 : s'.f0.f1 = s.f0.f1) : OutOk s' := by
  intro m hm
  rw [h1] at hm; rw [h2, h3]; exact h m hm
theorem out_send {s : S85} (h : OutOk s) {to : Int} (ht : to ≠ s.f0.f0) {m : S46} (h8 : m.f8.length ≤ 4194304) (h9 : m.f9.length ≤ 4194304) : OutOk (sendF s to m) := by
  intro x hx
  rcases List.mem_append.1 hx with hx | hx
  · exact h x hx
  · rw [List.mem_singleton] at hx
    subst hx
    exact ⟨rfl, ht, rfl, h8, h9⟩
theorem good_send {s : S85} (h : Inv s.f0) (ho : OutOk s) {to : Int} (ht : to ≠ s.f0.f0) {m : S46} (h8 : m.f8.length ≤ 4194304) (h9 : m.f9.length ≤ 4194304) : Good s (sendF s to m) 1 :=
  ⟨h, out_send ho ht h8 h9, Kept.refl _, by simp [sendF]⟩
theorem good_bring {s : S85} (h : Inv s.f0) (ho : OutOk s) {to : Int} (ht : to ≠ s.f0.f0) : Good s (bringF s to) 1 := by
  have h1 := h.light.1; have h2 := h.light.2.1
  unfold bringF
  split
  · exact good_send h ho ht (by simp) h2
  · exact good_send h ho ht (by show ((s.f0.f5.f1.drop _).take 8).length ≤ _; rw [List.length_take]; omega) (by simp)
theorem good_ask {s : S85} (h : Inv s.f0) (ho : OutOk s) (a b : Int) {to : Int} (ht : to ≠ s.f0.f0) : Good s (askF a b s to) 1 := good_send h ho ht (by simp) (by simp)
theorem good_others {f : S85 → Int → S85} (hf : ∀ (s : S85), Inv s.f0 → OutOk s → ∀ to, to ≠ s.f0.f0 → Good s (f s to) 1) : ∀ (l : List Int) (s : S85), Inv s.f0 → OutOk s → Good s (othersF f s l) l.length
  | [], s, h, ho => Good.refl h ho
  | v :: l, s, h, ho => by
    simp only [othersF, List.foldl_cons]
    split
    · exact (good_others hf l s h ho).mono (by simp)
    · rename_i hv
      have h1 := hf s h ho v hv
      exact (h1.trans (good_others hf l _ h1.inv h1.out)).mono (by simp only [List.length_cons]; omega)
theorem good_brings {s : S85} (h : Inv s.f0) (ho : OutOk s) {l : List Int} (hl : l.length ≤ 7) : Good s (othersF bringF s l) 7 := (good_others (fun _ h ho _ ht => good_bring h ho ht) l s h ho).mono hl
theorem good_asks {s : S85} (h : Inv s.f0) (ho : OutOk s) (a b : Int) {l : List Int} (hl : l.length ≤ 7) : Good s (othersF (askF a b) s l) 7 := (good_others (fun _ h ho _ ht => good_ask h ho a b ht) l s h ho).mono hl
theorem good_counts {s : S85} (h : Inv s.f0) (ho : OutOk s) : Good s (countsF s) 0 := by
  obtain ⟨c1, _, c5, c0, c1', c2, _, _, _, _, _, _, c6⟩ := countsF_n s
  have hr := ncF_range s.f0 (s.f0.f9.set s.f0.f0.toNat (lastOf s.f0.f5)) (membersOf s.f0.f5) (lastOf s.f0.f5 - s.f0.f6).toNat
  refine ⟨counts_inv h, out_same ho c1 c0 c1', ⟨c0, by omega, fun _ _ => c2, by omega, by rw [c5]; exact Int.le_refl _, fun i _ _ _ => by rw [c5]⟩, by rw [c1]; omega⟩
theorem termAt_add {l : S26} {e : S80} {i : Int} (h1 : l.f0.f0 ≤ i) (h2 : i ≤ lastOf l) : termAt (addL l e) i = termAt l i :=
  termAt_take (l := l) (l2 := addL l e) (n := l.f1.length) (t := [e]) rfl (by rw [List.take_length]; rfl) h1 h2 (Nat.le_refl _)
theorem good_add {s : S85} (h : Inv s.f0) (ho : OutOk s) (hr : s.f0.f1 > 0) {kind : Int} {data : List Int} (hk : 0 ≤ kind ∧ kind ≤ 2) (hd : data.length ≤ 4194304) (hc : kind = 2 → MemOk (wr data)) (hl : s.f0.f5.f1.length + 1 ≤ 4194304) : Good s (addF s kind data) 0 := by
  obtain ⟨a1, a2, a3⟩ := add_inv h hr hk hd hc hl
  have hcom := h.com
  refine ⟨a1, ?_, ?_, by rw [a2]; omega⟩
  · unfold addF
    split
    · exact ho
    · exact ho
  · unfold addF
    split
    · exact Kept.refl _
    · exact ⟨rfl, Int.le_refl _, fun _ _ => rfl, Int.le_refl _, Int.le_refl _, fun i h1 h2 _ => termAt_add h1 (by omega)⟩
theorem kept_free {n n' : S31} (h0 : n'.f0 = n.f0) (h1 : n'.f1 = n.f1) (h2 : n'.f2 = n.f2) (h5 : n'.f5 = n.f5) (h6 : n'.f6 = n.f6) : Kept n n' :=
  ⟨h0, by omega, fun _ _ => h2, by omega, by rw [h5]; exact Int.le_refl _, fun i _ _ _ => by rw [h5]⟩
theorem good_leads {s : S85} (h : Inv s.f0) (ho : OutOk s) (hr : s.f0.f1 > 0) (hl : s.f0.f5.f1.length + 1 ≤ 4194304) : Good s (leadsF s) 7 := by
  have g1 : Good s { s with f0 := leadN s.f0 } 0 := ⟨lead_inv h hr, ho, kept_free rfl rfl rfl rfl rfl, Nat.le_refl _⟩
  have g2 := good_add (s := { s with f0 := leadN s.f0 }) g1.inv g1.out hr (kind := 0) (data := []) (by omega) (by simp) (by omega) hl
  have g3 := good_counts g2.inv g2.out
  have g4 := good_brings g3.inv g3.out (mem_len (membersOf_ok g2.inv.log))
  exact (g1.trans (g2.trans (g3.trans g4))).mono (by omega)
theorem good_stands {s : S85} (h : Inv s.f0) (ho : s.f1 = []) (hm : s.f0.f1 < MAXN) (hl : s.f0.f5.f1.length + 1 ≤ 4194304) {t : Int} (ht : 10 ≤ t ∧ t < 20) : Good s (standsF s t) 7 := by
  have hs := stand_inv h hm ht
  have h0 : 0 ≤ s.f0.f1 := by have := termAt_pos h.light h.log base_le (Int.le_refl (lastOf s.f0.f5)); have := h.term; omega
  have g1 : Good s { s with f0 := standN s.f0 t } 0 := by
    refine ⟨hs, ?_, ⟨rfl, by show s.f0.f1 ≤ s.f0.f1 + 1; omega, fun e _ => ?_, Int.le_refl _, Int.le_refl _, fun _ _ _ _ => rfl⟩, Nat.le_refl _⟩
    · intro m hm; change m ∈ s.f1 at hm; rw [ho] at hm; cases hm
    · exfalso; change s.f0.f1 + 1 = s.f0.f1 at e; omega
  unfold standsF
  simp only
  split
  · exact (g1.trans (good_leads (s := { s with f0 := standN s.f0 t }) g1.inv g1.out (by show s.f0.f1 + 1 > 0; omega) hl)).mono (by omega)
  · exact (g1.trans (good_asks g1.inv g1.out _ _ (mem_len (membersOf_ok h.log)))).mono (by omega)
theorem good_tick {s : S85} (h : Inv s.f0) (ho : s.f1 = []) (hl : s.f0.f5.f1.length + 1 ≤ 4194304) (draw : Int) : Good s (tickF s draw) 7 := by
  obtain ⟨t1, t2⟩ := toOf_eq draw
  have htk : 0 ≤ tickOf s.f0 ∧ tickOf s.f0 ≤ MAXN := by have := h.tick; unfold tickOf; unfold MAXN; split <;> omega
  have ho' : OutOk s := fun m hm => by rw [ho] at hm; cases hm
  have gt : ∀ v, 0 ≤ v ∧ v ≤ MAXN → Good s { s with f0 := { s.f0 with f10 := v } } 0 := fun v hv => ⟨tick_inv h hv, ho', kept_free rfl rfl rfl rfl rfl, Nat.le_refl _⟩
  unfold tickF
  simp only
  split
  · split
    · have g := gt 0 (by unfold MAXN; omega)
      exact (g.trans (good_brings g.inv g.out (mem_len (membersOf_ok h.log)))).mono (by omega)
    · exact (gt _ htk).mono (by omega)
  · split
    · rename_i hc
      have g := gt _ htk
      exact (g.trans (good_stands (s := { s with f0 := { s.f0 with f10 := tickOf s.f0 } }) g.inv ho hc.2.2 hl t2)).mono (by omega)
    · exact (gt _ htk).mono (by omega)
end Go.Proofs.Ythpdomeciaafjaa
