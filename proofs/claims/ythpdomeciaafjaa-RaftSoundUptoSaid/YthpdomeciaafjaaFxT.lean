/- Base for printed walks, part T: walks told in long steps. Own work. -/
import Derived.Test.YthpdomeciaafjaaFxS
namespace Go.Fx

def putL (E : Env) : List (Nat × Value) → Env
  | [] => E
  | (t, v) :: l => (putL E l).put t v
def chH (H : List Res) : List (Nat × Res) → List Res
  | [] => H
  | (j, r) :: l => (chH H l).set j r
def dVs (V : List Nat) : List Nat → List Nat
  | [] => V
  | j :: l => dVs (dV V j) l
def tch : List Hi → List Nat
  | [] => []
  | .s j :: hs => j :: tch hs
  | _ :: hs => tch hs
def firsts (ops : Array Oper) : Nat → PT → List Nat
  | k + 1, .it n t => match (opAt ops (n / 4)).dst with
    | some d => d :: firsts ops k t
    | none => firsts ops k t
  | _, _ => []
def wrOk (ops : Array Oper) (E : Env) (l : List (Nat × Value)) (k : Nat) (t : PT) : Bool := (firsts ops k t).all fun d => l.any (fun p => Nat.beq p.1 d) || (E d).isNone
def segV (r : Option (Sy × List (Value × Value))) (l : List (Nat × Value)) : Option (List (Option Value) × List Res × List Nat × List Value) := r.map fun x => (l.map (fun p => x.1.E p.1), x.1.H, x.1.V, x.2.map (·.1))
def segW (r : Option (Sy × List (Value × Value))) (l : List (Nat × Value)) (H : List Res) (V : List Nat) : Option (List (Option Value) × List Res × List Nat × List Value) :=
  some (l.map (fun p => some p.2), H, V, match r with | some x => x.2.map (·.2) | none => [])

section
variable {P : Program} {C : Ctx} {E : Env} {M M1 : Mem} {H : List Res} {a : Act} {w : World}
variable {ops : Array Oper} {Q : Post} {FI : List (Nat × Nat)} {V : List Nat} {t : PT}

theorem bif_some {α : Type} {b : Bool} {x : Option α} {r : α} (h : (bif b then x else none) = some r) : b = true ∧ x = some r := by
  cases b with
  | true => exact ⟨rfl, h⟩
  | false => cases h
theorem putO_ne {d : Option Nat} {v : Value} {x : Nat} (h : d ≠ some x) : putO E d v x = E x := by
  cases d with
  | none => rfl
  | some d =>
    have : Nat.beq x d = false := by
      cases hb : Nat.beq x d with
      | true => exact absurd (by rw [Nat.eq_of_beq_eq_true hb]) h
      | false => rfl
    simp [putO, Env.put, this]
theorem firsts_it {k n : Nat} {t : PT} {x : Nat} (h : x ∉ firsts ops (k + 1) (.it n t)) : (opAt ops (n / 4)).dst ≠ some x ∧ x ∉ firsts ops k t := by
  simp only [firsts] at h
  split at h
  · rename_i d hd
    rw [hd]
    simp only [List.mem_cons, not_or] at h
    exact ⟨fun e => h.1 (Option.some.inj e).symm, h.2⟩
  · rename_i hd; rw [hd]; exact ⟨fun e => (by cases e), h⟩
theorem firsts_add {x : Nat} : ∀ (k m : Nat) (t : PT), x ∉ firsts ops (k + m) t → x ∉ firsts ops k t ∧ x ∉ firsts ops m (t.drop k)
  | 0, m, t, h => by
    rw [Nat.zero_add] at h
    exact ⟨by simp [firsts], by simpa [PT.drop] using h⟩
  | k + 1, m, .it n t, h => by
    rw [show k + 1 + m = (k + m) + 1 by omega] at h
    obtain ⟨h1, h2⟩ := firsts_it h
    obtain ⟨h3, h4⟩ := firsts_add k m t h2
    refine ⟨?_, h4⟩
    simp only [firsts]
    split
    · rename_i d hd
      simp only [List.mem_cons, not_or]
      exact ⟨fun e => h1 (by rw [hd, e]), h3⟩
    · exact h3
  | k + 1, m, .dn, h => ⟨by simp [firsts], by cases m <;> simp [PT.drop, firsts]⟩
  | k + 1, m, .two .., h => ⟨by simp [firsts], by cases m <;> simp [PT.drop, firsts]⟩
theorem exPs_un {N : Nat} : ∀ {k : Nat} {t : PT} {S S' : Sy}, exPs P ops N FI k t S = some S' → ∀ x, x ∉ firsts ops k t → S'.E x = S.E x
  | 0, t, S, S', h, x, _ => by
    simp only [exPs, Option.some.injEq] at h
    rw [h]
  | k + 1, .it n t, S, S', h, x, hx => by
    simp only [exPs] at h
    obtain ⟨h1, h2⟩ := firsts_it hx
    split at h
    · rename_i S1 hS1
      rw [exPs_un h x h2]
      unfold exP at hS1
      replace hS1 := (bif_some hS1).2
      split at hS1
      · rename_i v hv
        unfold putS at hS1
        cases hd : dstLt (opAt ops (n / 4)).dst N with
        | false => rw [hd] at hS1; cases hS1
        | true =>
          rw [hd] at hS1
          simp only [cond_true, Option.some.injEq] at hS1
          subst hS1
          exact putO_ne h1
      · cases hS1
    · cases h
  | k + 1, .dn, S, S', h, _, _ => by simp [exPs] at h
  | k + 1, .two .., S, S', h, _, _ => by simp [exPs] at h
theorem exL_un {N n j : Nat} {S S' : Sy} {es : List (Value × Value)} (h : exL P ops N FI n j S = some (S', es)) (x : Nat) (hx : (opAt ops (n / 4)).dst ≠ some x) : S'.E x = S.E x := by
  unfold exL at h
  replace h := (bif_some h).2
  split at h
  · split at h
    · simp only [Option.some.injEq, Prod.mk.injEq] at h
      obtain ⟨rfl, rfl⟩ := h
      exact putO_ne hx
    · cases h
  · cases h
theorem exS_un {N n j : Nat} {S S' : Sy} {es : List (Value × Value)} (h : exS P ops N FI n j S = some (S', es)) (x : Nat) (hx : (opAt ops (n / 4)).dst ≠ some x) : S'.E x = S.E x := by
  unfold exS at h
  replace h := (bif_some h).2
  split at h
  · split at h
    · simp only [Option.some.injEq, Prod.mk.injEq] at h
      obtain ⟨rfl, rfl⟩ := h
      exact putO_ne hx
    · cases h
  · cases h
theorem exB_un {N n : Nat} {S S' : Sy} (h : exB P ops N n S = some S') (x : Nat) (hx : (opAt ops (n / 4)).dst ≠ some x) : S'.E x = S.E x := by
  unfold exB at h
  replace h := (bif_some h).2
  split at h
  · simp only [Option.some.injEq] at h
    subst h
    exact putO_ne hx
  · cases h
theorem exE_un {N n D : Nat} {y : Int} {S S' : Sy} {es : List (Value × Value)} (h : exE P ops N n D y S = some (S', es)) (x : Nat) (hx : (opAt ops (n / 4)).dst ≠ some x) : S'.E x = S.E x := by
  unfold exE at h
  replace h := (bif_some h).2
  split at h
  · rename_i T v h1 h2
    cases hT : isIfaceT P T with
    | false => rw [hT] at h; cases h
    | true =>
      rw [hT] at h
      simp only [cond_true, Option.some.injEq, Prod.mk.injEq] at h
      obtain ⟨rfl, rfl⟩ := h
      exact putO_ne hx
  · rename_i T v h1 h2
    cases hT : isIfaceT P T with
    | false => rw [hT] at h; cases h
    | true =>
      rw [hT] at h
      simp only [cond_true, Option.some.injEq, Prod.mk.injEq] at h
      obtain ⟨rfl, rfl⟩ := h
      exact putO_ne hx
  · cases h
theorem exec_un {N : Nat} : ∀ {hs : List Hi} {t : PT} {S S' : Sy} {es : List (Value × Value)}, exec P ops N FI hs t S = some (S', es) → ∀ x, x ∉ firsts ops (cnt hs) t → S'.E x = S.E x
  | [], t, S, S', es, h, x, _ => by
    simp only [exec, Option.some.injEq, Prod.mk.injEq] at h
    rw [h.1]
  | .p k :: hs, t, S, S', es, h, x, hx => by
    unfold exec at h
    obtain ⟨h1, h2⟩ := firsts_add k (cnt hs) t hx
    split at h
    · rename_i S1 hS1
      rw [exec_un h x h2, exPs_un hS1 x h1]
    · cases h
  | .l j :: hs, .it n t, S, S', es, h, x, hx => by
    unfold exec at h
    simp only [cnt] at hx
    rw [Nat.add_comm] at hx
    obtain ⟨h1, h2⟩ := firsts_it hx
    split at h
    · rename_i S1 es1 hS1
      obtain ⟨r, hr, he'⟩ := Option.map_eq_some_iff.1 h
      simp only [Prod.mk.injEq] at he'
      obtain ⟨rfl, rfl⟩ := he'
      rw [exec_un hr x h2, exL_un hS1 x h1]
    · cases h
  | .s j :: hs, .it n t, S, S', es, h, x, hx => by
    unfold exec at h
    simp only [cnt] at hx
    rw [Nat.add_comm] at hx
    obtain ⟨h1, h2⟩ := firsts_it hx
    split at h
    · rename_i S1 es1 hS1
      obtain ⟨r, hr, he'⟩ := Option.map_eq_some_iff.1 h
      simp only [Prod.mk.injEq] at he'
      obtain ⟨rfl, rfl⟩ := he'
      rw [exec_un hr x h2, exS_un hS1 x h1]
    · cases h
  | .b :: hs, .it n t, S, S', es, h, x, hx => by
    unfold exec at h
    simp only [cnt] at hx
    rw [Nat.add_comm] at hx
    obtain ⟨h1, h2⟩ := firsts_it hx
    split at h
    · rename_i S1 hS1
      rw [exec_un h x h2, exB_un hS1 x h1]
    · cases h
  | .e D y :: hs, .it n t, S, S', es, h, x, hx => by
    unfold exec at h
    simp only [cnt] at hx
    rw [Nat.add_comm] at hx
    obtain ⟨h1, h2⟩ := firsts_it hx
    split at h
    · rename_i S1 es1 hS1
      obtain ⟨r, hr, he'⟩ := Option.map_eq_some_iff.1 h
      simp only [Prod.mk.injEq] at he'
      obtain ⟨rfl, rfl⟩ := he'
      rw [exec_un hr x h2, exE_un hS1 x h1]
    · cases h
  | .l _ :: _, .dn, _, _, _, h, _, _ => by simp [exec] at h
  | .l _ :: _, .two .., _, _, _, h, _, _ => by simp [exec] at h
  | .s _ :: _, .dn, _, _, _, h, _, _ => by simp [exec] at h
  | .s _ :: _, .two .., _, _, _, h, _, _ => by simp [exec] at h
  | .b :: _, .dn, _, _, _, h, _, _ => by simp [exec] at h
  | .b :: _, .two .., _, _, _, h, _, _ => by simp [exec] at h
  | .e _ _ :: _, .dn, _, _, _, h, _, _ => by simp [exec] at h
  | .e _ _ :: _, .two .., _, _, _, h, _, _ => by simp [exec] at h
theorem putL_spec : ∀ (l : List (Nat × Value)) {x : Nat} {v : Value}, putL E l x = some v → (∃ p ∈ l, p.1 = x ∧ p.2 = v) ∨ ((l.any fun p => Nat.beq p.1 x) = false ∧ E x = some v)
  | [], x, v, h => .inr ⟨rfl, h⟩
  | (s, u) :: l, x, v, h => by
    simp only [putL, Env.put] at h
    cases hb : Nat.beq x s with
    | true =>
      rw [hb] at h
      simp only [cond_true, Option.some.injEq] at h
      exact .inl ⟨(s, u), List.mem_cons_self .., (Nat.eq_of_beq_eq_true hb).symm, h⟩
    | false =>
      rw [hb] at h
      rcases putL_spec l h with ⟨p, hp, h1⟩ | ⟨h1, h2⟩
      · exact .inl ⟨p, List.mem_cons_of_mem _ hp, h1⟩
      · refine .inr ⟨?_, h2⟩
        have : Nat.beq s x = false := by
          cases hb2 : Nat.beq s x with
          | true => have := Nat.eq_of_beq_eq_true hb2; subst this; simp at hb
          | false => rfl
        simp only [List.any_cons, this, h1, Bool.or_false]
theorem map_mem {l : List (Nat × Value)} {F : Env} (h : l.map (fun p => F p.1) = l.map (fun p => some p.2)) {p : Nat × Value} (hp : p ∈ l) : F p.1 = some p.2 :=
  (List.map_inj_left.1 h) p hp
theorem putL_ok {N : Nat} {l : List (Nat × Value)} {F : Env} {k : Nat} (h1 : l.map (fun p => F p.1) = l.map (fun p => some p.2)) (h2 : ∀ x, x ∉ firsts ops k t → F x = E x) (h3 : wrOk ops E l k t = true) {a : Act} (ha : EnvOk N F a) : EnvOk N (putL E l) a := by
  have key : ∀ x v, putL E l x = some v → F x = some v := by
    intro x v h
    rcases putL_spec l h with ⟨p, hp, rfl, rfl⟩ | ⟨h4, h5⟩
    · exact map_mem h1 hp
    · rw [h2 x fun hx => ?_, h5]
      have := List.all_eq_true.1 h3 x hx
      rw [Bool.or_eq_true, h4, h5] at this
      simp at this
  exact ⟨ha.size, ha.defers, fun x v h => ha.at_ x v (key x v h), fun x v h => ha.lt x v (key x v h)⟩
theorem ig_env {E' : Env} (h : ∀ a, EnvOk C.N E a → EnvOk C.N E' a) (k : IG P ops Q C E' M H FI V M1 t) : IG P ops Q C E M H FI V M1 t :=
  fun w1 bl a w hs hd => k w1 bl a w ⟨h a hs.env, hs.wf, hs.ext⟩ hd
/-- A stretch of operations. -/
theorem seg (hs : List Hi) (l : List (Nat × Value)) (ch : List (Nat × Res)) (k : IG P ops Q C (putL E l) M (chH H ch) FI (dVs V (tch hs)) M1 (t.drop (cnt hs)))
    (h1 : segV (exec P ops C.N FI hs t ⟨E, H, V⟩) l = segW (exec P ops C.N FI hs t ⟨E, H, V⟩) l (chH H ch) (dVs V (tch hs)) := by kernel_rfl) (h2 : wrOk ops E l (cnt hs) t = true := by kernel_rfl) : IG P ops Q C E M H FI V M1 t := by
  cases hx : exec P ops C.N FI hs t ⟨E, H, V⟩ with
  | none => rw [hx] at h1; simp [segV, segW] at h1
  | some r =>
    obtain ⟨S', es⟩ := r
    rw [hx] at h1
    simp only [segV, segW, Option.map_some, Option.some.injEq, Prod.mk.injEq] at h1
    obtain ⟨h3, h4, h5, h6⟩ := h1
    refine exec_sound (S := ⟨E, H, V⟩) hx (fun x hx => List.map_inj_left.1 h6 x hx) ?_
    rw [h4, h5]
    exact ig_env (fun a ha => putL_ok h3 (exec_un hx) h2 ha) k

theorem dVs_nil : ∀ l : List Nat, dVs [] l = []
  | [] => rfl
  | _ :: l => dVs_nil l
/-! ### Regions: in, and out -/
theorem at_regS' {c : Code} {p : Path} (F : Fs) (pl : Plan) (hk : (regOps c p).isSome = true) (ho : pl.okS (opsAt c p) 0 = true) (h : pl.wp P (opsAt c p) (kont P c p Q) w F a w) : At P c p Q a w := by
  unfold regOps at hk
  split at hk
  · rename_i id ops hs
    have e : opsAt c p = ops := by unfold opsAt; rw [hs]
    rw [e] at ho h
    unfold At
    rw [hs]
    refine wp_region ?_
    have := Plan.soundS pl 0 a w ho h
    rw [List.range_eq_range']
    simpa using this
  · cases hk
theorem dr_init {bl : Nat → Nat} {M : Mem} (hV : ∀ j ∈ V, footOf H (j / 2) = some (bl (j / 2))) : Dr V bl w M M H w := ⟨Rd.init, fun j hj => ⟨hV j hj, fun _ => rfl⟩⟩
theorem rg {c : Code} {q : Path} (q' : Path) (k : IG P (opsAt c q') (kont P c q' Q) C E M H [] [] M (seqT 0 (opsAt c q').size)) (h : (goes c 60 q q' && (regOps c q').isSome) = true := by kernel_rfl) : AG P c q Q C E M H := by
  rw [Bool.and_eq_true] at h
  intro a w hs
  refine at_goes 60 h.1 (at_regS' (Fo [] (fun _ => 0) M) _ h.2 (okS_seqT _ 0 (by omega)) (k w (fun _ => 0) a w hs (dr_init fun j hj => (by cases hj))))
theorem rgD {c : Code} {q : Path} (q' : Path) (t : PT) (FI : List (Nat × Nat)) (V : List Nat) (hm : P.follows .mixedOrders = true) (hQ : Plain Q) (k : IG P (opsAt c q') (kont P c q' Q) C E M H FI V M t)
    (h : (goes c 60 q q' && (regDraw c q').isSome && (Region.noSelect (opsAt c q') && (t.pl FI (fun _ => 0)).okD (opsAt c q') (opsAt c q').size (Array.replicate (opsAt c q').size false)) && V.all fun j => (footOf H (j / 2)).isSome) = true := by kernel_rfl) : AG P c q Q C E M H := by
  rw [Bool.and_eq_true, Bool.and_eq_true, Bool.and_eq_true] at h
  intro a w hs
  obtain ⟨⟨⟨h1, h2⟩, h3⟩, h4⟩ := h
  refine at_goes 60 h1 (at_regD (t.pl FI fun j => (footOf H j).getD 0) (Fo FI (fun j => (footOf H j).getD 0) M) hm hQ h2 (by rw [okD_bl t (b2 := fun _ => 0)]; exact h3) ?_)
  refine k _ _ a _ (hs.drawn _) (dr_init fun j hj => ?_)
  have := List.all_eq_true.1 h4 j hj
  obtain ⟨x, hx⟩ := Option.isSome_iff_exists.1 this
  rw [hx]; rfl
def nx (c : Code) (q : Path) : Path := (nextN c q).getD []
theorem fin {c : Code} {q : Path} (k : AG P c (nx c q) Q C E M H) (h : (t.isDn && (subc c q).isSome && (nextN c q).isSome) = true := by kernel_rfl) : IG P (opsAt c q) (kont P c q Q) C E M H FI V M1 t := by
  rw [Bool.and_eq_true, Bool.and_eq_true] at h
  intro w1 bl a w hs hd
  cases t with
  | dn =>
    show kont P c q Q .normal a w
    obtain ⟨p, hp⟩ := Option.isSome_iff_exists.1 h.2
    refine kn_next p h.1.2 hp ?_
    have := k a w hs
    unfold nx at this
    rw [hp] at this
    exact this
  | _ => simp [PT.isDn] at h
theorem finE {c : Code} {q : Path} (k : KG (Q .normal) C E M H) (h : (t.isDn && (subc c q).isSome && (nextN c q).isNone) = true := by kernel_rfl) : IG P (opsAt c q) (kont P c q Q) C E M H FI V M1 t := by
  rw [Bool.and_eq_true, Bool.and_eq_true] at h
  intro w1 bl a w hs hd
  cases t with
  | dn => exact kn_end h.1.2 (by simpa using h.2) (k a w hs)
  | _ => simp [PT.isDn] at h
/-- A whole region. -/
theorem rs {c : Code} {q : Path} (q' : Path) (hs : List Hi) (l : List (Nat × Value)) (ch : List (Nat × Res)) (k : AG P c (nx c q') Q C (putL E l) M (chH H ch))
    (h : (goes c 60 q q' && (regOps c q').isSome && (((seqT 0 (opsAt c q').size).drop (cnt hs)).isDn && (subc c q').isSome && (nextN c q').isSome) && wrOk (opsAt c q') E l (cnt hs) (seqT 0 (opsAt c q').size)) = true := by kernel_rfl)
    (h1 : segV (exec P (opsAt c q') C.N [] hs (seqT 0 (opsAt c q').size) ⟨E, H, []⟩) l = segW (exec P (opsAt c q') C.N [] hs (seqT 0 (opsAt c q').size) ⟨E, H, []⟩) l (chH H ch) [] := by kernel_rfl) : AG P c q Q C E M H := by
  rw [Bool.and_eq_true, Bool.and_eq_true] at h
  obtain ⟨⟨h2, h3⟩, h4⟩ := h
  exact rg q' (seg hs l ch (fin k h3) (by rw [dVs_nil]; exact h1) h4) h2

/-! ### Ways -/
theorem gi {c : Code} {q : Path} {α : Type} {e : Bool} {x y : Option α} {r : α} (q' : Path) (hm : (if e = true then x else y) = some r) (k1 : x = some r → AG P c (q' ++ [0]) Q C E M H) (k2 : y = some r → AG P c (q' ++ [1]) Q C E M H)
    (h : goes c 60 q q' = true := by kernel_rfl) (h1 : (match condT c q' with | some t => E t | none => none) = some (.bool e) := by kernel_rfl) : AG P c q Q C E M H := by
  intro a w hs
  refine at_goes 60 h ?_
  cases hc : condT c q' with
  | none => rw [hc] at h1; cases h1
  | some t =>
    rw [hc] at h1
    rcases ite_some hm with ⟨hb, hm⟩ | ⟨hb, hm⟩
    · exact st_cond (b := true) (q' ++ [0]) hs hc h1 hb rfl (k1 hm a w hs)
    · exact st_cond (b := false) (q' ++ [1]) hs hc h1 hb rfl (k2 hm a w hs)
theorem gib {c : Code} {q : Path} (q' : Path) (b : Bool) (k : AG P c (q' ++ [bif b then 0 else 1]) Q C E M H)
    (h : goes c 60 q q' = true := by kernel_rfl) (h1 : (match condT c q' with | some t => E t | none => none) = some (.bool b) := by kernel_rfl) : AG P c q Q C E M H := by
  intro a w hs
  refine at_goes 60 h ?_
  cases hc : condT c q' with
  | none => rw [hc] at h1; cases h1
  | some t =>
    rw [hc] at h1
    exact st_cond (b := b) _ hs hc h1 rfl rfl (k a w hs)
theorem gs (t' : Nat) {α : Type} {e : Bool} {x y : Option α} {r : α} (hm : (if e = true then x else y) = some r) (k1 : x = some r → IG P ops Q C (E.put t' (.bool true)) M H FI V M1 t) (k2 : y = some r → IG P ops Q C (E.put t' (.bool false)) M H FI V M1 t)
    (h : E t' = some (.bool e) := by kernel_rfl) : IG P ops Q C E M H FI V M1 t := by
  intro w1 bl a w hs hd
  rcases ite_some hm with ⟨hb, hm⟩ | ⟨hb, hm⟩
  · exact k1 hm w1 bl a w (hs.setb h hb) hd
  · exact k2 hm w1 bl a w (hs.setb h hb) hd
theorem gl {c : Code} {q : Path} (q' : Path) (hQ : Plain Q) (k : AG P c (q' ++ [0]) Q C E M H) (h : (goes c 60 q q' && isLoop c q') = true := by kernel_rfl) : AG P c q Q C E M H := by
  rw [Bool.and_eq_true] at h
  intro a w hs
  exact at_goes 60 h.1 (at_loop _ hQ h.2 rfl (k a w hs))
def rst (n : Nat) (l : List Nat) : List Nat := l ++ (List.range n).filter fun i => !l.contains i
/-- To where ways meet. -/
theorem to {c : Code} {q q' : Path} {el : List (Nat × Value)} {H' : List Res} (l : List Nat) (k : AG P c q' Q C (env el) M H') (h : (goes c 60 q q' && (rst H.length l).isPerm (List.range H.length)) = true := by kernel_rfl)
    (hH : (Go.Fx.sel H (rst H.length l)).take l.length = H' := by kernel_rfl) (hl : el.map (fun p => E p.1) = el.map (fun p => some p.2) := by kernel_rfl) : AG P c q Q C E M H := by
  rw [Bool.and_eq_true] at h
  intro a w hs
  refine at_goes 60 h.1 (k a w ?_)
  exact ((hs.pickn (rst H.length l) l.length h.2).fit hH).weaken (allIn_of hl)
def retTo (c : Code) : Nat → Path → Option Path
  | 0, _ => none
  | n + 1, p => bif isRet c p then some p else match goStep c p with | some p' => retTo c n p' | none => none
theorem retTo_goes {c : Code} : ∀ (n : Nat) {p q : Path}, retTo c n p = some q → isRet c q = true ∧ (At P c q Q a w → At P c p Q a w)
  | 0, _, _, h => by simp [retTo] at h
  | n + 1, p, q, h => by
    simp only [retTo] at h
    cases hr : isRet c p with
    | true =>
      rw [hr] at h
      simp only [cond_true, Option.some.injEq] at h
      subst h
      exact ⟨hr, id⟩
    | false =>
      rw [hr] at h
      simp only [cond_false] at h
      cases hg : goStep c p with
      | none => rw [hg] at h; cases h
      | some p' =>
        rw [hg] at h
        obtain ⟨h1, h2⟩ := retTo_goes n h
        refine ⟨h1, fun x => ?_⟩
        refine at_goes (n := 2) (q := p') ?_ (h2 x)
        simp [goes, hg]
theorem rt {c : Code} {q : Path} {fn : Func} {R : Value → Mem → List Res → Prop} {v : Value} {H' : List Res} (l : List Nat) (hR : R v M H') (h : ((retTo c 60 q).isSome && (rst H.length l).isPerm (List.range H.length)) = true := by kernel_rfl)
    (hH : (Go.Fx.sel H (rst H.length l)).take l.length = H' := by kernel_rfl) (hv : resE fn E = some v := by kernel_rfl) : AG P c q (Done P fn C R) C E M H := by
  rw [Bool.and_eq_true] at h
  intro a w hs
  obtain ⟨p, hp⟩ := Option.isSome_iff_exists.1 h.1
  obtain ⟨h1, h2⟩ := retTo_goes (P := P) (Q := Done P fn C R) (a := a) (w := w) 60 hp
  exact h2 (at_ret h1 (st_ret ((hs.pickn _ l.length h.2).fit hH) hv hR))
/-- The same, of a function that leaves all memory as it was. -/
theorem rtp {c : Code} {q : Path} {fn : Func} {R : Value → Mem → List Res → Prop} {v : Value} {H' : List Res} (l : List Nat) (hR : R v C.M0 H') (h : ((retTo c 60 q).isSome && (rst H.length l).isPerm (List.range H.length)) = true := by kernel_rfl)
    (hH : (Go.Fx.sel H (rst H.length l)).take l.length = H' := by kernel_rfl) (hv : resE fn E = some v := by kernel_rfl) : AG P c q (Done P fn C R) C E M H := by
  rw [Bool.and_eq_true] at h
  intro a w hs
  obtain ⟨p, hp⟩ := Option.isSome_iff_exists.1 h.1
  obtain ⟨h1, h2⟩ := retTo_goes (P := P) (Q := Done P fn C R) (a := a) (w := w) 60 hp
  exact h2 (at_ret h1 (st_ret ((hs.pickn _ l.length h.2).fit hH).less hv hR))
/-- A function's end without a return. -/
theorem re {fn : Func} {R : Value → Mem → List Res → Prop} {v : Value} {H' : List Res} (l : List Nat) (hR : R v M H') (h : (rst H.length l).isPerm (List.range H.length) = true := by kernel_rfl)
    (hH : (Go.Fx.sel H (rst H.length l)).take l.length = H' := by kernel_rfl) (hv : resE fn E = some v := by kernel_rfl) : KG (Done P fn C R .normal) C E M H :=
  fun _ _ hs => st_end ((hs.pickn _ l.length h).fit hH) hv hR
theorem rep {fn : Func} {R : Value → Mem → List Res → Prop} {v : Value} {H' : List Res} (l : List Nat) (hR : R v C.M0 H') (h : (rst H.length l).isPerm (List.range H.length) = true := by kernel_rfl)
    (hH : (Go.Fx.sel H (rst H.length l)).take l.length = H' := by kernel_rfl) (hv : resE fn E = some v := by kernel_rfl) : KG (Done P fn C R .normal) C E M H :=
  fun _ _ hs => st_end ((hs.pickn _ l.length h).fit hH).less hv hR
/-- Results that stand in cells. -/
theorem rtc {c : Code} {q : Path} {fn : Func} {R : Value → Mem → List Res → Prop} {v : Value} {H' : List Res} {vs : List Value} (l : List Nat) (rs : List ResultVar) (hv : ResR P E H rs vs) (hR : R v M H') (h2 : fn.results = rs.toArray) (h3 : packR vs = v) (h : ((retTo c 60 q).isSome && (rst H.length l).isPerm (List.range H.length)) = true := by kernel_rfl)
    (hH : (Go.Fx.sel H (rst H.length l)).take l.length = H' := by kernel_rfl) : AG P c q (Done P fn C R) C E M H := by
  rw [Bool.and_eq_true] at h
  intro a w hs
  obtain ⟨p, hp⟩ := Option.isSome_iff_exists.1 h.1
  obtain ⟨h1, h4⟩ := retTo_goes (P := P) (Q := Done P fn C R) (a := a) (w := w) 60 hp
  have hk := (hs.pickn _ l.length h.2).fit hH
  exact h4 (at_ret h1 ⟨hs.env.defers, v, h3 ▸ resultsR hs.env hs.wf h2 hv, v, M, H', rfl, hR, hk.wf, hk.ext⟩)
theorem rtcp {c : Code} {q : Path} {fn : Func} {R : Value → Mem → List Res → Prop} {v : Value} {H' : List Res} {vs : List Value} (l : List Nat) (rs : List ResultVar) (hv : ResR P E H rs vs) (hR : R v C.M0 H') (h2 : fn.results = rs.toArray) (h3 : packR vs = v) (h : ((retTo c 60 q).isSome && (rst H.length l).isPerm (List.range H.length)) = true := by kernel_rfl)
    (hH : (Go.Fx.sel H (rst H.length l)).take l.length = H' := by kernel_rfl) : AG P c q (Done P fn C R) C E M H := by
  rw [Bool.and_eq_true] at h
  intro a w hs
  obtain ⟨p, hp⟩ := Option.isSome_iff_exists.1 h.1
  obtain ⟨h1, h4⟩ := retTo_goes (P := P) (Q := Done P fn C R) (a := a) (w := w) 60 hp
  have hk := ((hs.pickn _ l.length h.2).fit hH).less
  exact h4 (at_ret h1 ⟨hs.env.defers, v, h3 ▸ resultsR hs.env hs.wf h2 hv, v, C.M0, H', rfl, hR, hk.wf, hk.ext⟩)
/-- From where a way ends without a return (skips, blocks' ends) to the function's end. -/
def endTo (c : Code) : Nat → Path → Bool
  | 0, _ => false
  | n + 1, p => (isSkip c p && (nextN c p).isNone) || (match exitT c p with | some id => (match exitN id c p with | .done => true | _ => false) | none => false) || match goStep c p with | some p' => endTo c n p' | none => false
theorem endTo_at {c : Code} : ∀ (n : Nat) {p : Path}, endTo c n p = true → Q .normal a w → At P c p Q a w
  | 0, _, h, _ => by simp [endTo] at h
  | n + 1, p, h, g => by
    simp only [endTo, Bool.or_eq_true, Bool.and_eq_true] at h
    rcases h with (h | h) | h
    · exact at_skip_end h.1 (by simpa using h.2) g
    · cases he : exitT c p with
      | none => rw [he] at h; cases h
      | some id => rw [he] at h; exact at_exit_end he h g
    · cases hg : goStep c p with
      | none => rw [hg] at h; cases h
      | some p' =>
        rw [hg] at h
        refine at_goes (n := 2) (q := p') ?_ (endTo_at n h g)
        simp [goes, hg]
theorem en {c : Code} {q : Path} (k : KG (Q .normal) C E M H) (h : endTo c 60 q = true := by kernel_rfl) : AG P c q Q C E M H := fun a w hs => endTo_at 60 h (k a w hs)
theorem intro_ {f : FuncId} {fn : Func} {c : Code} {args : List Value} {M : Mem} {H : List Res} {R : Value → Mem → List Res → Prop} (N : Nat) (hf : P.funcs[f]? = some fn) (h : ∀ w, AG P c [] (Done P fn ⟨N, w, M, H⟩ R) ⟨N, w, M, H⟩ (envFrom 0 args) M H)
    (hb : fn.body = some c := by kernel_rfl) (hN : fn.ntmps = N := by kernel_rfl) (hl : Nat.ble args.length N = true := by kernel_rfl) : FnOk P f args M H R :=
  x_intro N hf hb hN hl fun w a hs => h w a w hs
end
end Go.Fx
